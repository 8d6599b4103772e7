/- The plain law of TagTells: of every text and place the tag that is read, what it is expanded to, whether a text is a tag and how it is written: the program and the reference tell the same; so the law answers true. -/
import Derived.Test.YtmceepmchfjinaaTagSame
import Derived.Test.YtmceepmchfjinaaPureDefTagTells
namespace Go.Proofs.Ytmceepmchfjinaa.Q
open Go.RowKit Go.Proofs.YtmceepmchfjinaaW.PrintWords Go.Proofs.YtmceepmchfjinaaW.PrintLast Go.Proofs.YtmceepmchfjinaaW.PrintMore
set_option linter.unusedVariables false
set_option linter.unusedSimpArgs false

theorem specR_size (s : ByteArray) (i : Int) (hs : s.size ≤ 1000000) (r : Bool × ByteArray × ByteArray × Int × Bool) (h : tagname_Read.f s i = some r) : r.2.2.1.size ≤ 1000000 := by
  by_cases hc : 0 ≤ i ∧ i < (s.size : Int) ∧ bt s i = 33
  · obtain ⟨h0, h1, h2⟩ := hc
    obtain ⟨n, rfl⟩ : ∃ n : Nat, i = n := ⟨i.toNat, by omega⟩
    have hlt : n < s.size := by omega
    have h33 : s[n] = 33 := by
      rw [bt_nat s n hlt] at h2
      exact (byte_eq _ 33).1 h2
    rw [read_at s n hs hlt h33] at h
    obtain rfl := Option.some.inj h
    unfold specR
    split
    · split
      · split
        · decide
        · show (s.extract _ _).size ≤ _
          simp
          omega
      · decide
    · split
      · decide
      · show (s.extract _ _).size ≤ _
        simp
        omega
  · rw [read_not s i hs hc] at h
    obtain rfl := Option.some.inj h
    decide

theorem tells_run (s : ByteArray) (l : List S39) (idx : List Int) (v : Bool) (h t : ByteArray) (hs : s.size ≤ 1000000) (ht : t.size ≤ 140737488351232) (hn : l.length ≤ 140737488351232) (hl : ∀ x ∈ l, x.f1.size ≤ 140737488351232) (hi : idx.length ≤ 1000) : ∀ (d j : Nat), j ≤ idx.length → idx.length - j = d →
    Ev (fun k => targumlaw12_TagTells.l0 k s l idx (idx.length : Int) (j : Int) v h t) true := by
  intro d
  induction d with
  | zero =>
    intro j h1 h2
    refine Ev.step (fun k => by rw [targumlaw12_TagTells.l0]) ?_
    refine ev_if_neg (by omega) ?_
    rw [expand_prog v h t l ht hn hl]
    refine Ev.bind (Ev.now _) (Ev.bind (expand_ref v h t l ht hn hl) (ev_if_pos rfl (ev_if_pos (by rw [beq_iff_eq]) ?_)))
    rw [good_prog s hs]
    refine Ev.bind (Ev.now _) (Ev.bind (good_ref s hs) (ev_if_pos (by rw [beq_iff_eq]) ?_))
    rw [write_prog s hs]
    refine Ev.bind (Ev.now _) (Ev.bind (write_ref s hs) ?_)
    rw [beq_self_eq_true]
    exact Ev.now _
  | succ d ih =>
    intro j h1 h2
    have hlt : j < idx.length := by omega
    refine Ev.step (fun k => by rw [targumlaw12_TagTells.l0]) ?_
    refine ev_if_pos (by omega) (ev_if_pos (by omega) (ev_if_pos (by omega) ?_))
    obtain ⟨r, hr, he⟩ := read_same s (rd idx (j : Int)) hs
    have hrs := specR_size s _ hs r hr
    rw [hr]
    refine Ev.bind (Ev.now _) (Ev.bind he ?_)
    refine ev_if_neg (by simp) (ev_if_pos rfl ?_)
    rw [bne_self_eq_false]
    refine Ev.step (fun k => by rw [targumlaw12_TagTells.j2]) ?_
    refine ev_if_neg (by decide) ?_
    rw [expand_prog r.1 r.2.1 r.2.2.1 l (by omega) hn hl]
    refine Ev.bind (Ev.now _) (Ev.bind (expand_ref r.1 r.2.1 r.2.2.1 l (by omega) hn hl) (ev_if_pos rfl ?_))
    rw [bne_self_eq_false]
    refine ev_if_neg (by decide) ?_
    have e : wrap64 ((j : Int) + 1) = ((j + 1 : Nat) : Int) := by rw [wrap_id (by omega) (by omega)]; omega
    rw [e]
    exact ih (j + 1) (by omega) (by omega)

theorem within_some (x : Int) : ∃ y, targumhelp_Within.f x 0 20 = some y := by
  unfold targumhelp_Within.f
  have e : wrap64 (wrap64 (20 - 0) + 1) = 21 := by decide +kernel
  rw [e, if_neg (by decide)]
  split
  · exact ⟨_, rfl⟩
  · exact ⟨_, rfl⟩

theorem Pure.TagTells : targumlaw12_TagTells.Pure := by
  intro s i t l hs hi ht hl
  refine Ev.rounds (r := true) ?_
  unfold targumlaw12_TagTells.f
  rw [known_true]
  refine Ev.bind (Ev.now _) (ev_if_pos rfl ?_)
  have yes : Ev (fun k => targumlaw12_TagTells.j0 k s i l true t.f0 t.f1 t.f2) true := by
    refine Ev.step (fun k => by rw [targumlaw12_TagTells.j0]) ?_
    exact ev_if_pos rfl (Ev.now _)
  by_cases h1 : (s.size : Int) > 200
  · exact ev_if_pos h1 yes
  · refine ev_if_neg h1 ?_
    by_cases h2 : (l.length : Int) > 30
    · rw [decide_eq_true h2]
      exact yes
    · rw [decide_eq_false h2]
      refine Ev.step (fun k => by rw [targumlaw12_TagTells.j0]) ?_
      refine ev_if_neg (by decide) ?_
      obtain ⟨y, hy⟩ := within_some i
      rw [hy]
      refine Ev.bind (Ev.now _) (Ev.bind (Ev.now _) ?_)
      exact tells_run s l [i, 0, y] t.f0 t.f1 t.f2 (by omega) ht.2.2 (by omega) (fun x hx => (hl.1 x hx).2) (by simp) 3 0 (by simp) rfl
end Go.Proofs.Ytmceepmchfjinaa.Q
