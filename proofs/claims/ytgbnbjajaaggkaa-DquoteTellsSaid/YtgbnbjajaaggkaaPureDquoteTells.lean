/- The plain law of DquoteTells: the reference's Double is dquote.Read at every text and place. No condition but the row's bounds. -/
import Derived.Test.YtgbnbjajaaggkaaPureDefDquoteTells
import Derived.Test.YtgbnbjajaaggkaaDqRef2
namespace Go.Proofs.Ytgbnbjajaaggkaa.Q
open Go Go.RowKit Go.Proofs.YtgbnbjajaaggkaaW.PrintWords Go.Proofs.YtgbnbjajaaggkaaW.PrintLast Go.Proofs.YtgbnbjajaaggkaaW.PrintMore
set_option linter.unusedVariables false
set_option linter.unusedSimpArgs false

theorem within_some (n : Int) (s : ByteArray) (hs : s.size ≤ 1000000) : ∃ r, targumhelp_Within.f n (-1) (wrap64 ((s.size : Int) + 1)) = some r := by
  unfold targumhelp_Within.f
  rw [wrap_id (x := (s.size : Int) + 1) (by omega) (by omega), wrap_id (x := (s.size : Int) + 1 - -1) (by omega) (by omega), wrap_id (x := (s.size : Int) + 1 - -1 + 1) (by omega) (by omega), if_neg (by omega)]
  split <;> exact ⟨_, rfl⟩
theorem cut_some (s : ByteArray) (i : Int) : ∃ r, targumhelp_Cut.f s i = some r := by
  unfold targumhelp_Cut.f
  repeat' split
  all_goals first | exact ⟨_, rfl⟩ | (exfalso; omega)

theorem tells_inner (x2 v : Int) (x : ByteArray) (hx : x.size ≤ 1000000) (y : List ByteArray) (n i : Int) (ks : List Int)
    (hnext : Ev (fun k => targumlaw17_DquoteTells.l0 k x2 v y n (wrap64 (i + 1))) true) : ∀ (d j : Nat), ks.length - j ≤ d → ks.length ≤ 2 → Ev (fun k => targumlaw17_DquoteTells.l1 k x2 v x y n i ks ks.length j) true := by
  intro d
  induction d with
  | zero => intro j hj hk; exact Ev.step (fun k => by rw [targumlaw17_DquoteTells.l1]) (ev_if_neg (by omega) hnext)
  | succ d ih =>
    intro j hj hk
    by_cases h : j < ks.length
    · have ih' := ih (j + 1) (by omega) hk
      have ew : wrap64 ((j : Int) + 1) = ((j + 1 : Nat) : Int) := wrap_id (by omega) (by omega)
      refine Ev.step (fun k => by rw [targumlaw17_DquoteTells.l1]) (ev_if_pos (by omega) (ev_if_pos (by omega) (ev_if_pos (by omega) ?_)))
      rw [ew]
      obtain ⟨b, hb⟩ := cut_some x (rd ks j)
      rw [hb]
      refine Ev.bind (Ev.now b) ?_
      by_cases hc : b = true
      · exact ev_if_pos hc ih'
      · refine ev_if_neg hc ?_
        have hr : dquote_Read.f v x (rd ks j) = some (readF v x (rd ks j)) := if_pos hx
        rw [hr]
        refine Ev.bind (Ev.now _) (Ev.bind (double_ev v x hx (rd ks j)) ?_)
        refine ev_if_pos rfl (ev_if_pos rfl (ev_if_neg ?_ ih'))
        simp
    · exact Ev.step (fun k => by rw [targumlaw17_DquoteTells.l1]) (ev_if_neg (by omega) hnext)

theorem tells_outer (x2 v : Int) (y : List ByteArray) (hy : ∀ x ∈ y, x.size ≤ 1000000) : ∀ (d i : Nat), y.length - i ≤ d → y.length ≤ 4 → Ev (fun k => targumlaw17_DquoteTells.l0 k x2 v y y.length i) true := by
  intro d
  induction d with
  | zero => intro i hi hk; exact Ev.step (fun k => by rw [targumlaw17_DquoteTells.l0]) (ev_if_neg (by omega) (Ev.now _))
  | succ d ih =>
    intro i hi hk
    by_cases h : i < y.length
    · have ih' := ih (i + 1) (by omega) hk
      have ew : wrap64 ((i : Int) + 1) = ((i + 1 : Nat) : Int) := wrap_id (by omega) (by omega)
      refine Ev.step (fun k => by rw [targumlaw17_DquoteTells.l0]) (ev_if_pos (by omega) (ev_if_pos (by omega) (ev_if_pos (by omega) ?_)))
      have hx : (rdOf ByteArray.empty y i).size ≤ 1000000 := by
        have e : rdOf ByteArray.empty y (i : Int) = y[i] := by unfold rdOf; simp [h, List.getD]
        rw [e]
        exact hy _ (List.getElem_mem h)
      obtain ⟨r, hr⟩ := within_some x2 _ hx
      rw [hr]
      refine Ev.bind (Ev.now r) (Ev.bind (Ev.now _) ?_)
      exact tells_inner x2 v _ hx y y.length i [0, r] (by rw [ew]; exact ih') 2 0 (by simp) (by simp)
    · exact Ev.step (fun k => by rw [targumlaw17_DquoteTells.l0]) (ev_if_neg (by omega) (Ev.now _))

theorem text17 (l : List Int) (hl : l.length ≤ 60) (hx : ∀ x ∈ l, (Lit.int .u8 x).wf = true) : ∃ t, targumlaw17_text.f l = some t ∧ t.size ≤ 1000 := by
  unfold targumlaw17_text.f
  rw [if_pos ⟨by omega, by
    rw [List.all_eq_true]
    intro x h
    have := hx x h
    simp only [Lit.wf, Bool.and_eq_true, decide_eq_true_eq] at this ⊢
    have e0 : IntKind.u8.min = 0 := rfl
    have e1 : IntKind.u8.max = 255 := rfl
    omega⟩]
  refine ⟨_, rfl, ?_⟩
  have h := textOf_size targumlaw17_text.signs 32 10 (by decide) l ⟨#[]⟩
  have e0 : (⟨#[]⟩ : ByteArray).size = 0 := rfl
  rw [e0] at h
  unfold textOf
  omega

theorem Pure.DquoteTells : targumlaw17_DquoteTells.Pure := by
  intro x0 x1 x2 x3 h0 h1 h2
  refine Ev.rounds (r := true) ?_
  unfold targumlaw17_DquoteTells.f targumlaw17_known.f
  refine Ev.bind (Ev.now true) (ev_if_pos rfl ?_)
  obtain ⟨r, hr, hr2⟩ := few_ev x0 200 (by omega)
  have out : Ev (fun k => targumlaw17_DquoteTells.j0 k x0 x1 x2 x3 true) true := Ev.step (fun k => by rw [targumlaw17_DquoteTells.j0]) (ev_if_pos rfl (Ev.now _))
  refine Ev.bind hr ?_
  by_cases hrt : r = true
  · have hsz := hr2 hrt
    refine ev_if_pos hrt ?_
    by_cases hl : x1.length ≤ 60
    · rw [decide_eq_false (by omega)]
      obtain ⟨t, ht, hts⟩ := text17 x1 hl h1.1
      obtain ⟨v, hv⟩ : ∃ v, targumhelp_Version.f x3 = some v := by unfold targumhelp_Version.f; split <;> exact ⟨_, rfl⟩
      refine Ev.step (fun k => by rw [targumlaw17_DquoteTells.j0]) (ev_if_neg (by decide) ?_)
      rw [hv, ht]
      have e34 : (⟨#[34]⟩ : ByteArray).size = 1 := rfl
      refine Ev.bind (Ev.now v) (Ev.bind (Ev.now t) (ev_if_pos (by omega) (ev_if_pos (by omega) (ev_if_pos ?_ (ev_if_pos ?_ (Ev.bind (Ev.now _) ?_))))))
      · rw [ByteArray.size_append]; omega
      · rw [ByteArray.size_append, ByteArray.size_append]; omega
      · refine tells_outer x2 v _ ?_ 4 0 (by simp) (by simp)
        intro x hx
        simp only [List.mem_cons, List.not_mem_nil, or_false] at hx
        rcases hx with rfl | rfl | rfl | rfl
        · omega
        · rw [ByteArray.size_append]; omega
        · rw [ByteArray.size_append]; omega
        · rw [ByteArray.size_append, ByteArray.size_append, ByteArray.size_append]; omega
    · rw [decide_eq_true (by omega)]
      exact out
  · exact ev_if_neg hrt out
end Go.Proofs.Ytgbnbjajaaggkaa.Q
