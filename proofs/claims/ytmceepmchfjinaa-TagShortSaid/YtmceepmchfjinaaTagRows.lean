/- The plain law of targumlaw12.tagged: a row of signs of a kind, as long as its seed. -/
import Derived.Test.YtmceepmchfjinaaTagSame
import Derived.Test.YtmceepmchfjinaaQx7
namespace Go.Proofs.Ytmceepmchfjinaa.Q
open Go.RowKit Go.Proofs.YtmceepmchfjinaaW.PrintWords Go.Proofs.YtmceepmchfjinaaW.PrintLast Go.Proofs.YtmceepmchfjinaaW.PrintMore
set_option linter.unusedVariables false
set_option linter.unusedSimpArgs false

theorem one_of (g : ByteArray) (m : Nat) (h : m < g.size) : (g.extract m (m + 1)).data.toList = [g[m]] := by
  rw [Lib.extract_data, drop_cons g m h]
  have e : m + 1 - m = 1 := by omega
  simp [e]

theorem wrap_succ (m : Nat) (h : m ≤ 1000000) : wrap64 ((m : Int) + 1) = ((m + 1 : Nat) : Int) := by rw [wrap_id (by omega) (by omega)]; omega
theorem wrap_byte (c : UInt8) : wrap64 (c.toNat : Int) = (c.toNat : Int) := by
  have := c.toNat_lt
  exact wrap_id (by omega) (by omega)
theorem tmod_nat (a b : Nat) : Int.tmod (a : Int) (b : Int) = ((a % b : Nat) : Int) := rfl
/-- One round: the sign of the seed's byte j is laid behind x. -/
theorem tagged_step (s g x : ByteArray) (j m : Nat) (k : Nat) (hlt : j < s.size) (h0 : 0 < g.size) (hm : m < g.size) (hm1 : m ≤ 1000000) (hj : j ≤ 1000000) (hmod : (s[j]).toNat % g.size = m) (hx : x.size + (g.extract m (m + 1)).size ≤ 9223372036854775807) :
    targumlaw12_tagged.l0 (k + 1) s g x (j : Int) = targumlaw12_tagged.l0 k s g (x ++ g.extract m (m + 1)) ((j + 1 : Nat) : Int) := by
  have i1 : (j : Int) < (s.size : Int) := by omega
  have i2 : (0 : Int) ≤ (j : Int) := by omega
  have i3 : ¬ ((g.size : Int) = 0) := by omega
  have i4 : (0 : Int) ≤ (m : Int) := by omega
  have i5 : (m : Int) ≤ ((m + 1 : Nat) : Int) := by omega
  have i6 : ((m + 1 : Nat) : Int) ≤ (g.size : Int) := by omega
  rw [targumlaw12_tagged.l0, if_pos i1, if_pos i2, if_neg i3, bt_nat s j hlt, wrap_byte, tmod_nat, hmod, if_pos i4, wrap_succ m hm1, if_pos i5, if_pos i6, Int.toNat_natCast, Int.toNat_natCast, if_pos hx, wrap_succ j hj]

theorem tagged_run (s g : ByteArray) (hs : s.size ≤ 1000) (h0 : 0 < g.size) (hg : g.size ≤ 1000) : ∀ (d j : Nat) (x : ByteArray), j ≤ s.size → s.size - j = d → x.size = j → (∀ c ∈ x.data.toList, c ∈ g.data.toList) →
    ∃ y, Ev (fun k => targumlaw12_tagged.l0 k s g x (j : Int)) y ∧ y.size = s.size ∧ ∀ c ∈ y.data.toList, c ∈ g.data.toList := by
  intro d
  induction d with
  | zero =>
    intro j x h1 h2 h3 h4
    refine ⟨x, ?_, by omega, h4⟩
    refine Ev.step (fun k => by rw [targumlaw12_tagged.l0]) ?_
    exact ev_if_neg (by omega) (Ev.now _)
  | succ d ih =>
    intro j x h1 h2 h3 h4
    have hlt : j < s.size := by omega
    obtain ⟨m, hmod⟩ : ∃ m, (s[j]).toNat % g.size = m := ⟨_, rfl⟩
    have hm : m < g.size := by rw [← hmod]; exact Nat.mod_lt _ h0
    have hone := one_of g m hm
    have hsz : (g.extract m (m + 1)).size = 1 := by simp; omega
    obtain ⟨y, hy, hy1, hy2⟩ := ih (j + 1) (x ++ g.extract m (m + 1)) (by omega) (by omega) (by rw [ByteArray.size_append, hsz, h3]) (by
      intro c hc
      rw [ByteArray.data_append, Array.toList_append, List.mem_append] at hc
      rcases hc with hc | hc
      · exact h4 c hc
      · rw [hone] at hc
        have : c = g[m] := by simpa using hc
        subst this
        have e : g[m] = g.data.toList[m]'(by simpa using hm) := by simp [ByteArray.getElem_eq_getElem_data]
        rw [e]
        exact List.getElem_mem _)
    refine ⟨y, ?_, hy1, hy2⟩
    exact Ev.step (fun k => tagged_step s g x j m k hlt h0 hm (by omega) (by omega) hmod (by omega)) hy

theorem tagged_some (s g : ByteArray) (hs : s.size ≤ 1000) (h0 : 0 < g.size) (hg : g.size ≤ 1000) : ∃ y, Ev (fun k => targumlaw12_tagged.f k s g) y ∧ y.size = s.size ∧ ∀ c ∈ y.data.toList, c ∈ g.data.toList := by
  obtain ⟨y, h1, h2⟩ := tagged_run s g hs h0 hg s.size 0 ⟨#[]⟩ (by omega) (by omega) rfl (by simp)
  exact ⟨y, h1, h2⟩
end Go.Proofs.Ytmceepmchfjinaa.Q
