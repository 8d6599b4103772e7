/- What Version, Within and Well say in the laws of places. Conditions: sizes. -/
import Derived.Test.YtbdjcfaocmhdnaaMkS
import Derived.Test.YtbdjcfaocmhdnaaQx4
namespace Go.Proofs.Ytbdjcfaocmhdnaa.Q
open Go Go.RowKit Go.Proofs Go.Proofs.Ytbdjcfaocmhdnaa.Fl Go.Proofs.YtbdjcfaocmhdnaaW.PrintWords Go.Proofs.YtbdjcfaocmhdnaaW.PrintLast Go.Proofs.YtbdjcfaocmhdnaaW.PrintMore
set_option linter.unusedVariables false
set_option linter.unusedSimpArgs false

def verI (o : Bool) : Int := if o = true then 11 else 12
theorem verI_11 (o : Bool) : (verI o == 11) = o := by cases o <;> rfl
theorem version_says (o : Bool) (w : World) : Calls Try.prog 19 #[.bool o] w fun e w' => e = .returned (.int .i64 (verI o)) ∧ Drawn0 w w' :=
  targumhelp_Version.calls o _ w (by unfold targumhelp_Version.f verI; split <;> rfl)
theorem within_is (n : Nat) (hn : n ≤ 100000) (off : Int) : ∃ k : Nat, k ≤ n ∧ targumhelp_Within.f off 0 (n : Int) = some (k : Int) := by
  have e1 : wrap64 ((n : Int) - 0) = (n : Int) := by rw [Int.sub_zero]; exact wrap_id (by omega) (by omega)
  have e2 : wrap64 ((n : Int) + 1) = (n : Int) + 1 := wrap_id (by omega) (by omega)
  have h1 := Int.tmod_lt_of_pos off (b := (n : Int) + 1) (by omega)
  have h2 := Int.lt_tmod_of_pos off (b := (n : Int) + 1) (by omega)
  unfold targumhelp_Within.f
  rw [e1, e2, if_neg (by omega)]
  generalize Int.tmod off ((n : Int) + 1) = r at h1 h2 ⊢
  by_cases hr : r < 0
  · rw [if_pos hr, show wrap64 (r + (n : Int)) = r + n from wrap_id (by omega) (by omega), Int.sub_zero, show wrap64 (r + (n : Int)) = r + n from wrap_id (by omega) (by omega), show wrap64 (r + (n : Int) + 1) = r + n + 1 from wrap_id (by omega) (by omega), Int.zero_add, show wrap64 (r + (n : Int) + 1) = r + n + 1 from wrap_id (by omega) (by omega)]
    exact ⟨(r + n + 1).toNat, by omega, by rw [Int.toNat_of_nonneg (by omega)]⟩
  · rw [if_neg hr, Int.zero_add, show wrap64 r = r from wrap_id (by omega) (by omega)]
    exact ⟨r.toNat, by omega, by rw [Int.toNat_of_nonneg (by omega)]⟩
theorem within_says (n : Nat) (hn : n ≤ 100000) (off : Int) : ∃ k : Nat, k ≤ n ∧ ∀ w, Calls Try.prog 20 #[.int .i64 off, .int .i64 0, .int .i64 (n : Int)] w fun e w' => e = .returned (.int .i64 (k : Int)) ∧ Drawn0 w w' := by
  obtain ⟨k, hk, h⟩ := within_is n hn off
  exact ⟨k, hk, fun w => targumhelp_Within.calls off 0 _ _ w h⟩
theorem well_says (s : ByteArray) (hs : s.size ≤ 1000000) : ∃ r : Bool, (r = true → Wl s.data.toList) ∧ ∀ w, Calls Try.prog 18 #[.string s] w fun e w' => e = .returned (.bool r) ∧ Drawn0 w w' := by
  obtain ⟨r, hr, hw⟩ := ref_well s hs
  obtain ⟨K, hK⟩ := hr.rounds
  exact ⟨r, hw, fun w => targumref1_Well.calls K s r w hK⟩
theorem lt_or {a b c d : Nat} (h : leP (a, b) (c, d)) : (a < c ∨ a = c ∧ b < d) ∨ (a = c ∧ b = d) := by
  unfold leP at h
  simp only at h
  omega
end Go.Proofs.Ytbdjcfaocmhdnaa.Q
