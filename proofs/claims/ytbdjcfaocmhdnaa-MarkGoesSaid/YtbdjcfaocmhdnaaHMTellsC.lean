/- The law MarkTells: the program's places are the reference's, so the law answers true. Conditions: the row's bounds. -/
import Derived.Test.YtbdjcfaocmhdnaaHMTells
namespace Go.Proofs.Ytbdjcfaocmhdnaa.Q
open Go Go.RowKit Go.Proofs Go.Proofs.Ytbdjcfaocmhdnaa.Fl Go.Proofs.YtbdjcfaocmhdnaaW.PrintWords Go.Proofs.YtbdjcfaocmhdnaaW.PrintLast Go.Proofs.YtbdjcfaocmhdnaaW.PrintMore
set_option linter.unusedVariables false
set_option linter.unusedSimpArgs false

theorem i16_wf {x : Int} (h : (Lit.int .i16 x).wf = true) : -32768 ≤ x ∧ x ≤ 32767 := by
  simp only [Lit.wf, Bool.and_eq_true, decide_eq_true_eq] at h
  have e0 : IntKind.i16.min = -32768 := rfl
  have e1 : IntKind.i16.max = 32767 := rfl
  omega
theorem tmod_le (x : Int) (m : Int) (hm : 0 < m) (h : m ≤ 1000) : -100000 ≤ Int.tmod x m ∧ Int.tmod x m ≤ 100000 := by
  have h1 := Int.tmod_lt_of_pos x hm
  have h2 := Int.lt_tmod_of_pos x hm
  omega
def targumlaw3_MarkTells.f (k : Nat) (a0 : ByteArray) (a1 a2 a3 a4 : Int) : Option Bool :=
  if a0.size ≤ 140737488351232 ∧ (Lit.int .i64 a1).wf = true ∧ (Lit.int .i64 a2).wf = true ∧ (Lit.int .i16 a3).wf = true ∧ (Lit.int .i16 a4).wf = true then some true else none
theorem targumlaw3_MarkTells.calls (k : Nat) (a0 : ByteArray) (a1 a2 a3 a4 : Int) (r : Bool) (w : World) (h : targumlaw3_MarkTells.f k a0 a1 a2 a3 a4 = some r) :
    Calls Try.prog 3 #[.string a0, .int .i64 a1, .int .i64 a2, .int .i16 a3, .int .i16 a4] w fun e w' => e = .returned (.bool r) ∧ Below w.heap.size w w' := by
  unfold targumlaw3_MarkTells.f at h
  split at h
  case isFalse => cases h
  rename_i hs
  obtain ⟨b0, b1, b2, b3, b4⟩ := hs
  obtain rfl := Option.some.inj h
  clear h
  by_cases hlong : 200 < a0.size
  · exact mtells_long a0 a1 a2 a3 a4 hlong w
  have hx := i16_wf b3
  have hy := i16_wf b4
  have hw := way_le a1 a0
  have ho := way_le a1 (a0.extract 0 (offN a0 a2))
  rw [ByteArray.size_extract] at ho
  have hol : offN a0 a2 ≤ a0.size := Nat.min_le_right _ _
  obtain ⟨KW, hKW⟩ := (ref_way a1 a0 (by omega)).rounds
  obtain ⟨KO, hKO⟩ := (ref_of a1 a0 (by omega) a2).rounds
  obtain ⟨K1, hK1⟩ := (ref_off a1 a0 (by omega) (Int.tmod a3 5) (Int.tmod a4 9)).rounds
  obtain ⟨K2, hK2⟩ := (ref_off a1 a0 (by omega) ((way a1 (a0.extract 0 (offN a0 a2))).1 : Int) ((way a1 (a0.extract 0 (offN a0 a2))).2 : Int)).rounds
  have t5 := tmod_le a3 5 (by decide) (by decide)
  have t9 := tmod_le a4 9 (by decide) (by decide)
  refine (mtells_walk a0 a1 a2 a3 a4 (way a1 a0).1 (way a1 a0).2 (way a1 (a0.extract 0 (offN a0 a2))).1 (way a1 (a0.extract 0 (offN a0 a2))).2 (goZ (a3, a4) (way a1 a0)).1 (goZ (a3, a4) (way a1 a0)).2 _ _ _ _ w (by omega) hx hy (by omega) (by omega) (by omega) (by omega)
    (fun w => targumref1_Way.calls KW a1 a0 _ _ w hKW) (fun w => Way_says a1 a0 (by omega) w) (fun w => targumref1_Of.calls KO a1 a0 a2 _ _ w hKO) (fun w => Of_says a1 a0 a2 (by omega) w)
    (Lib.hid ⟨fun h => by unfold goZ; rw [if_pos h]; exact ⟨rfl, rfl⟩, fun h => by unfold goZ; rw [if_neg h]; exact ⟨rfl, rfl⟩⟩) (fun w => Go_says a1 a3 a4 a0 (by omega) (by omega) (by omega) w)
    (fun w => Off_says a1 _ _ a0 (by omega) t5 t9 w) (fun w => targumref1_Off.calls K1 a1 a0 _ _ _ w hK1) (fun w => Off_says a1 _ _ a0 (by omega) (by omega) (by omega) w) (fun w => targumref1_Off.calls K2 a1 a0 _ _ _ w hK2)
    (Lib.hid rfl) (Lib.hid rfl) (fun w => Less_says a3 a4 _ _ (small_le (by omega) (by omega)) (small_le (by omega) (by omega)) (small_nat (by omega)) (small_nat (by omega)) w)
    (fun w => Less_says _ _ a3 a4 (small_nat (by omega)) (small_nat (by omega)) (small_le (by omega) (by omega)) (small_le (by omega) (by omega)) w))
end Go.Proofs.Ytbdjcfaocmhdnaa.Q
