/- The law MarkBack: the place of a scalar's beginning leads back, so the law answers true. Conditions: the row's bounds. -/
import Derived.Test.YtbdjcfaocmhdnaaHMBack
import Derived.Test.YtbdjcfaocmhdnaaHMOrderC
namespace Go.Proofs.Ytbdjcfaocmhdnaa.Q
open Go Go.RowKit Go.Proofs Go.Proofs.Ytbdjcfaocmhdnaa.Fl Go.Proofs.YtbdjcfaocmhdnaaW.PrintWords Go.Proofs.YtbdjcfaocmhdnaaW.PrintLast Go.Proofs.YtbdjcfaocmhdnaaW.PrintMore
set_option linter.unusedVariables false
set_option linter.unusedSimpArgs false

def targumlaw3_MarkBack.f (k : Nat) (a0 : ByteArray) (a1 : Bool) (a2 : Int) : Option Bool :=
  if a0.size ≤ 140737488351232 ∧ (Lit.int .i64 a2).wf = true then some true else none
theorem mback_short (s : ByteArray) (o : Bool) (x : Int) (w : World) (hs : s.size ≤ 200) :
    Calls Try.prog 5 #[.string s, .bool o, .int .i64 x] w fun e w' => e = .returned (.bool true) ∧ Below w.heap.size w w' := by
  obtain ⟨r, hW, cW⟩ := well_says s (by omega)
  cases r with
  | false => exact mback_ill s o x w hs cW
  | true =>
    obtain ⟨k, hk, cI⟩ := within_says s.size (by omega) x
    obtain ⟨r2, hX, cX⟩ := well_says (s.extract 0 k) (by rw [ByteArray.size_extract]; omega)
    cases r2 with
    | false => exact mback_ill2 s o x (verI o) k w hs hk cW (version_says o) cI cX
    | true =>
      have hw := hW rfl
      have hwk := hX rfl
      have ex : (s.extract 0 k).data.toList = s.data.toList.take k := by rw [extract_list, List.drop_zero, Nat.sub_zero]
      rw [ex] at hwk
      have cP := of_at o s hs k hk
      have hl := of_le o s k hk
      have main : (∀ A', s.data.toList.take k = A' ++ [13] → (s.data.toList.drop k).head? ≠ some 10) → ∀ w, Calls Try.prog 15 #[.int .i64 (verI o), .string s, .complex .f64 (D ((wL o (s.data.toList.take k)).1 : Int)) (D ((wL o (s.data.toList.take k)).2 : Int))] w fun e w' => e = .returned (.int .i64 (k : Int)) ∧ Drawn0 w w' := by
        intro hcr w
        have h := Off_says (verI o) ((wL o (s.data.toList.take k)).1 : Int) ((wL o (s.data.toList.take k)).2 : Int) s (by omega) (by omega) (by omega) w
        have hb := off_back (verI o) s k hk hw hwk hcr
        rw [verI_11] at hb
        unfold zz at hb
        rw [hb] at h
        exact h
      by_cases h0 : k = 0
      · exact mback_start s o x (verI o) k _ _ w hs hk h0 cW (version_says o) cI cX cP (main (fun A' e => by
          rw [h0, List.take_zero] at e
          exact absurd (congrArg List.length e) (by simp)))
      · by_cases h1 : k = s.size
        · exact mback_end s o x (verI o) k _ _ w hs hk (by omega) h1 cW (version_says o) cI cX cP (main (fun A' e => by
            have : s.data.toList.drop k = [] := List.drop_eq_nil_of_le (by rw [Array.length_toList, h1]; exact Nat.le_refl _)
            rw [this]
            simp))
        · have h2 : k < s.size := by omega
          have hd : s.data.toList.drop k = s[k]'h2 :: s.data.toList.drop (k + 1) := drop_cons s k h2
          have hlast : ∀ A', s.data.toList.take k = A' ++ [13] → (s[k - 1]'(by omega)).toNat = 13 := by
            intro A' e
            have hk1 : s.data.toList.drop (k - 1) = s[k - 1]'(by omega) :: s.data.toList.drop (k - 1 + 1) := drop_cons s (k - 1) (by omega)
            have hdl : s.data.toList.length = s.size := by rw [Array.length_toList]; rfl
            have hA : A'.length = k - 1 := by
              have := congrArg List.length e
              rw [List.length_take, List.length_append, hdl, List.length_singleton] at this
              omega
            have e2 : (s.data.toList.take k).drop (k - 1) = [13] := by rw [e, ← hA, List.drop_left]
            rw [List.drop_take, hk1, show k - (k - 1) = 0 + 1 by omega, List.take_succ_cons, List.take_zero] at e2
            rw [(List.cons.inj e2).1]
            rfl
          have hhead : (s.data.toList.drop k).head? = some 10 → (s[k]'h2).toNat = 10 := by
            intro e
            rw [hd, List.head?_cons] at e
            rw [Option.some.inj e]
            rfl
          by_cases hc : (s[k - 1]'(by omega)).toNat = 13
          · by_cases hq : (s[k]'h2).toNat = 10
            · exact mback_cut s o x (verI o) k 0 0 w hs hk (by omega) h2 hc hq cW (version_says o) cI cX
            · exact mback_in2 s o x (verI o) k _ _ w hs hk (by omega) h2 hc hq cW (version_says o) cI cX cP (main (fun A' e h => hq (hhead h)))
          · exact mback_in1 s o x (verI o) k _ _ w hs hk (by omega) h2 hc cW (version_says o) cI cX cP (main (fun A' e _ => hc (hlast A' e)))
theorem targumlaw3_MarkBack.calls (k : Nat) (a0 : ByteArray) (a1 : Bool) (a2 : Int) (r : Bool) (w : World) (h : targumlaw3_MarkBack.f k a0 a1 a2 = some r) :
    Calls Try.prog 5 #[.string a0, .bool a1, .int .i64 a2] w fun e w' => e = .returned (.bool r) ∧ Below w.heap.size w w' := by
  unfold targumlaw3_MarkBack.f at h
  split at h
  case isFalse => cases h
  obtain rfl := Option.some.inj h
  clear h
  by_cases hlong : 200 < a0.size
  · exact mback_long a0 a1 a2 w hlong
  · exact mback_short a0 a1 a2 w (by omega)
end Go.Proofs.Ytbdjcfaocmhdnaa.Q
