/- The law MarkGoes: a text cut between scalars is told part by part, so the law answers true. Conditions: the row's bounds. -/
import Derived.Test.YtbdjcfaocmhdnaaHMGoes
import Derived.Test.YtbdjcfaocmhdnaaHMBackC
import Derived.Test.YtbdjcfaocmhdnaaHMTellsC
namespace Go.Proofs.Ytbdjcfaocmhdnaa.Q
open Go Go.RowKit Go.Proofs Go.Proofs.Ytbdjcfaocmhdnaa.Fl Go.Proofs.YtbdjcfaocmhdnaaW.PrintWords Go.Proofs.YtbdjcfaocmhdnaaW.PrintLast Go.Proofs.YtbdjcfaocmhdnaaW.PrintMore
set_option linter.unusedVariables false
set_option linter.unusedSimpArgs false

def targumlaw3_MarkGoes.f (k : Nat) (a0 a1 : ByteArray) (a2 : Bool) (a3 a4 : Int) : Option Bool :=
  if a0.size ≤ 140737488351232 ∧ a1.size ≤ 140737488351232 ∧ (Lit.int .i16 a3).wf = true ∧ (Lit.int .i16 a4).wf = true then some true else none
theorem append_list (s t : ByteArray) : (s ++ t).data.toList = s.data.toList ++ t.data.toList := by
  rw [ByteArray.data_append, Array.toList_append]
theorem goZ_le (x y : Int) (p : Nat × Nat) (hx : -32768 ≤ x ∧ x ≤ 32767) (hy : -32768 ≤ y ∧ y ≤ 32767) (h : p.1 ≤ 400 ∧ p.2 ≤ 400) : (-100000 ≤ (goZ (x, y) p).1 ∧ (goZ (x, y) p).1 ≤ 100000) ∧ (-100000 ≤ (goZ (x, y) p).2 ∧ (goZ (x, y) p).2 ≤ 100000) := by
  unfold goZ
  split <;> simp only <;> omega
theorem mgoes_short (s t : ByteArray) (o : Bool) (x y : Int) (w : World) (hl : s.size ≤ 200) (hm : t.size ≤ 200) (hx : -32768 ≤ x ∧ x ≤ 32767) (hy : -32768 ≤ y ∧ y ≤ 32767) :
    Calls Try.prog 4 #[.string s, .string t, .bool o, .int .i16 x, .int .i16 y] w fun e w' => e = .returned (.bool true) ∧ Below w.heap.size w w' := by
  obtain ⟨rs, hS, cS⟩ := well_says s (by omega)
  obtain ⟨rt, hT, cT⟩ := well_says t (by omega)
  cases rs with
  | false => exact mgoes_ill s t o x y w hl hm cS
  | true =>
    cases rt with
    | false => exact mgoes_ill2 s t o x y w hl hm cS cT
    | true =>
      have hws := hS rfl
      have hsl : s.data.toList.length = s.size := by rw [Array.length_toList]; rfl
      have main : (∀ A', s.data.toList = A' ++ [13] → t.data.toList.head? ≠ some 10) → way (verI o) (s ++ t) = goN (way (verI o) s) (way (verI o) t) := by
        intro hcr
        rw [way_wL, way_wL, way_wL, append_list]
        exact wL_join _ hws hcr
      have sz : (s ++ t).size = s.size + t.size := ByteArray.size_append
      have w1 := way_le (verI o) s
      have w2 := way_le (verI o) t
      have w3 := way_le (verI o) (s ++ t)
      have g1 := goZ_le x y (way (verI o) s) hx hy (by omega)
      have g3 := goZ_le x y (way (verI o) (s ++ t)) hx hy (by omega)
      have self : ∀ n : Int, small n → (FloatKind.f64.format.order (D n) (D n) == some .eq) = true := fun n h => (fl_eq h h).trans (decide_eq_true rfl)
      have cG1 := fun w => Go_says (verI o) x y s (by omega) (by omega) (by omega) w
      have cG2 := fun w => Go_says (verI o) (goZ (x, y) (way (verI o) s)).1 (goZ (x, y) (way (verI o) s)).2 t (by omega) (by omega) (by omega) w
      have cG3 := fun w => Go_says (verI o) x y (s ++ t) (by omega) (by omega) (by omega) w
      have cW1 := fun w => Way_says (verI o) (s ++ t) (by omega) w
      have cW2 := fun w => Way_says (verI o) s (by omega) w
      have cG4 := fun w => Go_says (verI o) ((way (verI o) s).1 : Int) ((way (verI o) s).2 : Int) t (by omega) (by omega) (by omega) w
      have cG5 : ∀ w, Calls Try.prog 14 #[.int .i64 (verI o), .complex .f64 (D x) (D y), .string (⟨#[]⟩ : ByteArray)] w fun e w' => e = .returned (.complex .f64 (D x) (D y)) ∧ Drawn0 w w' := fun w => by
        have h := Go_says (verI o) x y (⟨#[]⟩ : ByteArray) (by decide) (by omega) (by omega) w
        have e : goZ (x, y) (way (verI o) (⟨#[]⟩ : ByteArray)) = (x, y) := by
          rw [show way (verI o) (⟨#[]⟩ : ByteArray) = (0, 0) from rfl]
          unfold goZ
          rw [if_neg (by decide)]
          simp
        rw [e] at h
        exact h
      have cO : ∀ w, Calls Try.prog 13 #[.int .i64 (verI o), .string (s ++ t), .int .i64 (s.size : Int)] w fun e w' => e = .returned (.complex .f64 (D ((way (verI o) s).1 : Int)) (D ((way (verI o) s).2 : Int))) ∧ Drawn0 w w' := fun w => by
        have h := Of_says (verI o) (s ++ t) (s.size : Int) (by omega) w
        rw [offN_nat _ _ (by omega), way_to, append_list, show s.size = s.data.toList.length from hsl.symm, List.take_left, ← way_wL] at h
        rw [hsl] at h
        exact h
      have eZ : way (verI o) (s ++ t) = goN (way (verI o) s) (way (verI o) t) → goZ (goZ (x, y) (way (verI o) s)) (way (verI o) t) = goZ (x, y) (way (verI o) (s ++ t)) := fun h => by rw [goZ_assoc, h]
      have eW : way (verI o) (s ++ t) = goN (way (verI o) s) (way (verI o) t) → goZ (((way (verI o) s).1 : Int), ((way (verI o) s).2 : Int)) (way (verI o) t) = (((way (verI o) (s ++ t)).1 : Int), ((way (verI o) (s ++ t)).2 : Int)) := fun h => by rw [h]; exact goZ_zz _ _
      have q1 := self x (small_le (by omega) (by omega))
      have q2 := self y (small_le (by omega) (by omega))
      have q3 := self ((way (verI o) s).1 : Int) (small_nat (by omega))
      have q4 := self ((way (verI o) s).2 : Int) (small_nat (by omega))
      have q5 := self ((way (verI o) (s ++ t)).1 : Int) (small_nat (by omega))
      have q6 := self ((way (verI o) (s ++ t)).2 : Int) (small_nat (by omega))
      have q7 := self (goZ (x, y) (way (verI o) (s ++ t))).1 (small_le (by omega) (by omega))
      have q8 := self (goZ (x, y) (way (verI o) (s ++ t))).2 (small_le (by omega) (by omega))
      have c2 : way (verI o) (s ++ t) = goN (way (verI o) s) (way (verI o) t) → ∀ w, Calls Try.prog 14 #[.int .i64 (verI o), .complex .f64 (D (goZ (x, y) (way (verI o) s)).1) (D (goZ (x, y) (way (verI o) s)).2), .string t] w fun e w' => e = .returned (.complex .f64 (D (goZ (x, y) (way (verI o) (s ++ t))).1) (D (goZ (x, y) (way (verI o) (s ++ t))).2)) ∧ Drawn0 w w' := fun h w => by
        have c := cG2 w
        rw [show ((goZ (x, y) (way (verI o) s)).1, (goZ (x, y) (way (verI o) s)).2) = goZ (x, y) (way (verI o) s) from rfl, eZ h] at c
        exact c
      have c4 : way (verI o) (s ++ t) = goN (way (verI o) s) (way (verI o) t) → ∀ w, Calls Try.prog 14 #[.int .i64 (verI o), .complex .f64 (D ((way (verI o) s).1 : Int)) (D ((way (verI o) s).2 : Int)), .string t] w fun e w' => e = .returned (.complex .f64 (D ((way (verI o) (s ++ t)).1 : Int)) (D ((way (verI o) (s ++ t)).2 : Int))) ∧ Drawn0 w w' := fun h w => by
        have c := cG4 w
        rw [eW h] at c
        exact c
      by_cases h0 : s.size = 0
      · have hj := main (fun A' e => by
          have := congrArg List.length e
          rw [hsl, List.length_append, List.length_singleton] at this
          omega)
        exact mgoes_s0 s t o x y (verI o) _ _ _ _ _ _ _ _ w hl hm hx hy h0 q1 q2 q3 q4 q5 q6 q7 q8 cS cT (version_says o) cG1 (c2 hj) cG3 cW1 cW2 (c4 hj) cG5 cO
      · by_cases h1 : t.size = 0
        · have hj := main (fun A' e => by
            have : t.data.toList = [] := List.eq_nil_of_length_eq_zero (by rw [Array.length_toList]; exact h1)
            rw [this]
            simp)
          exact mgoes_t0 s t o x y (verI o) _ _ _ _ _ _ _ _ w hl hm hx hy (by omega) h1 q1 q2 q3 q4 q5 q6 q7 q8 cS cT (version_says o) cG1 (c2 hj) cG3 cW1 cW2 (c4 hj) cG5 cO
        · have h2 : 0 < t.size := by omega
          have hlast : ∀ A', s.data.toList = A' ++ [13] → (s[s.size - 1]'(by omega)).toNat = 13 := by
            intro A' e
            have hk1 : s.data.toList.drop (s.size - 1) = s[s.size - 1]'(by omega) :: s.data.toList.drop (s.size - 1 + 1) := drop_cons s (s.size - 1) (by omega)
            have hA : A'.length = s.size - 1 := by
              have := congrArg List.length e
              rw [List.length_append, hsl, List.length_singleton] at this
              omega
            have e3 : (A' ++ [13]).drop (s.size - 1) = [13] := by rw [← hA, List.drop_left]
            rw [e, e3] at hk1
            have := (List.cons.inj hk1).1
            rw [← this]
            rfl
          have hhead : t.data.toList.head? = some 10 → (t[0]'h2).toNat = 10 := by
            intro e
            have hd : t.data.toList.drop 0 = t[0]'h2 :: t.data.toList.drop (0 + 1) := drop_cons t 0 h2
            rw [List.drop_zero] at hd
            rw [hd, List.head?_cons] at e
            rw [Option.some.inj e]
            rfl
          by_cases hc : (s[s.size - 1]'(by omega)).toNat = 13
          · by_cases hq : (t[0]'h2).toNat = 10
            · exact mgoes_cut s t o x y w hl hm (by omega) h2 hc hq cS cT
            · have hj := main (fun A' e h => hq (hhead h))
              exact mgoes_in2 s t o x y (verI o) _ _ _ _ _ _ _ _ w hl hm hx hy (by omega) h2 hc hq q1 q2 q3 q4 q5 q6 q7 q8 cS cT (version_says o) cG1 (c2 hj) cG3 cW1 cW2 (c4 hj) cG5 cO
          · have hj := main (fun A' e _ => hc (hlast A' e))
            exact mgoes_in1 s t o x y (verI o) _ _ _ _ _ _ _ _ w hl hm hx hy (by omega) h2 hc q1 q2 q3 q4 q5 q6 q7 q8 cS cT (version_says o) cG1 (c2 hj) cG3 cW1 cW2 (c4 hj) cG5 cO
theorem targumlaw3_MarkGoes.calls (k : Nat) (a0 a1 : ByteArray) (a2 : Bool) (a3 a4 : Int) (r : Bool) (w : World) (h : targumlaw3_MarkGoes.f k a0 a1 a2 a3 a4 = some r) :
    Calls Try.prog 4 #[.string a0, .string a1, .bool a2, .int .i16 a3, .int .i16 a4] w fun e w' => e = .returned (.bool r) ∧ Below w.heap.size w w' := by
  unfold targumlaw3_MarkGoes.f at h
  split at h
  case isFalse => cases h
  rename_i hs
  obtain rfl := Option.some.inj h
  clear h
  by_cases hlong : 200 < a0.size
  · exact mgoes_long a0 a1 a2 a3 a4 w hlong
  · by_cases hlong2 : 200 < a1.size
    · exact mgoes_long2 a0 a1 a2 a3 a4 w (by omega) hlong2
    · exact mgoes_short a0 a1 a2 a3 a4 w (by omega) (by omega) (i16_wf hs.2.2.1) (i16_wf hs.2.2.2)
end Go.Proofs.Ytbdjcfaocmhdnaa.Q
