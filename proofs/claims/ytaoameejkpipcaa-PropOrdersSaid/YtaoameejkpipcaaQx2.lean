-- Written by hookprint.py (a program of this project, over the kit's printer). Not trusted: Lean checks it.
import Derived.Test.YtaoameejkpipcaaQx0
import Derived.Test.YtaoameejkpipcaaQx1
namespace Go.Proofs.Ytaoameejkpipcaa.Q
open Go.RowKit Go.Proofs.YtaoameejkpipcaaW.PrintWords Go.Proofs.YtaoameejkpipcaaW.PrintLast Go.Proofs.YtaoameejkpipcaaW.PrintMore
attribute [local go_sem] max2_int min2_int max_two min_two max_three min_three max_four min_four   -- for this text's walks alone
set_option linter.unusedVariables false
set_option linter.unusedSimpArgs false

/-! ### prop_sign: function 37 -/
def prop_sign.f (a0 : Int) : Option (Bool) := if a0 ≥ 97 then (if a0 ≤ 122 then (some true) else (if a0 ≥ 65 then (if a0 ≤ 90 then (some true) else (if a0 ≥ 48 then (if a0 ≤ 57 then (some true) else (if a0 = 45 then (some true) else (some (a0 == 95)))) else (if a0 = 45 then (some true) else (some (a0 == 95))))) else (if a0 ≥ 48 then (if a0 ≤ 57 then (some true) else (if a0 = 45 then (some true) else (some (a0 == 95)))) else (if a0 = 45 then (some true) else (some (a0 == 95)))))) else (if a0 ≥ 65 then (if a0 ≤ 90 then (some true) else (if a0 ≥ 48 then (if a0 ≤ 57 then (some true) else (if a0 = 45 then (some true) else (some (a0 == 95)))) else (if a0 = 45 then (some true) else (some (a0 == 95))))) else (if a0 ≥ 48 then (if a0 ≤ 57 then (some true) else (if a0 = 45 then (some true) else (some (a0 == 95)))) else (if a0 = 45 then (some true) else (some (a0 == 95)))))
set_option maxHeartbeats 8000000 in
set_option maxRecDepth 100000 in
theorem prop_sign.calls (a0 : Int) (r : Bool) (w : World) (h : prop_sign.f a0 = some r) :
    Calls Try.prog 37 #[.int .u8 a0] w fun e w' => e = .returned (.bool r) ∧ Drawn0 w w' := by
  have H : (if a0 ≥ 97 then (if a0 ≤ 122 then (some true) else (if a0 ≥ 65 then (if a0 ≤ 90 then (some true) else (if a0 ≥ 48 then (if a0 ≤ 57 then (some true) else (if a0 = 45 then (some true) else (some (a0 == 95)))) else (if a0 = 45 then (some true) else (some (a0 == 95))))) else (if a0 ≥ 48 then (if a0 ≤ 57 then (some true) else (if a0 = 45 then (some true) else (some (a0 == 95)))) else (if a0 = 45 then (some true) else (some (a0 == 95)))))) else (if a0 ≥ 65 then (if a0 ≤ 90 then (some true) else (if a0 ≥ 48 then (if a0 ≤ 57 then (some true) else (if a0 = 45 then (some true) else (some (a0 == 95)))) else (if a0 = 45 then (some true) else (some (a0 == 95))))) else (if a0 ≥ 48 then (if a0 ≤ 57 then (some true) else (if a0 = 45 then (some true) else (some (a0 == 95)))) else (if a0 = 45 then (some true) else (some (a0 == 95)))))) = some r := h
  clear h
  by_cases c2 : a0 ≥ 97
  · rw [if_pos c2] at H
    have c2b0 : decide (97 ≤ a0) = true := decide_eq_true c2
    clear c2
    by_cases c3 : a0 ≤ 122
    · rw [if_pos c3] at H
      have c3b0 : decide (a0 ≤ 122) = true := decide_eq_true c3
      clear c3
      obtain rfl := Option.some.inj H
      go_enter Try.func37, Try.ntmps37
      go_wp2
      go_ret
      exact ⟨by first | rfl | (simp; done) | (simp [*]; done), by repeat (first | exact Drawn0.refl _ | apply Drawn0.step)⟩
    · rw [if_neg c3] at H
      have c3b0 : decide (a0 ≤ 122) = false := decide_eq_false c3
      clear c3
      by_cases c4 : a0 ≥ 65
      · rw [if_pos c4] at H
        have c4b0 : decide (65 ≤ a0) = true := decide_eq_true c4
        clear c4
        by_cases c5 : a0 ≤ 90
        · rw [if_pos c5] at H
          have c5b0 : decide (a0 ≤ 90) = true := decide_eq_true c5
          clear c5
          obtain rfl := Option.some.inj H
          go_enter Try.func37, Try.ntmps37
          go_wp2
          go_ret
          exact ⟨by first | rfl | (simp; done) | (simp [*]; done), by repeat (first | exact Drawn0.refl _ | apply Drawn0.step)⟩
        · rw [if_neg c5] at H
          have c5b0 : decide (a0 ≤ 90) = false := decide_eq_false c5
          clear c5
          by_cases c6 : a0 ≥ 48
          · rw [if_pos c6] at H
            have c6b0 : decide (48 ≤ a0) = true := decide_eq_true c6
            clear c6
            by_cases c7 : a0 ≤ 57
            · rw [if_pos c7] at H
              have c7b0 : decide (a0 ≤ 57) = true := decide_eq_true c7
              clear c7
              obtain rfl := Option.some.inj H
              go_enter Try.func37, Try.ntmps37
              go_wp2
              go_ret
              exact ⟨by first | rfl | (simp; done) | (simp [*]; done), by repeat (first | exact Drawn0.refl _ | apply Drawn0.step)⟩
            · rw [if_neg c7] at H
              have c7b0 : decide (a0 ≤ 57) = false := decide_eq_false c7
              clear c7
              by_cases c8 : a0 = 45
              · rw [if_pos c8] at H
                have c8b0 : (a0 == 45) = true := beq_iff_eq.mpr c8
                have c8b1 : (a0 != 45) = false := bne_eq_false_iff_eq.mpr c8
                clear c8
                obtain rfl := Option.some.inj H
                go_enter Try.func37, Try.ntmps37
                go_wp2
                go_ret
                exact ⟨by first | rfl | (simp; done) | (simp [*]; done), by repeat (first | exact Drawn0.refl _ | apply Drawn0.step)⟩
              · rw [if_neg c8] at H
                have c8b0 : (a0 == 45) = false := beq_eq_false_iff_ne.mpr c8
                have c8b1 : (a0 != 45) = true := bne_iff_ne.mpr c8
                obtain rfl := Option.some.inj H
                go_enter Try.func37, Try.ntmps37
                go_wp2
                go_ret
                exact ⟨by first | rfl | (simp; done) | (simp [*]; done), by repeat (first | exact Drawn0.refl _ | apply Drawn0.step)⟩
          · rw [if_neg c6] at H
            have c6b0 : decide (48 ≤ a0) = false := decide_eq_false c6
            clear c6
            by_cases c9 : a0 = 45
            · rw [if_pos c9] at H
              have c9b0 : (a0 == 45) = true := beq_iff_eq.mpr c9
              have c9b1 : (a0 != 45) = false := bne_eq_false_iff_eq.mpr c9
              clear c9
              obtain rfl := Option.some.inj H
              go_enter Try.func37, Try.ntmps37
              go_wp2
              go_ret
              exact ⟨by first | rfl | (simp; done) | (simp [*]; done), by repeat (first | exact Drawn0.refl _ | apply Drawn0.step)⟩
            · rw [if_neg c9] at H
              have c9b0 : (a0 == 45) = false := beq_eq_false_iff_ne.mpr c9
              have c9b1 : (a0 != 45) = true := bne_iff_ne.mpr c9
              obtain rfl := Option.some.inj H
              go_enter Try.func37, Try.ntmps37
              go_wp2
              go_ret
              exact ⟨by first | rfl | (simp; done) | (simp [*]; done), by repeat (first | exact Drawn0.refl _ | apply Drawn0.step)⟩
      · rw [if_neg c4] at H
        have c4b0 : decide (65 ≤ a0) = false := decide_eq_false c4
        clear c4
        by_cases c10 : a0 ≥ 48
        · rw [if_pos c10] at H
          have c10b0 : decide (48 ≤ a0) = true := decide_eq_true c10
          clear c10
          by_cases c11 : a0 ≤ 57
          · rw [if_pos c11] at H
            have c11b0 : decide (a0 ≤ 57) = true := decide_eq_true c11
            clear c11
            obtain rfl := Option.some.inj H
            go_enter Try.func37, Try.ntmps37
            go_wp2
            go_ret
            exact ⟨by first | rfl | (simp; done) | (simp [*]; done), by repeat (first | exact Drawn0.refl _ | apply Drawn0.step)⟩
          · rw [if_neg c11] at H
            have c11b0 : decide (a0 ≤ 57) = false := decide_eq_false c11
            clear c11
            by_cases c12 : a0 = 45
            · rw [if_pos c12] at H
              have c12b0 : (a0 == 45) = true := beq_iff_eq.mpr c12
              have c12b1 : (a0 != 45) = false := bne_eq_false_iff_eq.mpr c12
              clear c12
              obtain rfl := Option.some.inj H
              go_enter Try.func37, Try.ntmps37
              go_wp2
              go_ret
              exact ⟨by first | rfl | (simp; done) | (simp [*]; done), by repeat (first | exact Drawn0.refl _ | apply Drawn0.step)⟩
            · rw [if_neg c12] at H
              have c12b0 : (a0 == 45) = false := beq_eq_false_iff_ne.mpr c12
              have c12b1 : (a0 != 45) = true := bne_iff_ne.mpr c12
              obtain rfl := Option.some.inj H
              go_enter Try.func37, Try.ntmps37
              go_wp2
              go_ret
              exact ⟨by first | rfl | (simp; done) | (simp [*]; done), by repeat (first | exact Drawn0.refl _ | apply Drawn0.step)⟩
        · rw [if_neg c10] at H
          have c10b0 : decide (48 ≤ a0) = false := decide_eq_false c10
          clear c10
          by_cases c13 : a0 = 45
          · rw [if_pos c13] at H
            have c13b0 : (a0 == 45) = true := beq_iff_eq.mpr c13
            have c13b1 : (a0 != 45) = false := bne_eq_false_iff_eq.mpr c13
            clear c13
            obtain rfl := Option.some.inj H
            go_enter Try.func37, Try.ntmps37
            go_wp2
            go_ret
            exact ⟨by first | rfl | (simp; done) | (simp [*]; done), by repeat (first | exact Drawn0.refl _ | apply Drawn0.step)⟩
          · rw [if_neg c13] at H
            have c13b0 : (a0 == 45) = false := beq_eq_false_iff_ne.mpr c13
            have c13b1 : (a0 != 45) = true := bne_iff_ne.mpr c13
            obtain rfl := Option.some.inj H
            go_enter Try.func37, Try.ntmps37
            go_wp2
            go_ret
            exact ⟨by first | rfl | (simp; done) | (simp [*]; done), by repeat (first | exact Drawn0.refl _ | apply Drawn0.step)⟩
  · rw [if_neg c2] at H
    have c2b0 : decide (97 ≤ a0) = false := decide_eq_false c2
    clear c2
    by_cases c14 : a0 ≥ 65
    · rw [if_pos c14] at H
      have c14b0 : decide (65 ≤ a0) = true := decide_eq_true c14
      clear c14
      by_cases c15 : a0 ≤ 90
      · rw [if_pos c15] at H
        have c15b0 : decide (a0 ≤ 90) = true := decide_eq_true c15
        clear c15
        obtain rfl := Option.some.inj H
        go_enter Try.func37, Try.ntmps37
        go_wp2
        go_ret
        exact ⟨by first | rfl | (simp; done) | (simp [*]; done), by repeat (first | exact Drawn0.refl _ | apply Drawn0.step)⟩
      · rw [if_neg c15] at H
        have c15b0 : decide (a0 ≤ 90) = false := decide_eq_false c15
        clear c15
        by_cases c16 : a0 ≥ 48
        · rw [if_pos c16] at H
          have c16b0 : decide (48 ≤ a0) = true := decide_eq_true c16
          clear c16
          by_cases c17 : a0 ≤ 57
          · rw [if_pos c17] at H
            have c17b0 : decide (a0 ≤ 57) = true := decide_eq_true c17
            clear c17
            obtain rfl := Option.some.inj H
            go_enter Try.func37, Try.ntmps37
            go_wp2
            go_ret
            exact ⟨by first | rfl | (simp; done) | (simp [*]; done), by repeat (first | exact Drawn0.refl _ | apply Drawn0.step)⟩
          · rw [if_neg c17] at H
            have c17b0 : decide (a0 ≤ 57) = false := decide_eq_false c17
            clear c17
            by_cases c18 : a0 = 45
            · rw [if_pos c18] at H
              have c18b0 : (a0 == 45) = true := beq_iff_eq.mpr c18
              have c18b1 : (a0 != 45) = false := bne_eq_false_iff_eq.mpr c18
              clear c18
              obtain rfl := Option.some.inj H
              go_enter Try.func37, Try.ntmps37
              go_wp2
              go_ret
              exact ⟨by first | rfl | (simp; done) | (simp [*]; done), by repeat (first | exact Drawn0.refl _ | apply Drawn0.step)⟩
            · rw [if_neg c18] at H
              have c18b0 : (a0 == 45) = false := beq_eq_false_iff_ne.mpr c18
              have c18b1 : (a0 != 45) = true := bne_iff_ne.mpr c18
              obtain rfl := Option.some.inj H
              go_enter Try.func37, Try.ntmps37
              go_wp2
              go_ret
              exact ⟨by first | rfl | (simp; done) | (simp [*]; done), by repeat (first | exact Drawn0.refl _ | apply Drawn0.step)⟩
        · rw [if_neg c16] at H
          have c16b0 : decide (48 ≤ a0) = false := decide_eq_false c16
          clear c16
          by_cases c19 : a0 = 45
          · rw [if_pos c19] at H
            have c19b0 : (a0 == 45) = true := beq_iff_eq.mpr c19
            have c19b1 : (a0 != 45) = false := bne_eq_false_iff_eq.mpr c19
            clear c19
            obtain rfl := Option.some.inj H
            go_enter Try.func37, Try.ntmps37
            go_wp2
            go_ret
            exact ⟨by first | rfl | (simp; done) | (simp [*]; done), by repeat (first | exact Drawn0.refl _ | apply Drawn0.step)⟩
          · rw [if_neg c19] at H
            have c19b0 : (a0 == 45) = false := beq_eq_false_iff_ne.mpr c19
            have c19b1 : (a0 != 45) = true := bne_iff_ne.mpr c19
            obtain rfl := Option.some.inj H
            go_enter Try.func37, Try.ntmps37
            go_wp2
            go_ret
            exact ⟨by first | rfl | (simp; done) | (simp [*]; done), by repeat (first | exact Drawn0.refl _ | apply Drawn0.step)⟩
    · rw [if_neg c14] at H
      have c14b0 : decide (65 ≤ a0) = false := decide_eq_false c14
      clear c14
      by_cases c20 : a0 ≥ 48
      · rw [if_pos c20] at H
        have c20b0 : decide (48 ≤ a0) = true := decide_eq_true c20
        clear c20
        by_cases c21 : a0 ≤ 57
        · rw [if_pos c21] at H
          have c21b0 : decide (a0 ≤ 57) = true := decide_eq_true c21
          clear c21
          obtain rfl := Option.some.inj H
          go_enter Try.func37, Try.ntmps37
          go_wp2
          go_ret
          exact ⟨by first | rfl | (simp; done) | (simp [*]; done), by repeat (first | exact Drawn0.refl _ | apply Drawn0.step)⟩
        · rw [if_neg c21] at H
          have c21b0 : decide (a0 ≤ 57) = false := decide_eq_false c21
          clear c21
          by_cases c22 : a0 = 45
          · rw [if_pos c22] at H
            have c22b0 : (a0 == 45) = true := beq_iff_eq.mpr c22
            have c22b1 : (a0 != 45) = false := bne_eq_false_iff_eq.mpr c22
            clear c22
            obtain rfl := Option.some.inj H
            go_enter Try.func37, Try.ntmps37
            go_wp2
            go_ret
            exact ⟨by first | rfl | (simp; done) | (simp [*]; done), by repeat (first | exact Drawn0.refl _ | apply Drawn0.step)⟩
          · rw [if_neg c22] at H
            have c22b0 : (a0 == 45) = false := beq_eq_false_iff_ne.mpr c22
            have c22b1 : (a0 != 45) = true := bne_iff_ne.mpr c22
            obtain rfl := Option.some.inj H
            go_enter Try.func37, Try.ntmps37
            go_wp2
            go_ret
            exact ⟨by first | rfl | (simp; done) | (simp [*]; done), by repeat (first | exact Drawn0.refl _ | apply Drawn0.step)⟩
      · rw [if_neg c20] at H
        have c20b0 : decide (48 ≤ a0) = false := decide_eq_false c20
        clear c20
        by_cases c23 : a0 = 45
        · rw [if_pos c23] at H
          have c23b0 : (a0 == 45) = true := beq_iff_eq.mpr c23
          have c23b1 : (a0 != 45) = false := bne_eq_false_iff_eq.mpr c23
          clear c23
          obtain rfl := Option.some.inj H
          go_enter Try.func37, Try.ntmps37
          go_wp2
          go_ret
          exact ⟨by first | rfl | (simp; done) | (simp [*]; done), by repeat (first | exact Drawn0.refl _ | apply Drawn0.step)⟩
        · rw [if_neg c23] at H
          have c23b0 : (a0 == 45) = false := beq_eq_false_iff_ne.mpr c23
          have c23b1 : (a0 != 45) = true := bne_iff_ne.mpr c23
          obtain rfl := Option.some.inj H
          go_enter Try.func37, Try.ntmps37
          go_wp2
          go_ret
          exact ⟨by first | rfl | (simp; done) | (simp [*]; done), by repeat (first | exact Drawn0.refl _ | apply Drawn0.step)⟩

/-! ### prop_name: function 22 -/
def prop_name.l0 : Nat → ByteArray → Int → Option (Int)
  | 0, _, _ => none
  | k + 1, x0, x1 => if x1 < (x0.size : Int) then (if 0 ≤ x1 then ((prop_sign.f (bt x0 x1)).bind fun t109 => (if t109 = true then (prop_name.l0 k x0 (wrap64 (x1 + 1))) else (some x1))) else (none)) else (some x1)
def prop_name.f (k : Nat) (a0 : ByteArray) (a1 : Int) : Option (Int) := prop_name.l0 k a0 a1
theorem prop_name.mono_l : ∀ k, (∀ y0 y1, LeO (prop_name.l0 k y0 y1) (prop_name.l0 (k + 1) y0 y1))
  | 0 => fun _ _ r h => by simp [prop_name.l0] at h
  | k + 1 => by
    have ih0 := prop_name.mono_l k
    · intro y0 y1
      unfold prop_name.l0
      repeat' first
      | (with_reducible exact ih0 _ _)
      | (with_reducible exact LeO.refl _)
      | (with_reducible exact LeO.none _)
      | (with_reducible refine LeO.ite ?_ ?_)
      | (with_reducible refine LeO.bind ?_ (fun _ => ?_))
      | exact ih0 _ _
      | exact LeO.none _
      | refine LeO.ite ?_ ?_
      | refine LeO.bind ?_ (fun _ => ?_)
theorem prop_name.mono : ∀ a0 a1 k, LeO (prop_name.f k a0 a1) (prop_name.f (k + 1) a0 a1) := by
  intro a0 a1 k
  have ih0 := prop_name.mono_l k
  unfold prop_name.f
  repeat' first
      | (with_reducible exact ih0 _ _)
      | (with_reducible exact LeO.refl _)
      | (with_reducible exact LeO.none _)
      | (with_reducible refine LeO.ite ?_ ?_)
      | (with_reducible refine LeO.bind ?_ (fun _ => ?_))
      | exact ih0 _ _
      | exact LeO.none _
      | refine LeO.ite ?_ ?_
      | refine LeO.bind ?_ (fun _ => ?_)
set_option maxHeartbeats 8000000 in
set_option maxRecDepth 100000 in
theorem prop_name.calls (k : Nat) (a0 : ByteArray) (a1 : Int) (r : Int) (w : World) (h : prop_name.f k a0 a1 = some r) :
    Calls Try.prog 22 #[.string a0, .int .i64 a1] w fun e w' => e = .returned (.int .i64 r) ∧ Drawn0 w w' := by
  have H : (prop_name.l0 k a0 a1) = some r := h
  clear h
  have H' := Aside0.mk H
  clear H
  go_enter Try.func22, Try.ntmps22
  go_wp2
  go_loopg [1] k (fun kq v1 w' => ∃ (x1_1 : Int), v1 = .int .i64 x1_1 ∧ Aside0 (prop_name.l0 kq a0 x1_1 = some r) ∧ Aside0 (kq ≤ k) ∧ Drawn0 w w')
  case atStart => exact ⟨(a1), (by first | rfl | (simp; done) | (simp [*]; done)), H', ⟨Nat.le_refl _⟩, by repeat (first | exact Drawn0.refl _ | apply Drawn0.step)⟩
  case round =>
    clear H'
    try clear c2
    try clear p2
    obtain ⟨x1_1, rfl, HA, HK1, ⟨m1, rfl⟩⟩ := hrel
    cases gk with
    | zero => exact absurd HA.out (by simp [prop_name.l0])
    | succ k1 =>
      have H := HA.out
      clear HA
      simp only [prop_name.l0] at H
      by_cases c3 : x1_1 < (a0.size : Int)
      · rw [if_pos c3] at H
        have c3b0 : decide (x1_1 < (a0.size : Int)) = true := decide_eq_true c3
        clear c3
        by_cases c4 : 0 ≤ x1_1
        · rw [if_pos c4] at H
          have c4b0 : decide (0 ≤ x1_1) = true := decide_eq_true c4
          clear c4
          replace H := Option.bind_eq_some_iff.mp H
          obtain ⟨t109, A60, H⟩ := H
          replace H : (if t109 = true then (prop_name.l0 k1 a0 (wrap64 (x1_1 + 1))) else (some x1_1)) = some r := H
          have A6 := Aside0.mk A60
          clear A60
          by_cases c7 : t109 = true
          · subst c7
            have H1 : (prop_name.l0 k1 a0 (wrap64 (x1_1 + 1))) = some r := by rw [if_pos rfl] at H; exact H
            clear H
            have H := H1
            clear H1
            have H' := Aside0.mk H
            clear H
            have p5 : 0 ≤ (x1_1 : Int) := of_decide_eq_true (by first | (with_reducible assumption) | assumption)
            have q5 : x1_1 < (a0.size : Int) := of_decide_eq_true (by first | (with_reducible assumption) | assumption)
            have hx5 := bt_at a0 x1_1
            replace p5 := eq_true p5
            replace q5 := eq_true q5
            go_wp2_with (first | (go_at_call 37; (with_reducible refine (prop_sign.calls (bt a0 x1_1) true _ A6.out).mono ?_); rintro e w' ⟨rfl, ⟨nd, rfl⟩⟩))
            go_roundg k1
            case measure => have := HK1.out; omega
            case rel => exact ⟨(wrap64 (x1_1 + 1)), (by first | rfl | (simp; done) | (simp [*]; done)), H', ⟨by have := HK1.out; omega⟩, by repeat (first | exact Drawn0.refl _ | apply Drawn0.step)⟩
          · replace c7 := Bool.eq_false_iff.mpr c7
            subst c7
            have H1 : (some x1_1) = some r := by rw [if_neg (show ¬ (false = true) by decide)] at H; exact H
            clear H
            have H := H1
            clear H1
            obtain rfl := Option.some.inj H
            have p5 : 0 ≤ (x1_1 : Int) := of_decide_eq_true (by first | (with_reducible assumption) | assumption)
            have q5 : x1_1 < (a0.size : Int) := of_decide_eq_true (by first | (with_reducible assumption) | assumption)
            have hx5 := bt_at a0 x1_1
            replace p5 := eq_true p5
            replace q5 := eq_true q5
            go_wp2_with (first | (go_at_call 37; (with_reducible refine (prop_sign.calls (bt a0 x1_1) false _ A6.out).mono ?_); rintro e w' ⟨rfl, ⟨nd, rfl⟩⟩))
            go_ret
            exact ⟨by first | rfl | (simp; done) | (simp [*]; done), by repeat (first | exact Drawn0.refl _ | apply Drawn0.step)⟩
        · rw [if_neg c4] at H
          exact absurd H (by simp)
      · rw [if_neg c3] at H
        have c3b0 : decide (x1_1 < (a0.size : Int)) = false := decide_eq_false c3
        clear c3
        obtain rfl := Option.some.inj H
        go_wp2
        go_ret
        exact ⟨by first | rfl | (simp; done) | (simp [*]; done), by repeat (first | exact Drawn0.refl _ | apply Drawn0.step)⟩

/-! ### rows_Blank: function 39 -/
def rows_Blank.f (a0 : ByteArray) (a1 : Int) : Option (Bool) := if a1 ≥ 0 then (if a1 < (a0.size : Int) then (if 0 ≤ a1 then (if (bt a0 a1) = 32 then (some true) else (some ((bt a0 a1) == 9))) else (none)) else (some false)) else (some false)
set_option maxHeartbeats 8000000 in
set_option maxRecDepth 100000 in
theorem rows_Blank.calls (a0 : ByteArray) (a1 : Int) (r : Bool) (w : World) (h : rows_Blank.f a0 a1 = some r) :
    Calls Try.prog 39 #[.string a0, .int .i64 a1] w fun e w' => e = .returned (.bool r) ∧ Drawn0 w w' := by
  have H : (if a1 ≥ 0 then (if a1 < (a0.size : Int) then (if 0 ≤ a1 then (if (bt a0 a1) = 32 then (some true) else (some ((bt a0 a1) == 9))) else (none)) else (some false)) else (some false)) = some r := h
  clear h
  by_cases c3 : a1 ≥ 0
  · rw [if_pos c3] at H
    have c3b0 : decide (0 ≤ a1) = true := decide_eq_true c3
    clear c3
    by_cases c4 : a1 < (a0.size : Int)
    · rw [if_pos c4] at H
      have c4b0 : decide (a1 < (a0.size : Int)) = true := decide_eq_true c4
      clear c4
      by_cases c5 : 0 ≤ a1
      · rw [if_pos c5] at H
        have c5b0 : decide (0 ≤ a1) = true := decide_eq_true c5
        clear c5
        by_cases c7 : (bt a0 a1) = 32
        · rw [if_pos c7] at H
          have c7b0 : ((bt a0 a1) == 32) = true := beq_iff_eq.mpr c7
          have c7b1 : ((bt a0 a1) != 32) = false := bne_eq_false_iff_eq.mpr c7
          clear c7
          obtain rfl := Option.some.inj H
          have p6 : 0 ≤ (a1 : Int) := of_decide_eq_true (by first | (with_reducible assumption) | assumption)
          have q6 : a1 < (a0.size : Int) := of_decide_eq_true (by first | (with_reducible assumption) | assumption)
          have hx6 := bt_at a0 a1
          replace p6 := eq_true p6
          replace q6 := eq_true q6
          go_enter Try.func39, Try.ntmps39
          go_wp2
          go_ret
          exact ⟨by first | rfl | (simp; done) | (simp [*]; done), by repeat (first | exact Drawn0.refl _ | apply Drawn0.step)⟩
        · rw [if_neg c7] at H
          have c7b0 : ((bt a0 a1) == 32) = false := beq_eq_false_iff_ne.mpr c7
          have c7b1 : ((bt a0 a1) != 32) = true := bne_iff_ne.mpr c7
          obtain rfl := Option.some.inj H
          have p6 : 0 ≤ (a1 : Int) := of_decide_eq_true (by first | (with_reducible assumption) | assumption)
          have q6 : a1 < (a0.size : Int) := of_decide_eq_true (by first | (with_reducible assumption) | assumption)
          have hx6 := bt_at a0 a1
          replace p6 := eq_true p6
          replace q6 := eq_true q6
          have p8 : 0 ≤ (a1 : Int) := of_decide_eq_true (by first | (with_reducible assumption) | assumption)
          have q8 : a1 < (a0.size : Int) := of_decide_eq_true (by first | (with_reducible assumption) | assumption)
          have hx8 := bt_at a0 a1
          replace p8 := eq_true p8
          replace q8 := eq_true q8
          go_enter Try.func39, Try.ntmps39
          go_wp2
          go_ret
          exact ⟨by first | rfl | (simp; done) | (simp [*]; done), by repeat (first | exact Drawn0.refl _ | apply Drawn0.step)⟩
      · rw [if_neg c5] at H
        exact absurd H (by simp)
    · rw [if_neg c4] at H
      have c4b0 : decide (a1 < (a0.size : Int)) = false := decide_eq_false c4
      clear c4
      obtain rfl := Option.some.inj H
      go_enter Try.func39, Try.ntmps39
      go_wp2
      go_ret
      exact ⟨by first | rfl | (simp; done) | (simp [*]; done), by repeat (first | exact Drawn0.refl _ | apply Drawn0.step)⟩
  · rw [if_neg c3] at H
    have c3b0 : decide (0 ≤ a1) = false := decide_eq_false c3
    clear c3
    obtain rfl := Option.some.inj H
    go_enter Try.func39, Try.ntmps39
    go_wp2
    go_ret
    exact ⟨by first | rfl | (simp; done) | (simp [*]; done), by repeat (first | exact Drawn0.refl _ | apply Drawn0.step)⟩

/-! ### brk_Break: function 40 -/
/-- How many bytes a break has with which bytes begin. -/
def brkL (old : Bool) : List UInt8 → Nat
  | [] => 0
  | c :: l =>
    if c = 13 then (if l.head? = some 10 then 2 else 1)
    else if c = 10 then 1
    else if old = true ∧ c = 194 ∧ l.head? = some 133 then 2
    else if old = true ∧ c = 226 ∧ (l.take 2 = [128, 168] ∨ l.take 2 = [128, 169]) then 3
    else 0
def brk_Break.f (a0 : Int) (a1 : ByteArray) (a2 : Int) : Option Int :=
  if a1.size ≤ 140737488351232 then some (if 0 ≤ a2 then (brkL (a0 == 11) (a1.data.toList.drop a2.toNat) : Nat) else 0) else none

theorem brk_Break.cases_old (c : UInt8) (l : List UInt8) : (brkL true (c :: l) : Nat) = if Lib.hasPrefix (c :: l) [226, 128, 168] = true ∨ Lib.hasPrefix (c :: l) [226, 128, 169] = true then 3 else if Lib.hasPrefix (c :: l) [194, 133] = true ∨ Lib.hasPrefix (c :: l) [13, 10] = true then 2 else if c = 13 ∨ c = 10 then 1 else 0 := by
  unfold brkL Lib.hasPrefix
  rcases l with _ | ⟨d, _ | ⟨e, l⟩⟩
  · by_cases h1 : c = 13 <;> by_cases h2 : c = 10 <;> simp_all
  · by_cases h1 : c = 13 <;> by_cases h2 : c = 10 <;> by_cases h3 : c = 194 <;> simp_all <;> grind
  · by_cases h1 : c = 13 <;> by_cases h2 : c = 10 <;> by_cases h3 : c = 194 <;> by_cases h4 : c = 226 <;> simp_all <;> grind
theorem brk_Break.cases_new (c : UInt8) (l : List UInt8) : (brkL false (c :: l) : Nat) = if Lib.hasPrefix (c :: l) [13, 10] = true then 2 else if c = 13 ∨ c = 10 then 1 else 0 := by
  unfold brkL Lib.hasPrefix
  rcases l with _ | ⟨d, l⟩
  · by_cases h1 : c = 13 <;> by_cases h2 : c = 10 <;> simp_all
  · by_cases h1 : c = 13 <;> by_cases h2 : c = 10 <;> simp_all <;> grind
theorem brk_Break.out (a0 : Int) (a1 : ByteArray) (a2 : Int) (w : World) (hs : a1.size ≤ 140737488351232) (h : a2 < 0 ∨ (a1.size : Int) ≤ a2) :
    Calls Try.prog 40 #[.int .i64 a0, .string a1, .int .i64 a2] w fun e w' => e = .returned (.int .i64 0) ∧ w' = w := by
  rcases h with h | h
  · go_enter Try.func40, Try.ntmps40
    go_wp2
    go_ret
    exact ⟨rfl, rfl⟩
  · by_cases h0 : a2 < 0
    · clear h
      go_enter Try.func40, Try.ntmps40
      go_wp2
      go_ret
      exact ⟨rfl, rfl⟩
    · have h1 : 0 ≤ a2 := by omega
      clear h0
      go_enter Try.func40, Try.ntmps40
      go_wp2
      go_ret
      exact ⟨rfl, rfl⟩
set_option maxHeartbeats 8000000 in
theorem brk_Break.walk (v : Int) (s : ByteArray) (n : Nat) (w : World) (hs : s.size ≤ 140737488351232) (hn : n < s.size) (b1 b2 b3 b4 c1 c2 : Bool)
    (h1 : ∀ w, Calls Try.prog 32 #[.string (s.extract n s.size), .string ⟨#[226, 128, 168]⟩] w fun e w' => e = .returned (.bool b1) ∧ w' = w)
    (h2 : ∀ w, Calls Try.prog 32 #[.string (s.extract n s.size), .string ⟨#[226, 128, 169]⟩] w fun e w' => e = .returned (.bool b2) ∧ w' = w)
    (h3 : ∀ w, Calls Try.prog 32 #[.string (s.extract n s.size), .string ⟨#[194, 133]⟩] w fun e w' => e = .returned (.bool b3) ∧ w' = w)
    (h4 : ∀ w, Calls Try.prog 32 #[.string (s.extract n s.size), .string ⟨#[13, 10]⟩] w fun e w' => e = .returned (.bool b4) ∧ w' = w)
    (hz : 0 < (s.extract n s.size).size) (hc1 : (((s.extract n s.size)[0].toNat : Int) == 13) = c1) (hc2 : (((s.extract n s.size)[0].toNat : Int) == 10) = c2) :
    Calls Try.prog 40 #[.int .i64 v, .string s, .int .i64 n] w fun e w' => e = .returned (.int .i64 (if v = 11 ∧ (b1 = true ∨ b2 = true) then 3 else if (v = 11 ∧ b3 = true) ∨ b4 = true then 2 else if c1 = true ∨ c2 = true then 1 else 0)) ∧ w' = w := by
  have hn' : (n : Int) ≤ s.size := by omega
  by_cases hv : v = 11
  · subst hv
    cases b1
    · cases b2
      · cases b3
        · cases b4
          · cases c1
            · cases c2
              all_goals
                simp only [true_and, Bool.false_eq_true, or_false, false_or, if_false, if_true]
                go_enter Try.func40, Try.ntmps40
                go_wp2_with (first | ((with_reducible refine (h1 _).mono ?_); rintro e w' ⟨rfl, rfl⟩) | ((with_reducible refine (h2 _).mono ?_); rintro e w' ⟨rfl, rfl⟩) | ((with_reducible refine (h3 _).mono ?_); rintro e w' ⟨rfl, rfl⟩) | ((with_reducible refine (h4 _).mono ?_); rintro e w' ⟨rfl, rfl⟩))
                go_ret
                exact ⟨rfl, rfl⟩
            · simp only [true_and, Bool.false_eq_true, or_false, false_or, true_or, if_false, if_true]
              go_enter Try.func40, Try.ntmps40
              go_wp2_with (first | ((with_reducible refine (h1 _).mono ?_); rintro e w' ⟨rfl, rfl⟩) | ((with_reducible refine (h2 _).mono ?_); rintro e w' ⟨rfl, rfl⟩) | ((with_reducible refine (h3 _).mono ?_); rintro e w' ⟨rfl, rfl⟩) | ((with_reducible refine (h4 _).mono ?_); rintro e w' ⟨rfl, rfl⟩))
              go_ret
              exact ⟨rfl, rfl⟩
          · clear hc1 hc2
            simp only [true_and, Bool.false_eq_true, or_false, false_or, true_or, if_false, if_true]
            go_enter Try.func40, Try.ntmps40
            go_wp2_with (first | ((with_reducible refine (h1 _).mono ?_); rintro e w' ⟨rfl, rfl⟩) | ((with_reducible refine (h2 _).mono ?_); rintro e w' ⟨rfl, rfl⟩) | ((with_reducible refine (h3 _).mono ?_); rintro e w' ⟨rfl, rfl⟩) | ((with_reducible refine (h4 _).mono ?_); rintro e w' ⟨rfl, rfl⟩))
            go_ret
            exact ⟨rfl, rfl⟩
        · clear hc1 hc2 h4
          simp only [true_and, Bool.false_eq_true, or_false, false_or, true_or, if_false, if_true]
          go_enter Try.func40, Try.ntmps40
          go_wp2_with (first | ((with_reducible refine (h1 _).mono ?_); rintro e w' ⟨rfl, rfl⟩) | ((with_reducible refine (h2 _).mono ?_); rintro e w' ⟨rfl, rfl⟩) | ((with_reducible refine (h3 _).mono ?_); rintro e w' ⟨rfl, rfl⟩))
          go_ret
          exact ⟨rfl, rfl⟩
      · clear hc1 hc2 h4 h3
        simp only [true_and, Bool.false_eq_true, or_false, false_or, true_or, if_false, if_true]
        go_enter Try.func40, Try.ntmps40
        go_wp2_with (first | ((with_reducible refine (h1 _).mono ?_); rintro e w' ⟨rfl, rfl⟩) | ((with_reducible refine (h2 _).mono ?_); rintro e w' ⟨rfl, rfl⟩))
        go_ret
        exact ⟨rfl, rfl⟩
    · clear hc1 hc2 h4 h3 h2
      simp only [true_and, Bool.false_eq_true, or_false, false_or, true_or, if_false, if_true]
      go_enter Try.func40, Try.ntmps40
      go_wp2_with ((with_reducible refine (h1 _).mono ?_); rintro e w' ⟨rfl, rfl⟩)
      go_ret
      exact ⟨rfl, rfl⟩
  · clear h1 h2 h3
    simp only [hv, false_and, false_or, if_false]
    have hv1 : (v == 11) = false := by rw [beq_eq_false_iff_ne]; exact hv
    clear hv
    cases b4
    · cases c1
      · cases c2
        all_goals
          simp only [Bool.false_eq_true, or_false, false_or, if_false, if_true]
          go_enter Try.func40, Try.ntmps40
          go_wp2_with ((with_reducible refine (h4 _).mono ?_); rintro e w' ⟨rfl, rfl⟩)
          go_ret
          exact ⟨rfl, rfl⟩
      · simp only [Bool.false_eq_true, or_false, false_or, true_or, if_false, if_true]
        go_enter Try.func40, Try.ntmps40
        go_wp2_with ((with_reducible refine (h4 _).mono ?_); rintro e w' ⟨rfl, rfl⟩)
        go_ret
        exact ⟨rfl, rfl⟩
    · clear hc1 hc2
      simp only [if_true]
      go_enter Try.func40, Try.ntmps40
      go_wp2_with ((with_reducible refine (h4 _).mono ?_); rintro e w' ⟨rfl, rfl⟩)
      go_ret
      exact ⟨rfl, rfl⟩
theorem brk_Break.calls (a0 : Int) (a1 : ByteArray) (a2 : Int) (r : Int) (w : World) (h : brk_Break.f a0 a1 a2 = some r) :
    Calls Try.prog 40 #[.int .i64 a0, .string a1, .int .i64 a2] w fun e w' => e = .returned (.int .i64 r) ∧ Drawn0 w w' := by
  unfold brk_Break.f at h
  split at h
  · rename_i hs
    obtain rfl := Option.some.inj h
    clear h
    by_cases ho : a2 < 0 ∨ (a1.size : Int) ≤ a2
    · refine (brk_Break.out a0 a1 a2 w hs ho).mono fun e w' h => ⟨?_, by rw [h.2]; exact Drawn0.refl _⟩
      rw [h.1]
      split
      · rw [List.drop_eq_nil_of_le (by simp; omega)]
        rfl
      · rfl
    · obtain ⟨n, rfl⟩ : ∃ n : Nat, a2 = n := ⟨a2.toNat, by omega⟩
      have hn : n < a1.size := by omega
      have hl : (a1.extract n a1.size).data.toList = a1.data.toList.drop n := by
        rw [Lib.extract_data, List.take_of_length_le (by simp)]
      have hd : a1.data.toList.drop n = a1[n] :: a1.data.toList.drop (n + 1) := by
        rw [List.drop_eq_getElem_cons (by simpa using hn)]; rfl
      have hz : 0 < (a1.extract n a1.size).size := by simp; omega
      have h0 : (a1.extract n a1.size)[0] = a1[n] := by
        have h2 : (a1.extract n a1.size).data.toList[0]? = some (a1[n]) := by rw [hl, hd]; rfl
        have h3 : (a1.extract n a1.size).data.toList[0]? = some ((a1.extract n a1.size)[0]) := by
          rw [List.getElem?_eq_getElem (by simpa using hz)]; rfl
        rw [h2] at h3
        exact (Option.some.inj h3).symm
      refine (brk_Break.walk a0 a1 n w hs hn _ _ _ _ _ _ (fun w => Try.strings_HasPrefix _ _ w) (fun w => Try.strings_HasPrefix _ _ w) (fun w => Try.strings_HasPrefix _ _ w) (fun w => Try.strings_HasPrefix _ _ w) hz rfl rfl).mono fun e w' h => ⟨?_, by rw [h.2]; exact Drawn0.refl _⟩
      rw [h.1, hl, hd, h0, if_pos (show 0 ≤ (n : Int) by omega)]
      have e1 : ((n : Int)).toNat = n := by omega
      rw [e1, hd]
      congr 2
      have q : ∀ x : Nat, x < 256 → ((((a1[n]).toNat : Int) == (x : Int)) = true ↔ a1[n] = UInt8.ofNat x) := fun x hx => by
        rw [beq_iff_eq]
        constructor
        · intro h
          apply UInt8.toNat_inj.1
          simp
          omega
        · intro h
          rw [h]
          simp
          omega
      have q13 : (((a1[n]).toNat : Int) == 13) = true ↔ a1[n] = 13 := q 13 (by decide)
      have q10 : (((a1[n]).toNat : Int) == 10) = true ↔ a1[n] = 10 := q 10 (by decide)
      by_cases hv : a0 = 11
      · subst hv
        rw [show ((11 : Int) == 11) = true from rfl, brk_Break.cases_old]
        simp only [true_and, eq_self]
        by_cases k1 : Lib.hasPrefix (a1[n] :: a1.data.toList.drop (n + 1)) [226, 128, 168] = true ∨ Lib.hasPrefix (a1[n] :: a1.data.toList.drop (n + 1)) [226, 128, 169] = true
        · rw [if_pos k1, if_pos k1]; rfl
        · rw [if_neg k1, if_neg k1]
          by_cases k2 : Lib.hasPrefix (a1[n] :: a1.data.toList.drop (n + 1)) [194, 133] = true ∨ Lib.hasPrefix (a1[n] :: a1.data.toList.drop (n + 1)) [13, 10] = true
          · rw [if_pos k2, if_pos k2]; rfl
          · rw [if_neg k2, if_neg k2]
            by_cases k3 : a1[n] = 13 ∨ a1[n] = 10
            · rw [if_pos k3, if_pos (k3.imp q13.2 q10.2)]; rfl
            · rw [if_neg k3, if_neg (fun h => k3 (h.imp q13.1 q10.1))]; rfl
      · rw [show (a0 == 11) = false from by rw [beq_eq_false_iff_ne]; exact hv, brk_Break.cases_new]
        simp only [hv, false_and, false_or, if_false]
        by_cases k2 : Lib.hasPrefix (a1[n] :: a1.data.toList.drop (n + 1)) [13, 10] = true
        · rw [if_pos k2, if_pos k2]; rfl
        · rw [if_neg k2, if_neg k2]
          by_cases k3 : a1[n] = 13 ∨ a1[n] = 10
          · rw [if_pos k3, if_pos (k3.imp q13.2 q10.2)]; rfl
          · rw [if_neg k3, if_neg (fun h => k3 (h.imp q13.1 q10.1))]; rfl
  · cases h


/-! ### rows_Stop: function 24 -/
def rows_Stop.f (a0 : Int) (a1 : ByteArray) (a2 : Int) (a3 : Bool) : Option (Bool) := if a2 ≥ (a1.size : Int) then (some true) else ((rows_Blank.f a1 a2).bind fun t110 => (if t110 = true then (some true) else ((brk_Break.f a0 a1 a2).bind fun t111 => (if t111 > 0 then (some true) else (if a3 = true then (if 0 ≤ a2 then (if a2 < (a1.size : Int) then ((strings_IndexByte.f (⟨#[44, 91, 93, 123, 125]⟩ : ByteArray) (bt a1 a2)).bind fun t112 => (some (decide (t112 ≥ 0)))) else (none)) else (none)) else (some false))))))
set_option maxHeartbeats 8000000 in
set_option maxRecDepth 100000 in
theorem rows_Stop.calls (a0 : Int) (a1 : ByteArray) (a2 : Int) (a3 : Bool) (r : Bool) (w : World) (h : rows_Stop.f a0 a1 a2 a3 = some r) :
    Calls Try.prog 24 #[.int .i64 a0, .string a1, .int .i64 a2, .bool a3] w fun e w' => e = .returned (.bool r) ∧ Drawn0 w w' := by
  have H : (if a2 ≥ (a1.size : Int) then (some true) else ((rows_Blank.f a1 a2).bind fun t110 => (if t110 = true then (some true) else ((brk_Break.f a0 a1 a2).bind fun t111 => (if t111 > 0 then (some true) else (if a3 = true then (if 0 ≤ a2 then (if a2 < (a1.size : Int) then ((strings_IndexByte.f (⟨#[44, 91, 93, 123, 125]⟩ : ByteArray) (bt a1 a2)).bind fun t112 => (some (decide (t112 ≥ 0)))) else (none)) else (none)) else (some false))))))) = some r := h
  clear h
  by_cases c5 : a2 ≥ (a1.size : Int)
  · rw [if_pos c5] at H
    have c5b0 : decide ((a1.size : Int) ≤ a2) = true := decide_eq_true c5
    clear c5
    obtain rfl := Option.some.inj H
    go_enter Try.func24, Try.ntmps24
    go_wp2
    go_ret
    exact ⟨by first | rfl | (simp; done) | (simp [*]; done), by repeat (first | exact Drawn0.refl _ | apply Drawn0.step)⟩
  · rw [if_neg c5] at H
    have c5b0 : decide ((a1.size : Int) ≤ a2) = false := decide_eq_false c5
    clear c5
    replace H := Option.bind_eq_some_iff.mp H
    obtain ⟨t110, A60, H⟩ := H
    replace H : (if t110 = true then (some true) else ((brk_Break.f a0 a1 a2).bind fun t111 => (if t111 > 0 then (some true) else (if a3 = true then (if 0 ≤ a2 then (if a2 < (a1.size : Int) then ((strings_IndexByte.f (⟨#[44, 91, 93, 123, 125]⟩ : ByteArray) (bt a1 a2)).bind fun t112 => (some (decide (t112 ≥ 0)))) else (none)) else (none)) else (some false))))) = some r := H
    have A6 := Aside0.mk A60
    clear A60
    by_cases c7 : t110 = true
    · subst c7
      have H1 : (some true) = some r := by rw [if_pos rfl] at H; exact H
      clear H
      have H := H1
      clear H1
      obtain rfl := Option.some.inj H
      go_enter Try.func24, Try.ntmps24
      go_wp2_with (first | (go_at_call 39; (with_reducible refine (rows_Blank.calls a1 a2 true _ A6.out).mono ?_); rintro e w' ⟨rfl, ⟨nd, rfl⟩⟩))
      go_ret
      exact ⟨by first | rfl | (simp; done) | (simp [*]; done), by repeat (first | exact Drawn0.refl _ | apply Drawn0.step)⟩
    · replace c7 := Bool.eq_false_iff.mpr c7
      subst c7
      have H1 : ((brk_Break.f a0 a1 a2).bind fun t111 => (if t111 > 0 then (some true) else (if a3 = true then (if 0 ≤ a2 then (if a2 < (a1.size : Int) then ((strings_IndexByte.f (⟨#[44, 91, 93, 123, 125]⟩ : ByteArray) (bt a1 a2)).bind fun t112 => (some (decide (t112 ≥ 0)))) else (none)) else (none)) else (some false)))) = some r := by rw [if_neg (show ¬ (false = true) by decide)] at H; exact H
      clear H
      have H := H1
      clear H1
      replace H := Option.bind_eq_some_iff.mp H
      obtain ⟨t111, A80, H⟩ := H
      replace H : (if t111 > 0 then (some true) else (if a3 = true then (if 0 ≤ a2 then (if a2 < (a1.size : Int) then ((strings_IndexByte.f (⟨#[44, 91, 93, 123, 125]⟩ : ByteArray) (bt a1 a2)).bind fun t112 => (some (decide (t112 ≥ 0)))) else (none)) else (none)) else (some false))) = some r := H
      have A8 := Aside0.mk A80
      clear A80
      by_cases c9 : t111 > 0
      · rw [if_pos c9] at H
        have c9b0 : decide (0 < t111) = true := decide_eq_true c9
        clear c9
        obtain rfl := Option.some.inj H
        go_enter Try.func24, Try.ntmps24
        go_wp2_with (first | (go_at_call 39; (with_reducible refine (rows_Blank.calls a1 a2 false _ A6.out).mono ?_); rintro e w' ⟨rfl, ⟨nd, rfl⟩⟩) | (go_at_call 40; (with_reducible refine (brk_Break.calls a0 a1 a2 t111 _ A8.out).mono ?_); rintro e w' ⟨rfl, ⟨nd, rfl⟩⟩))
        go_ret
        exact ⟨by first | rfl | (simp; done) | (simp [*]; done), by repeat (first | exact Drawn0.refl _ | apply Drawn0.step)⟩
      · rw [if_neg c9] at H
        have c9b0 : decide (0 < t111) = false := decide_eq_false c9
        clear c9
        by_cases c10 : a3 = true
        · subst c10
          have H1 : (if 0 ≤ a2 then (if a2 < (a1.size : Int) then ((strings_IndexByte.f (⟨#[44, 91, 93, 123, 125]⟩ : ByteArray) (bt a1 a2)).bind fun t112 => (some (decide (t112 ≥ 0)))) else (none)) else (none)) = some r := by rw [if_pos rfl] at H; exact H
          clear H
          have H := H1
          clear H1
          by_cases c11 : 0 ≤ a2
          · rw [if_pos c11] at H
            have c11b0 : decide (0 ≤ a2) = true := decide_eq_true c11
            clear c11
            by_cases c12 : a2 < (a1.size : Int)
            · rw [if_pos c12] at H
              have c12b0 : decide (a2 < (a1.size : Int)) = true := decide_eq_true c12
              clear c12
              replace H := Option.bind_eq_some_iff.mp H
              obtain ⟨t112, A140, H⟩ := H
              replace H : (some (decide (t112 ≥ 0))) = some r := H
              have A14 := Aside0.mk A140
              clear A140
              obtain rfl := Option.some.inj H
              go_enter Try.func24, Try.ntmps24
              go_wp2_with (first | (go_at_call 39; (with_reducible refine (rows_Blank.calls a1 a2 false _ A6.out).mono ?_); rintro e w' ⟨rfl, ⟨nd, rfl⟩⟩) | (go_at_call 40; (with_reducible refine (brk_Break.calls a0 a1 a2 t111 _ A8.out).mono ?_); rintro e w' ⟨rfl, ⟨nd, rfl⟩⟩; have p13 : 0 ≤ (a2 : Int) := of_decide_eq_true (by first | (with_reducible assumption) | assumption); have q13 : a2 < (a1.size : Int) := of_decide_eq_true (by first | (with_reducible assumption) | assumption); have hx13 := bt_at a1 a2; replace p13 := eq_true p13; replace q13 := eq_true q13) | (go_at_call 41; (with_reducible refine (strings_IndexByte.calls (⟨#[44, 91, 93, 123, 125]⟩ : ByteArray) (bt a1 a2) t112 _ A14.out).mono ?_); rintro e w' ⟨rfl, ⟨nd, rfl⟩⟩))
              go_ret
              exact ⟨by first | rfl | (simp; done) | (simp [*]; done), by repeat (first | exact Drawn0.refl _ | apply Drawn0.step)⟩
            · rw [if_neg c12] at H
              exact absurd H (by simp)
          · rw [if_neg c11] at H
            exact absurd H (by simp)
        · replace c10 := Bool.eq_false_iff.mpr c10
          subst c10
          have H1 : (some false) = some r := by rw [if_neg (show ¬ (false = true) by decide)] at H; exact H
          clear H
          have H := H1
          clear H1
          obtain rfl := Option.some.inj H
          go_enter Try.func24, Try.ntmps24
          go_wp2_with (first | (go_at_call 39; (with_reducible refine (rows_Blank.calls a1 a2 false _ A6.out).mono ?_); rintro e w' ⟨rfl, ⟨nd, rfl⟩⟩) | (go_at_call 40; (with_reducible refine (brk_Break.calls a0 a1 a2 t111 _ A8.out).mono ?_); rintro e w' ⟨rfl, ⟨nd, rfl⟩⟩))
          go_ret
          exact ⟨by first | rfl | (simp; done) | (simp [*]; done), by repeat (first | exact Drawn0.refl _ | apply Drawn0.step)⟩

/-! ### rows_Over: function 25 -/
def rows_Over.l0 : Nat → ByteArray → Int → Option (Int)
  | 0, _, _ => none
  | k + 1, x0, x1 => (rows_Blank.f x0 x1).bind fun t113 => (if t113 = true then (rows_Over.l0 k x0 (wrap64 (x1 + 1))) else (some x1))
def rows_Over.f (k : Nat) (a0 : ByteArray) (a1 : Int) : Option (Int) := rows_Over.l0 k a0 a1
theorem rows_Over.mono_l : ∀ k, (∀ y0 y1, LeO (rows_Over.l0 k y0 y1) (rows_Over.l0 (k + 1) y0 y1))
  | 0 => fun _ _ r h => by simp [rows_Over.l0] at h
  | k + 1 => by
    have ih0 := rows_Over.mono_l k
    · intro y0 y1
      unfold rows_Over.l0
      repeat' first
      | (with_reducible exact ih0 _ _)
      | (with_reducible exact LeO.refl _)
      | (with_reducible exact LeO.none _)
      | (with_reducible refine LeO.ite ?_ ?_)
      | (with_reducible refine LeO.bind ?_ (fun _ => ?_))
      | exact ih0 _ _
      | exact LeO.none _
      | refine LeO.ite ?_ ?_
      | refine LeO.bind ?_ (fun _ => ?_)
theorem rows_Over.mono : ∀ a0 a1 k, LeO (rows_Over.f k a0 a1) (rows_Over.f (k + 1) a0 a1) := by
  intro a0 a1 k
  have ih0 := rows_Over.mono_l k
  unfold rows_Over.f
  repeat' first
      | (with_reducible exact ih0 _ _)
      | (with_reducible exact LeO.refl _)
      | (with_reducible exact LeO.none _)
      | (with_reducible refine LeO.ite ?_ ?_)
      | (with_reducible refine LeO.bind ?_ (fun _ => ?_))
      | exact ih0 _ _
      | exact LeO.none _
      | refine LeO.ite ?_ ?_
      | refine LeO.bind ?_ (fun _ => ?_)
set_option maxHeartbeats 8000000 in
set_option maxRecDepth 100000 in
theorem rows_Over.calls (k : Nat) (a0 : ByteArray) (a1 : Int) (r : Int) (w : World) (h : rows_Over.f k a0 a1 = some r) :
    Calls Try.prog 25 #[.string a0, .int .i64 a1] w fun e w' => e = .returned (.int .i64 r) ∧ Drawn0 w w' := by
  have H : (rows_Over.l0 k a0 a1) = some r := h
  clear h
  have H' := Aside0.mk H
  clear H
  go_enter Try.func25, Try.ntmps25
  go_wp2
  go_loopg [1] k (fun kq v1 w' => ∃ (x1_1 : Int), v1 = .int .i64 x1_1 ∧ Aside0 (rows_Over.l0 kq a0 x1_1 = some r) ∧ Aside0 (kq ≤ k) ∧ Drawn0 w w')
  case atStart => exact ⟨(a1), (by first | rfl | (simp; done) | (simp [*]; done)), H', ⟨Nat.le_refl _⟩, by repeat (first | exact Drawn0.refl _ | apply Drawn0.step)⟩
  case round =>
    clear H'
    try clear c2
    try clear p2
    obtain ⟨x1_1, rfl, HA, HK1, ⟨m1, rfl⟩⟩ := hrel
    cases gk with
    | zero => exact absurd HA.out (by simp [rows_Over.l0])
    | succ k1 =>
      have H := HA.out
      clear HA
      simp only [rows_Over.l0] at H
      replace H := Option.bind_eq_some_iff.mp H
      obtain ⟨t113, A30, H⟩ := H
      replace H : (if t113 = true then (rows_Over.l0 k1 a0 (wrap64 (x1_1 + 1))) else (some x1_1)) = some r := H
      have A3 := Aside0.mk A30
      clear A30
      by_cases c4 : t113 = true
      · subst c4
        have H1 : (rows_Over.l0 k1 a0 (wrap64 (x1_1 + 1))) = some r := by rw [if_pos rfl] at H; exact H
        clear H
        have H := H1
        clear H1
        have H' := Aside0.mk H
        clear H
        go_wp2_with (first | ((with_reducible refine gate_callee (f := 39) rfl ?_); refine goesL_ (some 7) rfl rfl Try.func39 (by kernel_rfl) rfl #[.string a0, .int .i64 x1_1] rfl (by (try simp only [List.map_toArray, List.map_cons, List.map_nil]); first | done | rfl | (simp only [List.length_drop, List.length_take]; rfl)) ?_; (with_reducible refine (rows_Blank.calls a0 x1_1 true _ A3.out).mono ?_); rintro e w' ⟨rfl, ⟨nd, rfl⟩⟩; refine ⟨_, rfl, ?_⟩))
        go_roundg k1
        case measure => have := HK1.out; omega
        case rel => exact ⟨(wrap64 (x1_1 + 1)), (by first | rfl | (simp; done) | (simp [*]; done)), H', ⟨by have := HK1.out; omega⟩, by repeat (first | exact Drawn0.refl _ | apply Drawn0.step)⟩
      · replace c4 := Bool.eq_false_iff.mpr c4
        subst c4
        have H1 : (some x1_1) = some r := by rw [if_neg (show ¬ (false = true) by decide)] at H; exact H
        clear H
        have H := H1
        clear H1
        obtain rfl := Option.some.inj H
        go_wp2_with (first | ((with_reducible refine gate_callee (f := 39) rfl ?_); refine goesL_ (some 7) rfl rfl Try.func39 (by kernel_rfl) rfl #[.string a0, .int .i64 x1_1] rfl (by (try simp only [List.map_toArray, List.map_cons, List.map_nil]); first | done | rfl | (simp only [List.length_drop, List.length_take]; rfl)) ?_; (with_reducible refine (rows_Blank.calls a0 x1_1 false _ A3.out).mono ?_); rintro e w' ⟨rfl, ⟨nd, rfl⟩⟩; refine ⟨_, rfl, ?_⟩))
        go_ret
        exact ⟨by first | rfl | (simp; done) | (simp [*]; done), by repeat (first | exact Drawn0.refl _ | apply Drawn0.step)⟩

end Go.Proofs.Ytaoameejkpipcaa.Q
