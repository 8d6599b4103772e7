-- Written by hookprint.py (a program of this project, over the kit's printer). Not trusted: Lean checks it.
import Derived.Test.YtgbnbjajaaggkaaQx0
import Derived.Test.YtgbnbjajaaggkaaQx4
import Derived.Test.YtgbnbjajaaggkaaQx7
namespace Go.Proofs.Ytgbnbjajaaggkaa.Q
open Go.RowKit Go.Proofs.YtgbnbjajaaggkaaW.PrintWords Go.Proofs.YtgbnbjajaaggkaaW.PrintLast Go.Proofs.YtgbnbjajaaggkaaW.PrintMore
attribute [local go_sem] max2_int min2_int max_two min_two max_three min_three max_four min_four   -- for this text's walks alone
set_option linter.unusedVariables false
set_option linter.unusedSimpArgs false

/-! ### targumref4_Value: function 38 -/
mutual
def targumref4_Value.j0 : Nat → Int → Bool → Option (Int)
  | 0, _, _ => none
  | k + 1, x0, x3 => if x3 = true then (some ((x0 - 48) % 256)) else (if x0 ≥ 97 then (targumref4_Value.j1 k x0 (decide (x0 ≤ 102))) else (targumref4_Value.j1 k x0 false))
def targumref4_Value.j1 : Nat → Int → Bool → Option (Int)
  | 0, _, _ => none
  | k + 1, x0, x13 => if x13 = true then (some (((x0 - 97) % 256) + 10)) else (if x0 ≥ 65 then (if x0 ≤ 70 then (some (((x0 - 65) % 256) + 10)) else (some 99)) else (some 99))
end
def targumref4_Value.f (k : Nat) (a0 : Int) : Option (Int) := if a0 ≥ 48 then (targumref4_Value.j0 k a0 (decide (a0 ≤ 57))) else (targumref4_Value.j0 k a0 false)
theorem targumref4_Value.mono_l : ∀ k, (∀ y0 y1, LeO (targumref4_Value.j0 k y0 y1) (targumref4_Value.j0 (k + 1) y0 y1)) ∧ (∀ y0 y1, LeO (targumref4_Value.j1 k y0 y1) (targumref4_Value.j1 (k + 1) y0 y1))
  | 0 => ⟨fun _ _ r h => by simp [targumref4_Value.j0] at h, fun _ _ r h => by simp [targumref4_Value.j1] at h⟩
  | k + 1 => by
    obtain ⟨ih0, ih1⟩ := targumref4_Value.mono_l k
    refine ⟨?_, ?_⟩
    · intro y0 y1
      unfold targumref4_Value.j0
      repeat' first
      | (with_reducible exact ih0 _ _)
      | (with_reducible exact ih1 _ _)
      | (with_reducible exact LeO.refl _)
      | (with_reducible exact LeO.none _)
      | (with_reducible refine LeO.ite ?_ ?_)
      | (with_reducible refine LeO.bind ?_ (fun _ => ?_))
      | exact ih0 _ _
      | exact ih1 _ _
      | exact LeO.none _
      | refine LeO.ite ?_ ?_
      | refine LeO.bind ?_ (fun _ => ?_)
    · intro y0 y1
      unfold targumref4_Value.j1
      repeat' first
      | (with_reducible exact ih0 _ _)
      | (with_reducible exact ih1 _ _)
      | (with_reducible exact LeO.refl _)
      | (with_reducible exact LeO.none _)
      | (with_reducible refine LeO.ite ?_ ?_)
      | (with_reducible refine LeO.bind ?_ (fun _ => ?_))
      | exact ih0 _ _
      | exact ih1 _ _
      | exact LeO.none _
      | refine LeO.ite ?_ ?_
      | refine LeO.bind ?_ (fun _ => ?_)
theorem targumref4_Value.mono : ∀ a0 k, LeO (targumref4_Value.f k a0) (targumref4_Value.f (k + 1) a0) := by
  intro a0 k
  obtain ⟨ih0, ih1⟩ := targumref4_Value.mono_l k
  unfold targumref4_Value.f
  repeat' first
      | (with_reducible exact ih0 _ _)
      | (with_reducible exact ih1 _ _)
      | (with_reducible exact LeO.refl _)
      | (with_reducible exact LeO.none _)
      | (with_reducible refine LeO.ite ?_ ?_)
      | (with_reducible refine LeO.bind ?_ (fun _ => ?_))
      | exact ih0 _ _
      | exact ih1 _ _
      | exact LeO.none _
      | refine LeO.ite ?_ ?_
      | refine LeO.bind ?_ (fun _ => ?_)
set_option maxHeartbeats 8000000 in
set_option maxRecDepth 100000 in
theorem targumref4_Value.calls (k : Nat) (a0 : Int) (r : Int) (w : World) (h : targumref4_Value.f k a0 = some r) :
    Calls Try.prog 38 #[.int .u8 a0] w fun e w' => e = .returned (.int .i64 r) ∧ Drawn0 w w' := by
  have H : (if a0 ≥ 48 then (targumref4_Value.j0 k a0 (decide (a0 ≤ 57))) else (targumref4_Value.j0 k a0 false)) = some r := h
  clear h
  have HC2 := Aside0.mk H
  clear H
  go_enter Try.func38, Try.ntmps38
  go_upto_region 1 with (fail)
  go_cut [3] (fun v3 wc => ∃ (kq : Nat) (x3_1 : Bool), v3 = .bool x3_1 ∧ Aside0 (targumref4_Value.j0 kq a0 x3_1 = some r) ∧ Aside0 (kq ≤ k) ∧ Drawn0 w wc)
  case first =>
    have H := HC2.out
    clear HC2
    by_cases c3 : a0 ≥ 48
    · rw [if_pos c3] at H
      have c3b0 : decide (48 ≤ a0) = true := decide_eq_true c3
      clear c3
      (first | rw [c3b0] | (simp only [i64_w, i32_w]; rw [c3b0]) | skip)
      have H' := Aside0.mk H
      clear H
      go_wp2
      go_meet
      case rel => exact ⟨_, (decide (a0 ≤ 57)), (by first | rfl | (simp; done) | (simp [*]; done)), H', ⟨by first | omega | exact Nat.le_refl _⟩, by repeat (first | exact Drawn0.refl _ | apply Drawn0.step)⟩
    · rw [if_neg c3] at H
      have c3b0 : decide (48 ≤ a0) = false := decide_eq_false c3
      clear c3
      (first | rw [c3b0] | (simp only [i64_w, i32_w]; rw [c3b0]) | skip)
      have H' := Aside0.mk H
      clear H
      go_wp2
      go_meet
      case rel => exact ⟨_, (false), (by first | rfl | (simp; done) | (simp [*]; done)), H', ⟨by first | omega | exact Nat.le_refl _⟩, by repeat (first | exact Drawn0.refl _ | apply Drawn0.step)⟩
  case rest =>
    clear HC2
    (try clear p2); (try clear c3); (try clear c3b0)
    obtain ⟨kq, x3_1, rfl, HA, HJ1, ⟨mc1, rfl⟩⟩ := hcut
    cases kq with
    | zero => exact absurd HA.out (by simp [targumref4_Value.j0])
    | succ kj1 =>
      have H := HA.out
      clear HA
      simp only [targumref4_Value.j0] at H
      by_cases c4 : x3_1 = true
      · subst c4
        have H1 : (some ((a0 - 48) % 256)) = some r := by rw [if_pos rfl] at H; exact H
        clear H
        have H := H1
        clear H1
        obtain rfl := Option.some.inj H
        go_wp2
        go_ret
        exact ⟨by first | rfl | (simp; done) | (simp [*]; done), by repeat (first | exact Drawn0.refl _ | apply Drawn0.step)⟩
      · replace c4 := Bool.eq_false_iff.mpr c4
        subst c4
        have H1 : (if a0 ≥ 97 then (targumref4_Value.j1 kj1 a0 (decide (a0 ≤ 102))) else (targumref4_Value.j1 kj1 a0 false)) = some r := by rw [if_neg (show ¬ (false = true) by decide)] at H; exact H
        clear H
        have H := H1
        clear H1
        have HC5 := Aside0.mk H
        clear H
        go_upto_region 3 with (fail)
        go_cut [13] (fun v13 wc => ∃ (kq : Nat) (x13_4 : Bool), v13 = .bool x13_4 ∧ Aside0 (targumref4_Value.j1 kq a0 x13_4 = some r) ∧ Aside0 (kq ≤ kj1) ∧ Drawn0 w wc)
        case first =>
          have H := HC5.out
          clear HC5
          by_cases c6 : a0 ≥ 97
          · rw [if_pos c6] at H
            have c6b0 : decide (97 ≤ a0) = true := decide_eq_true c6
            clear c6
            (first | rw [c6b0] | (simp only [i64_w, i32_w]; rw [c6b0]) | skip)
            have H' := Aside0.mk H
            clear H
            go_wp2
            go_meet
            case rel => exact ⟨_, (decide (a0 ≤ 102)), (by first | rfl | (simp; done) | (simp [*]; done)), H', ⟨by have := HJ1.out; first | omega | exact Nat.le_refl _⟩, by repeat (first | exact Drawn0.refl _ | apply Drawn0.step)⟩
          · rw [if_neg c6] at H
            have c6b0 : decide (97 ≤ a0) = false := decide_eq_false c6
            clear c6
            (first | rw [c6b0] | (simp only [i64_w, i32_w]; rw [c6b0]) | skip)
            have H' := Aside0.mk H
            clear H
            go_wp2
            go_meet
            case rel => exact ⟨_, (false), (by first | rfl | (simp; done) | (simp [*]; done)), H', ⟨by have := HJ1.out; first | omega | exact Nat.le_refl _⟩, by repeat (first | exact Drawn0.refl _ | apply Drawn0.step)⟩
        case rest =>
          clear HC5
          (try clear c1); (try clear p2); (try clear c3); (try clear c3b0); (try clear c4); (try clear c6); (try clear c6b0)
          obtain ⟨kq, x13_4, rfl, HA, HJ4, ⟨mc4, rfl⟩⟩ := hcut
          cases kq with
          | zero => exact absurd HA.out (by simp [targumref4_Value.j1])
          | succ kj4 =>
            have H := HA.out
            clear HA
            simp only [targumref4_Value.j1] at H
            by_cases c7 : x13_4 = true
            · subst c7
              have H1 : (some (((a0 - 97) % 256) + 10)) = some r := by rw [if_pos rfl] at H; exact H
              clear H
              have H := H1
              clear H1
              obtain rfl := Option.some.inj H
              go_wp2
              go_ret
              exact ⟨by first | rfl | (simp; done) | (simp [*]; done), by repeat (first | exact Drawn0.refl _ | apply Drawn0.step)⟩
            · replace c7 := Bool.eq_false_iff.mpr c7
              subst c7
              have H1 : (if a0 ≥ 65 then (if a0 ≤ 70 then (some (((a0 - 65) % 256) + 10)) else (some 99)) else (some 99)) = some r := by rw [if_neg (show ¬ (false = true) by decide)] at H; exact H
              clear H
              have H := H1
              clear H1
              by_cases c8 : a0 ≥ 65
              · rw [if_pos c8] at H
                have c8b0 : decide (65 ≤ a0) = true := decide_eq_true c8
                clear c8
                by_cases c9 : a0 ≤ 70
                · rw [if_pos c9] at H
                  have c9b0 : decide (a0 ≤ 70) = true := decide_eq_true c9
                  clear c9
                  obtain rfl := Option.some.inj H
                  go_wp2
                  go_ret
                  exact ⟨by first | rfl | (simp; done) | (simp [*]; done), by repeat (first | exact Drawn0.refl _ | apply Drawn0.step)⟩
                · rw [if_neg c9] at H
                  have c9b0 : decide (a0 ≤ 70) = false := decide_eq_false c9
                  clear c9
                  obtain rfl := Option.some.inj H
                  go_wp2
                  go_ret
                  exact ⟨by first | rfl | (simp; done) | (simp [*]; done), by repeat (first | exact Drawn0.refl _ | apply Drawn0.step)⟩
              · rw [if_neg c8] at H
                have c8b0 : decide (65 ≤ a0) = false := decide_eq_false c8
                clear c8
                obtain rfl := Option.some.inj H
                go_wp2
                go_ret
                exact ⟨by first | rfl | (simp; done) | (simp [*]; done), by repeat (first | exact Drawn0.refl _ | apply Drawn0.step)⟩

/-! ### targumref17_escape: function 26 -/
mutual
def targumref17_escape.j0 : Nat → Int → ByteArray → Int → Int → Option (Int × Int)
  | 0, _, _, _, _ => none
  | k + 1, x0, x1, x2, x8 => if x8 = 0 then (if 0 ≤ (wrap64 (x2 + 1)) then (if (wrap64 (x2 + 1)) < (x1.size : Int) then ((targumref17_simple.f k x0 (bt x1 (wrap64 (x2 + 1)))).bind fun t196 => (some (t196, wrap64 (x2 + 2)))) else (none)) else (none)) else (targumref17_escape.l0 k x1 x2 x8 0 0)
def targumref17_escape.l0 : Nat → ByteArray → Int → Int → Int → Int → Option (Int × Int)
  | 0, _, _, _, _, _ => none
  | k + 1, x1, x2, x8, x9, x10 => if x10 < x8 then (if (wrap64 ((wrap64 (x2 + 2)) + x10)) ≥ (x1.size : Int) then (some ((-1), 0)) else (if 0 ≤ (wrap64 ((wrap64 (x2 + 2)) + x10)) then (if (wrap64 ((wrap64 (x2 + 2)) + x10)) < (x1.size : Int) then ((targumref4_Value.f k (bt x1 (wrap64 ((wrap64 (x2 + 2)) + x10)))).bind fun t198 => (if t198 > 15 then (some ((-1), 0)) else ((targumref4_Value.f k (bt x1 (wrap64 ((wrap64 (x2 + 2)) + x10)))).bind fun t199 => (targumref17_escape.l0 k x1 x2 x8 (wrap64 ((wrap64 (x9 * 16)) + t199)) (wrap64 (x10 + 1)))))) else (none)) else (none))) else ((targumref1_IsScalar.f x9).bind fun t197 => (if t197 = true then (some (x9, wrap64 ((wrap64 (x2 + 2)) + x8))) else (some ((-1), 0))))
end
def targumref17_escape.f (k : Nat) (a0 : Int) (a1 : ByteArray) (a2 : Int) : Option (Int × Int) := if (wrap64 (a2 + 1)) ≥ (a1.size : Int) then (some ((-1), 0)) else (if 0 ≤ (wrap64 (a2 + 1)) then (if (wrap64 (a2 + 1)) < (a1.size : Int) then (if (bt a1 (wrap64 (a2 + 1))) = 120 then (targumref17_escape.j0 k a0 a1 a2 2) else (if (bt a1 (wrap64 (a2 + 1))) = 117 then (targumref17_escape.j0 k a0 a1 a2 4) else (if (bt a1 (wrap64 (a2 + 1))) = 85 then (targumref17_escape.j0 k a0 a1 a2 8) else (targumref17_escape.j0 k a0 a1 a2 0)))) else (none)) else (none))
theorem targumref17_escape.mono_l : ∀ k, (∀ y0 y1 y2 y3, LeO (targumref17_escape.j0 k y0 y1 y2 y3) (targumref17_escape.j0 (k + 1) y0 y1 y2 y3)) ∧ (∀ y0 y1 y2 y3 y4, LeO (targumref17_escape.l0 k y0 y1 y2 y3 y4) (targumref17_escape.l0 (k + 1) y0 y1 y2 y3 y4))
  | 0 => ⟨fun _ _ _ _ r h => by simp [targumref17_escape.j0] at h, fun _ _ _ _ _ r h => by simp [targumref17_escape.l0] at h⟩
  | k + 1 => by
    obtain ⟨ih0, ih1⟩ := targumref17_escape.mono_l k
    refine ⟨?_, ?_⟩
    · intro y0 y1 y2 y3
      unfold targumref17_escape.j0
      repeat' first
      | (with_reducible exact ih0 _ _ _ _)
      | (with_reducible exact ih1 _ _ _ _ _)
      | (with_reducible exact targumref17_simple.mono _ _ _)
      | (with_reducible exact targumref4_Value.mono _ _)
      | (with_reducible exact LeO.refl _)
      | (with_reducible exact LeO.none _)
      | (with_reducible refine LeO.ite ?_ ?_)
      | (with_reducible refine LeO.bind ?_ (fun _ => ?_))
      | exact ih0 _ _ _ _
      | exact ih1 _ _ _ _ _
      | exact targumref17_simple.mono _ _ _
      | exact targumref4_Value.mono _ _
      | exact LeO.none _
      | refine LeO.ite ?_ ?_
      | refine LeO.bind ?_ (fun _ => ?_)
    · intro y0 y1 y2 y3 y4
      unfold targumref17_escape.l0
      repeat' first
      | (with_reducible exact ih0 _ _ _ _)
      | (with_reducible exact ih1 _ _ _ _ _)
      | (with_reducible exact targumref17_simple.mono _ _ _)
      | (with_reducible exact targumref4_Value.mono _ _)
      | (with_reducible exact LeO.refl _)
      | (with_reducible exact LeO.none _)
      | (with_reducible refine LeO.ite ?_ ?_)
      | (with_reducible refine LeO.bind ?_ (fun _ => ?_))
      | exact ih0 _ _ _ _
      | exact ih1 _ _ _ _ _
      | exact targumref17_simple.mono _ _ _
      | exact targumref4_Value.mono _ _
      | exact LeO.none _
      | refine LeO.ite ?_ ?_
      | refine LeO.bind ?_ (fun _ => ?_)
theorem targumref17_escape.mono : ∀ a0 a1 a2 k, LeO (targumref17_escape.f k a0 a1 a2) (targumref17_escape.f (k + 1) a0 a1 a2) := by
  intro a0 a1 a2 k
  obtain ⟨ih0, ih1⟩ := targumref17_escape.mono_l k
  unfold targumref17_escape.f
  repeat' first
      | (with_reducible exact ih0 _ _ _ _)
      | (with_reducible exact ih1 _ _ _ _ _)
      | (with_reducible exact targumref17_simple.mono _ _ _)
      | (with_reducible exact targumref4_Value.mono _ _)
      | (with_reducible exact LeO.refl _)
      | (with_reducible exact LeO.none _)
      | (with_reducible refine LeO.ite ?_ ?_)
      | (with_reducible refine LeO.bind ?_ (fun _ => ?_))
      | exact ih0 _ _ _ _
      | exact ih1 _ _ _ _ _
      | exact targumref17_simple.mono _ _ _
      | exact targumref4_Value.mono _ _
      | exact LeO.none _
      | refine LeO.ite ?_ ?_
      | refine LeO.bind ?_ (fun _ => ?_)
set_option maxHeartbeats 8000000 in
set_option maxRecDepth 100000 in
theorem targumref17_escape.calls (k : Nat) (a0 : Int) (a1 : ByteArray) (a2 : Int) (r1 : Int) (r2 : Int) (w : World) (h : targumref17_escape.f k a0 a1 a2 = some (r1, r2)) :
    Calls Try.prog 26 #[.int .i64 a0, .string a1, .int .i64 a2] w fun e w' => e = .returned (.tuple #[.int .i64 r1, .int .i64 r2]) ∧ Drawn0 w w' := by
  have H : (if (wrap64 (a2 + 1)) ≥ (a1.size : Int) then (some ((-1), 0)) else (if 0 ≤ (wrap64 (a2 + 1)) then (if (wrap64 (a2 + 1)) < (a1.size : Int) then (if (bt a1 (wrap64 (a2 + 1))) = 120 then (targumref17_escape.j0 k a0 a1 a2 2) else (if (bt a1 (wrap64 (a2 + 1))) = 117 then (targumref17_escape.j0 k a0 a1 a2 4) else (if (bt a1 (wrap64 (a2 + 1))) = 85 then (targumref17_escape.j0 k a0 a1 a2 8) else (targumref17_escape.j0 k a0 a1 a2 0)))) else (none)) else (none))) = some (r1, r2) := h
  clear h
  by_cases c4 : (wrap64 (a2 + 1)) ≥ (a1.size : Int)
  · rw [if_pos c4] at H
    have c4b0 : decide ((a1.size : Int) ≤ (wrap64 (a2 + 1))) = true := decide_eq_true c4
    (try (have c4b1 : decide ((a1.size : Int) ≤ ((a2 + 1))) = true := (by have e_ : wrap64 (a2 + 1) = (a2 + 1) := (by unfold wrap64; omega); have h_ : decide ((a1.size : Int) ≤ (wrap64 (a2 + 1))) = true := decide_eq_true c4; rw [e_] at h_; exact h_)))
    clear c4
    simp only [Option.some.injEq, Prod.mk.injEq] at H
    obtain ⟨rfl, rfl⟩ := H
    go_enter Try.func26, Try.ntmps26
    go_wp2
    go_ret2
    exact ⟨by first | rfl | (simp; done) | (simp [*]; done), by repeat (first | exact Drawn0.refl _ | apply Drawn0.step)⟩
  · rw [if_neg c4] at H
    have c4b0 : decide ((a1.size : Int) ≤ (wrap64 (a2 + 1))) = false := decide_eq_false c4
    (try (have c4b1 : decide ((a1.size : Int) ≤ ((a2 + 1))) = false := (by have e_ : wrap64 (a2 + 1) = (a2 + 1) := (by unfold wrap64; omega); have h_ : decide ((a1.size : Int) ≤ (wrap64 (a2 + 1))) = false := decide_eq_false c4; rw [e_] at h_; exact h_)))
    clear c4
    obtain ⟨ji5, hji5⟩ : ∃ j_ : Int, (wrap64 (a2 + 1)) = j_ := ⟨_, rfl⟩
    replace H : (if 0 ≤ (ji5) then (if (ji5) < (a1.size : Int) then (if (bt a1 (ji5)) = 120 then (targumref17_escape.j0 k a0 a1 a2 2) else (if (bt a1 (ji5)) = 117 then (targumref17_escape.j0 k a0 a1 a2 4) else (if (bt a1 (ji5)) = 85 then (targumref17_escape.j0 k a0 a1 a2 8) else (targumref17_escape.j0 k a0 a1 a2 0)))) else (none)) else (none)) = some (r1, r2) := by first | (rw [hji5] at H; exact H) | (simp only [hji5] at H ⊢; exact H)
    (try rw [hji5] at c4b0)
    (try rw [hji5] at c4b1)
    have hji5w : (IntKind.i64.wrap (a2 + 1)) = ji5 := (i64_w _).trans hji5
    by_cases c6 : 0 ≤ (ji5)
    · rw [if_pos c6] at H
      have c6b0 : decide (0 ≤ (ji5)) = true := decide_eq_true c6
      clear c6
      by_cases c7 : (ji5) < (a1.size : Int)
      · rw [if_pos c7] at H
        have c7b0 : decide ((ji5) < (a1.size : Int)) = true := decide_eq_true c7
        clear c7
        have HC9 := Aside0.mk H
        clear H
        have p8 : 0 ≤ ((ji5) : Int) := of_decide_eq_true (by first | (with_reducible assumption) | assumption)
        have q8 : (ji5) < (a1.size : Int) := of_decide_eq_true (by first | (with_reducible assumption) | assumption)
        have hx8 := bt_at a1 (ji5)
        replace p8 := eq_true p8
        replace q8 := eq_true q8
        go_enter Try.func26, Try.ntmps26
        go_upto_block 0 with (fail)
        go_cut [8] (fun v8 wc => ∃ (kq : Nat) (x8_8 : Int), v8 = .int .i64 x8_8 ∧ Aside0 (targumref17_escape.j0 kq a0 a1 a2 x8_8 = some (r1, r2)) ∧ Aside0 (kq ≤ k) ∧ Drawn0 w wc)
        case first =>
          have H := HC9.out
          clear HC9
          by_cases c10 : (bt a1 (ji5)) = 120
          · rw [if_pos c10] at H
            have c10b0 : ((bt a1 (ji5)) == 120) = true := beq_iff_eq.mpr c10
            have c10b1 : ((bt a1 (ji5)) != 120) = false := bne_eq_false_iff_eq.mpr c10
            clear c10
            (first | rw [c10b0] | (simp only [i64_w, i32_w]; rw [c10b0]) | skip)
            have H' := Aside0.mk H
            clear H
            go_wp2
            go_meet
            case rel => exact ⟨_, (2), (by first | rfl | (simp; done) | (simp [*]; done)), H', ⟨by first | omega | exact Nat.le_refl _⟩, by repeat (first | exact Drawn0.refl _ | apply Drawn0.step)⟩
          · rw [if_neg c10] at H
            have c10b0 : ((bt a1 (ji5)) == 120) = false := beq_eq_false_iff_ne.mpr c10
            have c10b1 : ((bt a1 (ji5)) != 120) = true := bne_iff_ne.mpr c10
            (first | rw [c10b0] | (simp only [i64_w, i32_w]; rw [c10b0]) | skip)
            by_cases c11 : (bt a1 (ji5)) = 117
            · rw [if_pos c11] at H
              have c11b0 : ((bt a1 (ji5)) == 117) = true := beq_iff_eq.mpr c11
              have c11b1 : ((bt a1 (ji5)) != 117) = false := bne_eq_false_iff_eq.mpr c11
              clear c11
              have H' := Aside0.mk H
              clear H
              go_wp2
              go_meet
              case rel => exact ⟨_, (4), (by first | rfl | (simp; done) | (simp [*]; done)), H', ⟨by first | omega | exact Nat.le_refl _⟩, by repeat (first | exact Drawn0.refl _ | apply Drawn0.step)⟩
            · rw [if_neg c11] at H
              have c11b0 : ((bt a1 (ji5)) == 117) = false := beq_eq_false_iff_ne.mpr c11
              have c11b1 : ((bt a1 (ji5)) != 117) = true := bne_iff_ne.mpr c11
              by_cases c12 : (bt a1 (ji5)) = 85
              · rw [if_pos c12] at H
                have c12b0 : ((bt a1 (ji5)) == 85) = true := beq_iff_eq.mpr c12
                have c12b1 : ((bt a1 (ji5)) != 85) = false := bne_eq_false_iff_eq.mpr c12
                clear c12
                have H' := Aside0.mk H
                clear H
                go_wp2
                go_meet
                case rel => exact ⟨_, (8), (by first | rfl | (simp; done) | (simp [*]; done)), H', ⟨by first | omega | exact Nat.le_refl _⟩, by repeat (first | exact Drawn0.refl _ | apply Drawn0.step)⟩
              · rw [if_neg c12] at H
                have c12b0 : ((bt a1 (ji5)) == 85) = false := beq_eq_false_iff_ne.mpr c12
                have c12b1 : ((bt a1 (ji5)) != 85) = true := bne_iff_ne.mpr c12
                have H' := Aside0.mk H
                clear H
                go_wp2
                go_meet
                case rel => exact ⟨_, (0), (by first | rfl | (simp; done) | (simp [*]; done)), H', ⟨by first | omega | exact Nat.le_refl _⟩, by repeat (first | exact Drawn0.refl _ | apply Drawn0.step)⟩
        case rest =>
          clear HC9
          (try clear c1); (try clear c2); (try clear p2); (try clear c4); (try clear c4b0); (try clear c4b1); (try clear c6); (try clear c6b0); (try clear p6); (try clear c7); (try clear c7b0); (try clear p8); (try clear q8); (try clear hx8); (try clear c10); (try clear c10b0); (try clear c10b1); (try clear c11); (try clear c11b0); (try clear c11b1); (try clear c12); (try clear c12b0); (try clear c12b1)
          obtain ⟨kq, x8_8, rfl, HA, HJ8, ⟨mc8, rfl⟩⟩ := hcut
          cases kq with
          | zero => exact absurd HA.out (by simp [targumref17_escape.j0])
          | succ kj8 =>
            have H := HA.out
            clear HA
            simp only [targumref17_escape.j0] at H
            by_cases c13 : x8_8 = 0
            · rw [if_pos c13] at H
              have c13b0 : (x8_8 == 0) = true := beq_iff_eq.mpr c13
              have c13b1 : (x8_8 != 0) = false := bne_eq_false_iff_eq.mpr c13
              clear c13
              obtain ⟨ji14, hji14⟩ : ∃ j_ : Int, (wrap64 (a2 + 1)) = j_ := ⟨_, rfl⟩
              obtain rfl : ji14 = ji5 := hji14.symm.trans hji5
              replace H : (if 0 ≤ (ji14) then (if (ji14) < (a1.size : Int) then ((targumref17_simple.f kj8 a0 (bt a1 (ji14))).bind fun t196 => (some (t196, wrap64 (a2 + 2)))) else (none)) else (none)) = some (r1, r2) := by first | (rw [hji14] at H; exact H) | (simp only [hji14] at H ⊢; exact H)
              (try rw [hji14] at c4b0)
              (try rw [hji14] at c4b1)
              have hji14w : (IntKind.i64.wrap (a2 + 1)) = ji14 := (i64_w _).trans hji14
              by_cases c15 : 0 ≤ (ji14)
              · rw [if_pos c15] at H
                have c15b0 : decide (0 ≤ (ji14)) = true := decide_eq_true c15
                clear c15
                by_cases c16 : (ji14) < (a1.size : Int)
                · rw [if_pos c16] at H
                  have c16b0 : decide ((ji14) < (a1.size : Int)) = true := decide_eq_true c16
                  clear c16
                  replace H := Option.bind_eq_some_iff.mp H
                  obtain ⟨t196, A180, H⟩ := H
                  replace H : (some (t196, wrap64 (a2 + 2))) = some (r1, r2) := H
                  have A18 := Aside0.mk A180
                  clear A180
                  simp only [Option.some.injEq, Prod.mk.injEq] at H
                  obtain ⟨rfl, rfl⟩ := H
                  have p17 : 0 ≤ ((ji14) : Int) := of_decide_eq_true (by first | (with_reducible assumption) | assumption)
                  have q17 : (ji14) < (a1.size : Int) := of_decide_eq_true (by first | (with_reducible assumption) | assumption)
                  have hx17 := bt_at a1 (ji14)
                  replace p17 := eq_true p17
                  replace q17 := eq_true q17
                  go_wp2_with (first | ((with_reducible refine gate_callee (f := 37) rfl ?_); refine goesL_ (some 33) rfl rfl Try.func37 (by kernel_rfl) rfl #[.int .i64 a0, .int .u8 (bt a1 (ji14))] rfl (by (try simp only [List.map_toArray, List.map_cons, List.map_nil]); first | done | (simp only [hji14]; rfl) | rfl | (simp only [List.length_drop, List.length_take]; rfl)) ?_; (with_reducible refine (targumref17_simple.calls kj8 a0 (bt a1 (ji14)) t196 _ A18.out).mono ?_); rintro e w' ⟨rfl, ⟨nd, rfl⟩⟩; refine ⟨_, rfl, ?_⟩))
                  go_ret2
                  exact ⟨by first | rfl | (simp; done) | (simp only [← hji5, ← hji14] <;> (first | rfl | simp)) | (simp [*]; done), by repeat (first | exact Drawn0.refl _ | apply Drawn0.step)⟩
                · rw [if_neg c16] at H
                  exact absurd H (by simp)
              · rw [if_neg c15] at H
                exact absurd H (by simp)
            · rw [if_neg c13] at H
              have c13b0 : (x8_8 == 0) = false := beq_eq_false_iff_ne.mpr c13
              have c13b1 : (x8_8 != 0) = true := bne_iff_ne.mpr c13
              have H' := Aside0.mk H
              clear H
              go_wp2
              go_loopg [9, 10] kj8 (fun kq v9 v10 w' => ∃ (x9_2 : Int) (x10_2 : Int), v9 = .int .i64 x9_2 ∧ v10 = .int .i64 x10_2 ∧ Aside0 (targumref17_escape.l0 kq a1 a2 x8_8 x9_2 x10_2 = some (r1, r2)) ∧ Aside0 (kq ≤ kj8) ∧ Drawn0 w w')
              case atStart => exact ⟨(0), (0), (by first | rfl | (simp; done) | (simp [*]; done)), (by first | rfl | (simp; done) | (simp [*]; done)), H', ⟨Nat.le_refl _⟩, by repeat (first | exact Drawn0.refl _ | apply Drawn0.step)⟩
              case round =>
                clear H'
                (try clear c1); (try clear p1); (try clear q1); (try clear hx1); (try clear c2); (try clear p2); (try clear c3); (try clear c4); (try clear c4b0); (try clear c4b1); (try clear c6); (try clear c6b0); (try clear p6); (try clear c7); (try clear c7b0); (try clear c8); (try clear p8); (try clear q8); (try clear hx8); (try clear c10); (try clear c10b0); (try clear c10b1); (try clear c11); (try clear c11b0); (try clear c11b1); (try clear c12); (try clear c12b0); (try clear c12b1); (try clear c13); (try clear c13b0); (try clear c13b1); (try clear c15); (try clear c15b0); (try clear c16); (try clear c16b0); (try clear p17); (try clear q17); (try clear hx17)
                obtain ⟨x9_2, x10_2, rfl, rfl, HA, HK2, ⟨m2, rfl⟩⟩ := hrel
                cases gk with
                | zero => exact absurd HA.out (by simp [targumref17_escape.l0])
                | succ k2 =>
                  have H := HA.out
                  clear HA
                  simp only [targumref17_escape.l0] at H
                  by_cases c19 : x10_2 < x8_8
                  · rw [if_pos c19] at H
                    have c19b0 : decide (x10_2 < x8_8) = true := decide_eq_true c19
                    clear c19
                    by_cases c20 : (wrap64 ((wrap64 (a2 + 2)) + x10_2)) ≥ (a1.size : Int)
                    · rw [if_pos c20] at H
                      have c20b0 : decide ((a1.size : Int) ≤ (wrap64 ((wrap64 (a2 + 2)) + x10_2))) = true := decide_eq_true c20
                      clear c20
                      simp only [Option.some.injEq, Prod.mk.injEq] at H
                      obtain ⟨rfl, rfl⟩ := H
                      go_wp2
                      go_ret2
                      exact ⟨by first | rfl | (simp; done) | (simp only [← hji5] <;> (first | rfl | simp)) | (simp [*]; done), by repeat (first | exact Drawn0.refl _ | apply Drawn0.step)⟩
                    · rw [if_neg c20] at H
                      have c20b0 : decide ((a1.size : Int) ≤ (wrap64 ((wrap64 (a2 + 2)) + x10_2))) = false := decide_eq_false c20
                      clear c20
                      obtain ⟨ji21, hji21⟩ : ∃ j_ : Int, (wrap64 ((wrap64 (a2 + 2)) + x10_2)) = j_ := ⟨_, rfl⟩
                      replace H : (if 0 ≤ (ji21) then (if (ji21) < (a1.size : Int) then ((targumref4_Value.f k2 (bt a1 (ji21))).bind fun t198 => (if t198 > 15 then (some ((-1), 0)) else ((targumref4_Value.f k2 (bt a1 (ji21))).bind fun t199 => (targumref17_escape.l0 k2 a1 a2 x8_8 (wrap64 ((wrap64 (x9_2 * 16)) + t199)) (wrap64 (x10_2 + 1)))))) else (none)) else (none)) = some (r1, r2) := by first | (rw [hji21] at H; exact H) | (simp only [hji21] at H ⊢; exact H)
                      (try rw [hji21] at c20b0)
                      have hji21w : (IntKind.i64.wrap ((wrap64 (a2 + 2)) + x10_2)) = ji21 := (i64_w _).trans hji21
                      by_cases c22 : 0 ≤ (ji21)
                      · rw [if_pos c22] at H
                        have c22b0 : decide (0 ≤ (ji21)) = true := decide_eq_true c22
                        clear c22
                        by_cases c23 : (ji21) < (a1.size : Int)
                        · rw [if_pos c23] at H
                          have c23b0 : decide ((ji21) < (a1.size : Int)) = true := decide_eq_true c23
                          clear c23
                          replace H := Option.bind_eq_some_iff.mp H
                          obtain ⟨t198, A250, H⟩ := H
                          replace H : (if t198 > 15 then (some ((-1), 0)) else ((targumref4_Value.f k2 (bt a1 (ji21))).bind fun t199 => (targumref17_escape.l0 k2 a1 a2 x8_8 (wrap64 ((wrap64 (x9_2 * 16)) + t199)) (wrap64 (x10_2 + 1))))) = some (r1, r2) := H
                          have A25 := Aside0.mk A250
                          clear A250
                          by_cases c26 : t198 > 15
                          · rw [if_pos c26] at H
                            have c26b0 : decide (15 < t198) = true := decide_eq_true c26
                            clear c26
                            simp only [Option.some.injEq, Prod.mk.injEq] at H
                            obtain ⟨rfl, rfl⟩ := H
                            have p24 : 0 ≤ ((ji21) : Int) := of_decide_eq_true (by first | (with_reducible assumption) | assumption)
                            have q24 : (ji21) < (a1.size : Int) := of_decide_eq_true (by first | (with_reducible assumption) | assumption)
                            have hx24 := bt_at a1 (ji21)
                            replace p24 := eq_true p24
                            replace q24 := eq_true q24
                            go_wp2_with (first | (go_at_call 38; (with_reducible refine (targumref4_Value.calls k2 (bt a1 (ji21)) t198 _ A25.out).mono ?_); rintro e w' ⟨rfl, ⟨nd, rfl⟩⟩))
                            go_ret2
                            exact ⟨by first | rfl | (simp; done) | (simp only [← hji5, ← hji21] <;> (first | rfl | simp)) | (simp [*]; done), by repeat (first | exact Drawn0.refl _ | apply Drawn0.step)⟩
                          · rw [if_neg c26] at H
                            have c26b0 : decide (15 < t198) = false := decide_eq_false c26
                            clear c26
                            replace H := Option.bind_eq_some_iff.mp H
                            obtain ⟨t199, A280, H⟩ := H
                            replace H : (targumref17_escape.l0 k2 a1 a2 x8_8 (wrap64 ((wrap64 (x9_2 * 16)) + t199)) (wrap64 (x10_2 + 1))) = some (r1, r2) := H
                            have A28 := Aside0.mk A280
                            clear A280
                            have H' := Aside0.mk H
                            clear H
                            have p24 : 0 ≤ ((ji21) : Int) := of_decide_eq_true (by first | (with_reducible assumption) | assumption)
                            have q24 : (ji21) < (a1.size : Int) := of_decide_eq_true (by first | (with_reducible assumption) | assumption)
                            have hx24 := bt_at a1 (ji21)
                            replace p24 := eq_true p24
                            replace q24 := eq_true q24
                            go_wp2_with (first | (go_at_call 38; (with_reducible refine (targumref4_Value.calls k2 (bt a1 (ji21)) t198 _ A25.out).mono ?_); rintro e w' ⟨rfl, ⟨nd, rfl⟩⟩; have p27 : 0 ≤ ((ji21) : Int) := of_decide_eq_true (by first | (with_reducible assumption) | assumption); have q27 : (ji21) < (a1.size : Int) := of_decide_eq_true (by first | (with_reducible assumption) | assumption); have hx27 := bt_at a1 (ji21); replace p27 := eq_true p27; replace q27 := eq_true q27) | ((with_reducible refine gate_callee (f := 38) rfl ?_); refine goesL_ (some 66) rfl rfl Try.func38 (by kernel_rfl) rfl #[.int .u8 (bt a1 (ji21))] rfl (by (try simp only [List.map_toArray, List.map_cons, List.map_nil]); first | done | (simp only [hji21]; rfl) | rfl | (simp only [List.length_drop, List.length_take]; rfl)) ?_; (with_reducible refine (targumref4_Value.calls k2 (bt a1 (ji21)) t199 _ A28.out).mono ?_); rintro e w' ⟨rfl, ⟨nd, rfl⟩⟩; refine ⟨_, rfl, ?_⟩))
                            go_roundg k2
                            case measure => have := HJ8.out; have := HK2.out; omega
                            case rel => exact ⟨(wrap64 ((wrap64 (x9_2 * 16)) + t199)), (wrap64 (x10_2 + 1)), (by first | rfl | (simp; done) | (simp [*]; done)), (by first | rfl | (simp; done) | (simp [*]; done)), H', ⟨by have := HJ8.out; have := HK2.out; omega⟩, by repeat (first | exact Drawn0.refl _ | apply Drawn0.step)⟩
                        · rw [if_neg c23] at H
                          exact absurd H (by simp)
                      · rw [if_neg c22] at H
                        exact absurd H (by simp)
                  · rw [if_neg c19] at H
                    have c19b0 : decide (x10_2 < x8_8) = false := decide_eq_false c19
                    clear c19
                    replace H := Option.bind_eq_some_iff.mp H
                    obtain ⟨t197, A290, H⟩ := H
                    replace H : (if t197 = true then (some (x9_2, wrap64 ((wrap64 (a2 + 2)) + x8_8))) else (some ((-1), 0))) = some (r1, r2) := H
                    have A29 := Aside0.mk A290
                    clear A290
                    by_cases c30 : t197 = true
                    · subst c30
                      have H1 : (some (x9_2, wrap64 ((wrap64 (a2 + 2)) + x8_8))) = some (r1, r2) := by rw [if_pos rfl] at H; exact H
                      clear H
                      have H := H1
                      clear H1
                      simp only [Option.some.injEq, Prod.mk.injEq] at H
                      obtain ⟨rfl, rfl⟩ := H
                      go_wp2_with (first | ((with_reducible refine gate_callee (f := 19) rfl ?_); refine goesL_ (some 69) rfl rfl Try.func19 (by kernel_rfl) rfl #[.int .i64 x9_2] rfl (by (try simp only [List.map_toArray, List.map_cons, List.map_nil]); first | done | rfl | (simp only [List.length_drop, List.length_take]; rfl)) ?_; (with_reducible refine (targumref1_IsScalar.calls x9_2 true _ A29.out).mono ?_); rintro e w' ⟨rfl, ⟨nd, rfl⟩⟩; refine ⟨_, rfl, ?_⟩))
                      go_ret2
                      exact ⟨by first | rfl | (simp; done) | (simp only [← hji5] <;> (first | rfl | simp)) | (simp [*]; done), by repeat (first | exact Drawn0.refl _ | apply Drawn0.step)⟩
                    · replace c30 := Bool.eq_false_iff.mpr c30
                      subst c30
                      have H1 : (some ((-1), 0)) = some (r1, r2) := by rw [if_neg (show ¬ (false = true) by decide)] at H; exact H
                      clear H
                      have H := H1
                      clear H1
                      simp only [Option.some.injEq, Prod.mk.injEq] at H
                      obtain ⟨rfl, rfl⟩ := H
                      go_wp2_with (first | ((with_reducible refine gate_callee (f := 19) rfl ?_); refine goesL_ (some 69) rfl rfl Try.func19 (by kernel_rfl) rfl #[.int .i64 x9_2] rfl (by (try simp only [List.map_toArray, List.map_cons, List.map_nil]); first | done | rfl | (simp only [List.length_drop, List.length_take]; rfl)) ?_; (with_reducible refine (targumref1_IsScalar.calls x9_2 false _ A29.out).mono ?_); rintro e w' ⟨rfl, ⟨nd, rfl⟩⟩; refine ⟨_, rfl, ?_⟩))
                      go_ret2
                      exact ⟨by first | rfl | (simp; done) | (simp only [← hji5] <;> (first | rfl | simp)) | (simp [*]; done), by repeat (first | exact Drawn0.refl _ | apply Drawn0.step)⟩
      · rw [if_neg c7] at H
        exact absurd H (by simp)
    · rw [if_neg c6] at H
      exact absurd H (by simp)

/-! ### targumref17_folded: function 27 -/
def targumref17_folded.f (k : Nat) (a0 : ByteArray) (a1 : Int) (a2 : Int) (a3 : Int) : Option (ByteArray) := if a3 = 0 then (if 0 ≤ a1 then (if a1 ≤ a2 then (if a2 ≤ (a0.size : Int) then (some (a0.extract (a1 : Int).toNat (a2 : Int).toNat)) else (none)) else (none)) else (none)) else (if a3 = 1 then (some (⟨#[32]⟩ : ByteArray)) else ((targumref17_feeds.f k (wrap64 (a3 - 1))).bind fun t200 => (some t200)))
theorem targumref17_folded.mono : ∀ a0 a1 a2 a3 k, LeO (targumref17_folded.f k a0 a1 a2 a3) (targumref17_folded.f (k + 1) a0 a1 a2 a3) := by
  intro a0 a1 a2 a3 k
  unfold targumref17_folded.f
  repeat' first
      | (with_reducible exact targumref17_feeds.mono _ _)
      | (with_reducible exact LeO.refl _)
      | (with_reducible exact LeO.none _)
      | (with_reducible refine LeO.ite ?_ ?_)
      | (with_reducible refine LeO.bind ?_ (fun _ => ?_))
      | exact targumref17_feeds.mono _ _
      | exact LeO.none _
      | refine LeO.ite ?_ ?_
      | refine LeO.bind ?_ (fun _ => ?_)
set_option maxHeartbeats 8000000 in
set_option maxRecDepth 100000 in
theorem targumref17_folded.calls (k : Nat) (a0 : ByteArray) (a1 : Int) (a2 : Int) (a3 : Int) (r : ByteArray) (w : World) (h : targumref17_folded.f k a0 a1 a2 a3 = some r) :
    Calls Try.prog 27 #[.string a0, .int .i64 a1, .int .i64 a2, .int .i64 a3] w fun e w' => e = .returned (.string r) ∧ Drawn0 w w' := by
  have H : (if a3 = 0 then (if 0 ≤ a1 then (if a1 ≤ a2 then (if a2 ≤ (a0.size : Int) then (some (a0.extract (a1 : Int).toNat (a2 : Int).toNat)) else (none)) else (none)) else (none)) else (if a3 = 1 then (some (⟨#[32]⟩ : ByteArray)) else ((targumref17_feeds.f k (wrap64 (a3 - 1))).bind fun t200 => (some t200)))) = some r := h
  clear h
  by_cases c5 : a3 = 0
  · rw [if_pos c5] at H
    have c5b0 : (a3 == 0) = true := beq_iff_eq.mpr c5
    have c5b1 : (a3 != 0) = false := bne_eq_false_iff_eq.mpr c5
    clear c5
    by_cases c6 : 0 ≤ a1
    · rw [if_pos c6] at H
      have c6b0 := eq_true c6
      have c6b1 : decide (0 ≤ a1) = true := decide_eq_true c6
      clear c6
      by_cases c7 : a1 ≤ a2
      · rw [if_pos c7] at H
        have c7b0 := eq_true c7
        have c7b1 : decide (a1 ≤ a2) = true := decide_eq_true c7
        clear c7
        by_cases c8 : a2 ≤ (a0.size : Int)
        · rw [if_pos c8] at H
          have c8b0 := eq_true c8
          have c8b1 : decide (a2 ≤ (a0.size : Int)) = true := decide_eq_true c8
          clear c8
          obtain rfl := Option.some.inj H
          go_enter Try.func27, Try.ntmps27
          go_wp2
          go_ret
          exact ⟨by first | rfl | (simp; done) | (simp [*]; done), by repeat (first | exact Drawn0.refl _ | apply Drawn0.step)⟩
        · rw [if_neg c8] at H
          exact absurd H (by simp)
      · rw [if_neg c7] at H
        exact absurd H (by simp)
    · rw [if_neg c6] at H
      exact absurd H (by simp)
  · rw [if_neg c5] at H
    have c5b0 : (a3 == 0) = false := beq_eq_false_iff_ne.mpr c5
    have c5b1 : (a3 != 0) = true := bne_iff_ne.mpr c5
    by_cases c9 : a3 = 1
    · rw [if_pos c9] at H
      have c9b0 : (a3 == 1) = true := beq_iff_eq.mpr c9
      have c9b1 : (a3 != 1) = false := bne_eq_false_iff_eq.mpr c9
      clear c9
      obtain rfl := Option.some.inj H
      go_enter Try.func27, Try.ntmps27
      go_wp2
      go_ret
      exact ⟨by first | rfl | (simp; done) | (simp [*]; done), by repeat (first | exact Drawn0.refl _ | apply Drawn0.step)⟩
    · rw [if_neg c9] at H
      have c9b0 : (a3 == 1) = false := beq_eq_false_iff_ne.mpr c9
      have c9b1 : (a3 != 1) = true := bne_iff_ne.mpr c9
      replace H := Option.bind_eq_some_iff.mp H
      obtain ⟨t200, A100, H⟩ := H
      replace H : (some t200) = some r := H
      have A10 := Aside0.mk A100
      clear A100
      obtain rfl := Option.some.inj H
      go_enter Try.func27, Try.ntmps27
      go_wp2_with (first | ((with_reducible refine gate_callee (f := 25) rfl ?_); refine goesL_ (some 20) rfl rfl Try.func25 (by kernel_rfl) rfl #[.int .i64 (wrap64 (a3 - 1))] rfl (by (try simp only [List.map_toArray, List.map_cons, List.map_nil]); first | done | rfl | (simp only [List.length_drop, List.length_take]; rfl)) ?_; (with_reducible refine (targumref17_feeds.calls k (wrap64 (a3 - 1)) t200 _ A10.out).mono ?_); rintro e w' ⟨rfl, ⟨nd, rfl⟩⟩; refine ⟨_, rfl, ?_⟩))
      go_ret
      exact ⟨by first | rfl | (simp; done) | (simp [*]; done), by repeat (first | exact Drawn0.refl _ | apply Drawn0.step)⟩

end Go.Proofs.Ytgbnbjajaaggkaa.Q
