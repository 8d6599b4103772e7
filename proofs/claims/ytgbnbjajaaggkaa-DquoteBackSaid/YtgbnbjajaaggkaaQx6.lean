-- Written by hookprint.py (a program of this project, over the kit's printer). Not trusted: Lean checks it.
import Derived.Test.YtgbnbjajaaggkaaQx0
import Derived.Test.YtgbnbjajaaggkaaQx4
import Derived.Test.YtgbnbjajaaggkaaQx5
namespace Go.Proofs.Ytgbnbjajaaggkaa.Q
open Go.RowKit Go.Proofs.YtgbnbjajaaggkaaW.PrintWords Go.Proofs.YtgbnbjajaaggkaaW.PrintLast Go.Proofs.YtgbnbjajaaggkaaW.PrintMore
attribute [local go_sem] max2_int min2_int max_two min_two max_three min_three max_four min_four   -- for this text's walks alone
set_option linter.unusedVariables false
set_option linter.unusedSimpArgs false

/-! ### targumref1_Break: function 17 -/
mutual
def targumref1_Break.j0 : Nat → Int → ByteArray → Int → Bool → Option (Int)
  | 0, _, _, _, _ => none
  | k + 1, x0, x1, x2, x16 => if x16 = true then (some 0) else (if 0 ≤ x2 then (if x2 < (x1.size : Int) then (if (bt x1 x2) = 13 then (if (wrap64 (x2 + 1)) < (x1.size : Int) then (if 0 ≤ (wrap64 (x2 + 1)) then (targumref1_Break.j1 k x0 x1 x2 ((bt x1 (wrap64 (x2 + 1))) == 10)) else (none)) else (targumref1_Break.j1 k x0 x1 x2 false)) else (targumref1_Break.j1 k x0 x1 x2 false)) else (none)) else (none))
def targumref1_Break.j1 : Nat → Int → ByteArray → Int → Bool → Option (Int)
  | 0, _, _, _, _ => none
  | k + 1, x0, x1, x2, x17 => if x17 = true then (some 2) else (if 0 ≤ x2 then (if x2 < (x1.size : Int) then (if (bt x1 x2) = 10 then (targumref1_Break.j2 k x0 x1 x2 true) else (targumref1_Break.j2 k x0 x1 x2 ((bt x1 x2) == 13))) else (none)) else (none))
def targumref1_Break.j2 : Nat → Int → ByteArray → Int → Bool → Option (Int)
  | 0, _, _, _, _ => none
  | k + 1, x0, x1, x2, x36 => if x36 = true then (some 1) else (if x0 = 11 then ((targumref1_Next.f k x1 x2).bind fun bt171 => (if bt171.1 = 133 then (some bt171.2) else (if bt171.1 = 8232 then (some bt171.2) else (if bt171.1 = 8233 then (some bt171.2) else (some 0))))) else (some 0))
end
def targumref1_Break.f (k : Nat) (a0 : Int) (a1 : ByteArray) (a2 : Int) : Option (Int) := if a2 < 0 then (targumref1_Break.j0 k a0 a1 a2 true) else (targumref1_Break.j0 k a0 a1 a2 (decide (a2 ≥ (a1.size : Int))))
theorem targumref1_Break.mono_l : ∀ k, (∀ y0 y1 y2 y3, LeO (targumref1_Break.j0 k y0 y1 y2 y3) (targumref1_Break.j0 (k + 1) y0 y1 y2 y3)) ∧ (∀ y0 y1 y2 y3, LeO (targumref1_Break.j1 k y0 y1 y2 y3) (targumref1_Break.j1 (k + 1) y0 y1 y2 y3)) ∧ (∀ y0 y1 y2 y3, LeO (targumref1_Break.j2 k y0 y1 y2 y3) (targumref1_Break.j2 (k + 1) y0 y1 y2 y3))
  | 0 => ⟨fun _ _ _ _ r h => by simp [targumref1_Break.j0] at h, fun _ _ _ _ r h => by simp [targumref1_Break.j1] at h, fun _ _ _ _ r h => by simp [targumref1_Break.j2] at h⟩
  | k + 1 => by
    obtain ⟨ih0, ih1, ih2⟩ := targumref1_Break.mono_l k
    refine ⟨?_, ?_, ?_⟩
    · intro y0 y1 y2 y3
      unfold targumref1_Break.j0
      repeat' first
      | (with_reducible exact ih0 _ _ _ _)
      | (with_reducible exact ih1 _ _ _ _)
      | (with_reducible exact ih2 _ _ _ _)
      | (with_reducible exact targumref1_Next.mono _ _ _)
      | (with_reducible exact LeO.refl _)
      | (with_reducible exact LeO.none _)
      | (with_reducible refine LeO.ite ?_ ?_)
      | (with_reducible refine LeO.bind ?_ (fun _ => ?_))
      | exact ih0 _ _ _ _
      | exact ih1 _ _ _ _
      | exact ih2 _ _ _ _
      | exact targumref1_Next.mono _ _ _
      | exact LeO.none _
      | refine LeO.ite ?_ ?_
      | refine LeO.bind ?_ (fun _ => ?_)
    · intro y0 y1 y2 y3
      unfold targumref1_Break.j1
      repeat' first
      | (with_reducible exact ih0 _ _ _ _)
      | (with_reducible exact ih1 _ _ _ _)
      | (with_reducible exact ih2 _ _ _ _)
      | (with_reducible exact targumref1_Next.mono _ _ _)
      | (with_reducible exact LeO.refl _)
      | (with_reducible exact LeO.none _)
      | (with_reducible refine LeO.ite ?_ ?_)
      | (with_reducible refine LeO.bind ?_ (fun _ => ?_))
      | exact ih0 _ _ _ _
      | exact ih1 _ _ _ _
      | exact ih2 _ _ _ _
      | exact targumref1_Next.mono _ _ _
      | exact LeO.none _
      | refine LeO.ite ?_ ?_
      | refine LeO.bind ?_ (fun _ => ?_)
    · intro y0 y1 y2 y3
      unfold targumref1_Break.j2
      repeat' first
      | (with_reducible exact ih0 _ _ _ _)
      | (with_reducible exact ih1 _ _ _ _)
      | (with_reducible exact ih2 _ _ _ _)
      | (with_reducible exact targumref1_Next.mono _ _ _)
      | (with_reducible exact LeO.refl _)
      | (with_reducible exact LeO.none _)
      | (with_reducible refine LeO.ite ?_ ?_)
      | (with_reducible refine LeO.bind ?_ (fun _ => ?_))
      | exact ih0 _ _ _ _
      | exact ih1 _ _ _ _
      | exact ih2 _ _ _ _
      | exact targumref1_Next.mono _ _ _
      | exact LeO.none _
      | refine LeO.ite ?_ ?_
      | refine LeO.bind ?_ (fun _ => ?_)
theorem targumref1_Break.mono : ∀ a0 a1 a2 k, LeO (targumref1_Break.f k a0 a1 a2) (targumref1_Break.f (k + 1) a0 a1 a2) := by
  intro a0 a1 a2 k
  obtain ⟨ih0, ih1, ih2⟩ := targumref1_Break.mono_l k
  unfold targumref1_Break.f
  repeat' first
      | (with_reducible exact ih0 _ _ _ _)
      | (with_reducible exact ih1 _ _ _ _)
      | (with_reducible exact ih2 _ _ _ _)
      | (with_reducible exact targumref1_Next.mono _ _ _)
      | (with_reducible exact LeO.refl _)
      | (with_reducible exact LeO.none _)
      | (with_reducible refine LeO.ite ?_ ?_)
      | (with_reducible refine LeO.bind ?_ (fun _ => ?_))
      | exact ih0 _ _ _ _
      | exact ih1 _ _ _ _
      | exact ih2 _ _ _ _
      | exact targumref1_Next.mono _ _ _
      | exact LeO.none _
      | refine LeO.ite ?_ ?_
      | refine LeO.bind ?_ (fun _ => ?_)
set_option maxHeartbeats 8000000 in
set_option maxRecDepth 100000 in
theorem targumref1_Break.calls (k : Nat) (a0 : Int) (a1 : ByteArray) (a2 : Int) (r : Int) (w : World) (h : targumref1_Break.f k a0 a1 a2 = some r) :
    Calls Try.prog 17 #[.int .i64 a0, .string a1, .int .i64 a2] w fun e w' => e = .returned (.int .i64 r) ∧ Drawn0 w w' := by
  have H : (if a2 < 0 then (targumref1_Break.j0 k a0 a1 a2 true) else (targumref1_Break.j0 k a0 a1 a2 (decide (a2 ≥ (a1.size : Int))))) = some r := h
  clear h
  have HC4 := Aside0.mk H
  clear H
  go_enter Try.func17, Try.ntmps17
  go_upto_region 1 with (fail)
  go_cut [16] (fun v16 wc => ∃ (kq : Nat) (x16_3 : Bool), v16 = .bool x16_3 ∧ Aside0 (targumref1_Break.j0 kq a0 a1 a2 x16_3 = some r) ∧ Aside0 (kq ≤ k) ∧ Drawn0 w wc)
  case first =>
    have H := HC4.out
    clear HC4
    by_cases c5 : a2 < 0
    · rw [if_pos c5] at H
      have c5b0 : decide (a2 < 0) = true := decide_eq_true c5
      clear c5
      (first | rw [c5b0] | (simp only [i64_w, i32_w]; rw [c5b0]) | skip)
      have H' := Aside0.mk H
      clear H
      go_wp2
      go_meet
      case rel => exact ⟨_, (true), (by first | rfl | (simp; done) | (simp [*]; done)), H', ⟨by first | omega | exact Nat.le_refl _⟩, by repeat (first | exact Drawn0.refl _ | apply Drawn0.step)⟩
    · rw [if_neg c5] at H
      have c5b0 : decide (a2 < 0) = false := decide_eq_false c5
      clear c5
      (first | rw [c5b0] | (simp only [i64_w, i32_w]; rw [c5b0]) | skip)
      have H' := Aside0.mk H
      clear H
      go_wp2
      go_meet
      case rel => exact ⟨_, (decide (a2 ≥ (a1.size : Int))), (by first | rfl | (simp; done) | (simp [*]; done)), H', ⟨by first | omega | exact Nat.le_refl _⟩, by repeat (first | exact Drawn0.refl _ | apply Drawn0.step)⟩
  case rest =>
    clear HC4
    (try clear c1); (try clear p2); (try clear c5); (try clear c5b0)
    obtain ⟨kq, x16_3, rfl, HA, HJ3, ⟨mc3, rfl⟩⟩ := hcut
    cases kq with
    | zero => exact absurd HA.out (by simp [targumref1_Break.j0])
    | succ kj3 =>
      have H := HA.out
      clear HA
      simp only [targumref1_Break.j0] at H
      by_cases c6 : x16_3 = true
      · subst c6
        have H1 : (some 0) = some r := by rw [if_pos rfl] at H; exact H
        clear H
        have H := H1
        clear H1
        obtain rfl := Option.some.inj H
        go_wp2
        go_ret
        exact ⟨by first | rfl | (simp; done) | (simp [*]; done), by repeat (first | exact Drawn0.refl _ | apply Drawn0.step)⟩
      · replace c6 := Bool.eq_false_iff.mpr c6
        subst c6
        have H1 : (if 0 ≤ a2 then (if a2 < (a1.size : Int) then (if (bt a1 a2) = 13 then (if (wrap64 (a2 + 1)) < (a1.size : Int) then (if 0 ≤ (wrap64 (a2 + 1)) then (targumref1_Break.j1 kj3 a0 a1 a2 ((bt a1 (wrap64 (a2 + 1))) == 10)) else (none)) else (targumref1_Break.j1 kj3 a0 a1 a2 false)) else (targumref1_Break.j1 kj3 a0 a1 a2 false)) else (none)) else (none)) = some r := by rw [if_neg (show ¬ (false = true) by decide)] at H; exact H
        clear H
        have H := H1
        clear H1
        have HC7 := Aside0.mk H
        clear H
        go_upto_region 3 with (fail)
        go_cut [17] (fun v17 wc => ∃ (kq : Nat) (x17_6 : Bool), v17 = .bool x17_6 ∧ Aside0 (targumref1_Break.j1 kq a0 a1 a2 x17_6 = some r) ∧ Aside0 (kq ≤ kj3) ∧ Drawn0 w wc)
        case first =>
          have H := HC7.out
          clear HC7
          by_cases c8 : 0 ≤ a2
          · rw [if_pos c8] at H
            have c8b0 : decide (0 ≤ a2) = true := decide_eq_true c8
            clear c8
            (first | rw [c8b0] | (simp only [i64_w, i32_w]; rw [c8b0]) | skip)
            by_cases c9 : a2 < (a1.size : Int)
            · rw [if_pos c9] at H
              have c9b0 : decide (a2 < (a1.size : Int)) = true := decide_eq_true c9
              clear c9
              by_cases c11 : (bt a1 a2) = 13
              · rw [if_pos c11] at H
                have c11b0 : ((bt a1 a2) == 13) = true := beq_iff_eq.mpr c11
                have c11b1 : ((bt a1 a2) != 13) = false := bne_eq_false_iff_eq.mpr c11
                clear c11
                by_cases c12 : (wrap64 (a2 + 1)) < (a1.size : Int)
                · rw [if_pos c12] at H
                  have c12b0 : decide ((wrap64 (a2 + 1)) < (a1.size : Int)) = true := decide_eq_true c12
                  (try (have c12b1 : decide (((a2 + 1)) < (a1.size : Int)) = true := (by have e_ : wrap64 (a2 + 1) = (a2 + 1) := (by unfold wrap64; omega); have h_ : decide ((wrap64 (a2 + 1)) < (a1.size : Int)) = true := decide_eq_true c12; rw [e_] at h_; exact h_)))
                  clear c12
                  obtain ⟨ji13, hji13⟩ : ∃ j_ : Int, (wrap64 (a2 + 1)) = j_ := ⟨_, rfl⟩
                  replace H : (if 0 ≤ (ji13) then (targumref1_Break.j1 kj3 a0 a1 a2 ((bt a1 (ji13)) == 10)) else (none)) = some r := by first | (rw [hji13] at H; exact H) | (simp only [hji13] at H ⊢; exact H)
                  (try rw [hji13] at c12b0)
                  (try rw [hji13] at c12b1)
                  have hji13w : (IntKind.i64.wrap (a2 + 1)) = ji13 := (i64_w _).trans hji13
                  by_cases c14 : 0 ≤ (ji13)
                  · rw [if_pos c14] at H
                    have c14b0 : decide (0 ≤ (ji13)) = true := decide_eq_true c14
                    clear c14
                    have H' := Aside0.mk H
                    clear H
                    have p10 : 0 ≤ (a2 : Int) := of_decide_eq_true (by first | (with_reducible assumption) | assumption)
                    have q10 : a2 < (a1.size : Int) := of_decide_eq_true (by first | (with_reducible assumption) | assumption)
                    have hx10 := bt_at a1 a2
                    replace p10 := eq_true p10
                    replace q10 := eq_true q10
                    have p15 : 0 ≤ ((ji13) : Int) := of_decide_eq_true (by first | (with_reducible assumption) | assumption)
                    have q15 : (ji13) < (a1.size : Int) := of_decide_eq_true (by first | (with_reducible assumption) | assumption)
                    have hx15 := bt_at a1 (ji13)
                    replace p15 := eq_true p15
                    replace q15 := eq_true q15
                    go_wp2
                    go_meet
                    case rel => exact ⟨_, (((bt a1 (ji13)) == 10)), (by first | rfl | (simp; done) | (simp only [← hji13] <;> (first | rfl | simp)) | (simp [*]; done)), (by first | exact H' | (rw [hji13] at H'; exact H') | (rw [← hji13] at H'; exact H') | (rw [hji13]; exact H') | (rw [hji13] at H'; exact H')), ⟨by have := HJ3.out; first | omega | exact Nat.le_refl _⟩, by repeat (first | exact Drawn0.refl _ | apply Drawn0.step)⟩
                  · rw [if_neg c14] at H
                    exact absurd H (by simp)
                · rw [if_neg c12] at H
                  have c12b0 : decide ((wrap64 (a2 + 1)) < (a1.size : Int)) = false := decide_eq_false c12
                  (try (have c12b1 : decide (((a2 + 1)) < (a1.size : Int)) = false := (by have e_ : wrap64 (a2 + 1) = (a2 + 1) := (by unfold wrap64; omega); have h_ : decide ((wrap64 (a2 + 1)) < (a1.size : Int)) = false := decide_eq_false c12; rw [e_] at h_; exact h_)))
                  clear c12
                  have H' := Aside0.mk H
                  clear H
                  have p10 : 0 ≤ (a2 : Int) := of_decide_eq_true (by first | (with_reducible assumption) | assumption)
                  have q10 : a2 < (a1.size : Int) := of_decide_eq_true (by first | (with_reducible assumption) | assumption)
                  have hx10 := bt_at a1 a2
                  replace p10 := eq_true p10
                  replace q10 := eq_true q10
                  go_wp2
                  go_meet
                  case rel => exact ⟨_, (false), (by first | rfl | (simp; done) | (simp [*]; done)), H', ⟨by have := HJ3.out; first | omega | exact Nat.le_refl _⟩, by repeat (first | exact Drawn0.refl _ | apply Drawn0.step)⟩
              · rw [if_neg c11] at H
                have c11b0 : ((bt a1 a2) == 13) = false := beq_eq_false_iff_ne.mpr c11
                have c11b1 : ((bt a1 a2) != 13) = true := bne_iff_ne.mpr c11
                have H' := Aside0.mk H
                clear H
                have p10 : 0 ≤ (a2 : Int) := of_decide_eq_true (by first | (with_reducible assumption) | assumption)
                have q10 : a2 < (a1.size : Int) := of_decide_eq_true (by first | (with_reducible assumption) | assumption)
                have hx10 := bt_at a1 a2
                replace p10 := eq_true p10
                replace q10 := eq_true q10
                go_wp2
                go_meet
                case rel => exact ⟨_, (false), (by first | rfl | (simp; done) | (simp [*]; done)), H', ⟨by have := HJ3.out; first | omega | exact Nat.le_refl _⟩, by repeat (first | exact Drawn0.refl _ | apply Drawn0.step)⟩
            · rw [if_neg c9] at H
              exact absurd H (by simp)
          · rw [if_neg c8] at H
            exact absurd H (by simp)
        case rest =>
          clear HC7
          (try clear c1); (try clear p1); (try clear q1); (try clear hx1); (try clear p2); (try clear c3); (try clear c5); (try clear c5b0); (try clear c6); (try clear p6); (try clear c8); (try clear c8b0); (try clear c9); (try clear c9b0); (try clear p10); (try clear q10); (try clear hx10); (try clear c11); (try clear c11b0); (try clear c11b1); (try clear c12); (try clear c12b0); (try clear c12b1); (try clear c14); (try clear c14b0); (try clear p15); (try clear q15); (try clear hx15)
          obtain ⟨kq, x17_6, rfl, HA, HJ6, ⟨mc6, rfl⟩⟩ := hcut
          cases kq with
          | zero => exact absurd HA.out (by simp [targumref1_Break.j1])
          | succ kj6 =>
            have H := HA.out
            clear HA
            simp only [targumref1_Break.j1] at H
            by_cases c16 : x17_6 = true
            · subst c16
              have H1 : (some 2) = some r := by rw [if_pos rfl] at H; exact H
              clear H
              have H := H1
              clear H1
              obtain rfl := Option.some.inj H
              go_wp2
              go_ret
              exact ⟨by first | rfl | (simp; done) | (simp [*]; done), by repeat (first | exact Drawn0.refl _ | apply Drawn0.step)⟩
            · replace c16 := Bool.eq_false_iff.mpr c16
              subst c16
              have H1 : (if 0 ≤ a2 then (if a2 < (a1.size : Int) then (if (bt a1 a2) = 10 then (targumref1_Break.j2 kj6 a0 a1 a2 true) else (targumref1_Break.j2 kj6 a0 a1 a2 ((bt a1 a2) == 13))) else (none)) else (none)) = some r := by rw [if_neg (show ¬ (false = true) by decide)] at H; exact H
              clear H
              have H := H1
              clear H1
              have HC17 := Aside0.mk H
              clear H
              go_upto_region 5 with (fail)
              go_cut [36] (fun v36 wc => ∃ (kq : Nat) (x36_16 : Bool), v36 = .bool x36_16 ∧ Aside0 (targumref1_Break.j2 kq a0 a1 a2 x36_16 = some r) ∧ Aside0 (kq ≤ kj6) ∧ Drawn0 w wc)
              case first =>
                have H := HC17.out
                clear HC17
                by_cases c18 : 0 ≤ a2
                · rw [if_pos c18] at H
                  have c18b0 : decide (0 ≤ a2) = true := decide_eq_true c18
                  clear c18
                  (first | rw [c18b0] | (simp only [i64_w, i32_w]; rw [c18b0]) | skip)
                  by_cases c19 : a2 < (a1.size : Int)
                  · rw [if_pos c19] at H
                    have c19b0 : decide (a2 < (a1.size : Int)) = true := decide_eq_true c19
                    clear c19
                    by_cases c21 : (bt a1 a2) = 10
                    · rw [if_pos c21] at H
                      have c21b0 : ((bt a1 a2) == 10) = true := beq_iff_eq.mpr c21
                      have c21b1 : ((bt a1 a2) != 10) = false := bne_eq_false_iff_eq.mpr c21
                      clear c21
                      have H' := Aside0.mk H
                      clear H
                      have p20 : 0 ≤ (a2 : Int) := of_decide_eq_true (by first | (with_reducible assumption) | assumption)
                      have q20 : a2 < (a1.size : Int) := of_decide_eq_true (by first | (with_reducible assumption) | assumption)
                      have hx20 := bt_at a1 a2
                      replace p20 := eq_true p20
                      replace q20 := eq_true q20
                      go_wp2
                      go_meet
                      case rel => exact ⟨_, (true), (by first | rfl | (simp; done) | (simp [*]; done)), H', ⟨by have := HJ3.out; have := HJ6.out; first | omega | exact Nat.le_refl _⟩, by repeat (first | exact Drawn0.refl _ | apply Drawn0.step)⟩
                    · rw [if_neg c21] at H
                      have c21b0 : ((bt a1 a2) == 10) = false := beq_eq_false_iff_ne.mpr c21
                      have c21b1 : ((bt a1 a2) != 10) = true := bne_iff_ne.mpr c21
                      have H' := Aside0.mk H
                      clear H
                      have p20 : 0 ≤ (a2 : Int) := of_decide_eq_true (by first | (with_reducible assumption) | assumption)
                      have q20 : a2 < (a1.size : Int) := of_decide_eq_true (by first | (with_reducible assumption) | assumption)
                      have hx20 := bt_at a1 a2
                      replace p20 := eq_true p20
                      replace q20 := eq_true q20
                      have p22 : 0 ≤ (a2 : Int) := of_decide_eq_true (by first | (with_reducible assumption) | assumption)
                      have q22 : a2 < (a1.size : Int) := of_decide_eq_true (by first | (with_reducible assumption) | assumption)
                      have hx22 := bt_at a1 a2
                      replace p22 := eq_true p22
                      replace q22 := eq_true q22
                      go_wp2
                      go_meet
                      case rel => exact ⟨_, (((bt a1 a2) == 13)), (by first | rfl | (simp; done) | (simp [*]; done)), H', ⟨by have := HJ3.out; have := HJ6.out; first | omega | exact Nat.le_refl _⟩, by repeat (first | exact Drawn0.refl _ | apply Drawn0.step)⟩
                  · rw [if_neg c19] at H
                    exact absurd H (by simp)
                · rw [if_neg c18] at H
                  exact absurd H (by simp)
              case rest =>
                clear HC17
                (try clear c1); (try clear p1); (try clear q1); (try clear hx1); (try clear c2); (try clear p2); (try clear q2); (try clear hx2); (try clear c3); (try clear c5); (try clear c5b0); (try clear c6); (try clear p6); (try clear c8); (try clear c8b0); (try clear c9); (try clear c9b0); (try clear p10); (try clear q10); (try clear hx10); (try clear c11); (try clear c11b0); (try clear c11b1); (try clear c12); (try clear c12b0); (try clear c12b1); (try clear c14); (try clear c14b0); (try clear p15); (try clear q15); (try clear hx15); (try clear c16); (try clear c17); (try clear c18); (try clear c18b0); (try clear c19); (try clear c19b0); (try clear p20); (try clear q20); (try clear hx20); (try clear c21); (try clear c21b0); (try clear c21b1); (try clear p22); (try clear q22); (try clear hx22)
                obtain ⟨kq, x36_16, rfl, HA, HJ16, ⟨mc16, rfl⟩⟩ := hcut
                cases kq with
                | zero => exact absurd HA.out (by simp [targumref1_Break.j2])
                | succ kj16 =>
                  have H := HA.out
                  clear HA
                  simp only [targumref1_Break.j2] at H
                  by_cases c23 : x36_16 = true
                  · subst c23
                    have H1 : (some 1) = some r := by rw [if_pos rfl] at H; exact H
                    clear H
                    have H := H1
                    clear H1
                    obtain rfl := Option.some.inj H
                    go_wp2
                    go_ret
                    exact ⟨by first | rfl | (simp; done) | (simp [*]; done), by repeat (first | exact Drawn0.refl _ | apply Drawn0.step)⟩
                  · replace c23 := Bool.eq_false_iff.mpr c23
                    subst c23
                    have H1 : (if a0 = 11 then ((targumref1_Next.f kj16 a1 a2).bind fun bt171 => (if bt171.1 = 133 then (some bt171.2) else (if bt171.1 = 8232 then (some bt171.2) else (if bt171.1 = 8233 then (some bt171.2) else (some 0))))) else (some 0)) = some r := by rw [if_neg (show ¬ (false = true) by decide)] at H; exact H
                    clear H
                    have H := H1
                    clear H1
                    by_cases c24 : a0 = 11
                    · rw [if_pos c24] at H
                      have c24b0 : (a0 == 11) = true := beq_iff_eq.mpr c24
                      have c24b1 : (a0 != 11) = false := bne_eq_false_iff_eq.mpr c24
                      clear c24
                      replace H := Option.bind_eq_some_iff.mp H
                      obtain ⟨⟨t171, t172⟩, A250, H⟩ := H
                      replace H : (if t171 = 133 then (some t172) else (if t171 = 8232 then (some t172) else (if t171 = 8233 then (some t172) else (some 0)))) = some r := H
                      have A25 := Aside0.mk A250
                      clear A250
                      by_cases c26 : t171 = 133
                      · rw [if_pos c26] at H
                        have c26b0 : (t171 == 133) = true := beq_iff_eq.mpr c26
                        have c26b1 : (t171 != 133) = false := bne_eq_false_iff_eq.mpr c26
                        clear c26
                        obtain rfl := Option.some.inj H
                        go_wp2_with (first | ((with_reducible refine gate_callee (f := 28) rfl ?_); refine goesL_ (some 53) rfl rfl Try.func28 (by kernel_rfl) rfl #[.string a1, .int .i64 a2] rfl (by (try simp only [List.map_toArray, List.map_cons, List.map_nil]); first | done | rfl | (simp only [List.length_drop, List.length_take]; rfl)) ?_; (with_reducible refine (targumref1_Next.calls kj16 a1 a2 t171 t172 _ A25.out).mono ?_); rintro e w' ⟨rfl, ⟨nd, rfl⟩⟩; refine ⟨_, rfl, ?_⟩))
                        go_ret
                        exact ⟨by first | rfl | (simp; done) | (simp [*]; done), by repeat (first | exact Drawn0.refl _ | apply Drawn0.step)⟩
                      · rw [if_neg c26] at H
                        have c26b0 : (t171 == 133) = false := beq_eq_false_iff_ne.mpr c26
                        have c26b1 : (t171 != 133) = true := bne_iff_ne.mpr c26
                        by_cases c27 : t171 = 8232
                        · rw [if_pos c27] at H
                          have c27b0 : (t171 == 8232) = true := beq_iff_eq.mpr c27
                          have c27b1 : (t171 != 8232) = false := bne_eq_false_iff_eq.mpr c27
                          clear c27
                          obtain rfl := Option.some.inj H
                          go_wp2_with (first | ((with_reducible refine gate_callee (f := 28) rfl ?_); refine goesL_ (some 53) rfl rfl Try.func28 (by kernel_rfl) rfl #[.string a1, .int .i64 a2] rfl (by (try simp only [List.map_toArray, List.map_cons, List.map_nil]); first | done | rfl | (simp only [List.length_drop, List.length_take]; rfl)) ?_; (with_reducible refine (targumref1_Next.calls kj16 a1 a2 t171 t172 _ A25.out).mono ?_); rintro e w' ⟨rfl, ⟨nd, rfl⟩⟩; refine ⟨_, rfl, ?_⟩))
                          go_ret
                          exact ⟨by first | rfl | (simp; done) | (simp [*]; done), by repeat (first | exact Drawn0.refl _ | apply Drawn0.step)⟩
                        · rw [if_neg c27] at H
                          have c27b0 : (t171 == 8232) = false := beq_eq_false_iff_ne.mpr c27
                          have c27b1 : (t171 != 8232) = true := bne_iff_ne.mpr c27
                          by_cases c28 : t171 = 8233
                          · rw [if_pos c28] at H
                            have c28b0 : (t171 == 8233) = true := beq_iff_eq.mpr c28
                            have c28b1 : (t171 != 8233) = false := bne_eq_false_iff_eq.mpr c28
                            clear c28
                            obtain rfl := Option.some.inj H
                            go_wp2_with (first | ((with_reducible refine gate_callee (f := 28) rfl ?_); refine goesL_ (some 53) rfl rfl Try.func28 (by kernel_rfl) rfl #[.string a1, .int .i64 a2] rfl (by (try simp only [List.map_toArray, List.map_cons, List.map_nil]); first | done | rfl | (simp only [List.length_drop, List.length_take]; rfl)) ?_; (with_reducible refine (targumref1_Next.calls kj16 a1 a2 t171 t172 _ A25.out).mono ?_); rintro e w' ⟨rfl, ⟨nd, rfl⟩⟩; refine ⟨_, rfl, ?_⟩))
                            go_ret
                            exact ⟨by first | rfl | (simp; done) | (simp [*]; done), by repeat (first | exact Drawn0.refl _ | apply Drawn0.step)⟩
                          · rw [if_neg c28] at H
                            have c28b0 : (t171 == 8233) = false := beq_eq_false_iff_ne.mpr c28
                            have c28b1 : (t171 != 8233) = true := bne_iff_ne.mpr c28
                            obtain rfl := Option.some.inj H
                            go_wp2_with (first | ((with_reducible refine gate_callee (f := 28) rfl ?_); refine goesL_ (some 53) rfl rfl Try.func28 (by kernel_rfl) rfl #[.string a1, .int .i64 a2] rfl (by (try simp only [List.map_toArray, List.map_cons, List.map_nil]); first | done | rfl | (simp only [List.length_drop, List.length_take]; rfl)) ?_; (with_reducible refine (targumref1_Next.calls kj16 a1 a2 t171 t172 _ A25.out).mono ?_); rintro e w' ⟨rfl, ⟨nd, rfl⟩⟩; refine ⟨_, rfl, ?_⟩))
                            go_ret
                            exact ⟨by first | rfl | (simp; done) | (simp [*]; done), by repeat (first | exact Drawn0.refl _ | apply Drawn0.step)⟩
                    · rw [if_neg c24] at H
                      have c24b0 : (a0 == 11) = false := beq_eq_false_iff_ne.mpr c24
                      have c24b1 : (a0 != 11) = true := bne_iff_ne.mpr c24
                      obtain rfl := Option.some.inj H
                      go_wp2
                      go_ret
                      exact ⟨by first | rfl | (simp; done) | (simp [*]; done), by repeat (first | exact Drawn0.refl _ | apply Drawn0.step)⟩

/-! ### targumref1_Utf8: function 20 -/
def targumref1_Utf8.f (a0 : Int) : Option (List Int) := if a0 < 128 then (some (([(a0) % 256] : List Int))) else (if a0 < 2048 then (some (([(wrap64 (192 + (wrap64 (Int.tdiv a0 64)))) % 256, (wrap64 (128 + (Int.tmod a0 64))) % 256] : List Int))) else (if a0 < 65536 then (some (([(wrap64 (224 + (wrap64 (Int.tdiv a0 4096)))) % 256, (wrap64 (128 + (Int.tmod (wrap64 (Int.tdiv a0 64)) 64))) % 256, (wrap64 (128 + (Int.tmod a0 64))) % 256] : List Int))) else (some (([(wrap64 (240 + (wrap64 (Int.tdiv a0 262144)))) % 256, (wrap64 (128 + (Int.tmod (wrap64 (Int.tdiv a0 4096)) 64))) % 256, (wrap64 (128 + (Int.tmod (wrap64 (Int.tdiv a0 64)) 64))) % 256, (wrap64 (128 + (Int.tmod a0 64))) % 256] : List Int)))))
set_option maxHeartbeats 8000000 in
set_option maxRecDepth 100000 in
theorem targumref1_Utf8.calls (a0 : Int) (r : List Int) (w : World) (h : targumref1_Utf8.f a0 = some r) :
    Calls Try.prog 20 #[.int .i64 a0] w fun e w' => ∃ v0_ : Value, e = .returned (v0_) ∧ Kd.R (Kd.int .u8) 5 w' w.heap.size (fun _ => True) v0_ r ∧ Below w.heap.size w w' := by
  have HB := Aside0.mk (Below.refl w.heap.size w)
  have H : (if a0 < 128 then (some (([(a0) % 256] : List Int))) else (if a0 < 2048 then (some (([(wrap64 (192 + (wrap64 (Int.tdiv a0 64)))) % 256, (wrap64 (128 + (Int.tmod a0 64))) % 256] : List Int))) else (if a0 < 65536 then (some (([(wrap64 (224 + (wrap64 (Int.tdiv a0 4096)))) % 256, (wrap64 (128 + (Int.tmod (wrap64 (Int.tdiv a0 64)) 64))) % 256, (wrap64 (128 + (Int.tmod a0 64))) % 256] : List Int))) else (some (([(wrap64 (240 + (wrap64 (Int.tdiv a0 262144)))) % 256, (wrap64 (128 + (Int.tmod (wrap64 (Int.tdiv a0 4096)) 64))) % 256, (wrap64 (128 + (Int.tmod (wrap64 (Int.tdiv a0 64)) 64))) % 256, (wrap64 (128 + (Int.tmod a0 64))) % 256] : List Int)))))) = some r := h
  clear h
  by_cases c2 : a0 < 128
  · rw [if_pos c2] at H
    have c2b0 : decide (a0 < 128) = true := decide_eq_true c2
    clear c2
    obtain ⟨y173, hy173⟩ : ∃ y_ : List Int, y_ = (([(a0) % 256] : List Int)) := ⟨_, rfl⟩
    replace H : (some y173) = some r := by first | (rw [hy173]; with_reducible exact H) | (have H2_ := (Option.bind_some _ _).symm.trans H; rw [hy173]; with_reducible exact H2_) | (have H2_ := (Option.bind_some _ _).symm.trans H; with_reducible exact H2_) | with_reducible exact H | (rw [hy173]; exact H) | exact H
    have Ny173 := Aside0.mk hy173
    clear hy173
    obtain rfl := Option.some.inj H
    go_enter Try.func20, Try.ntmps20
    go_wp2_with (first | ((with_reducible refine gate_dst (N := 8) rfl ?_); refine Kd.R_lit (Kd.int .u8) _ 5 ?hg (N := 8) ?hd (xs := ([(a0) % 256] : List Int)) (inner := [.int .u8 ((a0) % 256)]) (ok := fun _ => True) (okp := fun _ => True) ?hr ?hp (fun _ hk => hk) trivial (Below.refl _ _) (Nat.le_refl _) (by simp) ?_; (case hd => rfl); (case hg => rfl); (case hr => first | (go_simp; done) | (go_simp; rfl)); (case hp => exact (Reps.one (show Kd.M (Kd.int .u8) _ _ _ ((a0) % 256) [.int .u8 ((a0) % 256)] from rfl) (Reps.none _ _))); intro v174 w3 ho4 hb hg_ hnew_; clear hg_ hnew_; (first | rw [← Ny173.out] at ho4 | (simp only [Int.reduceToNat] at ho4; rw [← Ny173.out] at ho4)); have n0_ := Aside0.mk (Kd.R_lower ho4 (below_size (by repeat (first | (with_reducible first | exact HB.out | apply below_alloc | apply pw_below_drewN | apply below_drew1) | exact HB.out)))); have n1_ := Aside0.mk (below_step (by repeat (first | (with_reducible first | exact HB.out | apply below_alloc | apply pw_below_drewN | apply below_drew1) | exact HB.out)) hb); clear HB; have HO175 := n0_; have HB := n1_; clear n0_ n1_; clear hb ho4))
    go_ret
    exact ⟨_, by first | rfl | (simp [errW_none, errW_some] <;> rfl) | (simp [*, errW_none, errW_some] <;> rfl), by (with_reducible repeat (first | apply Kd.R_alloc | apply Kd.R_drewN | apply Kd.R_drew)); exact HO175.out, by repeat (first | (with_reducible first | exact HB.out | apply below_alloc | apply pw_below_drewN | apply below_drew1) | exact HB.out)⟩
  · rw [if_neg c2] at H
    have c2b0 : decide (a0 < 128) = false := decide_eq_false c2
    clear c2
    by_cases c5 : a0 < 2048
    · rw [if_pos c5] at H
      have c5b0 : decide (a0 < 2048) = true := decide_eq_true c5
      clear c5
      obtain ⟨y176, hy176⟩ : ∃ y_ : List Int, y_ = (([(wrap64 (192 + (wrap64 (Int.tdiv a0 64)))) % 256, (wrap64 (128 + (Int.tmod a0 64))) % 256] : List Int)) := ⟨_, rfl⟩
      replace H : (some y176) = some r := by first | (rw [hy176]; with_reducible exact H) | (have H2_ := (Option.bind_some _ _).symm.trans H; rw [hy176]; with_reducible exact H2_) | (have H2_ := (Option.bind_some _ _).symm.trans H; with_reducible exact H2_) | with_reducible exact H | (rw [hy176]; exact H) | exact H
      have Ny176 := Aside0.mk hy176
      clear hy176
      obtain rfl := Option.some.inj H
      go_enter Try.func20, Try.ntmps20
      go_wp2_with (first | ((with_reducible refine gate_dst (N := 20) rfl ?_); refine Kd.R_lit (Kd.int .u8) _ 5 ?hg (N := 20) ?hd (xs := ([(wrap64 (192 + (wrap64 (Int.tdiv a0 64)))) % 256, (wrap64 (128 + (Int.tmod a0 64))) % 256] : List Int)) (inner := [.int .u8 ((wrap64 (192 + (wrap64 (Int.tdiv a0 64)))) % 256), .int .u8 ((wrap64 (128 + (Int.tmod a0 64))) % 256)]) (ok := fun _ => True) (okp := fun _ => True) ?hr ?hp (fun _ hk => hk) trivial (Below.refl _ _) (Nat.le_refl _) (by simp) ?_; (case hd => rfl); (case hg => rfl); (case hr => first | (go_simp; done) | (go_simp; rfl)); (case hp => exact (Reps.one (show Kd.M (Kd.int .u8) _ _ _ ((wrap64 (192 + (wrap64 (Int.tdiv a0 64)))) % 256) [.int .u8 ((wrap64 (192 + (wrap64 (Int.tdiv a0 64)))) % 256)] from rfl) (Reps.one (show Kd.M (Kd.int .u8) _ _ _ ((wrap64 (128 + (Int.tmod a0 64))) % 256) [.int .u8 ((wrap64 (128 + (Int.tmod a0 64))) % 256)] from rfl) (Reps.none _ _)))); intro v177 w6 ho7 hb hg_ hnew_; clear hg_ hnew_; (first | rw [← Ny176.out] at ho7 | (simp only [Int.reduceToNat] at ho7; rw [← Ny176.out] at ho7)); have n0_ := Aside0.mk (Kd.R_lower ho7 (below_size (by repeat (first | (with_reducible first | exact HB.out | apply below_alloc | apply pw_below_drewN | apply below_drew1) | exact HB.out)))); have n1_ := Aside0.mk (below_step (by repeat (first | (with_reducible first | exact HB.out | apply below_alloc | apply pw_below_drewN | apply below_drew1) | exact HB.out)) hb); clear HB; have HO178 := n0_; have HB := n1_; clear n0_ n1_; clear hb ho7))
      go_ret
      exact ⟨_, by first | rfl | (simp [errW_none, errW_some] <;> rfl) | (simp [*, errW_none, errW_some] <;> rfl), by (with_reducible repeat (first | apply Kd.R_alloc | apply Kd.R_drewN | apply Kd.R_drew)); exact HO178.out, by repeat (first | (with_reducible first | exact HB.out | apply below_alloc | apply pw_below_drewN | apply below_drew1) | exact HB.out)⟩
    · rw [if_neg c5] at H
      have c5b0 : decide (a0 < 2048) = false := decide_eq_false c5
      clear c5
      by_cases c8 : a0 < 65536
      · rw [if_pos c8] at H
        have c8b0 : decide (a0 < 65536) = true := decide_eq_true c8
        clear c8
        obtain ⟨y179, hy179⟩ : ∃ y_ : List Int, y_ = (([(wrap64 (224 + (wrap64 (Int.tdiv a0 4096)))) % 256, (wrap64 (128 + (Int.tmod (wrap64 (Int.tdiv a0 64)) 64))) % 256, (wrap64 (128 + (Int.tmod a0 64))) % 256] : List Int)) := ⟨_, rfl⟩
        replace H : (some y179) = some r := by first | (rw [hy179]; with_reducible exact H) | (have H2_ := (Option.bind_some _ _).symm.trans H; rw [hy179]; with_reducible exact H2_) | (have H2_ := (Option.bind_some _ _).symm.trans H; with_reducible exact H2_) | with_reducible exact H | (rw [hy179]; exact H) | exact H
        have Ny179 := Aside0.mk hy179
        clear hy179
        obtain rfl := Option.some.inj H
        go_enter Try.func20, Try.ntmps20
        go_wp2_with (first | ((with_reducible refine gate_dst (N := 37) rfl ?_); refine Kd.R_lit (Kd.int .u8) _ 5 ?hg (N := 37) ?hd (xs := ([(wrap64 (224 + (wrap64 (Int.tdiv a0 4096)))) % 256, (wrap64 (128 + (Int.tmod (wrap64 (Int.tdiv a0 64)) 64))) % 256, (wrap64 (128 + (Int.tmod a0 64))) % 256] : List Int)) (inner := [.int .u8 ((wrap64 (224 + (wrap64 (Int.tdiv a0 4096)))) % 256), .int .u8 ((wrap64 (128 + (Int.tmod (wrap64 (Int.tdiv a0 64)) 64))) % 256), .int .u8 ((wrap64 (128 + (Int.tmod a0 64))) % 256)]) (ok := fun _ => True) (okp := fun _ => True) ?hr ?hp (fun _ hk => hk) trivial (Below.refl _ _) (Nat.le_refl _) (by simp) ?_; (case hd => rfl); (case hg => rfl); (case hr => first | (go_simp; done) | (go_simp; rfl)); (case hp => exact (Reps.one (show Kd.M (Kd.int .u8) _ _ _ ((wrap64 (224 + (wrap64 (Int.tdiv a0 4096)))) % 256) [.int .u8 ((wrap64 (224 + (wrap64 (Int.tdiv a0 4096)))) % 256)] from rfl) (Reps.one (show Kd.M (Kd.int .u8) _ _ _ ((wrap64 (128 + (Int.tmod (wrap64 (Int.tdiv a0 64)) 64))) % 256) [.int .u8 ((wrap64 (128 + (Int.tmod (wrap64 (Int.tdiv a0 64)) 64))) % 256)] from rfl) (Reps.one (show Kd.M (Kd.int .u8) _ _ _ ((wrap64 (128 + (Int.tmod a0 64))) % 256) [.int .u8 ((wrap64 (128 + (Int.tmod a0 64))) % 256)] from rfl) (Reps.none _ _))))); intro v180 w9 ho10 hb hg_ hnew_; clear hg_ hnew_; (first | rw [← Ny179.out] at ho10 | (simp only [Int.reduceToNat] at ho10; rw [← Ny179.out] at ho10)); have n0_ := Aside0.mk (Kd.R_lower ho10 (below_size (by repeat (first | (with_reducible first | exact HB.out | apply below_alloc | apply pw_below_drewN | apply below_drew1) | exact HB.out)))); have n1_ := Aside0.mk (below_step (by repeat (first | (with_reducible first | exact HB.out | apply below_alloc | apply pw_below_drewN | apply below_drew1) | exact HB.out)) hb); clear HB; have HO181 := n0_; have HB := n1_; clear n0_ n1_; clear hb ho10))
        go_ret
        exact ⟨_, by first | rfl | (simp [errW_none, errW_some] <;> rfl) | (simp [*, errW_none, errW_some] <;> rfl), by (with_reducible repeat (first | apply Kd.R_alloc | apply Kd.R_drewN | apply Kd.R_drew)); exact HO181.out, by repeat (first | (with_reducible first | exact HB.out | apply below_alloc | apply pw_below_drewN | apply below_drew1) | exact HB.out)⟩
      · rw [if_neg c8] at H
        have c8b0 : decide (a0 < 65536) = false := decide_eq_false c8
        clear c8
        obtain ⟨y182, hy182⟩ : ∃ y_ : List Int, y_ = (([(wrap64 (240 + (wrap64 (Int.tdiv a0 262144)))) % 256, (wrap64 (128 + (Int.tmod (wrap64 (Int.tdiv a0 4096)) 64))) % 256, (wrap64 (128 + (Int.tmod (wrap64 (Int.tdiv a0 64)) 64))) % 256, (wrap64 (128 + (Int.tmod a0 64))) % 256] : List Int)) := ⟨_, rfl⟩
        replace H : (some y182) = some r := by first | (rw [hy182]; with_reducible exact H) | (have H2_ := (Option.bind_some _ _).symm.trans H; rw [hy182]; with_reducible exact H2_) | (have H2_ := (Option.bind_some _ _).symm.trans H; with_reducible exact H2_) | with_reducible exact H | (rw [hy182]; exact H) | exact H
        have Ny182 := Aside0.mk hy182
        clear hy182
        obtain rfl := Option.some.inj H
        go_enter Try.func20, Try.ntmps20
        go_wp2_with (first | ((with_reducible refine gate_dst (N := 56) rfl ?_); refine Kd.R_lit (Kd.int .u8) _ 5 ?hg (N := 56) ?hd (xs := ([(wrap64 (240 + (wrap64 (Int.tdiv a0 262144)))) % 256, (wrap64 (128 + (Int.tmod (wrap64 (Int.tdiv a0 4096)) 64))) % 256, (wrap64 (128 + (Int.tmod (wrap64 (Int.tdiv a0 64)) 64))) % 256, (wrap64 (128 + (Int.tmod a0 64))) % 256] : List Int)) (inner := [.int .u8 ((wrap64 (240 + (wrap64 (Int.tdiv a0 262144)))) % 256), .int .u8 ((wrap64 (128 + (Int.tmod (wrap64 (Int.tdiv a0 4096)) 64))) % 256), .int .u8 ((wrap64 (128 + (Int.tmod (wrap64 (Int.tdiv a0 64)) 64))) % 256), .int .u8 ((wrap64 (128 + (Int.tmod a0 64))) % 256)]) (ok := fun _ => True) (okp := fun _ => True) ?hr ?hp (fun _ hk => hk) trivial (Below.refl _ _) (Nat.le_refl _) (by simp) ?_; (case hd => rfl); (case hg => rfl); (case hr => first | (go_simp; done) | (go_simp; rfl)); (case hp => exact (Reps.one (show Kd.M (Kd.int .u8) _ _ _ ((wrap64 (240 + (wrap64 (Int.tdiv a0 262144)))) % 256) [.int .u8 ((wrap64 (240 + (wrap64 (Int.tdiv a0 262144)))) % 256)] from rfl) (Reps.one (show Kd.M (Kd.int .u8) _ _ _ ((wrap64 (128 + (Int.tmod (wrap64 (Int.tdiv a0 4096)) 64))) % 256) [.int .u8 ((wrap64 (128 + (Int.tmod (wrap64 (Int.tdiv a0 4096)) 64))) % 256)] from rfl) (Reps.one (show Kd.M (Kd.int .u8) _ _ _ ((wrap64 (128 + (Int.tmod (wrap64 (Int.tdiv a0 64)) 64))) % 256) [.int .u8 ((wrap64 (128 + (Int.tmod (wrap64 (Int.tdiv a0 64)) 64))) % 256)] from rfl) (Reps.one (show Kd.M (Kd.int .u8) _ _ _ ((wrap64 (128 + (Int.tmod a0 64))) % 256) [.int .u8 ((wrap64 (128 + (Int.tmod a0 64))) % 256)] from rfl) (Reps.none _ _)))))); intro v183 w11 ho12 hb hg_ hnew_; clear hg_ hnew_; (first | rw [← Ny182.out] at ho12 | (simp only [Int.reduceToNat] at ho12; rw [← Ny182.out] at ho12)); have n0_ := Aside0.mk (Kd.R_lower ho12 (below_size (by repeat (first | (with_reducible first | exact HB.out | apply below_alloc | apply pw_below_drewN | apply below_drew1) | exact HB.out)))); have n1_ := Aside0.mk (below_step (by repeat (first | (with_reducible first | exact HB.out | apply below_alloc | apply pw_below_drewN | apply below_drew1) | exact HB.out)) hb); clear HB; have HO184 := n0_; have HB := n1_; clear n0_ n1_; clear hb ho12))
        go_ret
        exact ⟨_, by first | rfl | (simp [errW_none, errW_some] <;> rfl) | (simp [*, errW_none, errW_some] <;> rfl), by (with_reducible repeat (first | apply Kd.R_alloc | apply Kd.R_drewN | apply Kd.R_drew)); exact HO184.out, by repeat (first | (with_reducible first | exact HB.out | apply below_alloc | apply pw_below_drewN | apply below_drew1) | exact HB.out)⟩

/-! ### targumref1_isLine: function 60 -/
def targumref1_isLine.f (a0 : ByteArray) (a1_0 : Int) (a1_1 : Int) (a1_2 : Int) : Option (Bool) := if a1_0 ≥ 0 then (if a1_0 ≤ a1_1 then (if a1_1 ≤ a1_2 then (some (decide (a1_2 ≤ (a0.size : Int)))) else (some false)) else (some false)) else (some false)
set_option maxHeartbeats 8000000 in
set_option maxRecDepth 100000 in
theorem targumref1_isLine.calls (a0 : ByteArray) (a1_0 : Int) (a1_1 : Int) (a1_2 : Int) (r : Bool) (w : World) (h : targumref1_isLine.f a0 a1_0 a1_1 a1_2 = some r) :
    Calls Try.prog 60 #[.string a0, .agg #[.int .i64 a1_0, .int .i64 a1_1, .int .i64 a1_2]] w fun e w' => e = .returned (.bool r) ∧ Below w.heap.size w w' := by
  have hu83 := Try.underlying83
  have HB := Aside0.mk (Below.refl w.heap.size w)
  have H : (if a1_0 ≥ 0 then (if a1_0 ≤ a1_1 then (if a1_1 ≤ a1_2 then (some (decide (a1_2 ≤ (a0.size : Int)))) else (some false)) else (some false)) else (some false)) = some r := h
  clear h
  by_cases c3 : a1_0 ≥ 0
  · rw [if_pos c3] at H
    have c3b0 : decide (0 ≤ a1_0) = true := decide_eq_true c3
    clear c3
    by_cases c4 : a1_0 ≤ a1_1
    · rw [if_pos c4] at H
      have c4b0 : decide (a1_0 ≤ a1_1) = true := decide_eq_true c4
      clear c4
      by_cases c5 : a1_1 ≤ a1_2
      · rw [if_pos c5] at H
        have c5b0 : decide (a1_1 ≤ a1_2) = true := decide_eq_true c5
        clear c5
        obtain rfl := Option.some.inj H
        go_enter Try.func60, Try.ntmps60
        go_wp2_with (first | ((with_reducible refine gate_dst (N := 3) rfl ?_); (try (refine gate_guard (by rfl) ?_; dsimp only)); refine box_event ?hg (N := 3) ?hd (cs := #[.int .i64 a1_0, .int .i64 a1_1, .int .i64 a1_2]) (t := 83) ?hr ?_; (case hd => rfl); (case hg => rfl); (case hr => first | (go_simp; done) | (go_simp; rfl)); intro gb185 hg w6 hbox hb; have n0_ := Aside0.mk (below_step (by repeat (first | (with_reducible first | exact HB.out | apply below_alloc | apply pw_below_drewN | apply below_drew1) | exact HB.out)) hb); have n1_ := Aside0.mk (hbox); have n2_ := Aside0.mk ((by rw [hg]; exact (below_size (by repeat (first | (with_reducible first | exact HB.out | apply below_alloc | apply pw_below_drewN | apply below_drew1) | exact HB.out))) : w.heap.size ≤ gb185)); have n3_ := Aside0.mk ((by rw [hg]; exact (below_size (by repeat (first | (with_reducible first | exact HB.out | apply below_alloc | apply pw_below_drewN | apply below_drew1) | exact HB.out))) : w.heap.size ≤ gb185)); clear HB; have HB := n0_; have BK185 := n1_; have GW185 := n2_; have GE185 := n3_; clear n0_ n1_ n2_ n3_; clear hb hbox hg; have hcz7_0 : w6.cell? ⟨gb185, 0, none⟩ = some (.int .i64 a1_0) := (blk_cell BK185.out 0).trans rfl; have hcz7_1 : w6.cell? ⟨gb185, 1, none⟩ = some (.int .i64 a1_1) := (blk_cell BK185.out 1).trans rfl; have hcz7_2 : w6.cell? ⟨gb185, 2, none⟩ = some (.int .i64 a1_2) := (blk_cell BK185.out 2).trans rfl; have hfz7_0 := blk_frozen BK185.out 0; have hfz7_1 := blk_frozen BK185.out 1; have hfz7_2 := blk_frozen BK185.out 2))
        go_ret
        exact ⟨by first | rfl | (simp [errW_none, errW_some] <;> rfl) | (simp [*, errW_none, errW_some] <;> rfl), by repeat (first | (with_reducible first | exact HB.out | apply below_alloc | apply pw_below_drewN | apply below_drew1 | refine below_set ?_ GE185.out) | exact HB.out)⟩
      · rw [if_neg c5] at H
        have c5b0 : decide (a1_1 ≤ a1_2) = false := decide_eq_false c5
        clear c5
        obtain rfl := Option.some.inj H
        go_enter Try.func60, Try.ntmps60
        go_wp2_with (first | ((with_reducible refine gate_dst (N := 3) rfl ?_); (try (refine gate_guard (by rfl) ?_; dsimp only)); refine box_event ?hg (N := 3) ?hd (cs := #[.int .i64 a1_0, .int .i64 a1_1, .int .i64 a1_2]) (t := 83) ?hr ?_; (case hd => rfl); (case hg => rfl); (case hr => first | (go_simp; done) | (go_simp; rfl)); intro gb185 hg w8 hbox hb; have n0_ := Aside0.mk (below_step (by repeat (first | (with_reducible first | exact HB.out | apply below_alloc | apply pw_below_drewN | apply below_drew1) | exact HB.out)) hb); have n1_ := Aside0.mk (hbox); have n2_ := Aside0.mk ((by rw [hg]; exact (below_size (by repeat (first | (with_reducible first | exact HB.out | apply below_alloc | apply pw_below_drewN | apply below_drew1) | exact HB.out))) : w.heap.size ≤ gb185)); have n3_ := Aside0.mk ((by rw [hg]; exact (below_size (by repeat (first | (with_reducible first | exact HB.out | apply below_alloc | apply pw_below_drewN | apply below_drew1) | exact HB.out))) : w.heap.size ≤ gb185)); clear HB; have HB := n0_; have BK185 := n1_; have GW185 := n2_; have GE185 := n3_; clear n0_ n1_ n2_ n3_; clear hb hbox hg; have hcz9_0 : w8.cell? ⟨gb185, 0, none⟩ = some (.int .i64 a1_0) := (blk_cell BK185.out 0).trans rfl; have hcz9_1 : w8.cell? ⟨gb185, 1, none⟩ = some (.int .i64 a1_1) := (blk_cell BK185.out 1).trans rfl; have hcz9_2 : w8.cell? ⟨gb185, 2, none⟩ = some (.int .i64 a1_2) := (blk_cell BK185.out 2).trans rfl; have hfz9_0 := blk_frozen BK185.out 0; have hfz9_1 := blk_frozen BK185.out 1; have hfz9_2 := blk_frozen BK185.out 2))
        go_ret
        exact ⟨by first | rfl | (simp [errW_none, errW_some] <;> rfl) | (simp [*, errW_none, errW_some] <;> rfl), by repeat (first | (with_reducible first | exact HB.out | apply below_alloc | apply pw_below_drewN | apply below_drew1 | refine below_set ?_ GE185.out) | exact HB.out)⟩
    · rw [if_neg c4] at H
      have c4b0 : decide (a1_0 ≤ a1_1) = false := decide_eq_false c4
      clear c4
      obtain rfl := Option.some.inj H
      go_enter Try.func60, Try.ntmps60
      go_wp2_with (first | ((with_reducible refine gate_dst (N := 3) rfl ?_); (try (refine gate_guard (by rfl) ?_; dsimp only)); refine box_event ?hg (N := 3) ?hd (cs := #[.int .i64 a1_0, .int .i64 a1_1, .int .i64 a1_2]) (t := 83) ?hr ?_; (case hd => rfl); (case hg => rfl); (case hr => first | (go_simp; done) | (go_simp; rfl)); intro gb185 hg w10 hbox hb; have n0_ := Aside0.mk (below_step (by repeat (first | (with_reducible first | exact HB.out | apply below_alloc | apply pw_below_drewN | apply below_drew1) | exact HB.out)) hb); have n1_ := Aside0.mk (hbox); have n2_ := Aside0.mk ((by rw [hg]; exact (below_size (by repeat (first | (with_reducible first | exact HB.out | apply below_alloc | apply pw_below_drewN | apply below_drew1) | exact HB.out))) : w.heap.size ≤ gb185)); have n3_ := Aside0.mk ((by rw [hg]; exact (below_size (by repeat (first | (with_reducible first | exact HB.out | apply below_alloc | apply pw_below_drewN | apply below_drew1) | exact HB.out))) : w.heap.size ≤ gb185)); clear HB; have HB := n0_; have BK185 := n1_; have GW185 := n2_; have GE185 := n3_; clear n0_ n1_ n2_ n3_; clear hb hbox hg; have hcz11_0 : w10.cell? ⟨gb185, 0, none⟩ = some (.int .i64 a1_0) := (blk_cell BK185.out 0).trans rfl; have hcz11_1 : w10.cell? ⟨gb185, 1, none⟩ = some (.int .i64 a1_1) := (blk_cell BK185.out 1).trans rfl; have hcz11_2 : w10.cell? ⟨gb185, 2, none⟩ = some (.int .i64 a1_2) := (blk_cell BK185.out 2).trans rfl; have hfz11_0 := blk_frozen BK185.out 0; have hfz11_1 := blk_frozen BK185.out 1; have hfz11_2 := blk_frozen BK185.out 2))
      go_ret
      exact ⟨by first | rfl | (simp [errW_none, errW_some] <;> rfl) | (simp [*, errW_none, errW_some] <;> rfl), by repeat (first | (with_reducible first | exact HB.out | apply below_alloc | apply pw_below_drewN | apply below_drew1 | refine below_set ?_ GE185.out) | exact HB.out)⟩
  · rw [if_neg c3] at H
    have c3b0 : decide (0 ≤ a1_0) = false := decide_eq_false c3
    clear c3
    obtain rfl := Option.some.inj H
    go_enter Try.func60, Try.ntmps60
    go_wp2_with (first | ((with_reducible refine gate_dst (N := 3) rfl ?_); (try (refine gate_guard (by rfl) ?_; dsimp only)); refine box_event ?hg (N := 3) ?hd (cs := #[.int .i64 a1_0, .int .i64 a1_1, .int .i64 a1_2]) (t := 83) ?hr ?_; (case hd => rfl); (case hg => rfl); (case hr => first | (go_simp; done) | (go_simp; rfl)); intro gb185 hg w12 hbox hb; have n0_ := Aside0.mk (below_step (by repeat (first | (with_reducible first | exact HB.out | apply below_alloc | apply pw_below_drewN | apply below_drew1) | exact HB.out)) hb); have n1_ := Aside0.mk (hbox); have n2_ := Aside0.mk ((by rw [hg]; exact (below_size (by repeat (first | (with_reducible first | exact HB.out | apply below_alloc | apply pw_below_drewN | apply below_drew1) | exact HB.out))) : w.heap.size ≤ gb185)); have n3_ := Aside0.mk ((by rw [hg]; exact (below_size (by repeat (first | (with_reducible first | exact HB.out | apply below_alloc | apply pw_below_drewN | apply below_drew1) | exact HB.out))) : w.heap.size ≤ gb185)); clear HB; have HB := n0_; have BK185 := n1_; have GW185 := n2_; have GE185 := n3_; clear n0_ n1_ n2_ n3_; clear hb hbox hg; have hcz13_0 : w12.cell? ⟨gb185, 0, none⟩ = some (.int .i64 a1_0) := (blk_cell BK185.out 0).trans rfl; have hcz13_1 : w12.cell? ⟨gb185, 1, none⟩ = some (.int .i64 a1_1) := (blk_cell BK185.out 1).trans rfl; have hcz13_2 : w12.cell? ⟨gb185, 2, none⟩ = some (.int .i64 a1_2) := (blk_cell BK185.out 2).trans rfl; have hfz13_0 := blk_frozen BK185.out 0; have hfz13_1 := blk_frozen BK185.out 1; have hfz13_2 := blk_frozen BK185.out 2))
    go_ret
    exact ⟨by first | rfl | (simp [errW_none, errW_some] <;> rfl) | (simp [*, errW_none, errW_some] <;> rfl), by repeat (first | (with_reducible first | exact HB.out | apply below_alloc | apply pw_below_drewN | apply below_drew1 | refine below_set ?_ GE185.out) | exact HB.out)⟩

/-! ### targumref1_Marker: function 51 -/
def targumref1_Marker.j0 : Nat → ByteArray → Bool → Int → Int → Int → Option (Int)
  | 0, _, _, _, _, _ => none
  | k + 1, x0, x32, x187000, x187001, x187002 => if x32 = true then (some 0) else (if 0 ≤ x187000 then (if x187000 ≤ (wrap64 (x187000 + 3)) then (if (wrap64 (x187000 + 3)) ≤ (x0.size : Int) then (if (x0.extract (x187000 : Int).toNat ((wrap64 (x187000 + 3)) : Int).toNat).toList = ([45, 45, 45] : List UInt8) then (some 1) else (if (x0.extract (x187000 : Int).toNat ((wrap64 (x187000 + 3)) : Int).toNat).toList = ([46, 46, 46] : List UInt8) then (some 2) else (some 0))) else (none)) else (none)) else (none))
def targumref1_Marker.f (k : Nat) (a0 : ByteArray) (a1_0 : Int) (a1_1 : Int) (a1_2 : Int) : Option (Int) := (targumref1_isLine.f a0 a1_0 a1_1 a1_2).bind fun t187 => (if t187 = true then (if (wrap64 (a1_1 - a1_0)) < 3 then (targumref1_Marker.j0 k a0 true a1_0 a1_1 a1_2) else (if (wrap64 (a1_1 - a1_0)) > 3 then ((targumref1_IsBlank.f a0 (wrap64 (a1_0 + 3))).bind fun t188 => (targumref1_Marker.j0 k a0 (!t188) a1_0 a1_1 a1_2)) else (targumref1_Marker.j0 k a0 false a1_0 a1_1 a1_2))) else (targumref1_Marker.j0 k a0 true a1_0 a1_1 a1_2))
theorem targumref1_Marker.mono_l : ∀ k, (∀ y0 y1 y2 y3 y4, LeO (targumref1_Marker.j0 k y0 y1 y2 y3 y4) (targumref1_Marker.j0 (k + 1) y0 y1 y2 y3 y4))
  | 0 => fun _ _ _ _ _ r h => by simp [targumref1_Marker.j0] at h
  | k + 1 => by
    have ih0 := targumref1_Marker.mono_l k
    · intro y0 y1 y2 y3 y4
      unfold targumref1_Marker.j0
      repeat' first
      | (with_reducible exact ih0 _ _ _ _ _)
      | (with_reducible exact LeO.refl _)
      | (with_reducible exact LeO.none _)
      | (with_reducible refine LeO.ite ?_ ?_)
      | (with_reducible refine LeO.bind ?_ (fun _ => ?_))
      | exact ih0 _ _ _ _ _
      | exact LeO.none _
      | refine LeO.ite ?_ ?_
      | refine LeO.bind ?_ (fun _ => ?_)
theorem targumref1_Marker.mono : ∀ a0 a1 a2 a3 k, LeO (targumref1_Marker.f k a0 a1 a2 a3) (targumref1_Marker.f (k + 1) a0 a1 a2 a3) := by
  intro a0 a1 a2 a3 k
  have ih0 := targumref1_Marker.mono_l k
  unfold targumref1_Marker.f
  repeat' first
      | (with_reducible exact ih0 _ _ _ _ _)
      | (with_reducible exact LeO.refl _)
      | (with_reducible exact LeO.none _)
      | (with_reducible refine LeO.ite ?_ ?_)
      | (with_reducible refine LeO.bind ?_ (fun _ => ?_))
      | exact ih0 _ _ _ _ _
      | exact LeO.none _
      | refine LeO.ite ?_ ?_
      | refine LeO.bind ?_ (fun _ => ?_)
set_option maxHeartbeats 8000000 in
set_option maxRecDepth 100000 in
theorem targumref1_Marker.calls (k : Nat) (a0 : ByteArray) (a1_0 : Int) (a1_1 : Int) (a1_2 : Int) (r : Int) (w : World) (h : targumref1_Marker.f k a0 a1_0 a1_1 a1_2 = some r) :
    Calls Try.prog 51 #[.string a0, .agg #[.int .i64 a1_0, .int .i64 a1_1, .int .i64 a1_2]] w fun e w' => e = .returned (.int .i64 r) ∧ Below w.heap.size w w' := by
  have hu83 := Try.underlying83
  have HB := Aside0.mk (Below.refl w.heap.size w)
  have H : ((targumref1_isLine.f a0 a1_0 a1_1 a1_2).bind fun t187 => (if t187 = true then (if (wrap64 (a1_1 - a1_0)) < 3 then (targumref1_Marker.j0 k a0 true a1_0 a1_1 a1_2) else (if (wrap64 (a1_1 - a1_0)) > 3 then ((targumref1_IsBlank.f a0 (wrap64 (a1_0 + 3))).bind fun t188 => (targumref1_Marker.j0 k a0 (!t188) a1_0 a1_1 a1_2)) else (targumref1_Marker.j0 k a0 false a1_0 a1_1 a1_2))) else (targumref1_Marker.j0 k a0 true a1_0 a1_1 a1_2))) = some r := h
  clear h
  have HC3 := Aside0.mk H
  clear H
  go_enter Try.func51, Try.ntmps51
  go_upto_region 1 with (first | ((with_reducible refine gate_dst (N := 3) rfl ?_); refine box_event ?hg (N := 3) ?hd (cs := #[.int .i64 a1_0, .int .i64 a1_1, .int .i64 a1_2]) (t := 83) ?hr ?_; (case hd => rfl); (case hg => rfl); (case hr => first | (go_simp; done) | (go_simp; rfl)); intro gb186 hg w4 hbox hb; have n0_ := Aside0.mk (below_step (by repeat (first | (with_reducible first | exact HB.out | apply below_alloc | apply pw_below_drewN | apply below_drew1) | exact HB.out)) hb); have n1_ := Aside0.mk (hbox); have n2_ := Aside0.mk ((by rw [hg]; exact (below_size (by repeat (first | (with_reducible first | exact HB.out | apply below_alloc | apply pw_below_drewN | apply below_drew1) | exact HB.out))) : w.heap.size ≤ gb186)); have n3_ := Aside0.mk ((by rw [hg]; exact (below_size (by repeat (first | (with_reducible first | exact HB.out | apply below_alloc | apply pw_below_drewN | apply below_drew1) | exact HB.out))) : w.heap.size ≤ gb186)); clear HB; have HB := n0_; have BK186 := n1_; have GW186 := n2_; have GE186 := n3_; clear n0_ n1_ n2_ n3_; clear hb hbox hg))
  (try simp only [Act.put, List.setIfInBounds_toArray, List.set_cons_zero, List.set_cons_succ])
  go_cut [32] (fun v32 wc => ∃ (kq : Nat) (x32_2 : Bool), v32 = .bool x32_2 ∧ Aside0 (targumref1_Marker.j0 kq a0 x32_2 a1_0 a1_1 a1_2 = some r) ∧ Aside0 (kq ≤ k) ∧ Aside0 (wc.heap[gb186]? = some (.cells #[.int .i64 a1_0, .int .i64 a1_1, .int .i64 a1_2] 83 (0, 0))) ∧ Aside0 (Below w.heap.size w wc))
  case first =>
    have H := HC3.out
    clear HC3
    replace H := Option.bind_eq_some_iff.mp H
    obtain ⟨t187, A50, H⟩ := H
    replace H : (if t187 = true then (if (wrap64 (a1_1 - a1_0)) < 3 then (targumref1_Marker.j0 k a0 true a1_0 a1_1 a1_2) else (if (wrap64 (a1_1 - a1_0)) > 3 then ((targumref1_IsBlank.f a0 (wrap64 (a1_0 + 3))).bind fun t188 => (targumref1_Marker.j0 k a0 (!t188) a1_0 a1_1 a1_2)) else (targumref1_Marker.j0 k a0 false a1_0 a1_1 a1_2))) else (targumref1_Marker.j0 k a0 true a1_0 a1_1 a1_2)) = some r := H
    have A5 := Aside0.mk A50
    clear A50
    by_cases c6 : t187 = true
    · subst c6
      have H1 : (if (wrap64 (a1_1 - a1_0)) < 3 then (targumref1_Marker.j0 k a0 true a1_0 a1_1 a1_2) else (if (wrap64 (a1_1 - a1_0)) > 3 then ((targumref1_IsBlank.f a0 (wrap64 (a1_0 + 3))).bind fun t188 => (targumref1_Marker.j0 k a0 (!t188) a1_0 a1_1 a1_2)) else (targumref1_Marker.j0 k a0 false a1_0 a1_1 a1_2))) = some r := by rw [if_pos rfl] at H; exact H
      clear H
      have H := H1
      clear H1
      by_cases c7 : (wrap64 (a1_1 - a1_0)) < 3
      · rw [if_pos c7] at H
        have c7b0 : decide ((wrap64 (a1_1 - a1_0)) < 3) = true := decide_eq_true c7
        (try (have c7b1 : decide (((a1_1 - a1_0)) < 3) = true := (by have e_ : wrap64 (a1_1 - a1_0) = (a1_1 - a1_0) := (by unfold wrap64; omega); have h_ : decide ((wrap64 (a1_1 - a1_0)) < 3) = true := decide_eq_true c7; rw [e_] at h_; exact h_)))
        clear c7
        (first | rw [c7b0] | (simp only [i64_w, i32_w]; rw [c7b0]) | skip)
        have H' := Aside0.mk H
        clear H
        have hcz8_0 : w4.cell? ⟨gb186, 0, none⟩ = some (.int .i64 a1_0) := (blk_cell BK186.out 0).trans rfl
        have hcz8_1 : w4.cell? ⟨gb186, 1, none⟩ = some (.int .i64 a1_1) := (blk_cell BK186.out 1).trans rfl
        have hcz8_2 : w4.cell? ⟨gb186, 2, none⟩ = some (.int .i64 a1_2) := (blk_cell BK186.out 2).trans rfl
        have hfz8_0 := blk_frozen BK186.out 0
        have hfz8_1 := blk_frozen BK186.out 1
        have hfz8_2 := blk_frozen BK186.out 2
        go_wp2_with (first | ((with_reducible refine gate_callee (f := 60) rfl ?_); refine goesL_ (some 7) rfl rfl Try.func60 (by kernel_rfl) rfl #[.string a0, .agg #[.int .i64 a1_0, .int .i64 a1_1, .int .i64 a1_2]] rfl (by (try simp only [List.map_toArray, List.map_cons, List.map_nil]); first | done | rfl | (simp only [List.length_drop, List.length_take]; rfl)) ?_; (with_reducible refine (targumref1_isLine.calls a0 a1_0 a1_1 a1_2 true _ A5.out).mono ?_); rintro e w9 ⟨rfl, hb⟩; refine ⟨_, rfl, ?_⟩; have n0_ := Aside0.mk (blk_below (g := gb186) (o := .cells #[.int .i64 a1_0, .int .i64 a1_1, .int .i64 a1_2] 83 (0, 0)) (by (with_reducible repeat (first | refine blk_drewN ?_ _ | refine blk_drew ?_ | refine blk_alloc ?_ _)); exact BK186.out) hb); have n1_ := Aside0.mk (below_step (by repeat (first | (with_reducible first | exact HB.out | apply below_alloc | apply pw_below_drewN | apply below_drew1 | refine below_set ?_ GE186.out) | exact HB.out)) hb); clear BK186; clear HB; have BK186 := n0_; have HB := n1_; clear n0_ n1_; (try clear hb); (try clear hb2); (try clear hk); (try clear hi); have hcz10_0 : w9.cell? ⟨gb186, 0, none⟩ = some (.int .i64 a1_0) := (blk_cell BK186.out 0).trans rfl; have hcz10_1 : w9.cell? ⟨gb186, 1, none⟩ = some (.int .i64 a1_1) := (blk_cell BK186.out 1).trans rfl; have hcz10_2 : w9.cell? ⟨gb186, 2, none⟩ = some (.int .i64 a1_2) := (blk_cell BK186.out 2).trans rfl; have hfz10_0 := blk_frozen BK186.out 0; have hfz10_1 := blk_frozen BK186.out 1; have hfz10_2 := blk_frozen BK186.out 2))
        go_meet
        case rel => exact ⟨_, (true), (by first | rfl | (simp; done) | (simp [*]; done)), H', ⟨by first | omega | exact Nat.le_refl _⟩, ⟨by (with_reducible repeat (first | refine blk_drewN ?_ _ | refine blk_drew ?_ | refine blk_alloc ?_ _)); exact BK186.out⟩, ⟨by repeat (first | (with_reducible first | exact HB.out | apply below_alloc | apply pw_below_drewN | apply below_drew1 | refine below_set ?_ GE186.out) | exact HB.out)⟩⟩
      · rw [if_neg c7] at H
        have c7b0 : decide ((wrap64 (a1_1 - a1_0)) < 3) = false := decide_eq_false c7
        (try (have c7b1 : decide (((a1_1 - a1_0)) < 3) = false := (by have e_ : wrap64 (a1_1 - a1_0) = (a1_1 - a1_0) := (by unfold wrap64; omega); have h_ : decide ((wrap64 (a1_1 - a1_0)) < 3) = false := decide_eq_false c7; rw [e_] at h_; exact h_)))
        clear c7
        (first | rw [c7b0] | (simp only [i64_w, i32_w]; rw [c7b0]) | skip)
        by_cases c11 : (wrap64 (a1_1 - a1_0)) > 3
        · rw [if_pos c11] at H
          have c11b0 : decide (3 < (wrap64 (a1_1 - a1_0))) = true := decide_eq_true c11
          (try (have c11b1 : decide (3 < ((a1_1 - a1_0))) = true := (by have e_ : wrap64 (a1_1 - a1_0) = (a1_1 - a1_0) := (by unfold wrap64; omega); have h_ : decide (3 < (wrap64 (a1_1 - a1_0))) = true := decide_eq_true c11; rw [e_] at h_; exact h_)))
          clear c11
          replace H := Option.bind_eq_some_iff.mp H
          obtain ⟨t188, A120, H⟩ := H
          replace H : (targumref1_Marker.j0 k a0 (!t188) a1_0 a1_1 a1_2) = some r := H
          have A12 := Aside0.mk A120
          clear A120
          have H' := Aside0.mk H
          clear H
          have hcz13_0 : w4.cell? ⟨gb186, 0, none⟩ = some (.int .i64 a1_0) := (blk_cell BK186.out 0).trans rfl
          have hcz13_1 : w4.cell? ⟨gb186, 1, none⟩ = some (.int .i64 a1_1) := (blk_cell BK186.out 1).trans rfl
          have hcz13_2 : w4.cell? ⟨gb186, 2, none⟩ = some (.int .i64 a1_2) := (blk_cell BK186.out 2).trans rfl
          have hfz13_0 := blk_frozen BK186.out 0
          have hfz13_1 := blk_frozen BK186.out 1
          have hfz13_2 := blk_frozen BK186.out 2
          go_wp2_with (first | ((with_reducible refine gate_callee (f := 60) rfl ?_); refine goesL_ (some 7) rfl rfl Try.func60 (by kernel_rfl) rfl #[.string a0, .agg #[.int .i64 a1_0, .int .i64 a1_1, .int .i64 a1_2]] rfl (by (try simp only [List.map_toArray, List.map_cons, List.map_nil]); first | done | rfl | (simp only [List.length_drop, List.length_take]; rfl)) ?_; (with_reducible refine (targumref1_isLine.calls a0 a1_0 a1_1 a1_2 true _ A5.out).mono ?_); rintro e w14 ⟨rfl, hb⟩; refine ⟨_, rfl, ?_⟩; have n0_ := Aside0.mk (blk_below (g := gb186) (o := .cells #[.int .i64 a1_0, .int .i64 a1_1, .int .i64 a1_2] 83 (0, 0)) (by (with_reducible repeat (first | refine blk_drewN ?_ _ | refine blk_drew ?_ | refine blk_alloc ?_ _)); exact BK186.out) hb); have n1_ := Aside0.mk (below_step (by repeat (first | (with_reducible first | exact HB.out | apply below_alloc | apply pw_below_drewN | apply below_drew1 | refine below_set ?_ GE186.out) | exact HB.out)) hb); clear BK186; clear HB; have BK186 := n0_; have HB := n1_; clear n0_ n1_; (try clear hb); (try clear hb2); (try clear hk); (try clear hi); have hcz15_0 : w14.cell? ⟨gb186, 0, none⟩ = some (.int .i64 a1_0) := (blk_cell BK186.out 0).trans rfl; have hcz15_1 : w14.cell? ⟨gb186, 1, none⟩ = some (.int .i64 a1_1) := (blk_cell BK186.out 1).trans rfl; have hcz15_2 : w14.cell? ⟨gb186, 2, none⟩ = some (.int .i64 a1_2) := (blk_cell BK186.out 2).trans rfl; have hfz15_0 := blk_frozen BK186.out 0; have hfz15_1 := blk_frozen BK186.out 1; have hfz15_2 := blk_frozen BK186.out 2) | (go_at_call 16; (with_reducible refine (targumref1_IsBlank.calls a0 (wrap64 (a1_0 + 3)) t188 _ A12.out).mono ?_); rintro e w' ⟨rfl, ⟨nd, rfl⟩⟩))
          go_meet
          case rel => exact ⟨_, (!t188), (by first | rfl | (simp; done) | (simp [*]; done)), H', ⟨by first | omega | exact Nat.le_refl _⟩, ⟨by (with_reducible repeat (first | refine blk_drewN ?_ _ | refine blk_drew ?_ | refine blk_alloc ?_ _)); exact BK186.out⟩, ⟨by repeat (first | (with_reducible first | exact HB.out | apply below_alloc | apply pw_below_drewN | apply below_drew1 | refine below_set ?_ GE186.out) | exact HB.out)⟩⟩
        · rw [if_neg c11] at H
          have c11b0 : decide (3 < (wrap64 (a1_1 - a1_0))) = false := decide_eq_false c11
          (try (have c11b1 : decide (3 < ((a1_1 - a1_0))) = false := (by have e_ : wrap64 (a1_1 - a1_0) = (a1_1 - a1_0) := (by unfold wrap64; omega); have h_ : decide (3 < (wrap64 (a1_1 - a1_0))) = false := decide_eq_false c11; rw [e_] at h_; exact h_)))
          clear c11
          have H' := Aside0.mk H
          clear H
          have hcz16_0 : w4.cell? ⟨gb186, 0, none⟩ = some (.int .i64 a1_0) := (blk_cell BK186.out 0).trans rfl
          have hcz16_1 : w4.cell? ⟨gb186, 1, none⟩ = some (.int .i64 a1_1) := (blk_cell BK186.out 1).trans rfl
          have hcz16_2 : w4.cell? ⟨gb186, 2, none⟩ = some (.int .i64 a1_2) := (blk_cell BK186.out 2).trans rfl
          have hfz16_0 := blk_frozen BK186.out 0
          have hfz16_1 := blk_frozen BK186.out 1
          have hfz16_2 := blk_frozen BK186.out 2
          go_wp2_with (first | ((with_reducible refine gate_callee (f := 60) rfl ?_); refine goesL_ (some 7) rfl rfl Try.func60 (by kernel_rfl) rfl #[.string a0, .agg #[.int .i64 a1_0, .int .i64 a1_1, .int .i64 a1_2]] rfl (by (try simp only [List.map_toArray, List.map_cons, List.map_nil]); first | done | rfl | (simp only [List.length_drop, List.length_take]; rfl)) ?_; (with_reducible refine (targumref1_isLine.calls a0 a1_0 a1_1 a1_2 true _ A5.out).mono ?_); rintro e w17 ⟨rfl, hb⟩; refine ⟨_, rfl, ?_⟩; have n0_ := Aside0.mk (blk_below (g := gb186) (o := .cells #[.int .i64 a1_0, .int .i64 a1_1, .int .i64 a1_2] 83 (0, 0)) (by (with_reducible repeat (first | refine blk_drewN ?_ _ | refine blk_drew ?_ | refine blk_alloc ?_ _)); exact BK186.out) hb); have n1_ := Aside0.mk (below_step (by repeat (first | (with_reducible first | exact HB.out | apply below_alloc | apply pw_below_drewN | apply below_drew1 | refine below_set ?_ GE186.out) | exact HB.out)) hb); clear BK186; clear HB; have BK186 := n0_; have HB := n1_; clear n0_ n1_; (try clear hb); (try clear hb2); (try clear hk); (try clear hi); have hcz18_0 : w17.cell? ⟨gb186, 0, none⟩ = some (.int .i64 a1_0) := (blk_cell BK186.out 0).trans rfl; have hcz18_1 : w17.cell? ⟨gb186, 1, none⟩ = some (.int .i64 a1_1) := (blk_cell BK186.out 1).trans rfl; have hcz18_2 : w17.cell? ⟨gb186, 2, none⟩ = some (.int .i64 a1_2) := (blk_cell BK186.out 2).trans rfl; have hfz18_0 := blk_frozen BK186.out 0; have hfz18_1 := blk_frozen BK186.out 1; have hfz18_2 := blk_frozen BK186.out 2))
          go_meet
          case rel => exact ⟨_, (false), (by first | rfl | (simp; done) | (simp [*]; done)), H', ⟨by first | omega | exact Nat.le_refl _⟩, ⟨by (with_reducible repeat (first | refine blk_drewN ?_ _ | refine blk_drew ?_ | refine blk_alloc ?_ _)); exact BK186.out⟩, ⟨by repeat (first | (with_reducible first | exact HB.out | apply below_alloc | apply pw_below_drewN | apply below_drew1 | refine below_set ?_ GE186.out) | exact HB.out)⟩⟩
    · replace c6 := Bool.eq_false_iff.mpr c6
      subst c6
      have H1 : (targumref1_Marker.j0 k a0 true a1_0 a1_1 a1_2) = some r := by rw [if_neg (show ¬ (false = true) by decide)] at H; exact H
      clear H
      have H := H1
      clear H1
      have H' := Aside0.mk H
      clear H
      have hcz19_0 : w4.cell? ⟨gb186, 0, none⟩ = some (.int .i64 a1_0) := (blk_cell BK186.out 0).trans rfl
      have hcz19_1 : w4.cell? ⟨gb186, 1, none⟩ = some (.int .i64 a1_1) := (blk_cell BK186.out 1).trans rfl
      have hcz19_2 : w4.cell? ⟨gb186, 2, none⟩ = some (.int .i64 a1_2) := (blk_cell BK186.out 2).trans rfl
      have hfz19_0 := blk_frozen BK186.out 0
      have hfz19_1 := blk_frozen BK186.out 1
      have hfz19_2 := blk_frozen BK186.out 2
      go_wp2_with (first | ((with_reducible refine gate_callee (f := 60) rfl ?_); refine goesL_ (some 7) rfl rfl Try.func60 (by kernel_rfl) rfl #[.string a0, .agg #[.int .i64 a1_0, .int .i64 a1_1, .int .i64 a1_2]] rfl (by (try simp only [List.map_toArray, List.map_cons, List.map_nil]); first | done | rfl | (simp only [List.length_drop, List.length_take]; rfl)) ?_; (with_reducible refine (targumref1_isLine.calls a0 a1_0 a1_1 a1_2 false _ A5.out).mono ?_); rintro e w20 ⟨rfl, hb⟩; refine ⟨_, rfl, ?_⟩; have n0_ := Aside0.mk (blk_below (g := gb186) (o := .cells #[.int .i64 a1_0, .int .i64 a1_1, .int .i64 a1_2] 83 (0, 0)) (by (with_reducible repeat (first | refine blk_drewN ?_ _ | refine blk_drew ?_ | refine blk_alloc ?_ _)); exact BK186.out) hb); have n1_ := Aside0.mk (below_step (by repeat (first | (with_reducible first | exact HB.out | apply below_alloc | apply pw_below_drewN | apply below_drew1 | refine below_set ?_ GE186.out) | exact HB.out)) hb); clear BK186; clear HB; have BK186 := n0_; have HB := n1_; clear n0_ n1_; (try clear hb); (try clear hb2); (try clear hk); (try clear hi)))
      go_meet
      case rel => exact ⟨_, (true), (by first | rfl | (simp; done) | (simp [*]; done)), H', ⟨by first | omega | exact Nat.le_refl _⟩, ⟨by (with_reducible repeat (first | refine blk_drewN ?_ _ | refine blk_drew ?_ | refine blk_alloc ?_ _)); exact BK186.out⟩, ⟨by repeat (first | (with_reducible first | exact HB.out | apply below_alloc | apply pw_below_drewN | apply below_drew1 | refine below_set ?_ GE186.out) | exact HB.out)⟩⟩
  case rest =>
    clear HC3
    (try clear c1); (try clear p2); (try clear c5); (try clear c6); (try clear p6); (try clear c7); (try clear c7b0); (try clear c7b1); (try clear c11); (try clear c11b0); (try clear c11b1); (try clear hcz10_0); (try clear hcz10_1); (try clear hcz10_2); (try clear hcz13_0); (try clear hcz13_1); (try clear hcz13_2); (try clear hcz15_0); (try clear hcz15_1); (try clear hcz15_2); (try clear hcz16_0); (try clear hcz16_1); (try clear hcz16_2); (try clear hcz18_0); (try clear hcz18_1); (try clear hcz18_2); (try clear hcz19_0); (try clear hcz19_1); (try clear hcz19_2); (try clear hcz8_0); (try clear hcz8_1); (try clear hcz8_2); (try clear hfz10_0); (try clear hfz10_1); (try clear hfz10_2); (try clear hfz13_0); (try clear hfz13_1); (try clear hfz13_2); (try clear hfz15_0); (try clear hfz15_1); (try clear hfz15_2); (try clear hfz16_0); (try clear hfz16_1); (try clear hfz16_2); (try clear hfz18_0); (try clear hfz18_1); (try clear hfz18_2); (try clear hfz19_0); (try clear hfz19_1); (try clear hfz19_2); (try clear hfz8_0); (try clear hfz8_1); (try clear hfz8_2)
    obtain ⟨kq, x32_2, rfl, HA, HJ2, BK186, HB⟩ := hcut
    cases kq with
    | zero => exact absurd HA.out (by simp [targumref1_Marker.j0])
    | succ kj2 =>
      have H := HA.out
      clear HA
      simp only [targumref1_Marker.j0] at H
      by_cases c21 : x32_2 = true
      · subst c21
        have H1 : (some 0) = some r := by rw [if_pos rfl] at H; exact H
        clear H
        have H := H1
        clear H1
        obtain rfl := Option.some.inj H
        go_wp2
        go_ret
        exact ⟨by first | rfl | (simp [errW_none, errW_some] <;> rfl) | (simp [*, errW_none, errW_some] <;> rfl), by repeat (first | (with_reducible first | exact HB.out | apply below_alloc | apply pw_below_drewN | apply below_drew1 | refine below_set ?_ GE186.out) | exact HB.out)⟩
      · replace c21 := Bool.eq_false_iff.mpr c21
        subst c21
        have H1 : (if 0 ≤ a1_0 then (if a1_0 ≤ (wrap64 (a1_0 + 3)) then (if (wrap64 (a1_0 + 3)) ≤ (a0.size : Int) then (if (a0.extract (a1_0 : Int).toNat ((wrap64 (a1_0 + 3)) : Int).toNat).toList = ([45, 45, 45] : List UInt8) then (some 1) else (if (a0.extract (a1_0 : Int).toNat ((wrap64 (a1_0 + 3)) : Int).toNat).toList = ([46, 46, 46] : List UInt8) then (some 2) else (some 0))) else (none)) else (none)) else (none)) = some r := by rw [if_neg (show ¬ (false = true) by decide)] at H; exact H
        clear H
        have H := H1
        clear H1
        by_cases c22 : 0 ≤ a1_0
        · rw [if_pos c22] at H
          have c22b0 := eq_true c22
          have c22b1 : decide (0 ≤ a1_0) = true := decide_eq_true c22
          clear c22
          by_cases c23 : a1_0 ≤ (wrap64 (a1_0 + 3))
          · rw [if_pos c23] at H
            have c23b0 := eq_true c23
            have c23b1 : decide (a1_0 ≤ (wrap64 (a1_0 + 3))) = true := decide_eq_true c23
            by_cases c24 : (wrap64 (a1_0 + 3)) ≤ (a0.size : Int)
            · rw [if_pos c24] at H
              have c24b0 := eq_true c24
              have c24b1 : decide ((wrap64 (a1_0 + 3)) ≤ (a0.size : Int)) = true := decide_eq_true c24
              by_cases c25 : (a0.extract (a1_0 : Int).toNat ((wrap64 (a1_0 + 3)) : Int).toNat).toList = ([45, 45, 45] : List UInt8)
              · rw [if_pos c25] at H
                have c25b0 : ((a0.extract (a1_0 : Int).toNat ((wrap64 (a1_0 + 3)) : Int).toNat).toList == ([45, 45, 45] : List UInt8)) = true := beq_iff_eq.mpr c25
                have c25b1 : ((a0.extract (a1_0 : Int).toNat ((wrap64 (a1_0 + 3)) : Int).toNat).toList != ([45, 45, 45] : List UInt8)) = false := bne_eq_false_iff_eq.mpr c25
                (try (have c25b2 : ((a0.extract (a1_0 : Int).toNat (((a1_0 + 3)) : Int).toNat).toList == ([45, 45, 45] : List UInt8)) = true := (by have e_ : wrap64 (a1_0 + 3) = (a1_0 + 3) := (by unfold wrap64; omega); have h_ : ((a0.extract (a1_0 : Int).toNat ((wrap64 (a1_0 + 3)) : Int).toNat).toList == ([45, 45, 45] : List UInt8)) = true := beq_iff_eq.mpr c25; rw [e_] at h_; exact h_)))
                (try (have c25b3 : ((a0.extract (a1_0 : Int).toNat (((a1_0 + 3)) : Int).toNat).toList != ([45, 45, 45] : List UInt8)) = false := (by have e_ : wrap64 (a1_0 + 3) = (a1_0 + 3) := (by unfold wrap64; omega); have h_ : ((a0.extract (a1_0 : Int).toNat ((wrap64 (a1_0 + 3)) : Int).toNat).toList != ([45, 45, 45] : List UInt8)) = false := bne_eq_false_iff_eq.mpr c25; rw [e_] at h_; exact h_)))
                clear c25
                obtain rfl := Option.some.inj H
                have hcz26_0 : wc.cell? ⟨gb186, 0, none⟩ = some (.int .i64 a1_0) := (blk_cell BK186.out 0).trans rfl
                have hcz26_1 : wc.cell? ⟨gb186, 1, none⟩ = some (.int .i64 a1_1) := (blk_cell BK186.out 1).trans rfl
                have hcz26_2 : wc.cell? ⟨gb186, 2, none⟩ = some (.int .i64 a1_2) := (blk_cell BK186.out 2).trans rfl
                have hfz26_0 := blk_frozen BK186.out 0
                have hfz26_1 := blk_frozen BK186.out 1
                have hfz26_2 := blk_frozen BK186.out 2
                go_wp2
                go_ret
                exact ⟨by first | rfl | (simp [errW_none, errW_some] <;> rfl) | (simp [*, errW_none, errW_some] <;> rfl), by repeat (first | (with_reducible first | exact HB.out | apply below_alloc | apply pw_below_drewN | apply below_drew1 | refine below_set ?_ GE186.out) | exact HB.out)⟩
              · rw [if_neg c25] at H
                have c25b0 : ((a0.extract (a1_0 : Int).toNat ((wrap64 (a1_0 + 3)) : Int).toNat).toList == ([45, 45, 45] : List UInt8)) = false := beq_eq_false_iff_ne.mpr c25
                have c25b1 : ((a0.extract (a1_0 : Int).toNat ((wrap64 (a1_0 + 3)) : Int).toNat).toList != ([45, 45, 45] : List UInt8)) = true := bne_iff_ne.mpr c25
                (try (have c25b2 : ((a0.extract (a1_0 : Int).toNat (((a1_0 + 3)) : Int).toNat).toList == ([45, 45, 45] : List UInt8)) = false := (by have e_ : wrap64 (a1_0 + 3) = (a1_0 + 3) := (by unfold wrap64; omega); have h_ : ((a0.extract (a1_0 : Int).toNat ((wrap64 (a1_0 + 3)) : Int).toNat).toList == ([45, 45, 45] : List UInt8)) = false := beq_eq_false_iff_ne.mpr c25; rw [e_] at h_; exact h_)))
                (try (have c25b3 : ((a0.extract (a1_0 : Int).toNat (((a1_0 + 3)) : Int).toNat).toList != ([45, 45, 45] : List UInt8)) = true := (by have e_ : wrap64 (a1_0 + 3) = (a1_0 + 3) := (by unfold wrap64; omega); have h_ : ((a0.extract (a1_0 : Int).toNat ((wrap64 (a1_0 + 3)) : Int).toNat).toList != ([45, 45, 45] : List UInt8)) = true := bne_iff_ne.mpr c25; rw [e_] at h_; exact h_)))
                by_cases c27 : (a0.extract (a1_0 : Int).toNat ((wrap64 (a1_0 + 3)) : Int).toNat).toList = ([46, 46, 46] : List UInt8)
                · rw [if_pos c27] at H
                  have c27b0 : ((a0.extract (a1_0 : Int).toNat ((wrap64 (a1_0 + 3)) : Int).toNat).toList == ([46, 46, 46] : List UInt8)) = true := beq_iff_eq.mpr c27
                  have c27b1 : ((a0.extract (a1_0 : Int).toNat ((wrap64 (a1_0 + 3)) : Int).toNat).toList != ([46, 46, 46] : List UInt8)) = false := bne_eq_false_iff_eq.mpr c27
                  (try (have c27b2 : ((a0.extract (a1_0 : Int).toNat (((a1_0 + 3)) : Int).toNat).toList == ([46, 46, 46] : List UInt8)) = true := (by have e_ : wrap64 (a1_0 + 3) = (a1_0 + 3) := (by unfold wrap64; omega); have h_ : ((a0.extract (a1_0 : Int).toNat ((wrap64 (a1_0 + 3)) : Int).toNat).toList == ([46, 46, 46] : List UInt8)) = true := beq_iff_eq.mpr c27; rw [e_] at h_; exact h_)))
                  (try (have c27b3 : ((a0.extract (a1_0 : Int).toNat (((a1_0 + 3)) : Int).toNat).toList != ([46, 46, 46] : List UInt8)) = false := (by have e_ : wrap64 (a1_0 + 3) = (a1_0 + 3) := (by unfold wrap64; omega); have h_ : ((a0.extract (a1_0 : Int).toNat ((wrap64 (a1_0 + 3)) : Int).toNat).toList != ([46, 46, 46] : List UInt8)) = false := bne_eq_false_iff_eq.mpr c27; rw [e_] at h_; exact h_)))
                  clear c27
                  obtain rfl := Option.some.inj H
                  have hcz28_0 : wc.cell? ⟨gb186, 0, none⟩ = some (.int .i64 a1_0) := (blk_cell BK186.out 0).trans rfl
                  have hcz28_1 : wc.cell? ⟨gb186, 1, none⟩ = some (.int .i64 a1_1) := (blk_cell BK186.out 1).trans rfl
                  have hcz28_2 : wc.cell? ⟨gb186, 2, none⟩ = some (.int .i64 a1_2) := (blk_cell BK186.out 2).trans rfl
                  have hfz28_0 := blk_frozen BK186.out 0
                  have hfz28_1 := blk_frozen BK186.out 1
                  have hfz28_2 := blk_frozen BK186.out 2
                  go_wp2
                  go_ret
                  exact ⟨by first | rfl | (simp [errW_none, errW_some] <;> rfl) | (simp [*, errW_none, errW_some] <;> rfl), by repeat (first | (with_reducible first | exact HB.out | apply below_alloc | apply pw_below_drewN | apply below_drew1 | refine below_set ?_ GE186.out) | exact HB.out)⟩
                · rw [if_neg c27] at H
                  have c27b0 : ((a0.extract (a1_0 : Int).toNat ((wrap64 (a1_0 + 3)) : Int).toNat).toList == ([46, 46, 46] : List UInt8)) = false := beq_eq_false_iff_ne.mpr c27
                  have c27b1 : ((a0.extract (a1_0 : Int).toNat ((wrap64 (a1_0 + 3)) : Int).toNat).toList != ([46, 46, 46] : List UInt8)) = true := bne_iff_ne.mpr c27
                  (try (have c27b2 : ((a0.extract (a1_0 : Int).toNat (((a1_0 + 3)) : Int).toNat).toList == ([46, 46, 46] : List UInt8)) = false := (by have e_ : wrap64 (a1_0 + 3) = (a1_0 + 3) := (by unfold wrap64; omega); have h_ : ((a0.extract (a1_0 : Int).toNat ((wrap64 (a1_0 + 3)) : Int).toNat).toList == ([46, 46, 46] : List UInt8)) = false := beq_eq_false_iff_ne.mpr c27; rw [e_] at h_; exact h_)))
                  (try (have c27b3 : ((a0.extract (a1_0 : Int).toNat (((a1_0 + 3)) : Int).toNat).toList != ([46, 46, 46] : List UInt8)) = true := (by have e_ : wrap64 (a1_0 + 3) = (a1_0 + 3) := (by unfold wrap64; omega); have h_ : ((a0.extract (a1_0 : Int).toNat ((wrap64 (a1_0 + 3)) : Int).toNat).toList != ([46, 46, 46] : List UInt8)) = true := bne_iff_ne.mpr c27; rw [e_] at h_; exact h_)))
                  obtain rfl := Option.some.inj H
                  have hcz29_0 : wc.cell? ⟨gb186, 0, none⟩ = some (.int .i64 a1_0) := (blk_cell BK186.out 0).trans rfl
                  have hcz29_1 : wc.cell? ⟨gb186, 1, none⟩ = some (.int .i64 a1_1) := (blk_cell BK186.out 1).trans rfl
                  have hcz29_2 : wc.cell? ⟨gb186, 2, none⟩ = some (.int .i64 a1_2) := (blk_cell BK186.out 2).trans rfl
                  have hfz29_0 := blk_frozen BK186.out 0
                  have hfz29_1 := blk_frozen BK186.out 1
                  have hfz29_2 := blk_frozen BK186.out 2
                  go_wp2
                  go_ret
                  exact ⟨by first | rfl | (simp [errW_none, errW_some] <;> rfl) | (simp [*, errW_none, errW_some] <;> rfl), by repeat (first | (with_reducible first | exact HB.out | apply below_alloc | apply pw_below_drewN | apply below_drew1 | refine below_set ?_ GE186.out) | exact HB.out)⟩
            · rw [if_neg c24] at H
              exact absurd H (by simp)
          · rw [if_neg c23] at H
            exact absurd H (by simp)
        · rw [if_neg c22] at H
          exact absurd H (by simp)

end Go.Proofs.Ytgbnbjajaaggkaa.Q
