-- Written by hookprint.py (a program of this project, over the kit's printer). Not trusted: Lean checks it.
import Derived.Test.YtgbnbjajaaggkaaQx0
import Derived.Test.YtgbnbjajaaggkaaQx4
namespace Go.Proofs.Ytgbnbjajaaggkaa.Q
open Go.RowKit Go.Proofs.YtgbnbjajaaggkaaW.PrintWords Go.Proofs.YtgbnbjajaaggkaaW.PrintLast Go.Proofs.YtgbnbjajaaggkaaW.PrintMore
attribute [local go_sem] max2_int min2_int max_two min_two max_three min_three max_four min_four   -- for this text's walks alone
set_option linter.unusedVariables false
set_option linter.unusedSimpArgs false

/-! ### targumref1_May: function 29 -/
def targumref1_May.j0 : Nat → Int → Int → Bool → Option (Int)
  | 0, _, _, _ => none
  | k + 1, x5, x6, x13 => if x13 = true then (some x6) else (if x5 ≥ 160 then (if x5 ≤ 65533 then (if x5 = 65279 then (if x5 ≥ 65536 then (some x6) else (some 0)) else (some x6)) else (if x5 ≥ 65536 then (some x6) else (some 0))) else (if x5 ≥ 65536 then (some x6) else (some 0)))
def targumref1_May.f (k : Nat) (a0 : ByteArray) (a1 : Int) : Option (Int) := (targumref1_Next.f k a0 a1).bind fun bt167 => (if bt167.1 = 9 then (targumref1_May.j0 k bt167.1 bt167.2 true) else (if bt167.1 = 10 then (targumref1_May.j0 k bt167.1 bt167.2 true) else (if bt167.1 = 13 then (targumref1_May.j0 k bt167.1 bt167.2 true) else (if bt167.1 ≥ 32 then (if bt167.1 ≤ 126 then (targumref1_May.j0 k bt167.1 bt167.2 true) else (targumref1_May.j0 k bt167.1 bt167.2 (bt167.1 == 133))) else (targumref1_May.j0 k bt167.1 bt167.2 (bt167.1 == 133))))))
theorem targumref1_May.mono_l : ∀ k, (∀ y0 y1 y2, LeO (targumref1_May.j0 k y0 y1 y2) (targumref1_May.j0 (k + 1) y0 y1 y2))
  | 0 => fun _ _ _ r h => by simp [targumref1_May.j0] at h
  | k + 1 => by
    have ih0 := targumref1_May.mono_l k
    · intro y0 y1 y2
      unfold targumref1_May.j0
      repeat' first
      | (with_reducible exact ih0 _ _ _)
      | (with_reducible exact targumref1_Next.mono _ _ _)
      | (with_reducible exact LeO.refl _)
      | (with_reducible exact LeO.none _)
      | (with_reducible refine LeO.ite ?_ ?_)
      | (with_reducible refine LeO.bind ?_ (fun _ => ?_))
      | exact ih0 _ _ _
      | exact targumref1_Next.mono _ _ _
      | exact LeO.none _
      | refine LeO.ite ?_ ?_
      | refine LeO.bind ?_ (fun _ => ?_)
theorem targumref1_May.mono : ∀ a0 a1 k, LeO (targumref1_May.f k a0 a1) (targumref1_May.f (k + 1) a0 a1) := by
  intro a0 a1 k
  have ih0 := targumref1_May.mono_l k
  unfold targumref1_May.f
  repeat' first
      | (with_reducible exact ih0 _ _ _)
      | (with_reducible exact targumref1_Next.mono _ _ _)
      | (with_reducible exact LeO.refl _)
      | (with_reducible exact LeO.none _)
      | (with_reducible refine LeO.ite ?_ ?_)
      | (with_reducible refine LeO.bind ?_ (fun _ => ?_))
      | exact ih0 _ _ _
      | exact targumref1_Next.mono _ _ _
      | exact LeO.none _
      | refine LeO.ite ?_ ?_
      | refine LeO.bind ?_ (fun _ => ?_)
set_option maxHeartbeats 8000000 in
set_option maxRecDepth 100000 in
theorem targumref1_May.calls (k : Nat) (a0 : ByteArray) (a1 : Int) (r : Int) (w : World) (h : targumref1_May.f k a0 a1 = some r) :
    Calls Try.prog 29 #[.string a0, .int .i64 a1] w fun e w' => e = .returned (.int .i64 r) ∧ Drawn0 w w' := by
  have H : ((targumref1_Next.f k a0 a1).bind fun bt167 => (if bt167.1 = 9 then (targumref1_May.j0 k bt167.1 bt167.2 true) else (if bt167.1 = 10 then (targumref1_May.j0 k bt167.1 bt167.2 true) else (if bt167.1 = 13 then (targumref1_May.j0 k bt167.1 bt167.2 true) else (if bt167.1 ≥ 32 then (if bt167.1 ≤ 126 then (targumref1_May.j0 k bt167.1 bt167.2 true) else (targumref1_May.j0 k bt167.1 bt167.2 (bt167.1 == 133))) else (targumref1_May.j0 k bt167.1 bt167.2 (bt167.1 == 133))))))) = some r := h
  clear h
  replace H := Option.bind_eq_some_iff.mp H
  obtain ⟨⟨t167, t168⟩, A30, H⟩ := H
  replace H : (if t167 = 9 then (targumref1_May.j0 k t167 t168 true) else (if t167 = 10 then (targumref1_May.j0 k t167 t168 true) else (if t167 = 13 then (targumref1_May.j0 k t167 t168 true) else (if t167 ≥ 32 then (if t167 ≤ 126 then (targumref1_May.j0 k t167 t168 true) else (targumref1_May.j0 k t167 t168 (t167 == 133))) else (targumref1_May.j0 k t167 t168 (t167 == 133)))))) = some r := H
  have A3 := Aside0.mk A30
  clear A30
  have HC4 := Aside0.mk H
  clear H
  go_enter Try.func29, Try.ntmps29
  go_upto_region 2 with (first | ((with_reducible refine gate_callee (f := 28) rfl ?_); refine goesL_ (some 10) rfl rfl Try.func28 (by kernel_rfl) rfl #[.string a0, .int .i64 a1] rfl (by (try simp only [List.map_toArray, List.map_cons, List.map_nil]); first | done | rfl | (simp only [List.length_drop, List.length_take]; rfl)) ?_; (with_reducible refine (targumref1_Next.calls k a0 a1 t167 t168 _ A3.out).mono ?_); rintro e w' ⟨rfl, ⟨nd, rfl⟩⟩; refine ⟨_, rfl, ?_⟩))
  (try simp only [Act.put, List.setIfInBounds_toArray, List.set_cons_zero, List.set_cons_succ])
  go_cut [13] (fun v13 wc => ∃ (kq : Nat) (x13_3 : Bool), v13 = .bool x13_3 ∧ Aside0 (targumref1_May.j0 kq t167 t168 x13_3 = some r) ∧ Aside0 (kq ≤ k) ∧ Drawn0 w wc)
  case first =>
    have H := HC4.out
    clear HC4
    by_cases c5 : t167 = 9
    · rw [if_pos c5] at H
      have c5b0 : (t167 == 9) = true := beq_iff_eq.mpr c5
      have c5b1 : (t167 != 9) = false := bne_eq_false_iff_eq.mpr c5
      clear c5
      (first | rw [c5b0] | (simp only [i64_w, i32_w]; rw [c5b0]) | skip)
      have H' := Aside0.mk H
      clear H
      go_wp2
      go_meet
      case rel => exact ⟨_, (true), (by first | rfl | (simp; done) | (simp [*]; done)), H', ⟨by first | omega | exact Nat.le_refl _⟩, by repeat (first | exact Drawn0.refl _ | apply Drawn0.step)⟩
    · rw [if_neg c5] at H
      have c5b0 : (t167 == 9) = false := beq_eq_false_iff_ne.mpr c5
      have c5b1 : (t167 != 9) = true := bne_iff_ne.mpr c5
      (first | rw [c5b0] | (simp only [i64_w, i32_w]; rw [c5b0]) | skip)
      by_cases c6 : t167 = 10
      · rw [if_pos c6] at H
        have c6b0 : (t167 == 10) = true := beq_iff_eq.mpr c6
        have c6b1 : (t167 != 10) = false := bne_eq_false_iff_eq.mpr c6
        clear c6
        have H' := Aside0.mk H
        clear H
        go_wp2
        go_meet
        case rel => exact ⟨_, (true), (by first | rfl | (simp; done) | (simp [*]; done)), H', ⟨by first | omega | exact Nat.le_refl _⟩, by repeat (first | exact Drawn0.refl _ | apply Drawn0.step)⟩
      · rw [if_neg c6] at H
        have c6b0 : (t167 == 10) = false := beq_eq_false_iff_ne.mpr c6
        have c6b1 : (t167 != 10) = true := bne_iff_ne.mpr c6
        by_cases c7 : t167 = 13
        · rw [if_pos c7] at H
          have c7b0 : (t167 == 13) = true := beq_iff_eq.mpr c7
          have c7b1 : (t167 != 13) = false := bne_eq_false_iff_eq.mpr c7
          clear c7
          have H' := Aside0.mk H
          clear H
          go_wp2
          go_meet
          case rel => exact ⟨_, (true), (by first | rfl | (simp; done) | (simp [*]; done)), H', ⟨by first | omega | exact Nat.le_refl _⟩, by repeat (first | exact Drawn0.refl _ | apply Drawn0.step)⟩
        · rw [if_neg c7] at H
          have c7b0 : (t167 == 13) = false := beq_eq_false_iff_ne.mpr c7
          have c7b1 : (t167 != 13) = true := bne_iff_ne.mpr c7
          by_cases c8 : t167 ≥ 32
          · rw [if_pos c8] at H
            have c8b0 : decide (32 ≤ t167) = true := decide_eq_true c8
            clear c8
            by_cases c9 : t167 ≤ 126
            · rw [if_pos c9] at H
              have c9b0 : decide (t167 ≤ 126) = true := decide_eq_true c9
              clear c9
              have H' := Aside0.mk H
              clear H
              go_wp2
              go_meet
              case rel => exact ⟨_, (true), (by first | rfl | (simp; done) | (simp [*]; done)), H', ⟨by first | omega | exact Nat.le_refl _⟩, by repeat (first | exact Drawn0.refl _ | apply Drawn0.step)⟩
            · rw [if_neg c9] at H
              have c9b0 : decide (t167 ≤ 126) = false := decide_eq_false c9
              clear c9
              have H' := Aside0.mk H
              clear H
              go_wp2
              go_meet
              case rel => exact ⟨_, ((t167 == 133)), (by first | rfl | (simp; done) | (simp [*]; done)), H', ⟨by first | omega | exact Nat.le_refl _⟩, by repeat (first | exact Drawn0.refl _ | apply Drawn0.step)⟩
          · rw [if_neg c8] at H
            have c8b0 : decide (32 ≤ t167) = false := decide_eq_false c8
            clear c8
            have H' := Aside0.mk H
            clear H
            go_wp2
            go_meet
            case rel => exact ⟨_, ((t167 == 133)), (by first | rfl | (simp; done) | (simp [*]; done)), H', ⟨by first | omega | exact Nat.le_refl _⟩, by repeat (first | exact Drawn0.refl _ | apply Drawn0.step)⟩
  case rest =>
    clear HC4
    (try clear c2); (try clear p2); (try clear c5); (try clear c5b0); (try clear c5b1); (try clear c6); (try clear c6b0); (try clear c6b1); (try clear c7); (try clear c7b0); (try clear c7b1); (try clear c8); (try clear c8b0); (try clear c9); (try clear c9b0)
    obtain ⟨kq, x13_3, rfl, HA, HJ3, ⟨mc3, rfl⟩⟩ := hcut
    cases kq with
    | zero => exact absurd HA.out (by simp [targumref1_May.j0])
    | succ kj3 =>
      have H := HA.out
      clear HA
      simp only [targumref1_May.j0] at H
      by_cases c10 : x13_3 = true
      · subst c10
        have H1 : (some t168) = some r := by rw [if_pos rfl] at H; exact H
        clear H
        have H := H1
        clear H1
        obtain rfl := Option.some.inj H
        go_wp2
        go_ret
        exact ⟨by first | rfl | (simp; done) | (simp [*]; done), by repeat (first | exact Drawn0.refl _ | apply Drawn0.step)⟩
      · replace c10 := Bool.eq_false_iff.mpr c10
        subst c10
        have H1 : (if t167 ≥ 160 then (if t167 ≤ 65533 then (if t167 = 65279 then (if t167 ≥ 65536 then (some t168) else (some 0)) else (some t168)) else (if t167 ≥ 65536 then (some t168) else (some 0))) else (if t167 ≥ 65536 then (some t168) else (some 0))) = some r := by rw [if_neg (show ¬ (false = true) by decide)] at H; exact H
        clear H
        have H := H1
        clear H1
        by_cases c11 : t167 ≥ 160
        · rw [if_pos c11] at H
          have c11b0 : decide (160 ≤ t167) = true := decide_eq_true c11
          clear c11
          by_cases c12 : t167 ≤ 65533
          · rw [if_pos c12] at H
            have c12b0 : decide (t167 ≤ 65533) = true := decide_eq_true c12
            clear c12
            by_cases c13 : t167 = 65279
            · rw [if_pos c13] at H
              have c13b0 : (t167 == 65279) = true := beq_iff_eq.mpr c13
              have c13b1 : (t167 != 65279) = false := bne_eq_false_iff_eq.mpr c13
              clear c13
              by_cases c14 : t167 ≥ 65536
              · rw [if_pos c14] at H
                have c14b0 : decide (65536 ≤ t167) = true := decide_eq_true c14
                clear c14
                obtain rfl := Option.some.inj H
                go_wp2
                go_ret
                exact ⟨by first | rfl | (simp; done) | (simp [*]; done), by repeat (first | exact Drawn0.refl _ | apply Drawn0.step)⟩
              · rw [if_neg c14] at H
                have c14b0 : decide (65536 ≤ t167) = false := decide_eq_false c14
                clear c14
                obtain rfl := Option.some.inj H
                go_wp2
                go_ret
                exact ⟨by first | rfl | (simp; done) | (simp [*]; done), by repeat (first | exact Drawn0.refl _ | apply Drawn0.step)⟩
            · rw [if_neg c13] at H
              have c13b0 : (t167 == 65279) = false := beq_eq_false_iff_ne.mpr c13
              have c13b1 : (t167 != 65279) = true := bne_iff_ne.mpr c13
              obtain rfl := Option.some.inj H
              go_wp2
              go_ret
              exact ⟨by first | rfl | (simp; done) | (simp [*]; done), by repeat (first | exact Drawn0.refl _ | apply Drawn0.step)⟩
          · rw [if_neg c12] at H
            have c12b0 : decide (t167 ≤ 65533) = false := decide_eq_false c12
            clear c12
            by_cases c15 : t167 ≥ 65536
            · rw [if_pos c15] at H
              have c15b0 : decide (65536 ≤ t167) = true := decide_eq_true c15
              clear c15
              obtain rfl := Option.some.inj H
              go_wp2
              go_ret
              exact ⟨by first | rfl | (simp; done) | (simp [*]; done), by repeat (first | exact Drawn0.refl _ | apply Drawn0.step)⟩
            · rw [if_neg c15] at H
              have c15b0 : decide (65536 ≤ t167) = false := decide_eq_false c15
              clear c15
              obtain rfl := Option.some.inj H
              go_wp2
              go_ret
              exact ⟨by first | rfl | (simp; done) | (simp [*]; done), by repeat (first | exact Drawn0.refl _ | apply Drawn0.step)⟩
        · rw [if_neg c11] at H
          have c11b0 : decide (160 ≤ t167) = false := decide_eq_false c11
          clear c11
          by_cases c16 : t167 ≥ 65536
          · rw [if_pos c16] at H
            have c16b0 : decide (65536 ≤ t167) = true := decide_eq_true c16
            clear c16
            obtain rfl := Option.some.inj H
            go_wp2
            go_ret
            exact ⟨by first | rfl | (simp; done) | (simp [*]; done), by repeat (first | exact Drawn0.refl _ | apply Drawn0.step)⟩
          · rw [if_neg c16] at H
            have c16b0 : decide (65536 ≤ t167) = false := decide_eq_false c16
            clear c16
            obtain rfl := Option.some.inj H
            go_wp2
            go_ret
            exact ⟨by first | rfl | (simp; done) | (simp [*]; done), by repeat (first | exact Drawn0.refl _ | apply Drawn0.step)⟩

/-! ### targumref1_Check: function 21 -/
def targumref1_Check.l0 : Nat → ByteArray → Int → Option (Int)
  | 0, _, _ => none
  | k + 1, x0, x3 => if x3 < (x0.size : Int) then ((targumref1_May.f k x0 x3).bind fun t169 => (if t169 = 0 then (some x3) else (targumref1_Check.l0 k x0 (wrap64 (x3 + t169))))) else (some (-1))
def targumref1_Check.f (k : Nat) (a0 : ByteArray) : Option (Int) := targumref1_Check.l0 k a0 0
theorem targumref1_Check.mono_l : ∀ k, (∀ y0 y1, LeO (targumref1_Check.l0 k y0 y1) (targumref1_Check.l0 (k + 1) y0 y1))
  | 0 => fun _ _ r h => by simp [targumref1_Check.l0] at h
  | k + 1 => by
    have ih0 := targumref1_Check.mono_l k
    · intro y0 y1
      unfold targumref1_Check.l0
      repeat' first
      | (with_reducible exact ih0 _ _)
      | (with_reducible exact targumref1_May.mono _ _ _)
      | (with_reducible exact LeO.refl _)
      | (with_reducible exact LeO.none _)
      | (with_reducible refine LeO.ite ?_ ?_)
      | (with_reducible refine LeO.bind ?_ (fun _ => ?_))
      | exact ih0 _ _
      | exact targumref1_May.mono _ _ _
      | exact LeO.none _
      | refine LeO.ite ?_ ?_
      | refine LeO.bind ?_ (fun _ => ?_)
theorem targumref1_Check.mono : ∀ a0 k, LeO (targumref1_Check.f k a0) (targumref1_Check.f (k + 1) a0) := by
  intro a0 k
  have ih0 := targumref1_Check.mono_l k
  unfold targumref1_Check.f
  repeat' first
      | (with_reducible exact ih0 _ _)
      | (with_reducible exact targumref1_May.mono _ _ _)
      | (with_reducible exact LeO.refl _)
      | (with_reducible exact LeO.none _)
      | (with_reducible refine LeO.ite ?_ ?_)
      | (with_reducible refine LeO.bind ?_ (fun _ => ?_))
      | exact ih0 _ _
      | exact targumref1_May.mono _ _ _
      | exact LeO.none _
      | refine LeO.ite ?_ ?_
      | refine LeO.bind ?_ (fun _ => ?_)
set_option maxHeartbeats 8000000 in
set_option maxRecDepth 100000 in
theorem targumref1_Check.calls (k : Nat) (a0 : ByteArray) (r : Int) (w : World) (h : targumref1_Check.f k a0 = some r) :
    Calls Try.prog 21 #[.string a0] w fun e w' => e = .returned (.int .i64 r) ∧ Drawn0 w w' := by
  have H : (targumref1_Check.l0 k a0 0) = some r := h
  clear h
  have H' := Aside0.mk H
  clear H
  go_enter Try.func21, Try.ntmps21
  go_wp2
  go_loopg [3] k (fun kq v3 w' => ∃ (x3_1 : Int), v3 = .int .i64 x3_1 ∧ Aside0 (targumref1_Check.l0 kq a0 x3_1 = some r) ∧ Aside0 (kq ≤ k) ∧ Drawn0 w w')
  case atStart => exact ⟨(0), (by first | rfl | (simp; done) | (simp [*]; done)), H', ⟨Nat.le_refl _⟩, by repeat (first | exact Drawn0.refl _ | apply Drawn0.step)⟩
  case round =>
    clear H'
    obtain ⟨x3_1, rfl, HA, HK1, ⟨m1, rfl⟩⟩ := hrel
    cases gk with
    | zero => exact absurd HA.out (by simp [targumref1_Check.l0])
    | succ k1 =>
      have H := HA.out
      clear HA
      simp only [targumref1_Check.l0] at H
      by_cases c2 : x3_1 < (a0.size : Int)
      · rw [if_pos c2] at H
        have c2b0 : decide (x3_1 < (a0.size : Int)) = true := decide_eq_true c2
        clear c2
        replace H := Option.bind_eq_some_iff.mp H
        obtain ⟨t169, A30, H⟩ := H
        replace H : (if t169 = 0 then (some x3_1) else (targumref1_Check.l0 k1 a0 (wrap64 (x3_1 + t169)))) = some r := H
        have A3 := Aside0.mk A30
        clear A30
        by_cases c4 : t169 = 0
        · rw [if_pos c4] at H
          have c4b0 : (t169 == 0) = true := beq_iff_eq.mpr c4
          have c4b1 : (t169 != 0) = false := bne_eq_false_iff_eq.mpr c4
          clear c4
          obtain rfl := Option.some.inj H
          go_wp2_with (first | ((with_reducible refine gate_callee (f := 29) rfl ?_); refine goesL_ (some 11) rfl rfl Try.func29 (by kernel_rfl) rfl #[.string a0, .int .i64 x3_1] rfl (by (try simp only [List.map_toArray, List.map_cons, List.map_nil]); first | done | rfl | (simp only [List.length_drop, List.length_take]; rfl)) ?_; (with_reducible refine (targumref1_May.calls k1 a0 x3_1 t169 _ A3.out).mono ?_); rintro e w' ⟨rfl, ⟨nd, rfl⟩⟩; refine ⟨_, rfl, ?_⟩))
          go_ret
          exact ⟨by first | rfl | (simp; done) | (simp [*]; done), by repeat (first | exact Drawn0.refl _ | apply Drawn0.step)⟩
        · rw [if_neg c4] at H
          have c4b0 : (t169 == 0) = false := beq_eq_false_iff_ne.mpr c4
          have c4b1 : (t169 != 0) = true := bne_iff_ne.mpr c4
          have H' := Aside0.mk H
          clear H
          go_wp2_with (first | ((with_reducible refine gate_callee (f := 29) rfl ?_); refine goesL_ (some 11) rfl rfl Try.func29 (by kernel_rfl) rfl #[.string a0, .int .i64 x3_1] rfl (by (try simp only [List.map_toArray, List.map_cons, List.map_nil]); first | done | rfl | (simp only [List.length_drop, List.length_take]; rfl)) ?_; (with_reducible refine (targumref1_May.calls k1 a0 x3_1 t169 _ A3.out).mono ?_); rintro e w' ⟨rfl, ⟨nd, rfl⟩⟩; refine ⟨_, rfl, ?_⟩))
          go_roundg k1
          case measure => have := HK1.out; omega
          case rel => exact ⟨(wrap64 (x3_1 + t169)), (by first | rfl | (simp; done) | (simp [*]; done)), H', ⟨by have := HK1.out; omega⟩, by repeat (first | exact Drawn0.refl _ | apply Drawn0.step)⟩
      · rw [if_neg c2] at H
        have c2b0 : decide (x3_1 < (a0.size : Int)) = false := decide_eq_false c2
        clear c2
        obtain rfl := Option.some.inj H
        go_wp2
        go_ret
        exact ⟨by first | rfl | (simp; done) | (simp [*]; done), by repeat (first | exact Drawn0.refl _ | apply Drawn0.step)⟩

/-! ### targumhelp_Few: function 9 -/
def targumhelp_Few.f (k : Nat) (a0 : ByteArray) (a1 : Int) : Option (Bool) := if (a0.size : Int) ≤ a1 then ((targumref1_Check.f k a0).bind fun t170 => (some (decide (t170 < 0)))) else (some false)
theorem targumhelp_Few.mono : ∀ a0 a1 k, LeO (targumhelp_Few.f k a0 a1) (targumhelp_Few.f (k + 1) a0 a1) := by
  intro a0 a1 k
  unfold targumhelp_Few.f
  repeat' first
      | (with_reducible exact targumref1_Check.mono _ _)
      | (with_reducible exact LeO.refl _)
      | (with_reducible exact LeO.none _)
      | (with_reducible refine LeO.ite ?_ ?_)
      | (with_reducible refine LeO.bind ?_ (fun _ => ?_))
      | exact targumref1_Check.mono _ _
      | exact LeO.none _
      | refine LeO.ite ?_ ?_
      | refine LeO.bind ?_ (fun _ => ?_)
set_option maxHeartbeats 8000000 in
set_option maxRecDepth 100000 in
theorem targumhelp_Few.calls (k : Nat) (a0 : ByteArray) (a1 : Int) (r : Bool) (w : World) (h : targumhelp_Few.f k a0 a1 = some r) :
    Calls Try.prog 9 #[.string a0, .int .i64 a1] w fun e w' => e = .returned (.bool r) ∧ Drawn0 w w' := by
  have H : (if (a0.size : Int) ≤ a1 then ((targumref1_Check.f k a0).bind fun t170 => (some (decide (t170 < 0)))) else (some false)) = some r := h
  clear h
  by_cases c3 : (a0.size : Int) ≤ a1
  · rw [if_pos c3] at H
    have c3b0 : decide ((a0.size : Int) ≤ a1) = true := decide_eq_true c3
    clear c3
    replace H := Option.bind_eq_some_iff.mp H
    obtain ⟨t170, A40, H⟩ := H
    replace H : (some (decide (t170 < 0))) = some r := H
    have A4 := Aside0.mk A40
    clear A40
    obtain rfl := Option.some.inj H
    go_enter Try.func9, Try.ntmps9
    go_wp2_with (first | (go_at_call 21; (with_reducible refine (targumref1_Check.calls k a0 t170 _ A4.out).mono ?_); rintro e w' ⟨rfl, ⟨nd, rfl⟩⟩))
    go_ret
    exact ⟨by first | rfl | (simp; done) | (simp [*]; done), by repeat (first | exact Drawn0.refl _ | apply Drawn0.step)⟩
  · rw [if_neg c3] at H
    have c3b0 : decide ((a0.size : Int) ≤ a1) = false := decide_eq_false c3
    clear c3
    obtain rfl := Option.some.inj H
    go_enter Try.func9, Try.ntmps9
    go_wp2
    go_ret
    exact ⟨by first | rfl | (simp; done) | (simp [*]; done), by repeat (first | exact Drawn0.refl _ | apply Drawn0.step)⟩

/-! ### targumhelp_Version: function 10 -/
def targumhelp_Version.f (a0 : Bool) : Option (Int) := if a0 = true then (some 11) else (some 12)
set_option maxHeartbeats 8000000 in
set_option maxRecDepth 100000 in
theorem targumhelp_Version.calls (a0 : Bool) (r : Int) (w : World) (h : targumhelp_Version.f a0 = some r) :
    Calls Try.prog 10 #[.bool a0] w fun e w' => e = .returned (.int .i64 r) ∧ Drawn0 w w' := by
  have H : (if a0 = true then (some 11) else (some 12)) = some r := h
  clear h
  by_cases c2 : a0 = true
  · subst c2
    have H1 : (some 11) = some r := by rw [if_pos rfl] at H; exact H
    clear H
    have H := H1
    clear H1
    obtain rfl := Option.some.inj H
    go_enter Try.func10, Try.ntmps10
    go_wp2
    go_ret
    exact ⟨by first | rfl | (simp; done) | (simp [*]; done), by repeat (first | exact Drawn0.refl _ | apply Drawn0.step)⟩
  · replace c2 := Bool.eq_false_iff.mpr c2
    subst c2
    have H1 : (some 12) = some r := by rw [if_neg (show ¬ (false = true) by decide)] at H; exact H
    clear H
    have H := H1
    clear H1
    obtain rfl := Option.some.inj H
    go_enter Try.func10, Try.ntmps10
    go_wp2
    go_ret
    exact ⟨by first | rfl | (simp; done) | (simp [*]; done), by repeat (first | exact Drawn0.refl _ | apply Drawn0.step)⟩

/-! ### targumlaw17_text: function 11 -/

def targumlaw17_text.signs : List ByteArray := [⟨#[97]⟩, ⟨#[98]⟩, ⟨#[32]⟩, ⟨#[9]⟩, ⟨#[10]⟩, ⟨#[13]⟩, ⟨#[13, 10]⟩, ⟨#[194, 133]⟩, ⟨#[226, 128, 168]⟩, ⟨#[92, 110]⟩, ⟨#[92, 120, 52, 49]⟩, ⟨#[92, 117, 48, 48, 101, 57]⟩, ⟨#[92, 85, 48, 48, 48, 49, 102, 54, 48, 48]⟩, ⟨#[92]⟩, ⟨#[92, 34]⟩, ⟨#[34]⟩, ⟨#[92, 47]⟩, ⟨#[92, 32]⟩, ⟨#[92, 9]⟩, ⟨#[92, 10]⟩, ⟨#[92, 13, 10]⟩, ⟨#[45, 45, 45]⟩, ⟨#[46, 46, 46]⟩, ⟨#[45, 32]⟩, ⟨#[39]⟩, ⟨#[39, 39]⟩, ⟨#[92, 48]⟩, ⟨#[92, 120, 100]⟩, ⟨#[92, 117, 100, 56, 48, 48]⟩, ⟨#[92, 78]⟩, ⟨#[195, 169]⟩, ⟨#[92, 92]⟩]
set_option maxHeartbeats 1000000 in
theorem targumlaw17_text.any (l : List Int) (A : Option Addr) (c : Nat) (w : World) (hm : l.length ≤ 1000000) (hx : ∀ (i : Nat) (hi : i < l.length), 0 ≤ l[i] ∧ l[i] < 256)
    (hl : ∀ (i : Nat) (hi : i < l.length), ∃ ad, A = some ad ∧ w.cell? (ad.add i) = some (.int .u8 l[i])) :
    Calls Try.prog 11 #[.slice A l.length c] w fun e w' => e = .returned (.string (textOf targumlaw17_text.signs 32 l)) ∧ Below w.heap.size w w' := by
  have H := Holds.nil w
  go_enter Try.func11, Try.ntmps11
  go_wp2_with (first | (refine wpList_alloc_H rfl 47 rfl _ (Try.zeroValue47) _ rfl H ?_; intro b w1 H1 hb1; clear H) | (refine wpList_store_H rfl 47 _ _ rfl _ _ rfl _ rfl (Try.sizeOf47) rfl (A := []) H1 (by decide) _ rfl ?_; intro w2 H2 hg2; clear H1))
  have H3 : Holds w [(b, targumlaw17_text.signs.map Value.string, 47)] w2 := H2
  clear H2 hb1 hg2 w1
  have hts := textOf_size targumlaw17_text.signs 32 10 (by decide)
  go_loop [4, 5] (fun s i => ∃ k : Nat, k ≤ l.length ∧ i = .int .i64 k ∧ s = .string (textOf targumlaw17_text.signs 32 (l.take k))) (fun _ i => l.length - (intOf i).toNat)
  case atStart => exact ⟨0, Nat.zero_le _, rfl, rfl⟩
  case round =>
    obtain ⟨k, hk, rfl, rfl⟩ := hrel
    by_cases hlt : k < l.length
    · obtain ⟨ad, rfl, hc⟩ := hl k hlt
      have hc' := H3.old hc
      obtain ⟨x0, x1⟩ := hx k hlt
      obtain ⟨j, hj⟩ : ∃ j : Nat, l[k] % 32 = j := ⟨(l[k] % 32).toNat, by omega⟩
      have hjN : j < 32 := by omega
      have hsn := Lib.hid (textOf_snoc targumlaw17_text.signs 32 l k hlt)
      have hcj : w2.cell? ⟨b, j, none⟩ = some (.string (tabAt targumlaw17_text.signs j)) := by
        rw [H3.cell (List.mem_singleton.2 rfl) j]
        have : j < targumlaw17_text.signs.length := hjN
        simp [tabAt, List.getD, this]
      have hs1 : (textOf targumlaw17_text.signs 32 (l.take k)).size + (tabAt targumlaw17_text.signs j).size ≤ 9223372036854775807 := by
        have h1 := hts (l.take k) ⟨#[]⟩
        have h2 := hts [(j : Int)] ⟨#[]⟩
        have e : ((j : Int) % 32).toNat = j := by omega
        simp only [List.foldl_cons, List.foldl_nil, e] at h2
        have h3 : (l.take k).length ≤ k := List.length_take_le _ _
        unfold textOf
        have e0 : (⟨#[]⟩ : ByteArray).size = 0 := rfl
        rw [e0] at h1 h2
        rw [ByteArray.size_append, e0] at h2
        simp only [List.length_cons, List.length_nil] at h2
        omega
      clear hl hx hc hts
      have Hj := Lib.hid hj
      generalize l[k] = xk at *
      go_wp2
      go_round
      case rel => exact ⟨k + 1, by omega, by go_num, by rw [hsn.out, Hj.out]; rfl⟩
      case measure => simp [intOf]; omega
    · clear hl hx hts
      have hd : decide (k < l.length) = false := decide_eq_false hlt
      go_wp2
      go_ret
      exact ⟨by rw [List.take_of_length_le (by omega)]; rfl, H3.below⟩

def targumlaw17_text.f (l0 : List Int) : Option ByteArray := if l0.length ≤ 1000000 ∧ (l0.all fun x => decide (0 ≤ x) && decide (x < 256)) = true then some (textOf targumlaw17_text.signs 32 l0) else none
theorem targumlaw17_text.calls (A0 : Option Addr) (c0 : Nat) (l0 : List Int) (r : ByteArray) (w : World) (hr0 : Kd.C (Kd.int .u8) w A0 l0.length l0) (hc0 : l0.length ≤ c0) (h : targumlaw17_text.f l0 = some r) :
    Calls Try.prog 11 #[.slice A0 l0.length c0] w fun e w' => e = .returned (.string r) ∧ Below w.heap.size w w' := by
  unfold targumlaw17_text.f at h
  split at h
  · rename_i hs
    obtain ⟨h1, h2⟩ := hs
    obtain rfl := Option.some.inj h
    refine targumlaw17_text.any l0 A0 c0 w h1 (fun i hi => ?_) (fun i hi => ?_)
    · have := List.all_eq_true.1 h2 l0[i] (List.getElem_mem hi)
      rw [Bool.and_eq_true, decide_eq_true_eq, decide_eq_true_eq] at this
      exact this
    · obtain ⟨ad, rfl, h3⟩ := Kd.at_int hr0 (i : Int) (by omega) (by omega)
      refine ⟨ad, rfl, ?_⟩
      rw [show rd l0 (i : Int) = l0[i] from by unfold rd; simp [hi, List.getD]] at h3
      simpa using h3
  · cases h


/-! ### targumhelp_Within: function 12 -/
def targumhelp_Within.f (a0 : Int) (a1 : Int) (a2 : Int) : Option (Int) := if (wrap64 ((wrap64 (a2 - a1)) + 1)) = 0 then (none) else (if (Int.tmod a0 (wrap64 ((wrap64 (a2 - a1)) + 1))) < 0 then (some (wrap64 (a1 + (wrap64 ((wrap64 ((wrap64 ((Int.tmod a0 (wrap64 ((wrap64 (a2 - a1)) + 1))) + a2)) - a1)) + 1))))) else (some (wrap64 (a1 + (Int.tmod a0 (wrap64 ((wrap64 (a2 - a1)) + 1)))))))
set_option maxHeartbeats 8000000 in
set_option maxRecDepth 100000 in
theorem targumhelp_Within.calls (a0 : Int) (a1 : Int) (a2 : Int) (r : Int) (w : World) (h : targumhelp_Within.f a0 a1 a2 = some r) :
    Calls Try.prog 12 #[.int .i64 a0, .int .i64 a1, .int .i64 a2] w fun e w' => e = .returned (.int .i64 r) ∧ Drawn0 w w' := by
  have H : (if (wrap64 ((wrap64 (a2 - a1)) + 1)) = 0 then (none) else (if (Int.tmod a0 (wrap64 ((wrap64 (a2 - a1)) + 1))) < 0 then (some (wrap64 (a1 + (wrap64 ((wrap64 ((wrap64 ((Int.tmod a0 (wrap64 ((wrap64 (a2 - a1)) + 1))) + a2)) - a1)) + 1))))) else (some (wrap64 (a1 + (Int.tmod a0 (wrap64 ((wrap64 (a2 - a1)) + 1)))))))) = some r := h
  clear h
  by_cases c4 : (wrap64 ((wrap64 (a2 - a1)) + 1)) = 0
  · rw [if_pos c4] at H
    exact absurd H (by simp)
  · rw [if_neg c4] at H
    have c4b0 : ((wrap64 ((wrap64 (a2 - a1)) + 1)) == 0) = false := beq_eq_false_iff_ne.mpr c4
    have c4b1 : ((wrap64 ((wrap64 (a2 - a1)) + 1)) != 0) = true := bne_iff_ne.mpr c4
    by_cases c5 : (Int.tmod a0 (wrap64 ((wrap64 (a2 - a1)) + 1))) < 0
    · rw [if_pos c5] at H
      have c5b0 : decide ((Int.tmod a0 (wrap64 ((wrap64 (a2 - a1)) + 1))) < 0) = true := decide_eq_true c5
      clear c5
      obtain rfl := Option.some.inj H
      go_enter Try.func12, Try.ntmps12
      go_wp2
      go_ret
      exact ⟨by first | rfl | (simp; done) | (simp [*]; done), by repeat (first | exact Drawn0.refl _ | apply Drawn0.step)⟩
    · rw [if_neg c5] at H
      have c5b0 : decide ((Int.tmod a0 (wrap64 ((wrap64 (a2 - a1)) + 1))) < 0) = false := decide_eq_false c5
      clear c5
      obtain rfl := Option.some.inj H
      go_enter Try.func12, Try.ntmps12
      go_wp2
      go_ret
      exact ⟨by first | rfl | (simp; done) | (simp [*]; done), by repeat (first | exact Drawn0.refl _ | apply Drawn0.step)⟩

/-! ### targumhelp_Cut: function 13 -/
def targumhelp_Cut.f (a0 : ByteArray) (a1 : Int) : Option (Bool) := if a1 > 0 then (if a1 < (a0.size : Int) then (if 0 ≤ a1 then (if (bt a0 a1) ≥ 128 then (some (decide ((bt a0 a1) < 192))) else (some false)) else (none)) else (some false)) else (some false)
set_option maxHeartbeats 8000000 in
set_option maxRecDepth 100000 in
theorem targumhelp_Cut.calls (a0 : ByteArray) (a1 : Int) (r : Bool) (w : World) (h : targumhelp_Cut.f a0 a1 = some r) :
    Calls Try.prog 13 #[.string a0, .int .i64 a1] w fun e w' => e = .returned (.bool r) ∧ Drawn0 w w' := by
  have H : (if a1 > 0 then (if a1 < (a0.size : Int) then (if 0 ≤ a1 then (if (bt a0 a1) ≥ 128 then (some (decide ((bt a0 a1) < 192))) else (some false)) else (none)) else (some false)) else (some false)) = some r := h
  clear h
  by_cases c3 : a1 > 0
  · rw [if_pos c3] at H
    have c3b0 : decide (0 < a1) = true := decide_eq_true c3
    clear c3
    by_cases c4 : a1 < (a0.size : Int)
    · rw [if_pos c4] at H
      have c4b0 : decide (a1 < (a0.size : Int)) = true := decide_eq_true c4
      clear c4
      by_cases c5 : 0 ≤ a1
      · rw [if_pos c5] at H
        have c5b0 : decide (0 ≤ a1) = true := decide_eq_true c5
        clear c5
        by_cases c7 : (bt a0 a1) ≥ 128
        · rw [if_pos c7] at H
          have c7b0 : decide (128 ≤ (bt a0 a1)) = true := decide_eq_true c7
          clear c7
          obtain rfl := Option.some.inj H
          have p6 : 0 ≤ (a1 : Int) := of_decide_eq_true (by first | (with_reducible assumption) | assumption)
          have q6 : a1 < (a0.size : Int) := of_decide_eq_true (by first | (with_reducible assumption) | assumption)
          have hx6 := bt_at a0 a1
          replace p6 := eq_true p6
          replace q6 := eq_true q6
          have p8 : 0 ≤ (a1 : Int) := of_decide_eq_true (by first | (with_reducible assumption) | assumption)
          have q8 : a1 < (a0.size : Int) := of_decide_eq_true (by first | (with_reducible assumption) | assumption)
          have hx8 := bt_at a0 a1
          replace p8 := eq_true p8
          replace q8 := eq_true q8
          go_enter Try.func13, Try.ntmps13
          go_wp2
          go_ret
          exact ⟨by first | rfl | (simp; done) | (simp [*]; done), by repeat (first | exact Drawn0.refl _ | apply Drawn0.step)⟩
        · rw [if_neg c7] at H
          have c7b0 : decide (128 ≤ (bt a0 a1)) = false := decide_eq_false c7
          clear c7
          obtain rfl := Option.some.inj H
          have p6 : 0 ≤ (a1 : Int) := of_decide_eq_true (by first | (with_reducible assumption) | assumption)
          have q6 : a1 < (a0.size : Int) := of_decide_eq_true (by first | (with_reducible assumption) | assumption)
          have hx6 := bt_at a0 a1
          replace p6 := eq_true p6
          replace q6 := eq_true q6
          go_enter Try.func13, Try.ntmps13
          go_wp2
          go_ret
          exact ⟨by first | rfl | (simp; done) | (simp [*]; done), by repeat (first | exact Drawn0.refl _ | apply Drawn0.step)⟩
      · rw [if_neg c5] at H
        exact absurd H (by simp)
    · rw [if_neg c4] at H
      have c4b0 : decide (a1 < (a0.size : Int)) = false := decide_eq_false c4
      clear c4
      obtain rfl := Option.some.inj H
      go_enter Try.func13, Try.ntmps13
      go_wp2
      go_ret
      exact ⟨by first | rfl | (simp; done) | (simp [*]; done), by repeat (first | exact Drawn0.refl _ | apply Drawn0.step)⟩
  · rw [if_neg c3] at H
    have c3b0 : decide (0 < a1) = false := decide_eq_false c3
    clear c3
    obtain rfl := Option.some.inj H
    go_enter Try.func13, Try.ntmps13
    go_wp2
    go_ret
    exact ⟨by first | rfl | (simp; done) | (simp [*]; done), by repeat (first | exact Drawn0.refl _ | apply Drawn0.step)⟩

/-! ### targumref1_IsBlank: function 16 -/
def targumref1_IsBlank.f (a0 : ByteArray) (a1 : Int) : Option (Bool) := if a1 ≥ 0 then (if a1 < (a0.size : Int) then (if 0 ≤ a1 then (if (bt a0 a1) = 32 then (some true) else (some ((bt a0 a1) == 9))) else (none)) else (some false)) else (some false)
set_option maxHeartbeats 8000000 in
set_option maxRecDepth 100000 in
theorem targumref1_IsBlank.calls (a0 : ByteArray) (a1 : Int) (r : Bool) (w : World) (h : targumref1_IsBlank.f a0 a1 = some r) :
    Calls Try.prog 16 #[.string a0, .int .i64 a1] w fun e w' => e = .returned (.bool r) ∧ Drawn0 w w' := by
  have H : (if a1 ≥ 0 then (if a1 < (a0.size : Int) then (if 0 ≤ a1 then (if (bt a0 a1) = 32 then (some true) else (some ((bt a0 a1) == 9))) else (none)) else (some false)) else (some false)) = some r := h
  clear h
  by_cases c3 : a1 ≥ 0
  · rw [if_pos c3] at H
    have c3b0 : decide (0 ≤ a1) = true := decide_eq_true c3
    clear c3
    by_cases c4 : a1 < (a0.size : Int)
    · rw [if_pos c4] at H
      have c4b0 : decide (a1 < (a0.size : Int)) = true := decide_eq_true c4
      clear c4
      by_cases c5 : 0 ≤ a1
      · rw [if_pos c5] at H
        have c5b0 : decide (0 ≤ a1) = true := decide_eq_true c5
        clear c5
        by_cases c7 : (bt a0 a1) = 32
        · rw [if_pos c7] at H
          have c7b0 : ((bt a0 a1) == 32) = true := beq_iff_eq.mpr c7
          have c7b1 : ((bt a0 a1) != 32) = false := bne_eq_false_iff_eq.mpr c7
          clear c7
          obtain rfl := Option.some.inj H
          have p6 : 0 ≤ (a1 : Int) := of_decide_eq_true (by first | (with_reducible assumption) | assumption)
          have q6 : a1 < (a0.size : Int) := of_decide_eq_true (by first | (with_reducible assumption) | assumption)
          have hx6 := bt_at a0 a1
          replace p6 := eq_true p6
          replace q6 := eq_true q6
          go_enter Try.func16, Try.ntmps16
          go_wp2
          go_ret
          exact ⟨by first | rfl | (simp; done) | (simp [*]; done), by repeat (first | exact Drawn0.refl _ | apply Drawn0.step)⟩
        · rw [if_neg c7] at H
          have c7b0 : ((bt a0 a1) == 32) = false := beq_eq_false_iff_ne.mpr c7
          have c7b1 : ((bt a0 a1) != 32) = true := bne_iff_ne.mpr c7
          obtain rfl := Option.some.inj H
          have p6 : 0 ≤ (a1 : Int) := of_decide_eq_true (by first | (with_reducible assumption) | assumption)
          have q6 : a1 < (a0.size : Int) := of_decide_eq_true (by first | (with_reducible assumption) | assumption)
          have hx6 := bt_at a0 a1
          replace p6 := eq_true p6
          replace q6 := eq_true q6
          have p8 : 0 ≤ (a1 : Int) := of_decide_eq_true (by first | (with_reducible assumption) | assumption)
          have q8 : a1 < (a0.size : Int) := of_decide_eq_true (by first | (with_reducible assumption) | assumption)
          have hx8 := bt_at a0 a1
          replace p8 := eq_true p8
          replace q8 := eq_true q8
          go_enter Try.func16, Try.ntmps16
          go_wp2
          go_ret
          exact ⟨by first | rfl | (simp; done) | (simp [*]; done), by repeat (first | exact Drawn0.refl _ | apply Drawn0.step)⟩
      · rw [if_neg c5] at H
        exact absurd H (by simp)
    · rw [if_neg c4] at H
      have c4b0 : decide (a1 < (a0.size : Int)) = false := decide_eq_false c4
      clear c4
      obtain rfl := Option.some.inj H
      go_enter Try.func16, Try.ntmps16
      go_wp2
      go_ret
      exact ⟨by first | rfl | (simp; done) | (simp [*]; done), by repeat (first | exact Drawn0.refl _ | apply Drawn0.step)⟩
  · rw [if_neg c3] at H
    have c3b0 : decide (0 ≤ a1) = false := decide_eq_false c3
    clear c3
    obtain rfl := Option.some.inj H
    go_enter Try.func16, Try.ntmps16
    go_wp2
    go_ret
    exact ⟨by first | rfl | (simp; done) | (simp [*]; done), by repeat (first | exact Drawn0.refl _ | apply Drawn0.step)⟩

end Go.Proofs.Ytgbnbjajaaggkaa.Q
