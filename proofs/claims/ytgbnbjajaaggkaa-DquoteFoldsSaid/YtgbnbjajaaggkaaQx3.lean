-- Written by hookprint.py (a program of this project, over the kit's printer). Not trusted: Lean checks it.
import Derived.Test.YtgbnbjajaaggkaaQx0
import Derived.Test.YtgbnbjajaaggkaaQx2
namespace Go.Proofs.Ytgbnbjajaaggkaa.Q
open Go.RowKit Go.Proofs.YtgbnbjajaaggkaaW.PrintWords Go.Proofs.YtgbnbjajaaggkaaW.PrintLast Go.Proofs.YtgbnbjajaaggkaaW.PrintMore
attribute [local go_sem] max2_int min2_int max_two min_two max_three min_three max_four min_four   -- for this text's walks alone
set_option linter.unusedVariables false
set_option linter.unusedSimpArgs false

/-! ### dquote_single: function 47 -/
mutual
def dquote_single.j0 : Nat → Int → Int → Int → Bool → Option (Int)
  | 0, _, _, _, _ => none
  | k + 1, x0, x1, x5, x8 => if x8 = true then ((strings_IndexByte.f (⟨#[97, 98, 116, 110, 118, 102, 114]⟩ : ByteArray) x1).bind fun t126 => (some (wrap32 (wrap64 (7 + t126))))) else (if x5 = 101 then (some 27) else (if x5 = 32 then (dquote_single.j1 k x0 x1 x5 (x5 == 32)) else (if x5 = 34 then (dquote_single.j1 k x0 x1 x5 (x5 == 34)) else (if x5 = 92 then (dquote_single.j1 k x0 x1 x5 (x5 == 92)) else (dquote_single.j1 k x0 x1 x5 (x5 == 9))))))
def dquote_single.j1 : Nat → Int → Int → Int → Bool → Option (Int)
  | 0, _, _, _, _ => none
  | k + 1, x0, x1, x5, x22 => if x22 = true then (some (wrap32 (x1))) else (if x5 = 78 then (some 133) else (if x5 = 95 then (some 160) else (if x5 = 76 then (some 8232) else (if x5 = 80 then (some 8233) else (if x5 = 47 then (if x0 = 11 then (some (-1)) else (some 47)) else (some (-1)))))))
end
def dquote_single.f (k : Nat) (a0 : Int) (a1 : Int) : Option (Int) := if a1 = 48 then (some 0) else (if a1 = 97 then (dquote_single.j0 k a0 a1 a1 (a1 == 97)) else (if a1 = 98 then (dquote_single.j0 k a0 a1 a1 (a1 == 98)) else (if a1 = 116 then (dquote_single.j0 k a0 a1 a1 (a1 == 116)) else (if a1 = 110 then (dquote_single.j0 k a0 a1 a1 (a1 == 110)) else (if a1 = 118 then (dquote_single.j0 k a0 a1 a1 (a1 == 118)) else (if a1 = 102 then (dquote_single.j0 k a0 a1 a1 (a1 == 102)) else (dquote_single.j0 k a0 a1 a1 (a1 == 114))))))))
theorem dquote_single.mono_l : ∀ k, (∀ y0 y1 y2 y3, LeO (dquote_single.j0 k y0 y1 y2 y3) (dquote_single.j0 (k + 1) y0 y1 y2 y3)) ∧ (∀ y0 y1 y2 y3, LeO (dquote_single.j1 k y0 y1 y2 y3) (dquote_single.j1 (k + 1) y0 y1 y2 y3))
  | 0 => ⟨fun _ _ _ _ r h => by simp [dquote_single.j0] at h, fun _ _ _ _ r h => by simp [dquote_single.j1] at h⟩
  | k + 1 => by
    obtain ⟨ih0, ih1⟩ := dquote_single.mono_l k
    refine ⟨?_, ?_⟩
    · intro y0 y1 y2 y3
      unfold dquote_single.j0
      repeat' first
      | (with_reducible exact ih0 _ _ _ _)
      | (with_reducible exact ih1 _ _ _ _)
      | (with_reducible exact LeO.refl _)
      | (with_reducible exact LeO.none _)
      | (with_reducible refine LeO.ite ?_ ?_)
      | (with_reducible refine LeO.bind ?_ (fun _ => ?_))
      | exact ih0 _ _ _ _
      | exact ih1 _ _ _ _
      | exact LeO.none _
      | refine LeO.ite ?_ ?_
      | refine LeO.bind ?_ (fun _ => ?_)
    · intro y0 y1 y2 y3
      unfold dquote_single.j1
      repeat' first
      | (with_reducible exact ih0 _ _ _ _)
      | (with_reducible exact ih1 _ _ _ _)
      | (with_reducible exact LeO.refl _)
      | (with_reducible exact LeO.none _)
      | (with_reducible refine LeO.ite ?_ ?_)
      | (with_reducible refine LeO.bind ?_ (fun _ => ?_))
      | exact ih0 _ _ _ _
      | exact ih1 _ _ _ _
      | exact LeO.none _
      | refine LeO.ite ?_ ?_
      | refine LeO.bind ?_ (fun _ => ?_)
theorem dquote_single.mono : ∀ a0 a1 k, LeO (dquote_single.f k a0 a1) (dquote_single.f (k + 1) a0 a1) := by
  intro a0 a1 k
  obtain ⟨ih0, ih1⟩ := dquote_single.mono_l k
  unfold dquote_single.f
  repeat' first
      | (with_reducible exact ih0 _ _ _ _)
      | (with_reducible exact ih1 _ _ _ _)
      | (with_reducible exact LeO.refl _)
      | (with_reducible exact LeO.none _)
      | (with_reducible refine LeO.ite ?_ ?_)
      | (with_reducible refine LeO.bind ?_ (fun _ => ?_))
      | exact ih0 _ _ _ _
      | exact ih1 _ _ _ _
      | exact LeO.none _
      | refine LeO.ite ?_ ?_
      | refine LeO.bind ?_ (fun _ => ?_)
set_option maxHeartbeats 8000000 in
set_option maxRecDepth 100000 in
theorem dquote_single.calls (k : Nat) (a0 : Int) (a1 : Int) (r : Int) (w : World) (h : dquote_single.f k a0 a1 = some r) :
    Calls Try.prog 47 #[.int .i64 a0, .int .u8 a1] w fun e w' => e = .returned (.int .i32 r) ∧ Drawn0 w w' := by
  have H : (if a1 = 48 then (some 0) else (if a1 = 97 then (dquote_single.j0 k a0 a1 a1 (a1 == 97)) else (if a1 = 98 then (dquote_single.j0 k a0 a1 a1 (a1 == 98)) else (if a1 = 116 then (dquote_single.j0 k a0 a1 a1 (a1 == 116)) else (if a1 = 110 then (dquote_single.j0 k a0 a1 a1 (a1 == 110)) else (if a1 = 118 then (dquote_single.j0 k a0 a1 a1 (a1 == 118)) else (if a1 = 102 then (dquote_single.j0 k a0 a1 a1 (a1 == 102)) else (dquote_single.j0 k a0 a1 a1 (a1 == 114))))))))) = some r := h
  clear h
  by_cases c3 : a1 = 48
  · rw [if_pos c3] at H
    have c3b0 : (a1 == 48) = true := beq_iff_eq.mpr c3
    have c3b1 : (a1 != 48) = false := bne_eq_false_iff_eq.mpr c3
    clear c3
    obtain rfl := Option.some.inj H
    go_enter Try.func47, Try.ntmps47
    go_wp2
    go_ret
    exact ⟨by first | rfl | (simp; done) | (simp [*]; done), by repeat (first | exact Drawn0.refl _ | apply Drawn0.step)⟩
  · rw [if_neg c3] at H
    have c3b0 : (a1 == 48) = false := beq_eq_false_iff_ne.mpr c3
    have c3b1 : (a1 != 48) = true := bne_iff_ne.mpr c3
    have HC4 := Aside0.mk H
    clear H
    go_enter Try.func47, Try.ntmps47
    go_upto_if 8 with (fail)
    go_cut [8] (fun v8 wc => ∃ (kq : Nat) (x8_3 : Bool), v8 = .bool x8_3 ∧ Aside0 (dquote_single.j0 kq a0 a1 a1 x8_3 = some r) ∧ Aside0 (kq ≤ k) ∧ Drawn0 w wc)
    case first =>
      have H := HC4.out
      clear HC4
      by_cases c5 : a1 = 97
      · rw [if_pos c5] at H
        have c5b0 : (a1 == 97) = true := beq_iff_eq.mpr c5
        have c5b1 : (a1 != 97) = false := bne_eq_false_iff_eq.mpr c5
        clear c5
        (first | rw [c5b0] | (simp only [i64_w, i32_w]; rw [c5b0]) | skip)
        have H' := Aside0.mk H
        clear H
        go_wp2
        go_meet
        case rel => exact ⟨_, ((a1 == 97)), (by first | rfl | (simp; done) | (simp [*]; done)), H', ⟨by first | omega | exact Nat.le_refl _⟩, by repeat (first | exact Drawn0.refl _ | apply Drawn0.step)⟩
      · rw [if_neg c5] at H
        have c5b0 : (a1 == 97) = false := beq_eq_false_iff_ne.mpr c5
        have c5b1 : (a1 != 97) = true := bne_iff_ne.mpr c5
        (first | rw [c5b0] | (simp only [i64_w, i32_w]; rw [c5b0]) | skip)
        by_cases c6 : a1 = 98
        · rw [if_pos c6] at H
          have c6b0 : (a1 == 98) = true := beq_iff_eq.mpr c6
          have c6b1 : (a1 != 98) = false := bne_eq_false_iff_eq.mpr c6
          clear c6
          have H' := Aside0.mk H
          clear H
          go_wp2
          go_meet
          case rel => exact ⟨_, ((a1 == 98)), (by first | rfl | (simp; done) | (simp [*]; done)), H', ⟨by first | omega | exact Nat.le_refl _⟩, by repeat (first | exact Drawn0.refl _ | apply Drawn0.step)⟩
        · rw [if_neg c6] at H
          have c6b0 : (a1 == 98) = false := beq_eq_false_iff_ne.mpr c6
          have c6b1 : (a1 != 98) = true := bne_iff_ne.mpr c6
          by_cases c7 : a1 = 116
          · rw [if_pos c7] at H
            have c7b0 : (a1 == 116) = true := beq_iff_eq.mpr c7
            have c7b1 : (a1 != 116) = false := bne_eq_false_iff_eq.mpr c7
            clear c7
            have H' := Aside0.mk H
            clear H
            go_wp2
            go_meet
            case rel => exact ⟨_, ((a1 == 116)), (by first | rfl | (simp; done) | (simp [*]; done)), H', ⟨by first | omega | exact Nat.le_refl _⟩, by repeat (first | exact Drawn0.refl _ | apply Drawn0.step)⟩
          · rw [if_neg c7] at H
            have c7b0 : (a1 == 116) = false := beq_eq_false_iff_ne.mpr c7
            have c7b1 : (a1 != 116) = true := bne_iff_ne.mpr c7
            by_cases c8 : a1 = 110
            · rw [if_pos c8] at H
              have c8b0 : (a1 == 110) = true := beq_iff_eq.mpr c8
              have c8b1 : (a1 != 110) = false := bne_eq_false_iff_eq.mpr c8
              clear c8
              have H' := Aside0.mk H
              clear H
              go_wp2
              go_meet
              case rel => exact ⟨_, ((a1 == 110)), (by first | rfl | (simp; done) | (simp [*]; done)), H', ⟨by first | omega | exact Nat.le_refl _⟩, by repeat (first | exact Drawn0.refl _ | apply Drawn0.step)⟩
            · rw [if_neg c8] at H
              have c8b0 : (a1 == 110) = false := beq_eq_false_iff_ne.mpr c8
              have c8b1 : (a1 != 110) = true := bne_iff_ne.mpr c8
              by_cases c9 : a1 = 118
              · rw [if_pos c9] at H
                have c9b0 : (a1 == 118) = true := beq_iff_eq.mpr c9
                have c9b1 : (a1 != 118) = false := bne_eq_false_iff_eq.mpr c9
                clear c9
                have H' := Aside0.mk H
                clear H
                go_wp2
                go_meet
                case rel => exact ⟨_, ((a1 == 118)), (by first | rfl | (simp; done) | (simp [*]; done)), H', ⟨by first | omega | exact Nat.le_refl _⟩, by repeat (first | exact Drawn0.refl _ | apply Drawn0.step)⟩
              · rw [if_neg c9] at H
                have c9b0 : (a1 == 118) = false := beq_eq_false_iff_ne.mpr c9
                have c9b1 : (a1 != 118) = true := bne_iff_ne.mpr c9
                by_cases c10 : a1 = 102
                · rw [if_pos c10] at H
                  have c10b0 : (a1 == 102) = true := beq_iff_eq.mpr c10
                  have c10b1 : (a1 != 102) = false := bne_eq_false_iff_eq.mpr c10
                  clear c10
                  have H' := Aside0.mk H
                  clear H
                  go_wp2
                  go_meet
                  case rel => exact ⟨_, ((a1 == 102)), (by first | rfl | (simp; done) | (simp [*]; done)), H', ⟨by first | omega | exact Nat.le_refl _⟩, by repeat (first | exact Drawn0.refl _ | apply Drawn0.step)⟩
                · rw [if_neg c10] at H
                  have c10b0 : (a1 == 102) = false := beq_eq_false_iff_ne.mpr c10
                  have c10b1 : (a1 != 102) = true := bne_iff_ne.mpr c10
                  have H' := Aside0.mk H
                  clear H
                  go_wp2
                  go_meet
                  case rel => exact ⟨_, ((a1 == 114)), (by first | rfl | (simp; done) | (simp [*]; done)), H', ⟨by first | omega | exact Nat.le_refl _⟩, by repeat (first | exact Drawn0.refl _ | apply Drawn0.step)⟩
    case rest =>
      clear HC4
      (try clear c1); (try clear p2); (try clear c3); (try clear c3b0); (try clear c3b1); (try clear c4); (try clear c5); (try clear c5b0); (try clear c5b1); (try clear c6); (try clear c6b0); (try clear c6b1); (try clear c7); (try clear c7b0); (try clear c7b1); (try clear c8); (try clear c8b0); (try clear c8b1); (try clear c9); (try clear c9b0); (try clear c9b1); (try clear c10); (try clear c10b0); (try clear c10b1)
      obtain ⟨kq, x8_3, rfl, HA, HJ3, ⟨mc3, rfl⟩⟩ := hcut
      cases kq with
      | zero => exact absurd HA.out (by simp [dquote_single.j0])
      | succ kj3 =>
        have H := HA.out
        clear HA
        simp only [dquote_single.j0] at H
        by_cases c11 : x8_3 = true
        · subst c11
          have H1 : ((strings_IndexByte.f (⟨#[97, 98, 116, 110, 118, 102, 114]⟩ : ByteArray) a1).bind fun t126 => (some (wrap32 (wrap64 (7 + t126))))) = some r := by rw [if_pos rfl] at H; exact H
          clear H
          have H := H1
          clear H1
          replace H := Option.bind_eq_some_iff.mp H
          obtain ⟨t126, A120, H⟩ := H
          replace H : (some (wrap32 (wrap64 (7 + t126)))) = some r := H
          have A12 := Aside0.mk A120
          clear A120
          obtain rfl := Option.some.inj H
          go_wp2_with (first | ((with_reducible refine gate_callee (f := 46) rfl ?_); refine goesL_ (some 17) rfl rfl Try.func46 (by kernel_rfl) rfl #[.string (⟨#[97, 98, 116, 110, 118, 102, 114]⟩ : ByteArray), .int .u8 a1] rfl (by (try simp only [List.map_toArray, List.map_cons, List.map_nil]); first | done | rfl | (simp only [List.length_drop, List.length_take]; rfl)) ?_; (with_reducible refine (strings_IndexByte.calls (⟨#[97, 98, 116, 110, 118, 102, 114]⟩ : ByteArray) a1 t126 _ A12.out).mono ?_); rintro e w' ⟨rfl, ⟨nd, rfl⟩⟩; refine ⟨_, rfl, ?_⟩))
          go_ret
          exact ⟨by first | rfl | (simp; done) | (simp [*]; done), by repeat (first | exact Drawn0.refl _ | apply Drawn0.step)⟩
        · replace c11 := Bool.eq_false_iff.mpr c11
          subst c11
          have H1 : (if a1 = 101 then (some 27) else (if a1 = 32 then (dquote_single.j1 kj3 a0 a1 a1 (a1 == 32)) else (if a1 = 34 then (dquote_single.j1 kj3 a0 a1 a1 (a1 == 34)) else (if a1 = 92 then (dquote_single.j1 kj3 a0 a1 a1 (a1 == 92)) else (dquote_single.j1 kj3 a0 a1 a1 (a1 == 9)))))) = some r := by rw [if_neg (show ¬ (false = true) by decide)] at H; exact H
          clear H
          have H := H1
          clear H1
          by_cases c13 : a1 = 101
          · rw [if_pos c13] at H
            have c13b0 : (a1 == 101) = true := beq_iff_eq.mpr c13
            have c13b1 : (a1 != 101) = false := bne_eq_false_iff_eq.mpr c13
            clear c13
            obtain rfl := Option.some.inj H
            go_wp2
            go_ret
            exact ⟨by first | rfl | (simp; done) | (simp [*]; done), by repeat (first | exact Drawn0.refl _ | apply Drawn0.step)⟩
          · rw [if_neg c13] at H
            have c13b0 : (a1 == 101) = false := beq_eq_false_iff_ne.mpr c13
            have c13b1 : (a1 != 101) = true := bne_iff_ne.mpr c13
            have HC14 := Aside0.mk H
            clear H
            go_upto_if 22 with (fail)
            go_cut [22] (fun v22 wc => ∃ (kq : Nat) (x22_13 : Bool), v22 = .bool x22_13 ∧ Aside0 (dquote_single.j1 kq a0 a1 a1 x22_13 = some r) ∧ Aside0 (kq ≤ kj3) ∧ Drawn0 w wc)
            case first =>
              have H := HC14.out
              clear HC14
              by_cases c15 : a1 = 32
              · rw [if_pos c15] at H
                have c15b0 : (a1 == 32) = true := beq_iff_eq.mpr c15
                have c15b1 : (a1 != 32) = false := bne_eq_false_iff_eq.mpr c15
                clear c15
                (first | rw [c15b0] | (simp only [i64_w, i32_w]; rw [c15b0]) | skip)
                have H' := Aside0.mk H
                clear H
                go_wp2
                go_meet
                case rel => exact ⟨_, ((a1 == 32)), (by first | rfl | (simp; done) | (simp [*]; done)), H', ⟨by have := HJ3.out; first | omega | exact Nat.le_refl _⟩, by repeat (first | exact Drawn0.refl _ | apply Drawn0.step)⟩
              · rw [if_neg c15] at H
                have c15b0 : (a1 == 32) = false := beq_eq_false_iff_ne.mpr c15
                have c15b1 : (a1 != 32) = true := bne_iff_ne.mpr c15
                (first | rw [c15b0] | (simp only [i64_w, i32_w]; rw [c15b0]) | skip)
                by_cases c16 : a1 = 34
                · rw [if_pos c16] at H
                  have c16b0 : (a1 == 34) = true := beq_iff_eq.mpr c16
                  have c16b1 : (a1 != 34) = false := bne_eq_false_iff_eq.mpr c16
                  clear c16
                  have H' := Aside0.mk H
                  clear H
                  go_wp2
                  go_meet
                  case rel => exact ⟨_, ((a1 == 34)), (by first | rfl | (simp; done) | (simp [*]; done)), H', ⟨by have := HJ3.out; first | omega | exact Nat.le_refl _⟩, by repeat (first | exact Drawn0.refl _ | apply Drawn0.step)⟩
                · rw [if_neg c16] at H
                  have c16b0 : (a1 == 34) = false := beq_eq_false_iff_ne.mpr c16
                  have c16b1 : (a1 != 34) = true := bne_iff_ne.mpr c16
                  by_cases c17 : a1 = 92
                  · rw [if_pos c17] at H
                    have c17b0 : (a1 == 92) = true := beq_iff_eq.mpr c17
                    have c17b1 : (a1 != 92) = false := bne_eq_false_iff_eq.mpr c17
                    clear c17
                    have H' := Aside0.mk H
                    clear H
                    go_wp2
                    go_meet
                    case rel => exact ⟨_, ((a1 == 92)), (by first | rfl | (simp; done) | (simp [*]; done)), H', ⟨by have := HJ3.out; first | omega | exact Nat.le_refl _⟩, by repeat (first | exact Drawn0.refl _ | apply Drawn0.step)⟩
                  · rw [if_neg c17] at H
                    have c17b0 : (a1 == 92) = false := beq_eq_false_iff_ne.mpr c17
                    have c17b1 : (a1 != 92) = true := bne_iff_ne.mpr c17
                    have H' := Aside0.mk H
                    clear H
                    go_wp2
                    go_meet
                    case rel => exact ⟨_, ((a1 == 9)), (by first | rfl | (simp; done) | (simp [*]; done)), H', ⟨by have := HJ3.out; first | omega | exact Nat.le_refl _⟩, by repeat (first | exact Drawn0.refl _ | apply Drawn0.step)⟩
            case rest =>
              clear HC14
              (try clear c1); (try clear p2); (try clear c3); (try clear c3b0); (try clear c3b1); (try clear p3); (try clear c4); (try clear c5); (try clear c5b0); (try clear c5b1); (try clear c6); (try clear c6b0); (try clear c6b1); (try clear p6); (try clear c7); (try clear c7b0); (try clear c7b1); (try clear c8); (try clear c8b0); (try clear c8b1); (try clear c9); (try clear c9b0); (try clear c9b1); (try clear c10); (try clear c10b0); (try clear c10b1); (try clear c11); (try clear c13); (try clear c13b0); (try clear c13b1); (try clear c15); (try clear c15b0); (try clear c15b1); (try clear c16); (try clear c16b0); (try clear c16b1); (try clear c17); (try clear c17b0); (try clear c17b1)
              obtain ⟨kq, x22_13, rfl, HA, HJ13, ⟨mc13, rfl⟩⟩ := hcut
              cases kq with
              | zero => exact absurd HA.out (by simp [dquote_single.j1])
              | succ kj13 =>
                have H := HA.out
                clear HA
                simp only [dquote_single.j1] at H
                by_cases c18 : x22_13 = true
                · subst c18
                  have H1 : (some (wrap32 (a1))) = some r := by rw [if_pos rfl] at H; exact H
                  clear H
                  have H := H1
                  clear H1
                  obtain rfl := Option.some.inj H
                  go_wp2
                  go_ret
                  exact ⟨by first | rfl | (simp; done) | (simp [*]; done), by repeat (first | exact Drawn0.refl _ | apply Drawn0.step)⟩
                · replace c18 := Bool.eq_false_iff.mpr c18
                  subst c18
                  have H1 : (if a1 = 78 then (some 133) else (if a1 = 95 then (some 160) else (if a1 = 76 then (some 8232) else (if a1 = 80 then (some 8233) else (if a1 = 47 then (if a0 = 11 then (some (-1)) else (some 47)) else (some (-1))))))) = some r := by rw [if_neg (show ¬ (false = true) by decide)] at H; exact H
                  clear H
                  have H := H1
                  clear H1
                  by_cases c19 : a1 = 78
                  · rw [if_pos c19] at H
                    have c19b0 : (a1 == 78) = true := beq_iff_eq.mpr c19
                    have c19b1 : (a1 != 78) = false := bne_eq_false_iff_eq.mpr c19
                    clear c19
                    obtain rfl := Option.some.inj H
                    go_wp2
                    go_ret
                    exact ⟨by first | rfl | (simp; done) | (simp [*]; done), by repeat (first | exact Drawn0.refl _ | apply Drawn0.step)⟩
                  · rw [if_neg c19] at H
                    have c19b0 : (a1 == 78) = false := beq_eq_false_iff_ne.mpr c19
                    have c19b1 : (a1 != 78) = true := bne_iff_ne.mpr c19
                    by_cases c20 : a1 = 95
                    · rw [if_pos c20] at H
                      have c20b0 : (a1 == 95) = true := beq_iff_eq.mpr c20
                      have c20b1 : (a1 != 95) = false := bne_eq_false_iff_eq.mpr c20
                      clear c20
                      obtain rfl := Option.some.inj H
                      go_wp2
                      go_ret
                      exact ⟨by first | rfl | (simp; done) | (simp [*]; done), by repeat (first | exact Drawn0.refl _ | apply Drawn0.step)⟩
                    · rw [if_neg c20] at H
                      have c20b0 : (a1 == 95) = false := beq_eq_false_iff_ne.mpr c20
                      have c20b1 : (a1 != 95) = true := bne_iff_ne.mpr c20
                      by_cases c21 : a1 = 76
                      · rw [if_pos c21] at H
                        have c21b0 : (a1 == 76) = true := beq_iff_eq.mpr c21
                        have c21b1 : (a1 != 76) = false := bne_eq_false_iff_eq.mpr c21
                        clear c21
                        obtain rfl := Option.some.inj H
                        go_wp2
                        go_ret
                        exact ⟨by first | rfl | (simp; done) | (simp [*]; done), by repeat (first | exact Drawn0.refl _ | apply Drawn0.step)⟩
                      · rw [if_neg c21] at H
                        have c21b0 : (a1 == 76) = false := beq_eq_false_iff_ne.mpr c21
                        have c21b1 : (a1 != 76) = true := bne_iff_ne.mpr c21
                        by_cases c22 : a1 = 80
                        · rw [if_pos c22] at H
                          have c22b0 : (a1 == 80) = true := beq_iff_eq.mpr c22
                          have c22b1 : (a1 != 80) = false := bne_eq_false_iff_eq.mpr c22
                          clear c22
                          obtain rfl := Option.some.inj H
                          go_wp2
                          go_ret
                          exact ⟨by first | rfl | (simp; done) | (simp [*]; done), by repeat (first | exact Drawn0.refl _ | apply Drawn0.step)⟩
                        · rw [if_neg c22] at H
                          have c22b0 : (a1 == 80) = false := beq_eq_false_iff_ne.mpr c22
                          have c22b1 : (a1 != 80) = true := bne_iff_ne.mpr c22
                          by_cases c23 : a1 = 47
                          · rw [if_pos c23] at H
                            have c23b0 : (a1 == 47) = true := beq_iff_eq.mpr c23
                            have c23b1 : (a1 != 47) = false := bne_eq_false_iff_eq.mpr c23
                            clear c23
                            by_cases c24 : a0 = 11
                            · rw [if_pos c24] at H
                              have c24b0 : (a0 == 11) = true := beq_iff_eq.mpr c24
                              have c24b1 : (a0 != 11) = false := bne_eq_false_iff_eq.mpr c24
                              clear c24
                              obtain rfl := Option.some.inj H
                              go_wp2
                              go_ret
                              exact ⟨by first | rfl | (simp; done) | (simp [*]; done), by repeat (first | exact Drawn0.refl _ | apply Drawn0.step)⟩
                            · rw [if_neg c24] at H
                              have c24b0 : (a0 == 11) = false := beq_eq_false_iff_ne.mpr c24
                              have c24b1 : (a0 != 11) = true := bne_iff_ne.mpr c24
                              obtain rfl := Option.some.inj H
                              go_wp2
                              go_ret
                              exact ⟨by first | rfl | (simp; done) | (simp [*]; done), by repeat (first | exact Drawn0.refl _ | apply Drawn0.step)⟩
                          · rw [if_neg c23] at H
                            have c23b0 : (a1 == 47) = false := beq_eq_false_iff_ne.mpr c23
                            have c23b1 : (a1 != 47) = true := bne_iff_ne.mpr c23
                            obtain rfl := Option.some.inj H
                            go_wp2
                            go_ret
                            exact ⟨by first | rfl | (simp; done) | (simp [*]; done), by repeat (first | exact Drawn0.refl _ | apply Drawn0.step)⟩

/-! ### dquote_digit: function 49 -/
def dquote_digit.f (a0 : Int) : Option (Int) := (strings_IndexByte.f (⟨#[48, 49, 50, 51, 52, 53, 54, 55, 56, 57, 97, 98, 99, 100, 101, 102]⟩ : ByteArray) (Go.bits .or .u8 a0 ((Go.bits .and .u8 a0 64) / 2))).bind fun t163 => (some t163)
set_option maxHeartbeats 8000000 in
set_option maxRecDepth 100000 in
theorem dquote_digit.calls (a0 : Int) (r : Int) (w : World) (h : dquote_digit.f a0 = some r) :
    Calls Try.prog 49 #[.int .u8 a0] w fun e w' => e = .returned (.int .i64 r) ∧ Drawn0 w w' := by
  have H : ((strings_IndexByte.f (⟨#[48, 49, 50, 51, 52, 53, 54, 55, 56, 57, 97, 98, 99, 100, 101, 102]⟩ : ByteArray) (Go.bits .or .u8 a0 ((Go.bits .and .u8 a0 64) / 2))).bind fun t163 => (some t163)) = some r := h
  clear h
  replace H := Option.bind_eq_some_iff.mp H
  obtain ⟨t163, A20, H⟩ := H
  replace H : (some t163) = some r := H
  have A2 := Aside0.mk A20
  clear A20
  obtain rfl := Option.some.inj H
  go_enter Try.func49, Try.ntmps49
  go_wp2_with (first | ((with_reducible refine gate_callee (f := 46) rfl ?_); refine goesL_ (some 8) rfl rfl Try.func46 (by kernel_rfl) rfl #[.string (⟨#[48, 49, 50, 51, 52, 53, 54, 55, 56, 57, 97, 98, 99, 100, 101, 102]⟩ : ByteArray), .int .u8 (Go.bits .or .u8 a0 ((Go.bits .and .u8 a0 64) / 2))] rfl (by (try simp only [List.map_toArray, List.map_cons, List.map_nil]); first | done | rfl | (simp only [List.length_drop, List.length_take]; rfl)) ?_; (with_reducible refine (strings_IndexByte.calls (⟨#[48, 49, 50, 51, 52, 53, 54, 55, 56, 57, 97, 98, 99, 100, 101, 102]⟩ : ByteArray) (Go.bits .or .u8 a0 ((Go.bits .and .u8 a0 64) / 2)) t163 _ A2.out).mono ?_); rintro e w' ⟨rfl, ⟨nd, rfl⟩⟩; refine ⟨_, rfl, ?_⟩))
  go_ret
  exact ⟨by first | rfl | (simp; done) | (simp [*]; done), by repeat (first | exact Drawn0.refl _ | apply Drawn0.step)⟩

/-! ### utf8_ValidRune: function 50 -/
def utf8_ValidRune.j0 : Nat → Int → Bool → Option (Bool)
  | 0, _, _ => none
  | k + 1, x0, x3 => if x3 = true then (some true) else (if 57343 < x0 then (if x0 ≤ 1114111 then (some true) else (some false)) else (some false))
def utf8_ValidRune.f (k : Nat) (a0 : Int) : Option (Bool) := if 0 ≤ a0 then (utf8_ValidRune.j0 k a0 (decide (a0 < 55296))) else (utf8_ValidRune.j0 k a0 false)
theorem utf8_ValidRune.mono_l : ∀ k, (∀ y0 y1, LeO (utf8_ValidRune.j0 k y0 y1) (utf8_ValidRune.j0 (k + 1) y0 y1))
  | 0 => fun _ _ r h => by simp [utf8_ValidRune.j0] at h
  | k + 1 => by
    have ih0 := utf8_ValidRune.mono_l k
    · intro y0 y1
      unfold utf8_ValidRune.j0
      repeat' first
      | (with_reducible exact ih0 _ _)
      | (with_reducible exact LeO.refl _)
      | (with_reducible exact LeO.none _)
      | (with_reducible refine LeO.ite ?_ ?_)
      | (with_reducible refine LeO.bind ?_ (fun _ => ?_))
      | exact ih0 _ _
      | exact LeO.none _
      | refine LeO.ite ?_ ?_
      | refine LeO.bind ?_ (fun _ => ?_)
theorem utf8_ValidRune.mono : ∀ a0 k, LeO (utf8_ValidRune.f k a0) (utf8_ValidRune.f (k + 1) a0) := by
  intro a0 k
  have ih0 := utf8_ValidRune.mono_l k
  unfold utf8_ValidRune.f
  repeat' first
      | (with_reducible exact ih0 _ _)
      | (with_reducible exact LeO.refl _)
      | (with_reducible exact LeO.none _)
      | (with_reducible refine LeO.ite ?_ ?_)
      | (with_reducible refine LeO.bind ?_ (fun _ => ?_))
      | exact ih0 _ _
      | exact LeO.none _
      | refine LeO.ite ?_ ?_
      | refine LeO.bind ?_ (fun _ => ?_)
set_option maxHeartbeats 8000000 in
set_option maxRecDepth 100000 in
theorem utf8_ValidRune.calls (k : Nat) (a0 : Int) (r : Bool) (w : World) (h : utf8_ValidRune.f k a0 = some r) :
    Calls Try.prog 50 #[.int .i32 a0] w fun e w' => e = .returned (.bool r) ∧ Drawn0 w w' := by
  have H : (if 0 ≤ a0 then (utf8_ValidRune.j0 k a0 (decide (a0 < 55296))) else (utf8_ValidRune.j0 k a0 false)) = some r := h
  clear h
  have HC2 := Aside0.mk H
  clear H
  go_enter Try.func50, Try.ntmps50
  go_upto_region 1 with (fail)
  go_cut [3] (fun v3 wc => ∃ (kq : Nat) (x3_1 : Bool), v3 = .bool x3_1 ∧ Aside0 (utf8_ValidRune.j0 kq a0 x3_1 = some r) ∧ Aside0 (kq ≤ k) ∧ Drawn0 w wc)
  case first =>
    have H := HC2.out
    clear HC2
    by_cases c3 : 0 ≤ a0
    · rw [if_pos c3] at H
      have c3b0 : decide (0 ≤ a0) = true := decide_eq_true c3
      clear c3
      (first | rw [c3b0] | (simp only [i64_w, i32_w]; rw [c3b0]) | skip)
      have H' := Aside0.mk H
      clear H
      go_wp2
      go_meet
      case rel => exact ⟨_, (decide (a0 < 55296)), (by first | rfl | (simp; done) | (simp [*]; done)), H', ⟨by first | omega | exact Nat.le_refl _⟩, by repeat (first | exact Drawn0.refl _ | apply Drawn0.step)⟩
    · rw [if_neg c3] at H
      have c3b0 : decide (0 ≤ a0) = false := decide_eq_false c3
      clear c3
      (first | rw [c3b0] | (simp only [i64_w, i32_w]; rw [c3b0]) | skip)
      have H' := Aside0.mk H
      clear H
      go_wp2
      go_meet
      case rel => exact ⟨_, (false), (by first | rfl | (simp; done) | (simp [*]; done)), H', ⟨by first | omega | exact Nat.le_refl _⟩, by repeat (first | exact Drawn0.refl _ | apply Drawn0.step)⟩
  case rest =>
    clear HC2
    (try clear p2); (try clear c3); (try clear c3b0)
    obtain ⟨kq, x3_1, rfl, HA, HJ1, ⟨mc1, rfl⟩⟩ := hcut
    cases kq with
    | zero => exact absurd HA.out (by simp [utf8_ValidRune.j0])
    | succ kj1 =>
      have H := HA.out
      clear HA
      simp only [utf8_ValidRune.j0] at H
      by_cases c4 : x3_1 = true
      · subst c4
        have H1 : (some true) = some r := by rw [if_pos rfl] at H; exact H
        clear H
        have H := H1
        clear H1
        obtain rfl := Option.some.inj H
        go_wp2
        go_ret
        exact ⟨by first | rfl | (simp; done) | (simp [*]; done), by repeat (first | exact Drawn0.refl _ | apply Drawn0.step)⟩
      · replace c4 := Bool.eq_false_iff.mpr c4
        subst c4
        have H1 : (if 57343 < a0 then (if a0 ≤ 1114111 then (some true) else (some false)) else (some false)) = some r := by rw [if_neg (show ¬ (false = true) by decide)] at H; exact H
        clear H
        have H := H1
        clear H1
        by_cases c5 : 57343 < a0
        · rw [if_pos c5] at H
          have c5b0 : decide (57343 < a0) = true := decide_eq_true c5
          clear c5
          by_cases c6 : a0 ≤ 1114111
          · rw [if_pos c6] at H
            have c6b0 : decide (a0 ≤ 1114111) = true := decide_eq_true c6
            clear c6
            obtain rfl := Option.some.inj H
            go_wp2
            go_ret
            exact ⟨by first | rfl | (simp; done) | (simp [*]; done), by repeat (first | exact Drawn0.refl _ | apply Drawn0.step)⟩
          · rw [if_neg c6] at H
            have c6b0 : decide (a0 ≤ 1114111) = false := decide_eq_false c6
            clear c6
            obtain rfl := Option.some.inj H
            go_wp2
            go_ret
            exact ⟨by first | rfl | (simp; done) | (simp [*]; done), by repeat (first | exact Drawn0.refl _ | apply Drawn0.step)⟩
        · rw [if_neg c5] at H
          have c5b0 : decide (57343 < a0) = false := decide_eq_false c5
          clear c5
          obtain rfl := Option.some.inj H
          go_wp2
          go_ret
          exact ⟨by first | rfl | (simp; done) | (simp [*]; done), by repeat (first | exact Drawn0.refl _ | apply Drawn0.step)⟩

-- NOT PRINTED: function 34 (dquote_reader_turned)

-- NOT PRINTED: function 35 (strings_Builder_WriteByte)

-- NOT PRINTED: function 22 (dquote_reader_part)

-- NOT PRINTED: function 14 (dquote_Read)

-- NOT PRINTED: function 8 (targumlaw17_known)

end Go.Proofs.Ytgbnbjajaaggkaa.Q
