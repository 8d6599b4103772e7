/- Printed by hookprint.py (a program of this project, over the kit's printer): targumref12_Good, targumref12_Write. Not trusted: Lean checks it. No condition. -/
import Derived.Test.YtaoameejkpipcaaQx0
import Derived.Test.YtaoameejkpipcaaQx6
namespace Go.Proofs.Ytaoameejkpipcaa.Q
open Go.RowKit Go.Proofs.YtaoameejkpipcaaW.PrintWords Go.Proofs.YtaoameejkpipcaaW.PrintLast Go.Proofs.YtaoameejkpipcaaW.PrintMore
attribute [local go_sem] max2_int min2_int max_two min_two max_three min_three max_four min_four   -- for this text's walks alone
set_option linter.unusedVariables false
set_option linter.unusedSimpArgs false

/-! ### targumref12_Good: function 17 -/
def targumref12_Good.l0 : Nat → ByteArray → Int → Option (Bool)
  | 0, _, _ => none
  | k + 1, x0, x3 => if x3 < (x0.size : Int) then (if 0 ≤ x3 then ((targumref12_Sign.f k (bt x0 x3)).bind fun t138 => (if t138 = true then (targumref12_Good.l0 k x0 (wrap64 (x3 + 1))) else (some false))) else (none)) else (some (decide ((x0.size : Int) > 0)))
def targumref12_Good.f (k : Nat) (a0 : ByteArray) : Option (Bool) := targumref12_Good.l0 k a0 0
theorem targumref12_Good.mono_l : ∀ k, (∀ y0 y1, LeO (targumref12_Good.l0 k y0 y1) (targumref12_Good.l0 (k + 1) y0 y1))
  | 0 => fun _ _ r h => by simp [targumref12_Good.l0] at h
  | k + 1 => by
    have ih0 := targumref12_Good.mono_l k
    · intro y0 y1
      unfold targumref12_Good.l0
      repeat' first
      | (with_reducible exact ih0 _ _)
      | (with_reducible exact targumref12_Sign.mono _ _)
      | (with_reducible exact LeO.refl _)
      | (with_reducible exact LeO.none _)
      | (with_reducible refine LeO.ite ?_ ?_)
      | (with_reducible refine LeO.bind ?_ (fun _ => ?_))
      | exact ih0 _ _
      | exact targumref12_Sign.mono _ _
      | exact LeO.none _
      | refine LeO.ite ?_ ?_
      | refine LeO.bind ?_ (fun _ => ?_)
theorem targumref12_Good.mono : ∀ a0 k, LeO (targumref12_Good.f k a0) (targumref12_Good.f (k + 1) a0) := by
  intro a0 k
  have ih0 := targumref12_Good.mono_l k
  unfold targumref12_Good.f
  repeat' first
      | (with_reducible exact ih0 _ _)
      | (with_reducible exact targumref12_Sign.mono _ _)
      | (with_reducible exact LeO.refl _)
      | (with_reducible exact LeO.none _)
      | (with_reducible refine LeO.ite ?_ ?_)
      | (with_reducible refine LeO.bind ?_ (fun _ => ?_))
      | exact ih0 _ _
      | exact targumref12_Sign.mono _ _
      | exact LeO.none _
      | refine LeO.ite ?_ ?_
      | refine LeO.bind ?_ (fun _ => ?_)
set_option maxHeartbeats 8000000 in
set_option maxRecDepth 100000 in
theorem targumref12_Good.calls (k : Nat) (a0 : ByteArray) (r : Bool) (w : World) (h : targumref12_Good.f k a0 = some r) :
    Calls Try.prog 17 #[.string a0] w fun e w' => e = .returned (.bool r) ∧ Drawn0 w w' := by
  have H : (targumref12_Good.l0 k a0 0) = some r := h
  clear h
  have H' := Aside0.mk H
  clear H
  go_enter Try.func17, Try.ntmps17
  go_wp2
  go_loopg [3] k (fun kq v3 w' => ∃ (x3_1 : Int), v3 = .int .i64 x3_1 ∧ Aside0 (targumref12_Good.l0 kq a0 x3_1 = some r) ∧ Aside0 (kq ≤ k) ∧ Drawn0 w w')
  case atStart => exact ⟨(0), (by first | rfl | (simp; done) | (simp [*]; done)), H', ⟨Nat.le_refl _⟩, by repeat (first | exact Drawn0.refl _ | apply Drawn0.step)⟩
  case round =>
    clear H'
    try clear c1
    obtain ⟨x3_1, rfl, HA, HK1, ⟨m1, rfl⟩⟩ := hrel
    cases gk with
    | zero => exact absurd HA.out (by simp [targumref12_Good.l0])
    | succ k1 =>
      have H := HA.out
      clear HA
      simp only [targumref12_Good.l0] at H
      by_cases c2 : x3_1 < (a0.size : Int)
      · rw [if_pos c2] at H
        have c2b0 : decide (x3_1 < (a0.size : Int)) = true := decide_eq_true c2
        clear c2
        by_cases c3 : 0 ≤ x3_1
        · rw [if_pos c3] at H
          have c3b0 : decide (0 ≤ x3_1) = true := decide_eq_true c3
          clear c3
          replace H := Option.bind_eq_some_iff.mp H
          obtain ⟨t138, A50, H⟩ := H
          replace H : (if t138 = true then (targumref12_Good.l0 k1 a0 (wrap64 (x3_1 + 1))) else (some false)) = some r := H
          have A5 := Aside0.mk A50
          clear A50
          by_cases c6 : t138 = true
          · subst c6
            have H1 : (targumref12_Good.l0 k1 a0 (wrap64 (x3_1 + 1))) = some r := by rw [if_pos rfl] at H; exact H
            clear H
            have H := H1
            clear H1
            have H' := Aside0.mk H
            clear H
            have p4 : 0 ≤ (x3_1 : Int) := of_decide_eq_true (by first | (with_reducible assumption) | assumption)
            have q4 : x3_1 < (a0.size : Int) := of_decide_eq_true (by first | (with_reducible assumption) | assumption)
            have hx4 := bt_at a0 x3_1
            replace p4 := eq_true p4
            replace q4 := eq_true q4
            go_wp2_with (first | ((with_reducible refine gate_callee (f := 30) rfl ?_); refine goesL_ (some 13) rfl rfl Try.func30 (by kernel_rfl) rfl #[.int .u8 (bt a0 x3_1)] rfl (by (try simp only [List.map_toArray, List.map_cons, List.map_nil]); first | done | rfl | (simp only [List.length_drop, List.length_take]; rfl)) ?_; (with_reducible refine (targumref12_Sign.calls k1 (bt a0 x3_1) true _ A5.out).mono ?_); rintro e w' ⟨rfl, ⟨nd, rfl⟩⟩; refine ⟨_, rfl, ?_⟩))
            go_roundg k1
            case measure => have := HK1.out; omega
            case rel => exact ⟨(wrap64 (x3_1 + 1)), (by first | rfl | (simp; done) | (simp [*]; done)), H', ⟨by have := HK1.out; omega⟩, by repeat (first | exact Drawn0.refl _ | apply Drawn0.step)⟩
          · replace c6 := Bool.eq_false_iff.mpr c6
            subst c6
            have H1 : (some false) = some r := by rw [if_neg (show ¬ (false = true) by decide)] at H; exact H
            clear H
            have H := H1
            clear H1
            obtain rfl := Option.some.inj H
            have p4 : 0 ≤ (x3_1 : Int) := of_decide_eq_true (by first | (with_reducible assumption) | assumption)
            have q4 : x3_1 < (a0.size : Int) := of_decide_eq_true (by first | (with_reducible assumption) | assumption)
            have hx4 := bt_at a0 x3_1
            replace p4 := eq_true p4
            replace q4 := eq_true q4
            go_wp2_with (first | ((with_reducible refine gate_callee (f := 30) rfl ?_); refine goesL_ (some 13) rfl rfl Try.func30 (by kernel_rfl) rfl #[.int .u8 (bt a0 x3_1)] rfl (by (try simp only [List.map_toArray, List.map_cons, List.map_nil]); first | done | rfl | (simp only [List.length_drop, List.length_take]; rfl)) ?_; (with_reducible refine (targumref12_Sign.calls k1 (bt a0 x3_1) false _ A5.out).mono ?_); rintro e w' ⟨rfl, ⟨nd, rfl⟩⟩; refine ⟨_, rfl, ?_⟩))
            go_ret
            exact ⟨by first | rfl | (simp; done) | (simp [*]; done), by repeat (first | exact Drawn0.refl _ | apply Drawn0.step)⟩
        · rw [if_neg c3] at H
          exact absurd H (by simp)
      · rw [if_neg c2] at H
        have c2b0 : decide (x3_1 < (a0.size : Int)) = false := decide_eq_false c2
        clear c2
        obtain rfl := Option.some.inj H
        go_wp2
        go_ret
        exact ⟨by first | rfl | (simp; done) | (simp [*]; done), by repeat (first | exact Drawn0.refl _ | apply Drawn0.step)⟩
/-! ### targumref12_Write: function 19 -/
def targumref12_Write.f (k : Nat) (a0 : ByteArray) : Option (ByteArray) := (targumref12_Good.f k a0).bind fun t139 => (if t139 = true then (if 2 + a0.size ≤ 9223372036854775807 then (if ((⟨#[33, 60]⟩ : ByteArray) ++ a0).size + 1 ≤ 9223372036854775807 then (some (((⟨#[33, 60]⟩ : ByteArray) ++ a0) ++ (⟨#[62]⟩ : ByteArray))) else (none)) else (none)) else (some (⟨#[]⟩ : ByteArray)))
theorem targumref12_Write.mono : ∀ a0 k, LeO (targumref12_Write.f k a0) (targumref12_Write.f (k + 1) a0) := by
  intro a0 k
  unfold targumref12_Write.f
  repeat' first
      | (with_reducible exact targumref12_Good.mono _ _)
      | (with_reducible exact LeO.refl _)
      | (with_reducible exact LeO.none _)
      | (with_reducible refine LeO.ite ?_ ?_)
      | (with_reducible refine LeO.bind ?_ (fun _ => ?_))
      | exact targumref12_Good.mono _ _
      | exact LeO.none _
      | refine LeO.ite ?_ ?_
      | refine LeO.bind ?_ (fun _ => ?_)
set_option maxHeartbeats 8000000 in
set_option maxRecDepth 100000 in
theorem targumref12_Write.calls (k : Nat) (a0 : ByteArray) (r : ByteArray) (w : World) (h : targumref12_Write.f k a0 = some r) :
    Calls Try.prog 19 #[.string a0] w fun e w' => e = .returned (.string r) ∧ Drawn0 w w' := by
  have H : ((targumref12_Good.f k a0).bind fun t139 => (if t139 = true then (if 2 + a0.size ≤ 9223372036854775807 then (if ((⟨#[33, 60]⟩ : ByteArray) ++ a0).size + 1 ≤ 9223372036854775807 then (some (((⟨#[33, 60]⟩ : ByteArray) ++ a0) ++ (⟨#[62]⟩ : ByteArray))) else (none)) else (none)) else (some (⟨#[]⟩ : ByteArray)))) = some r := h
  clear h
  replace H := Option.bind_eq_some_iff.mp H
  obtain ⟨t139, A20, H⟩ := H
  replace H : (if t139 = true then (if 2 + a0.size ≤ 9223372036854775807 then (if ((⟨#[33, 60]⟩ : ByteArray) ++ a0).size + 1 ≤ 9223372036854775807 then (some (((⟨#[33, 60]⟩ : ByteArray) ++ a0) ++ (⟨#[62]⟩ : ByteArray))) else (none)) else (none)) else (some (⟨#[]⟩ : ByteArray))) = some r := H
  have A2 := Aside0.mk A20
  clear A20
  by_cases c3 : t139 = true
  · subst c3
    have H1 : (if 2 + a0.size ≤ 9223372036854775807 then (if ((⟨#[33, 60]⟩ : ByteArray) ++ a0).size + 1 ≤ 9223372036854775807 then (some (((⟨#[33, 60]⟩ : ByteArray) ++ a0) ++ (⟨#[62]⟩ : ByteArray))) else (none)) else (none)) = some r := by rw [if_pos rfl] at H; exact H
    clear H
    have H := H1
    clear H1
    by_cases c4 : 2 + a0.size ≤ 9223372036854775807
    · rw [if_pos c4] at H
      have c4b0 := eq_true c4
      have c4b1 : decide (2 + a0.size ≤ 9223372036854775807) = true := decide_eq_true c4
      try have c4b2 : (9223372036854775807 < 2 + a0.size) = False := eq_false (Nat.not_lt.2 c4)
      by_cases c5 : ((⟨#[33, 60]⟩ : ByteArray) ++ a0).size + 1 ≤ 9223372036854775807
      · rw [if_pos c5] at H
        have c5b0 := eq_true c5
        have c5b1 : decide (((⟨#[33, 60]⟩ : ByteArray) ++ a0).size + 1 ≤ 9223372036854775807) = true := decide_eq_true c5
        try (have c5b7 : 2 + a0.size + 1 ≤ 9223372036854775807 := by have h_ := c5; repeat rw [ByteArray.size_append] at h_; first | exact h_ | (simp at h_; omega)
             have c5b8 : decide (2 + a0.size + 1 ≤ 9223372036854775807) = true := decide_eq_true c5b7
             have c5b9 : (9223372036854775807 < 2 + a0.size + 1) = False := eq_false (Nat.not_lt.2 c5b7))
        try have c5b2 : (9223372036854775807 < ((⟨#[33, 60]⟩ : ByteArray) ++ a0).size + 1) = False := eq_false (Nat.not_lt.2 c5)
        obtain rfl := Option.some.inj H
        go_enter Try.func19, Try.ntmps19
        go_wp2_with (first | ((with_reducible refine gate_callee (f := 17) rfl ?_); refine goesL_ (some 4) rfl rfl Try.func17 (by kernel_rfl) rfl #[.string a0] rfl (by (try simp only [List.map_toArray, List.map_cons, List.map_nil]); first | done | rfl | (simp only [List.length_drop, List.length_take]; rfl)) ?_; (with_reducible refine (targumref12_Good.calls k a0 true _ A2.out).mono ?_); rintro e w' ⟨rfl, ⟨nd, rfl⟩⟩; refine ⟨_, rfl, ?_⟩))
        go_ret
        exact ⟨by first | rfl | (simp; done) | (simp [*]; done), by repeat (first | exact Drawn0.refl _ | apply Drawn0.step)⟩
      · rw [if_neg c5] at H
        exact absurd H (by simp)
    · rw [if_neg c4] at H
      exact absurd H (by simp)
  · replace c3 := Bool.eq_false_iff.mpr c3
    subst c3
    have H1 : (some (⟨#[]⟩ : ByteArray)) = some r := by rw [if_neg (show ¬ (false = true) by decide)] at H; exact H
    clear H
    have H := H1
    clear H1
    obtain rfl := Option.some.inj H
    go_enter Try.func19, Try.ntmps19
    go_wp2_with (first | ((with_reducible refine gate_callee (f := 17) rfl ?_); refine goesL_ (some 4) rfl rfl Try.func17 (by kernel_rfl) rfl #[.string a0] rfl (by (try simp only [List.map_toArray, List.map_cons, List.map_nil]); first | done | rfl | (simp only [List.length_drop, List.length_take]; rfl)) ?_; (with_reducible refine (targumref12_Good.calls k a0 false _ A2.out).mono ?_); rintro e w' ⟨rfl, ⟨nd, rfl⟩⟩; refine ⟨_, rfl, ?_⟩))
    go_ret
    exact ⟨by first | rfl | (simp; done) | (simp [*]; done), by repeat (first | exact Drawn0.refl _ | apply Drawn0.step)⟩

-- NOT PRINTED: function 4 (targumlaw21_PropOrders)

-- NOT PRINTED: function 5 (targumlaw21_PropTwice)

end Go.Proofs.Ytaoameejkpipcaa.Q
