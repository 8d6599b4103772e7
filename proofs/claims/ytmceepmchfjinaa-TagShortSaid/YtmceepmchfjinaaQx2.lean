-- Written by hookprint.py (a program of this project, over the kit's printer). Not trusted: Lean checks it.
import Derived.Test.YtmceepmchfjinaaQx0
namespace Go.Proofs.Ytmceepmchfjinaa.Q
open Go.RowKit Go.Proofs.YtmceepmchfjinaaW.PrintWords Go.Proofs.YtmceepmchfjinaaW.PrintLast Go.Proofs.YtmceepmchfjinaaW.PrintMore
attribute [local go_sem] max2_int min2_int max_two min_two max_three min_three max_four min_four   -- for this text's walks alone
set_option linter.unusedVariables false
set_option linter.unusedSimpArgs false

/-! ### stringslite_HasPrefix: function 27 -/
def stringslite_HasPrefix.f (a0 : ByteArray) (a1 : ByteArray) : Option (Bool) := if (a0.size : Int) ≥ (a1.size : Int) then (if 0 ≤ (a1.size : Int) then (if (a1.size : Int) ≤ (a0.size : Int) then (some ((a0.extract 0 ((a1.size : Int) : Int).toNat).toList == a1.toList)) else (none)) else (none)) else (some false)
set_option maxHeartbeats 8000000 in
set_option maxRecDepth 100000 in
theorem stringslite_HasPrefix.calls (a0 : ByteArray) (a1 : ByteArray) (r : Bool) (w : World) (h : stringslite_HasPrefix.f a0 a1 = some r) :
    Calls Try.prog 27 #[.string a0, .string a1] w fun e w' => e = .returned (.bool r) ∧ Drawn0 w w' := by
  have H : (if (a0.size : Int) ≥ (a1.size : Int) then (if 0 ≤ (a1.size : Int) then (if (a1.size : Int) ≤ (a0.size : Int) then (some ((a0.extract 0 ((a1.size : Int) : Int).toNat).toList == a1.toList)) else (none)) else (none)) else (some false)) = some r := h
  clear h
  by_cases c3 : (a0.size : Int) ≥ (a1.size : Int)
  · rw [if_pos c3] at H
    have c3b0 : decide ((a1.size : Int) ≤ (a0.size : Int)) = true := decide_eq_true c3
    have c3b1 : decide (a1.size ≤ a0.size) = true := decide_eq_true (Int.ofNat_le.mp c3)
    clear c3
    by_cases c4 : 0 ≤ (a1.size : Int)
    · rw [if_pos c4] at H
      have c4b0 := eq_true c4
      have c4b1 : decide (0 ≤ (a1.size : Int)) = true := decide_eq_true c4
      clear c4
      by_cases c5 : (a1.size : Int) ≤ (a0.size : Int)
      · rw [if_pos c5] at H
        have c5b0 := eq_true c5
        have c5b1 : decide ((a1.size : Int) ≤ (a0.size : Int)) = true := decide_eq_true c5
        clear c5
        obtain rfl := Option.some.inj H
        go_enter Try.func27, Try.ntmps27
        go_wp2
        go_ret
        exact ⟨by first | rfl | (simp; done) | (simp [*]; done), by repeat (first | exact Drawn0.refl _ | apply Drawn0.step)⟩
      · rw [if_neg c5] at H
        exact absurd H (by simp)
    · rw [if_neg c4] at H
      exact absurd H (by simp)
  · rw [if_neg c3] at H
    have c3b0 : decide ((a1.size : Int) ≤ (a0.size : Int)) = false := decide_eq_false c3
    have c3b1 : decide (a1.size ≤ a0.size) = false := decide_eq_false (fun h => c3 (Int.ofNat_le.mpr h))
    clear c3
    obtain rfl := Option.some.inj H
    go_enter Try.func27, Try.ntmps27
    go_wp2
    go_ret
    exact ⟨by first | rfl | (simp; done) | (simp [*]; done), by repeat (first | exact Drawn0.refl _ | apply Drawn0.step)⟩

/-! ### strings_HasPrefix: function 18 -/
def strings_HasPrefix.f (a0 : ByteArray) (a1 : ByteArray) : Option (Bool) := (stringslite_HasPrefix.f a0 a1).bind fun t101 => (some t101)
set_option maxHeartbeats 8000000 in
set_option maxRecDepth 100000 in
theorem strings_HasPrefix.calls (a0 : ByteArray) (a1 : ByteArray) (r : Bool) (w : World) (h : strings_HasPrefix.f a0 a1 = some r) :
    Calls Try.prog 18 #[.string a0, .string a1] w fun e w' => e = .returned (.bool r) ∧ Drawn0 w w' := by
  have H : ((stringslite_HasPrefix.f a0 a1).bind fun t101 => (some t101)) = some r := h
  clear h
  replace H := Option.bind_eq_some_iff.mp H
  obtain ⟨t101, A30, H⟩ := H
  replace H : (some t101) = some r := H
  have A3 := Aside0.mk A30
  clear A30
  obtain rfl := Option.some.inj H
  go_enter Try.func18, Try.ntmps18
  go_wp2_with (first | ((with_reducible refine gate_callee (f := 27) rfl ?_); refine goesL_ (some 7) rfl rfl Try.func27 (by kernel_rfl) rfl #[.string a0, .string a1] rfl (by (try simp only [List.map_toArray, List.map_cons, List.map_nil]); first | done | rfl | (simp only [List.length_drop, List.length_take]; rfl)) ?_; (with_reducible refine (stringslite_HasPrefix.calls a0 a1 t101 _ A3.out).mono ?_); rintro e w' ⟨rfl, ⟨nd, rfl⟩⟩; refine ⟨_, rfl, ?_⟩))
  go_ret
  exact ⟨by first | rfl | (simp; done) | (simp [*]; done), by repeat (first | exact Drawn0.refl _ | apply Drawn0.step)⟩

/-! ### tagname_word: function 28 -/
def tagname_word.f (a0 : Int) : Option (Bool) := if a0 ≥ 97 then (if a0 ≤ 122 then (some true) else (if a0 ≥ 65 then (if a0 ≤ 90 then (some true) else (if a0 ≥ 48 then (some (decide (a0 ≤ 57))) else (some false))) else (if a0 ≥ 48 then (some (decide (a0 ≤ 57))) else (some false)))) else (if a0 ≥ 65 then (if a0 ≤ 90 then (some true) else (if a0 ≥ 48 then (some (decide (a0 ≤ 57))) else (some false))) else (if a0 ≥ 48 then (some (decide (a0 ≤ 57))) else (some false)))
set_option maxHeartbeats 8000000 in
set_option maxRecDepth 100000 in
theorem tagname_word.calls (a0 : Int) (r : Bool) (w : World) (h : tagname_word.f a0 = some r) :
    Calls Try.prog 28 #[.int .u8 a0] w fun e w' => e = .returned (.bool r) ∧ Drawn0 w w' := by
  have H : (if a0 ≥ 97 then (if a0 ≤ 122 then (some true) else (if a0 ≥ 65 then (if a0 ≤ 90 then (some true) else (if a0 ≥ 48 then (some (decide (a0 ≤ 57))) else (some false))) else (if a0 ≥ 48 then (some (decide (a0 ≤ 57))) else (some false)))) else (if a0 ≥ 65 then (if a0 ≤ 90 then (some true) else (if a0 ≥ 48 then (some (decide (a0 ≤ 57))) else (some false))) else (if a0 ≥ 48 then (some (decide (a0 ≤ 57))) else (some false)))) = some r := h
  clear h
  by_cases c2 : a0 ≥ 97
  · rw [if_pos c2] at H
    have c2b0 : decide (97 ≤ a0) = true := decide_eq_true c2
    clear c2
    by_cases c3 : a0 ≤ 122
    · rw [if_pos c3] at H
      have c3b0 : decide (a0 ≤ 122) = true := decide_eq_true c3
      clear c3
      obtain rfl := Option.some.inj H
      go_enter Try.func28, Try.ntmps28
      go_wp2
      go_ret
      exact ⟨by first | rfl | (simp; done) | (simp [*]; done), by repeat (first | exact Drawn0.refl _ | apply Drawn0.step)⟩
    · rw [if_neg c3] at H
      have c3b0 : decide (a0 ≤ 122) = false := decide_eq_false c3
      clear c3
      by_cases c4 : a0 ≥ 65
      · rw [if_pos c4] at H
        have c4b0 : decide (65 ≤ a0) = true := decide_eq_true c4
        clear c4
        by_cases c5 : a0 ≤ 90
        · rw [if_pos c5] at H
          have c5b0 : decide (a0 ≤ 90) = true := decide_eq_true c5
          clear c5
          obtain rfl := Option.some.inj H
          go_enter Try.func28, Try.ntmps28
          go_wp2
          go_ret
          exact ⟨by first | rfl | (simp; done) | (simp [*]; done), by repeat (first | exact Drawn0.refl _ | apply Drawn0.step)⟩
        · rw [if_neg c5] at H
          have c5b0 : decide (a0 ≤ 90) = false := decide_eq_false c5
          clear c5
          by_cases c6 : a0 ≥ 48
          · rw [if_pos c6] at H
            have c6b0 : decide (48 ≤ a0) = true := decide_eq_true c6
            clear c6
            obtain rfl := Option.some.inj H
            go_enter Try.func28, Try.ntmps28
            go_wp2
            go_ret
            exact ⟨by first | rfl | (simp; done) | (simp [*]; done), by repeat (first | exact Drawn0.refl _ | apply Drawn0.step)⟩
          · rw [if_neg c6] at H
            have c6b0 : decide (48 ≤ a0) = false := decide_eq_false c6
            clear c6
            obtain rfl := Option.some.inj H
            go_enter Try.func28, Try.ntmps28
            go_wp2
            go_ret
            exact ⟨by first | rfl | (simp; done) | (simp [*]; done), by repeat (first | exact Drawn0.refl _ | apply Drawn0.step)⟩
      · rw [if_neg c4] at H
        have c4b0 : decide (65 ≤ a0) = false := decide_eq_false c4
        clear c4
        by_cases c7 : a0 ≥ 48
        · rw [if_pos c7] at H
          have c7b0 : decide (48 ≤ a0) = true := decide_eq_true c7
          clear c7
          obtain rfl := Option.some.inj H
          go_enter Try.func28, Try.ntmps28
          go_wp2
          go_ret
          exact ⟨by first | rfl | (simp; done) | (simp [*]; done), by repeat (first | exact Drawn0.refl _ | apply Drawn0.step)⟩
        · rw [if_neg c7] at H
          have c7b0 : decide (48 ≤ a0) = false := decide_eq_false c7
          clear c7
          obtain rfl := Option.some.inj H
          go_enter Try.func28, Try.ntmps28
          go_wp2
          go_ret
          exact ⟨by first | rfl | (simp; done) | (simp [*]; done), by repeat (first | exact Drawn0.refl _ | apply Drawn0.step)⟩
  · rw [if_neg c2] at H
    have c2b0 : decide (97 ≤ a0) = false := decide_eq_false c2
    clear c2
    by_cases c8 : a0 ≥ 65
    · rw [if_pos c8] at H
      have c8b0 : decide (65 ≤ a0) = true := decide_eq_true c8
      clear c8
      by_cases c9 : a0 ≤ 90
      · rw [if_pos c9] at H
        have c9b0 : decide (a0 ≤ 90) = true := decide_eq_true c9
        clear c9
        obtain rfl := Option.some.inj H
        go_enter Try.func28, Try.ntmps28
        go_wp2
        go_ret
        exact ⟨by first | rfl | (simp; done) | (simp [*]; done), by repeat (first | exact Drawn0.refl _ | apply Drawn0.step)⟩
      · rw [if_neg c9] at H
        have c9b0 : decide (a0 ≤ 90) = false := decide_eq_false c9
        clear c9
        by_cases c10 : a0 ≥ 48
        · rw [if_pos c10] at H
          have c10b0 : decide (48 ≤ a0) = true := decide_eq_true c10
          clear c10
          obtain rfl := Option.some.inj H
          go_enter Try.func28, Try.ntmps28
          go_wp2
          go_ret
          exact ⟨by first | rfl | (simp; done) | (simp [*]; done), by repeat (first | exact Drawn0.refl _ | apply Drawn0.step)⟩
        · rw [if_neg c10] at H
          have c10b0 : decide (48 ≤ a0) = false := decide_eq_false c10
          clear c10
          obtain rfl := Option.some.inj H
          go_enter Try.func28, Try.ntmps28
          go_wp2
          go_ret
          exact ⟨by first | rfl | (simp; done) | (simp [*]; done), by repeat (first | exact Drawn0.refl _ | apply Drawn0.step)⟩
    · rw [if_neg c8] at H
      have c8b0 : decide (65 ≤ a0) = false := decide_eq_false c8
      clear c8
      by_cases c11 : a0 ≥ 48
      · rw [if_pos c11] at H
        have c11b0 : decide (48 ≤ a0) = true := decide_eq_true c11
        clear c11
        obtain rfl := Option.some.inj H
        go_enter Try.func28, Try.ntmps28
        go_wp2
        go_ret
        exact ⟨by first | rfl | (simp; done) | (simp [*]; done), by repeat (first | exact Drawn0.refl _ | apply Drawn0.step)⟩
      · rw [if_neg c11] at H
        have c11b0 : decide (48 ≤ a0) = false := decide_eq_false c11
        clear c11
        obtain rfl := Option.some.inj H
        go_enter Try.func28, Try.ntmps28
        go_wp2
        go_ret
        exact ⟨by first | rfl | (simp; done) | (simp [*]; done), by repeat (first | exact Drawn0.refl _ | apply Drawn0.step)⟩

-- NOT PRINTED: function 35 (bytealg_IndexByteString)

-- NOT PRINTED: function 34 (stringslite_IndexByte)

/-! ### strings_IndexByte: function 29 -/

def strings_IndexByte.f (a0 : ByteArray) (a1 : Int) : Option (Int) := some (Lib.indexByte a0.data.toList a1.toNat.toUInt8)
theorem strings_IndexByte.calls (a0 : ByteArray) (a1 : Int) (r : Int) (w : World) (h : strings_IndexByte.f a0 a1 = some r) :
    Calls Try.prog 29 #[.string a0, .int .u8 a1] w fun e w' => e = .returned (.int .i64 r) ∧ Drawn0 w w' := by
  obtain rfl := Option.some.inj h
  exact (Try.strings_IndexByte a0 a1 w).mono fun e w' h => ⟨h.1, by rw [h.2]; exact Drawn0.refl _⟩


/-! ### tagname_sign: function 20 -/
def tagname_sign.f (a0 : Int) : Option (Bool) := (tagname_word.f a0).bind fun t102 => (if t102 = true then (some true) else ((strings_IndexByte.f (⟨#[45, 95, 46, 126, 42, 39, 40, 41, 59, 47, 63, 58, 64, 38, 61, 43, 36, 44, 33, 35, 91, 93, 37]⟩ : ByteArray) a0).bind fun t103 => (some (decide (t103 ≥ 0)))))
set_option maxHeartbeats 8000000 in
set_option maxRecDepth 100000 in
theorem tagname_sign.calls (a0 : Int) (r : Bool) (w : World) (h : tagname_sign.f a0 = some r) :
    Calls Try.prog 20 #[.int .u8 a0] w fun e w' => e = .returned (.bool r) ∧ Drawn0 w w' := by
  have H : ((tagname_word.f a0).bind fun t102 => (if t102 = true then (some true) else ((strings_IndexByte.f (⟨#[45, 95, 46, 126, 42, 39, 40, 41, 59, 47, 63, 58, 64, 38, 61, 43, 36, 44, 33, 35, 91, 93, 37]⟩ : ByteArray) a0).bind fun t103 => (some (decide (t103 ≥ 0)))))) = some r := h
  clear h
  replace H := Option.bind_eq_some_iff.mp H
  obtain ⟨t102, A20, H⟩ := H
  replace H : (if t102 = true then (some true) else ((strings_IndexByte.f (⟨#[45, 95, 46, 126, 42, 39, 40, 41, 59, 47, 63, 58, 64, 38, 61, 43, 36, 44, 33, 35, 91, 93, 37]⟩ : ByteArray) a0).bind fun t103 => (some (decide (t103 ≥ 0))))) = some r := H
  have A2 := Aside0.mk A20
  clear A20
  by_cases c3 : t102 = true
  · subst c3
    have H1 : (some true) = some r := by rw [if_pos rfl] at H; exact H
    clear H
    have H := H1
    clear H1
    obtain rfl := Option.some.inj H
    go_enter Try.func20, Try.ntmps20
    go_wp2_with (first | ((with_reducible refine gate_callee (f := 28) rfl ?_); refine goesL_ (some 4) rfl rfl Try.func28 (by kernel_rfl) rfl #[.int .u8 a0] rfl (by (try simp only [List.map_toArray, List.map_cons, List.map_nil]); first | done | rfl | (simp only [List.length_drop, List.length_take]; rfl)) ?_; (with_reducible refine (tagname_word.calls a0 true _ A2.out).mono ?_); rintro e w' ⟨rfl, ⟨nd, rfl⟩⟩; refine ⟨_, rfl, ?_⟩))
    go_ret
    exact ⟨by first | rfl | (simp; done) | (simp [*]; done), by repeat (first | exact Drawn0.refl _ | apply Drawn0.step)⟩
  · replace c3 := Bool.eq_false_iff.mpr c3
    subst c3
    have H1 : ((strings_IndexByte.f (⟨#[45, 95, 46, 126, 42, 39, 40, 41, 59, 47, 63, 58, 64, 38, 61, 43, 36, 44, 33, 35, 91, 93, 37]⟩ : ByteArray) a0).bind fun t103 => (some (decide (t103 ≥ 0)))) = some r := by rw [if_neg (show ¬ (false = true) by decide)] at H; exact H
    clear H
    have H := H1
    clear H1
    replace H := Option.bind_eq_some_iff.mp H
    obtain ⟨t103, A40, H⟩ := H
    replace H : (some (decide (t103 ≥ 0))) = some r := H
    have A4 := Aside0.mk A40
    clear A40
    obtain rfl := Option.some.inj H
    go_enter Try.func20, Try.ntmps20
    go_wp2_with (first | ((with_reducible refine gate_callee (f := 28) rfl ?_); refine goesL_ (some 4) rfl rfl Try.func28 (by kernel_rfl) rfl #[.int .u8 a0] rfl (by (try simp only [List.map_toArray, List.map_cons, List.map_nil]); first | done | rfl | (simp only [List.length_drop, List.length_take]; rfl)) ?_; (with_reducible refine (tagname_word.calls a0 false _ A2.out).mono ?_); rintro e w' ⟨rfl, ⟨nd, rfl⟩⟩; refine ⟨_, rfl, ?_⟩) | (go_at_call 29; (with_reducible refine (strings_IndexByte.calls (⟨#[45, 95, 46, 126, 42, 39, 40, 41, 59, 47, 63, 58, 64, 38, 61, 43, 36, 44, 33, 35, 91, 93, 37]⟩ : ByteArray) a0 t103 _ A4.out).mono ?_); rintro e w' ⟨rfl, ⟨nd, rfl⟩⟩))
    go_ret
    exact ⟨by first | rfl | (simp; done) | (simp [*]; done), by repeat (first | exact Drawn0.refl _ | apply Drawn0.step)⟩

/-! ### tagname_short: function 23 -/
def tagname_short.f (a0 : Int) : Option (Bool) := (tagname_sign.f a0).bind fun t104 => (if t104 = true then ((strings_IndexByte.f (⟨#[44, 33, 91, 93]⟩ : ByteArray) a0).bind fun t105 => (some (decide (t105 < 0)))) else (some false))
set_option maxHeartbeats 8000000 in
set_option maxRecDepth 100000 in
theorem tagname_short.calls (a0 : Int) (r : Bool) (w : World) (h : tagname_short.f a0 = some r) :
    Calls Try.prog 23 #[.int .u8 a0] w fun e w' => e = .returned (.bool r) ∧ Drawn0 w w' := by
  have H : ((tagname_sign.f a0).bind fun t104 => (if t104 = true then ((strings_IndexByte.f (⟨#[44, 33, 91, 93]⟩ : ByteArray) a0).bind fun t105 => (some (decide (t105 < 0)))) else (some false))) = some r := h
  clear h
  replace H := Option.bind_eq_some_iff.mp H
  obtain ⟨t104, A20, H⟩ := H
  replace H : (if t104 = true then ((strings_IndexByte.f (⟨#[44, 33, 91, 93]⟩ : ByteArray) a0).bind fun t105 => (some (decide (t105 < 0)))) else (some false)) = some r := H
  have A2 := Aside0.mk A20
  clear A20
  by_cases c3 : t104 = true
  · subst c3
    have H1 : ((strings_IndexByte.f (⟨#[44, 33, 91, 93]⟩ : ByteArray) a0).bind fun t105 => (some (decide (t105 < 0)))) = some r := by rw [if_pos rfl] at H; exact H
    clear H
    have H := H1
    clear H1
    replace H := Option.bind_eq_some_iff.mp H
    obtain ⟨t105, A40, H⟩ := H
    replace H : (some (decide (t105 < 0))) = some r := H
    have A4 := Aside0.mk A40
    clear A40
    obtain rfl := Option.some.inj H
    go_enter Try.func23, Try.ntmps23
    go_wp2_with (first | ((with_reducible refine gate_callee (f := 20) rfl ?_); refine goesL_ (some 4) rfl rfl Try.func20 (by kernel_rfl) rfl #[.int .u8 a0] rfl (by (try simp only [List.map_toArray, List.map_cons, List.map_nil]); first | done | rfl | (simp only [List.length_drop, List.length_take]; rfl)) ?_; (with_reducible refine (tagname_sign.calls a0 true _ A2.out).mono ?_); rintro e w' ⟨rfl, ⟨nd, rfl⟩⟩; refine ⟨_, rfl, ?_⟩) | (go_at_call 29; (with_reducible refine (strings_IndexByte.calls (⟨#[44, 33, 91, 93]⟩ : ByteArray) a0 t105 _ A4.out).mono ?_); rintro e w' ⟨rfl, ⟨nd, rfl⟩⟩))
    go_ret
    exact ⟨by first | rfl | (simp; done) | (simp [*]; done), by repeat (first | exact Drawn0.refl _ | apply Drawn0.step)⟩
  · replace c3 := Bool.eq_false_iff.mpr c3
    subst c3
    have H1 : (some false) = some r := by rw [if_neg (show ¬ (false = true) by decide)] at H; exact H
    clear H
    have H := H1
    clear H1
    obtain rfl := Option.some.inj H
    go_enter Try.func23, Try.ntmps23
    go_wp2_with (first | ((with_reducible refine gate_callee (f := 20) rfl ?_); refine goesL_ (some 4) rfl rfl Try.func20 (by kernel_rfl) rfl #[.int .u8 a0] rfl (by (try simp only [List.map_toArray, List.map_cons, List.map_nil]); first | done | rfl | (simp only [List.length_drop, List.length_take]; rfl)) ?_; (with_reducible refine (tagname_sign.calls a0 false _ A2.out).mono ?_); rintro e w' ⟨rfl, ⟨nd, rfl⟩⟩; refine ⟨_, rfl, ?_⟩))
    go_ret
    exact ⟨by first | rfl | (simp; done) | (simp [*]; done), by repeat (first | exact Drawn0.refl _ | apply Drawn0.step)⟩

/-! ### tagname_handle_1: function 31 -/
def tagname_handle_1.f (a0 : Int) : Option (Bool) := (tagname_word.f a0).bind fun t106 => (if t106 = true then (some true) else (some (a0 == 45)))
set_option maxHeartbeats 8000000 in
set_option maxRecDepth 100000 in
theorem tagname_handle_1.calls (a0 : Int) (r : Bool) (w : World) (h : tagname_handle_1.f a0 = some r) :
    Calls Try.prog 31 #[.int .u8 a0] w fun e w' => e = .returned (.bool r) ∧ Drawn0 w w' := by
  have H : ((tagname_word.f a0).bind fun t106 => (if t106 = true then (some true) else (some (a0 == 45)))) = some r := h
  clear h
  replace H := Option.bind_eq_some_iff.mp H
  obtain ⟨t106, A20, H⟩ := H
  replace H : (if t106 = true then (some true) else (some (a0 == 45))) = some r := H
  have A2 := Aside0.mk A20
  clear A20
  by_cases c3 : t106 = true
  · subst c3
    have H1 : (some true) = some r := by rw [if_pos rfl] at H; exact H
    clear H
    have H := H1
    clear H1
    obtain rfl := Option.some.inj H
    go_enter Try.func31, Try.ntmps31
    go_wp2_with (first | ((with_reducible refine gate_callee (f := 28) rfl ?_); refine goesL_ (some 4) rfl rfl Try.func28 (by kernel_rfl) rfl #[.int .u8 a0] rfl (by (try simp only [List.map_toArray, List.map_cons, List.map_nil]); first | done | rfl | (simp only [List.length_drop, List.length_take]; rfl)) ?_; (with_reducible refine (tagname_word.calls a0 true _ A2.out).mono ?_); rintro e w' ⟨rfl, ⟨nd, rfl⟩⟩; refine ⟨_, rfl, ?_⟩))
    go_ret
    exact ⟨by first | rfl | (simp; done) | (simp [*]; done), by repeat (first | exact Drawn0.refl _ | apply Drawn0.step)⟩
  · replace c3 := Bool.eq_false_iff.mpr c3
    subst c3
    have H1 : (some (a0 == 45)) = some r := by rw [if_neg (show ¬ (false = true) by decide)] at H; exact H
    clear H
    have H := H1
    clear H1
    obtain rfl := Option.some.inj H
    go_enter Try.func31, Try.ntmps31
    go_wp2_with (first | ((with_reducible refine gate_callee (f := 28) rfl ?_); refine goesL_ (some 4) rfl rfl Try.func28 (by kernel_rfl) rfl #[.int .u8 a0] rfl (by (try simp only [List.map_toArray, List.map_cons, List.map_nil]); first | done | rfl | (simp only [List.length_drop, List.length_take]; rfl)) ?_; (with_reducible refine (tagname_word.calls a0 false _ A2.out).mono ?_); rintro e w' ⟨rfl, ⟨nd, rfl⟩⟩; refine ⟨_, rfl, ?_⟩))
    go_ret
    exact ⟨by first | rfl | (simp; done) | (simp [*]; done), by repeat (first | exact Drawn0.refl _ | apply Drawn0.step)⟩

/-! ### tagname_row: function 19 -/

def tagname_row.pred (F : Nat) (c : UInt8) : Bool :=
  (if F = 20 then tagname_sign.f c.toNat else if F = 23 then tagname_short.f c.toNat else tagname_handle_1.f c.toNat).getD false
def tagname_row.isFn : Value → Option Nat
  | .func (.func F) a b => if a.size = 0 ∧ b.size = 0 ∧ (F = 20 ∨ F = 23 ∨ F = 31) then some F else none
  | _ => none
def tagname_row.f (a0 : ByteArray) (a1 : Value) : Option (Int) := if a0.size ≤ 9223372036854775807 then (tagname_row.isFn a1).map fun F => ((rowN (tagname_row.pred F) a0.data.toList : Nat) : Int) else none
theorem tagname_row.isFn_of {v : Value} {F : Nat} (h : tagname_row.isFn v = some F) : v = .func (.func F) #[] #[] ∧ (F = 20 ∨ F = 23 ∨ F = 31) := by
  unfold tagname_row.isFn at h
  split at h
  · split at h
    · rename_i h2
      obtain rfl := Option.some.inj h
      rw [Array.eq_empty_of_size_eq_zero h2.1, Array.eq_empty_of_size_eq_zero h2.2.1]
      exact ⟨rfl, h2.2.2⟩
    · cases h
  · cases h
theorem tagname_row.sign_some (c : Int) : ∃ b, tagname_sign.f c = some b := by
  simp only [tagname_sign.f, tagname_word.f, strings_IndexByte.f, Option.bind_some]
  repeat' split
  all_goals (simp only [Option.bind_some]; repeat' split)
  all_goals exact ⟨_, rfl⟩
theorem tagname_row.short_some (c : Int) : ∃ b, tagname_short.f c = some b := by
  obtain ⟨b, hb⟩ := tagname_row.sign_some c
  simp only [tagname_short.f, hb, strings_IndexByte.f, Option.bind_some]
  repeat' split
  all_goals exact ⟨_, rfl⟩
theorem tagname_row.hand_some (c : Int) : ∃ b, tagname_handle_1.f c = some b := by
  simp only [tagname_handle_1.f, tagname_word.f, Option.bind_some]
  repeat' split
  all_goals (simp only [Option.bind_some]; repeat' split)
  all_goals exact ⟨_, rfl⟩
theorem tagname_row.calls (a0 : ByteArray) (a1 : Value) (r : Int) (w : World) (h : tagname_row.f a0 a1 = some r) :
    Calls Try.prog 19 #[.string a0, a1] w fun e w' => e = .returned (.int .i64 r) ∧ Drawn0 w w' := by
  unfold tagname_row.f at h
  split at h
  · rename_i hs
    obtain ⟨F, hF, rfl⟩ := Option.map_eq_some_iff.1 h
    obtain ⟨rfl, hF2⟩ := tagname_row.isFn_of hF
    clear hF
    have hp : ∀ (c : UInt8) w, Calls Try.prog F #[.int .u8 c.toNat] w fun e w' => e = .returned (.bool (tagname_row.pred F c)) ∧ ∃ n, w' = w.drewN n := by
      intro c w
      rcases hF2 with rfl | rfl | rfl
      · obtain ⟨b, hb⟩ := tagname_row.sign_some c.toNat
        refine (tagname_sign.calls c.toNat b w hb).mono fun e w' h => ⟨?_, h.2.out⟩
        rw [h.1]; simp [tagname_row.pred, hb]
      · obtain ⟨b, hb⟩ := tagname_row.short_some c.toNat
        refine (tagname_short.calls c.toNat b w hb).mono fun e w' h => ⟨?_, h.2.out⟩
        rw [h.1]; simp [tagname_row.pred, hb]
      · obtain ⟨b, hb⟩ := tagname_row.hand_some c.toNat
        refine (tagname_handle_1.calls c.toNat b w hb).mono fun e w' h => ⟨?_, h.2.out⟩
        rw [h.1]; simp [tagname_row.pred, hb]
    refine (row_any F ?_ (tagname_row.pred F) hp a0 hs w).mono fun e w' h => ⟨h.1, ⟨h.2⟩⟩
    rcases hF2 with rfl | rfl | rfl
    · intro args w; rfl
    · intro args w; rfl
    · intro args w; rfl
  · cases h


/-! ### stringslite_Clone: function 30 -/

def stringslite_Clone.f (a0 : ByteArray) : Option (ByteArray) := if a0.size ≤ 281474976710656 then some a0 else none
theorem stringslite_Clone.calls (a0 : ByteArray) (r : ByteArray) (w : World) (h : stringslite_Clone.f a0 = some r) :
    Calls Try.prog 30 #[.string a0] w fun e w' => e = .returned (.string r) ∧ Below w.heap.size w w' := by
  unfold stringslite_Clone.f at h
  split at h
  · obtain rfl := Option.some.inj h
    exact Try.stringslite_Clone a0 w (by assumption)
  · cases h


/-! ### strings_Clone: function 21 -/
def strings_Clone.f (a0 : ByteArray) : Option (ByteArray) := (stringslite_Clone.f a0).bind fun t107 => (some t107)
set_option maxHeartbeats 8000000 in
set_option maxRecDepth 100000 in
theorem strings_Clone.calls (a0 : ByteArray) (r : ByteArray) (w : World) (h : strings_Clone.f a0 = some r) :
    Calls Try.prog 21 #[.string a0] w fun e w' => e = .returned (.string r) ∧ Below w.heap.size w w' := by
  have HB := Aside0.mk (Below.refl w.heap.size w)
  have H : ((stringslite_Clone.f a0).bind fun t107 => (some t107)) = some r := h
  clear h
  replace H := Option.bind_eq_some_iff.mp H
  obtain ⟨t107, A20, H⟩ := H
  replace H : (some t107) = some r := H
  have A2 := Aside0.mk A20
  clear A20
  obtain rfl := Option.some.inj H
  go_enter Try.func21, Try.ntmps21
  go_wp2_with (first | ((with_reducible refine gate_callee (f := 30) rfl ?_); refine goesL_ (some 4) rfl rfl Try.func30 (by kernel_rfl) rfl #[.string a0] rfl (by (try simp only [List.map_toArray, List.map_cons, List.map_nil]); first | done | rfl | (simp only [List.length_drop, List.length_take]; rfl)) ?_; (with_reducible refine (stringslite_Clone.calls a0 t107 _ A2.out).mono ?_); rintro e w3 ⟨rfl, hb⟩; refine ⟨_, rfl, ?_⟩; have n0_ := Aside0.mk (below_step (by repeat (first | (with_reducible first | exact HB.out | apply below_alloc | apply pw_below_drewN | apply below_drew1) | exact HB.out)) hb); clear HB; have HB := n0_; clear n0_; (try clear hb); (try clear hb2); (try clear hk); (try clear hi)))
  go_ret
  exact ⟨by first | rfl | (simp [errW_none, errW_some] <;> rfl) | (simp [*, errW_none, errW_some] <;> rfl), by repeat (first | (with_reducible first | exact HB.out | apply below_alloc | apply pw_below_drewN | apply below_drew1) | exact HB.out)⟩

/-! ### tagname_handle: function 22 -/
def tagname_handle.f (a0 : ByteArray) : Option (ByteArray) := if 1 ≤ (a0.size : Int) then ((tagname_row.f (a0.extract 1 a0.size) (.func (.func 31) #[] #[] : Value)).bind fun t108 => (if (wrap64 (1 + t108)) < (a0.size : Int) then (if 0 ≤ (wrap64 (1 + t108)) then (if (bt a0 (wrap64 (1 + t108))) = 33 then (if 0 ≤ (wrap64 ((wrap64 (1 + t108)) + 1)) then (if (wrap64 ((wrap64 (1 + t108)) + 1)) ≤ (a0.size : Int) then (some (a0.extract 0 ((wrap64 ((wrap64 (1 + t108)) + 1)) : Int).toNat)) else (none)) else (none)) else (some (⟨#[33]⟩ : ByteArray))) else (none)) else (some (⟨#[33]⟩ : ByteArray)))) else (none)
set_option maxHeartbeats 8000000 in
set_option maxRecDepth 100000 in
theorem tagname_handle.calls (a0 : ByteArray) (r : ByteArray) (w : World) (h : tagname_handle.f a0 = some r) :
    Calls Try.prog 22 #[.string a0] w fun e w' => e = .returned (.string r) ∧ Drawn0 w w' := by
  have H : (if 1 ≤ (a0.size : Int) then ((tagname_row.f (a0.extract 1 a0.size) (.func (.func 31) #[] #[] : Value)).bind fun t108 => (if (wrap64 (1 + t108)) < (a0.size : Int) then (if 0 ≤ (wrap64 (1 + t108)) then (if (bt a0 (wrap64 (1 + t108))) = 33 then (if 0 ≤ (wrap64 ((wrap64 (1 + t108)) + 1)) then (if (wrap64 ((wrap64 (1 + t108)) + 1)) ≤ (a0.size : Int) then (some (a0.extract 0 ((wrap64 ((wrap64 (1 + t108)) + 1)) : Int).toNat)) else (none)) else (none)) else (some (⟨#[33]⟩ : ByteArray))) else (none)) else (some (⟨#[33]⟩ : ByteArray)))) else (none)) = some r := h
  clear h
  by_cases c2 : 1 ≤ (a0.size : Int)
  · rw [if_pos c2] at H
    have c2b0 := eq_true c2
    have c2b1 : decide (1 ≤ (a0.size : Int)) = true := decide_eq_true c2
    clear c2
    replace H := Option.bind_eq_some_iff.mp H
    obtain ⟨t108, A30, H⟩ := H
    replace H : (if (wrap64 (1 + t108)) < (a0.size : Int) then (if 0 ≤ (wrap64 (1 + t108)) then (if (bt a0 (wrap64 (1 + t108))) = 33 then (if 0 ≤ (wrap64 ((wrap64 (1 + t108)) + 1)) then (if (wrap64 ((wrap64 (1 + t108)) + 1)) ≤ (a0.size : Int) then (some (a0.extract 0 ((wrap64 ((wrap64 (1 + t108)) + 1)) : Int).toNat)) else (none)) else (none)) else (some (⟨#[33]⟩ : ByteArray))) else (none)) else (some (⟨#[33]⟩ : ByteArray))) = some r := H
    have A3 := Aside0.mk A30
    clear A30
    by_cases c4 : (wrap64 (1 + t108)) < (a0.size : Int)
    · rw [if_pos c4] at H
      have c4b0 : decide ((wrap64 (1 + t108)) < (a0.size : Int)) = true := decide_eq_true c4
      (try (have c4b1 : decide (((1 + t108)) < (a0.size : Int)) = true := (by have e_ : wrap64 (1 + t108) = (1 + t108) := (by unfold wrap64; omega); have h_ : decide ((wrap64 (1 + t108)) < (a0.size : Int)) = true := decide_eq_true c4; rw [e_] at h_; exact h_)))
      clear c4
      obtain ⟨ji5, hji5⟩ : ∃ j_ : Int, (wrap64 (1 + t108)) = j_ := ⟨_, rfl⟩
      replace H : (if 0 ≤ (ji5) then (if (bt a0 (ji5)) = 33 then (if 0 ≤ (wrap64 ((ji5) + 1)) then (if (wrap64 ((ji5) + 1)) ≤ (a0.size : Int) then (some (a0.extract 0 ((wrap64 ((ji5) + 1)) : Int).toNat)) else (none)) else (none)) else (some (⟨#[33]⟩ : ByteArray))) else (none)) = some r := by first | (rw [hji5] at H; exact H) | (simp only [hji5] at H ⊢; exact H)
      (try rw [hji5] at c4b0)
      (try rw [hji5] at c4b1)
      (try rw [hji5] at A3)
      have hji5w : (IntKind.i64.wrap (1 + t108)) = ji5 := (i64_w _).trans hji5
      by_cases c6 : 0 ≤ (ji5)
      · rw [if_pos c6] at H
        have c6b0 : decide (0 ≤ (ji5)) = true := decide_eq_true c6
        clear c6
        by_cases c8 : (bt a0 (ji5)) = 33
        · rw [if_pos c8] at H
          have c8b0 : ((bt a0 (ji5)) == 33) = true := beq_iff_eq.mpr c8
          have c8b1 : ((bt a0 (ji5)) != 33) = false := bne_eq_false_iff_eq.mpr c8
          clear c8
          obtain ⟨ji9, hji9⟩ : ∃ j_ : Int, (wrap64 ((ji5) + 1)) = j_ := ⟨_, rfl⟩
          replace H : (if 0 ≤ (ji9) then (if (ji9) ≤ (a0.size : Int) then (some (a0.extract 0 ((ji9) : Int).toNat)) else (none)) else (none)) = some r := by first | (rw [hji9] at H; exact H) | (simp only [hji9] at H ⊢; exact H)
          (try rw [hji9] at A3)
          have hji9w : (IntKind.i64.wrap ((ji5) + 1)) = ji9 := (i64_w _).trans hji9
          by_cases c10 : 0 ≤ (ji9)
          · rw [if_pos c10] at H
            have c10b0 := eq_true c10
            have c10b1 : decide (0 ≤ (ji9)) = true := decide_eq_true c10
            clear c10
            by_cases c11 : (ji9) ≤ (a0.size : Int)
            · rw [if_pos c11] at H
              have c11b0 := eq_true c11
              have c11b1 : decide ((ji9) ≤ (a0.size : Int)) = true := decide_eq_true c11
              clear c11
              obtain rfl := Option.some.inj H
              go_enter Try.func22, Try.ntmps22
              go_wp2_with (first | ((with_reducible refine gate_callee (f := 19) rfl ?_); refine goesL_ (some 6) rfl rfl Try.func19 (by kernel_rfl) rfl #[.string (a0.extract 1 a0.size), (.func (.func 31) #[] #[] : Value)] rfl (by (try simp only [List.map_toArray, List.map_cons, List.map_nil]); first | done | rfl | (simp only [List.length_drop, List.length_take]; rfl)) ?_; (with_reducible refine (tagname_row.calls (a0.extract 1 a0.size) (.func (.func 31) #[] #[] : Value) t108 _ A3.out).mono ?_); rintro e w' ⟨rfl, ⟨nd, rfl⟩⟩; refine ⟨_, rfl, ?_⟩; have p7 : 0 ≤ ((ji5) : Int) := of_decide_eq_true (by first | (with_reducible assumption) | assumption); have q7 : (ji5) < (a0.size : Int) := of_decide_eq_true (by first | (with_reducible assumption) | assumption); have hx7 := bt_at a0 (ji5); replace p7 := eq_true p7; replace q7 := eq_true q7))
              go_ret
              exact ⟨by first | rfl | (simp; done) | (simp only [← hji5, ← hji9] <;> (first | rfl | simp)) | (simp [*]; done), by repeat (first | exact Drawn0.refl _ | apply Drawn0.step)⟩
            · rw [if_neg c11] at H
              exact absurd H (by simp)
          · rw [if_neg c10] at H
            exact absurd H (by simp)
        · rw [if_neg c8] at H
          have c8b0 : ((bt a0 (ji5)) == 33) = false := beq_eq_false_iff_ne.mpr c8
          have c8b1 : ((bt a0 (ji5)) != 33) = true := bne_iff_ne.mpr c8
          obtain rfl := Option.some.inj H
          go_enter Try.func22, Try.ntmps22
          go_wp2_with (first | ((with_reducible refine gate_callee (f := 19) rfl ?_); refine goesL_ (some 6) rfl rfl Try.func19 (by kernel_rfl) rfl #[.string (a0.extract 1 a0.size), (.func (.func 31) #[] #[] : Value)] rfl (by (try simp only [List.map_toArray, List.map_cons, List.map_nil]); first | done | rfl | (simp only [List.length_drop, List.length_take]; rfl)) ?_; (with_reducible refine (tagname_row.calls (a0.extract 1 a0.size) (.func (.func 31) #[] #[] : Value) t108 _ A3.out).mono ?_); rintro e w' ⟨rfl, ⟨nd, rfl⟩⟩; refine ⟨_, rfl, ?_⟩; have p7 : 0 ≤ ((ji5) : Int) := of_decide_eq_true (by first | (with_reducible assumption) | assumption); have q7 : (ji5) < (a0.size : Int) := of_decide_eq_true (by first | (with_reducible assumption) | assumption); have hx7 := bt_at a0 (ji5); replace p7 := eq_true p7; replace q7 := eq_true q7))
          go_ret
          exact ⟨by first | rfl | (simp; done) | (simp only [← hji5] <;> (first | rfl | simp)) | (simp [*]; done), by repeat (first | exact Drawn0.refl _ | apply Drawn0.step)⟩
      · rw [if_neg c6] at H
        exact absurd H (by simp)
    · rw [if_neg c4] at H
      have c4b0 : decide ((wrap64 (1 + t108)) < (a0.size : Int)) = false := decide_eq_false c4
      (try (have c4b1 : decide (((1 + t108)) < (a0.size : Int)) = false := (by have e_ : wrap64 (1 + t108) = (1 + t108) := (by unfold wrap64; omega); have h_ : decide ((wrap64 (1 + t108)) < (a0.size : Int)) = false := decide_eq_false c4; rw [e_] at h_; exact h_)))
      clear c4
      obtain rfl := Option.some.inj H
      go_enter Try.func22, Try.ntmps22
      go_wp2_with (first | ((with_reducible refine gate_callee (f := 19) rfl ?_); refine goesL_ (some 6) rfl rfl Try.func19 (by kernel_rfl) rfl #[.string (a0.extract 1 a0.size), (.func (.func 31) #[] #[] : Value)] rfl (by (try simp only [List.map_toArray, List.map_cons, List.map_nil]); first | done | rfl | (simp only [List.length_drop, List.length_take]; rfl)) ?_; (with_reducible refine (tagname_row.calls (a0.extract 1 a0.size) (.func (.func 31) #[] #[] : Value) t108 _ A3.out).mono ?_); rintro e w' ⟨rfl, ⟨nd, rfl⟩⟩; refine ⟨_, rfl, ?_⟩))
      go_ret
      exact ⟨by first | rfl | (simp; done) | (simp [*]; done), by repeat (first | exact Drawn0.refl _ | apply Drawn0.step)⟩
  · rw [if_neg c2] at H
    exact absurd H (by simp)

/-! ### tagname_Read: function 9 -/
def none5 : Bool × ByteArray × ByteArray × Int × Bool := (false, ⟨#[]⟩, ⟨#[]⟩, 0, false)
def tagname_Read.t (t : ByteArray) (i : Int) : Option (Bool × ByteArray × ByteArray × Int × Bool) :=
  (strings_HasPrefix.f t ⟨#[33, 60]⟩).bind fun b => if b = true
  then (tagname_row.f (t.extract 2 t.size) (.func (.func 20) #[] #[])).bind fun m =>
    if m = 0 ∨ 2 + m = t.size ∨ bt t (2 + m) ≠ 62 then some none5 else some (true, ⟨#[]⟩, t.extract 2 (2 + m).toNat, i + (2 + m) + 1, true)
  else (tagname_handle.f t).bind fun h => (tagname_row.f (t.extract h.size t.size) (.func (.func 23) #[] #[])).bind fun n =>
    if n = 0 ∧ h.toList ≠ [33] then some none5 else some (false, h, t.extract h.size (n + h.size).toNat, i + (n + h.size), true)
def tagname_Read.f (a0 : ByteArray) (a1 : Int) : Option (Bool × ByteArray × ByteArray × Int × Bool) :=
  if a0.size ≤ 140737488351232 then (if 0 ≤ a1 ∧ a1 < (a0.size : Int) ∧ bt a0 a1 = 33 then tagname_Read.t (a0.extract a1.toNat a0.size) a1 else some none5) else none

theorem rowN_le (p : UInt8 → Bool) : ∀ l : List UInt8, rowN p l ≤ l.length
  | [] => Nat.le_refl _
  | c :: l => by unfold rowN; split <;> simp [rowN_le p l]

theorem tagname_row.le {s : ByteArray} {F : Value} {m : Int} (h : tagname_row.f s F = some m) : 0 ≤ m ∧ m ≤ s.size := by
  unfold tagname_row.f at h
  split at h
  · obtain ⟨F, hF, rfl⟩ := Option.map_eq_some_iff.1 h
    have := rowN_le (tagname_row.pred F) s.data.toList
    simp at this
    exact ⟨by omega, by exact_mod_cast this⟩
  · cases h

theorem tagname_Read.no (a0 : ByteArray) (a1 : Int) (w : World) (hs : a0.size ≤ 140737488351232) (h : ¬ (0 ≤ a1 ∧ a1 < (a0.size : Int) ∧ bt a0 a1 = 33)) :
    Calls Try.prog 9 #[.string a0, .int .i64 a1] w fun e w' => e = .returned (.tuple #[.agg #[.bool false, .string ⟨#[]⟩, .string ⟨#[]⟩], .int .i64 0, .bool false]) ∧ Below w.heap.size w w' := by
  have hu := Try.underlying23
  by_cases h1 : a1 < 0
  · go_enter Try.func9, Try.ntmps9
    go_wp2
    exact bodyPost_ret (v := .tuple #[.agg #[.bool false, .string ⟨#[]⟩, .string ⟨#[]⟩], .int .i64 0, .bool false]) (by simp [results, Try.results9, go_sem]) rfl ⟨rfl, ((Below.refl _ _).alloc (Nat.le_refl _) _)⟩
  · obtain ⟨n, rfl⟩ : ∃ n : Nat, a1 = n := ⟨a1.toNat, by omega⟩
    by_cases h2 : n < a0.size
    · have h3 : bt a0 n ≠ 33 := fun e => h ⟨by omega, by omega, e⟩
      have h4 : ((a0[n].toNat : Int) != 33) = true := by
        rw [bne_iff_ne]; intro e; exact h3 (by simp [bt, h2, e])
      clear h h3
      go_enter Try.func9, Try.ntmps9
      go_wp2
      exact bodyPost_ret (v := .tuple #[.agg #[.bool false, .string ⟨#[]⟩, .string ⟨#[]⟩], .int .i64 0, .bool false]) (by simp [results, Try.results9, go_sem]) rfl ⟨rfl, ((Below.refl _ _).alloc (Nat.le_refl _) _)⟩
    · clear h
      go_enter Try.func9, Try.ntmps9
      go_wp2
      exact bodyPost_ret (v := .tuple #[.agg #[.bool false, .string ⟨#[]⟩, .string ⟨#[]⟩], .int .i64 0, .bool false]) (by simp [results, Try.results9, go_sem]) rfl ⟨rfl, ((Below.refl _ _).alloc (Nat.le_refl _) _)⟩

theorem below_drewN {B : Nat} {a w : World} (h : Below B a w) (n : Nat) : Below B a (w.drewN n) := ⟨h.os, h.tape, h.output, h.size, h.block⟩

theorem bcell {W w1 : World} (hb : Below W.heap.size W w1) : (∀ b o, b < W.heap.size → w1.cell? ⟨b, o, none⟩ = W.cell? ⟨b, o, none⟩) ∧ (∀ b o, b < W.heap.size → w1.frozen? ⟨b, o, none⟩ = W.frozen? ⟨b, o, none⟩) :=
  ⟨fun b o h => hb.cell (p := ⟨b, o, none⟩) h, fun b o h => hb.frozen (p := ⟨b, o, none⟩) h⟩

set_option maxHeartbeats 4000000 in
theorem Read_verb_no (s : ByteArray) (n m : Nat) (w : World) (hs : s.size ≤ 140737488351232) (hlt : n < s.size) (h4 : ((s[n].toNat : Int) != 33) = false) (h2 : 2 ≤ s.size - n) (hm : m ≤ s.size - n - 2)
    (cH : ∀ w, Calls Try.prog 18 #[.string (s.extract n s.size), .string ⟨#[33, 60]⟩] w fun e w' => e = .returned (.bool true) ∧ Drawn0 w w') 
    (cR : ∀ w, Calls Try.prog 19 #[.string ((s.extract n s.size).extract 2 (s.size - n)), .func (.func 20) #[] #[]] w fun e w' => e = .returned (.int .i64 m) ∧ Drawn0 w w')
    (hno : m = 0 ∨ 2 + m = s.size - n ∨ ∃ h : 2 + m < (s.extract n s.size).size, (((s.extract n s.size)[2 + m].toNat : Int) != 62) = true) :
    Calls Try.prog 9 #[.string s, .int .i64 n] w fun e w' => e = .returned (.tuple #[.agg #[.bool false, .string ⟨#[]⟩, .string ⟨#[]⟩], .int .i64 0, .bool false]) ∧ Below w.heap.size w w' := by
  have hu := Try.underlying23
  by_cases hm0 : m = 0
  · subst hm0
    clear hno
    go_enter Try.func9, Try.ntmps9
    go_wp2_with (first | ((with_reducible refine (cH _).mono ?_); rintro e w' ⟨rfl, ⟨n1, rfl⟩⟩) | ((with_reducible refine (cR _).mono ?_); rintro e w' ⟨rfl, ⟨n2, rfl⟩⟩))
    exact bodyPost_ret (v := .tuple #[.agg #[.bool false, .string ⟨#[]⟩, .string ⟨#[]⟩], .int .i64 0, .bool false]) (by simp [results, Try.results9, go_sem]) rfl ⟨rfl, by repeat (first | exact Below.refl _ _ | (refine Below.alloc ?_ (Nat.le_refl _) _) | refine Below.setCell ?_ (by simp) _ | refine below_drewN ?_ _)⟩
  · by_cases hL : 2 + m = s.size - n
    · have hm1 : 1 ≤ m := by omega
      clear hno hm0
      go_enter Try.func9, Try.ntmps9
      go_wp2_with (first | ((with_reducible refine (cH _).mono ?_); rintro e w' ⟨rfl, ⟨n1, rfl⟩⟩) | ((with_reducible refine (cR _).mono ?_); rintro e w' ⟨rfl, ⟨n2, rfl⟩⟩))
      exact bodyPost_ret (v := .tuple #[.agg #[.bool false, .string ⟨#[]⟩, .string ⟨#[]⟩], .int .i64 0, .bool false]) (by simp [results, Try.results9, go_sem]) rfl ⟨rfl, by repeat (first | exact Below.refl _ _ | (refine Below.alloc ?_ (Nat.le_refl _) _) | refine Below.setCell ?_ (by simp) _ | refine below_drewN ?_ _)⟩
    · have hm1 : 1 ≤ m := by omega
      have hm2 : 2 + m < s.size - n := by omega
      obtain ⟨hb, hno⟩ : ∃ h : 2 + m < (s.extract n s.size).size, (((s.extract n s.size)[2 + m].toNat : Int) != 62) = true := by
        rcases hno with h | h | h
        · exact absurd h hm0
        · exact absurd h hL
        · exact h
      clear hm0 hL
      have f1 : ((2 + (m : Int)) == 2) = false := by rw [beq_eq_false_iff_ne]; omega
      have f2 : ((2 + (m : Int)) == ((s.size - n : Nat) : Int)) = false := by rw [beq_eq_false_iff_ne]; omega
      have f3 : (2 + (m : Int)).toNat = 2 + m := by omega
      have f4 : 2 + (m : Int) ≤ ((s.size - n : Nat) : Int) := by omega
      have f5 : (2 : Int) ≤ 2 + (m : Int) := by omega
      go_enter Try.func9, Try.ntmps9
      go_wp2_with (first | ((with_reducible refine (cH _).mono ?_); rintro e w' ⟨rfl, ⟨n1, rfl⟩⟩) | ((with_reducible refine (cR _).mono ?_); rintro e w' ⟨rfl, ⟨n2, rfl⟩⟩))
      exact bodyPost_ret (v := .tuple #[.agg #[.bool false, .string ⟨#[]⟩, .string ⟨#[]⟩], .int .i64 0, .bool false]) (by simp [results, Try.results9, go_sem]) rfl ⟨rfl, by repeat (first | exact Below.refl _ _ | (refine Below.alloc ?_ (Nat.le_refl _) _) | refine Below.setCell ?_ (by simp) _ | refine below_drewN ?_ _)⟩

set_option maxHeartbeats 4000000 in
theorem Read_verb_yes (s : ByteArray) (n m : Nat) (w : World) (hs : s.size ≤ 140737488351232) (hlt : n < s.size) (h4 : ((s[n].toNat : Int) != 33) = false) (h2 : 2 ≤ s.size - n) (hm : m ≤ s.size - n - 2)
    (cH : ∀ w, Calls Try.prog 18 #[.string (s.extract n s.size), .string ⟨#[33, 60]⟩] w fun e w' => e = .returned (.bool true) ∧ Drawn0 w w') 
    (cR : ∀ w, Calls Try.prog 19 #[.string ((s.extract n s.size).extract 2 (s.size - n)), .func (.func 20) #[] #[]] w fun e w' => e = .returned (.int .i64 m) ∧ Drawn0 w w')
    (hm1 : 1 ≤ m) (hm2 : 2 + m < s.size - n) (hb : 2 + m < (s.extract n s.size).size) (hno : (((s.extract n s.size)[2 + m].toNat : Int) != 62) = false)
    (cC : ∀ w, Calls Try.prog 21 #[.string ((s.extract n s.size).extract 2 (2 + m))] w fun e w' => e = .returned (.string ((s.extract n s.size).extract 2 (2 + m))) ∧ Below w.heap.size w w') :
    Calls Try.prog 9 #[.string s, .int .i64 n] w fun e w' => e = .returned (.tuple #[.agg #[.bool true, .string ⟨#[]⟩, .string ((s.extract n s.size).extract 2 (2 + m))], .int .i64 (n + (2 + m) + 1), .bool true]) ∧ Below w.heap.size w w' := by
  have hu := Try.underlying23
  have f1 : ((2 + (m : Int)) == 2) = false := by rw [beq_eq_false_iff_ne]; omega
  have f2 : ((2 + (m : Int)) == ((s.size - n : Nat) : Int)) = false := by rw [beq_eq_false_iff_ne]; omega
  have f3 : (2 + (m : Int)).toNat = 2 + m := by omega
  have f4 : 2 + (m : Int) ≤ ((s.size - n : Nat) : Int) := by omega
  have f5 : (2 : Int) ≤ 2 + (m : Int) := by omega
  go_enter Try.func9, Try.ntmps9
  go_wp2_with (first | ((with_reducible refine (cH _).mono ?_); rintro e w' ⟨rfl, ⟨n1, rfl⟩⟩) | ((with_reducible refine (cR _).mono ?_); rintro e w' ⟨rfl, ⟨n2, rfl⟩⟩) | ((with_reducible refine (cC _).mono ?_); rintro e w3 ⟨rfl, hb3⟩; obtain ⟨hc3, hf3⟩ := bcell hb3; have hz3 : w.heap.size + 1 ≤ w3.heap.size := by { have := hb3.size; simpa using this }; have hB3 : Below w.heap.size w w3 := (below_drewN ((Below.refl _ w).alloc (Nat.le_refl _) _) _).trans (hb3.mono (by simp))))
  exact bodyPost_ret (v := .tuple #[.agg #[.bool true, .string ⟨#[]⟩, .string ((s.extract n s.size).extract 2 (2 + m))], .int .i64 (n + (2 + m) + 1), .bool true]) (by simp [results, Try.results9, go_sem, hc3, hf3, hz3]) rfl ⟨rfl, by repeat (first | exact hB3 | refine Below.setCell ?_ (by simp) _)⟩

set_option maxHeartbeats 4000000 in
theorem Read_short_no (s h : ByteArray) (n m : Nat) (w : World) (hs : s.size ≤ 140737488351232) (hlt : n < s.size) (h4 : ((s[n].toNat : Int) != 33) = false) (hh0 : 1 ≤ h.size) (hh1 : h.size ≤ s.size - n) (hm : m ≤ s.size - n - h.size)
    (cH : ∀ w, Calls Try.prog 18 #[.string (s.extract n s.size), .string ⟨#[33, 60]⟩] w fun e w' => e = .returned (.bool false) ∧ Drawn0 w w')
    (cA : ∀ w, Calls Try.prog 22 #[.string (s.extract n s.size)] w fun e w' => e = .returned (.string h) ∧ Drawn0 w w')
    (cR : ∀ w, Calls Try.prog 19 #[.string ((s.extract n s.size).extract h.size (s.size - n)), .func (.func 23) #[] #[]] w fun e w' => e = .returned (.int .i64 m) ∧ Drawn0 w w')
    (hm0 : m = 0) (hne : (h.toList == [33]) = false) :
    Calls Try.prog 9 #[.string s, .int .i64 n] w fun e w' => e = .returned (.tuple #[.agg #[.bool false, .string ⟨#[]⟩, .string ⟨#[]⟩], .int .i64 0, .bool false]) ∧ Below w.heap.size w w' := by
  have hu := Try.underlying23
  subst hm0
  go_enter Try.func9, Try.ntmps9
  go_wp2_with (first | ((with_reducible refine (cH _).mono ?_); rintro e w' ⟨rfl, ⟨n1, rfl⟩⟩) | ((with_reducible refine (cA _).mono ?_); rintro e w' ⟨rfl, ⟨n3, rfl⟩⟩) | ((with_reducible refine (cR _).mono ?_); rintro e w' ⟨rfl, ⟨n2, rfl⟩⟩))
  exact bodyPost_ret (v := .tuple #[.agg #[.bool false, .string ⟨#[]⟩, .string ⟨#[]⟩], .int .i64 0, .bool false]) (by simp [results, Try.results9, go_sem]) rfl ⟨rfl, by repeat (first | exact Below.refl _ _ | (refine Below.alloc ?_ (Nat.le_refl _) _) | refine Below.setCell ?_ (by simp) _ | refine below_drewN ?_ _)⟩

set_option maxHeartbeats 4000000 in
theorem Read_short_yes (s h : ByteArray) (n m : Nat) (w : World) (hs : s.size ≤ 140737488351232) (hlt : n < s.size) (h4 : ((s[n].toNat : Int) != 33) = false) (hh0 : 1 ≤ h.size) (hh1 : h.size ≤ s.size - n) (hm : m ≤ s.size - n - h.size)
    (cH : ∀ w, Calls Try.prog 18 #[.string (s.extract n s.size), .string ⟨#[33, 60]⟩] w fun e w' => e = .returned (.bool false) ∧ Drawn0 w w')
    (cA : ∀ w, Calls Try.prog 22 #[.string (s.extract n s.size)] w fun e w' => e = .returned (.string h) ∧ Drawn0 w w')
    (cR : ∀ w, Calls Try.prog 19 #[.string ((s.extract n s.size).extract h.size (s.size - n)), .func (.func 23) #[] #[]] w fun e w' => e = .returned (.int .i64 m) ∧ Drawn0 w w')
    (hyes : 1 ≤ m ∨ (m = 0 ∧ h.toList = [33]))
    (cC : ∀ w, Calls Try.prog 21 #[.string ((s.extract n s.size).extract h.size (m + h.size))] w fun e w' => e = .returned (.string ((s.extract n s.size).extract h.size (m + h.size))) ∧ Below w.heap.size w w')
    (cC1 : ∀ w, Calls Try.prog 21 #[.string h] w fun e w' => e = .returned (.string h) ∧ Below w.heap.size w w') :
    Calls Try.prog 9 #[.string s, .int .i64 n] w fun e w' => e = .returned (.tuple #[.agg #[.bool false, .string h, .string ((s.extract n s.size).extract h.size (m + h.size))], .int .i64 (n + (m + h.size)), .bool true]) ∧ Below w.heap.size w w' := by
  have hu := Try.underlying23
  have f3 : ((m : Int) + (h.size : Int)).toNat = m + h.size := by omega
  have f4 : (m : Int) + (h.size : Int) ≤ ((s.size - n : Nat) : Int) := by omega
  have f8 : IntKind.i64.wrap ((n : Int) + ((m : Int) + (h.size : Int))) = (n : Int) + ((m : Int) + (h.size : Int)) := IntWalk.i64_in _ (by omega)
  have f5 : (h.size : Int) ≤ (m : Int) + (h.size : Int) := by omega
  have f6 : (((m : Int) == 0) && (h.toList != [33])) = false := by
    rcases hyes with h1 | ⟨h1, h2⟩
    · rw [show ((m : Int) == 0) = false from by rw [beq_eq_false_iff_ne]; omega]; rfl
    · rw [h2]; simp
  clear hyes
  cases f7 : ((m : Int) == 0)
  all_goals (try (rw [f7, Bool.true_and] at f6; have f9 : (h.toList == [33]) = true := by simpa using f6))
  all_goals clear f6
  all_goals
    go_enter Try.func9, Try.ntmps9
    go_wp2_with (first | ((with_reducible refine (cH _).mono ?_); rintro e w' ⟨rfl, ⟨n1, rfl⟩⟩) | ((with_reducible refine (cA _).mono ?_); rintro e w' ⟨rfl, ⟨n3, rfl⟩⟩) | ((with_reducible refine (cR _).mono ?_); rintro e w' ⟨rfl, ⟨n2, rfl⟩⟩))
    go_region_with (first | ((with_reducible refine (cC _).mono ?_); rintro e wC ⟨rfl, hbC⟩; obtain ⟨hcC, hfC⟩ := bcell hbC; have hzC : w.heap.size < wC.heap.size := by { have := hbC.size; (try simp at this); omega }) | ((with_reducible refine (cC1 _).mono ?_); rintro e wD ⟨rfl, hbD⟩; obtain ⟨hcD, hfD⟩ := bcell hbD; have hzD : w.heap.size < wD.heap.size := by { have := hbD.size; (try simp at this); omega }))
    all_goals go_wp2
    all_goals
      exact bodyPost_ret (v := .tuple #[.agg #[.bool false, .string h, .string ((s.extract n s.size).extract h.size (m + h.size))], .int .i64 (n + (m + h.size)), .bool true]) (by simp [results, Try.results9, go_sem, hcC, hfC, hzC, hcD, hfD, hzD, f8]) rfl ⟨rfl, by repeat (first | exact ((below_drewN ((Below.refl _ w).alloc (Nat.le_refl _) _) _).trans (hbC.mono (by simp))).trans (hbD.mono (Nat.le_of_lt hzC)) | exact ((below_drewN ((Below.refl _ w).alloc (Nat.le_refl _) _) _).trans (hbD.mono (by simp))).trans (hbC.mono (Nat.le_of_lt hzD)) | refine Below.setCell ?_ (by simp) _)⟩

theorem tagname_handle.le {t h : ByteArray} (ht : t.size ≤ 140737488351232) (hh : tagname_handle.f t = some h) : 1 ≤ h.size ∧ h.size ≤ t.size := by
  unfold tagname_handle.f at hh
  split at hh
  · rename_i h1
    obtain ⟨m, hm, hh⟩ := Option.bind_eq_some_iff.1 hh
    have hl := tagname_row.le hm
    have e : (t.extract 1 t.size).size = t.size - 1 := by simp
    rw [e] at hl
    have e1 : wrap64 (1 + m) = 1 + m := by unfold wrap64; omega
    have e2 : wrap64 (wrap64 (1 + m) + 1) = 2 + m := by rw [e1]; unfold wrap64; omega
    rw [e1] at hh
    rw [e1] at e2
    rw [e2] at hh
    split at hh
    · split at hh
      · split at hh
        · split at hh
          · split at hh
            · obtain rfl := Option.some.inj hh
              simp
              omega
            · cases hh
          · cases hh
        · obtain rfl := Option.some.inj hh
          exact ⟨by decide, by show 1 ≤ _; omega⟩
      · cases hh
    · obtain rfl := Option.some.inj hh
      exact ⟨by decide, by show 1 ≤ _; omega⟩
  · cases hh

theorem strings_HasPrefix.le {t p : ByteArray} (h : strings_HasPrefix.f t p = some true) : p.size ≤ t.size := by
  unfold strings_HasPrefix.f stringslite_HasPrefix.f at h
  by_cases h1 : (t.size : Int) ≥ (p.size : Int)
  · omega
  · rw [if_neg h1] at h
    cases h

theorem tagname_Read.calls (a0 : ByteArray) (a1 : Int) (r1 : Bool) (r2 : ByteArray) (r3 : ByteArray) (r4 : Int) (r5 : Bool) (w : World) (h : tagname_Read.f a0 a1 = some (r1, r2, r3, r4, r5)) :
    Calls Try.prog 9 #[.string a0, .int .i64 a1] w fun e w' => e = .returned (.tuple #[.agg #[.bool r1, .string r2, .string r3], .int .i64 r4, .bool r5]) ∧ Below w.heap.size w w' := by
  have clone : ∀ (x : ByteArray), x.size ≤ 140737488351232 → ∀ w, Calls Try.prog 21 #[.string x] w fun e w' => e = .returned (.string x) ∧ Below w.heap.size w w' := fun x hx w => strings_Clone.calls x x w (by
    unfold strings_Clone.f stringslite_Clone.f
    rw [if_pos (by omega)]
    rfl)
  unfold tagname_Read.f at h
  split at h
  · rename_i hs
    split at h
    · rename_i hb
      obtain ⟨h0, h1, h2⟩ := hb
      obtain ⟨n, rfl⟩ : ∃ n : Nat, a1 = n := ⟨a1.toNat, by omega⟩
      have hlt : n < a0.size := by omega
      have h4 : ((a0[n].toNat : Int) != 33) = false := by
        rw [bne_eq_false_iff_eq]
        have h2' := h2
        simp only [bt, Int.toNat_natCast, hlt, dif_pos] at h2'
        exact h2'
      rw [Int.toNat_natCast] at h
      have hts : (a0.extract n a0.size).size = a0.size - n := by simp
      unfold tagname_Read.t at h
      obtain ⟨b, hb, h⟩ := Option.bind_eq_some_iff.1 h
      have cH : ∀ w, Calls Try.prog 18 #[.string (a0.extract n a0.size), .string ⟨#[33, 60]⟩] w fun e w' => e = .returned (.bool b) ∧ Drawn0 w w' := fun w => strings_HasPrefix.calls _ _ _ w hb
      cases b
      · rw [if_neg (by decide)] at h
        obtain ⟨hd, hhd, h⟩ := Option.bind_eq_some_iff.1 h
        obtain ⟨m, hm, h⟩ := Option.bind_eq_some_iff.1 h
        have hdl := tagname_handle.le (by omega) hhd
        have hml := tagname_row.le hm
        rw [hts] at hdl
        have e : ((a0.extract n a0.size).extract hd.size (a0.extract n a0.size).size).size = a0.size - n - hd.size := by simp
        rw [e] at hml
        obtain ⟨k, rfl⟩ : ∃ k : Nat, m = k := ⟨m.toNat, by omega⟩
        have cA : ∀ w, Calls Try.prog 22 #[.string (a0.extract n a0.size)] w fun e w' => e = .returned (.string hd) ∧ Drawn0 w w' := fun w => tagname_handle.calls _ _ w hhd
        have cR : ∀ w, Calls Try.prog 19 #[.string ((a0.extract n a0.size).extract hd.size (a0.size - n)), .func (.func 23) #[] #[]] w fun e w' => e = .returned (.int .i64 k) ∧ Drawn0 w w' := fun w => by
          have := tagname_row.calls _ _ _ w hm
          rw [hts] at this
          exact this
        by_cases hno : (k : Int) = 0 ∧ hd.toList ≠ [33]
        · rw [if_pos hno] at h
          simp only [none5, Option.some.injEq, Prod.mk.injEq] at h
          obtain ⟨rfl, rfl, rfl, rfl, rfl⟩ := h
          exact Read_short_no a0 hd n k w hs hlt h4 hdl.1 hdl.2 (by omega) cH cA cR (by omega) (by rw [beq_eq_false_iff_ne]; exact hno.2)
        · rw [if_neg hno] at h
          simp only [none5, Option.some.injEq, Prod.mk.injEq] at h
          obtain ⟨rfl, rfl, rfl, rfl, rfl⟩ := h
          have et : ((k : Int) + (hd.size : Int)).toNat = k + hd.size := by omega
          rw [et]
          refine Read_short_yes a0 hd n k w hs hlt h4 hdl.1 hdl.2 (by omega) cH cA cR ?_ (clone _ (by simp; omega)) (clone _ (by omega))
          by_cases hk : k = 0
          · exact .inr ⟨hk, Classical.byContradiction fun hc => hno ⟨by omega, hc⟩⟩
          · exact .inl (by omega)
      · rw [if_pos rfl] at h
        obtain ⟨m, hm, h⟩ := Option.bind_eq_some_iff.1 h
        have h2l := strings_HasPrefix.le hb
        rw [hts] at h2l
        have h2l' : 2 ≤ a0.size - n := h2l
        have hml := tagname_row.le hm
        have e : ((a0.extract n a0.size).extract 2 (a0.extract n a0.size).size).size = a0.size - n - 2 := by simp
        rw [e] at hml
        obtain ⟨k, rfl⟩ : ∃ k : Nat, m = k := ⟨m.toNat, by omega⟩
        have cR : ∀ w, Calls Try.prog 19 #[.string ((a0.extract n a0.size).extract 2 (a0.size - n)), .func (.func 20) #[] #[]] w fun e w' => e = .returned (.int .i64 k) ∧ Drawn0 w w' := fun w => by
          have := tagname_row.calls _ _ _ w hm
          rw [hts] at this
          exact this
        have ebt : ∀ hk : 2 + k < (a0.extract n a0.size).size, bt (a0.extract n a0.size) (2 + (k : Int)) = (((a0.extract n a0.size)[2 + k]).toNat : Int) := by
          intro hk
          have e2 : (2 + (k : Int)).toNat = 2 + k := by omega
          unfold bt
          simp only [e2, hk, dif_pos]
        by_cases hno : (k : Int) = 0 ∨ 2 + (k : Int) = ((a0.extract n a0.size).size : Int) ∨ bt (a0.extract n a0.size) (2 + (k : Int)) ≠ 62
        · rw [if_pos hno] at h
          simp only [none5, Option.some.injEq, Prod.mk.injEq] at h
          obtain ⟨rfl, rfl, rfl, rfl, rfl⟩ := h
          refine Read_verb_no a0 n k w hs hlt h4 h2l' (by omega) cH cR ?_
          by_cases hk0 : k = 0
          · exact .inl hk0
          · by_cases hk1 : 2 + k = a0.size - n
            · exact .inr (.inl hk1)
            · refine .inr (.inr ⟨by rw [hts]; omega, ?_⟩)
              rw [bne_iff_ne]
              rcases hno with h5 | h5 | h5
              · exact absurd h5 (by omega)
              · rw [hts] at h5
                exact absurd h5 (by omega)
              · rw [ebt (by rw [hts]; omega)] at h5
                exact h5
        · rw [if_neg hno] at h
          simp only [none5, Option.some.injEq, Prod.mk.injEq] at h
          obtain ⟨rfl, rfl, rfl, rfl, rfl⟩ := h
          have hk0 : k ≠ 0 := fun e => hno (.inl (by omega))
          have hk1 : 2 + k ≠ a0.size - n := fun e => hno (.inr (.inl (by rw [hts]; omega)))
          have hk2 : bt (a0.extract n a0.size) (2 + (k : Int)) = 62 := Classical.byContradiction fun e => hno (.inr (.inr e))
          have et : (2 + (k : Int)).toNat = 2 + k := by omega
          rw [et]
          have hb2 : 2 + k < (a0.extract n a0.size).size := by rw [hts]; omega
          exact Read_verb_yes a0 n k w hs hlt h4 h2l' (by omega) cH cR (by omega) (by omega) hb2 (by rw [bne_eq_false_iff_eq, ← ebt hb2]; exact hk2) (clone _ (by simp; omega))
    · rename_i hb
      simp only [none5, Option.some.injEq, Prod.mk.injEq] at h
      obtain ⟨rfl, rfl, rfl, rfl, rfl⟩ := h
      exact tagname_Read.no a0 a1 w hs hb
  · cases h


/-! ### tagname_Expand: function 11 -/

def tagname_Expand.f (a0_0 : Bool) (a0_1 : ByteArray) (a0_2 : ByteArray) (l1 : List (S39)) : Option (ByteArray × Bool) := if l1.length ≤ 9223372036854775807 then expandF a0_0 a0_1 a0_2 (l1.map fun x => (x.f0, x.f1)) else none
theorem tagname_Expand.calls (a0_0 : Bool) (a0_1 : ByteArray) (a0_2 : ByteArray) (A1 : Option Addr) (c1 : Nat) (l1 : List (S39)) (r1 : ByteArray) (r2 : Bool) (w : World) (hr1 : Kd.C k39 w A1 l1.length l1) (hc1 : l1.length ≤ c1) (h : tagname_Expand.f a0_0 a0_1 a0_2 l1 = some (r1, r2)) :
    Calls Try.prog 11 #[.agg #[.bool a0_0, .string a0_1, .string a0_2], .slice A1 l1.length c1] w fun e w' => e = .returned (.tuple #[.string r1, .bool r2]) ∧ Below w.heap.size w w' := by
  unfold tagname_Expand.f at h
  split at h
  · rename_i hs
    have e : (l1.map fun x => (x.f0, x.f1)).length = l1.length := by simp
    rw [← e]
    refine expand_any a0_0 a0_1 a0_2 A1 c1 _ w (by simpa using hs) (fun i hi => ?_) r1 r2 h
    have hi' : i < l1.length := by simpa using hi
    obtain ⟨ad, rfl, h1, h2⟩ := at_T39 hr1 (i : Int) (by omega) (by omega)
    refine ⟨ad, rfl, ?_, ?_⟩
    · rw [show (rd_T39 l1 (i : Int)) = l1[i] from by unfold rd_T39; simp [hi', List.getD]] at h1
      simpa using h1
    · rw [show (rd_T39 l1 (i : Int)) = l1[i] from by unfold rd_T39; simp [hi', List.getD]] at h2
      simpa using h2
  · cases h


/-! ### tagname_Good: function 13 -/
def tagname_Good.f (a0 : ByteArray) : Option (Bool) := if a0.toList = ([] : List UInt8) then (some false) else ((tagname_row.f a0 (.func (.func 20) #[] #[] : Value)).bind fun t109 => (some (t109 == (a0.size : Int))))
set_option maxHeartbeats 8000000 in
set_option maxRecDepth 100000 in
theorem tagname_Good.calls (a0 : ByteArray) (r : Bool) (w : World) (h : tagname_Good.f a0 = some r) :
    Calls Try.prog 13 #[.string a0] w fun e w' => e = .returned (.bool r) ∧ Drawn0 w w' := by
  have H : (if a0.toList = ([] : List UInt8) then (some false) else ((tagname_row.f a0 (.func (.func 20) #[] #[] : Value)).bind fun t109 => (some (t109 == (a0.size : Int))))) = some r := h
  clear h
  by_cases c2 : a0.toList = ([] : List UInt8)
  · rw [if_pos c2] at H
    have c2b0 : (a0.toList == ([] : List UInt8)) = true := beq_iff_eq.mpr c2
    have c2b1 : (a0.toList != ([] : List UInt8)) = false := bne_eq_false_iff_eq.mpr c2
    clear c2
    obtain rfl := Option.some.inj H
    go_enter Try.func13, Try.ntmps13
    go_wp2
    go_ret
    exact ⟨by first | rfl | (simp; done) | (simp [*]; done), by repeat (first | exact Drawn0.refl _ | apply Drawn0.step)⟩
  · rw [if_neg c2] at H
    have c2b0 : (a0.toList == ([] : List UInt8)) = false := beq_eq_false_iff_ne.mpr c2
    have c2b1 : (a0.toList != ([] : List UInt8)) = true := bne_iff_ne.mpr c2
    replace H := Option.bind_eq_some_iff.mp H
    obtain ⟨t109, A30, H⟩ := H
    replace H : (some (t109 == (a0.size : Int))) = some r := H
    have A3 := Aside0.mk A30
    clear A30
    obtain rfl := Option.some.inj H
    go_enter Try.func13, Try.ntmps13
    go_wp2_with (first | (go_at_call 19; (with_reducible refine (tagname_row.calls a0 (.func (.func 20) #[] #[] : Value) t109 _ A3.out).mono ?_); rintro e w' ⟨rfl, ⟨nd, rfl⟩⟩))
    go_ret
    exact ⟨by first | rfl | (simp; done) | (simp [*]; done), by repeat (first | exact Drawn0.refl _ | apply Drawn0.step)⟩

/-! ### tagname_Write: function 15 -/

def tagname_Write.f (a0 : ByteArray) : Option (ByteArray) := if a0.size ≤ 140737488351232 then (tagname_Good.f a0).map fun b => if b = true then ((⟨#[33, 60]⟩ : ByteArray) ++ a0) ++ (⟨#[62]⟩ : ByteArray) else ⟨#[]⟩ else none
theorem tagname_Write.calls (a0 : ByteArray) (r : ByteArray) (w : World) (h : tagname_Write.f a0 = some r) :
    Calls Try.prog 15 #[.string a0] w fun e w' => e = .returned (.string r) ∧ Drawn0 w w' := by
  unfold tagname_Write.f at h
  split at h
  · rename_i hs
    obtain ⟨b, hb, rfl⟩ := Option.map_eq_some_iff.1 h
    clear h
    have cG : ∀ w, Calls Try.prog 13 #[.string a0] w fun e w' => e = .returned (.bool b) ∧ Drawn0 w w' := fun w => tagname_Good.calls a0 b w hb
    clear hb
    cases b
    · rw [if_neg (by decide)]
      go_enter Try.func15, Try.ntmps15
      go_wp2_with ((with_reducible refine (cG _).mono ?_); rintro e w' ⟨rfl, ⟨n1, rfl⟩⟩)
      go_ret
      exact ⟨rfl, ⟨n1, rfl⟩⟩
    · rw [if_pos rfl]
      go_enter Try.func15, Try.ntmps15
      go_wp2_with ((with_reducible refine (cG _).mono ?_); rintro e w' ⟨rfl, ⟨n1, rfl⟩⟩)
      go_ret
      exact ⟨rfl, ⟨n1, rfl⟩⟩
  · cases h


end Go.Proofs.Ytmceepmchfjinaa.Q
