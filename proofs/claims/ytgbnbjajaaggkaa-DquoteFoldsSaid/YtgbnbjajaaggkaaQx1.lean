-- Written by hookprint.py (a program of this project, over the kit's printer). Not trusted: Lean checks it.
import Derived.Test.YtgbnbjajaaggkaaQx0
namespace Go.Proofs.Ytgbnbjajaaggkaa.Q
open Go.RowKit Go.Proofs.YtgbnbjajaaggkaaW.PrintWords Go.Proofs.YtgbnbjajaaggkaaW.PrintLast Go.Proofs.YtgbnbjajaaggkaaW.PrintMore
attribute [local go_sem] max2_int min2_int max_two min_two max_three min_three max_four min_four   -- for this text's walks alone
set_option linter.unusedVariables false
set_option linter.unusedSimpArgs false

/-! ### rows_Blank: function 39 -/
def rows_Blank.f (a0 : ByteArray) (a1 : Int) : Option (Bool) := if a1 ≥ 0 then (if a1 < (a0.size : Int) then (if 0 ≤ a1 then (if (bt a0 a1) = 32 then (some true) else (some ((bt a0 a1) == 9))) else (none)) else (some false)) else (some false)
set_option maxHeartbeats 8000000 in
set_option maxRecDepth 100000 in
theorem rows_Blank.calls (a0 : ByteArray) (a1 : Int) (r : Bool) (w : World) (h : rows_Blank.f a0 a1 = some r) :
    Calls Try.prog 39 #[.string a0, .int .i64 a1] w fun e w' => e = .returned (.bool r) ∧ Drawn0 w w' := by
  have H : (if a1 ≥ 0 then (if a1 < (a0.size : Int) then (if 0 ≤ a1 then (if (bt a0 a1) = 32 then (some true) else (some ((bt a0 a1) == 9))) else (none)) else (some false)) else (some false)) = some r := h
  clear h
  by_cases c3 : a1 ≥ 0
  · rw [if_pos c3] at H
    have c3b0 : decide (0 ≤ a1) = true := decide_eq_true c3
    clear c3
    by_cases c4 : a1 < (a0.size : Int)
    · rw [if_pos c4] at H
      have c4b0 : decide (a1 < (a0.size : Int)) = true := decide_eq_true c4
      clear c4
      by_cases c5 : 0 ≤ a1
      · rw [if_pos c5] at H
        have c5b0 : decide (0 ≤ a1) = true := decide_eq_true c5
        clear c5
        by_cases c7 : (bt a0 a1) = 32
        · rw [if_pos c7] at H
          have c7b0 : ((bt a0 a1) == 32) = true := beq_iff_eq.mpr c7
          have c7b1 : ((bt a0 a1) != 32) = false := bne_eq_false_iff_eq.mpr c7
          clear c7
          obtain rfl := Option.some.inj H
          have p6 : 0 ≤ (a1 : Int) := of_decide_eq_true (by first | (with_reducible assumption) | assumption)
          have q6 : a1 < (a0.size : Int) := of_decide_eq_true (by first | (with_reducible assumption) | assumption)
          have hx6 := bt_at a0 a1
          replace p6 := eq_true p6
          replace q6 := eq_true q6
          go_enter Try.func39, Try.ntmps39
          go_wp2
          go_ret
          exact ⟨by first | rfl | (simp; done) | (simp [*]; done), by repeat (first | exact Drawn0.refl _ | apply Drawn0.step)⟩
        · rw [if_neg c7] at H
          have c7b0 : ((bt a0 a1) == 32) = false := beq_eq_false_iff_ne.mpr c7
          have c7b1 : ((bt a0 a1) != 32) = true := bne_iff_ne.mpr c7
          obtain rfl := Option.some.inj H
          have p6 : 0 ≤ (a1 : Int) := of_decide_eq_true (by first | (with_reducible assumption) | assumption)
          have q6 : a1 < (a0.size : Int) := of_decide_eq_true (by first | (with_reducible assumption) | assumption)
          have hx6 := bt_at a0 a1
          replace p6 := eq_true p6
          replace q6 := eq_true q6
          have p8 : 0 ≤ (a1 : Int) := of_decide_eq_true (by first | (with_reducible assumption) | assumption)
          have q8 : a1 < (a0.size : Int) := of_decide_eq_true (by first | (with_reducible assumption) | assumption)
          have hx8 := bt_at a0 a1
          replace p8 := eq_true p8
          replace q8 := eq_true q8
          go_enter Try.func39, Try.ntmps39
          go_wp2
          go_ret
          exact ⟨by first | rfl | (simp; done) | (simp [*]; done), by repeat (first | exact Drawn0.refl _ | apply Drawn0.step)⟩
      · rw [if_neg c5] at H
        exact absurd H (by simp)
    · rw [if_neg c4] at H
      have c4b0 : decide (a1 < (a0.size : Int)) = false := decide_eq_false c4
      clear c4
      obtain rfl := Option.some.inj H
      go_enter Try.func39, Try.ntmps39
      go_wp2
      go_ret
      exact ⟨by first | rfl | (simp; done) | (simp [*]; done), by repeat (first | exact Drawn0.refl _ | apply Drawn0.step)⟩
  · rw [if_neg c3] at H
    have c3b0 : decide (0 ≤ a1) = false := decide_eq_false c3
    clear c3
    obtain rfl := Option.some.inj H
    go_enter Try.func39, Try.ntmps39
    go_wp2
    go_ret
    exact ⟨by first | rfl | (simp; done) | (simp [*]; done), by repeat (first | exact Drawn0.refl _ | apply Drawn0.step)⟩

/-! ### rows_Over: function 30 -/
def rows_Over.l0 : Nat → ByteArray → Int → Option (Int)
  | 0, _, _ => none
  | k + 1, x0, x1 => (rows_Blank.f x0 x1).bind fun t101 => (if t101 = true then (rows_Over.l0 k x0 (wrap64 (x1 + 1))) else (some x1))
def rows_Over.f (k : Nat) (a0 : ByteArray) (a1 : Int) : Option (Int) := rows_Over.l0 k a0 a1
theorem rows_Over.mono_l : ∀ k, (∀ y0 y1, LeO (rows_Over.l0 k y0 y1) (rows_Over.l0 (k + 1) y0 y1))
  | 0 => fun _ _ r h => by simp [rows_Over.l0] at h
  | k + 1 => by
    have ih0 := rows_Over.mono_l k
    · intro y0 y1
      unfold rows_Over.l0
      repeat' first
      | (with_reducible exact ih0 _ _)
      | (with_reducible exact LeO.refl _)
      | (with_reducible exact LeO.none _)
      | (with_reducible refine LeO.ite ?_ ?_)
      | (with_reducible refine LeO.bind ?_ (fun _ => ?_))
      | exact ih0 _ _
      | exact LeO.none _
      | refine LeO.ite ?_ ?_
      | refine LeO.bind ?_ (fun _ => ?_)
theorem rows_Over.mono : ∀ a0 a1 k, LeO (rows_Over.f k a0 a1) (rows_Over.f (k + 1) a0 a1) := by
  intro a0 a1 k
  have ih0 := rows_Over.mono_l k
  unfold rows_Over.f
  repeat' first
      | (with_reducible exact ih0 _ _)
      | (with_reducible exact LeO.refl _)
      | (with_reducible exact LeO.none _)
      | (with_reducible refine LeO.ite ?_ ?_)
      | (with_reducible refine LeO.bind ?_ (fun _ => ?_))
      | exact ih0 _ _
      | exact LeO.none _
      | refine LeO.ite ?_ ?_
      | refine LeO.bind ?_ (fun _ => ?_)
set_option maxHeartbeats 8000000 in
set_option maxRecDepth 100000 in
theorem rows_Over.calls (k : Nat) (a0 : ByteArray) (a1 : Int) (r : Int) (w : World) (h : rows_Over.f k a0 a1 = some r) :
    Calls Try.prog 30 #[.string a0, .int .i64 a1] w fun e w' => e = .returned (.int .i64 r) ∧ Drawn0 w w' := by
  have H : (rows_Over.l0 k a0 a1) = some r := h
  clear h
  have H' := Aside0.mk H
  clear H
  go_enter Try.func30, Try.ntmps30
  go_wp2
  go_loopg [1] k (fun kq v1 w' => ∃ (x1_1 : Int), v1 = .int .i64 x1_1 ∧ Aside0 (rows_Over.l0 kq a0 x1_1 = some r) ∧ Aside0 (kq ≤ k) ∧ Drawn0 w w')
  case atStart => exact ⟨(a1), (by first | rfl | (simp; done) | (simp [*]; done)), H', ⟨Nat.le_refl _⟩, by repeat (first | exact Drawn0.refl _ | apply Drawn0.step)⟩
  case round =>
    clear H'
    (try clear p2)
    obtain ⟨x1_1, rfl, HA, HK1, ⟨m1, rfl⟩⟩ := hrel
    cases gk with
    | zero => exact absurd HA.out (by simp [rows_Over.l0])
    | succ k1 =>
      have H := HA.out
      clear HA
      simp only [rows_Over.l0] at H
      replace H := Option.bind_eq_some_iff.mp H
      obtain ⟨t101, A30, H⟩ := H
      replace H : (if t101 = true then (rows_Over.l0 k1 a0 (wrap64 (x1_1 + 1))) else (some x1_1)) = some r := H
      have A3 := Aside0.mk A30
      clear A30
      by_cases c4 : t101 = true
      · subst c4
        have H1 : (rows_Over.l0 k1 a0 (wrap64 (x1_1 + 1))) = some r := by rw [if_pos rfl] at H; exact H
        clear H
        have H := H1
        clear H1
        have H' := Aside0.mk H
        clear H
        go_wp2_with (first | ((with_reducible refine gate_callee (f := 39) rfl ?_); refine goesL_ (some 7) rfl rfl Try.func39 (by kernel_rfl) rfl #[.string a0, .int .i64 x1_1] rfl (by (try simp only [List.map_toArray, List.map_cons, List.map_nil]); first | done | rfl | (simp only [List.length_drop, List.length_take]; rfl)) ?_; (with_reducible refine (rows_Blank.calls a0 x1_1 true _ A3.out).mono ?_); rintro e w' ⟨rfl, ⟨nd, rfl⟩⟩; refine ⟨_, rfl, ?_⟩))
        go_roundg k1
        case measure => have := HK1.out; omega
        case rel => exact ⟨(wrap64 (x1_1 + 1)), (by first | rfl | (simp; done) | (simp [*]; done)), H', ⟨by have := HK1.out; omega⟩, by repeat (first | exact Drawn0.refl _ | apply Drawn0.step)⟩
      · replace c4 := Bool.eq_false_iff.mpr c4
        subst c4
        have H1 : (some x1_1) = some r := by rw [if_neg (show ¬ (false = true) by decide)] at H; exact H
        clear H
        have H := H1
        clear H1
        obtain rfl := Option.some.inj H
        go_wp2_with (first | ((with_reducible refine gate_callee (f := 39) rfl ?_); refine goesL_ (some 7) rfl rfl Try.func39 (by kernel_rfl) rfl #[.string a0, .int .i64 x1_1] rfl (by (try simp only [List.map_toArray, List.map_cons, List.map_nil]); first | done | rfl | (simp only [List.length_drop, List.length_take]; rfl)) ?_; (with_reducible refine (rows_Blank.calls a0 x1_1 false _ A3.out).mono ?_); rintro e w' ⟨rfl, ⟨nd, rfl⟩⟩; refine ⟨_, rfl, ?_⟩))
        go_ret
        exact ⟨by first | rfl | (simp; done) | (simp [*]; done), by repeat (first | exact Drawn0.refl _ | apply Drawn0.step)⟩

/-! ### stringslite_HasPrefix: function 52 -/
def stringslite_HasPrefix.f (a0 : ByteArray) (a1 : ByteArray) : Option (Bool) := if (a0.size : Int) ≥ (a1.size : Int) then (if 0 ≤ (a1.size : Int) then (if (a1.size : Int) ≤ (a0.size : Int) then (some ((a0.extract 0 ((a1.size : Int) : Int).toNat).toList == a1.toList)) else (none)) else (none)) else (some false)
set_option maxHeartbeats 8000000 in
set_option maxRecDepth 100000 in
theorem stringslite_HasPrefix.calls (a0 : ByteArray) (a1 : ByteArray) (r : Bool) (w : World) (h : stringslite_HasPrefix.f a0 a1 = some r) :
    Calls Try.prog 52 #[.string a0, .string a1] w fun e w' => e = .returned (.bool r) ∧ Drawn0 w w' := by
  have H : (if (a0.size : Int) ≥ (a1.size : Int) then (if 0 ≤ (a1.size : Int) then (if (a1.size : Int) ≤ (a0.size : Int) then (some ((a0.extract 0 ((a1.size : Int) : Int).toNat).toList == a1.toList)) else (none)) else (none)) else (some false)) = some r := h
  clear h
  by_cases c3 : (a0.size : Int) ≥ (a1.size : Int)
  · rw [if_pos c3] at H
    have c3b0 : decide ((a1.size : Int) ≤ (a0.size : Int)) = true := decide_eq_true c3
    have c3b1 : decide (a1.size ≤ a0.size) = true := decide_eq_true (Int.ofNat_le.mp c3)
    clear c3
    by_cases c4 : 0 ≤ (a1.size : Int)
    · rw [if_pos c4] at H
      have c4b0 := eq_true c4
      have c4b1 : decide (0 ≤ (a1.size : Int)) = true := decide_eq_true c4
      clear c4
      by_cases c5 : (a1.size : Int) ≤ (a0.size : Int)
      · rw [if_pos c5] at H
        have c5b0 := eq_true c5
        have c5b1 : decide ((a1.size : Int) ≤ (a0.size : Int)) = true := decide_eq_true c5
        clear c5
        obtain rfl := Option.some.inj H
        go_enter Try.func52, Try.ntmps52
        go_wp2
        go_ret
        exact ⟨by first | rfl | (simp; done) | (simp [*]; done), by repeat (first | exact Drawn0.refl _ | apply Drawn0.step)⟩
      · rw [if_neg c5] at H
        exact absurd H (by simp)
    · rw [if_neg c4] at H
      exact absurd H (by simp)
  · rw [if_neg c3] at H
    have c3b0 : decide ((a1.size : Int) ≤ (a0.size : Int)) = false := decide_eq_false c3
    have c3b1 : decide (a1.size ≤ a0.size) = false := decide_eq_false (fun h => c3 (Int.ofNat_le.mpr h))
    clear c3
    obtain rfl := Option.some.inj H
    go_enter Try.func52, Try.ntmps52
    go_wp2
    go_ret
    exact ⟨by first | rfl | (simp; done) | (simp [*]; done), by repeat (first | exact Drawn0.refl _ | apply Drawn0.step)⟩

/-! ### strings_HasPrefix: function 40 -/
def strings_HasPrefix.f (a0 : ByteArray) (a1 : ByteArray) : Option (Bool) := (stringslite_HasPrefix.f a0 a1).bind fun t102 => (some t102)
set_option maxHeartbeats 8000000 in
set_option maxRecDepth 100000 in
theorem strings_HasPrefix.calls (a0 : ByteArray) (a1 : ByteArray) (r : Bool) (w : World) (h : strings_HasPrefix.f a0 a1 = some r) :
    Calls Try.prog 40 #[.string a0, .string a1] w fun e w' => e = .returned (.bool r) ∧ Drawn0 w w' := by
  have H : ((stringslite_HasPrefix.f a0 a1).bind fun t102 => (some t102)) = some r := h
  clear h
  replace H := Option.bind_eq_some_iff.mp H
  obtain ⟨t102, A30, H⟩ := H
  replace H : (some t102) = some r := H
  have A3 := Aside0.mk A30
  clear A30
  obtain rfl := Option.some.inj H
  go_enter Try.func40, Try.ntmps40
  go_wp2_with (first | ((with_reducible refine gate_callee (f := 52) rfl ?_); refine goesL_ (some 7) rfl rfl Try.func52 (by kernel_rfl) rfl #[.string a0, .string a1] rfl (by (try simp only [List.map_toArray, List.map_cons, List.map_nil]); first | done | rfl | (simp only [List.length_drop, List.length_take]; rfl)) ?_; (with_reducible refine (stringslite_HasPrefix.calls a0 a1 t102 _ A3.out).mono ?_); rintro e w' ⟨rfl, ⟨nd, rfl⟩⟩; refine ⟨_, rfl, ?_⟩))
  go_ret
  exact ⟨by first | rfl | (simp; done) | (simp [*]; done), by repeat (first | exact Drawn0.refl _ | apply Drawn0.step)⟩

/-! ### brk_Break: function 31 -/
/-- How many bytes a break has with which bytes begin. -/
def brkL (old : Bool) : List UInt8 → Nat
  | [] => 0
  | c :: l =>
    if c = 13 then (if l.head? = some 10 then 2 else 1)
    else if c = 10 then 1
    else if old = true ∧ c = 194 ∧ l.head? = some 133 then 2
    else if old = true ∧ c = 226 ∧ (l.take 2 = [128, 168] ∨ l.take 2 = [128, 169]) then 3
    else 0
def brk_Break.f (a0 : Int) (a1 : ByteArray) (a2 : Int) : Option Int :=
  if a1.size ≤ 140737488351232 then some (if 0 ≤ a2 then (brkL (a0 == 11) (a1.data.toList.drop a2.toNat) : Nat) else 0) else none

theorem brk_Break.cases_old (c : UInt8) (l : List UInt8) : (brkL true (c :: l) : Nat) = if Lib.hasPrefix (c :: l) [226, 128, 168] = true ∨ Lib.hasPrefix (c :: l) [226, 128, 169] = true then 3 else if Lib.hasPrefix (c :: l) [194, 133] = true ∨ Lib.hasPrefix (c :: l) [13, 10] = true then 2 else if c = 13 ∨ c = 10 then 1 else 0 := by
  unfold brkL Lib.hasPrefix
  rcases l with _ | ⟨d, _ | ⟨e, l⟩⟩
  · by_cases h1 : c = 13 <;> by_cases h2 : c = 10 <;> simp_all
  · by_cases h1 : c = 13 <;> by_cases h2 : c = 10 <;> by_cases h3 : c = 194 <;> simp_all <;> grind
  · by_cases h1 : c = 13 <;> by_cases h2 : c = 10 <;> by_cases h3 : c = 194 <;> by_cases h4 : c = 226 <;> simp_all <;> grind
theorem brk_Break.cases_new (c : UInt8) (l : List UInt8) : (brkL false (c :: l) : Nat) = if Lib.hasPrefix (c :: l) [13, 10] = true then 2 else if c = 13 ∨ c = 10 then 1 else 0 := by
  unfold brkL Lib.hasPrefix
  rcases l with _ | ⟨d, l⟩
  · by_cases h1 : c = 13 <;> by_cases h2 : c = 10 <;> simp_all
  · by_cases h1 : c = 13 <;> by_cases h2 : c = 10 <;> simp_all <;> grind
theorem brk_Break.out (a0 : Int) (a1 : ByteArray) (a2 : Int) (w : World) (hs : a1.size ≤ 140737488351232) (h : a2 < 0 ∨ (a1.size : Int) ≤ a2) :
    Calls Try.prog 31 #[.int .i64 a0, .string a1, .int .i64 a2] w fun e w' => e = .returned (.int .i64 0) ∧ w' = w := by
  rcases h with h | h
  · go_enter Try.func31, Try.ntmps31
    go_wp2
    go_ret
    exact ⟨rfl, rfl⟩
  · by_cases h0 : a2 < 0
    · clear h
      go_enter Try.func31, Try.ntmps31
      go_wp2
      go_ret
      exact ⟨rfl, rfl⟩
    · have h1 : 0 ≤ a2 := by omega
      clear h0
      go_enter Try.func31, Try.ntmps31
      go_wp2
      go_ret
      exact ⟨rfl, rfl⟩
set_option maxHeartbeats 8000000 in
theorem brk_Break.walk (v : Int) (s : ByteArray) (n : Nat) (w : World) (hs : s.size ≤ 140737488351232) (hn : n < s.size) (b1 b2 b3 b4 c1 c2 : Bool)
    (h1 : ∀ w, Calls Try.prog 40 #[.string (s.extract n s.size), .string ⟨#[226, 128, 168]⟩] w fun e w' => e = .returned (.bool b1) ∧ w' = w)
    (h2 : ∀ w, Calls Try.prog 40 #[.string (s.extract n s.size), .string ⟨#[226, 128, 169]⟩] w fun e w' => e = .returned (.bool b2) ∧ w' = w)
    (h3 : ∀ w, Calls Try.prog 40 #[.string (s.extract n s.size), .string ⟨#[194, 133]⟩] w fun e w' => e = .returned (.bool b3) ∧ w' = w)
    (h4 : ∀ w, Calls Try.prog 40 #[.string (s.extract n s.size), .string ⟨#[13, 10]⟩] w fun e w' => e = .returned (.bool b4) ∧ w' = w)
    (hz : 0 < (s.extract n s.size).size) (hc1 : (((s.extract n s.size)[0].toNat : Int) == 13) = c1) (hc2 : (((s.extract n s.size)[0].toNat : Int) == 10) = c2) :
    Calls Try.prog 31 #[.int .i64 v, .string s, .int .i64 n] w fun e w' => e = .returned (.int .i64 (if v = 11 ∧ (b1 = true ∨ b2 = true) then 3 else if (v = 11 ∧ b3 = true) ∨ b4 = true then 2 else if c1 = true ∨ c2 = true then 1 else 0)) ∧ w' = w := by
  have hn' : (n : Int) ≤ s.size := by omega
  by_cases hv : v = 11
  · subst hv
    cases b1
    · cases b2
      · cases b3
        · cases b4
          · cases c1
            · cases c2
              all_goals
                simp only [true_and, Bool.false_eq_true, or_false, false_or, if_false, if_true]
                go_enter Try.func31, Try.ntmps31
                go_wp2_with (first | ((with_reducible refine (h1 _).mono ?_); rintro e w' ⟨rfl, rfl⟩) | ((with_reducible refine (h2 _).mono ?_); rintro e w' ⟨rfl, rfl⟩) | ((with_reducible refine (h3 _).mono ?_); rintro e w' ⟨rfl, rfl⟩) | ((with_reducible refine (h4 _).mono ?_); rintro e w' ⟨rfl, rfl⟩))
                go_ret
                exact ⟨rfl, rfl⟩
            · simp only [true_and, Bool.false_eq_true, or_false, false_or, true_or, if_false, if_true]
              go_enter Try.func31, Try.ntmps31
              go_wp2_with (first | ((with_reducible refine (h1 _).mono ?_); rintro e w' ⟨rfl, rfl⟩) | ((with_reducible refine (h2 _).mono ?_); rintro e w' ⟨rfl, rfl⟩) | ((with_reducible refine (h3 _).mono ?_); rintro e w' ⟨rfl, rfl⟩) | ((with_reducible refine (h4 _).mono ?_); rintro e w' ⟨rfl, rfl⟩))
              go_ret
              exact ⟨rfl, rfl⟩
          · clear hc1 hc2
            simp only [true_and, Bool.false_eq_true, or_false, false_or, true_or, if_false, if_true]
            go_enter Try.func31, Try.ntmps31
            go_wp2_with (first | ((with_reducible refine (h1 _).mono ?_); rintro e w' ⟨rfl, rfl⟩) | ((with_reducible refine (h2 _).mono ?_); rintro e w' ⟨rfl, rfl⟩) | ((with_reducible refine (h3 _).mono ?_); rintro e w' ⟨rfl, rfl⟩) | ((with_reducible refine (h4 _).mono ?_); rintro e w' ⟨rfl, rfl⟩))
            go_ret
            exact ⟨rfl, rfl⟩
        · clear hc1 hc2 h4
          simp only [true_and, Bool.false_eq_true, or_false, false_or, true_or, if_false, if_true]
          go_enter Try.func31, Try.ntmps31
          go_wp2_with (first | ((with_reducible refine (h1 _).mono ?_); rintro e w' ⟨rfl, rfl⟩) | ((with_reducible refine (h2 _).mono ?_); rintro e w' ⟨rfl, rfl⟩) | ((with_reducible refine (h3 _).mono ?_); rintro e w' ⟨rfl, rfl⟩))
          go_ret
          exact ⟨rfl, rfl⟩
      · clear hc1 hc2 h4 h3
        simp only [true_and, Bool.false_eq_true, or_false, false_or, true_or, if_false, if_true]
        go_enter Try.func31, Try.ntmps31
        go_wp2_with (first | ((with_reducible refine (h1 _).mono ?_); rintro e w' ⟨rfl, rfl⟩) | ((with_reducible refine (h2 _).mono ?_); rintro e w' ⟨rfl, rfl⟩))
        go_ret
        exact ⟨rfl, rfl⟩
    · clear hc1 hc2 h4 h3 h2
      simp only [true_and, Bool.false_eq_true, or_false, false_or, true_or, if_false, if_true]
      go_enter Try.func31, Try.ntmps31
      go_wp2_with ((with_reducible refine (h1 _).mono ?_); rintro e w' ⟨rfl, rfl⟩)
      go_ret
      exact ⟨rfl, rfl⟩
  · clear h1 h2 h3
    simp only [hv, false_and, false_or, if_false]
    have hv1 : (v == 11) = false := by rw [beq_eq_false_iff_ne]; exact hv
    clear hv
    cases b4
    · cases c1
      · cases c2
        all_goals
          simp only [Bool.false_eq_true, or_false, false_or, if_false, if_true]
          go_enter Try.func31, Try.ntmps31
          go_wp2_with ((with_reducible refine (h4 _).mono ?_); rintro e w' ⟨rfl, rfl⟩)
          go_ret
          exact ⟨rfl, rfl⟩
      · simp only [Bool.false_eq_true, or_false, false_or, true_or, if_false, if_true]
        go_enter Try.func31, Try.ntmps31
        go_wp2_with ((with_reducible refine (h4 _).mono ?_); rintro e w' ⟨rfl, rfl⟩)
        go_ret
        exact ⟨rfl, rfl⟩
    · clear hc1 hc2
      simp only [if_true]
      go_enter Try.func31, Try.ntmps31
      go_wp2_with ((with_reducible refine (h4 _).mono ?_); rintro e w' ⟨rfl, rfl⟩)
      go_ret
      exact ⟨rfl, rfl⟩
theorem brk_Break.calls (a0 : Int) (a1 : ByteArray) (a2 : Int) (r : Int) (w : World) (h : brk_Break.f a0 a1 a2 = some r) :
    Calls Try.prog 31 #[.int .i64 a0, .string a1, .int .i64 a2] w fun e w' => e = .returned (.int .i64 r) ∧ Drawn0 w w' := by
  unfold brk_Break.f at h
  split at h
  · rename_i hs
    obtain rfl := Option.some.inj h
    clear h
    by_cases ho : a2 < 0 ∨ (a1.size : Int) ≤ a2
    · refine (brk_Break.out a0 a1 a2 w hs ho).mono fun e w' h => ⟨?_, by rw [h.2]; exact Drawn0.refl _⟩
      rw [h.1]
      split
      · rw [List.drop_eq_nil_of_le (by simp; omega)]
        rfl
      · rfl
    · obtain ⟨n, rfl⟩ : ∃ n : Nat, a2 = n := ⟨a2.toNat, by omega⟩
      have hn : n < a1.size := by omega
      have hl : (a1.extract n a1.size).data.toList = a1.data.toList.drop n := by
        rw [Lib.extract_data, List.take_of_length_le (by simp)]
      have hd : a1.data.toList.drop n = a1[n] :: a1.data.toList.drop (n + 1) := by
        rw [List.drop_eq_getElem_cons (by simpa using hn)]; rfl
      have hz : 0 < (a1.extract n a1.size).size := by simp; omega
      have h0 : (a1.extract n a1.size)[0] = a1[n] := by
        have h2 : (a1.extract n a1.size).data.toList[0]? = some (a1[n]) := by rw [hl, hd]; rfl
        have h3 : (a1.extract n a1.size).data.toList[0]? = some ((a1.extract n a1.size)[0]) := by
          rw [List.getElem?_eq_getElem (by simpa using hz)]; rfl
        rw [h2] at h3
        exact (Option.some.inj h3).symm
      refine (brk_Break.walk a0 a1 n w hs hn _ _ _ _ _ _ (fun w => Try.strings_HasPrefix _ _ w) (fun w => Try.strings_HasPrefix _ _ w) (fun w => Try.strings_HasPrefix _ _ w) (fun w => Try.strings_HasPrefix _ _ w) hz rfl rfl).mono fun e w' h => ⟨?_, by rw [h.2]; exact Drawn0.refl _⟩
      rw [h.1, hl, hd, h0, if_pos (show 0 ≤ (n : Int) by omega)]
      have e1 : ((n : Int)).toNat = n := by omega
      rw [e1, hd]
      congr 2
      have q : ∀ x : Nat, x < 256 → ((((a1[n]).toNat : Int) == (x : Int)) = true ↔ a1[n] = UInt8.ofNat x) := fun x hx => by
        rw [beq_iff_eq]
        constructor
        · intro h
          apply UInt8.toNat_inj.1
          simp
          omega
        · intro h
          rw [h]
          simp
          omega
      have q13 : (((a1[n]).toNat : Int) == 13) = true ↔ a1[n] = 13 := q 13 (by decide)
      have q10 : (((a1[n]).toNat : Int) == 10) = true ↔ a1[n] = 10 := q 10 (by decide)
      by_cases hv : a0 = 11
      · subst hv
        rw [show ((11 : Int) == 11) = true from rfl, brk_Break.cases_old]
        simp only [true_and, eq_self]
        by_cases k1 : Lib.hasPrefix (a1[n] :: a1.data.toList.drop (n + 1)) [226, 128, 168] = true ∨ Lib.hasPrefix (a1[n] :: a1.data.toList.drop (n + 1)) [226, 128, 169] = true
        · rw [if_pos k1, if_pos k1]; rfl
        · rw [if_neg k1, if_neg k1]
          by_cases k2 : Lib.hasPrefix (a1[n] :: a1.data.toList.drop (n + 1)) [194, 133] = true ∨ Lib.hasPrefix (a1[n] :: a1.data.toList.drop (n + 1)) [13, 10] = true
          · rw [if_pos k2, if_pos k2]; rfl
          · rw [if_neg k2, if_neg k2]
            by_cases k3 : a1[n] = 13 ∨ a1[n] = 10
            · rw [if_pos k3, if_pos (k3.imp q13.2 q10.2)]; rfl
            · rw [if_neg k3, if_neg (fun h => k3 (h.imp q13.1 q10.1))]; rfl
      · rw [show (a0 == 11) = false from by rw [beq_eq_false_iff_ne]; exact hv, brk_Break.cases_new]
        simp only [hv, false_and, false_or, if_false]
        by_cases k2 : Lib.hasPrefix (a1[n] :: a1.data.toList.drop (n + 1)) [13, 10] = true
        · rw [if_pos k2, if_pos k2]; rfl
        · rw [if_neg k2, if_neg k2]
          by_cases k3 : a1[n] = 13 ∨ a1[n] = 10
          · rw [if_pos k3, if_pos (k3.imp q13.2 q10.2)]; rfl
          · rw [if_neg k3, if_neg (fun h => k3 (h.imp q13.1 q10.1))]; rfl
  · cases h


-- NOT PRINTED: function 57 (abi_NoEscape)

-- NOT PRINTED: function 45 (strings_Builder_copyCheck)

-- NOT PRINTED: function 33 (strings_Builder_WriteString)

/-! ### rows_Line: function 61 -/
def rows_Line.l0 : Nat → Int → ByteArray → Int → Int → Int → Option (Int × Int × Int)
  | 0, _, _, _, _, _ => none
  | k + 1, x0, x1, x105000, x105001, x105002 => if x105001 < (x1.size : Int) then ((brk_Break.f x0 x1 x105001).bind fun t105 => (if t105 = 0 then (rows_Line.l0 k x0 x1 x105000 (wrap64 (x105001 + 1)) x105002) else ((brk_Break.f x0 x1 x105001).bind fun t106 => (some (x105000, x105001, wrap64 (x105001 + t106)))))) else ((brk_Break.f x0 x1 x105001).bind fun t107 => (some (x105000, x105001, wrap64 (x105001 + t107))))
def rows_Line.f (k : Nat) (a0 : Int) (a1 : ByteArray) (a2 : Int) : Option (Int × Int × Int) := rows_Line.l0 k a0 a1 a2 a2 0
theorem rows_Line.mono_l : ∀ k, (∀ y0 y1 y2 y3 y4, LeO (rows_Line.l0 k y0 y1 y2 y3 y4) (rows_Line.l0 (k + 1) y0 y1 y2 y3 y4))
  | 0 => fun _ _ _ _ _ r h => by simp [rows_Line.l0] at h
  | k + 1 => by
    have ih0 := rows_Line.mono_l k
    · intro y0 y1 y2 y3 y4
      unfold rows_Line.l0
      repeat' first
      | (with_reducible exact ih0 _ _ _ _ _)
      | (with_reducible exact LeO.refl _)
      | (with_reducible exact LeO.none _)
      | (with_reducible refine LeO.ite ?_ ?_)
      | (with_reducible refine LeO.bind ?_ (fun _ => ?_))
      | exact ih0 _ _ _ _ _
      | exact LeO.none _
      | refine LeO.ite ?_ ?_
      | refine LeO.bind ?_ (fun _ => ?_)
theorem rows_Line.mono : ∀ a0 a1 a2 k, LeO (rows_Line.f k a0 a1 a2) (rows_Line.f (k + 1) a0 a1 a2) := by
  intro a0 a1 a2 k
  have ih0 := rows_Line.mono_l k
  unfold rows_Line.f
  repeat' first
      | (with_reducible exact ih0 _ _ _ _ _)
      | (with_reducible exact LeO.refl _)
      | (with_reducible exact LeO.none _)
      | (with_reducible refine LeO.ite ?_ ?_)
      | (with_reducible refine LeO.bind ?_ (fun _ => ?_))
      | exact ih0 _ _ _ _ _
      | exact LeO.none _
      | refine LeO.ite ?_ ?_
      | refine LeO.bind ?_ (fun _ => ?_)
def rows_Line.T4 : Bool × List (List Nat × List Nat) := (true, [([], []), ([0], [0]), ([], []), ([], []), ([], []), ([4], [4]), ([2, 3, 5], [2, 3, 5]), ([1, 6], [1, 6]), ([0, 1, 2, 3, 4, 5, 6, 7], []), ([8, 7, 6, 0, 1, 2, 3, 4, 5, 6, 7], [7, 8])])
def rows_Line.B4 : List Nat := [0, 1, 0, 0, 0, 16, 60, 127, 255, 511]
theorem rows_Line.tab4 : rtab .any (opsOf Try.f61 4) = rows_Line.T4 := by kernel_rfl
theorem rows_Line.bits4 : waitsOk rows_Line.T4.2 rows_Line.B4 = true := by kernel_rfl
set_option maxHeartbeats 8000000 in
set_option maxRecDepth 100000 in
theorem rows_Line.calls (k : Nat) (a0 : Int) (a1 : ByteArray) (a2 : Int) (r1 : Int) (r2 : Int) (r3 : Int) (w : World) (h : rows_Line.f k a0 a1 a2 = some (r1, r2, r3)) :
    Calls Try.prog 61 #[.int .i64 a0, .string a1, .int .i64 a2] w fun e w' => e = .returned (.agg #[.int .i64 r1, .int .i64 r2, .int .i64 r3]) ∧ Below w.heap.size w w' := by
  have hu83 := Try.underlying83
  have HB := Aside0.mk (Below.refl w.heap.size w)
  have H : (rows_Line.l0 k a0 a1 a2 a2 0) = some (r1, r2, r3) := h
  clear h
  have H' := Aside0.mk H
  clear H
  go_enter Try.func61, Try.ntmps61
  go_wp2_with (first | ((with_reducible refine gate_dst (N := 6) rfl ?_); refine box_event ?hg (N := 6) ?hd (cs := #[.int .i64 0, .int .i64 0, .int .i64 0]) (t := 83) ?hr ?_; (case hd => rfl); (case hg => rfl); (case hr => first | (go_simp; done) | (go_simp; rfl)); intro gb103 hg w4 hbox hb; have n0_ := Aside0.mk (below_step (by repeat (first | (with_reducible first | exact HB.out | apply below_alloc | apply pw_below_drewN | apply below_drew1) | exact HB.out)) hb); have n1_ := Aside0.mk (hbox); have n2_ := Aside0.mk ((by rw [hg]; exact (below_size (by repeat (first | (with_reducible first | exact HB.out | apply below_alloc | apply pw_below_drewN | apply below_drew1) | exact HB.out))) : w.heap.size ≤ gb103)); have n3_ := Aside0.mk ((by rw [hg]; exact (below_size (by repeat (first | (with_reducible first | exact HB.out | apply below_alloc | apply pw_below_drewN | apply below_drew1) | exact HB.out))) : w.heap.size ≤ gb103)); clear HB; have HB := n0_; have BK103 := n1_; have GW103 := n2_; have GE103 := n3_; clear n0_ n1_ n2_ n3_; clear hb hbox hg) | ((with_reducible refine gate_dst (N := 7) rfl ?_); refine box_event ?hg (N := 7) ?hd (cs := #[.int .i64 0, .int .i64 0, .int .i64 0]) (t := 83) ?hr ?_; (case hd => rfl); (case hg => rfl); (case hr => first | (go_simp; done) | (go_simp; rfl)); intro gb104 hg w5 hbox hb; have n0_ := Aside0.mk (blk_below (g := gb103) (o := .cells #[.int .i64 0, .int .i64 0, .int .i64 0] 83 (0, 0)) (by (with_reducible repeat (first | refine blk_drewN ?_ _ | refine blk_drew ?_ | refine blk_alloc ?_ _)); exact BK103.out) hb); have n1_ := Aside0.mk (below_step (by repeat (first | (with_reducible first | exact HB.out | apply below_alloc | apply pw_below_drewN | apply below_drew1 | refine below_set ?_ GE103.out) | exact HB.out)) hb); have n2_ := Aside0.mk (hbox); have n3_ := Aside0.mk ((by rw [hg]; exact (below_size (by repeat (first | (with_reducible first | exact HB.out | apply below_alloc | apply pw_below_drewN | apply below_drew1 | refine below_set ?_ GE103.out) | exact HB.out))) : w.heap.size ≤ gb104)); have n4_ := Aside0.mk ((by rw [hg]; exact (below_size (by repeat (first | (with_reducible first | exact HB.out | apply below_alloc | apply pw_below_drewN | apply below_drew1 | refine below_set ?_ GE103.out) | exact HB.out))) : w.heap.size ≤ gb104)); have n5_ := Aside0.mk ((by rw [hg]; exact Nat.ne_of_lt (blk_lt (g := gb103) (o := .cells #[.int .i64 0, .int .i64 0, .int .i64 0] 83 (0, 0)) (by (with_reducible repeat (first | refine blk_drewN ?_ _ | refine blk_drew ?_ | refine blk_alloc ?_ _)); exact BK103.out)) : gb103 ≠ gb104)); have n6_ := Aside0.mk ((by rw [hg]; exact Nat.ne_of_gt (blk_lt (g := gb103) (o := .cells #[.int .i64 0, .int .i64 0, .int .i64 0] 83 (0, 0)) (by (with_reducible repeat (first | refine blk_drewN ?_ _ | refine blk_drew ?_ | refine blk_alloc ?_ _)); exact BK103.out)) : gb104 ≠ gb103)); clear BK103; clear HB; have BK103 := n0_; have HB := n1_; have BK104 := n2_; have GW104 := n3_; have GE104 := n4_; have NB103_104 := n5_; have NB104_103 := n6_; clear n0_ n1_ n2_ n3_ n4_ n5_ n6_; clear hb hbox hg; have hnb6 := NB104_103.out; have hnc6 := NB103_104.out; have hcz7_0 : w5.cell? ⟨gb104, 0, none⟩ = some (.int .i64 0) := (blk_cell BK104.out 0).trans rfl; have hcz7_1 : w5.cell? ⟨gb104, 1, none⟩ = some (.int .i64 0) := (blk_cell BK104.out 1).trans rfl; have hcz7_2 : w5.cell? ⟨gb104, 2, none⟩ = some (.int .i64 0) := (blk_cell BK104.out 2).trans rfl; have hfz7_0 := blk_frozen BK104.out 0; have hfz7_1 := blk_frozen BK104.out 1; have hfz7_2 := blk_frozen BK104.out 2))
  go_loopg [] k (fun kq w' => ∃ (x105001_1 : Int), Aside0 (rows_Line.l0 kq a0 a1 a2 x105001_1 0 = some (r1, r2, r3)) ∧ Aside0 (kq ≤ k) ∧ Aside0 (w'.heap[gb103]? = some (.cells #[.int .i64 0, .int .i64 0, .int .i64 0] 83 (0, 0))) ∧ Aside0 (w'.heap[gb104]? = some (.cells #[.int .i64 a2, .int .i64 x105001_1, .int .i64 0] 83 (0, 0))) ∧ Aside0 (Below w.heap.size w w'))
  case atStart => exact ⟨(a2), H', ⟨Nat.le_refl _⟩, ⟨by (with_reducible repeat (first | refine blk_drewN ?_ _ | refine blk_drew ?_ | refine blk_alloc ?_ _)); refine blk_far ?_ NB103_104.out _; (with_reducible repeat (first | refine blk_drewN ?_ _ | refine blk_drew ?_ | refine blk_alloc ?_ _)); refine blk_far ?_ NB103_104.out _; (with_reducible repeat (first | refine blk_drewN ?_ _ | refine blk_drew ?_ | refine blk_alloc ?_ _)); refine blk_far ?_ NB103_104.out _; (with_reducible repeat (first | refine blk_drewN ?_ _ | refine blk_drew ?_ | refine blk_alloc ?_ _)); exact BK103.out⟩, ⟨by (with_reducible repeat (first | refine blk_drewN ?_ _ | refine blk_drew ?_ | refine blk_alloc ?_ _)); refine blk_put (cs := #[.int .i64 a2, .int .i64 a2, .int .i64 0]) ?_ 2 _ rfl; (with_reducible repeat (first | refine blk_drewN ?_ _ | refine blk_drew ?_ | refine blk_alloc ?_ _)); refine blk_put (cs := #[.int .i64 a2, .int .i64 0, .int .i64 0]) ?_ 1 _ rfl; (with_reducible repeat (first | refine blk_drewN ?_ _ | refine blk_drew ?_ | refine blk_alloc ?_ _)); refine blk_put (cs := #[.int .i64 0, .int .i64 0, .int .i64 0]) ?_ 0 _ rfl; (with_reducible repeat (first | refine blk_drewN ?_ _ | refine blk_drew ?_ | refine blk_alloc ?_ _)); exact BK104.out⟩, ⟨by repeat (first | (with_reducible first | exact HB.out | apply below_alloc | apply pw_below_drewN | apply below_drew1 | refine below_set ?_ GE103.out | refine below_set ?_ GE104.out) | exact HB.out)⟩⟩
  case round =>
    clear H'
    (try clear p2); (try clear c6); (try clear hcz7_0); (try clear hcz7_1); (try clear hcz7_2); (try clear hfz7_0); (try clear hfz7_1); (try clear hfz7_2)
    obtain ⟨x105001_1, HA, HK1, BK103, BK104, HB⟩ := hrel
    cases gk with
    | zero => exact absurd HA.out (by simp [rows_Line.l0])
    | succ k1 =>
      have H := HA.out
      clear HA
      simp only [rows_Line.l0] at H
      by_cases c8 : x105001_1 < (a1.size : Int)
      · rw [if_pos c8] at H
        have c8b0 : decide (x105001_1 < (a1.size : Int)) = true := decide_eq_true c8
        clear c8
        replace H := Option.bind_eq_some_iff.mp H
        obtain ⟨t105, A90, H⟩ := H
        replace H : (if t105 = 0 then (rows_Line.l0 k1 a0 a1 a2 (wrap64 (x105001_1 + 1)) 0) else ((brk_Break.f a0 a1 x105001_1).bind fun t106 => (some (a2, x105001_1, wrap64 (x105001_1 + t106))))) = some (r1, r2, r3) := H
        have A9 := Aside0.mk A90
        clear A90
        by_cases c10 : t105 = 0
        · rw [if_pos c10] at H
          have c10b0 : (t105 == 0) = true := beq_iff_eq.mpr c10
          have c10b1 : (t105 != 0) = false := bne_eq_false_iff_eq.mpr c10
          clear c10
          have H' := Aside0.mk H
          clear H
          have hnb11 := NB104_103.out
          have hnc11 := NB103_104.out
          have hcz12_0 : wr.cell? ⟨gb104, 0, none⟩ = some (.int .i64 a2) := (blk_cell BK104.out 0).trans rfl
          have hcz12_1 : wr.cell? ⟨gb104, 1, none⟩ = some (.int .i64 x105001_1) := (blk_cell BK104.out 1).trans rfl
          have hcz12_2 : wr.cell? ⟨gb104, 2, none⟩ = some (.int .i64 0) := (blk_cell BK104.out 2).trans rfl
          have hfz12_0 := blk_frozen BK104.out 0
          have hfz12_1 := blk_frozen BK104.out 1
          have hfz12_2 := blk_frozen BK104.out 2
          go_wp2_with (first | (go_at_call 31; (with_reducible refine (brk_Break.calls a0 a1 x105001_1 t105 _ A9.out).mono ?_); rintro e w' ⟨rfl, ⟨nd, rfl⟩⟩; (try (rw [drewN_self wr]; generalize hq_ : World.drewN wr _ = wr; have n0_ : Aside0 (wr.heap[gb103]? = some (.cells #[.int .i64 0, .int .i64 0, .int .i64 0] 83 (0, 0))) := ⟨by rw [← hq_]; exact (by (with_reducible repeat (first | refine blk_drewN ?_ _ | refine blk_drew ?_ | refine blk_alloc ?_ _)); exact BK103.out)⟩; have n1_ : Aside0 (wr.heap[gb104]? = some (.cells #[.int .i64 a2, .int .i64 x105001_1, .int .i64 0] 83 (0, 0))) := ⟨by rw [← hq_]; exact (by (with_reducible repeat (first | refine blk_drewN ?_ _ | refine blk_drew ?_ | refine blk_alloc ?_ _)); exact BK104.out)⟩; have n2_ : Aside0 (Below w.heap.size w wr) := ⟨by rw [← hq_]; exact (by repeat (first | (with_reducible first | exact HB.out | apply below_alloc | apply pw_below_drewN | apply below_drew1 | refine below_set ?_ GE103.out | refine below_set ?_ GE104.out) | exact HB.out))⟩; clear BK103 BK104 HB hq_; have BK103 := n0_; have BK104 := n1_; have HB := n2_; clear n0_ n1_ n2_; have hcz12_0 : wr.cell? ⟨gb104, 0, none⟩ = some (.int .i64 a2) := (blk_cell BK104.out 0).trans rfl; have hcz12_1 : wr.cell? ⟨gb104, 1, none⟩ = some (.int .i64 x105001_1) := (blk_cell BK104.out 1).trans rfl; have hcz12_2 : wr.cell? ⟨gb104, 2, none⟩ = some (.int .i64 0) := (blk_cell BK104.out 2).trans rfl; have hfz12_0 := blk_frozen BK104.out 0; have hfz12_1 := blk_frozen BK104.out 1; have hfz12_2 := blk_frozen BK104.out 2))))
          go_roundg k1
          case measure => have := HK1.out; omega
          case rel => exact ⟨(wrap64 (x105001_1 + 1)), H', ⟨by have := HK1.out; omega⟩, ⟨by (with_reducible repeat (first | refine blk_drewN ?_ _ | refine blk_drew ?_ | refine blk_alloc ?_ _)); refine blk_far ?_ NB103_104.out _; (with_reducible repeat (first | refine blk_drewN ?_ _ | refine blk_drew ?_ | refine blk_alloc ?_ _)); exact BK103.out⟩, ⟨by (with_reducible repeat (first | refine blk_drewN ?_ _ | refine blk_drew ?_ | refine blk_alloc ?_ _)); refine blk_put (cs := #[.int .i64 a2, .int .i64 x105001_1, .int .i64 0]) ?_ 1 _ rfl; (with_reducible repeat (first | refine blk_drewN ?_ _ | refine blk_drew ?_ | refine blk_alloc ?_ _)); exact BK104.out⟩, ⟨by repeat (first | (with_reducible first | exact HB.out | apply below_alloc | apply pw_below_drewN | apply below_drew1 | refine below_set ?_ GE103.out | refine below_set ?_ GE104.out) | exact HB.out)⟩⟩
        · rw [if_neg c10] at H
          have c10b0 : (t105 == 0) = false := beq_eq_false_iff_ne.mpr c10
          have c10b1 : (t105 != 0) = true := bne_iff_ne.mpr c10
          replace H := Option.bind_eq_some_iff.mp H
          obtain ⟨t106, A130, H⟩ := H
          replace H : (some (a2, x105001_1, wrap64 (x105001_1 + t106))) = some (r1, r2, r3) := H
          have A13 := Aside0.mk A130
          clear A130
          simp only [Option.some.injEq, Prod.mk.injEq] at H
          obtain ⟨rfl, rfl, rfl⟩ := H
          have hnb14 := NB104_103.out
          have hnc14 := NB103_104.out
          have hcz15_0 : wr.cell? ⟨gb104, 0, none⟩ = some (.int .i64 a2) := (blk_cell BK104.out 0).trans rfl
          have hcz15_1 : wr.cell? ⟨gb104, 1, none⟩ = some (.int .i64 x105001_1) := (blk_cell BK104.out 1).trans rfl
          have hcz15_2 : wr.cell? ⟨gb104, 2, none⟩ = some (.int .i64 0) := (blk_cell BK104.out 2).trans rfl
          have hfz15_0 := blk_frozen BK104.out 0
          have hfz15_1 := blk_frozen BK104.out 1
          have hfz15_2 := blk_frozen BK104.out 2
          try go_wp2_with (first | (go_at_call 31; (with_reducible refine (brk_Break.calls a0 a1 x105001_1 t105 _ A9.out).mono ?_); rintro e w' ⟨rfl, ⟨nd, rfl⟩⟩; (try (rw [drewN_self wr]; generalize hq_ : World.drewN wr _ = wr; have n0_ : Aside0 (wr.heap[gb103]? = some (.cells #[.int .i64 0, .int .i64 0, .int .i64 0] 83 (0, 0))) := ⟨by rw [← hq_]; exact (by (with_reducible repeat (first | refine blk_drewN ?_ _ | refine blk_drew ?_ | refine blk_alloc ?_ _)); exact BK103.out)⟩; have n1_ : Aside0 (wr.heap[gb104]? = some (.cells #[.int .i64 a2, .int .i64 x105001_1, .int .i64 0] 83 (0, 0))) := ⟨by rw [← hq_]; exact (by (with_reducible repeat (first | refine blk_drewN ?_ _ | refine blk_drew ?_ | refine blk_alloc ?_ _)); exact BK104.out)⟩; have n2_ : Aside0 (Below w.heap.size w wr) := ⟨by rw [← hq_]; exact (by repeat (first | (with_reducible first | exact HB.out | apply below_alloc | apply pw_below_drewN | apply below_drew1 | refine below_set ?_ GE103.out | refine below_set ?_ GE104.out) | exact HB.out))⟩; clear BK103 BK104 HB hq_; have BK103 := n0_; have BK104 := n1_; have HB := n2_; clear n0_ n1_ n2_; have hcz15_0 : wr.cell? ⟨gb104, 0, none⟩ = some (.int .i64 a2) := (blk_cell BK104.out 0).trans rfl; have hcz15_1 : wr.cell? ⟨gb104, 1, none⟩ = some (.int .i64 x105001_1) := (blk_cell BK104.out 1).trans rfl; have hcz15_2 : wr.cell? ⟨gb104, 2, none⟩ = some (.int .i64 0) := (blk_cell BK104.out 2).trans rfl; have hfz15_0 := blk_frozen BK104.out 0; have hfz15_1 := blk_frozen BK104.out 1; have hfz15_2 := blk_frozen BK104.out 2))))
          have n0_ := Aside0.mk (blk_drew BK103.out)
          have n1_ := Aside0.mk (blk_drew BK104.out)
          have n2_ := Aside0.mk (below_drew1 HB.out)
          clear BK103
          clear BK104
          clear HB
          have BK103 := n0_
          have BK104 := n1_
          have HB := n2_
          clear n0_ n1_ n2_
          refine start_ (n := 10) (S := fun w' => w'.cell? ⟨gb104, 0, none⟩ = some (.int .i64 a2) ∧ w'.cell? ⟨gb104, 1, none⟩ = some (.int .i64 x105001_1) ∧ w'.cell? ⟨gb104, 2, none⟩ = some (.int .i64 0)) (ds := [9]) #[false, false, false, false, false, false, false, false, false, false] (by kernel_rfl) rfl rfl ⟨(blk_cell BK104.out 0).trans rfl, (blk_cell BK104.out 1).trans rfl, (blk_cell BK104.out 2).trans rfl⟩ (fun hHeld => ?_); refine with_tabW rows_Line.tab4 rows_Line.bits4 (fun HT_ HW_ => ?_)
          generalize wr.drew = w16 at BK103 BK104 HB hHeld ⊢
          refine pure_ (i := 0) (N := some 28) (v := ?_) (a' := ?_) #[true, false, false, false, false, false, false, false, false, false] rfl rfl (any_of HT_.out (by kernel_rfl)) (fun _ _ _ h => h) (Or.inl ⟨by rfl, ?_⟩) ?_ ?_
          rotate_left
          · intro w'
            go_simp
            with_reducible rfl
          rotate_left
          · simp only [Act.put, List.setIfInBounds_toArray, List.set_cons_zero, List.set_cons_succ, i64_w, i32_w]
            rfl
          refine pure_ (i := 2) (N := some 30) (v := ?_) (a' := ?_) #[true, false, true, false, false, false, false, false, false, false] rfl rfl (any_of HT_.out (by kernel_rfl)) (fun _ _ _ h => h) (Or.inl ⟨by rfl, ?_⟩) ?_ ?_
          rotate_left
          · intro w'
            go_simp
            with_reducible rfl
          rotate_left
          · simp only [Act.put, List.setIfInBounds_toArray, List.set_cons_zero, List.set_cons_succ, i64_w, i32_w]
            rfl
          refine pure_ (i := 3) (N := some 31) (v := ?_) (a' := ?_) #[true, false, true, true, false, false, false, false, false, false] rfl rfl (any_of HT_.out (by kernel_rfl)) (fun _ _ _ h => h) (Or.inl ⟨by rfl, ?_⟩) ?_ ?_
          rotate_left
          · intro w'
            go_simp
            with_reducible rfl
          rotate_left
          · simp only [Act.put, List.setIfInBounds_toArray, List.set_cons_zero, List.set_cons_succ, i64_w, i32_w]
            rfl
          refine pure_ (i := 4) (N := some 32) (v := ?_) (a' := ?_) #[true, false, true, true, true, false, false, false, false, false] rfl rfl (any_of HT_.out (by kernel_rfl)) (fun _ _ _ h => h) (Or.inl ⟨by rfl, ?_⟩) ?_ ?_
          rotate_left
          · intro w'
            go_simp
            with_reducible rfl
          rotate_left
          · simp only [Act.put, List.setIfInBounds_toArray, List.set_cons_zero, List.set_cons_succ, i64_w, i32_w]
            rfl
          refine take_ (i := 1) (N := some 29) (v := ?_) (a' := ?_) #[true, true, true, true, true, false, false, false, false, false] rfl rfl (take_ofW HT_.out HW_.out (by kernel_rfl)) (fun _ _ _ h => h) (Or.inl ⟨by rfl, ?_⟩) hHeld ?_ ?_
          rotate_left
          · rintro w' ⟨s0, s1, s2⟩
            go_simp
            with_reducible rfl
          rotate_left
          · simp only [Act.put, List.setIfInBounds_toArray, List.set_cons_zero, List.set_cons_succ, i64_w, i32_w]
            rfl
          refine take_ (i := 5) (N := some 33) (v := ?_) (a' := ?_) #[true, true, true, true, true, true, false, false, false, false] rfl rfl (take_ofW HT_.out HW_.out (by kernel_rfl)) (fun _ _ _ h => h) (Or.inl ⟨by rfl, ?_⟩) hHeld ?_ ?_
          rotate_left
          · rintro w' ⟨s0, s1, s2⟩
            go_simp
            with_reducible rfl
          rotate_left
          · simp only [Act.put, List.setIfInBounds_toArray, List.set_cons_zero, List.set_cons_succ, i64_w, i32_w]
            rfl
          refine one_ (i := 6) (N := some 34) #[true, true, true, true, true, true, true, false, false, false] rfl rfl (one_of HT_.out (by kernel_rfl)) (by decide) (fun K hK => ?_)
          refine goes_ Try.func31 (by kernel_rfl) rfl #[.int .i64 a0, .string a1, .int .i64 x105001_1] (by rfl) rfl rfl (by (try simp only [List.map_toArray, List.map_cons, List.map_nil]); first | done | rfl | (simp only [List.length_drop, List.length_take]; rfl)) ?_
          with_reducible refine (brk_Break.calls a0 a1 x105001_1 t106 _ A13.out).mono ?_
          rintro e w' ⟨rfl, ⟨nd, rfl⟩⟩
          refine ⟨_, rfl, ?_⟩
          refine hK.out _ _ ⟨(blk_cell BK104.out 0).trans rfl, (blk_cell BK104.out 1).trans rfl, (blk_cell BK104.out 2).trans rfl⟩ (fun hHeld => ?_)
          clear hK K
          refine norm_ (a' := ?_) ?_ ?_
          rotate_left
          · show Act.put _ (some 34) _ = _
            simp only [Act.put, List.setIfInBounds_toArray, List.set_cons_zero, List.set_cons_succ, i64_w, i32_w]
            rfl
          refine pure_ (i := 7) (N := some 35) (v := ?_) (a' := ?_) #[true, true, true, true, true, true, true, true, false, false] rfl rfl (any_of HT_.out (by kernel_rfl)) (fun _ _ _ h => h) (Or.inl ⟨by rfl, ?_⟩) ?_ ?_
          rotate_left
          · intro w'
            go_simp
            with_reducible rfl
          rotate_left
          · simp only [Act.put, List.setIfInBounds_toArray, List.set_cons_zero, List.set_cons_succ, i64_w, i32_w]
            rfl
          refine pure_ (i := 8) (N := some 36) (v := ?_) (a' := ?_) #[true, true, true, true, true, true, true, true, true, false] rfl rfl (any_of HT_.out (by kernel_rfl)) (fun _ _ _ h => h) (Or.inl ⟨by rfl, ?_⟩) ?_ ?_
          rotate_left
          · intro w'
            go_simp
            with_reducible rfl
          rotate_left
          · simp only [Act.put, List.setIfInBounds_toArray, List.set_cons_zero, List.set_cons_succ, i64_w, i32_w]
            rfl
          refine last_ (i := 9) (N := none) #[true, true, true, true, true, true, true, true, true, true] rfl rfl (one_of HT_.out (by kernel_rfl)) (by decide) (fun K hK => ?_)
          have hs17 : w16.cell? ⟨gb104, 2, none⟩ = some (.int .i64 0) := (blk_cell BK104.out 2).trans rfl
          have hfs17 := blk_frozen BK104.out 2
          have hns17_0 := NB103_104.out
          have hms17_0 := NB104_103.out
          refine skip_ (w1 := ?_) (by rfl) rfl ?_ ?_
          rotate_left
          · go_simp
            rfl
          refine hK.out _ _ ?_
          clear hK K
          refine done_ (done_of HT_.out (by kernel_rfl)) ?_
          have hcz18_0 : w16.cell? ⟨gb104, 0, none⟩ = some (.int .i64 a2) := (blk_cell BK104.out 0).trans rfl
          have hcz18_1 : w16.cell? ⟨gb104, 1, none⟩ = some (.int .i64 x105001_1) := (blk_cell BK104.out 1).trans rfl
          have hcz18_2 : w16.cell? ⟨gb104, 2, none⟩ = some (.int .i64 0) := (blk_cell BK104.out 2).trans rfl
          have hfz18_0 := blk_frozen BK104.out 0
          have hfz18_1 := blk_frozen BK104.out 1
          have hfz18_2 := blk_frozen BK104.out 2
          have hcz19_0 : w16.cell? ⟨gb103, 0, none⟩ = some (.int .i64 0) := (blk_cell BK103.out 0).trans rfl
          have hcz19_1 : w16.cell? ⟨gb103, 1, none⟩ = some (.int .i64 0) := (blk_cell BK103.out 1).trans rfl
          have hcz19_2 : w16.cell? ⟨gb103, 2, none⟩ = some (.int .i64 0) := (blk_cell BK103.out 2).trans rfl
          have hfz19_0 := blk_frozen BK103.out 0
          have hfz19_1 := blk_frozen BK103.out 1
          have hfz19_2 := blk_frozen BK103.out 2
          try go_wp2
          refine bodyPost_ret (results_cell_row rfl _ _ gb103 83 #[.int .i64 a2, .int .i64 x105001_1, .int .i64 (wrap64 (x105001_1 + t106))] (0, 0) _ rfl (by (with_reducible repeat (first | refine blk_drewN ?_ _ | refine blk_drew ?_ | refine blk_alloc ?_ _)); refine blk_put (cs := #[.int .i64 a2, .int .i64 x105001_1, .int .i64 0]) ?_ 2 _ rfl; (with_reducible repeat (first | refine blk_drewN ?_ _ | refine blk_drew ?_ | refine blk_alloc ?_ _)); refine blk_put (cs := #[.int .i64 a2, .int .i64 0, .int .i64 0]) ?_ 1 _ rfl; (with_reducible repeat (first | refine blk_drewN ?_ _ | refine blk_drew ?_ | refine blk_alloc ?_ _)); refine blk_put (cs := #[.int .i64 0, .int .i64 0, .int .i64 0]) ?_ 0 _ rfl; (with_reducible repeat (first | refine blk_drewN ?_ _ | refine blk_drew ?_ | refine blk_alloc ?_ _)); refine blk_far ?_ NB103_104.out _; (with_reducible repeat (first | refine blk_drewN ?_ _ | refine blk_drew ?_ | refine blk_alloc ?_ _)); exact BK103.out) Try.underlying83 rfl (by kernel_rfl)) rfl ?_
          exact ⟨by first | rfl | (simp [errW_none, errW_some] <;> rfl) | (simp [*, errW_none, errW_some] <;> rfl), by repeat (first | (with_reducible first | exact HB.out | apply below_alloc | apply pw_below_drewN | apply below_drew1 | refine below_set ?_ GE103.out | refine below_set ?_ GE104.out) | exact HB.out)⟩
      · rw [if_neg c8] at H
        have c8b0 : decide (x105001_1 < (a1.size : Int)) = false := decide_eq_false c8
        clear c8
        replace H := Option.bind_eq_some_iff.mp H
        obtain ⟨t107, A200, H⟩ := H
        replace H : (some (a2, x105001_1, wrap64 (x105001_1 + t107))) = some (r1, r2, r3) := H
        have A20 := Aside0.mk A200
        clear A200
        simp only [Option.some.injEq, Prod.mk.injEq] at H
        obtain ⟨rfl, rfl, rfl⟩ := H
        have hnb21 := NB104_103.out
        have hnc21 := NB103_104.out
        have hcz22_0 : wr.cell? ⟨gb104, 0, none⟩ = some (.int .i64 a2) := (blk_cell BK104.out 0).trans rfl
        have hcz22_1 : wr.cell? ⟨gb104, 1, none⟩ = some (.int .i64 x105001_1) := (blk_cell BK104.out 1).trans rfl
        have hcz22_2 : wr.cell? ⟨gb104, 2, none⟩ = some (.int .i64 0) := (blk_cell BK104.out 2).trans rfl
        have hfz22_0 := blk_frozen BK104.out 0
        have hfz22_1 := blk_frozen BK104.out 1
        have hfz22_2 := blk_frozen BK104.out 2
        try go_wp2
        have n0_ := Aside0.mk (blk_drew BK103.out)
        have n1_ := Aside0.mk (blk_drew BK104.out)
        have n2_ := Aside0.mk (below_drew1 HB.out)
        clear BK103
        clear BK104
        clear HB
        have BK103 := n0_
        have BK104 := n1_
        have HB := n2_
        clear n0_ n1_ n2_
        refine start_ (n := 10) (S := fun w' => w'.cell? ⟨gb104, 0, none⟩ = some (.int .i64 a2) ∧ w'.cell? ⟨gb104, 1, none⟩ = some (.int .i64 x105001_1) ∧ w'.cell? ⟨gb104, 2, none⟩ = some (.int .i64 0)) (ds := [9]) #[false, false, false, false, false, false, false, false, false, false] (by kernel_rfl) rfl rfl ⟨(blk_cell BK104.out 0).trans rfl, (blk_cell BK104.out 1).trans rfl, (blk_cell BK104.out 2).trans rfl⟩ (fun hHeld => ?_); refine with_tabW rows_Line.tab4 rows_Line.bits4 (fun HT_ HW_ => ?_)
        generalize wr.drew = w23 at BK103 BK104 HB hHeld ⊢
        refine pure_ (i := 0) (N := some 28) (v := ?_) (a' := ?_) #[true, false, false, false, false, false, false, false, false, false] rfl rfl (any_of HT_.out (by kernel_rfl)) (fun _ _ _ h => h) (Or.inl ⟨by rfl, ?_⟩) ?_ ?_
        rotate_left
        · intro w'
          go_simp
          with_reducible rfl
        rotate_left
        · simp only [Act.put, List.setIfInBounds_toArray, List.set_cons_zero, List.set_cons_succ, i64_w, i32_w]
          rfl
        refine pure_ (i := 2) (N := some 30) (v := ?_) (a' := ?_) #[true, false, true, false, false, false, false, false, false, false] rfl rfl (any_of HT_.out (by kernel_rfl)) (fun _ _ _ h => h) (Or.inl ⟨by rfl, ?_⟩) ?_ ?_
        rotate_left
        · intro w'
          go_simp
          with_reducible rfl
        rotate_left
        · simp only [Act.put, List.setIfInBounds_toArray, List.set_cons_zero, List.set_cons_succ, i64_w, i32_w]
          rfl
        refine pure_ (i := 3) (N := some 31) (v := ?_) (a' := ?_) #[true, false, true, true, false, false, false, false, false, false] rfl rfl (any_of HT_.out (by kernel_rfl)) (fun _ _ _ h => h) (Or.inl ⟨by rfl, ?_⟩) ?_ ?_
        rotate_left
        · intro w'
          go_simp
          with_reducible rfl
        rotate_left
        · simp only [Act.put, List.setIfInBounds_toArray, List.set_cons_zero, List.set_cons_succ, i64_w, i32_w]
          rfl
        refine pure_ (i := 4) (N := some 32) (v := ?_) (a' := ?_) #[true, false, true, true, true, false, false, false, false, false] rfl rfl (any_of HT_.out (by kernel_rfl)) (fun _ _ _ h => h) (Or.inl ⟨by rfl, ?_⟩) ?_ ?_
        rotate_left
        · intro w'
          go_simp
          with_reducible rfl
        rotate_left
        · simp only [Act.put, List.setIfInBounds_toArray, List.set_cons_zero, List.set_cons_succ, i64_w, i32_w]
          rfl
        refine take_ (i := 1) (N := some 29) (v := ?_) (a' := ?_) #[true, true, true, true, true, false, false, false, false, false] rfl rfl (take_ofW HT_.out HW_.out (by kernel_rfl)) (fun _ _ _ h => h) (Or.inl ⟨by rfl, ?_⟩) hHeld ?_ ?_
        rotate_left
        · rintro w' ⟨s0, s1, s2⟩
          go_simp
          with_reducible rfl
        rotate_left
        · simp only [Act.put, List.setIfInBounds_toArray, List.set_cons_zero, List.set_cons_succ, i64_w, i32_w]
          rfl
        refine take_ (i := 5) (N := some 33) (v := ?_) (a' := ?_) #[true, true, true, true, true, true, false, false, false, false] rfl rfl (take_ofW HT_.out HW_.out (by kernel_rfl)) (fun _ _ _ h => h) (Or.inl ⟨by rfl, ?_⟩) hHeld ?_ ?_
        rotate_left
        · rintro w' ⟨s0, s1, s2⟩
          go_simp
          with_reducible rfl
        rotate_left
        · simp only [Act.put, List.setIfInBounds_toArray, List.set_cons_zero, List.set_cons_succ, i64_w, i32_w]
          rfl
        refine one_ (i := 6) (N := some 34) #[true, true, true, true, true, true, true, false, false, false] rfl rfl (one_of HT_.out (by kernel_rfl)) (by decide) (fun K hK => ?_)
        refine goes_ Try.func31 (by kernel_rfl) rfl #[.int .i64 a0, .string a1, .int .i64 x105001_1] (by rfl) rfl rfl (by (try simp only [List.map_toArray, List.map_cons, List.map_nil]); first | done | rfl | (simp only [List.length_drop, List.length_take]; rfl)) ?_
        with_reducible refine (brk_Break.calls a0 a1 x105001_1 t107 _ A20.out).mono ?_
        rintro e w' ⟨rfl, ⟨nd, rfl⟩⟩
        refine ⟨_, rfl, ?_⟩
        refine hK.out _ _ ⟨(blk_cell BK104.out 0).trans rfl, (blk_cell BK104.out 1).trans rfl, (blk_cell BK104.out 2).trans rfl⟩ (fun hHeld => ?_)
        clear hK K
        refine norm_ (a' := ?_) ?_ ?_
        rotate_left
        · show Act.put _ (some 34) _ = _
          simp only [Act.put, List.setIfInBounds_toArray, List.set_cons_zero, List.set_cons_succ, i64_w, i32_w]
          rfl
        refine pure_ (i := 7) (N := some 35) (v := ?_) (a' := ?_) #[true, true, true, true, true, true, true, true, false, false] rfl rfl (any_of HT_.out (by kernel_rfl)) (fun _ _ _ h => h) (Or.inl ⟨by rfl, ?_⟩) ?_ ?_
        rotate_left
        · intro w'
          go_simp
          with_reducible rfl
        rotate_left
        · simp only [Act.put, List.setIfInBounds_toArray, List.set_cons_zero, List.set_cons_succ, i64_w, i32_w]
          rfl
        refine pure_ (i := 8) (N := some 36) (v := ?_) (a' := ?_) #[true, true, true, true, true, true, true, true, true, false] rfl rfl (any_of HT_.out (by kernel_rfl)) (fun _ _ _ h => h) (Or.inl ⟨by rfl, ?_⟩) ?_ ?_
        rotate_left
        · intro w'
          go_simp
          with_reducible rfl
        rotate_left
        · simp only [Act.put, List.setIfInBounds_toArray, List.set_cons_zero, List.set_cons_succ, i64_w, i32_w]
          rfl
        refine last_ (i := 9) (N := none) #[true, true, true, true, true, true, true, true, true, true] rfl rfl (one_of HT_.out (by kernel_rfl)) (by decide) (fun K hK => ?_)
        have hs24 : w23.cell? ⟨gb104, 2, none⟩ = some (.int .i64 0) := (blk_cell BK104.out 2).trans rfl
        have hfs24 := blk_frozen BK104.out 2
        have hns24_0 := NB103_104.out
        have hms24_0 := NB104_103.out
        refine skip_ (w1 := ?_) (by rfl) rfl ?_ ?_
        rotate_left
        · go_simp
          rfl
        refine hK.out _ _ ?_
        clear hK K
        refine done_ (done_of HT_.out (by kernel_rfl)) ?_
        have hcz25_0 : w23.cell? ⟨gb104, 0, none⟩ = some (.int .i64 a2) := (blk_cell BK104.out 0).trans rfl
        have hcz25_1 : w23.cell? ⟨gb104, 1, none⟩ = some (.int .i64 x105001_1) := (blk_cell BK104.out 1).trans rfl
        have hcz25_2 : w23.cell? ⟨gb104, 2, none⟩ = some (.int .i64 0) := (blk_cell BK104.out 2).trans rfl
        have hfz25_0 := blk_frozen BK104.out 0
        have hfz25_1 := blk_frozen BK104.out 1
        have hfz25_2 := blk_frozen BK104.out 2
        have hcz26_0 : w23.cell? ⟨gb103, 0, none⟩ = some (.int .i64 0) := (blk_cell BK103.out 0).trans rfl
        have hcz26_1 : w23.cell? ⟨gb103, 1, none⟩ = some (.int .i64 0) := (blk_cell BK103.out 1).trans rfl
        have hcz26_2 : w23.cell? ⟨gb103, 2, none⟩ = some (.int .i64 0) := (blk_cell BK103.out 2).trans rfl
        have hfz26_0 := blk_frozen BK103.out 0
        have hfz26_1 := blk_frozen BK103.out 1
        have hfz26_2 := blk_frozen BK103.out 2
        try go_wp2
        refine bodyPost_ret (results_cell_row rfl _ _ gb103 83 #[.int .i64 a2, .int .i64 x105001_1, .int .i64 (wrap64 (x105001_1 + t107))] (0, 0) _ rfl (by (with_reducible repeat (first | refine blk_drewN ?_ _ | refine blk_drew ?_ | refine blk_alloc ?_ _)); refine blk_put (cs := #[.int .i64 a2, .int .i64 x105001_1, .int .i64 0]) ?_ 2 _ rfl; (with_reducible repeat (first | refine blk_drewN ?_ _ | refine blk_drew ?_ | refine blk_alloc ?_ _)); refine blk_put (cs := #[.int .i64 a2, .int .i64 0, .int .i64 0]) ?_ 1 _ rfl; (with_reducible repeat (first | refine blk_drewN ?_ _ | refine blk_drew ?_ | refine blk_alloc ?_ _)); refine blk_put (cs := #[.int .i64 0, .int .i64 0, .int .i64 0]) ?_ 0 _ rfl; (with_reducible repeat (first | refine blk_drewN ?_ _ | refine blk_drew ?_ | refine blk_alloc ?_ _)); refine blk_far ?_ NB103_104.out _; (with_reducible repeat (first | refine blk_drewN ?_ _ | refine blk_drew ?_ | refine blk_alloc ?_ _)); exact BK103.out) Try.underlying83 rfl (by kernel_rfl)) rfl ?_
        exact ⟨by first | rfl | (simp [errW_none, errW_some] <;> rfl) | (simp [*, errW_none, errW_some] <;> rfl), by repeat (first | (with_reducible first | exact HB.out | apply below_alloc | apply pw_below_drewN | apply below_drew1 | refine below_set ?_ GE103.out | refine below_set ?_ GE104.out) | exact HB.out)⟩

/-! ### brk_says: function 68 -/
def brk_says.f (a0 : ByteArray) (a1_0 : Int) (a1_1 : Int) (a1_2 : Int) : Option (ByteArray × Bool) := if a1_0 < 0 then (some ((⟨#[]⟩ : ByteArray), false)) else (if a1_1 < a1_0 then (some ((⟨#[]⟩ : ByteArray), false)) else (if a1_2 < a1_1 then (some ((⟨#[]⟩ : ByteArray), false)) else (if (a0.size : Int) < a1_2 then (some ((⟨#[]⟩ : ByteArray), false)) else (if 0 ≤ a1_0 then (if a1_0 ≤ a1_1 then (if a1_1 ≤ (a0.size : Int) then (some (a0.extract (a1_0 : Int).toNat (a1_1 : Int).toNat, true)) else (none)) else (none)) else (none)))))
set_option maxHeartbeats 8000000 in
set_option maxRecDepth 100000 in
theorem brk_says.calls (a0 : ByteArray) (a1_0 : Int) (a1_1 : Int) (a1_2 : Int) (r1 : ByteArray) (r2 : Bool) (w : World) (h : brk_says.f a0 a1_0 a1_1 a1_2 = some (r1, r2)) :
    Calls Try.prog 68 #[.string a0, .agg #[.int .i64 a1_0, .int .i64 a1_1, .int .i64 a1_2]] w fun e w' => e = .returned (.tuple #[.string r1, .bool r2]) ∧ Below w.heap.size w w' := by
  have hu83 := Try.underlying83
  have HB := Aside0.mk (Below.refl w.heap.size w)
  have H : (if a1_0 < 0 then (some ((⟨#[]⟩ : ByteArray), false)) else (if a1_1 < a1_0 then (some ((⟨#[]⟩ : ByteArray), false)) else (if a1_2 < a1_1 then (some ((⟨#[]⟩ : ByteArray), false)) else (if (a0.size : Int) < a1_2 then (some ((⟨#[]⟩ : ByteArray), false)) else (if 0 ≤ a1_0 then (if a1_0 ≤ a1_1 then (if a1_1 ≤ (a0.size : Int) then (some (a0.extract (a1_0 : Int).toNat (a1_1 : Int).toNat, true)) else (none)) else (none)) else (none)))))) = some (r1, r2) := h
  clear h
  by_cases c3 : a1_0 < 0
  · rw [if_pos c3] at H
    have c3b0 : decide (a1_0 < 0) = true := decide_eq_true c3
    clear c3
    simp only [Option.some.injEq, Prod.mk.injEq] at H
    obtain ⟨rfl, rfl⟩ := H
    go_enter Try.func68, Try.ntmps68
    go_wp2_with (first | ((with_reducible refine gate_dst (N := 3) rfl ?_); (try (refine gate_guard (by rfl) ?_; dsimp only)); refine box_event ?hg (N := 3) ?hd (cs := #[.int .i64 a1_0, .int .i64 a1_1, .int .i64 a1_2]) (t := 83) ?hr ?_; (case hd => rfl); (case hg => rfl); (case hr => first | (go_simp; done) | (go_simp; rfl)); intro gb108 hg w4 hbox hb; have n0_ := Aside0.mk (below_step (by repeat (first | (with_reducible first | exact HB.out | apply below_alloc | apply pw_below_drewN | apply below_drew1) | exact HB.out)) hb); have n1_ := Aside0.mk (hbox); have n2_ := Aside0.mk ((by rw [hg]; exact (below_size (by repeat (first | (with_reducible first | exact HB.out | apply below_alloc | apply pw_below_drewN | apply below_drew1) | exact HB.out))) : w.heap.size ≤ gb108)); have n3_ := Aside0.mk ((by rw [hg]; exact (below_size (by repeat (first | (with_reducible first | exact HB.out | apply below_alloc | apply pw_below_drewN | apply below_drew1) | exact HB.out))) : w.heap.size ≤ gb108)); clear HB; have HB := n0_; have BK108 := n1_; have GW108 := n2_; have GE108 := n3_; clear n0_ n1_ n2_ n3_; clear hb hbox hg; have hcz5_0 : w4.cell? ⟨gb108, 0, none⟩ = some (.int .i64 a1_0) := (blk_cell BK108.out 0).trans rfl; have hcz5_1 : w4.cell? ⟨gb108, 1, none⟩ = some (.int .i64 a1_1) := (blk_cell BK108.out 1).trans rfl; have hcz5_2 : w4.cell? ⟨gb108, 2, none⟩ = some (.int .i64 a1_2) := (blk_cell BK108.out 2).trans rfl; have hfz5_0 := blk_frozen BK108.out 0; have hfz5_1 := blk_frozen BK108.out 1; have hfz5_2 := blk_frozen BK108.out 2))
    go_ret2
    exact ⟨by first | rfl | (simp [errW_none, errW_some] <;> rfl) | (simp [*, errW_none, errW_some] <;> rfl), by repeat (first | (with_reducible first | exact HB.out | apply below_alloc | apply pw_below_drewN | apply below_drew1 | refine below_set ?_ GE108.out) | exact HB.out)⟩
  · rw [if_neg c3] at H
    have c3b0 : decide (a1_0 < 0) = false := decide_eq_false c3
    clear c3
    by_cases c6 : a1_1 < a1_0
    · rw [if_pos c6] at H
      have c6b0 : decide (a1_1 < a1_0) = true := decide_eq_true c6
      clear c6
      simp only [Option.some.injEq, Prod.mk.injEq] at H
      obtain ⟨rfl, rfl⟩ := H
      go_enter Try.func68, Try.ntmps68
      go_wp2_with (first | ((with_reducible refine gate_dst (N := 3) rfl ?_); (try (refine gate_guard (by rfl) ?_; dsimp only)); refine box_event ?hg (N := 3) ?hd (cs := #[.int .i64 a1_0, .int .i64 a1_1, .int .i64 a1_2]) (t := 83) ?hr ?_; (case hd => rfl); (case hg => rfl); (case hr => first | (go_simp; done) | (go_simp; rfl)); intro gb108 hg w7 hbox hb; have n0_ := Aside0.mk (below_step (by repeat (first | (with_reducible first | exact HB.out | apply below_alloc | apply pw_below_drewN | apply below_drew1) | exact HB.out)) hb); have n1_ := Aside0.mk (hbox); have n2_ := Aside0.mk ((by rw [hg]; exact (below_size (by repeat (first | (with_reducible first | exact HB.out | apply below_alloc | apply pw_below_drewN | apply below_drew1) | exact HB.out))) : w.heap.size ≤ gb108)); have n3_ := Aside0.mk ((by rw [hg]; exact (below_size (by repeat (first | (with_reducible first | exact HB.out | apply below_alloc | apply pw_below_drewN | apply below_drew1) | exact HB.out))) : w.heap.size ≤ gb108)); clear HB; have HB := n0_; have BK108 := n1_; have GW108 := n2_; have GE108 := n3_; clear n0_ n1_ n2_ n3_; clear hb hbox hg; have hcz8_0 : w7.cell? ⟨gb108, 0, none⟩ = some (.int .i64 a1_0) := (blk_cell BK108.out 0).trans rfl; have hcz8_1 : w7.cell? ⟨gb108, 1, none⟩ = some (.int .i64 a1_1) := (blk_cell BK108.out 1).trans rfl; have hcz8_2 : w7.cell? ⟨gb108, 2, none⟩ = some (.int .i64 a1_2) := (blk_cell BK108.out 2).trans rfl; have hfz8_0 := blk_frozen BK108.out 0; have hfz8_1 := blk_frozen BK108.out 1; have hfz8_2 := blk_frozen BK108.out 2))
      go_ret2
      exact ⟨by first | rfl | (simp [errW_none, errW_some] <;> rfl) | (simp [*, errW_none, errW_some] <;> rfl), by repeat (first | (with_reducible first | exact HB.out | apply below_alloc | apply pw_below_drewN | apply below_drew1 | refine below_set ?_ GE108.out) | exact HB.out)⟩
    · rw [if_neg c6] at H
      have c6b0 : decide (a1_1 < a1_0) = false := decide_eq_false c6
      clear c6
      by_cases c9 : a1_2 < a1_1
      · rw [if_pos c9] at H
        have c9b0 : decide (a1_2 < a1_1) = true := decide_eq_true c9
        clear c9
        simp only [Option.some.injEq, Prod.mk.injEq] at H
        obtain ⟨rfl, rfl⟩ := H
        go_enter Try.func68, Try.ntmps68
        go_wp2_with (first | ((with_reducible refine gate_dst (N := 3) rfl ?_); (try (refine gate_guard (by rfl) ?_; dsimp only)); refine box_event ?hg (N := 3) ?hd (cs := #[.int .i64 a1_0, .int .i64 a1_1, .int .i64 a1_2]) (t := 83) ?hr ?_; (case hd => rfl); (case hg => rfl); (case hr => first | (go_simp; done) | (go_simp; rfl)); intro gb108 hg w10 hbox hb; have n0_ := Aside0.mk (below_step (by repeat (first | (with_reducible first | exact HB.out | apply below_alloc | apply pw_below_drewN | apply below_drew1) | exact HB.out)) hb); have n1_ := Aside0.mk (hbox); have n2_ := Aside0.mk ((by rw [hg]; exact (below_size (by repeat (first | (with_reducible first | exact HB.out | apply below_alloc | apply pw_below_drewN | apply below_drew1) | exact HB.out))) : w.heap.size ≤ gb108)); have n3_ := Aside0.mk ((by rw [hg]; exact (below_size (by repeat (first | (with_reducible first | exact HB.out | apply below_alloc | apply pw_below_drewN | apply below_drew1) | exact HB.out))) : w.heap.size ≤ gb108)); clear HB; have HB := n0_; have BK108 := n1_; have GW108 := n2_; have GE108 := n3_; clear n0_ n1_ n2_ n3_; clear hb hbox hg; have hcz11_0 : w10.cell? ⟨gb108, 0, none⟩ = some (.int .i64 a1_0) := (blk_cell BK108.out 0).trans rfl; have hcz11_1 : w10.cell? ⟨gb108, 1, none⟩ = some (.int .i64 a1_1) := (blk_cell BK108.out 1).trans rfl; have hcz11_2 : w10.cell? ⟨gb108, 2, none⟩ = some (.int .i64 a1_2) := (blk_cell BK108.out 2).trans rfl; have hfz11_0 := blk_frozen BK108.out 0; have hfz11_1 := blk_frozen BK108.out 1; have hfz11_2 := blk_frozen BK108.out 2))
        go_ret2
        exact ⟨by first | rfl | (simp [errW_none, errW_some] <;> rfl) | (simp [*, errW_none, errW_some] <;> rfl), by repeat (first | (with_reducible first | exact HB.out | apply below_alloc | apply pw_below_drewN | apply below_drew1 | refine below_set ?_ GE108.out) | exact HB.out)⟩
      · rw [if_neg c9] at H
        have c9b0 : decide (a1_2 < a1_1) = false := decide_eq_false c9
        clear c9
        by_cases c12 : (a0.size : Int) < a1_2
        · rw [if_pos c12] at H
          have c12b0 : decide ((a0.size : Int) < a1_2) = true := decide_eq_true c12
          clear c12
          simp only [Option.some.injEq, Prod.mk.injEq] at H
          obtain ⟨rfl, rfl⟩ := H
          go_enter Try.func68, Try.ntmps68
          go_wp2_with (first | ((with_reducible refine gate_dst (N := 3) rfl ?_); (try (refine gate_guard (by rfl) ?_; dsimp only)); refine box_event ?hg (N := 3) ?hd (cs := #[.int .i64 a1_0, .int .i64 a1_1, .int .i64 a1_2]) (t := 83) ?hr ?_; (case hd => rfl); (case hg => rfl); (case hr => first | (go_simp; done) | (go_simp; rfl)); intro gb108 hg w13 hbox hb; have n0_ := Aside0.mk (below_step (by repeat (first | (with_reducible first | exact HB.out | apply below_alloc | apply pw_below_drewN | apply below_drew1) | exact HB.out)) hb); have n1_ := Aside0.mk (hbox); have n2_ := Aside0.mk ((by rw [hg]; exact (below_size (by repeat (first | (with_reducible first | exact HB.out | apply below_alloc | apply pw_below_drewN | apply below_drew1) | exact HB.out))) : w.heap.size ≤ gb108)); have n3_ := Aside0.mk ((by rw [hg]; exact (below_size (by repeat (first | (with_reducible first | exact HB.out | apply below_alloc | apply pw_below_drewN | apply below_drew1) | exact HB.out))) : w.heap.size ≤ gb108)); clear HB; have HB := n0_; have BK108 := n1_; have GW108 := n2_; have GE108 := n3_; clear n0_ n1_ n2_ n3_; clear hb hbox hg; have hcz14_0 : w13.cell? ⟨gb108, 0, none⟩ = some (.int .i64 a1_0) := (blk_cell BK108.out 0).trans rfl; have hcz14_1 : w13.cell? ⟨gb108, 1, none⟩ = some (.int .i64 a1_1) := (blk_cell BK108.out 1).trans rfl; have hcz14_2 : w13.cell? ⟨gb108, 2, none⟩ = some (.int .i64 a1_2) := (blk_cell BK108.out 2).trans rfl; have hfz14_0 := blk_frozen BK108.out 0; have hfz14_1 := blk_frozen BK108.out 1; have hfz14_2 := blk_frozen BK108.out 2))
          go_ret2
          exact ⟨by first | rfl | (simp [errW_none, errW_some] <;> rfl) | (simp [*, errW_none, errW_some] <;> rfl), by repeat (first | (with_reducible first | exact HB.out | apply below_alloc | apply pw_below_drewN | apply below_drew1 | refine below_set ?_ GE108.out) | exact HB.out)⟩
        · rw [if_neg c12] at H
          have c12b0 : decide ((a0.size : Int) < a1_2) = false := decide_eq_false c12
          clear c12
          by_cases c15 : 0 ≤ a1_0
          · rw [if_pos c15] at H
            have c15b0 := eq_true c15
            have c15b1 : decide (0 ≤ a1_0) = true := decide_eq_true c15
            clear c15
            by_cases c16 : a1_0 ≤ a1_1
            · rw [if_pos c16] at H
              have c16b0 := eq_true c16
              have c16b1 : decide (a1_0 ≤ a1_1) = true := decide_eq_true c16
              clear c16
              by_cases c17 : a1_1 ≤ (a0.size : Int)
              · rw [if_pos c17] at H
                have c17b0 := eq_true c17
                have c17b1 : decide (a1_1 ≤ (a0.size : Int)) = true := decide_eq_true c17
                clear c17
                simp only [Option.some.injEq, Prod.mk.injEq] at H
                obtain ⟨rfl, rfl⟩ := H
                go_enter Try.func68, Try.ntmps68
                go_wp2_with (first | ((with_reducible refine gate_dst (N := 3) rfl ?_); (try (refine gate_guard (by rfl) ?_; dsimp only)); refine box_event ?hg (N := 3) ?hd (cs := #[.int .i64 a1_0, .int .i64 a1_1, .int .i64 a1_2]) (t := 83) ?hr ?_; (case hd => rfl); (case hg => rfl); (case hr => first | (go_simp; done) | (go_simp; rfl)); intro gb108 hg w18 hbox hb; have n0_ := Aside0.mk (below_step (by repeat (first | (with_reducible first | exact HB.out | apply below_alloc | apply pw_below_drewN | apply below_drew1) | exact HB.out)) hb); have n1_ := Aside0.mk (hbox); have n2_ := Aside0.mk ((by rw [hg]; exact (below_size (by repeat (first | (with_reducible first | exact HB.out | apply below_alloc | apply pw_below_drewN | apply below_drew1) | exact HB.out))) : w.heap.size ≤ gb108)); have n3_ := Aside0.mk ((by rw [hg]; exact (below_size (by repeat (first | (with_reducible first | exact HB.out | apply below_alloc | apply pw_below_drewN | apply below_drew1) | exact HB.out))) : w.heap.size ≤ gb108)); clear HB; have HB := n0_; have BK108 := n1_; have GW108 := n2_; have GE108 := n3_; clear n0_ n1_ n2_ n3_; clear hb hbox hg; have hcz19_0 : w18.cell? ⟨gb108, 0, none⟩ = some (.int .i64 a1_0) := (blk_cell BK108.out 0).trans rfl; have hcz19_1 : w18.cell? ⟨gb108, 1, none⟩ = some (.int .i64 a1_1) := (blk_cell BK108.out 1).trans rfl; have hcz19_2 : w18.cell? ⟨gb108, 2, none⟩ = some (.int .i64 a1_2) := (blk_cell BK108.out 2).trans rfl; have hfz19_0 := blk_frozen BK108.out 0; have hfz19_1 := blk_frozen BK108.out 1; have hfz19_2 := blk_frozen BK108.out 2))
                go_ret2
                exact ⟨by first | rfl | (simp [errW_none, errW_some] <;> rfl) | (simp [*, errW_none, errW_some] <;> rfl), by repeat (first | (with_reducible first | exact HB.out | apply below_alloc | apply pw_below_drewN | apply below_drew1 | refine below_set ?_ GE108.out) | exact HB.out)⟩
              · rw [if_neg c17] at H
                exact absurd H (by simp)
            · rw [if_neg c16] at H
              exact absurd H (by simp)
          · rw [if_neg c15] at H
            exact absurd H (by simp)

end Go.Proofs.Ytgbnbjajaaggkaa.Q
