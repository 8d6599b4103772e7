-- Written by hookprint.py (a program of this project, over the kit's printer). Not trusted: Lean checks it.
import Derived.Test.YtbdjcfaocmhdnaaQx0
namespace Go.Proofs.Ytbdjcfaocmhdnaa.Q
open Go.RowKit Go.Proofs.YtbdjcfaocmhdnaaW.PrintWords Go.Proofs.YtbdjcfaocmhdnaaW.PrintLast Go.Proofs.YtbdjcfaocmhdnaaW.PrintMore
attribute [local go_sem] max2_int min2_int max_two min_two max_three min_three max_four min_four   -- for this text's walks alone
set_option linter.unusedVariables false
set_option linter.unusedSimpArgs false

/-! ### stringslite_HasPrefix: function 27 -/
def stringslite_HasPrefix.f (a0 : ByteArray) (a1 : ByteArray) : Option (Bool) := if (a0.size : Int) ≥ (a1.size : Int) then (if 0 ≤ (a1.size : Int) then (if (a1.size : Int) ≤ (a0.size : Int) then (some ((a0.extract 0 ((a1.size : Int) : Int).toNat).toList == a1.toList)) else (none)) else (none)) else (some false)
set_option maxHeartbeats 8000000 in
set_option maxRecDepth 100000 in
theorem stringslite_HasPrefix.calls (a0 : ByteArray) (a1 : ByteArray) (r : Bool) (w : World) (h : stringslite_HasPrefix.f a0 a1 = some r) :
    Calls Try.prog 27 #[.string a0, .string a1] w fun e w' => e = .returned (.bool r) ∧ Drawn0 w w' := by
  have H : (if (a0.size : Int) ≥ (a1.size : Int) then (if 0 ≤ (a1.size : Int) then (if (a1.size : Int) ≤ (a0.size : Int) then (some ((a0.extract 0 ((a1.size : Int) : Int).toNat).toList == a1.toList)) else (none)) else (none)) else (some false)) = some r := h
  clear h
  by_cases c3 : (a0.size : Int) ≥ (a1.size : Int)
  · rw [if_pos c3] at H
    have c3b0 : decide ((a1.size : Int) ≤ (a0.size : Int)) = true := decide_eq_true c3
    have c3b1 : decide (a1.size ≤ a0.size) = true := decide_eq_true (Int.ofNat_le.mp c3)
    clear c3
    by_cases c4 : 0 ≤ (a1.size : Int)
    · rw [if_pos c4] at H
      have c4b0 := eq_true c4
      have c4b1 : decide (0 ≤ (a1.size : Int)) = true := decide_eq_true c4
      clear c4
      by_cases c5 : (a1.size : Int) ≤ (a0.size : Int)
      · rw [if_pos c5] at H
        have c5b0 := eq_true c5
        have c5b1 : decide ((a1.size : Int) ≤ (a0.size : Int)) = true := decide_eq_true c5
        clear c5
        obtain rfl := Option.some.inj H
        go_enter Try.func27, Try.ntmps27
        go_wp2
        go_ret
        exact ⟨by first | rfl | (simp; done) | (simp [*]; done), by repeat (first | exact Drawn0.refl _ | apply Drawn0.step)⟩
      · rw [if_neg c5] at H
        exact absurd H (by simp)
    · rw [if_neg c4] at H
      exact absurd H (by simp)
  · rw [if_neg c3] at H
    have c3b0 : decide ((a1.size : Int) ≤ (a0.size : Int)) = false := decide_eq_false c3
    have c3b1 : decide (a1.size ≤ a0.size) = false := decide_eq_false (fun h => c3 (Int.ofNat_le.mpr h))
    clear c3
    obtain rfl := Option.some.inj H
    go_enter Try.func27, Try.ntmps27
    go_wp2
    go_ret
    exact ⟨by first | rfl | (simp; done) | (simp [*]; done), by repeat (first | exact Drawn0.refl _ | apply Drawn0.step)⟩

/-! ### strings_HasPrefix: function 25 -/
def strings_HasPrefix.f (a0 : ByteArray) (a1 : ByteArray) : Option (Bool) := (stringslite_HasPrefix.f a0 a1).bind fun t101 => (some t101)
set_option maxHeartbeats 8000000 in
set_option maxRecDepth 100000 in
theorem strings_HasPrefix.calls (a0 : ByteArray) (a1 : ByteArray) (r : Bool) (w : World) (h : strings_HasPrefix.f a0 a1 = some r) :
    Calls Try.prog 25 #[.string a0, .string a1] w fun e w' => e = .returned (.bool r) ∧ Drawn0 w w' := by
  have H : ((stringslite_HasPrefix.f a0 a1).bind fun t101 => (some t101)) = some r := h
  clear h
  replace H := Option.bind_eq_some_iff.mp H
  obtain ⟨t101, A30, H⟩ := H
  replace H : (some t101) = some r := H
  have A3 := Aside0.mk A30
  clear A30
  obtain rfl := Option.some.inj H
  go_enter Try.func25, Try.ntmps25
  go_wp2_with (first | ((with_reducible refine gate_callee (f := 27) rfl ?_); refine goesL_ (some 7) rfl rfl Try.func27 (by kernel_rfl) rfl #[.string a0, .string a1] rfl (by (try simp only [List.map_toArray, List.map_cons, List.map_nil]); first | done | rfl | (simp only [List.length_drop, List.length_take]; rfl)) ?_; (with_reducible refine (stringslite_HasPrefix.calls a0 a1 t101 _ A3.out).mono ?_); rintro e w' ⟨rfl, ⟨nd, rfl⟩⟩; refine ⟨_, rfl, ?_⟩))
  go_ret
  exact ⟨by first | rfl | (simp; done) | (simp [*]; done), by repeat (first | exact Drawn0.refl _ | apply Drawn0.step)⟩

/-! ### brk_Break: function 22 -/
/-- How many bytes a break has with which bytes begin. -/
def brkL (old : Bool) : List UInt8 → Nat
  | [] => 0
  | c :: l =>
    if c = 13 then (if l.head? = some 10 then 2 else 1)
    else if c = 10 then 1
    else if old = true ∧ c = 194 ∧ l.head? = some 133 then 2
    else if old = true ∧ c = 226 ∧ (l.take 2 = [128, 168] ∨ l.take 2 = [128, 169]) then 3
    else 0
def brk_Break.f (a0 : Int) (a1 : ByteArray) (a2 : Int) : Option Int :=
  if a1.size ≤ 140737488351232 then some (if 0 ≤ a2 then (brkL (a0 == 11) (a1.data.toList.drop a2.toNat) : Nat) else 0) else none

theorem brk_Break.cases_old (c : UInt8) (l : List UInt8) : (brkL true (c :: l) : Nat) = if Lib.hasPrefix (c :: l) [226, 128, 168] = true ∨ Lib.hasPrefix (c :: l) [226, 128, 169] = true then 3 else if Lib.hasPrefix (c :: l) [194, 133] = true ∨ Lib.hasPrefix (c :: l) [13, 10] = true then 2 else if c = 13 ∨ c = 10 then 1 else 0 := by
  unfold brkL Lib.hasPrefix
  rcases l with _ | ⟨d, _ | ⟨e, l⟩⟩
  · by_cases h1 : c = 13 <;> by_cases h2 : c = 10 <;> simp_all
  · by_cases h1 : c = 13 <;> by_cases h2 : c = 10 <;> by_cases h3 : c = 194 <;> simp_all <;> grind
  · by_cases h1 : c = 13 <;> by_cases h2 : c = 10 <;> by_cases h3 : c = 194 <;> by_cases h4 : c = 226 <;> simp_all <;> grind
theorem brk_Break.cases_new (c : UInt8) (l : List UInt8) : (brkL false (c :: l) : Nat) = if Lib.hasPrefix (c :: l) [13, 10] = true then 2 else if c = 13 ∨ c = 10 then 1 else 0 := by
  unfold brkL Lib.hasPrefix
  rcases l with _ | ⟨d, l⟩
  · by_cases h1 : c = 13 <;> by_cases h2 : c = 10 <;> simp_all
  · by_cases h1 : c = 13 <;> by_cases h2 : c = 10 <;> simp_all <;> grind
theorem brk_Break.out (a0 : Int) (a1 : ByteArray) (a2 : Int) (w : World) (hs : a1.size ≤ 140737488351232) (h : a2 < 0 ∨ (a1.size : Int) ≤ a2) :
    Calls Try.prog 22 #[.int .i64 a0, .string a1, .int .i64 a2] w fun e w' => e = .returned (.int .i64 0) ∧ w' = w := by
  rcases h with h | h
  · go_enter Try.func22, Try.ntmps22
    go_wp2
    go_ret
    exact ⟨rfl, rfl⟩
  · by_cases h0 : a2 < 0
    · clear h
      go_enter Try.func22, Try.ntmps22
      go_wp2
      go_ret
      exact ⟨rfl, rfl⟩
    · have h1 : 0 ≤ a2 := by omega
      clear h0
      go_enter Try.func22, Try.ntmps22
      go_wp2
      go_ret
      exact ⟨rfl, rfl⟩
set_option maxHeartbeats 8000000 in
theorem brk_Break.walk (v : Int) (s : ByteArray) (n : Nat) (w : World) (hs : s.size ≤ 140737488351232) (hn : n < s.size) (b1 b2 b3 b4 c1 c2 : Bool)
    (h1 : ∀ w, Calls Try.prog 25 #[.string (s.extract n s.size), .string ⟨#[226, 128, 168]⟩] w fun e w' => e = .returned (.bool b1) ∧ w' = w)
    (h2 : ∀ w, Calls Try.prog 25 #[.string (s.extract n s.size), .string ⟨#[226, 128, 169]⟩] w fun e w' => e = .returned (.bool b2) ∧ w' = w)
    (h3 : ∀ w, Calls Try.prog 25 #[.string (s.extract n s.size), .string ⟨#[194, 133]⟩] w fun e w' => e = .returned (.bool b3) ∧ w' = w)
    (h4 : ∀ w, Calls Try.prog 25 #[.string (s.extract n s.size), .string ⟨#[13, 10]⟩] w fun e w' => e = .returned (.bool b4) ∧ w' = w)
    (hz : 0 < (s.extract n s.size).size) (hc1 : (((s.extract n s.size)[0].toNat : Int) == 13) = c1) (hc2 : (((s.extract n s.size)[0].toNat : Int) == 10) = c2) :
    Calls Try.prog 22 #[.int .i64 v, .string s, .int .i64 n] w fun e w' => e = .returned (.int .i64 (if v = 11 ∧ (b1 = true ∨ b2 = true) then 3 else if (v = 11 ∧ b3 = true) ∨ b4 = true then 2 else if c1 = true ∨ c2 = true then 1 else 0)) ∧ w' = w := by
  have hn' : (n : Int) ≤ s.size := by omega
  by_cases hv : v = 11
  · subst hv
    cases b1
    · cases b2
      · cases b3
        · cases b4
          · cases c1
            · cases c2
              all_goals
                simp only [true_and, Bool.false_eq_true, or_false, false_or, if_false, if_true]
                go_enter Try.func22, Try.ntmps22
                go_wp2_with (first | ((with_reducible refine (h1 _).mono ?_); rintro e w' ⟨rfl, rfl⟩) | ((with_reducible refine (h2 _).mono ?_); rintro e w' ⟨rfl, rfl⟩) | ((with_reducible refine (h3 _).mono ?_); rintro e w' ⟨rfl, rfl⟩) | ((with_reducible refine (h4 _).mono ?_); rintro e w' ⟨rfl, rfl⟩))
                go_ret
                exact ⟨rfl, rfl⟩
            · simp only [true_and, Bool.false_eq_true, or_false, false_or, true_or, if_false, if_true]
              go_enter Try.func22, Try.ntmps22
              go_wp2_with (first | ((with_reducible refine (h1 _).mono ?_); rintro e w' ⟨rfl, rfl⟩) | ((with_reducible refine (h2 _).mono ?_); rintro e w' ⟨rfl, rfl⟩) | ((with_reducible refine (h3 _).mono ?_); rintro e w' ⟨rfl, rfl⟩) | ((with_reducible refine (h4 _).mono ?_); rintro e w' ⟨rfl, rfl⟩))
              go_ret
              exact ⟨rfl, rfl⟩
          · clear hc1 hc2
            simp only [true_and, Bool.false_eq_true, or_false, false_or, true_or, if_false, if_true]
            go_enter Try.func22, Try.ntmps22
            go_wp2_with (first | ((with_reducible refine (h1 _).mono ?_); rintro e w' ⟨rfl, rfl⟩) | ((with_reducible refine (h2 _).mono ?_); rintro e w' ⟨rfl, rfl⟩) | ((with_reducible refine (h3 _).mono ?_); rintro e w' ⟨rfl, rfl⟩) | ((with_reducible refine (h4 _).mono ?_); rintro e w' ⟨rfl, rfl⟩))
            go_ret
            exact ⟨rfl, rfl⟩
        · clear hc1 hc2 h4
          simp only [true_and, Bool.false_eq_true, or_false, false_or, true_or, if_false, if_true]
          go_enter Try.func22, Try.ntmps22
          go_wp2_with (first | ((with_reducible refine (h1 _).mono ?_); rintro e w' ⟨rfl, rfl⟩) | ((with_reducible refine (h2 _).mono ?_); rintro e w' ⟨rfl, rfl⟩) | ((with_reducible refine (h3 _).mono ?_); rintro e w' ⟨rfl, rfl⟩))
          go_ret
          exact ⟨rfl, rfl⟩
      · clear hc1 hc2 h4 h3
        simp only [true_and, Bool.false_eq_true, or_false, false_or, true_or, if_false, if_true]
        go_enter Try.func22, Try.ntmps22
        go_wp2_with (first | ((with_reducible refine (h1 _).mono ?_); rintro e w' ⟨rfl, rfl⟩) | ((with_reducible refine (h2 _).mono ?_); rintro e w' ⟨rfl, rfl⟩))
        go_ret
        exact ⟨rfl, rfl⟩
    · clear hc1 hc2 h4 h3 h2
      simp only [true_and, Bool.false_eq_true, or_false, false_or, true_or, if_false, if_true]
      go_enter Try.func22, Try.ntmps22
      go_wp2_with ((with_reducible refine (h1 _).mono ?_); rintro e w' ⟨rfl, rfl⟩)
      go_ret
      exact ⟨rfl, rfl⟩
  · clear h1 h2 h3
    simp only [hv, false_and, false_or, if_false]
    have hv1 : (v == 11) = false := by rw [beq_eq_false_iff_ne]; exact hv
    clear hv
    cases b4
    · cases c1
      · cases c2
        all_goals
          simp only [Bool.false_eq_true, or_false, false_or, if_false, if_true]
          go_enter Try.func22, Try.ntmps22
          go_wp2_with ((with_reducible refine (h4 _).mono ?_); rintro e w' ⟨rfl, rfl⟩)
          go_ret
          exact ⟨rfl, rfl⟩
      · simp only [Bool.false_eq_true, or_false, false_or, true_or, if_false, if_true]
        go_enter Try.func22, Try.ntmps22
        go_wp2_with ((with_reducible refine (h4 _).mono ?_); rintro e w' ⟨rfl, rfl⟩)
        go_ret
        exact ⟨rfl, rfl⟩
    · clear hc1 hc2
      simp only [if_true]
      go_enter Try.func22, Try.ntmps22
      go_wp2_with ((with_reducible refine (h4 _).mono ?_); rintro e w' ⟨rfl, rfl⟩)
      go_ret
      exact ⟨rfl, rfl⟩
theorem brk_Break.calls (a0 : Int) (a1 : ByteArray) (a2 : Int) (r : Int) (w : World) (h : brk_Break.f a0 a1 a2 = some r) :
    Calls Try.prog 22 #[.int .i64 a0, .string a1, .int .i64 a2] w fun e w' => e = .returned (.int .i64 r) ∧ Drawn0 w w' := by
  unfold brk_Break.f at h
  split at h
  · rename_i hs
    obtain rfl := Option.some.inj h
    clear h
    by_cases ho : a2 < 0 ∨ (a1.size : Int) ≤ a2
    · refine (brk_Break.out a0 a1 a2 w hs ho).mono fun e w' h => ⟨?_, by rw [h.2]; exact Drawn0.refl _⟩
      rw [h.1]
      split
      · rw [List.drop_eq_nil_of_le (by simp; omega)]
        rfl
      · rfl
    · obtain ⟨n, rfl⟩ : ∃ n : Nat, a2 = n := ⟨a2.toNat, by omega⟩
      have hn : n < a1.size := by omega
      have hl : (a1.extract n a1.size).data.toList = a1.data.toList.drop n := by
        rw [Lib.extract_data, List.take_of_length_le (by simp)]
      have hd : a1.data.toList.drop n = a1[n] :: a1.data.toList.drop (n + 1) := by
        rw [List.drop_eq_getElem_cons (by simpa using hn)]; rfl
      have hz : 0 < (a1.extract n a1.size).size := by simp; omega
      have h0 : (a1.extract n a1.size)[0] = a1[n] := by
        have h2 : (a1.extract n a1.size).data.toList[0]? = some (a1[n]) := by rw [hl, hd]; rfl
        have h3 : (a1.extract n a1.size).data.toList[0]? = some ((a1.extract n a1.size)[0]) := by
          rw [List.getElem?_eq_getElem (by simpa using hz)]; rfl
        rw [h2] at h3
        exact (Option.some.inj h3).symm
      refine (brk_Break.walk a0 a1 n w hs hn _ _ _ _ _ _ (fun w => Try.strings_HasPrefix _ _ w) (fun w => Try.strings_HasPrefix _ _ w) (fun w => Try.strings_HasPrefix _ _ w) (fun w => Try.strings_HasPrefix _ _ w) hz rfl rfl).mono fun e w' h => ⟨?_, by rw [h.2]; exact Drawn0.refl _⟩
      rw [h.1, hl, hd, h0, if_pos (show 0 ≤ (n : Int) by omega)]
      have e1 : ((n : Int)).toNat = n := by omega
      rw [e1, hd]
      congr 2
      have q : ∀ x : Nat, x < 256 → ((((a1[n]).toNat : Int) == (x : Int)) = true ↔ a1[n] = UInt8.ofNat x) := fun x hx => by
        rw [beq_iff_eq]
        constructor
        · intro h
          apply UInt8.toNat_inj.1
          simp
          omega
        · intro h
          rw [h]
          simp
          omega
      have q13 : (((a1[n]).toNat : Int) == 13) = true ↔ a1[n] = 13 := q 13 (by decide)
      have q10 : (((a1[n]).toNat : Int) == 10) = true ↔ a1[n] = 10 := q 10 (by decide)
      by_cases hv : a0 = 11
      · subst hv
        rw [show ((11 : Int) == 11) = true from rfl, brk_Break.cases_old]
        simp only [true_and, eq_self]
        by_cases k1 : Lib.hasPrefix (a1[n] :: a1.data.toList.drop (n + 1)) [226, 128, 168] = true ∨ Lib.hasPrefix (a1[n] :: a1.data.toList.drop (n + 1)) [226, 128, 169] = true
        · rw [if_pos k1, if_pos k1]; rfl
        · rw [if_neg k1, if_neg k1]
          by_cases k2 : Lib.hasPrefix (a1[n] :: a1.data.toList.drop (n + 1)) [194, 133] = true ∨ Lib.hasPrefix (a1[n] :: a1.data.toList.drop (n + 1)) [13, 10] = true
          · rw [if_pos k2, if_pos k2]; rfl
          · rw [if_neg k2, if_neg k2]
            by_cases k3 : a1[n] = 13 ∨ a1[n] = 10
            · rw [if_pos k3, if_pos (k3.imp q13.2 q10.2)]; rfl
            · rw [if_neg k3, if_neg (fun h => k3 (h.imp q13.1 q10.1))]; rfl
      · rw [show (a0 == 11) = false from by rw [beq_eq_false_iff_ne]; exact hv, brk_Break.cases_new]
        simp only [hv, false_and, false_or, if_false]
        by_cases k2 : Lib.hasPrefix (a1[n] :: a1.data.toList.drop (n + 1)) [13, 10] = true
        · rw [if_pos k2, if_pos k2]; rfl
        · rw [if_neg k2, if_neg k2]
          by_cases k3 : a1[n] = 13 ∨ a1[n] = 10
          · rw [if_pos k3, if_pos (k3.imp q13.2 q10.2)]; rfl
          · rw [if_neg k3, if_neg (fun h => k3 (h.imp q13.1 q10.1))]; rfl
  · cases h


/-! ### mark_counts: function 23 -/
def mark_counts.f (a0 : Int) : Option (Bool) := if a0 < 128 then (some true) else (some (decide (a0 ≥ 192)))
set_option maxHeartbeats 8000000 in
set_option maxRecDepth 100000 in
theorem mark_counts.calls (a0 : Int) (r : Bool) (w : World) (h : mark_counts.f a0 = some r) :
    Calls Try.prog 23 #[.int .u8 a0] w fun e w' => e = .returned (.bool r) ∧ Drawn0 w w' := by
  have H : (if a0 < 128 then (some true) else (some (decide (a0 ≥ 192)))) = some r := h
  clear h
  by_cases c2 : a0 < 128
  · rw [if_pos c2] at H
    have c2b0 : decide (a0 < 128) = true := decide_eq_true c2
    clear c2
    obtain rfl := Option.some.inj H
    go_enter Try.func23, Try.ntmps23
    go_wp2
    go_ret
    exact ⟨by first | rfl | (simp; done) | (simp [*]; done), by repeat (first | exact Drawn0.refl _ | apply Drawn0.step)⟩
  · rw [if_neg c2] at H
    have c2b0 : decide (a0 < 128) = false := decide_eq_false c2
    clear c2
    obtain rfl := Option.some.inj H
    go_enter Try.func23, Try.ntmps23
    go_wp2
    go_ret
    exact ⟨by first | rfl | (simp; done) | (simp [*]; done), by repeat (first | exact Drawn0.refl _ | apply Drawn0.step)⟩

-- NOT PRINTED: function 10 (mark_Way)

-- NOT PRINTED: function 14 (mark_Go)

-- NOT PRINTED: function 15 (mark_Off)

-- NOT PRINTED: function 17 (mark_Less)

-- NOT PRINTED: function 8 (targumlaw3_known)

/-! ### targumref1_IsScalar: function 26 -/
def targumref1_IsScalar.f (a0 : Int) : Option (Bool) := if a0 ≥ 0 then (if a0 ≤ 1114111 then (if a0 < 55296 then (some true) else (some (decide (a0 > 57343)))) else (some false)) else (some false)
set_option maxHeartbeats 8000000 in
set_option maxRecDepth 100000 in
theorem targumref1_IsScalar.calls (a0 : Int) (r : Bool) (w : World) (h : targumref1_IsScalar.f a0 = some r) :
    Calls Try.prog 26 #[.int .i64 a0] w fun e w' => e = .returned (.bool r) ∧ Drawn0 w w' := by
  have H : (if a0 ≥ 0 then (if a0 ≤ 1114111 then (if a0 < 55296 then (some true) else (some (decide (a0 > 57343)))) else (some false)) else (some false)) = some r := h
  clear h
  by_cases c2 : a0 ≥ 0
  · rw [if_pos c2] at H
    have c2b0 : decide (0 ≤ a0) = true := decide_eq_true c2
    clear c2
    by_cases c3 : a0 ≤ 1114111
    · rw [if_pos c3] at H
      have c3b0 : decide (a0 ≤ 1114111) = true := decide_eq_true c3
      clear c3
      by_cases c4 : a0 < 55296
      · rw [if_pos c4] at H
        have c4b0 : decide (a0 < 55296) = true := decide_eq_true c4
        clear c4
        obtain rfl := Option.some.inj H
        go_enter Try.func26, Try.ntmps26
        go_wp2
        go_ret
        exact ⟨by first | rfl | (simp; done) | (simp [*]; done), by repeat (first | exact Drawn0.refl _ | apply Drawn0.step)⟩
      · rw [if_neg c4] at H
        have c4b0 : decide (a0 < 55296) = false := decide_eq_false c4
        clear c4
        obtain rfl := Option.some.inj H
        go_enter Try.func26, Try.ntmps26
        go_wp2
        go_ret
        exact ⟨by first | rfl | (simp; done) | (simp [*]; done), by repeat (first | exact Drawn0.refl _ | apply Drawn0.step)⟩
    · rw [if_neg c3] at H
      have c3b0 : decide (a0 ≤ 1114111) = false := decide_eq_false c3
      clear c3
      obtain rfl := Option.some.inj H
      go_enter Try.func26, Try.ntmps26
      go_wp2
      go_ret
      exact ⟨by first | rfl | (simp; done) | (simp [*]; done), by repeat (first | exact Drawn0.refl _ | apply Drawn0.step)⟩
  · rw [if_neg c2] at H
    have c2b0 : decide (0 ≤ a0) = false := decide_eq_false c2
    clear c2
    obtain rfl := Option.some.inj H
    go_enter Try.func26, Try.ntmps26
    go_wp2
    go_ret
    exact ⟨by first | rfl | (simp; done) | (simp [*]; done), by repeat (first | exact Drawn0.refl _ | apply Drawn0.step)⟩

end Go.Proofs.Ytbdjcfaocmhdnaa.Q
