/- Package mark: how far a text leads, where that is, what is less: walks over complex numbers of whole parts. Conditions: sizes. -/
import Derived.Test.YtbdjcfaocmhdnaaHoldQuiet
import Derived.Test.YtbdjcfaocmhdnaaMkF
import Derived.Test.YtbdjcfaocmhdnaaEvs
import Derived.Test.YtbdjcfaocmhdnaaQx1
import Derived.WalkKit
import Derived.Lib.Hide
import Derived.RegionTactic
import Derived.LoopTactic
import Derived.Outline
import Derived.IntWalk
import Derived.RegionCalls
import Derived.Deep.DeepCutAuto
namespace Go.Proofs.Ytbdjcfaocmhdnaa.Q
open Go Go.RowKit Go.Proofs Go.Proofs.Ytbdjcfaocmhdnaa.Fl Go.Proofs.YtbdjcfaocmhdnaaW.PrintWords Go.Proofs.YtbdjcfaocmhdnaaW.PrintLast Go.Proofs.YtbdjcfaocmhdnaaW.PrintMore
attribute [local go_sem] max2_int min2_int max_two min_two
set_option linter.unusedVariables false
set_option linter.unusedSimpArgs false

/-! ### complex numbers of whole parts -/
theorem D0 : D 0 = 0 := by decide +kernel
theorem D1 : D 1 = 4607182418800017408 := by decide +kernel
theorem f64_double : FloatKind.f64.format = Ieee.double := rfl
def small (n : Int) : Prop := n.natAbs < 2 ^ 52
theorem run_cx_add {P : Program} (w : World) (t : TypeId) (a b c d : Int) (ha : small a) (hb : small b) (hc : small c) (hd : small d) :
    (binOp .add t (.complex .f64 (D a) (D b)) (.complex .f64 (D c) (D d))).run P w = .ok (.complex .f64 (D (a + c)) (D (b + d))) w := by
  unfold small at ha hb hc hd
  have h1 := add_D a c (by omega) (by omega) (by omega)
  have h2 := add_D b d (by omega) (by omega) (by omega)
  simp [binOp, Op.complexOp, Op.Complex.arith, Op.floatArith, f64_double, h1, h2]
theorem run_cx_sub {P : Program} (w : World) (t : TypeId) (a b c d : Int) (ha : small a) (hb : small b) (hc : small c) (hd : small d) :
    (binOp .sub t (.complex .f64 (D a) (D b)) (.complex .f64 (D c) (D d))).run P w = .ok (.complex .f64 (D (a - c)) (D (b - d))) w := by
  unfold small at ha hb hc hd
  have h1 := sub_D a c (by omega) (by omega) (by omega)
  have h2 := sub_D b d (by omega) (by omega) (by omega)
  simp [binOp, Op.complexOp, Op.Complex.arith, Op.floatArith, f64_double, h1, h2]
theorem fl_eq {a b : Int} (ha : small a) (hb : small b) : (FloatKind.f64.format.order (D a) (D b) == some .eq) = decide (a = b) := by
  unfold small at ha hb; exact eq_D a b (by omega) (by omega)
theorem fl_lt {a b : Int} (ha : small a) (hb : small b) : (FloatKind.f64.format.order (D a) (D b) == some .lt) = decide (a < b) := by
  unfold small at ha hb; exact lt_D a b (by omega) (by omega)
theorem fl_gt {a b : Int} (ha : small a) (hb : small b) : (FloatKind.f64.format.order (D a) (D b) == some .gt) = decide (b < a) := by
  unfold small at ha hb
  rw [f64_double, order_D a b (by omega) (by omega)]
  rcases Int.lt_trichotomy a b with h | h | h
  · rw [Int.compare_eq_lt.2 h, decide_eq_false (by omega)]; rfl
  · rw [Int.compare_eq_eq.2 h, decide_eq_false (by omega)]; rfl
  · rw [Int.compare_eq_gt.2 h, decide_eq_true h]; rfl
theorem small_nat {n : Nat} (h : n ≤ 1000000) : small (n : Int) := by unfold small; omega
theorem small_le {n : Int} (h1 : -1000000 ≤ n) (h2 : n ≤ 1000000) : small n := by unfold small; omega

theorem drawn_trans {w1 w2 w3 : World} (h : Drawn0 w1 w2) (h2 : Drawn0 w2 w3) : Drawn0 w1 w3 := by
  obtain ⟨n, rfl⟩ := h2
  exact h.step n

/-! ### breaks -/
def brkN (v : Int) (s : ByteArray) (a : Nat) : Nat := brkL (v == 11) (s.data.toList.drop a)
theorem brkL_le (b : Bool) (l : List UInt8) : brkL b l ≤ l.length := by
  cases l with
  | nil => exact Nat.le_refl _
  | cons c l =>
    unfold brkL
    simp only [List.length_cons]
    split
    · split
      · rename_i h
        cases l with
        | nil => exact nomatch h
        | cons d l => simp only [List.length_cons]; omega
      · omega
    · split
      · omega
      · split
        · rename_i h
          cases l with
          | nil => exact nomatch h.2.2
          | cons d l => simp only [List.length_cons]; omega
        · split
          · rename_i h
            rcases l with _ | ⟨d, _ | ⟨e, l⟩⟩
            · rcases h.2.2 with h | h <;> exact nomatch h
            · rcases h.2.2 with h | h <;> exact absurd h (by simp)
            · simp only [List.length_cons]; omega
          · omega
theorem brkN_le (v : Int) (s : ByteArray) (a : Nat) (ha : a ≤ s.size) : a + brkN v s a ≤ s.size := by
  have h := brkL_le (v == 11) (s.data.toList.drop a)
  rw [List.length_drop, Array.length_toList] at h
  have : s.data.size = s.size := rfl
  unfold brkN
  omega
theorem brkL_3 (b : Bool) (l : List UInt8) : brkL b l ≤ 3 := by
  cases l with
  | nil => exact Nat.zero_le _
  | cons c l =>
    unfold brkL
    simp only
    repeat' split
    all_goals omega
theorem brk_says (v : Int) (s : ByteArray) (hs : s.size ≤ 1000000) (a : Nat) (w : World) : Calls Try.prog 22 #[.int .i64 v, .string s, .int .i64 a] w fun e w' => e = .returned (.int .i64 (brkN v s a)) ∧ Drawn0 w w' := by
  refine brk_Break.calls v s a _ w ?_
  unfold brk_Break.f brkN
  rw [if_pos (by omega), if_pos (by omega), Int.toNat_natCast]

/-! ### how far a text leads -/
def cntB (c : UInt8) : Bool := decide (c.toNat < 128 ∨ 192 ≤ c.toNat)
theorem counts_says (c : UInt8) (w : World) : Calls Try.prog 23 #[.int .u8 (c.toNat : Int)] w fun e w' => e = .returned (.bool (cntB c)) ∧ Drawn0 w w' := by
  refine mark_counts.calls _ _ w ?_
  unfold mark_counts.f cntB
  by_cases h : (c.toNat : Int) < 128
  · rw [if_pos h, decide_eq_true (by omega)]
  · rw [if_neg h]
    congr 1
    rw [decide_eq_decide]
    omega
def wayL (o : Bool) : Nat → List UInt8 → Nat × Nat → Nat × Nat
  | 0, _, p => p
  | _ + 1, [], p => p
  | n + 1, c :: l, p => if 0 < brkL o (c :: l) then wayL o n ((c :: l).drop (brkL o (c :: l))) (p.1 + 1, 0) else wayL o n l (if cntB c = true then (p.1, p.2 + 1) else p)
theorem wayL_any (o : Bool) : ∀ (n m : Nat) (l : List UInt8) (p : Nat × Nat), l.length ≤ n → l.length ≤ m → wayL o n l p = wayL o m l p := by
  intro n
  induction n with
  | zero =>
    intro m l p hn hm
    obtain rfl : l = [] := List.eq_nil_of_length_eq_zero (by omega)
    cases m <;> rfl
  | succ n ih =>
    intro m l p hn hm
    cases l with
    | nil => cases m <;> rfl
    | cons c l =>
      obtain ⟨m, rfl⟩ : ∃ k, m = k + 1 := ⟨m - 1, by simp at hm; omega⟩
      simp only [List.length_cons] at hn hm
      rw [wayL, wayL]
      split
      · rename_i h
        exact ih m _ _ (by rw [List.length_drop, List.length_cons]; omega) (by rw [List.length_drop, List.length_cons]; omega)
      · exact ih m _ _ (by omega) (by omega)
theorem wayL_at (v : Int) (s : ByteArray) (k : Nat) (hlt : k < s.size) (p : Nat × Nat) : wayL (v == 11) (s.size - k) (s.data.toList.drop k) p = if 0 < brkN v s k then wayL (v == 11) (s.size - k - 1) (s.data.toList.drop (k + brkN v s k)) (p.1 + 1, 0) else wayL (v == 11) (s.size - k - 1) (s.data.toList.drop (k + 1)) (if cntB s[k] = true then (p.1, p.2 + 1) else p) := by
  have hd := drop_cons s k hlt
  obtain ⟨m, hm⟩ : ∃ m, s.size - k = m + 1 := ⟨s.size - k - 1, by omega⟩
  have hb : brkN v s k = brkL (v == 11) (s[k] :: s.data.toList.drop (k + 1)) := by unfold brkN; rw [hd]
  rw [← List.drop_drop, hb, hm, Nat.add_sub_cancel, hd, wayL]
/-- How far a text leads: lines, columns. -/
def way (v : Int) (s : ByteArray) : Nat × Nat := wayL (v == 11) s.size s.data.toList (0, 0)

set_option maxHeartbeats 8000000 in
set_option maxRecDepth 100000 in
theorem Way_says (v : Int) (s : ByteArray) (hs : s.size ≤ 1000000) (w : World) :
    Calls Try.prog 10 #[.int .i64 v, .string s] w fun e w' => e = .returned (.complex .f64 (D (way v s).1) (D (way v s).2)) ∧ Drawn0 w w' := by
  have cB := fun a w => brk_says v s hs a w
  have cC := counts_says
  obtain ⟨R, hR⟩ : ∃ R, way v s = R := ⟨_, rfl⟩
  rw [hR]
  have HR := Lib.hid hR
  clear hR
  go_enter Try.func10, Try.ntmps10
  go_wp2
  go_loopw [5, 6] (fun p i wr => ∃ a b k : Nat, a ≤ k ∧ b ≤ k ∧ k ≤ s.size ∧ i = .int .i64 k ∧ p = .complex .f64 (D a) (D b) ∧ Hid (wayL (v == 11) (s.size - k) (s.data.toList.drop k) (a, b) = R) ∧ Drawn0 w wr) (fun _ i _ => s.size - (intOf i).toNat)
  case atStart => exact ⟨0, 0, 0, Nat.le_refl _, Nat.le_refl _, Nat.zero_le _, rfl, by show _ = Value.complex .f64 (D 0) (D 0); rw [D0], Lib.hid (by rw [List.drop_zero]; exact HR.out), Drawn0.refl _⟩
  case round =>
    obtain ⟨a, b, k, ha, hb, hk, rfl, rfl, H, hd⟩ := hrel
    by_cases hlt : k < s.size
    · have hbl := brkN_le v s k hk
      have cBk := fun w => cB k w
      have hwl := wayL_at v s k hlt (a, b)
      by_cases hbr : 0 < brkN v s k
      · have Hn : Hid (wayL (v == 11) (s.size - (k + brkN v s k)) (s.data.toList.drop (k + brkN v s k)) (a + 1, 0) = R) := Lib.hid (by
          have h := H.out
          rw [hwl, if_pos hbr] at h
          rw [← h]
          exact wayL_any _ _ _ _ _ (by rw [List.length_drop, Array.length_toList]; exact Nat.le_refl _) (by rw [List.length_drop, Array.length_toList]; show s.size - _ ≤ _; omega))
        have hadd : ∀ w, (binOp .add 26 (.complex .f64 (D a) 0) (.complex .f64 4607182418800017408 0)).run Try.prog w = .ok (.complex .f64 (D ((a + 1 : Nat) : Int)) (D ((0 : Nat) : Int))) w := fun w => by
          have := run_cx_add (P := Try.prog) w 26 a 0 1 0 (small_nat (by omega)) (small_le (by omega) (by omega)) (small_le (by omega) (by omega)) (small_le (by omega) (by omega))
          rw [D1, D0] at this
          rw [this]
          show _ = Result.ok (Value.complex .f64 (D ((a : Int) + 1)) (D 0)) w
          rw [D0]
          show Result.ok (Value.complex .f64 (D ((a : Int) + 1)) (D (0 + 0))) w = _
          rw [show (0 : Int) + 0 = 0 from rfl, D0]
        clear hwl H cB
        generalize brkN v s k = n at *
        have d1 : decide ((0 : Int) < (n : Int)) = true := decide_eq_true (by omega)
        have d2 : decide (0 < n) = true := decide_eq_true hbr
        have Hadd := hadd
        go_wp2_with (first | ((with_reducible refine (cBk _).mono ?_); rintro e w' ⟨rfl, hdb⟩; replace hd := drawn_trans hd hdb; clear hdb))
        go_roundw
        case rel => exact ⟨a + 1, 0, k + n, by omega, by omega, by omega, by go_num, rfl, Hn, hd⟩
        case measure => simp [intOf]; omega
      · have h0 : brkN v s k = 0 := by omega
        rw [h0] at cBk
        have hw1 := H.out
        rw [hwl, if_neg hbr] at hw1
        clear hwl H cB hbl
        have cCk := fun w => cC s[k] w
        have d1 : decide ((0 : Int) < 0) = false := by decide
        cases hc : cntB s[k] with
        | true =>
          rw [hc] at cCk
          rw [hc, if_pos rfl] at hw1
          have Hn : Hid (wayL (v == 11) (s.size - (k + 1)) (s.data.toList.drop (k + 1)) (a, b + 1) = R) := Lib.hid hw1
          have hadd : ∀ w, (binOp .add 26 (.complex .f64 (D a) (D b)) (.complex .f64 0 4607182418800017408)).run Try.prog w = .ok (.complex .f64 (D (a : Int)) (D ((b + 1 : Nat) : Int))) w := fun w => by
            have := run_cx_add (P := Try.prog) w 26 a b 0 1 (small_nat (by omega)) (small_nat (by omega)) (small_le (by omega) (by omega)) (small_le (by omega) (by omega))
            rw [D1, D0, Int.add_zero] at this
            exact this
          clear hw1 hc cC
          go_wp2_with (first | ((with_reducible refine (cBk _).mono ?_); rintro e w' ⟨rfl, hdb⟩; replace hd := drawn_trans hd hdb; clear hdb) | ((with_reducible refine (cCk _).mono ?_); rintro e w' ⟨rfl, hdb⟩; replace hd := drawn_trans hd hdb; clear hdb))
          go_roundw
          case rel => exact ⟨a, b + 1, k + 1, by omega, by omega, by omega, by go_num, rfl, Hn, hd⟩
          case measure => simp [intOf]; omega
        | false =>
          rw [hc] at cCk
          rw [hc, if_neg (by decide)] at hw1
          have Hn : Hid (wayL (v == 11) (s.size - (k + 1)) (s.data.toList.drop (k + 1)) (a, b) = R) := Lib.hid hw1
          clear hw1 hc cC
          go_wp2_with (first | ((with_reducible refine (cBk _).mono ?_); rintro e w' ⟨rfl, hdb⟩; replace hd := drawn_trans hd hdb; clear hdb) | ((with_reducible refine (cCk _).mono ?_); rintro e w' ⟨rfl, hdb⟩; replace hd := drawn_trans hd hdb; clear hdb))
          go_roundw
          case rel => exact ⟨a, b, k + 1, by omega, by omega, by omega, by go_num, rfl, Hn, hd⟩
          case measure => simp [intOf]; omega
    · have hR := H.out
      rw [show s.size - k = 0 by omega] at hR
      have hR' : (a, b) = R := hR
      subst hR'
      have d1 : decide (k < s.size) = false := decide_eq_false hlt
      have d2 : decide ((k : Int) < (s.size : Int)) = false := decide_eq_false (by omega)
      clear cB cC H hR HR
      go_wp2
      go_ret
      exact ⟨rfl, hd⟩
end Go.Proofs.Ytbdjcfaocmhdnaa.Q
