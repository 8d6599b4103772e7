/- The law MarkTells: its walk. Conditions: sizes and numbers as the row gives them. -/
import Derived.Test.YtbdjcfaocmhdnaaMkK
import Derived.Test.YtbdjcfaocmhdnaaMkR
namespace Go.Proofs.Ytbdjcfaocmhdnaa.Q
open Go Go.RowKit Go.Proofs Go.Proofs.Ytbdjcfaocmhdnaa.Fl Go.Proofs.YtbdjcfaocmhdnaaW.PrintWords Go.Proofs.YtbdjcfaocmhdnaaW.PrintLast Go.Proofs.YtbdjcfaocmhdnaaW.PrintMore
set_option linter.unusedVariables false
set_option linter.unusedSimpArgs false

set_option maxHeartbeats 8000000 in
set_option maxRecDepth 100000 in
theorem mtells_long (s : ByteArray) (v off x y : Int) (h : 200 < s.size) (w : World) :
    Calls Try.prog 3 #[.string s, .int .i64 v, .int .i64 off, .int .i16 x, .int .i16 y] w fun e w' => e = .returned (.bool true) ∧ Below w.heap.size w w' := by
  have hd := Below.refl w.heap.size w
  have cK := known_says
  have d1 : decide ((200 : Int) < (s.size : Int)) = true := decide_eq_true (by omega)
  have d2 : decide (200 < s.size) = true := decide_eq_true h
  go_enter Try.func3, Try.ntmps3
  go_wp2_with (first | ((with_reducible refine (cK _).mono ?_); rintro e w' ⟨rfl, hdb⟩; replace hd := below_step hd hdb.below; clear hdb))
  go_ret
  exact ⟨rfl, hd⟩

set_option maxHeartbeats 16000000 in
set_option maxRecDepth 100000 in
theorem mtells_walk (s : ByteArray) (v off x y : Int) (a b c d : Nat) (g1 g2 f1 f2 : Int) (B1 B2 : Bool) (w : World) (hs : s.size ≤ 200) (hx : -32768 ≤ x ∧ x ≤ 32767) (hy : -32768 ≤ y ∧ y ≤ 32767)
    (ha : a ≤ 200) (hb : b ≤ 200) (hc : c ≤ 200) (hdd : d ≤ 200)
    (cRW : ∀ w, Calls Try.prog 9 #[.int .i64 v, .string s] w fun e w' => e = .returned (.tuple #[.int .i64 (a : Int), .int .i64 (b : Int)]) ∧ Drawn0 w w')
    (cW : ∀ w, Calls Try.prog 10 #[.int .i64 v, .string s] w fun e w' => e = .returned (.complex .f64 (D (a : Int)) (D (b : Int))) ∧ Drawn0 w w')
    (cRO : ∀ w, Calls Try.prog 12 #[.int .i64 v, .string s, .int .i64 off] w fun e w' => e = .returned (.tuple #[.int .i64 (c : Int), .int .i64 (d : Int)]) ∧ Below w.heap.size w w')
    (cO : ∀ w, Calls Try.prog 13 #[.int .i64 v, .string s, .int .i64 off] w fun e w' => e = .returned (.complex .f64 (D (c : Int)) (D (d : Int))) ∧ Drawn0 w w')
    (hg : Hid ((0 < a → g1 = x + a ∧ g2 = (b : Int)) ∧ (¬ 0 < a → g1 = x ∧ g2 = y + b)))
    (cG : ∀ w, Calls Try.prog 14 #[.int .i64 v, .complex .f64 (D x) (D y), .string s] w fun e w' => e = .returned (.complex .f64 (D g1) (D g2)) ∧ Drawn0 w w')
    (cF1 : ∀ w, Calls Try.prog 15 #[.int .i64 v, .string s, .complex .f64 (D (Int.tmod x 5)) (D (Int.tmod y 9))] w fun e w' => e = .returned (.int .i64 f1) ∧ Drawn0 w w')
    (cR1 : ∀ w, Calls Try.prog 16 #[.int .i64 v, .string s, .int .i64 (Int.tmod x 5), .int .i64 (Int.tmod y 9)] w fun e w' => e = .returned (.int .i64 f1) ∧ Below w.heap.size w w')
    (cF2 : ∀ w, Calls Try.prog 15 #[.int .i64 v, .string s, .complex .f64 (D (c : Int)) (D (d : Int))] w fun e w' => e = .returned (.int .i64 f2) ∧ Drawn0 w w')
    (cR2 : ∀ w, Calls Try.prog 16 #[.int .i64 v, .string s, .int .i64 (c : Int), .int .i64 (d : Int)] w fun e w' => e = .returned (.int .i64 f2) ∧ Below w.heap.size w w')
    (hB1 : Hid (B1 = decide (x < a ∨ x = a ∧ y < b))) (hB2 : Hid (B2 = decide ((a : Int) < x ∨ (a : Int) = x ∧ (b : Int) < y)))
    (cL1 : ∀ w, Calls Try.prog 17 #[.complex .f64 (D x) (D y), .complex .f64 (D (a : Int)) (D (b : Int))] w fun e w' => e = .returned (.bool B1) ∧ Drawn0 w w')
    (cL2 : ∀ w, Calls Try.prog 17 #[.complex .f64 (D (a : Int)) (D (b : Int)), .complex .f64 (D x) (D y)] w fun e w' => e = .returned (.bool B2) ∧ Drawn0 w w') :
    Calls Try.prog 3 #[.string s, .int .i64 v, .int .i64 off, .int .i16 x, .int .i16 y] w fun e w' => e = .returned (.bool true) ∧ Below w.heap.size w w' := by
  have hd := Below.refl w.heap.size w
  have cK := known_says
  have cP := fun (i j : Int) (w : World) => point_says i j w
  have d1 : decide ((200 : Int) < (s.size : Int)) = false := decide_eq_false (by omega)
  have d2 : decide (200 < s.size) = false := decide_eq_false (by omega)
  have self : ∀ n : Int, small n → (FloatKind.f64.format.order (D n) (D n) == some .eq) = true := fun n h => (fl_eq h h).trans (decide_eq_true rfl)
  have sa := self a (small_nat (by omega))
  have sb := self b (small_nat (by omega))
  have sc := self c (small_nat (by omega))
  have sd := self d (small_nat (by omega))
  have hgs : (-100000 ≤ g1 ∧ g1 ≤ 100000) ∧ (-100000 ≤ g2 ∧ g2 ≤ 100000) := by
    by_cases h : 0 < a
    · have := hg.out.1 h; omega
    · have := hg.out.2 h; omega
  have sg1 := self g1 (small_le (by omega) (by omega))
  have sg2 := self g2 (small_le (by omega) (by omega))
  clear self hgs
  go_enter Try.func3, Try.ntmps3
  go_upto_if 63 with (first | ((with_reducible refine (cK _).mono ?_); rintro e w' ⟨rfl, hdb⟩; replace hd := below_step hd hdb.below; clear hdb) | ((with_reducible refine (cRW _).mono ?_); rintro e w' ⟨rfl, hdb⟩; replace hd := below_step hd hdb.below; clear hdb) | ((with_reducible refine (cW _).mono ?_); rintro e w' ⟨rfl, hdb⟩; replace hd := below_step hd hdb.below; clear hdb) | ((with_reducible refine (cP _ _ _).mono ?_); rintro e w' ⟨rfl, hdb⟩; replace hd := below_step hd hdb.below; clear hdb) | ((with_reducible refine (cRO _).mono ?_); rintro e w' ⟨rfl, hdb⟩; replace hd := below_step hd hdb; clear hdb) | ((with_reducible refine (cO _).mono ?_); rintro e w' ⟨rfl, hdb⟩; replace hd := below_step hd hdb.below; clear hdb) | ((with_reducible refine (cG _).mono ?_); rintro e w' ⟨rfl, hdb⟩; replace hd := below_step hd hdb.below; clear hdb) | ((with_reducible refine (cF1 _).mono ?_); rintro e w' ⟨rfl, hdb⟩; replace hd := below_step hd hdb.below; clear hdb) | ((with_reducible refine (cR1 _).mono ?_); rintro e w' ⟨rfl, hdb⟩; replace hd := below_step hd hdb; clear hdb) | ((with_reducible refine (cF2 _).mono ?_); rintro e w' ⟨rfl, hdb⟩; replace hd := below_step hd hdb.below; clear hdb) | ((with_reducible refine (cR2 _).mono ?_); rintro e w' ⟨rfl, hdb⟩; replace hd := below_step hd hdb; clear hdb) | ((with_reducible refine (cL1 _).mono ?_); rintro e w' ⟨rfl, hdb⟩; replace hd := below_step hd hdb.below; clear hdb) | ((with_reducible refine (cL2 _).mono ?_); rintro e w' ⟨rfl, hdb⟩; replace hd := below_step hd hdb.below; clear hdb))
  generalize hq : decide (0 < a) = tq
  have Hq : Hid (tq = decide (0 < a)) := Lib.hid hq.symm
  clear hq
  go_cut [17] (fun v17 wc => v17 = .complex .f64 (D g1) (D g2) ∧ Below w.heap.size w wc)
  case first =>
    cases tq with
    | true =>
      have e1 := Lib.hid (hg.out.1 (of_decide_eq_true Hq.out.symm))
      clear hg Hq
      go_wp2_with (first | ((with_reducible refine (cK _).mono ?_); rintro e w' ⟨rfl, hdb⟩; replace hd := below_step hd hdb.below; clear hdb) | ((with_reducible refine (cRW _).mono ?_); rintro e w' ⟨rfl, hdb⟩; replace hd := below_step hd hdb.below; clear hdb) | ((with_reducible refine (cW _).mono ?_); rintro e w' ⟨rfl, hdb⟩; replace hd := below_step hd hdb.below; clear hdb) | ((with_reducible refine (cP _ _ _).mono ?_); rintro e w' ⟨rfl, hdb⟩; replace hd := below_step hd hdb.below; clear hdb) | ((with_reducible refine (cRO _).mono ?_); rintro e w' ⟨rfl, hdb⟩; replace hd := below_step hd hdb; clear hdb) | ((with_reducible refine (cO _).mono ?_); rintro e w' ⟨rfl, hdb⟩; replace hd := below_step hd hdb.below; clear hdb) | ((with_reducible refine (cG _).mono ?_); rintro e w' ⟨rfl, hdb⟩; replace hd := below_step hd hdb.below; clear hdb) | ((with_reducible refine (cF1 _).mono ?_); rintro e w' ⟨rfl, hdb⟩; replace hd := below_step hd hdb.below; clear hdb) | ((with_reducible refine (cR1 _).mono ?_); rintro e w' ⟨rfl, hdb⟩; replace hd := below_step hd hdb; clear hdb) | ((with_reducible refine (cF2 _).mono ?_); rintro e w' ⟨rfl, hdb⟩; replace hd := below_step hd hdb.below; clear hdb) | ((with_reducible refine (cR2 _).mono ?_); rintro e w' ⟨rfl, hdb⟩; replace hd := below_step hd hdb; clear hdb) | ((with_reducible refine (cL1 _).mono ?_); rintro e w' ⟨rfl, hdb⟩; replace hd := below_step hd hdb.below; clear hdb) | ((with_reducible refine (cL2 _).mono ?_); rintro e w' ⟨rfl, hdb⟩; replace hd := below_step hd hdb.below; clear hdb))
      go_meet
      case rel => exact ⟨by rw [e1.out.1, e1.out.2], hd⟩
    | false =>
      have e1 := Lib.hid (hg.out.2 (of_decide_eq_false Hq.out.symm))
      clear hg Hq
      go_wp2_with (first | ((with_reducible refine (cK _).mono ?_); rintro e w' ⟨rfl, hdb⟩; replace hd := below_step hd hdb.below; clear hdb) | ((with_reducible refine (cRW _).mono ?_); rintro e w' ⟨rfl, hdb⟩; replace hd := below_step hd hdb.below; clear hdb) | ((with_reducible refine (cW _).mono ?_); rintro e w' ⟨rfl, hdb⟩; replace hd := below_step hd hdb.below; clear hdb) | ((with_reducible refine (cP _ _ _).mono ?_); rintro e w' ⟨rfl, hdb⟩; replace hd := below_step hd hdb.below; clear hdb) | ((with_reducible refine (cRO _).mono ?_); rintro e w' ⟨rfl, hdb⟩; replace hd := below_step hd hdb; clear hdb) | ((with_reducible refine (cO _).mono ?_); rintro e w' ⟨rfl, hdb⟩; replace hd := below_step hd hdb.below; clear hdb) | ((with_reducible refine (cG _).mono ?_); rintro e w' ⟨rfl, hdb⟩; replace hd := below_step hd hdb.below; clear hdb) | ((with_reducible refine (cF1 _).mono ?_); rintro e w' ⟨rfl, hdb⟩; replace hd := below_step hd hdb.below; clear hdb) | ((with_reducible refine (cR1 _).mono ?_); rintro e w' ⟨rfl, hdb⟩; replace hd := below_step hd hdb; clear hdb) | ((with_reducible refine (cF2 _).mono ?_); rintro e w' ⟨rfl, hdb⟩; replace hd := below_step hd hdb.below; clear hdb) | ((with_reducible refine (cR2 _).mono ?_); rintro e w' ⟨rfl, hdb⟩; replace hd := below_step hd hdb; clear hdb) | ((with_reducible refine (cL1 _).mono ?_); rintro e w' ⟨rfl, hdb⟩; replace hd := below_step hd hdb.below; clear hdb) | ((with_reducible refine (cL2 _).mono ?_); rintro e w' ⟨rfl, hdb⟩; replace hd := below_step hd hdb.below; clear hdb))
      go_meet
      case rel => exact ⟨by rw [e1.out.1, e1.out.2], hd⟩
  case rest =>
    clear hd hg Hq
    obtain ⟨rfl, hd⟩ := hcut
    have n1 : (f1 == f1) = true := beq_self_eq_true _
    have n2 : (f2 == f2) = true := beq_self_eq_true _
    go_upto_region 18 with (first | ((with_reducible refine (cK _).mono ?_); rintro e w' ⟨rfl, hdb⟩; replace hd := below_step hd hdb.below; clear hdb) | ((with_reducible refine (cRW _).mono ?_); rintro e w' ⟨rfl, hdb⟩; replace hd := below_step hd hdb.below; clear hdb) | ((with_reducible refine (cW _).mono ?_); rintro e w' ⟨rfl, hdb⟩; replace hd := below_step hd hdb.below; clear hdb) | ((with_reducible refine (cP _ _ _).mono ?_); rintro e w' ⟨rfl, hdb⟩; replace hd := below_step hd hdb.below; clear hdb) | ((with_reducible refine (cRO _).mono ?_); rintro e w' ⟨rfl, hdb⟩; replace hd := below_step hd hdb; clear hdb) | ((with_reducible refine (cO _).mono ?_); rintro e w' ⟨rfl, hdb⟩; replace hd := below_step hd hdb.below; clear hdb) | ((with_reducible refine (cG _).mono ?_); rintro e w' ⟨rfl, hdb⟩; replace hd := below_step hd hdb.below; clear hdb) | ((with_reducible refine (cF1 _).mono ?_); rintro e w' ⟨rfl, hdb⟩; replace hd := below_step hd hdb.below; clear hdb) | ((with_reducible refine (cR1 _).mono ?_); rintro e w' ⟨rfl, hdb⟩; replace hd := below_step hd hdb; clear hdb) | ((with_reducible refine (cF2 _).mono ?_); rintro e w' ⟨rfl, hdb⟩; replace hd := below_step hd hdb.below; clear hdb) | ((with_reducible refine (cR2 _).mono ?_); rintro e w' ⟨rfl, hdb⟩; replace hd := below_step hd hdb; clear hdb) | ((with_reducible refine (cL1 _).mono ?_); rintro e w' ⟨rfl, hdb⟩; replace hd := below_step hd hdb.below; clear hdb) | ((with_reducible refine (cL2 _).mono ?_); rintro e w' ⟨rfl, hdb⟩; replace hd := below_step hd hdb.below; clear hdb))
    clear cRW cW cRO cO cG cF1 cR1 cF2 cR2
    by_cases hc : x < a
    · have l1 : decide (x < (a : Int)) = true := decide_eq_true (by omega)
      have l2 : decide ((a : Int) < x) = false := decide_eq_false (by omega)
      have l3 : (x == (a : Int)) = false := beq_eq_false_iff_ne.2 (by omega)
      have l4 : decide (x = (a : Int)) = false := decide_eq_false (by omega)
      obtain rfl : B1 = true := by rw [hB1.out]; exact decide_eq_true (by omega)
      obtain rfl : B2 = false := by rw [hB2.out]; exact decide_eq_false (by omega)
      clear hB1 hB2
      go_wp2_with (first | ((with_reducible refine (cK _).mono ?_); rintro e w' ⟨rfl, hdb⟩; replace hd := below_step hd hdb.below; clear hdb) | ((with_reducible refine (cRW _).mono ?_); rintro e w' ⟨rfl, hdb⟩; replace hd := below_step hd hdb.below; clear hdb) | ((with_reducible refine (cW _).mono ?_); rintro e w' ⟨rfl, hdb⟩; replace hd := below_step hd hdb.below; clear hdb) | ((with_reducible refine (cP _ _ _).mono ?_); rintro e w' ⟨rfl, hdb⟩; replace hd := below_step hd hdb.below; clear hdb) | ((with_reducible refine (cRO _).mono ?_); rintro e w' ⟨rfl, hdb⟩; replace hd := below_step hd hdb; clear hdb) | ((with_reducible refine (cO _).mono ?_); rintro e w' ⟨rfl, hdb⟩; replace hd := below_step hd hdb.below; clear hdb) | ((with_reducible refine (cG _).mono ?_); rintro e w' ⟨rfl, hdb⟩; replace hd := below_step hd hdb.below; clear hdb) | ((with_reducible refine (cF1 _).mono ?_); rintro e w' ⟨rfl, hdb⟩; replace hd := below_step hd hdb.below; clear hdb) | ((with_reducible refine (cR1 _).mono ?_); rintro e w' ⟨rfl, hdb⟩; replace hd := below_step hd hdb; clear hdb) | ((with_reducible refine (cF2 _).mono ?_); rintro e w' ⟨rfl, hdb⟩; replace hd := below_step hd hdb.below; clear hdb) | ((with_reducible refine (cR2 _).mono ?_); rintro e w' ⟨rfl, hdb⟩; replace hd := below_step hd hdb; clear hdb) | ((with_reducible refine (cL1 _).mono ?_); rintro e w' ⟨rfl, hdb⟩; replace hd := below_step hd hdb.below; clear hdb) | ((with_reducible refine (cL2 _).mono ?_); rintro e w' ⟨rfl, hdb⟩; replace hd := below_step hd hdb.below; clear hdb))
      go_ret
      exact ⟨rfl, hd⟩
    · by_cases hc2 : (a : Int) < x
      · have l1 : decide (x < (a : Int)) = false := decide_eq_false (by omega)
        have l2 : decide ((a : Int) < x) = true := decide_eq_true (by omega)
        have l3 : (x == (a : Int)) = false := beq_eq_false_iff_ne.2 (by omega)
        have l4 : decide (x = (a : Int)) = false := decide_eq_false (by omega)
        obtain rfl : B1 = false := by rw [hB1.out]; exact decide_eq_false (by omega)
        obtain rfl : B2 = true := by rw [hB2.out]; exact decide_eq_true (by omega)
        clear hB1 hB2
        go_wp2_with (first | ((with_reducible refine (cK _).mono ?_); rintro e w' ⟨rfl, hdb⟩; replace hd := below_step hd hdb.below; clear hdb) | ((with_reducible refine (cRW _).mono ?_); rintro e w' ⟨rfl, hdb⟩; replace hd := below_step hd hdb.below; clear hdb) | ((with_reducible refine (cW _).mono ?_); rintro e w' ⟨rfl, hdb⟩; replace hd := below_step hd hdb.below; clear hdb) | ((with_reducible refine (cP _ _ _).mono ?_); rintro e w' ⟨rfl, hdb⟩; replace hd := below_step hd hdb.below; clear hdb) | ((with_reducible refine (cRO _).mono ?_); rintro e w' ⟨rfl, hdb⟩; replace hd := below_step hd hdb; clear hdb) | ((with_reducible refine (cO _).mono ?_); rintro e w' ⟨rfl, hdb⟩; replace hd := below_step hd hdb.below; clear hdb) | ((with_reducible refine (cG _).mono ?_); rintro e w' ⟨rfl, hdb⟩; replace hd := below_step hd hdb.below; clear hdb) | ((with_reducible refine (cF1 _).mono ?_); rintro e w' ⟨rfl, hdb⟩; replace hd := below_step hd hdb.below; clear hdb) | ((with_reducible refine (cR1 _).mono ?_); rintro e w' ⟨rfl, hdb⟩; replace hd := below_step hd hdb; clear hdb) | ((with_reducible refine (cF2 _).mono ?_); rintro e w' ⟨rfl, hdb⟩; replace hd := below_step hd hdb.below; clear hdb) | ((with_reducible refine (cR2 _).mono ?_); rintro e w' ⟨rfl, hdb⟩; replace hd := below_step hd hdb; clear hdb) | ((with_reducible refine (cL1 _).mono ?_); rintro e w' ⟨rfl, hdb⟩; replace hd := below_step hd hdb.below; clear hdb) | ((with_reducible refine (cL2 _).mono ?_); rintro e w' ⟨rfl, hdb⟩; replace hd := below_step hd hdb.below; clear hdb))
        go_ret
        exact ⟨rfl, hd⟩
      · by_cases hy1 : y < b
        · have l1 : decide (x < (a : Int)) = false := decide_eq_false (by omega)
          have l2 : decide ((a : Int) < x) = false := decide_eq_false (by omega)
          have l3 : (x == (a : Int)) = true := beq_iff_eq.2 (by omega)
          have l4 : decide (x = (a : Int)) = true := decide_eq_true (by omega)
          have l5 : decide (y < (b : Int)) = true := decide_eq_true (by omega)
          have l6 : decide ((b : Int) < y) = false := decide_eq_false (by omega)
          obtain rfl : B1 = true := by rw [hB1.out]; exact decide_eq_true (by omega)
          obtain rfl : B2 = false := by rw [hB2.out]; exact decide_eq_false (by omega)
          clear hB1 hB2
          go_wp2_with (first | ((with_reducible refine (cK _).mono ?_); rintro e w' ⟨rfl, hdb⟩; replace hd := below_step hd hdb.below; clear hdb) | ((with_reducible refine (cRW _).mono ?_); rintro e w' ⟨rfl, hdb⟩; replace hd := below_step hd hdb.below; clear hdb) | ((with_reducible refine (cW _).mono ?_); rintro e w' ⟨rfl, hdb⟩; replace hd := below_step hd hdb.below; clear hdb) | ((with_reducible refine (cP _ _ _).mono ?_); rintro e w' ⟨rfl, hdb⟩; replace hd := below_step hd hdb.below; clear hdb) | ((with_reducible refine (cRO _).mono ?_); rintro e w' ⟨rfl, hdb⟩; replace hd := below_step hd hdb; clear hdb) | ((with_reducible refine (cO _).mono ?_); rintro e w' ⟨rfl, hdb⟩; replace hd := below_step hd hdb.below; clear hdb) | ((with_reducible refine (cG _).mono ?_); rintro e w' ⟨rfl, hdb⟩; replace hd := below_step hd hdb.below; clear hdb) | ((with_reducible refine (cF1 _).mono ?_); rintro e w' ⟨rfl, hdb⟩; replace hd := below_step hd hdb.below; clear hdb) | ((with_reducible refine (cR1 _).mono ?_); rintro e w' ⟨rfl, hdb⟩; replace hd := below_step hd hdb; clear hdb) | ((with_reducible refine (cF2 _).mono ?_); rintro e w' ⟨rfl, hdb⟩; replace hd := below_step hd hdb.below; clear hdb) | ((with_reducible refine (cR2 _).mono ?_); rintro e w' ⟨rfl, hdb⟩; replace hd := below_step hd hdb; clear hdb) | ((with_reducible refine (cL1 _).mono ?_); rintro e w' ⟨rfl, hdb⟩; replace hd := below_step hd hdb.below; clear hdb) | ((with_reducible refine (cL2 _).mono ?_); rintro e w' ⟨rfl, hdb⟩; replace hd := below_step hd hdb.below; clear hdb))
          go_ret
          exact ⟨rfl, hd⟩
        · by_cases hy2 : (b : Int) < y
          · have l1 : decide (x < (a : Int)) = false := decide_eq_false (by omega)
            have l2 : decide ((a : Int) < x) = false := decide_eq_false (by omega)
            have l3 : (x == (a : Int)) = true := beq_iff_eq.2 (by omega)
            have l4 : decide (x = (a : Int)) = true := decide_eq_true (by omega)
            have l5 : decide (y < (b : Int)) = false := decide_eq_false (by omega)
            have l6 : decide ((b : Int) < y) = true := decide_eq_true (by omega)
            obtain rfl : B1 = false := by rw [hB1.out]; exact decide_eq_false (by omega)
            obtain rfl : B2 = true := by rw [hB2.out]; exact decide_eq_true (by omega)
            clear hB1 hB2
            go_wp2_with (first | ((with_reducible refine (cK _).mono ?_); rintro e w' ⟨rfl, hdb⟩; replace hd := below_step hd hdb.below; clear hdb) | ((with_reducible refine (cRW _).mono ?_); rintro e w' ⟨rfl, hdb⟩; replace hd := below_step hd hdb.below; clear hdb) | ((with_reducible refine (cW _).mono ?_); rintro e w' ⟨rfl, hdb⟩; replace hd := below_step hd hdb.below; clear hdb) | ((with_reducible refine (cP _ _ _).mono ?_); rintro e w' ⟨rfl, hdb⟩; replace hd := below_step hd hdb.below; clear hdb) | ((with_reducible refine (cRO _).mono ?_); rintro e w' ⟨rfl, hdb⟩; replace hd := below_step hd hdb; clear hdb) | ((with_reducible refine (cO _).mono ?_); rintro e w' ⟨rfl, hdb⟩; replace hd := below_step hd hdb.below; clear hdb) | ((with_reducible refine (cG _).mono ?_); rintro e w' ⟨rfl, hdb⟩; replace hd := below_step hd hdb.below; clear hdb) | ((with_reducible refine (cF1 _).mono ?_); rintro e w' ⟨rfl, hdb⟩; replace hd := below_step hd hdb.below; clear hdb) | ((with_reducible refine (cR1 _).mono ?_); rintro e w' ⟨rfl, hdb⟩; replace hd := below_step hd hdb; clear hdb) | ((with_reducible refine (cF2 _).mono ?_); rintro e w' ⟨rfl, hdb⟩; replace hd := below_step hd hdb.below; clear hdb) | ((with_reducible refine (cR2 _).mono ?_); rintro e w' ⟨rfl, hdb⟩; replace hd := below_step hd hdb; clear hdb) | ((with_reducible refine (cL1 _).mono ?_); rintro e w' ⟨rfl, hdb⟩; replace hd := below_step hd hdb.below; clear hdb) | ((with_reducible refine (cL2 _).mono ?_); rintro e w' ⟨rfl, hdb⟩; replace hd := below_step hd hdb.below; clear hdb))
            go_ret
            exact ⟨rfl, hd⟩
          · have l1 : decide (x < (a : Int)) = false := decide_eq_false (by omega)
            have l2 : decide ((a : Int) < x) = false := decide_eq_false (by omega)
            have l3 : (x == (a : Int)) = true := beq_iff_eq.2 (by omega)
            have l4 : decide (x = (a : Int)) = true := decide_eq_true (by omega)
            have l5 : decide (y < (b : Int)) = false := decide_eq_false (by omega)
            have l6 : decide ((b : Int) < y) = false := decide_eq_false (by omega)
            obtain rfl : B1 = false := by rw [hB1.out]; exact decide_eq_false (by omega)
            obtain rfl : B2 = false := by rw [hB2.out]; exact decide_eq_false (by omega)
            clear hB1 hB2
            go_wp2_with (first | ((with_reducible refine (cK _).mono ?_); rintro e w' ⟨rfl, hdb⟩; replace hd := below_step hd hdb.below; clear hdb) | ((with_reducible refine (cRW _).mono ?_); rintro e w' ⟨rfl, hdb⟩; replace hd := below_step hd hdb.below; clear hdb) | ((with_reducible refine (cW _).mono ?_); rintro e w' ⟨rfl, hdb⟩; replace hd := below_step hd hdb.below; clear hdb) | ((with_reducible refine (cP _ _ _).mono ?_); rintro e w' ⟨rfl, hdb⟩; replace hd := below_step hd hdb.below; clear hdb) | ((with_reducible refine (cRO _).mono ?_); rintro e w' ⟨rfl, hdb⟩; replace hd := below_step hd hdb; clear hdb) | ((with_reducible refine (cO _).mono ?_); rintro e w' ⟨rfl, hdb⟩; replace hd := below_step hd hdb.below; clear hdb) | ((with_reducible refine (cG _).mono ?_); rintro e w' ⟨rfl, hdb⟩; replace hd := below_step hd hdb.below; clear hdb) | ((with_reducible refine (cF1 _).mono ?_); rintro e w' ⟨rfl, hdb⟩; replace hd := below_step hd hdb.below; clear hdb) | ((with_reducible refine (cR1 _).mono ?_); rintro e w' ⟨rfl, hdb⟩; replace hd := below_step hd hdb; clear hdb) | ((with_reducible refine (cF2 _).mono ?_); rintro e w' ⟨rfl, hdb⟩; replace hd := below_step hd hdb.below; clear hdb) | ((with_reducible refine (cR2 _).mono ?_); rintro e w' ⟨rfl, hdb⟩; replace hd := below_step hd hdb; clear hdb) | ((with_reducible refine (cL1 _).mono ?_); rintro e w' ⟨rfl, hdb⟩; replace hd := below_step hd hdb.below; clear hdb) | ((with_reducible refine (cL2 _).mono ?_); rintro e w' ⟨rfl, hdb⟩; replace hd := below_step hd hdb.below; clear hdb))
            go_ret
            exact ⟨rfl, hd⟩
end Go.Proofs.Ytbdjcfaocmhdnaa.Q
