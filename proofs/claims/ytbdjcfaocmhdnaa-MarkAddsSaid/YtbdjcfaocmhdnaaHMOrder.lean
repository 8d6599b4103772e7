/- The law MarkOrder: its walk. Conditions: sizes. -/
import Derived.Test.YtbdjcfaocmhdnaaMkK
import Derived.Test.YtbdjcfaocmhdnaaMkT
namespace Go.Proofs.Ytbdjcfaocmhdnaa.Q
open Go Go.RowKit Go.Proofs Go.Proofs.Ytbdjcfaocmhdnaa.Fl Go.Proofs.YtbdjcfaocmhdnaaW.PrintWords Go.Proofs.YtbdjcfaocmhdnaaW.PrintLast Go.Proofs.YtbdjcfaocmhdnaaW.PrintMore
set_option linter.unusedVariables false
set_option linter.unusedSimpArgs false

set_option maxHeartbeats 8000000 in
set_option maxRecDepth 100000 in
theorem morder_long (s : ByteArray) (o : Bool) (x y : Int) (h : 200 < s.size) (w : World) :
    Calls Try.prog 6 #[.string s, .bool o, .int .i64 x, .int .i64 y] w fun e w' => e = .returned (.bool true) ∧ Below w.heap.size w w' := by
  have hd := Below.refl w.heap.size w
  have cK := known_says
  have d1 : decide ((200 : Int) < (s.size : Int)) = true := decide_eq_true (by omega)
  have d2 : decide (200 < s.size) = true := decide_eq_true h
  go_enter Try.func6, Try.ntmps6
  go_wp2_with (first | ((with_reducible refine (cK _).mono ?_); rintro e w' ⟨rfl, hdb⟩; replace hd := below_step hd hdb.below; clear hdb))
  go_ret
  exact ⟨rfl, hd⟩

set_option maxHeartbeats 8000000 in
set_option maxRecDepth 100000 in
theorem morder_up (s : ByteArray) (o : Bool) (v x y : Int) (i k a b c d : Nat) (B1 : Bool) (w : World) (hs : s.size ≤ 200) (hik : i ≤ k)
    (ha : a ≤ 200) (hb : b ≤ 200) (hc : c ≤ 200) (hdd : d ≤ 200)
    (cV : ∀ w, Calls Try.prog 19 #[.bool o] w fun e w' => e = .returned (.int .i64 v) ∧ Drawn0 w w')
    (cI : ∀ w, Calls Try.prog 20 #[.int .i64 x, .int .i64 0, .int .i64 (s.size : Int)] w fun e w' => e = .returned (.int .i64 (i : Int)) ∧ Drawn0 w w')
    (cJ : ∀ w, Calls Try.prog 20 #[.int .i64 y, .int .i64 0, .int .i64 (s.size : Int)] w fun e w' => e = .returned (.int .i64 (k : Int)) ∧ Drawn0 w w')
    (cP : ∀ w, Calls Try.prog 13 #[.int .i64 v, .string s, .int .i64 (i : Int)] w fun e w' => e = .returned (.complex .f64 (D (a : Int)) (D (b : Int))) ∧ Drawn0 w w')
    (cQ : ∀ w, Calls Try.prog 13 #[.int .i64 v, .string s, .int .i64 (k : Int)] w fun e w' => e = .returned (.complex .f64 (D (c : Int)) (D (d : Int))) ∧ Drawn0 w w')
    (hB : B1 = true ∨ B1 = false ∧ a = c ∧ b = d)
    (cL1 : ∀ w, Calls Try.prog 17 #[.complex .f64 (D (c : Int)) (D (d : Int)), .complex .f64 (D (a : Int)) (D (b : Int))] w fun e w' => e = .returned (.bool false) ∧ Drawn0 w w')
    (cL2 : ∀ w, Calls Try.prog 17 #[.complex .f64 (D (a : Int)) (D (b : Int)), .complex .f64 (D (c : Int)) (D (d : Int))] w fun e w' => e = .returned (.bool B1) ∧ Drawn0 w w') :
    Calls Try.prog 6 #[.string s, .bool o, .int .i64 x, .int .i64 y] w fun e w' => e = .returned (.bool true) ∧ Below w.heap.size w w' := by
  have hd := Below.refl w.heap.size w
  have cK := known_says
  have d1 : decide ((200 : Int) < (s.size : Int)) = false := decide_eq_false (by omega)
  have d2 : decide (200 < s.size) = false := decide_eq_false (by omega)
  have d3 : decide ((k : Int) < (i : Int)) = false := decide_eq_false (by omega)
  have d4 : decide (k < i) = false := decide_eq_false (by omega)
  have self : ∀ n : Int, small n → (FloatKind.f64.format.order (D n) (D n) == some .eq) = true := fun n h => (fl_eq h h).trans (decide_eq_true rfl)
  have sa := self a (small_nat (by omega))
  have sb := self b (small_nat (by omega))
  clear self hs hik ha hb hc hdd
  rcases hB with rfl | ⟨rfl, rfl, rfl⟩
  · go_enter Try.func6, Try.ntmps6
    go_wp2_with (first | ((with_reducible refine (cK _).mono ?_); rintro e w' ⟨rfl, hdb⟩; replace hd := below_step hd hdb.below; clear hdb) | ((with_reducible refine (cV _).mono ?_); rintro e w' ⟨rfl, hdb⟩; replace hd := below_step hd hdb.below; clear hdb) | ((with_reducible refine (cI _).mono ?_); rintro e w' ⟨rfl, hdb⟩; replace hd := below_step hd hdb.below; clear hdb) | ((with_reducible refine (cJ _).mono ?_); rintro e w' ⟨rfl, hdb⟩; replace hd := below_step hd hdb.below; clear hdb) | ((with_reducible refine (cP _).mono ?_); rintro e w' ⟨rfl, hdb⟩; replace hd := below_step hd hdb.below; clear hdb) | ((with_reducible refine (cQ _).mono ?_); rintro e w' ⟨rfl, hdb⟩; replace hd := below_step hd hdb.below; clear hdb) | ((with_reducible refine (cL1 _).mono ?_); rintro e w' ⟨rfl, hdb⟩; replace hd := below_step hd hdb.below; clear hdb) | ((with_reducible refine (cL2 _).mono ?_); rintro e w' ⟨rfl, hdb⟩; replace hd := below_step hd hdb.below; clear hdb))
    go_ret
    exact ⟨rfl, hd⟩
  · go_enter Try.func6, Try.ntmps6
    go_wp2_with (first | ((with_reducible refine (cK _).mono ?_); rintro e w' ⟨rfl, hdb⟩; replace hd := below_step hd hdb.below; clear hdb) | ((with_reducible refine (cV _).mono ?_); rintro e w' ⟨rfl, hdb⟩; replace hd := below_step hd hdb.below; clear hdb) | ((with_reducible refine (cI _).mono ?_); rintro e w' ⟨rfl, hdb⟩; replace hd := below_step hd hdb.below; clear hdb) | ((with_reducible refine (cJ _).mono ?_); rintro e w' ⟨rfl, hdb⟩; replace hd := below_step hd hdb.below; clear hdb) | ((with_reducible refine (cP _).mono ?_); rintro e w' ⟨rfl, hdb⟩; replace hd := below_step hd hdb.below; clear hdb) | ((with_reducible refine (cQ _).mono ?_); rintro e w' ⟨rfl, hdb⟩; replace hd := below_step hd hdb.below; clear hdb) | ((with_reducible refine (cL1 _).mono ?_); rintro e w' ⟨rfl, hdb⟩; replace hd := below_step hd hdb.below; clear hdb) | ((with_reducible refine (cL2 _).mono ?_); rintro e w' ⟨rfl, hdb⟩; replace hd := below_step hd hdb.below; clear hdb))
    go_ret
    exact ⟨rfl, hd⟩

set_option maxHeartbeats 8000000 in
set_option maxRecDepth 100000 in
theorem morder_down (s : ByteArray) (o : Bool) (v x y : Int) (i k a b c d : Nat) (B1 : Bool) (w : World) (hs : s.size ≤ 200) (hik : i < k)
    (ha : a ≤ 200) (hb : b ≤ 200) (hc : c ≤ 200) (hdd : d ≤ 200)
    (cV : ∀ w, Calls Try.prog 19 #[.bool o] w fun e w' => e = .returned (.int .i64 v) ∧ Drawn0 w w')
    (cI : ∀ w, Calls Try.prog 20 #[.int .i64 x, .int .i64 0, .int .i64 (s.size : Int)] w fun e w' => e = .returned (.int .i64 (k : Int)) ∧ Drawn0 w w')
    (cJ : ∀ w, Calls Try.prog 20 #[.int .i64 y, .int .i64 0, .int .i64 (s.size : Int)] w fun e w' => e = .returned (.int .i64 (i : Int)) ∧ Drawn0 w w')
    (cP : ∀ w, Calls Try.prog 13 #[.int .i64 v, .string s, .int .i64 (i : Int)] w fun e w' => e = .returned (.complex .f64 (D (a : Int)) (D (b : Int))) ∧ Drawn0 w w')
    (cQ : ∀ w, Calls Try.prog 13 #[.int .i64 v, .string s, .int .i64 (k : Int)] w fun e w' => e = .returned (.complex .f64 (D (c : Int)) (D (d : Int))) ∧ Drawn0 w w')
    (hB : B1 = true ∨ B1 = false ∧ a = c ∧ b = d)
    (cL1 : ∀ w, Calls Try.prog 17 #[.complex .f64 (D (c : Int)) (D (d : Int)), .complex .f64 (D (a : Int)) (D (b : Int))] w fun e w' => e = .returned (.bool false) ∧ Drawn0 w w')
    (cL2 : ∀ w, Calls Try.prog 17 #[.complex .f64 (D (a : Int)) (D (b : Int)), .complex .f64 (D (c : Int)) (D (d : Int))] w fun e w' => e = .returned (.bool B1) ∧ Drawn0 w w') :
    Calls Try.prog 6 #[.string s, .bool o, .int .i64 x, .int .i64 y] w fun e w' => e = .returned (.bool true) ∧ Below w.heap.size w w' := by
  have hd := Below.refl w.heap.size w
  have cK := known_says
  have d1 : decide ((200 : Int) < (s.size : Int)) = false := decide_eq_false (by omega)
  have d2 : decide (200 < s.size) = false := decide_eq_false (by omega)
  have d3 : decide ((i : Int) < (k : Int)) = true := decide_eq_true (by omega)
  have d4 : decide (i < k) = true := decide_eq_true (by omega)
  have self : ∀ n : Int, small n → (FloatKind.f64.format.order (D n) (D n) == some .eq) = true := fun n h => (fl_eq h h).trans (decide_eq_true rfl)
  have sa := self a (small_nat (by omega))
  have sb := self b (small_nat (by omega))
  clear self hs hik ha hb hc hdd
  rcases hB with rfl | ⟨rfl, rfl, rfl⟩
  · go_enter Try.func6, Try.ntmps6
    go_wp2_with (first | ((with_reducible refine (cK _).mono ?_); rintro e w' ⟨rfl, hdb⟩; replace hd := below_step hd hdb.below; clear hdb) | ((with_reducible refine (cV _).mono ?_); rintro e w' ⟨rfl, hdb⟩; replace hd := below_step hd hdb.below; clear hdb) | ((with_reducible refine (cI _).mono ?_); rintro e w' ⟨rfl, hdb⟩; replace hd := below_step hd hdb.below; clear hdb) | ((with_reducible refine (cJ _).mono ?_); rintro e w' ⟨rfl, hdb⟩; replace hd := below_step hd hdb.below; clear hdb) | ((with_reducible refine (cP _).mono ?_); rintro e w' ⟨rfl, hdb⟩; replace hd := below_step hd hdb.below; clear hdb) | ((with_reducible refine (cQ _).mono ?_); rintro e w' ⟨rfl, hdb⟩; replace hd := below_step hd hdb.below; clear hdb) | ((with_reducible refine (cL1 _).mono ?_); rintro e w' ⟨rfl, hdb⟩; replace hd := below_step hd hdb.below; clear hdb) | ((with_reducible refine (cL2 _).mono ?_); rintro e w' ⟨rfl, hdb⟩; replace hd := below_step hd hdb.below; clear hdb))
    go_ret
    exact ⟨rfl, hd⟩
  · go_enter Try.func6, Try.ntmps6
    go_wp2_with (first | ((with_reducible refine (cK _).mono ?_); rintro e w' ⟨rfl, hdb⟩; replace hd := below_step hd hdb.below; clear hdb) | ((with_reducible refine (cV _).mono ?_); rintro e w' ⟨rfl, hdb⟩; replace hd := below_step hd hdb.below; clear hdb) | ((with_reducible refine (cI _).mono ?_); rintro e w' ⟨rfl, hdb⟩; replace hd := below_step hd hdb.below; clear hdb) | ((with_reducible refine (cJ _).mono ?_); rintro e w' ⟨rfl, hdb⟩; replace hd := below_step hd hdb.below; clear hdb) | ((with_reducible refine (cP _).mono ?_); rintro e w' ⟨rfl, hdb⟩; replace hd := below_step hd hdb.below; clear hdb) | ((with_reducible refine (cQ _).mono ?_); rintro e w' ⟨rfl, hdb⟩; replace hd := below_step hd hdb.below; clear hdb) | ((with_reducible refine (cL1 _).mono ?_); rintro e w' ⟨rfl, hdb⟩; replace hd := below_step hd hdb.below; clear hdb) | ((with_reducible refine (cL2 _).mono ?_); rintro e w' ⟨rfl, hdb⟩; replace hd := below_step hd hdb.below; clear hdb))
    go_ret
    exact ⟨rfl, hd⟩
end Go.Proofs.Ytbdjcfaocmhdnaa.Q
