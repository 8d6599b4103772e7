/- The law MarkGoes: its walk. Conditions: sizes. -/
import Derived.Test.YtbdjcfaocmhdnaaMkK
import Derived.Test.YtbdjcfaocmhdnaaMkT
namespace Go.Proofs.Ytbdjcfaocmhdnaa.Q
open Go Go.RowKit Go.Proofs Go.Proofs.Ytbdjcfaocmhdnaa.Fl Go.Proofs.YtbdjcfaocmhdnaaW.PrintWords Go.Proofs.YtbdjcfaocmhdnaaW.PrintLast Go.Proofs.YtbdjcfaocmhdnaaW.PrintMore
set_option linter.unusedVariables false
set_option linter.unusedSimpArgs false

set_option maxHeartbeats 16000000 in
set_option maxRecDepth 100000 in
theorem mgoes_long (s t : ByteArray) (o : Bool) (x y : Int) (w : World) (hl : 200 < s.size) :
    Calls Try.prog 4 #[.string s, .string t, .bool o, .int .i16 x, .int .i16 y] w fun e w' => e = .returned (.bool true) ∧ Below w.heap.size w w' := by
  have hd := Below.refl w.heap.size w
  have cK := known_says
  have da : decide ((200 : Int) < (s.size : Int)) = true := decide_eq_true (by omega)
  have db : decide (200 < s.size) = true := decide_eq_true (by omega)
  go_enter Try.func4, Try.ntmps4
  go_wp2_with (first | ((with_reducible refine (cK _).mono ?_); rintro e w' ⟨rfl, hdb⟩; replace hd := below_step hd hdb.below; clear hdb))
  go_ret
  exact ⟨rfl, hd⟩

set_option maxHeartbeats 16000000 in
set_option maxRecDepth 100000 in
theorem mgoes_long2 (s t : ByteArray) (o : Bool) (x y : Int) (w : World) (hl : s.size ≤ 200) (hm : 200 < t.size) :
    Calls Try.prog 4 #[.string s, .string t, .bool o, .int .i16 x, .int .i16 y] w fun e w' => e = .returned (.bool true) ∧ Below w.heap.size w w' := by
  have hd := Below.refl w.heap.size w
  have cK := known_says
  have da : decide ((200 : Int) < (s.size : Int)) = false := decide_eq_false (by omega)
  have db : decide (200 < s.size) = false := decide_eq_false (by omega)
  have ea : decide ((200 : Int) < (t.size : Int)) = true := decide_eq_true (by omega)
  have eb : decide (200 < t.size) = true := decide_eq_true (by omega)
  go_enter Try.func4, Try.ntmps4
  go_wp2_with (first | ((with_reducible refine (cK _).mono ?_); rintro e w' ⟨rfl, hdb⟩; replace hd := below_step hd hdb.below; clear hdb))
  go_ret
  exact ⟨rfl, hd⟩

set_option maxHeartbeats 16000000 in
set_option maxRecDepth 100000 in
theorem mgoes_ill (s t : ByteArray) (o : Bool) (x y : Int) (w : World) (hl : s.size ≤ 200) (hm : t.size ≤ 200)
    (cS : ∀ w, Calls Try.prog 18 #[.string s] w fun e w' => e = .returned (.bool false) ∧ Drawn0 w w')
    :
    Calls Try.prog 4 #[.string s, .string t, .bool o, .int .i16 x, .int .i16 y] w fun e w' => e = .returned (.bool true) ∧ Below w.heap.size w w' := by
  have hd := Below.refl w.heap.size w
  have cK := known_says
  have da : decide ((200 : Int) < (s.size : Int)) = false := decide_eq_false (by omega)
  have db : decide (200 < s.size) = false := decide_eq_false (by omega)
  have ea : decide ((200 : Int) < (t.size : Int)) = false := decide_eq_false (by omega)
  have eb : decide (200 < t.size) = false := decide_eq_false (by omega)
  go_enter Try.func4, Try.ntmps4
  go_wp2_with (first | ((with_reducible refine (cK _).mono ?_); rintro e w' ⟨rfl, hdb⟩; replace hd := below_step hd hdb.below; clear hdb) | ((with_reducible refine (cS _).mono ?_); rintro e w' ⟨rfl, hdb⟩; replace hd := below_step hd hdb.below; clear hdb))
  go_ret
  exact ⟨rfl, hd⟩

set_option maxHeartbeats 16000000 in
set_option maxRecDepth 100000 in
theorem mgoes_ill2 (s t : ByteArray) (o : Bool) (x y : Int) (w : World) (hl : s.size ≤ 200) (hm : t.size ≤ 200)
    (cS : ∀ w, Calls Try.prog 18 #[.string s] w fun e w' => e = .returned (.bool true) ∧ Drawn0 w w')
    (cT : ∀ w, Calls Try.prog 18 #[.string t] w fun e w' => e = .returned (.bool false) ∧ Drawn0 w w')
    :
    Calls Try.prog 4 #[.string s, .string t, .bool o, .int .i16 x, .int .i16 y] w fun e w' => e = .returned (.bool true) ∧ Below w.heap.size w w' := by
  have hd := Below.refl w.heap.size w
  have cK := known_says
  have da : decide ((200 : Int) < (s.size : Int)) = false := decide_eq_false (by omega)
  have db : decide (200 < s.size) = false := decide_eq_false (by omega)
  have ea : decide ((200 : Int) < (t.size : Int)) = false := decide_eq_false (by omega)
  have eb : decide (200 < t.size) = false := decide_eq_false (by omega)
  go_enter Try.func4, Try.ntmps4
  go_wp2_with (first | ((with_reducible refine (cK _).mono ?_); rintro e w' ⟨rfl, hdb⟩; replace hd := below_step hd hdb.below; clear hdb) | ((with_reducible refine (cS _).mono ?_); rintro e w' ⟨rfl, hdb⟩; replace hd := below_step hd hdb.below; clear hdb) | ((with_reducible refine (cT _).mono ?_); rintro e w' ⟨rfl, hdb⟩; replace hd := below_step hd hdb.below; clear hdb))
  go_ret
  exact ⟨rfl, hd⟩

set_option maxHeartbeats 16000000 in
set_option maxRecDepth 100000 in
theorem mgoes_s0 (s t : ByteArray) (o : Bool) (x y v x1 y1 x2 y2 a1 b1 a2 b2 : Int) (w : World) (hl : s.size ≤ 200) (hm : t.size ≤ 200) (hx : -32768 ≤ x ∧ x ≤ 32767) (hy : -32768 ≤ y ∧ y ≤ 32767) (h0 : s.size = 0)
    (q1 : (FloatKind.f64.format.order (D x) (D x) == some .eq) = true) (q2 : (FloatKind.f64.format.order (D y) (D y) == some .eq) = true)
    (q3 : (FloatKind.f64.format.order (D a1) (D a1) == some .eq) = true) (q4 : (FloatKind.f64.format.order (D b1) (D b1) == some .eq) = true)
    (q5 : (FloatKind.f64.format.order (D a2) (D a2) == some .eq) = true) (q6 : (FloatKind.f64.format.order (D b2) (D b2) == some .eq) = true)
    (q7 : (FloatKind.f64.format.order (D x2) (D x2) == some .eq) = true) (q8 : (FloatKind.f64.format.order (D y2) (D y2) == some .eq) = true)
    (cS : ∀ w, Calls Try.prog 18 #[.string s] w fun e w' => e = .returned (.bool true) ∧ Drawn0 w w')
    (cT : ∀ w, Calls Try.prog 18 #[.string t] w fun e w' => e = .returned (.bool true) ∧ Drawn0 w w')
    (cV : ∀ w, Calls Try.prog 19 #[.bool o] w fun e w' => e = .returned (.int .i64 v) ∧ Drawn0 w w')
    (cG1 : ∀ w, Calls Try.prog 14 #[.int .i64 v, .complex .f64 (D x) (D y), .string s] w fun e w' => e = .returned (.complex .f64 (D x1) (D y1)) ∧ Drawn0 w w')
    (cG2 : ∀ w, Calls Try.prog 14 #[.int .i64 v, .complex .f64 (D x1) (D y1), .string t] w fun e w' => e = .returned (.complex .f64 (D x2) (D y2)) ∧ Drawn0 w w')
    (cG3 : ∀ w, Calls Try.prog 14 #[.int .i64 v, .complex .f64 (D x) (D y), .string (s ++ t)] w fun e w' => e = .returned (.complex .f64 (D x2) (D y2)) ∧ Drawn0 w w')
    (cW1 : ∀ w, Calls Try.prog 10 #[.int .i64 v, .string (s ++ t)] w fun e w' => e = .returned (.complex .f64 (D a2) (D b2)) ∧ Drawn0 w w')
    (cW2 : ∀ w, Calls Try.prog 10 #[.int .i64 v, .string s] w fun e w' => e = .returned (.complex .f64 (D a1) (D b1)) ∧ Drawn0 w w')
    (cG4 : ∀ w, Calls Try.prog 14 #[.int .i64 v, .complex .f64 (D a1) (D b1), .string t] w fun e w' => e = .returned (.complex .f64 (D a2) (D b2)) ∧ Drawn0 w w')
    (cG5 : ∀ w, Calls Try.prog 14 #[.int .i64 v, .complex .f64 (D x) (D y), .string (⟨#[]⟩ : ByteArray)] w fun e w' => e = .returned (.complex .f64 (D x) (D y)) ∧ Drawn0 w w')
    (cO : ∀ w, Calls Try.prog 13 #[.int .i64 v, .string (s ++ t), .int .i64 (s.size : Int)] w fun e w' => e = .returned (.complex .f64 (D a1) (D b1)) ∧ Drawn0 w w')
    :
    Calls Try.prog 4 #[.string s, .string t, .bool o, .int .i16 x, .int .i16 y] w fun e w' => e = .returned (.bool true) ∧ Below w.heap.size w w' := by
  have hd := Below.refl w.heap.size w
  have cK := known_says
  have cP := fun (i j : Int) (w : World) => point_says i j w
  have da : decide ((200 : Int) < (s.size : Int)) = false := decide_eq_false (by omega)
  have db : decide (200 < s.size) = false := decide_eq_false (by omega)
  have ea : decide ((200 : Int) < (t.size : Int)) = false := decide_eq_false (by omega)
  have eb : decide (200 < t.size) = false := decide_eq_false (by omega)
  have fa : decide ((0 : Int) < (s.size : Int)) = false := decide_eq_false (by omega)
  have fb : decide (0 < s.size) = false := decide_eq_false (by omega)
  clear h0
  go_enter Try.func4, Try.ntmps4
  go_wp2_with (first | ((with_reducible refine (cK _).mono ?_); rintro e w' ⟨rfl, hdb⟩; replace hd := below_step hd hdb.below; clear hdb) | ((with_reducible refine (cS _).mono ?_); rintro e w' ⟨rfl, hdb⟩; replace hd := below_step hd hdb.below; clear hdb) | ((with_reducible refine (cT _).mono ?_); rintro e w' ⟨rfl, hdb⟩; replace hd := below_step hd hdb.below; clear hdb) | ((with_reducible refine (cV _).mono ?_); rintro e w' ⟨rfl, hdb⟩; replace hd := below_step hd hdb.below; clear hdb) | ((with_reducible refine (cP _ _ _).mono ?_); rintro e w' ⟨rfl, hdb⟩; replace hd := below_step hd hdb.below; clear hdb) | ((with_reducible refine (cG1 _).mono ?_); rintro e w' ⟨rfl, hdb⟩; replace hd := below_step hd hdb.below; clear hdb) | ((with_reducible refine (cG2 _).mono ?_); rintro e w' ⟨rfl, hdb⟩; replace hd := below_step hd hdb.below; clear hdb) | ((with_reducible refine (cG3 _).mono ?_); rintro e w' ⟨rfl, hdb⟩; replace hd := below_step hd hdb.below; clear hdb) | ((with_reducible refine (cW1 _).mono ?_); rintro e w' ⟨rfl, hdb⟩; replace hd := below_step hd hdb.below; clear hdb) | ((with_reducible refine (cW2 _).mono ?_); rintro e w' ⟨rfl, hdb⟩; replace hd := below_step hd hdb.below; clear hdb) | ((with_reducible refine (cG4 _).mono ?_); rintro e w' ⟨rfl, hdb⟩; replace hd := below_step hd hdb.below; clear hdb) | ((with_reducible refine (cG5 _).mono ?_); rintro e w' ⟨rfl, hdb⟩; replace hd := below_step hd hdb.below; clear hdb) | ((with_reducible refine (cO _).mono ?_); rintro e w' ⟨rfl, hdb⟩; replace hd := below_step hd hdb.below; clear hdb))
  go_ret
  exact ⟨rfl, hd⟩

set_option maxHeartbeats 16000000 in
set_option maxRecDepth 100000 in
theorem mgoes_t0 (s t : ByteArray) (o : Bool) (x y v x1 y1 x2 y2 a1 b1 a2 b2 : Int) (w : World) (hl : s.size ≤ 200) (hm : t.size ≤ 200) (hx : -32768 ≤ x ∧ x ≤ 32767) (hy : -32768 ≤ y ∧ y ≤ 32767) (h0 : 0 < s.size) (h1 : t.size = 0)
    (q1 : (FloatKind.f64.format.order (D x) (D x) == some .eq) = true) (q2 : (FloatKind.f64.format.order (D y) (D y) == some .eq) = true)
    (q3 : (FloatKind.f64.format.order (D a1) (D a1) == some .eq) = true) (q4 : (FloatKind.f64.format.order (D b1) (D b1) == some .eq) = true)
    (q5 : (FloatKind.f64.format.order (D a2) (D a2) == some .eq) = true) (q6 : (FloatKind.f64.format.order (D b2) (D b2) == some .eq) = true)
    (q7 : (FloatKind.f64.format.order (D x2) (D x2) == some .eq) = true) (q8 : (FloatKind.f64.format.order (D y2) (D y2) == some .eq) = true)
    (cS : ∀ w, Calls Try.prog 18 #[.string s] w fun e w' => e = .returned (.bool true) ∧ Drawn0 w w')
    (cT : ∀ w, Calls Try.prog 18 #[.string t] w fun e w' => e = .returned (.bool true) ∧ Drawn0 w w')
    (cV : ∀ w, Calls Try.prog 19 #[.bool o] w fun e w' => e = .returned (.int .i64 v) ∧ Drawn0 w w')
    (cG1 : ∀ w, Calls Try.prog 14 #[.int .i64 v, .complex .f64 (D x) (D y), .string s] w fun e w' => e = .returned (.complex .f64 (D x1) (D y1)) ∧ Drawn0 w w')
    (cG2 : ∀ w, Calls Try.prog 14 #[.int .i64 v, .complex .f64 (D x1) (D y1), .string t] w fun e w' => e = .returned (.complex .f64 (D x2) (D y2)) ∧ Drawn0 w w')
    (cG3 : ∀ w, Calls Try.prog 14 #[.int .i64 v, .complex .f64 (D x) (D y), .string (s ++ t)] w fun e w' => e = .returned (.complex .f64 (D x2) (D y2)) ∧ Drawn0 w w')
    (cW1 : ∀ w, Calls Try.prog 10 #[.int .i64 v, .string (s ++ t)] w fun e w' => e = .returned (.complex .f64 (D a2) (D b2)) ∧ Drawn0 w w')
    (cW2 : ∀ w, Calls Try.prog 10 #[.int .i64 v, .string s] w fun e w' => e = .returned (.complex .f64 (D a1) (D b1)) ∧ Drawn0 w w')
    (cG4 : ∀ w, Calls Try.prog 14 #[.int .i64 v, .complex .f64 (D a1) (D b1), .string t] w fun e w' => e = .returned (.complex .f64 (D a2) (D b2)) ∧ Drawn0 w w')
    (cG5 : ∀ w, Calls Try.prog 14 #[.int .i64 v, .complex .f64 (D x) (D y), .string (⟨#[]⟩ : ByteArray)] w fun e w' => e = .returned (.complex .f64 (D x) (D y)) ∧ Drawn0 w w')
    (cO : ∀ w, Calls Try.prog 13 #[.int .i64 v, .string (s ++ t), .int .i64 (s.size : Int)] w fun e w' => e = .returned (.complex .f64 (D a1) (D b1)) ∧ Drawn0 w w')
    :
    Calls Try.prog 4 #[.string s, .string t, .bool o, .int .i16 x, .int .i16 y] w fun e w' => e = .returned (.bool true) ∧ Below w.heap.size w w' := by
  have hd := Below.refl w.heap.size w
  have cK := known_says
  have cP := fun (i j : Int) (w : World) => point_says i j w
  have da : decide ((200 : Int) < (s.size : Int)) = false := decide_eq_false (by omega)
  have db : decide (200 < s.size) = false := decide_eq_false (by omega)
  have ea : decide ((200 : Int) < (t.size : Int)) = false := decide_eq_false (by omega)
  have eb : decide (200 < t.size) = false := decide_eq_false (by omega)
  have fa : decide ((0 : Int) < (s.size : Int)) = true := decide_eq_true (by omega)
  have fb : decide (0 < s.size) = true := decide_eq_true (by omega)
  have ga : decide ((0 : Int) < (t.size : Int)) = false := decide_eq_false (by omega)
  have gb : decide (0 < t.size) = false := decide_eq_false (by omega)
  clear h1
  go_enter Try.func4, Try.ntmps4
  go_wp2_with (first | ((with_reducible refine (cK _).mono ?_); rintro e w' ⟨rfl, hdb⟩; replace hd := below_step hd hdb.below; clear hdb) | ((with_reducible refine (cS _).mono ?_); rintro e w' ⟨rfl, hdb⟩; replace hd := below_step hd hdb.below; clear hdb) | ((with_reducible refine (cT _).mono ?_); rintro e w' ⟨rfl, hdb⟩; replace hd := below_step hd hdb.below; clear hdb) | ((with_reducible refine (cV _).mono ?_); rintro e w' ⟨rfl, hdb⟩; replace hd := below_step hd hdb.below; clear hdb) | ((with_reducible refine (cP _ _ _).mono ?_); rintro e w' ⟨rfl, hdb⟩; replace hd := below_step hd hdb.below; clear hdb) | ((with_reducible refine (cG1 _).mono ?_); rintro e w' ⟨rfl, hdb⟩; replace hd := below_step hd hdb.below; clear hdb) | ((with_reducible refine (cG2 _).mono ?_); rintro e w' ⟨rfl, hdb⟩; replace hd := below_step hd hdb.below; clear hdb) | ((with_reducible refine (cG3 _).mono ?_); rintro e w' ⟨rfl, hdb⟩; replace hd := below_step hd hdb.below; clear hdb) | ((with_reducible refine (cW1 _).mono ?_); rintro e w' ⟨rfl, hdb⟩; replace hd := below_step hd hdb.below; clear hdb) | ((with_reducible refine (cW2 _).mono ?_); rintro e w' ⟨rfl, hdb⟩; replace hd := below_step hd hdb.below; clear hdb) | ((with_reducible refine (cG4 _).mono ?_); rintro e w' ⟨rfl, hdb⟩; replace hd := below_step hd hdb.below; clear hdb) | ((with_reducible refine (cG5 _).mono ?_); rintro e w' ⟨rfl, hdb⟩; replace hd := below_step hd hdb.below; clear hdb) | ((with_reducible refine (cO _).mono ?_); rintro e w' ⟨rfl, hdb⟩; replace hd := below_step hd hdb.below; clear hdb))
  go_ret
  exact ⟨rfl, hd⟩

set_option maxHeartbeats 16000000 in
set_option maxRecDepth 100000 in
theorem mgoes_cut (s t : ByteArray) (o : Bool) (x y : Int) (w : World) (hl : s.size ≤ 200) (hm : t.size ≤ 200) (h0 : 0 < s.size) (h1 : 0 < t.size) (hc : (s[s.size - 1]'(by omega)).toNat = 13) (hq : (t[0]'h1).toNat = 10)
    (cS : ∀ w, Calls Try.prog 18 #[.string s] w fun e w' => e = .returned (.bool true) ∧ Drawn0 w w')
    (cT : ∀ w, Calls Try.prog 18 #[.string t] w fun e w' => e = .returned (.bool true) ∧ Drawn0 w w')
    :
    Calls Try.prog 4 #[.string s, .string t, .bool o, .int .i16 x, .int .i16 y] w fun e w' => e = .returned (.bool true) ∧ Below w.heap.size w w' := by
  have hd := Below.refl w.heap.size w
  have cK := known_says
  have da : decide ((200 : Int) < (s.size : Int)) = false := decide_eq_false (by omega)
  have db : decide (200 < s.size) = false := decide_eq_false (by omega)
  have ea : decide ((200 : Int) < (t.size : Int)) = false := decide_eq_false (by omega)
  have eb : decide (200 < t.size) = false := decide_eq_false (by omega)
  have fa : decide ((0 : Int) < (s.size : Int)) = true := decide_eq_true (by omega)
  have fb : decide (0 < s.size) = true := decide_eq_true (by omega)
  have ga : decide ((0 : Int) < (t.size : Int)) = true := decide_eq_true (by omega)
  have gb : decide (0 < t.size) = true := decide_eq_true (by omega)
  have qcp : (((s[s.size - 1]'(by omega)).toNat : Nat) : Int) = 13 := by omega
  have qcb : ((((s[s.size - 1]'(by omega)).toNat : Nat) : Int) == 13) = true := beq_iff_eq.2 qcp
  have qdp : (((t[0]'h1).toNat : Nat) : Int) = 10 := by omega
  have qdb : ((((t[0]'h1).toNat : Nat) : Int) == 10) = true := beq_iff_eq.2 qdp
  go_enter Try.func4, Try.ntmps4
  go_wp2_with (first | ((with_reducible refine (cK _).mono ?_); rintro e w' ⟨rfl, hdb⟩; replace hd := below_step hd hdb.below; clear hdb) | ((with_reducible refine (cS _).mono ?_); rintro e w' ⟨rfl, hdb⟩; replace hd := below_step hd hdb.below; clear hdb) | ((with_reducible refine (cT _).mono ?_); rintro e w' ⟨rfl, hdb⟩; replace hd := below_step hd hdb.below; clear hdb))
  go_ret
  exact ⟨rfl, hd⟩

set_option maxHeartbeats 16000000 in
set_option maxRecDepth 100000 in
theorem mgoes_in1 (s t : ByteArray) (o : Bool) (x y v x1 y1 x2 y2 a1 b1 a2 b2 : Int) (w : World) (hl : s.size ≤ 200) (hm : t.size ≤ 200) (hx : -32768 ≤ x ∧ x ≤ 32767) (hy : -32768 ≤ y ∧ y ≤ 32767) (h0 : 0 < s.size) (h1 : 0 < t.size) (hc : (s[s.size - 1]'(by omega)).toNat ≠ 13)
    (q1 : (FloatKind.f64.format.order (D x) (D x) == some .eq) = true) (q2 : (FloatKind.f64.format.order (D y) (D y) == some .eq) = true)
    (q3 : (FloatKind.f64.format.order (D a1) (D a1) == some .eq) = true) (q4 : (FloatKind.f64.format.order (D b1) (D b1) == some .eq) = true)
    (q5 : (FloatKind.f64.format.order (D a2) (D a2) == some .eq) = true) (q6 : (FloatKind.f64.format.order (D b2) (D b2) == some .eq) = true)
    (q7 : (FloatKind.f64.format.order (D x2) (D x2) == some .eq) = true) (q8 : (FloatKind.f64.format.order (D y2) (D y2) == some .eq) = true)
    (cS : ∀ w, Calls Try.prog 18 #[.string s] w fun e w' => e = .returned (.bool true) ∧ Drawn0 w w')
    (cT : ∀ w, Calls Try.prog 18 #[.string t] w fun e w' => e = .returned (.bool true) ∧ Drawn0 w w')
    (cV : ∀ w, Calls Try.prog 19 #[.bool o] w fun e w' => e = .returned (.int .i64 v) ∧ Drawn0 w w')
    (cG1 : ∀ w, Calls Try.prog 14 #[.int .i64 v, .complex .f64 (D x) (D y), .string s] w fun e w' => e = .returned (.complex .f64 (D x1) (D y1)) ∧ Drawn0 w w')
    (cG2 : ∀ w, Calls Try.prog 14 #[.int .i64 v, .complex .f64 (D x1) (D y1), .string t] w fun e w' => e = .returned (.complex .f64 (D x2) (D y2)) ∧ Drawn0 w w')
    (cG3 : ∀ w, Calls Try.prog 14 #[.int .i64 v, .complex .f64 (D x) (D y), .string (s ++ t)] w fun e w' => e = .returned (.complex .f64 (D x2) (D y2)) ∧ Drawn0 w w')
    (cW1 : ∀ w, Calls Try.prog 10 #[.int .i64 v, .string (s ++ t)] w fun e w' => e = .returned (.complex .f64 (D a2) (D b2)) ∧ Drawn0 w w')
    (cW2 : ∀ w, Calls Try.prog 10 #[.int .i64 v, .string s] w fun e w' => e = .returned (.complex .f64 (D a1) (D b1)) ∧ Drawn0 w w')
    (cG4 : ∀ w, Calls Try.prog 14 #[.int .i64 v, .complex .f64 (D a1) (D b1), .string t] w fun e w' => e = .returned (.complex .f64 (D a2) (D b2)) ∧ Drawn0 w w')
    (cG5 : ∀ w, Calls Try.prog 14 #[.int .i64 v, .complex .f64 (D x) (D y), .string (⟨#[]⟩ : ByteArray)] w fun e w' => e = .returned (.complex .f64 (D x) (D y)) ∧ Drawn0 w w')
    (cO : ∀ w, Calls Try.prog 13 #[.int .i64 v, .string (s ++ t), .int .i64 (s.size : Int)] w fun e w' => e = .returned (.complex .f64 (D a1) (D b1)) ∧ Drawn0 w w')
    :
    Calls Try.prog 4 #[.string s, .string t, .bool o, .int .i16 x, .int .i16 y] w fun e w' => e = .returned (.bool true) ∧ Below w.heap.size w w' := by
  have hd := Below.refl w.heap.size w
  have cK := known_says
  have cP := fun (i j : Int) (w : World) => point_says i j w
  have da : decide ((200 : Int) < (s.size : Int)) = false := decide_eq_false (by omega)
  have db : decide (200 < s.size) = false := decide_eq_false (by omega)
  have ea : decide ((200 : Int) < (t.size : Int)) = false := decide_eq_false (by omega)
  have eb : decide (200 < t.size) = false := decide_eq_false (by omega)
  have fa : decide ((0 : Int) < (s.size : Int)) = true := decide_eq_true (by omega)
  have fb : decide (0 < s.size) = true := decide_eq_true (by omega)
  have ga : decide ((0 : Int) < (t.size : Int)) = true := decide_eq_true (by omega)
  have gb : decide (0 < t.size) = true := decide_eq_true (by omega)
  have qcp : ¬ (((s[s.size - 1]'(by omega)).toNat : Nat) : Int) = 13 := by omega
  have qcb : ((((s[s.size - 1]'(by omega)).toNat : Nat) : Int) == 13) = false := beq_eq_false_iff_ne.2 qcp
  go_enter Try.func4, Try.ntmps4
  go_wp2_with (first | ((with_reducible refine (cK _).mono ?_); rintro e w' ⟨rfl, hdb⟩; replace hd := below_step hd hdb.below; clear hdb) | ((with_reducible refine (cS _).mono ?_); rintro e w' ⟨rfl, hdb⟩; replace hd := below_step hd hdb.below; clear hdb) | ((with_reducible refine (cT _).mono ?_); rintro e w' ⟨rfl, hdb⟩; replace hd := below_step hd hdb.below; clear hdb) | ((with_reducible refine (cV _).mono ?_); rintro e w' ⟨rfl, hdb⟩; replace hd := below_step hd hdb.below; clear hdb) | ((with_reducible refine (cP _ _ _).mono ?_); rintro e w' ⟨rfl, hdb⟩; replace hd := below_step hd hdb.below; clear hdb) | ((with_reducible refine (cG1 _).mono ?_); rintro e w' ⟨rfl, hdb⟩; replace hd := below_step hd hdb.below; clear hdb) | ((with_reducible refine (cG2 _).mono ?_); rintro e w' ⟨rfl, hdb⟩; replace hd := below_step hd hdb.below; clear hdb) | ((with_reducible refine (cG3 _).mono ?_); rintro e w' ⟨rfl, hdb⟩; replace hd := below_step hd hdb.below; clear hdb) | ((with_reducible refine (cW1 _).mono ?_); rintro e w' ⟨rfl, hdb⟩; replace hd := below_step hd hdb.below; clear hdb) | ((with_reducible refine (cW2 _).mono ?_); rintro e w' ⟨rfl, hdb⟩; replace hd := below_step hd hdb.below; clear hdb) | ((with_reducible refine (cG4 _).mono ?_); rintro e w' ⟨rfl, hdb⟩; replace hd := below_step hd hdb.below; clear hdb) | ((with_reducible refine (cG5 _).mono ?_); rintro e w' ⟨rfl, hdb⟩; replace hd := below_step hd hdb.below; clear hdb) | ((with_reducible refine (cO _).mono ?_); rintro e w' ⟨rfl, hdb⟩; replace hd := below_step hd hdb.below; clear hdb))
  go_ret
  exact ⟨rfl, hd⟩

set_option maxHeartbeats 16000000 in
set_option maxRecDepth 100000 in
theorem mgoes_in2 (s t : ByteArray) (o : Bool) (x y v x1 y1 x2 y2 a1 b1 a2 b2 : Int) (w : World) (hl : s.size ≤ 200) (hm : t.size ≤ 200) (hx : -32768 ≤ x ∧ x ≤ 32767) (hy : -32768 ≤ y ∧ y ≤ 32767) (h0 : 0 < s.size) (h1 : 0 < t.size) (hc : (s[s.size - 1]'(by omega)).toNat = 13) (hq : (t[0]'h1).toNat ≠ 10)
    (q1 : (FloatKind.f64.format.order (D x) (D x) == some .eq) = true) (q2 : (FloatKind.f64.format.order (D y) (D y) == some .eq) = true)
    (q3 : (FloatKind.f64.format.order (D a1) (D a1) == some .eq) = true) (q4 : (FloatKind.f64.format.order (D b1) (D b1) == some .eq) = true)
    (q5 : (FloatKind.f64.format.order (D a2) (D a2) == some .eq) = true) (q6 : (FloatKind.f64.format.order (D b2) (D b2) == some .eq) = true)
    (q7 : (FloatKind.f64.format.order (D x2) (D x2) == some .eq) = true) (q8 : (FloatKind.f64.format.order (D y2) (D y2) == some .eq) = true)
    (cS : ∀ w, Calls Try.prog 18 #[.string s] w fun e w' => e = .returned (.bool true) ∧ Drawn0 w w')
    (cT : ∀ w, Calls Try.prog 18 #[.string t] w fun e w' => e = .returned (.bool true) ∧ Drawn0 w w')
    (cV : ∀ w, Calls Try.prog 19 #[.bool o] w fun e w' => e = .returned (.int .i64 v) ∧ Drawn0 w w')
    (cG1 : ∀ w, Calls Try.prog 14 #[.int .i64 v, .complex .f64 (D x) (D y), .string s] w fun e w' => e = .returned (.complex .f64 (D x1) (D y1)) ∧ Drawn0 w w')
    (cG2 : ∀ w, Calls Try.prog 14 #[.int .i64 v, .complex .f64 (D x1) (D y1), .string t] w fun e w' => e = .returned (.complex .f64 (D x2) (D y2)) ∧ Drawn0 w w')
    (cG3 : ∀ w, Calls Try.prog 14 #[.int .i64 v, .complex .f64 (D x) (D y), .string (s ++ t)] w fun e w' => e = .returned (.complex .f64 (D x2) (D y2)) ∧ Drawn0 w w')
    (cW1 : ∀ w, Calls Try.prog 10 #[.int .i64 v, .string (s ++ t)] w fun e w' => e = .returned (.complex .f64 (D a2) (D b2)) ∧ Drawn0 w w')
    (cW2 : ∀ w, Calls Try.prog 10 #[.int .i64 v, .string s] w fun e w' => e = .returned (.complex .f64 (D a1) (D b1)) ∧ Drawn0 w w')
    (cG4 : ∀ w, Calls Try.prog 14 #[.int .i64 v, .complex .f64 (D a1) (D b1), .string t] w fun e w' => e = .returned (.complex .f64 (D a2) (D b2)) ∧ Drawn0 w w')
    (cG5 : ∀ w, Calls Try.prog 14 #[.int .i64 v, .complex .f64 (D x) (D y), .string (⟨#[]⟩ : ByteArray)] w fun e w' => e = .returned (.complex .f64 (D x) (D y)) ∧ Drawn0 w w')
    (cO : ∀ w, Calls Try.prog 13 #[.int .i64 v, .string (s ++ t), .int .i64 (s.size : Int)] w fun e w' => e = .returned (.complex .f64 (D a1) (D b1)) ∧ Drawn0 w w')
    :
    Calls Try.prog 4 #[.string s, .string t, .bool o, .int .i16 x, .int .i16 y] w fun e w' => e = .returned (.bool true) ∧ Below w.heap.size w w' := by
  have hd := Below.refl w.heap.size w
  have cK := known_says
  have cP := fun (i j : Int) (w : World) => point_says i j w
  have da : decide ((200 : Int) < (s.size : Int)) = false := decide_eq_false (by omega)
  have db : decide (200 < s.size) = false := decide_eq_false (by omega)
  have ea : decide ((200 : Int) < (t.size : Int)) = false := decide_eq_false (by omega)
  have eb : decide (200 < t.size) = false := decide_eq_false (by omega)
  have fa : decide ((0 : Int) < (s.size : Int)) = true := decide_eq_true (by omega)
  have fb : decide (0 < s.size) = true := decide_eq_true (by omega)
  have ga : decide ((0 : Int) < (t.size : Int)) = true := decide_eq_true (by omega)
  have gb : decide (0 < t.size) = true := decide_eq_true (by omega)
  have qcp : (((s[s.size - 1]'(by omega)).toNat : Nat) : Int) = 13 := by omega
  have qcb : ((((s[s.size - 1]'(by omega)).toNat : Nat) : Int) == 13) = true := beq_iff_eq.2 qcp
  have qdp : ¬ (((t[0]'h1).toNat : Nat) : Int) = 10 := by omega
  have qdb : ((((t[0]'h1).toNat : Nat) : Int) == 10) = false := beq_eq_false_iff_ne.2 qdp
  go_enter Try.func4, Try.ntmps4
  go_wp2_with (first | ((with_reducible refine (cK _).mono ?_); rintro e w' ⟨rfl, hdb⟩; replace hd := below_step hd hdb.below; clear hdb) | ((with_reducible refine (cS _).mono ?_); rintro e w' ⟨rfl, hdb⟩; replace hd := below_step hd hdb.below; clear hdb) | ((with_reducible refine (cT _).mono ?_); rintro e w' ⟨rfl, hdb⟩; replace hd := below_step hd hdb.below; clear hdb) | ((with_reducible refine (cV _).mono ?_); rintro e w' ⟨rfl, hdb⟩; replace hd := below_step hd hdb.below; clear hdb) | ((with_reducible refine (cP _ _ _).mono ?_); rintro e w' ⟨rfl, hdb⟩; replace hd := below_step hd hdb.below; clear hdb) | ((with_reducible refine (cG1 _).mono ?_); rintro e w' ⟨rfl, hdb⟩; replace hd := below_step hd hdb.below; clear hdb) | ((with_reducible refine (cG2 _).mono ?_); rintro e w' ⟨rfl, hdb⟩; replace hd := below_step hd hdb.below; clear hdb) | ((with_reducible refine (cG3 _).mono ?_); rintro e w' ⟨rfl, hdb⟩; replace hd := below_step hd hdb.below; clear hdb) | ((with_reducible refine (cW1 _).mono ?_); rintro e w' ⟨rfl, hdb⟩; replace hd := below_step hd hdb.below; clear hdb) | ((with_reducible refine (cW2 _).mono ?_); rintro e w' ⟨rfl, hdb⟩; replace hd := below_step hd hdb.below; clear hdb) | ((with_reducible refine (cG4 _).mono ?_); rintro e w' ⟨rfl, hdb⟩; replace hd := below_step hd hdb.below; clear hdb) | ((with_reducible refine (cG5 _).mono ?_); rintro e w' ⟨rfl, hdb⟩; replace hd := below_step hd hdb.below; clear hdb) | ((with_reducible refine (cO _).mono ?_); rintro e w' ⟨rfl, hdb⟩; replace hd := below_step hd hdb.below; clear hdb))
  go_ret
  exact ⟨rfl, hd⟩
end Go.Proofs.Ytbdjcfaocmhdnaa.Q
