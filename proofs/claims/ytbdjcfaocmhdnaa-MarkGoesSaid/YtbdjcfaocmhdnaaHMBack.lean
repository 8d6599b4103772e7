/- The law MarkBack: its walk. Conditions: sizes. -/
import Derived.Test.YtbdjcfaocmhdnaaMkK
import Derived.Test.YtbdjcfaocmhdnaaMkT
namespace Go.Proofs.Ytbdjcfaocmhdnaa.Q
open Go Go.RowKit Go.Proofs Go.Proofs.Ytbdjcfaocmhdnaa.Fl Go.Proofs.YtbdjcfaocmhdnaaW.PrintWords Go.Proofs.YtbdjcfaocmhdnaaW.PrintLast Go.Proofs.YtbdjcfaocmhdnaaW.PrintMore
set_option linter.unusedVariables false
set_option linter.unusedSimpArgs false

set_option maxHeartbeats 8000000 in
set_option maxRecDepth 100000 in
theorem mback_long (s : ByteArray) (o : Bool) (x : Int) (w : World) (hl : 200 < s.size) :
    Calls Try.prog 5 #[.string s, .bool o, .int .i64 x] w fun e w' => e = .returned (.bool true) ∧ Below w.heap.size w w' := by
  have hd := Below.refl w.heap.size w
  have cK := known_says
  have da : decide ((200 : Int) < (s.size : Int)) = true := decide_eq_true (by omega)
  have db : decide (200 < s.size) = true := decide_eq_true (by omega)
  go_enter Try.func5, Try.ntmps5
  go_wp2_with (first | ((with_reducible refine (cK _).mono ?_); rintro e w' ⟨rfl, hdb⟩; replace hd := below_step hd hdb.below; clear hdb))
  go_ret
  exact ⟨rfl, hd⟩

set_option maxHeartbeats 8000000 in
set_option maxRecDepth 100000 in
theorem mback_ill (s : ByteArray) (o : Bool) (x : Int) (w : World) (hl : s.size ≤ 200)
    (cW : ∀ w, Calls Try.prog 18 #[.string s] w fun e w' => e = .returned (.bool false) ∧ Drawn0 w w')
    :
    Calls Try.prog 5 #[.string s, .bool o, .int .i64 x] w fun e w' => e = .returned (.bool true) ∧ Below w.heap.size w w' := by
  have hd := Below.refl w.heap.size w
  have cK := known_says
  have da : decide ((200 : Int) < (s.size : Int)) = false := decide_eq_false (by omega)
  have db : decide (200 < s.size) = false := decide_eq_false (by omega)
  go_enter Try.func5, Try.ntmps5
  go_wp2_with (first | ((with_reducible refine (cK _).mono ?_); rintro e w' ⟨rfl, hdb⟩; replace hd := below_step hd hdb.below; clear hdb) | ((with_reducible refine (cW _).mono ?_); rintro e w' ⟨rfl, hdb⟩; replace hd := below_step hd hdb.below; clear hdb))
  go_ret
  exact ⟨rfl, hd⟩

set_option maxHeartbeats 8000000 in
set_option maxRecDepth 100000 in
theorem mback_ill2 (s : ByteArray) (o : Bool) (x v : Int) (k : Nat) (w : World) (hl : s.size ≤ 200) (hk : k ≤ s.size)
    (cW : ∀ w, Calls Try.prog 18 #[.string s] w fun e w' => e = .returned (.bool true) ∧ Drawn0 w w')
    (cV : ∀ w, Calls Try.prog 19 #[.bool o] w fun e w' => e = .returned (.int .i64 v) ∧ Drawn0 w w')
    (cI : ∀ w, Calls Try.prog 20 #[.int .i64 x, .int .i64 0, .int .i64 (s.size : Int)] w fun e w' => e = .returned (.int .i64 (k : Int)) ∧ Drawn0 w w')
    (cX : ∀ w, Calls Try.prog 18 #[.string (s.extract 0 k)] w fun e w' => e = .returned (.bool false) ∧ Drawn0 w w')
    :
    Calls Try.prog 5 #[.string s, .bool o, .int .i64 x] w fun e w' => e = .returned (.bool true) ∧ Below w.heap.size w w' := by
  have hd := Below.refl w.heap.size w
  have cK := known_says
  have da : decide ((200 : Int) < (s.size : Int)) = false := decide_eq_false (by omega)
  have db : decide (200 < s.size) = false := decide_eq_false (by omega)
  go_enter Try.func5, Try.ntmps5
  go_wp2_with (first | ((with_reducible refine (cK _).mono ?_); rintro e w' ⟨rfl, hdb⟩; replace hd := below_step hd hdb.below; clear hdb) | ((with_reducible refine (cW _).mono ?_); rintro e w' ⟨rfl, hdb⟩; replace hd := below_step hd hdb.below; clear hdb) | ((with_reducible refine (cV _).mono ?_); rintro e w' ⟨rfl, hdb⟩; replace hd := below_step hd hdb.below; clear hdb) | ((with_reducible refine (cI _).mono ?_); rintro e w' ⟨rfl, hdb⟩; replace hd := below_step hd hdb.below; clear hdb) | ((with_reducible refine (cX _).mono ?_); rintro e w' ⟨rfl, hdb⟩; replace hd := below_step hd hdb.below; clear hdb))
  go_ret
  exact ⟨rfl, hd⟩

set_option maxHeartbeats 8000000 in
set_option maxRecDepth 100000 in
theorem mback_start (s : ByteArray) (o : Bool) (x v : Int) (k a b : Nat) (w : World) (hl : s.size ≤ 200) (hk : k ≤ s.size) (h0 : k = 0)
    (cW : ∀ w, Calls Try.prog 18 #[.string s] w fun e w' => e = .returned (.bool true) ∧ Drawn0 w w')
    (cV : ∀ w, Calls Try.prog 19 #[.bool o] w fun e w' => e = .returned (.int .i64 v) ∧ Drawn0 w w')
    (cI : ∀ w, Calls Try.prog 20 #[.int .i64 x, .int .i64 0, .int .i64 (s.size : Int)] w fun e w' => e = .returned (.int .i64 (k : Int)) ∧ Drawn0 w w')
    (cX : ∀ w, Calls Try.prog 18 #[.string (s.extract 0 k)] w fun e w' => e = .returned (.bool true) ∧ Drawn0 w w')
    (cP : ∀ w, Calls Try.prog 13 #[.int .i64 v, .string s, .int .i64 (k : Int)] w fun e w' => e = .returned (.complex .f64 (D (a : Int)) (D (b : Int))) ∧ Drawn0 w w')
    (cF : ∀ w, Calls Try.prog 15 #[.int .i64 v, .string s, .complex .f64 (D (a : Int)) (D (b : Int))] w fun e w' => e = .returned (.int .i64 (k : Int)) ∧ Drawn0 w w')
    :
    Calls Try.prog 5 #[.string s, .bool o, .int .i64 x] w fun e w' => e = .returned (.bool true) ∧ Below w.heap.size w w' := by
  have hd := Below.refl w.heap.size w
  have cK := known_says
  have da : decide ((200 : Int) < (s.size : Int)) = false := decide_eq_false (by omega)
  have db : decide (200 < s.size) = false := decide_eq_false (by omega)
  have fa : decide ((0 : Int) < (k : Int)) = false := decide_eq_false (by omega)
  have fb : decide (0 < k) = false := decide_eq_false (by omega)
  have kk : ((k : Int) == (k : Int)) = true := beq_self_eq_true _
  clear h0
  go_enter Try.func5, Try.ntmps5
  go_wp2_with (first | ((with_reducible refine (cK _).mono ?_); rintro e w' ⟨rfl, hdb⟩; replace hd := below_step hd hdb.below; clear hdb) | ((with_reducible refine (cW _).mono ?_); rintro e w' ⟨rfl, hdb⟩; replace hd := below_step hd hdb.below; clear hdb) | ((with_reducible refine (cV _).mono ?_); rintro e w' ⟨rfl, hdb⟩; replace hd := below_step hd hdb.below; clear hdb) | ((with_reducible refine (cI _).mono ?_); rintro e w' ⟨rfl, hdb⟩; replace hd := below_step hd hdb.below; clear hdb) | ((with_reducible refine (cX _).mono ?_); rintro e w' ⟨rfl, hdb⟩; replace hd := below_step hd hdb.below; clear hdb) | ((with_reducible refine (cP _).mono ?_); rintro e w' ⟨rfl, hdb⟩; replace hd := below_step hd hdb.below; clear hdb) | ((with_reducible refine (cF _).mono ?_); rintro e w' ⟨rfl, hdb⟩; replace hd := below_step hd hdb.below; clear hdb))
  go_ret
  exact ⟨rfl, hd⟩

set_option maxHeartbeats 8000000 in
set_option maxRecDepth 100000 in
theorem mback_end (s : ByteArray) (o : Bool) (x v : Int) (k a b : Nat) (w : World) (hl : s.size ≤ 200) (hk : k ≤ s.size) (h0 : 0 < k) (h1 : k = s.size)
    (cW : ∀ w, Calls Try.prog 18 #[.string s] w fun e w' => e = .returned (.bool true) ∧ Drawn0 w w')
    (cV : ∀ w, Calls Try.prog 19 #[.bool o] w fun e w' => e = .returned (.int .i64 v) ∧ Drawn0 w w')
    (cI : ∀ w, Calls Try.prog 20 #[.int .i64 x, .int .i64 0, .int .i64 (s.size : Int)] w fun e w' => e = .returned (.int .i64 (k : Int)) ∧ Drawn0 w w')
    (cX : ∀ w, Calls Try.prog 18 #[.string (s.extract 0 k)] w fun e w' => e = .returned (.bool true) ∧ Drawn0 w w')
    (cP : ∀ w, Calls Try.prog 13 #[.int .i64 v, .string s, .int .i64 (k : Int)] w fun e w' => e = .returned (.complex .f64 (D (a : Int)) (D (b : Int))) ∧ Drawn0 w w')
    (cF : ∀ w, Calls Try.prog 15 #[.int .i64 v, .string s, .complex .f64 (D (a : Int)) (D (b : Int))] w fun e w' => e = .returned (.int .i64 (k : Int)) ∧ Drawn0 w w')
    :
    Calls Try.prog 5 #[.string s, .bool o, .int .i64 x] w fun e w' => e = .returned (.bool true) ∧ Below w.heap.size w w' := by
  have hd := Below.refl w.heap.size w
  have cK := known_says
  have da : decide ((200 : Int) < (s.size : Int)) = false := decide_eq_false (by omega)
  have db : decide (200 < s.size) = false := decide_eq_false (by omega)
  have fa : decide ((0 : Int) < (k : Int)) = true := decide_eq_true (by omega)
  have fb : decide (0 < k) = true := decide_eq_true (by omega)
  have ga : decide ((k : Int) < (s.size : Int)) = false := decide_eq_false (by omega)
  have gb : decide (k < s.size) = false := decide_eq_false (by omega)
  have kk : ((k : Int) == (k : Int)) = true := beq_self_eq_true _
  clear h1
  go_enter Try.func5, Try.ntmps5
  go_wp2_with (first | ((with_reducible refine (cK _).mono ?_); rintro e w' ⟨rfl, hdb⟩; replace hd := below_step hd hdb.below; clear hdb) | ((with_reducible refine (cW _).mono ?_); rintro e w' ⟨rfl, hdb⟩; replace hd := below_step hd hdb.below; clear hdb) | ((with_reducible refine (cV _).mono ?_); rintro e w' ⟨rfl, hdb⟩; replace hd := below_step hd hdb.below; clear hdb) | ((with_reducible refine (cI _).mono ?_); rintro e w' ⟨rfl, hdb⟩; replace hd := below_step hd hdb.below; clear hdb) | ((with_reducible refine (cX _).mono ?_); rintro e w' ⟨rfl, hdb⟩; replace hd := below_step hd hdb.below; clear hdb) | ((with_reducible refine (cP _).mono ?_); rintro e w' ⟨rfl, hdb⟩; replace hd := below_step hd hdb.below; clear hdb) | ((with_reducible refine (cF _).mono ?_); rintro e w' ⟨rfl, hdb⟩; replace hd := below_step hd hdb.below; clear hdb))
  go_ret
  exact ⟨rfl, hd⟩

set_option maxHeartbeats 8000000 in
set_option maxRecDepth 100000 in
theorem mback_cut (s : ByteArray) (o : Bool) (x v : Int) (k a b : Nat) (w : World) (hl : s.size ≤ 200) (hk : k ≤ s.size) (h0 : 0 < k) (h1 : k < s.size) (hc : (s[k - 1]'(by omega)).toNat = 13) (hq : (s[k]'h1).toNat = 10)
    (cW : ∀ w, Calls Try.prog 18 #[.string s] w fun e w' => e = .returned (.bool true) ∧ Drawn0 w w')
    (cV : ∀ w, Calls Try.prog 19 #[.bool o] w fun e w' => e = .returned (.int .i64 v) ∧ Drawn0 w w')
    (cI : ∀ w, Calls Try.prog 20 #[.int .i64 x, .int .i64 0, .int .i64 (s.size : Int)] w fun e w' => e = .returned (.int .i64 (k : Int)) ∧ Drawn0 w w')
    (cX : ∀ w, Calls Try.prog 18 #[.string (s.extract 0 k)] w fun e w' => e = .returned (.bool true) ∧ Drawn0 w w')
    :
    Calls Try.prog 5 #[.string s, .bool o, .int .i64 x] w fun e w' => e = .returned (.bool true) ∧ Below w.heap.size w w' := by
  have hd := Below.refl w.heap.size w
  have cK := known_says
  have da : decide ((200 : Int) < (s.size : Int)) = false := decide_eq_false (by omega)
  have db : decide (200 < s.size) = false := decide_eq_false (by omega)
  have fa : decide ((0 : Int) < (k : Int)) = true := decide_eq_true (by omega)
  have fb : decide (0 < k) = true := decide_eq_true (by omega)
  have ga : decide ((k : Int) < (s.size : Int)) = true := decide_eq_true (by omega)
  have gb : decide (k < s.size) = true := decide_eq_true (by omega)
  have qcp : (((s[k - 1]'(by omega)).toNat : Nat) : Int) = 13 := by omega
  have qcb : ((((s[k - 1]'(by omega)).toNat : Nat) : Int) == 13) = true := beq_iff_eq.2 qcp
  have qdp : (((s[k]'h1).toNat : Nat) : Int) = 10 := by omega
  have qdb : ((((s[k]'h1).toNat : Nat) : Int) == 10) = true := beq_iff_eq.2 qdp
  have kk : ((k : Int) == (k : Int)) = true := beq_self_eq_true _
  go_enter Try.func5, Try.ntmps5
  go_wp2_with (first | ((with_reducible refine (cK _).mono ?_); rintro e w' ⟨rfl, hdb⟩; replace hd := below_step hd hdb.below; clear hdb) | ((with_reducible refine (cW _).mono ?_); rintro e w' ⟨rfl, hdb⟩; replace hd := below_step hd hdb.below; clear hdb) | ((with_reducible refine (cV _).mono ?_); rintro e w' ⟨rfl, hdb⟩; replace hd := below_step hd hdb.below; clear hdb) | ((with_reducible refine (cI _).mono ?_); rintro e w' ⟨rfl, hdb⟩; replace hd := below_step hd hdb.below; clear hdb) | ((with_reducible refine (cX _).mono ?_); rintro e w' ⟨rfl, hdb⟩; replace hd := below_step hd hdb.below; clear hdb))
  go_ret
  exact ⟨rfl, hd⟩

set_option maxHeartbeats 8000000 in
set_option maxRecDepth 100000 in
theorem mback_in1 (s : ByteArray) (o : Bool) (x v : Int) (k a b : Nat) (w : World) (hl : s.size ≤ 200) (hk : k ≤ s.size) (h0 : 0 < k) (h1 : k < s.size) (hc : (s[k - 1]'(by omega)).toNat ≠ 13)
    (cW : ∀ w, Calls Try.prog 18 #[.string s] w fun e w' => e = .returned (.bool true) ∧ Drawn0 w w')
    (cV : ∀ w, Calls Try.prog 19 #[.bool o] w fun e w' => e = .returned (.int .i64 v) ∧ Drawn0 w w')
    (cI : ∀ w, Calls Try.prog 20 #[.int .i64 x, .int .i64 0, .int .i64 (s.size : Int)] w fun e w' => e = .returned (.int .i64 (k : Int)) ∧ Drawn0 w w')
    (cX : ∀ w, Calls Try.prog 18 #[.string (s.extract 0 k)] w fun e w' => e = .returned (.bool true) ∧ Drawn0 w w')
    (cP : ∀ w, Calls Try.prog 13 #[.int .i64 v, .string s, .int .i64 (k : Int)] w fun e w' => e = .returned (.complex .f64 (D (a : Int)) (D (b : Int))) ∧ Drawn0 w w')
    (cF : ∀ w, Calls Try.prog 15 #[.int .i64 v, .string s, .complex .f64 (D (a : Int)) (D (b : Int))] w fun e w' => e = .returned (.int .i64 (k : Int)) ∧ Drawn0 w w')
    :
    Calls Try.prog 5 #[.string s, .bool o, .int .i64 x] w fun e w' => e = .returned (.bool true) ∧ Below w.heap.size w w' := by
  have hd := Below.refl w.heap.size w
  have cK := known_says
  have da : decide ((200 : Int) < (s.size : Int)) = false := decide_eq_false (by omega)
  have db : decide (200 < s.size) = false := decide_eq_false (by omega)
  have fa : decide ((0 : Int) < (k : Int)) = true := decide_eq_true (by omega)
  have fb : decide (0 < k) = true := decide_eq_true (by omega)
  have ga : decide ((k : Int) < (s.size : Int)) = true := decide_eq_true (by omega)
  have gb : decide (k < s.size) = true := decide_eq_true (by omega)
  have qcp : ¬ (((s[k - 1]'(by omega)).toNat : Nat) : Int) = 13 := by omega
  have qcb : ((((s[k - 1]'(by omega)).toNat : Nat) : Int) == 13) = false := beq_eq_false_iff_ne.2 qcp
  have kk : ((k : Int) == (k : Int)) = true := beq_self_eq_true _
  go_enter Try.func5, Try.ntmps5
  go_wp2_with (first | ((with_reducible refine (cK _).mono ?_); rintro e w' ⟨rfl, hdb⟩; replace hd := below_step hd hdb.below; clear hdb) | ((with_reducible refine (cW _).mono ?_); rintro e w' ⟨rfl, hdb⟩; replace hd := below_step hd hdb.below; clear hdb) | ((with_reducible refine (cV _).mono ?_); rintro e w' ⟨rfl, hdb⟩; replace hd := below_step hd hdb.below; clear hdb) | ((with_reducible refine (cI _).mono ?_); rintro e w' ⟨rfl, hdb⟩; replace hd := below_step hd hdb.below; clear hdb) | ((with_reducible refine (cX _).mono ?_); rintro e w' ⟨rfl, hdb⟩; replace hd := below_step hd hdb.below; clear hdb) | ((with_reducible refine (cP _).mono ?_); rintro e w' ⟨rfl, hdb⟩; replace hd := below_step hd hdb.below; clear hdb) | ((with_reducible refine (cF _).mono ?_); rintro e w' ⟨rfl, hdb⟩; replace hd := below_step hd hdb.below; clear hdb))
  go_ret
  exact ⟨rfl, hd⟩

set_option maxHeartbeats 8000000 in
set_option maxRecDepth 100000 in
theorem mback_in2 (s : ByteArray) (o : Bool) (x v : Int) (k a b : Nat) (w : World) (hl : s.size ≤ 200) (hk : k ≤ s.size) (h0 : 0 < k) (h1 : k < s.size) (hc : (s[k - 1]'(by omega)).toNat = 13) (hq : (s[k]'h1).toNat ≠ 10)
    (cW : ∀ w, Calls Try.prog 18 #[.string s] w fun e w' => e = .returned (.bool true) ∧ Drawn0 w w')
    (cV : ∀ w, Calls Try.prog 19 #[.bool o] w fun e w' => e = .returned (.int .i64 v) ∧ Drawn0 w w')
    (cI : ∀ w, Calls Try.prog 20 #[.int .i64 x, .int .i64 0, .int .i64 (s.size : Int)] w fun e w' => e = .returned (.int .i64 (k : Int)) ∧ Drawn0 w w')
    (cX : ∀ w, Calls Try.prog 18 #[.string (s.extract 0 k)] w fun e w' => e = .returned (.bool true) ∧ Drawn0 w w')
    (cP : ∀ w, Calls Try.prog 13 #[.int .i64 v, .string s, .int .i64 (k : Int)] w fun e w' => e = .returned (.complex .f64 (D (a : Int)) (D (b : Int))) ∧ Drawn0 w w')
    (cF : ∀ w, Calls Try.prog 15 #[.int .i64 v, .string s, .complex .f64 (D (a : Int)) (D (b : Int))] w fun e w' => e = .returned (.int .i64 (k : Int)) ∧ Drawn0 w w')
    :
    Calls Try.prog 5 #[.string s, .bool o, .int .i64 x] w fun e w' => e = .returned (.bool true) ∧ Below w.heap.size w w' := by
  have hd := Below.refl w.heap.size w
  have cK := known_says
  have da : decide ((200 : Int) < (s.size : Int)) = false := decide_eq_false (by omega)
  have db : decide (200 < s.size) = false := decide_eq_false (by omega)
  have fa : decide ((0 : Int) < (k : Int)) = true := decide_eq_true (by omega)
  have fb : decide (0 < k) = true := decide_eq_true (by omega)
  have ga : decide ((k : Int) < (s.size : Int)) = true := decide_eq_true (by omega)
  have gb : decide (k < s.size) = true := decide_eq_true (by omega)
  have qcp : (((s[k - 1]'(by omega)).toNat : Nat) : Int) = 13 := by omega
  have qcb : ((((s[k - 1]'(by omega)).toNat : Nat) : Int) == 13) = true := beq_iff_eq.2 qcp
  have qdp : ¬ (((s[k]'h1).toNat : Nat) : Int) = 10 := by omega
  have qdb : ((((s[k]'h1).toNat : Nat) : Int) == 10) = false := beq_eq_false_iff_ne.2 qdp
  have kk : ((k : Int) == (k : Int)) = true := beq_self_eq_true _
  go_enter Try.func5, Try.ntmps5
  go_wp2_with (first | ((with_reducible refine (cK _).mono ?_); rintro e w' ⟨rfl, hdb⟩; replace hd := below_step hd hdb.below; clear hdb) | ((with_reducible refine (cW _).mono ?_); rintro e w' ⟨rfl, hdb⟩; replace hd := below_step hd hdb.below; clear hdb) | ((with_reducible refine (cV _).mono ?_); rintro e w' ⟨rfl, hdb⟩; replace hd := below_step hd hdb.below; clear hdb) | ((with_reducible refine (cI _).mono ?_); rintro e w' ⟨rfl, hdb⟩; replace hd := below_step hd hdb.below; clear hdb) | ((with_reducible refine (cX _).mono ?_); rintro e w' ⟨rfl, hdb⟩; replace hd := below_step hd hdb.below; clear hdb) | ((with_reducible refine (cP _).mono ?_); rintro e w' ⟨rfl, hdb⟩; replace hd := below_step hd hdb.below; clear hdb) | ((with_reducible refine (cF _).mono ?_); rintro e w' ⟨rfl, hdb⟩; replace hd := below_step hd hdb.below; clear hdb))
  go_ret
  exact ⟨rfl, hd⟩
end Go.Proofs.Ytbdjcfaocmhdnaa.Q
