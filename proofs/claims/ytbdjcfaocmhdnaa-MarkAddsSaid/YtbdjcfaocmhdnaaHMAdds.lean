/- The law MarkAdds: its walk. Conditions: sizes. -/
import Derived.Test.YtbdjcfaocmhdnaaMkK
import Derived.Test.YtbdjcfaocmhdnaaMkT
import Derived.Deep.QuietTactic
import Derived.BigQuiet
namespace Go.Proofs.Ytbdjcfaocmhdnaa.Q
open Go Go.RowKit Go.Proofs Go.Proofs.Ytbdjcfaocmhdnaa.Fl Go.Proofs.YtbdjcfaocmhdnaaW.PrintWords Go.Proofs.YtbdjcfaocmhdnaaW.PrintLast Go.Proofs.YtbdjcfaocmhdnaaW.PrintMore
set_option linter.unusedVariables false
set_option linter.unusedSimpArgs false

theorem quiet0 {P : Program} {f : FuncId} {args : Array Value} {w : World} {n : Nat} {v : Value}
    (h : Calls P f args (w.drewN n) fun e w' => e = .returned v ∧ Drawn0 (w.drewN n) w') : Calls P f args (w.drewN n) fun e w'' => e = .returned v ∧ ∃ m, w'' = w.drewN m :=
  Calls.quiet_of (h.mono fun _ _ h => ⟨h.1, h.2.out⟩)

set_option maxHeartbeats 16000000 in
set_option maxRecDepth 100000 in
theorem madds_long (s : ByteArray) (o : Bool) (x y : Int) (w : World) (hl : 200 < s.size) :
    Calls Try.prog 7 #[.string s, .bool o, .int .i64 x, .int .i64 y] w fun e w' => e = .returned (.bool true) ∧ Below w.heap.size w w' := by
  have hd := Below.refl w.heap.size w
  have cK := known_says
  have da : decide ((200 : Int) < (s.size : Int)) = true := decide_eq_true (by omega)
  have db : decide (200 < s.size) = true := decide_eq_true (by omega)
  go_enter Try.func7, Try.ntmps7
  go_wp2_with (first | ((with_reducible refine (cK _).mono ?_); rintro e w' ⟨rfl, hdb⟩; replace hd := below_step hd hdb.below; clear hdb))
  go_ret
  exact ⟨rfl, hd⟩

set_option maxHeartbeats 16000000 in
set_option maxRecDepth 100000 in
theorem madds_ill (s : ByteArray) (o : Bool) (x y : Int) (w : World) (hl : s.size ≤ 200)
    (cS : ∀ w, Calls Try.prog 18 #[.string s] w fun e w' => e = .returned (.bool false) ∧ Drawn0 w w')
    :
    Calls Try.prog 7 #[.string s, .bool o, .int .i64 x, .int .i64 y] w fun e w' => e = .returned (.bool true) ∧ Below w.heap.size w w' := by
  have hd := Below.refl w.heap.size w
  have cK := known_says
  have da : decide ((200 : Int) < (s.size : Int)) = false := decide_eq_false (by omega)
  have db : decide (200 < s.size) = false := decide_eq_false (by omega)
  go_enter Try.func7, Try.ntmps7
  go_wp2_with (first | ((with_reducible refine (cK _).mono ?_); rintro e w' ⟨rfl, hdb⟩; replace hd := below_step hd hdb.below; clear hdb) | ((with_reducible refine (cS _).mono ?_); rintro e w' ⟨rfl, hdb⟩; replace hd := below_step hd hdb.below; clear hdb))
  go_ret
  exact ⟨rfl, hd⟩

set_option maxHeartbeats 16000000 in
set_option maxRecDepth 100000 in
theorem madds_cutI_up (s : ByteArray) (o : Bool) (x y v : Int) (i k : Nat) (w : World) (hl : s.size ≤ 200) (hik : i ≤ k) (hk : k ≤ s.size)
    (cS : ∀ w, Calls Try.prog 18 #[.string s] w fun e w' => e = .returned (.bool true) ∧ Drawn0 w w')
    (cV : ∀ w, Calls Try.prog 19 #[.bool o] w fun e w' => e = .returned (.int .i64 v) ∧ Drawn0 w w')
    (cI : ∀ w, Calls Try.prog 20 #[.int .i64 x, .int .i64 0, .int .i64 (s.size : Int)] w fun e w' => e = .returned (.int .i64 (i : Int)) ∧ Drawn0 w w')
    (cJ : ∀ w, Calls Try.prog 20 #[.int .i64 y, .int .i64 0, .int .i64 (s.size : Int)] w fun e w' => e = .returned (.int .i64 (k : Int)) ∧ Drawn0 w w')
    (cX : ∀ w, Calls Try.prog 18 #[.string (s.extract 0 i)] w fun e w' => e = .returned (.bool false) ∧ Drawn0 w w')
    :
    Calls Try.prog 7 #[.string s, .bool o, .int .i64 x, .int .i64 y] w fun e w' => e = .returned (.bool true) ∧ Below w.heap.size w w' := by
  have hd := Below.refl w.heap.size w
  have cK := known_says
  have da : decide ((200 : Int) < (s.size : Int)) = false := decide_eq_false (by omega)
  have db : decide (200 < s.size) = false := decide_eq_false (by omega)
  have fa : decide ((k : Int) < (i : Int)) = false := decide_eq_false (by omega)
  have fb : decide (k < i) = false := decide_eq_false (by omega)
  go_enter Try.func7, Try.ntmps7
  go_wp2_with (first | ((with_reducible refine (cK _).mono ?_); rintro e w' ⟨rfl, hdb⟩; replace hd := below_step hd hdb.below; clear hdb) | ((with_reducible refine (cS _).mono ?_); rintro e w' ⟨rfl, hdb⟩; replace hd := below_step hd hdb.below; clear hdb) | ((with_reducible refine (cV _).mono ?_); rintro e w' ⟨rfl, hdb⟩; replace hd := below_step hd hdb.below; clear hdb) | ((with_reducible refine (cI _).mono ?_); rintro e w' ⟨rfl, hdb⟩; replace hd := below_step hd hdb.below; clear hdb) | ((with_reducible refine (cJ _).mono ?_); rintro e w' ⟨rfl, hdb⟩; replace hd := below_step hd hdb.below; clear hdb) | ((with_reducible refine (cX _).mono ?_); rintro e w' ⟨rfl, hdb⟩; replace hd := below_step hd hdb.below; clear hdb))
  go_ret
  exact ⟨rfl, hd⟩

set_option maxHeartbeats 16000000 in
set_option maxRecDepth 100000 in
theorem madds_cutK_up (s : ByteArray) (o : Bool) (x y v : Int) (i k : Nat) (w : World) (hl : s.size ≤ 200) (hik : i ≤ k) (hk : k ≤ s.size)
    (cS : ∀ w, Calls Try.prog 18 #[.string s] w fun e w' => e = .returned (.bool true) ∧ Drawn0 w w')
    (cV : ∀ w, Calls Try.prog 19 #[.bool o] w fun e w' => e = .returned (.int .i64 v) ∧ Drawn0 w w')
    (cI : ∀ w, Calls Try.prog 20 #[.int .i64 x, .int .i64 0, .int .i64 (s.size : Int)] w fun e w' => e = .returned (.int .i64 (i : Int)) ∧ Drawn0 w w')
    (cJ : ∀ w, Calls Try.prog 20 #[.int .i64 y, .int .i64 0, .int .i64 (s.size : Int)] w fun e w' => e = .returned (.int .i64 (k : Int)) ∧ Drawn0 w w')
    (cX : ∀ w, Calls Try.prog 18 #[.string (s.extract 0 i)] w fun e w' => e = .returned (.bool true) ∧ Drawn0 w w')
    (cY : ∀ w, Calls Try.prog 18 #[.string (s.extract 0 k)] w fun e w' => e = .returned (.bool false) ∧ Drawn0 w w')
    :
    Calls Try.prog 7 #[.string s, .bool o, .int .i64 x, .int .i64 y] w fun e w' => e = .returned (.bool true) ∧ Below w.heap.size w w' := by
  have hd := Below.refl w.heap.size w
  have cK := known_says
  have da : decide ((200 : Int) < (s.size : Int)) = false := decide_eq_false (by omega)
  have db : decide (200 < s.size) = false := decide_eq_false (by omega)
  have fa : decide ((k : Int) < (i : Int)) = false := decide_eq_false (by omega)
  have fb : decide (k < i) = false := decide_eq_false (by omega)
  go_enter Try.func7, Try.ntmps7
  go_wp2_with (first | ((with_reducible refine (cK _).mono ?_); rintro e w' ⟨rfl, hdb⟩; replace hd := below_step hd hdb.below; clear hdb) | ((with_reducible refine (cS _).mono ?_); rintro e w' ⟨rfl, hdb⟩; replace hd := below_step hd hdb.below; clear hdb) | ((with_reducible refine (cV _).mono ?_); rintro e w' ⟨rfl, hdb⟩; replace hd := below_step hd hdb.below; clear hdb) | ((with_reducible refine (cI _).mono ?_); rintro e w' ⟨rfl, hdb⟩; replace hd := below_step hd hdb.below; clear hdb) | ((with_reducible refine (cJ _).mono ?_); rintro e w' ⟨rfl, hdb⟩; replace hd := below_step hd hdb.below; clear hdb) | ((with_reducible refine (cX _).mono ?_); rintro e w' ⟨rfl, hdb⟩; replace hd := below_step hd hdb.below; clear hdb) | ((with_reducible refine (cY _).mono ?_); rintro e w' ⟨rfl, hdb⟩; replace hd := below_step hd hdb.below; clear hdb))
  go_ret
  exact ⟨rfl, hd⟩

set_option maxHeartbeats 16000000 in
set_option maxRecDepth 100000 in
theorem madds_far_up (s : ByteArray) (o : Bool) (x y v : Int) (i k : Nat) (a b c d g h : Int) (w : World) (hl : s.size ≤ 200) (hik : i ≤ k) (hk : k ≤ s.size)
    (qa : (FloatKind.f64.format.order (D a) (D c) == some .eq) = false)
    (qb : (FloatKind.f64.format.order (D a) (D c) == some .lt) = true)
    (cS : ∀ w, Calls Try.prog 18 #[.string s] w fun e w' => e = .returned (.bool true) ∧ Drawn0 w w')
    (cV : ∀ w, Calls Try.prog 19 #[.bool o] w fun e w' => e = .returned (.int .i64 v) ∧ Drawn0 w w')
    (cI : ∀ w, Calls Try.prog 20 #[.int .i64 x, .int .i64 0, .int .i64 (s.size : Int)] w fun e w' => e = .returned (.int .i64 (i : Int)) ∧ Drawn0 w w')
    (cJ : ∀ w, Calls Try.prog 20 #[.int .i64 y, .int .i64 0, .int .i64 (s.size : Int)] w fun e w' => e = .returned (.int .i64 (k : Int)) ∧ Drawn0 w w')
    (cX : ∀ w, Calls Try.prog 18 #[.string (s.extract 0 i)] w fun e w' => e = .returned (.bool true) ∧ Drawn0 w w')
    (cY : ∀ w, Calls Try.prog 18 #[.string (s.extract 0 k)] w fun e w' => e = .returned (.bool true) ∧ Drawn0 w w')
    (cP : ∀ w, Calls Try.prog 13 #[.int .i64 v, .string s, .int .i64 (i : Int)] w fun e w' => e = .returned (.complex .f64 (D a) (D b)) ∧ Drawn0 w w')
    (cQ : ∀ w, Calls Try.prog 13 #[.int .i64 v, .string s, .int .i64 (k : Int)] w fun e w' => e = .returned (.complex .f64 (D c) (D d)) ∧ Drawn0 w w')
    (cW : ∀ w, Calls Try.prog 10 #[.int .i64 v, .string (s.extract i k)] w fun e w' => e = .returned (.complex .f64 (D g) (D h)) ∧ Drawn0 w w')
    :
    Calls Try.prog 7 #[.string s, .bool o, .int .i64 x, .int .i64 y] w fun e w' => e = .returned (.bool true) ∧ Below w.heap.size w w' := by
  have hd := Below.refl w.heap.size w
  have cK := known_says
  have da : decide ((200 : Int) < (s.size : Int)) = false := decide_eq_false (by omega)
  have db : decide (200 < s.size) = false := decide_eq_false (by omega)
  have fa : decide ((k : Int) < (i : Int)) = false := decide_eq_false (by omega)
  have fb : decide (k < i) = false := decide_eq_false (by omega)
  have qn : (FloatKind.f64.format.order (D a) (D c) != some .eq) = true := by show (!(FloatKind.f64.format.order (D a) (D c) == some .eq)) = true; rw [qa]; rfl
  go_enter Try.func7, Try.ntmps7
  go_upto_region 11 with (first | ((with_reducible refine (cK _).mono ?_); rintro e w' ⟨rfl, hdb⟩; replace hd := below_step hd hdb.below; clear hdb) | ((with_reducible refine (cS _).mono ?_); rintro e w' ⟨rfl, hdb⟩; replace hd := below_step hd hdb.below; clear hdb) | ((with_reducible refine (cV _).mono ?_); rintro e w' ⟨rfl, hdb⟩; replace hd := below_step hd hdb.below; clear hdb) | ((with_reducible refine (cI _).mono ?_); rintro e w' ⟨rfl, hdb⟩; replace hd := below_step hd hdb.below; clear hdb) | ((with_reducible refine (cJ _).mono ?_); rintro e w' ⟨rfl, hdb⟩; replace hd := below_step hd hdb.below; clear hdb) | ((with_reducible refine (cX _).mono ?_); rintro e w' ⟨rfl, hdb⟩; replace hd := below_step hd hdb.below; clear hdb) | ((with_reducible refine (cY _).mono ?_); rintro e w' ⟨rfl, hdb⟩; replace hd := below_step hd hdb.below; clear hdb))
  go_cut [12, 13, 14] (fun v12 v13 v14 wc => v12 = .complex .f64 (D a) (D b) ∧ v13 = .complex .f64 (D c) (D d) ∧ v14 = .complex .f64 (D g) (D h) ∧ Below w.heap.size w wc)
  case first =>
    refine wp_region_quiet_lit (by kernel_rfl) (by kernel_rfl) ?_
    repeat (go_big_quiet_step ((first | with_reducible exact quiet0 (cP _) | with_reducible exact quiet0 (cQ _) | with_reducible exact quiet0 (cW _))))
    refine wpQuiet_nil ?_
    intro wq hw'
    replace hd := below_step hd (Drawn0.mk hw').below
    clear hw'
    go_wp2
    go_meet
    case rel => exact ⟨rfl, rfl, rfl, hd⟩
  case rest =>
    clear hd
    obtain ⟨rfl, rfl, rfl, hd⟩ := hcut
    go_wp2_with (first | ((with_reducible refine (cK _).mono ?_); rintro e w' ⟨rfl, hdb⟩; replace hd := below_step hd hdb.below; clear hdb))
    go_ret
    exact ⟨rfl, hd⟩

set_option maxHeartbeats 16000000 in
set_option maxRecDepth 100000 in
theorem madds_brk_up (s : ByteArray) (o : Bool) (x y v : Int) (i k : Nat) (a b c d g h : Int) (w : World) (hl : s.size ≤ 200) (hik : i ≤ k) (hk : k ≤ s.size) (hg : 0 < g)
    (qa : (FloatKind.f64.format.order (D a) (D c) == some .eq) = true)
    (cS : ∀ w, Calls Try.prog 18 #[.string s] w fun e w' => e = .returned (.bool true) ∧ Drawn0 w w')
    (cV : ∀ w, Calls Try.prog 19 #[.bool o] w fun e w' => e = .returned (.int .i64 v) ∧ Drawn0 w w')
    (cI : ∀ w, Calls Try.prog 20 #[.int .i64 x, .int .i64 0, .int .i64 (s.size : Int)] w fun e w' => e = .returned (.int .i64 (i : Int)) ∧ Drawn0 w w')
    (cJ : ∀ w, Calls Try.prog 20 #[.int .i64 y, .int .i64 0, .int .i64 (s.size : Int)] w fun e w' => e = .returned (.int .i64 (k : Int)) ∧ Drawn0 w w')
    (cX : ∀ w, Calls Try.prog 18 #[.string (s.extract 0 i)] w fun e w' => e = .returned (.bool true) ∧ Drawn0 w w')
    (cY : ∀ w, Calls Try.prog 18 #[.string (s.extract 0 k)] w fun e w' => e = .returned (.bool true) ∧ Drawn0 w w')
    (cP : ∀ w, Calls Try.prog 13 #[.int .i64 v, .string s, .int .i64 (i : Int)] w fun e w' => e = .returned (.complex .f64 (D a) (D b)) ∧ Drawn0 w w')
    (cQ : ∀ w, Calls Try.prog 13 #[.int .i64 v, .string s, .int .i64 (k : Int)] w fun e w' => e = .returned (.complex .f64 (D c) (D d)) ∧ Drawn0 w w')
    (cW : ∀ w, Calls Try.prog 10 #[.int .i64 v, .string (s.extract i k)] w fun e w' => e = .returned (.complex .f64 (D g) (D h)) ∧ Drawn0 w w')
    (cR : ∀ w, Calls Try.prog 9 #[.int .i64 v, .string (s.extract i k)] w fun e w' => e = .returned (.tuple #[.int .i64 g, .int .i64 h]) ∧ Drawn0 w w')
    :
    Calls Try.prog 7 #[.string s, .bool o, .int .i64 x, .int .i64 y] w fun e w' => e = .returned (.bool true) ∧ Below w.heap.size w w' := by
  have hd := Below.refl w.heap.size w
  have cK := known_says
  have da : decide ((200 : Int) < (s.size : Int)) = false := decide_eq_false (by omega)
  have db : decide (200 < s.size) = false := decide_eq_false (by omega)
  have fa : decide ((k : Int) < (i : Int)) = false := decide_eq_false (by omega)
  have fb : decide (k < i) = false := decide_eq_false (by omega)
  have qn : (FloatKind.f64.format.order (D a) (D c) != some .eq) = false := by show (!(FloatKind.f64.format.order (D a) (D c) == some .eq)) = false; rw [qa]; rfl
  have ra : decide (0 < g) = true := decide_eq_true (by omega)
  go_enter Try.func7, Try.ntmps7
  go_upto_region 11 with (first | ((with_reducible refine (cK _).mono ?_); rintro e w' ⟨rfl, hdb⟩; replace hd := below_step hd hdb.below; clear hdb) | ((with_reducible refine (cS _).mono ?_); rintro e w' ⟨rfl, hdb⟩; replace hd := below_step hd hdb.below; clear hdb) | ((with_reducible refine (cV _).mono ?_); rintro e w' ⟨rfl, hdb⟩; replace hd := below_step hd hdb.below; clear hdb) | ((with_reducible refine (cI _).mono ?_); rintro e w' ⟨rfl, hdb⟩; replace hd := below_step hd hdb.below; clear hdb) | ((with_reducible refine (cJ _).mono ?_); rintro e w' ⟨rfl, hdb⟩; replace hd := below_step hd hdb.below; clear hdb) | ((with_reducible refine (cX _).mono ?_); rintro e w' ⟨rfl, hdb⟩; replace hd := below_step hd hdb.below; clear hdb) | ((with_reducible refine (cY _).mono ?_); rintro e w' ⟨rfl, hdb⟩; replace hd := below_step hd hdb.below; clear hdb))
  go_cut [12, 13, 14] (fun v12 v13 v14 wc => v12 = .complex .f64 (D a) (D b) ∧ v13 = .complex .f64 (D c) (D d) ∧ v14 = .complex .f64 (D g) (D h) ∧ Below w.heap.size w wc)
  case first =>
    refine wp_region_quiet_lit (by kernel_rfl) (by kernel_rfl) ?_
    repeat (go_big_quiet_step ((first | with_reducible exact quiet0 (cP _) | with_reducible exact quiet0 (cQ _) | with_reducible exact quiet0 (cW _))))
    refine wpQuiet_nil ?_
    intro wq hw'
    replace hd := below_step hd (Drawn0.mk hw').below
    clear hw'
    go_wp2
    go_meet
    case rel => exact ⟨rfl, rfl, rfl, hd⟩
  case rest =>
    clear hd
    obtain ⟨rfl, rfl, rfl, hd⟩ := hcut
    go_wp2_with (first | ((with_reducible refine (cR _).mono ?_); rintro e w' ⟨rfl, hdb⟩; replace hd := below_step hd hdb.below; clear hdb))
    go_ret
    exact ⟨rfl, hd⟩

set_option maxHeartbeats 16000000 in
set_option maxRecDepth 100000 in
theorem madds_line_up (s : ByteArray) (o : Bool) (x y v : Int) (i k : Nat) (a b c d g h : Int) (w : World) (hl : s.size ≤ 200) (hik : i ≤ k) (hk : k ≤ s.size) (hg : ¬ 0 < g)
    (qa : (FloatKind.f64.format.order (D a) (D c) == some .eq) = true)
    (qg : (FloatKind.f64.format.order (D g) (D g) == some .eq) = true)
    (qh : (FloatKind.f64.format.order (D h) (D h) == some .eq) = true)
    (qc : (FloatKind.f64.format.order (D c) (D c) == some .eq) = true)
    (qd : (FloatKind.f64.format.order (D d) (D d) == some .eq) = true)
    (qz : (FloatKind.f64.format.order (D g) 0 == some .eq) = true)
    (hsub : ∀ w, (binOp .sub 26 (.complex .f64 (D c) (D d)) (.complex .f64 (D a) (D b))).run Try.prog w = .ok (.complex .f64 (D g) (D h)) w)
    (hadd : ∀ w, (binOp .add 26 (.complex .f64 (D a) (D b)) (.complex .f64 (D g) (D h))).run Try.prog w = .ok (.complex .f64 (D c) (D d)) w)
    (cS : ∀ w, Calls Try.prog 18 #[.string s] w fun e w' => e = .returned (.bool true) ∧ Drawn0 w w')
    (cV : ∀ w, Calls Try.prog 19 #[.bool o] w fun e w' => e = .returned (.int .i64 v) ∧ Drawn0 w w')
    (cI : ∀ w, Calls Try.prog 20 #[.int .i64 x, .int .i64 0, .int .i64 (s.size : Int)] w fun e w' => e = .returned (.int .i64 (i : Int)) ∧ Drawn0 w w')
    (cJ : ∀ w, Calls Try.prog 20 #[.int .i64 y, .int .i64 0, .int .i64 (s.size : Int)] w fun e w' => e = .returned (.int .i64 (k : Int)) ∧ Drawn0 w w')
    (cX : ∀ w, Calls Try.prog 18 #[.string (s.extract 0 i)] w fun e w' => e = .returned (.bool true) ∧ Drawn0 w w')
    (cY : ∀ w, Calls Try.prog 18 #[.string (s.extract 0 k)] w fun e w' => e = .returned (.bool true) ∧ Drawn0 w w')
    (cP : ∀ w, Calls Try.prog 13 #[.int .i64 v, .string s, .int .i64 (i : Int)] w fun e w' => e = .returned (.complex .f64 (D a) (D b)) ∧ Drawn0 w w')
    (cQ : ∀ w, Calls Try.prog 13 #[.int .i64 v, .string s, .int .i64 (k : Int)] w fun e w' => e = .returned (.complex .f64 (D c) (D d)) ∧ Drawn0 w w')
    (cW : ∀ w, Calls Try.prog 10 #[.int .i64 v, .string (s.extract i k)] w fun e w' => e = .returned (.complex .f64 (D g) (D h)) ∧ Drawn0 w w')
    (cR : ∀ w, Calls Try.prog 9 #[.int .i64 v, .string (s.extract i k)] w fun e w' => e = .returned (.tuple #[.int .i64 g, .int .i64 h]) ∧ Drawn0 w w')
    (cG : ∀ w, Calls Try.prog 14 #[.int .i64 v, .complex .f64 (D a) (D b), .string (s.extract i k)] w fun e w' => e = .returned (.complex .f64 (D c) (D d)) ∧ Drawn0 w w')
    :
    Calls Try.prog 7 #[.string s, .bool o, .int .i64 x, .int .i64 y] w fun e w' => e = .returned (.bool true) ∧ Below w.heap.size w w' := by
  have hd := Below.refl w.heap.size w
  have cK := known_says
  have da : decide ((200 : Int) < (s.size : Int)) = false := decide_eq_false (by omega)
  have db : decide (200 < s.size) = false := decide_eq_false (by omega)
  have fa : decide ((k : Int) < (i : Int)) = false := decide_eq_false (by omega)
  have fb : decide (k < i) = false := decide_eq_false (by omega)
  have qn : (FloatKind.f64.format.order (D a) (D c) != some .eq) = false := by show (!(FloatKind.f64.format.order (D a) (D c) == some .eq)) = false; rw [qa]; rfl
  have ra : decide (0 < g) = false := decide_eq_false (by omega)
  go_enter Try.func7, Try.ntmps7
  go_upto_region 11 with (first | ((with_reducible refine (cK _).mono ?_); rintro e w' ⟨rfl, hdb⟩; replace hd := below_step hd hdb.below; clear hdb) | ((with_reducible refine (cS _).mono ?_); rintro e w' ⟨rfl, hdb⟩; replace hd := below_step hd hdb.below; clear hdb) | ((with_reducible refine (cV _).mono ?_); rintro e w' ⟨rfl, hdb⟩; replace hd := below_step hd hdb.below; clear hdb) | ((with_reducible refine (cI _).mono ?_); rintro e w' ⟨rfl, hdb⟩; replace hd := below_step hd hdb.below; clear hdb) | ((with_reducible refine (cJ _).mono ?_); rintro e w' ⟨rfl, hdb⟩; replace hd := below_step hd hdb.below; clear hdb) | ((with_reducible refine (cX _).mono ?_); rintro e w' ⟨rfl, hdb⟩; replace hd := below_step hd hdb.below; clear hdb) | ((with_reducible refine (cY _).mono ?_); rintro e w' ⟨rfl, hdb⟩; replace hd := below_step hd hdb.below; clear hdb))
  go_cut [12, 13, 14] (fun v12 v13 v14 wc => v12 = .complex .f64 (D a) (D b) ∧ v13 = .complex .f64 (D c) (D d) ∧ v14 = .complex .f64 (D g) (D h) ∧ Below w.heap.size w wc)
  case first =>
    refine wp_region_quiet_lit (by kernel_rfl) (by kernel_rfl) ?_
    repeat (go_big_quiet_step ((first | with_reducible exact quiet0 (cP _) | with_reducible exact quiet0 (cQ _) | with_reducible exact quiet0 (cW _))))
    refine wpQuiet_nil ?_
    intro wq hw'
    replace hd := below_step hd (Drawn0.mk hw').below
    clear hw'
    go_wp2
    go_meet
    case rel => exact ⟨rfl, rfl, rfl, hd⟩
  case rest =>
    clear hd
    obtain ⟨rfl, rfl, rfl, hd⟩ := hcut
    go_wp2_with (first | ((with_reducible refine (cR _).mono ?_); rintro e w' ⟨rfl, hdb⟩; replace hd := below_step hd hdb.below; clear hdb) | ((with_reducible refine (cG _).mono ?_); rintro e w' ⟨rfl, hdb⟩; replace hd := below_step hd hdb.below; clear hdb))
    go_ret
    exact ⟨rfl, hd⟩

set_option maxHeartbeats 16000000 in
set_option maxRecDepth 100000 in
theorem madds_cutI_down (s : ByteArray) (o : Bool) (x y v : Int) (i k : Nat) (w : World) (hl : s.size ≤ 200) (hik : i ≤ k) (hlt : i < k) (hk : k ≤ s.size)
    (cS : ∀ w, Calls Try.prog 18 #[.string s] w fun e w' => e = .returned (.bool true) ∧ Drawn0 w w')
    (cV : ∀ w, Calls Try.prog 19 #[.bool o] w fun e w' => e = .returned (.int .i64 v) ∧ Drawn0 w w')
    (cI : ∀ w, Calls Try.prog 20 #[.int .i64 x, .int .i64 0, .int .i64 (s.size : Int)] w fun e w' => e = .returned (.int .i64 (k : Int)) ∧ Drawn0 w w')
    (cJ : ∀ w, Calls Try.prog 20 #[.int .i64 y, .int .i64 0, .int .i64 (s.size : Int)] w fun e w' => e = .returned (.int .i64 (i : Int)) ∧ Drawn0 w w')
    (cX : ∀ w, Calls Try.prog 18 #[.string (s.extract 0 i)] w fun e w' => e = .returned (.bool false) ∧ Drawn0 w w')
    :
    Calls Try.prog 7 #[.string s, .bool o, .int .i64 x, .int .i64 y] w fun e w' => e = .returned (.bool true) ∧ Below w.heap.size w w' := by
  have hd := Below.refl w.heap.size w
  have cK := known_says
  have da : decide ((200 : Int) < (s.size : Int)) = false := decide_eq_false (by omega)
  have db : decide (200 < s.size) = false := decide_eq_false (by omega)
  have fa : decide ((i : Int) < (k : Int)) = true := decide_eq_true (by omega)
  have fb : decide (i < k) = true := decide_eq_true (by omega)
  clear hlt
  go_enter Try.func7, Try.ntmps7
  go_wp2_with (first | ((with_reducible refine (cK _).mono ?_); rintro e w' ⟨rfl, hdb⟩; replace hd := below_step hd hdb.below; clear hdb) | ((with_reducible refine (cS _).mono ?_); rintro e w' ⟨rfl, hdb⟩; replace hd := below_step hd hdb.below; clear hdb) | ((with_reducible refine (cV _).mono ?_); rintro e w' ⟨rfl, hdb⟩; replace hd := below_step hd hdb.below; clear hdb) | ((with_reducible refine (cI _).mono ?_); rintro e w' ⟨rfl, hdb⟩; replace hd := below_step hd hdb.below; clear hdb) | ((with_reducible refine (cJ _).mono ?_); rintro e w' ⟨rfl, hdb⟩; replace hd := below_step hd hdb.below; clear hdb) | ((with_reducible refine (cX _).mono ?_); rintro e w' ⟨rfl, hdb⟩; replace hd := below_step hd hdb.below; clear hdb))
  go_ret
  exact ⟨rfl, hd⟩

set_option maxHeartbeats 16000000 in
set_option maxRecDepth 100000 in
theorem madds_cutK_down (s : ByteArray) (o : Bool) (x y v : Int) (i k : Nat) (w : World) (hl : s.size ≤ 200) (hik : i ≤ k) (hlt : i < k) (hk : k ≤ s.size)
    (cS : ∀ w, Calls Try.prog 18 #[.string s] w fun e w' => e = .returned (.bool true) ∧ Drawn0 w w')
    (cV : ∀ w, Calls Try.prog 19 #[.bool o] w fun e w' => e = .returned (.int .i64 v) ∧ Drawn0 w w')
    (cI : ∀ w, Calls Try.prog 20 #[.int .i64 x, .int .i64 0, .int .i64 (s.size : Int)] w fun e w' => e = .returned (.int .i64 (k : Int)) ∧ Drawn0 w w')
    (cJ : ∀ w, Calls Try.prog 20 #[.int .i64 y, .int .i64 0, .int .i64 (s.size : Int)] w fun e w' => e = .returned (.int .i64 (i : Int)) ∧ Drawn0 w w')
    (cX : ∀ w, Calls Try.prog 18 #[.string (s.extract 0 i)] w fun e w' => e = .returned (.bool true) ∧ Drawn0 w w')
    (cY : ∀ w, Calls Try.prog 18 #[.string (s.extract 0 k)] w fun e w' => e = .returned (.bool false) ∧ Drawn0 w w')
    :
    Calls Try.prog 7 #[.string s, .bool o, .int .i64 x, .int .i64 y] w fun e w' => e = .returned (.bool true) ∧ Below w.heap.size w w' := by
  have hd := Below.refl w.heap.size w
  have cK := known_says
  have da : decide ((200 : Int) < (s.size : Int)) = false := decide_eq_false (by omega)
  have db : decide (200 < s.size) = false := decide_eq_false (by omega)
  have fa : decide ((i : Int) < (k : Int)) = true := decide_eq_true (by omega)
  have fb : decide (i < k) = true := decide_eq_true (by omega)
  clear hlt
  go_enter Try.func7, Try.ntmps7
  go_wp2_with (first | ((with_reducible refine (cK _).mono ?_); rintro e w' ⟨rfl, hdb⟩; replace hd := below_step hd hdb.below; clear hdb) | ((with_reducible refine (cS _).mono ?_); rintro e w' ⟨rfl, hdb⟩; replace hd := below_step hd hdb.below; clear hdb) | ((with_reducible refine (cV _).mono ?_); rintro e w' ⟨rfl, hdb⟩; replace hd := below_step hd hdb.below; clear hdb) | ((with_reducible refine (cI _).mono ?_); rintro e w' ⟨rfl, hdb⟩; replace hd := below_step hd hdb.below; clear hdb) | ((with_reducible refine (cJ _).mono ?_); rintro e w' ⟨rfl, hdb⟩; replace hd := below_step hd hdb.below; clear hdb) | ((with_reducible refine (cX _).mono ?_); rintro e w' ⟨rfl, hdb⟩; replace hd := below_step hd hdb.below; clear hdb) | ((with_reducible refine (cY _).mono ?_); rintro e w' ⟨rfl, hdb⟩; replace hd := below_step hd hdb.below; clear hdb))
  go_ret
  exact ⟨rfl, hd⟩

set_option maxHeartbeats 16000000 in
set_option maxRecDepth 100000 in
theorem madds_far_down (s : ByteArray) (o : Bool) (x y v : Int) (i k : Nat) (a b c d g h : Int) (w : World) (hl : s.size ≤ 200) (hik : i ≤ k) (hlt : i < k) (hk : k ≤ s.size)
    (qa : (FloatKind.f64.format.order (D a) (D c) == some .eq) = false)
    (qb : (FloatKind.f64.format.order (D a) (D c) == some .lt) = true)
    (cS : ∀ w, Calls Try.prog 18 #[.string s] w fun e w' => e = .returned (.bool true) ∧ Drawn0 w w')
    (cV : ∀ w, Calls Try.prog 19 #[.bool o] w fun e w' => e = .returned (.int .i64 v) ∧ Drawn0 w w')
    (cI : ∀ w, Calls Try.prog 20 #[.int .i64 x, .int .i64 0, .int .i64 (s.size : Int)] w fun e w' => e = .returned (.int .i64 (k : Int)) ∧ Drawn0 w w')
    (cJ : ∀ w, Calls Try.prog 20 #[.int .i64 y, .int .i64 0, .int .i64 (s.size : Int)] w fun e w' => e = .returned (.int .i64 (i : Int)) ∧ Drawn0 w w')
    (cX : ∀ w, Calls Try.prog 18 #[.string (s.extract 0 i)] w fun e w' => e = .returned (.bool true) ∧ Drawn0 w w')
    (cY : ∀ w, Calls Try.prog 18 #[.string (s.extract 0 k)] w fun e w' => e = .returned (.bool true) ∧ Drawn0 w w')
    (cP : ∀ w, Calls Try.prog 13 #[.int .i64 v, .string s, .int .i64 (i : Int)] w fun e w' => e = .returned (.complex .f64 (D a) (D b)) ∧ Drawn0 w w')
    (cQ : ∀ w, Calls Try.prog 13 #[.int .i64 v, .string s, .int .i64 (k : Int)] w fun e w' => e = .returned (.complex .f64 (D c) (D d)) ∧ Drawn0 w w')
    (cW : ∀ w, Calls Try.prog 10 #[.int .i64 v, .string (s.extract i k)] w fun e w' => e = .returned (.complex .f64 (D g) (D h)) ∧ Drawn0 w w')
    :
    Calls Try.prog 7 #[.string s, .bool o, .int .i64 x, .int .i64 y] w fun e w' => e = .returned (.bool true) ∧ Below w.heap.size w w' := by
  have hd := Below.refl w.heap.size w
  have cK := known_says
  have da : decide ((200 : Int) < (s.size : Int)) = false := decide_eq_false (by omega)
  have db : decide (200 < s.size) = false := decide_eq_false (by omega)
  have fa : decide ((i : Int) < (k : Int)) = true := decide_eq_true (by omega)
  have fb : decide (i < k) = true := decide_eq_true (by omega)
  clear hlt
  have qn : (FloatKind.f64.format.order (D a) (D c) != some .eq) = true := by show (!(FloatKind.f64.format.order (D a) (D c) == some .eq)) = true; rw [qa]; rfl
  go_enter Try.func7, Try.ntmps7
  go_upto_region 11 with (first | ((with_reducible refine (cK _).mono ?_); rintro e w' ⟨rfl, hdb⟩; replace hd := below_step hd hdb.below; clear hdb) | ((with_reducible refine (cS _).mono ?_); rintro e w' ⟨rfl, hdb⟩; replace hd := below_step hd hdb.below; clear hdb) | ((with_reducible refine (cV _).mono ?_); rintro e w' ⟨rfl, hdb⟩; replace hd := below_step hd hdb.below; clear hdb) | ((with_reducible refine (cI _).mono ?_); rintro e w' ⟨rfl, hdb⟩; replace hd := below_step hd hdb.below; clear hdb) | ((with_reducible refine (cJ _).mono ?_); rintro e w' ⟨rfl, hdb⟩; replace hd := below_step hd hdb.below; clear hdb) | ((with_reducible refine (cX _).mono ?_); rintro e w' ⟨rfl, hdb⟩; replace hd := below_step hd hdb.below; clear hdb) | ((with_reducible refine (cY _).mono ?_); rintro e w' ⟨rfl, hdb⟩; replace hd := below_step hd hdb.below; clear hdb))
  go_cut [12, 13, 14] (fun v12 v13 v14 wc => v12 = .complex .f64 (D a) (D b) ∧ v13 = .complex .f64 (D c) (D d) ∧ v14 = .complex .f64 (D g) (D h) ∧ Below w.heap.size w wc)
  case first =>
    refine wp_region_quiet_lit (by kernel_rfl) (by kernel_rfl) ?_
    repeat (go_big_quiet_step ((first | with_reducible exact quiet0 (cP _) | with_reducible exact quiet0 (cQ _) | with_reducible exact quiet0 (cW _))))
    refine wpQuiet_nil ?_
    intro wq hw'
    replace hd := below_step hd (Drawn0.mk hw').below
    clear hw'
    go_wp2
    go_meet
    case rel => exact ⟨rfl, rfl, rfl, hd⟩
  case rest =>
    clear hd
    obtain ⟨rfl, rfl, rfl, hd⟩ := hcut
    go_wp2_with (first | ((with_reducible refine (cK _).mono ?_); rintro e w' ⟨rfl, hdb⟩; replace hd := below_step hd hdb.below; clear hdb))
    go_ret
    exact ⟨rfl, hd⟩

set_option maxHeartbeats 16000000 in
set_option maxRecDepth 100000 in
theorem madds_brk_down (s : ByteArray) (o : Bool) (x y v : Int) (i k : Nat) (a b c d g h : Int) (w : World) (hl : s.size ≤ 200) (hik : i ≤ k) (hlt : i < k) (hk : k ≤ s.size) (hg : 0 < g)
    (qa : (FloatKind.f64.format.order (D a) (D c) == some .eq) = true)
    (cS : ∀ w, Calls Try.prog 18 #[.string s] w fun e w' => e = .returned (.bool true) ∧ Drawn0 w w')
    (cV : ∀ w, Calls Try.prog 19 #[.bool o] w fun e w' => e = .returned (.int .i64 v) ∧ Drawn0 w w')
    (cI : ∀ w, Calls Try.prog 20 #[.int .i64 x, .int .i64 0, .int .i64 (s.size : Int)] w fun e w' => e = .returned (.int .i64 (k : Int)) ∧ Drawn0 w w')
    (cJ : ∀ w, Calls Try.prog 20 #[.int .i64 y, .int .i64 0, .int .i64 (s.size : Int)] w fun e w' => e = .returned (.int .i64 (i : Int)) ∧ Drawn0 w w')
    (cX : ∀ w, Calls Try.prog 18 #[.string (s.extract 0 i)] w fun e w' => e = .returned (.bool true) ∧ Drawn0 w w')
    (cY : ∀ w, Calls Try.prog 18 #[.string (s.extract 0 k)] w fun e w' => e = .returned (.bool true) ∧ Drawn0 w w')
    (cP : ∀ w, Calls Try.prog 13 #[.int .i64 v, .string s, .int .i64 (i : Int)] w fun e w' => e = .returned (.complex .f64 (D a) (D b)) ∧ Drawn0 w w')
    (cQ : ∀ w, Calls Try.prog 13 #[.int .i64 v, .string s, .int .i64 (k : Int)] w fun e w' => e = .returned (.complex .f64 (D c) (D d)) ∧ Drawn0 w w')
    (cW : ∀ w, Calls Try.prog 10 #[.int .i64 v, .string (s.extract i k)] w fun e w' => e = .returned (.complex .f64 (D g) (D h)) ∧ Drawn0 w w')
    (cR : ∀ w, Calls Try.prog 9 #[.int .i64 v, .string (s.extract i k)] w fun e w' => e = .returned (.tuple #[.int .i64 g, .int .i64 h]) ∧ Drawn0 w w')
    :
    Calls Try.prog 7 #[.string s, .bool o, .int .i64 x, .int .i64 y] w fun e w' => e = .returned (.bool true) ∧ Below w.heap.size w w' := by
  have hd := Below.refl w.heap.size w
  have cK := known_says
  have da : decide ((200 : Int) < (s.size : Int)) = false := decide_eq_false (by omega)
  have db : decide (200 < s.size) = false := decide_eq_false (by omega)
  have fa : decide ((i : Int) < (k : Int)) = true := decide_eq_true (by omega)
  have fb : decide (i < k) = true := decide_eq_true (by omega)
  clear hlt
  have qn : (FloatKind.f64.format.order (D a) (D c) != some .eq) = false := by show (!(FloatKind.f64.format.order (D a) (D c) == some .eq)) = false; rw [qa]; rfl
  have ra : decide (0 < g) = true := decide_eq_true (by omega)
  go_enter Try.func7, Try.ntmps7
  go_upto_region 11 with (first | ((with_reducible refine (cK _).mono ?_); rintro e w' ⟨rfl, hdb⟩; replace hd := below_step hd hdb.below; clear hdb) | ((with_reducible refine (cS _).mono ?_); rintro e w' ⟨rfl, hdb⟩; replace hd := below_step hd hdb.below; clear hdb) | ((with_reducible refine (cV _).mono ?_); rintro e w' ⟨rfl, hdb⟩; replace hd := below_step hd hdb.below; clear hdb) | ((with_reducible refine (cI _).mono ?_); rintro e w' ⟨rfl, hdb⟩; replace hd := below_step hd hdb.below; clear hdb) | ((with_reducible refine (cJ _).mono ?_); rintro e w' ⟨rfl, hdb⟩; replace hd := below_step hd hdb.below; clear hdb) | ((with_reducible refine (cX _).mono ?_); rintro e w' ⟨rfl, hdb⟩; replace hd := below_step hd hdb.below; clear hdb) | ((with_reducible refine (cY _).mono ?_); rintro e w' ⟨rfl, hdb⟩; replace hd := below_step hd hdb.below; clear hdb))
  go_cut [12, 13, 14] (fun v12 v13 v14 wc => v12 = .complex .f64 (D a) (D b) ∧ v13 = .complex .f64 (D c) (D d) ∧ v14 = .complex .f64 (D g) (D h) ∧ Below w.heap.size w wc)
  case first =>
    refine wp_region_quiet_lit (by kernel_rfl) (by kernel_rfl) ?_
    repeat (go_big_quiet_step ((first | with_reducible exact quiet0 (cP _) | with_reducible exact quiet0 (cQ _) | with_reducible exact quiet0 (cW _))))
    refine wpQuiet_nil ?_
    intro wq hw'
    replace hd := below_step hd (Drawn0.mk hw').below
    clear hw'
    go_wp2
    go_meet
    case rel => exact ⟨rfl, rfl, rfl, hd⟩
  case rest =>
    clear hd
    obtain ⟨rfl, rfl, rfl, hd⟩ := hcut
    go_wp2_with (first | ((with_reducible refine (cR _).mono ?_); rintro e w' ⟨rfl, hdb⟩; replace hd := below_step hd hdb.below; clear hdb))
    go_ret
    exact ⟨rfl, hd⟩

set_option maxHeartbeats 16000000 in
set_option maxRecDepth 100000 in
theorem madds_line_down (s : ByteArray) (o : Bool) (x y v : Int) (i k : Nat) (a b c d g h : Int) (w : World) (hl : s.size ≤ 200) (hik : i ≤ k) (hlt : i < k) (hk : k ≤ s.size) (hg : ¬ 0 < g)
    (qa : (FloatKind.f64.format.order (D a) (D c) == some .eq) = true)
    (qg : (FloatKind.f64.format.order (D g) (D g) == some .eq) = true)
    (qh : (FloatKind.f64.format.order (D h) (D h) == some .eq) = true)
    (qc : (FloatKind.f64.format.order (D c) (D c) == some .eq) = true)
    (qd : (FloatKind.f64.format.order (D d) (D d) == some .eq) = true)
    (qz : (FloatKind.f64.format.order (D g) 0 == some .eq) = true)
    (hsub : ∀ w, (binOp .sub 26 (.complex .f64 (D c) (D d)) (.complex .f64 (D a) (D b))).run Try.prog w = .ok (.complex .f64 (D g) (D h)) w)
    (hadd : ∀ w, (binOp .add 26 (.complex .f64 (D a) (D b)) (.complex .f64 (D g) (D h))).run Try.prog w = .ok (.complex .f64 (D c) (D d)) w)
    (cS : ∀ w, Calls Try.prog 18 #[.string s] w fun e w' => e = .returned (.bool true) ∧ Drawn0 w w')
    (cV : ∀ w, Calls Try.prog 19 #[.bool o] w fun e w' => e = .returned (.int .i64 v) ∧ Drawn0 w w')
    (cI : ∀ w, Calls Try.prog 20 #[.int .i64 x, .int .i64 0, .int .i64 (s.size : Int)] w fun e w' => e = .returned (.int .i64 (k : Int)) ∧ Drawn0 w w')
    (cJ : ∀ w, Calls Try.prog 20 #[.int .i64 y, .int .i64 0, .int .i64 (s.size : Int)] w fun e w' => e = .returned (.int .i64 (i : Int)) ∧ Drawn0 w w')
    (cX : ∀ w, Calls Try.prog 18 #[.string (s.extract 0 i)] w fun e w' => e = .returned (.bool true) ∧ Drawn0 w w')
    (cY : ∀ w, Calls Try.prog 18 #[.string (s.extract 0 k)] w fun e w' => e = .returned (.bool true) ∧ Drawn0 w w')
    (cP : ∀ w, Calls Try.prog 13 #[.int .i64 v, .string s, .int .i64 (i : Int)] w fun e w' => e = .returned (.complex .f64 (D a) (D b)) ∧ Drawn0 w w')
    (cQ : ∀ w, Calls Try.prog 13 #[.int .i64 v, .string s, .int .i64 (k : Int)] w fun e w' => e = .returned (.complex .f64 (D c) (D d)) ∧ Drawn0 w w')
    (cW : ∀ w, Calls Try.prog 10 #[.int .i64 v, .string (s.extract i k)] w fun e w' => e = .returned (.complex .f64 (D g) (D h)) ∧ Drawn0 w w')
    (cR : ∀ w, Calls Try.prog 9 #[.int .i64 v, .string (s.extract i k)] w fun e w' => e = .returned (.tuple #[.int .i64 g, .int .i64 h]) ∧ Drawn0 w w')
    (cG : ∀ w, Calls Try.prog 14 #[.int .i64 v, .complex .f64 (D a) (D b), .string (s.extract i k)] w fun e w' => e = .returned (.complex .f64 (D c) (D d)) ∧ Drawn0 w w')
    :
    Calls Try.prog 7 #[.string s, .bool o, .int .i64 x, .int .i64 y] w fun e w' => e = .returned (.bool true) ∧ Below w.heap.size w w' := by
  have hd := Below.refl w.heap.size w
  have cK := known_says
  have da : decide ((200 : Int) < (s.size : Int)) = false := decide_eq_false (by omega)
  have db : decide (200 < s.size) = false := decide_eq_false (by omega)
  have fa : decide ((i : Int) < (k : Int)) = true := decide_eq_true (by omega)
  have fb : decide (i < k) = true := decide_eq_true (by omega)
  clear hlt
  have qn : (FloatKind.f64.format.order (D a) (D c) != some .eq) = false := by show (!(FloatKind.f64.format.order (D a) (D c) == some .eq)) = false; rw [qa]; rfl
  have ra : decide (0 < g) = false := decide_eq_false (by omega)
  go_enter Try.func7, Try.ntmps7
  go_upto_region 11 with (first | ((with_reducible refine (cK _).mono ?_); rintro e w' ⟨rfl, hdb⟩; replace hd := below_step hd hdb.below; clear hdb) | ((with_reducible refine (cS _).mono ?_); rintro e w' ⟨rfl, hdb⟩; replace hd := below_step hd hdb.below; clear hdb) | ((with_reducible refine (cV _).mono ?_); rintro e w' ⟨rfl, hdb⟩; replace hd := below_step hd hdb.below; clear hdb) | ((with_reducible refine (cI _).mono ?_); rintro e w' ⟨rfl, hdb⟩; replace hd := below_step hd hdb.below; clear hdb) | ((with_reducible refine (cJ _).mono ?_); rintro e w' ⟨rfl, hdb⟩; replace hd := below_step hd hdb.below; clear hdb) | ((with_reducible refine (cX _).mono ?_); rintro e w' ⟨rfl, hdb⟩; replace hd := below_step hd hdb.below; clear hdb) | ((with_reducible refine (cY _).mono ?_); rintro e w' ⟨rfl, hdb⟩; replace hd := below_step hd hdb.below; clear hdb))
  go_cut [12, 13, 14] (fun v12 v13 v14 wc => v12 = .complex .f64 (D a) (D b) ∧ v13 = .complex .f64 (D c) (D d) ∧ v14 = .complex .f64 (D g) (D h) ∧ Below w.heap.size w wc)
  case first =>
    refine wp_region_quiet_lit (by kernel_rfl) (by kernel_rfl) ?_
    repeat (go_big_quiet_step ((first | with_reducible exact quiet0 (cP _) | with_reducible exact quiet0 (cQ _) | with_reducible exact quiet0 (cW _))))
    refine wpQuiet_nil ?_
    intro wq hw'
    replace hd := below_step hd (Drawn0.mk hw').below
    clear hw'
    go_wp2
    go_meet
    case rel => exact ⟨rfl, rfl, rfl, hd⟩
  case rest =>
    clear hd
    obtain ⟨rfl, rfl, rfl, hd⟩ := hcut
    go_wp2_with (first | ((with_reducible refine (cR _).mono ?_); rintro e w' ⟨rfl, hdb⟩; replace hd := below_step hd hdb.below; clear hdb) | ((with_reducible refine (cG _).mono ?_); rintro e w' ⟨rfl, hdb⟩; replace hd := below_step hd hdb.below; clear hdb))
    go_ret
    exact ⟨rfl, hd⟩
end Go.Proofs.Ytbdjcfaocmhdnaa.Q
