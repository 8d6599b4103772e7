/- Package mark: Go, Of, Less, and the law's point: walks. Conditions: sizes. -/
import Derived.Test.YtbdjcfaocmhdnaaMkA
import Derived.Test.YtbdjcfaocmhdnaaRefBk
namespace Go.Proofs.Ytbdjcfaocmhdnaa.Q
open Go Go.RowKit Go.Proofs Go.Proofs.Ytbdjcfaocmhdnaa.Fl Go.Proofs.YtbdjcfaocmhdnaaW.PrintWords Go.Proofs.YtbdjcfaocmhdnaaW.PrintLast Go.Proofs.YtbdjcfaocmhdnaaW.PrintMore
attribute [local go_sem] max2_int min2_int max_two min_two
set_option linter.unusedVariables false
set_option linter.unusedSimpArgs false

theorem wayL_le (o : Bool) : ∀ (n : Nat) (l : List UInt8) (p : Nat × Nat), (wayL o n l p).1 ≤ p.1 + n ∧ (wayL o n l p).2 ≤ p.2 + n := by
  intro n
  induction n with
  | zero => intro l p; exact ⟨Nat.le_refl _, Nat.le_refl _⟩
  | succ n ih =>
    intro l p
    cases l with
    | nil => exact ⟨Nat.le_add_right _ _, Nat.le_add_right _ _⟩
    | cons c l =>
      rw [wayL]
      by_cases hb : 0 < brkL o (c :: l)
      · rw [if_pos hb]
        have := ih ((c :: l).drop (brkL o (c :: l))) (p.1 + 1, 0)
        simp only at this
        omega
      · rw [if_neg hb]
        by_cases hc : cntB c = true
        · rw [if_pos hc]
          have := ih l (p.1, p.2 + 1)
          simp only at this
          omega
        · rw [if_neg hc]
          have := ih l p
          omega
theorem way_le (v : Int) (s : ByteArray) : (way v s).1 ≤ s.size ∧ (way v s).2 ≤ s.size := by
  have := wayL_le (v == 11) s.size s.data.toList (0, 0)
  simp only [Nat.zero_add] at this
  exact this

/-- Where one comes from a place, so far. -/
def goZ (p : Int × Int) (q : Nat × Nat) : Int × Int := if 0 < q.1 then (p.1 + q.1, (q.2 : Int)) else (p.1, p.2 + q.2)

set_option maxHeartbeats 8000000 in
set_option maxRecDepth 100000 in
theorem Go_says (v x y : Int) (s : ByteArray) (hs : s.size ≤ 100000) (hx : -100000 ≤ x ∧ x ≤ 100000) (hy : -100000 ≤ y ∧ y ≤ 100000) (w : World) :
    Calls Try.prog 14 #[.int .i64 v, .complex .f64 (D x) (D y), .string s] w fun e w' => e = .returned (.complex .f64 (D (goZ (x, y) (way v s)).1) (D (goZ (x, y) (way v s)).2)) ∧ Drawn0 w w' := by
  have cW := fun w => Way_says v s (by omega) w
  have hl := way_le v s
  generalize way v s = q at *
  obtain ⟨a, b⟩ := q
  simp only at hl cW
  have hd := Drawn0.refl w
  have sa : small (a : Int) := small_nat (by omega)
  have sb : small (b : Int) := small_nat (by omega)
  have sx : small x := small_le (by omega) (by omega)
  have sy : small y := small_le (by omega) (by omega)
  have s0 : small 0 := small_le (by omega) (by omega)
  go_enter Try.func14, Try.ntmps14
  by_cases h : 0 < a
  · have hgt : (FloatKind.f64.format.order (D (a : Int)) 0 == some .gt) = true := by
      have := fl_gt sa s0
      rw [D0] at this
      rw [this]
      exact decide_eq_true (by omega)
    have hadd : ∀ w, (binOp .add 26 (.complex .f64 (D x) 0) (.complex .f64 (D (a : Int)) (D (b : Int)))).run Try.prog w = .ok (.complex .f64 (D (x + a)) (D (b : Int))) w := fun w => by
      have := run_cx_add (P := Try.prog) w 26 x 0 a b sx s0 sa sb
      rw [D0, Int.zero_add] at this
      exact this
    have e : goZ (x, y) (a, b) = (x + a, (b : Int)) := if_pos h
    rw [e]
    clear sa sb sx sy s0
    go_wp2_with (first | ((with_reducible refine (cW _).mono ?_); rintro e w' ⟨rfl, hdb⟩; replace hd := drawn_trans hd hdb; clear hdb))
    go_ret
    exact ⟨rfl, hd⟩
  · have hgt : (FloatKind.f64.format.order (D (a : Int)) 0 == some .gt) = false := by
      have := fl_gt sa s0
      rw [D0] at this
      rw [this]
      exact decide_eq_false (by omega)
    have hadd : ∀ w, (binOp .add 26 (.complex .f64 (D x) (D y)) (.complex .f64 (D (a : Int)) (D (b : Int)))).run Try.prog w = .ok (.complex .f64 (D x) (D (y + b))) w := fun w => by
      have := run_cx_add (P := Try.prog) w 26 x y a b sx sy sa sb
      rw [show x + (a : Int) = x by omega] at this
      exact this
    have e : goZ (x, y) (a, b) = (x, y + b) := if_neg h
    rw [e]
    clear sa sb sx sy s0
    go_wp2_with (first | ((with_reducible refine (cW _).mono ?_); rintro e w' ⟨rfl, hdb⟩; replace hd := drawn_trans hd hdb; clear hdb))
    go_ret
    exact ⟨rfl, hd⟩

/-- How many bytes are taken. -/
def offN (s : ByteArray) (off : Int) : Nat := min (max off 0).toNat s.size
theorem extract_all (s : ByteArray) : s.extract 0 s.size = s := by
  apply ByteArray.ext
  apply Array.toList_inj.1
  rw [Lib.extract_data, List.drop_zero, List.take_of_length_le]
  rw [Array.length_toList]
  exact Nat.le_refl _
theorem extract_none (s : ByteArray) : s.extract 0 0 = ByteArray.empty := by
  apply ByteArray.ext
  simp
set_option maxHeartbeats 8000000 in
set_option maxRecDepth 100000 in
theorem Of_says (v : Int) (s : ByteArray) (off : Int) (hs : s.size ≤ 100000) (w : World) :
    Calls Try.prog 13 #[.int .i64 v, .string s, .int .i64 off] w fun e w' => e = .returned (.complex .f64 (D (way v (s.extract 0 (offN s off))).1) (D (way v (s.extract 0 (offN s off))).2)) ∧ Drawn0 w w' := by
  have hd := Drawn0.refl w
  have ho : offN s off ≤ s.size := Nat.min_le_right _ _
  have cW := fun w => Way_says v (s.extract 0 (offN s off)) (by rw [ByteArray.size_extract]; omega) w
  obtain ⟨R, hR⟩ : ∃ R, way v (s.extract 0 (offN s off)) = R := ⟨_, rfl⟩
  rw [hR] at cW ⊢
  clear hR
  by_cases h0 : off < 0
  · have hn : offN s off = 0 := by unfold offN; omega
    rw [hn, extract_none] at cW
    have d0 : decide (off < 0) = true := decide_eq_true h0
    clear hn ho
    go_enter Try.func13, Try.ntmps13
    go_wp2_with (first | ((with_reducible refine (cW _).mono ?_); rintro e w' ⟨rfl, hdb⟩; replace hd := drawn_trans hd hdb; clear hdb))
    go_ret
    exact ⟨rfl, hd⟩
  · obtain ⟨m, rfl⟩ := Int.eq_ofNat_of_zero_le (a := off) (by omega)
    by_cases hm : s.size < m
    · have hn : offN s m = s.size := by unfold offN; omega
      rw [hn] at cW
      have cW2 := cW
      rw [extract_all] at cW2
      clear hn ho h0
      have d0 : decide ((s.size : Int) < (m : Int)) = true := decide_eq_true (by omega)
      have d1 : decide (s.size < m) = true := decide_eq_true hm
      go_enter Try.func13, Try.ntmps13
      go_wp2_with (first | ((with_reducible refine (cW _).mono ?_); rintro e w' ⟨rfl, hdb⟩; replace hd := drawn_trans hd hdb; clear hdb) | ((with_reducible refine (cW2 _).mono ?_); rintro e w' ⟨rfl, hdb⟩; replace hd := drawn_trans hd hdb; clear hdb))
      go_ret
      exact ⟨rfl, hd⟩
    · have hn : offN s m = m := by unfold offN; omega
      rw [hn] at cW ho
      clear hn h0
      have d0 : decide ((s.size : Int) < (m : Int)) = false := decide_eq_false (by omega)
      have d1 : decide (s.size < m) = false := decide_eq_false hm
      go_enter Try.func13, Try.ntmps13
      go_wp2_with (first | ((with_reducible refine (cW _).mono ?_); rintro e w' ⟨rfl, hdb⟩; replace hd := drawn_trans hd hdb; clear hdb))
      go_ret
      exact ⟨rfl, hd⟩

set_option maxHeartbeats 8000000 in
set_option maxRecDepth 100000 in
theorem Less_says (a b c d : Int) (ha : small a) (hb : small b) (hc : small c) (hd : small d) (w : World) :
    Calls Try.prog 17 #[.complex .f64 (D a) (D b), .complex .f64 (D c) (D d)] w fun e w' => e = .returned (.bool (decide (a < c ∨ a = c ∧ b < d))) ∧ Drawn0 w w' := by
  have e1 := fl_lt ha hc
  have e2 := fl_eq ha hc
  have e3 := fl_lt hb hd
  clear ha hb hc hd
  go_enter Try.func17, Try.ntmps17
  by_cases h1 : a < c
  · rw [decide_eq_true h1] at e1
    have e : decide (a < c ∨ a = c ∧ b < d) = true := decide_eq_true (.inl h1)
    rw [e]
    clear e2 e3
    go_wp2
    go_ret
    exact ⟨rfl, Drawn0.refl _⟩
  · rw [decide_eq_false h1] at e1
    by_cases h2 : a = c
    · rw [decide_eq_true h2] at e2
      by_cases h3 : b < d
      · rw [decide_eq_true h3] at e3
        have e : decide (a < c ∨ a = c ∧ b < d) = true := decide_eq_true (.inr ⟨h2, h3⟩)
        rw [e]
        clear h1 h2 h3
        go_wp2
        go_ret
        exact ⟨rfl, Drawn0.refl _⟩
      · rw [decide_eq_false h3] at e3
        have e : decide (a < c ∨ a = c ∧ b < d) = false := decide_eq_false (by omega)
        rw [e]
        clear h1 h2 h3
        go_wp2
        go_ret
        exact ⟨rfl, Drawn0.refl _⟩
    · rw [decide_eq_false h2] at e2
      have e : decide (a < c ∨ a = c ∧ b < d) = false := decide_eq_false (by omega)
      rw [e]
      clear h1 h2 e3
      go_wp2
      go_ret
      exact ⟨rfl, Drawn0.refl _⟩

set_option maxHeartbeats 8000000 in
set_option maxRecDepth 100000 in
theorem point_says (a b : Int) (w : World) :
    Calls Try.prog 11 #[.int .i64 a, .int .i64 b] w fun e w' => e = .returned (.complex .f64 (D a) (D b)) ∧ Drawn0 w w' := by
  go_enter Try.func11, Try.ntmps11
  have u3 := Try.underlying3
  have u42 := Try.underlying42
  go_wp2
  go_ret
  exact ⟨rfl, Drawn0.refl _⟩
end Go.Proofs.Ytbdjcfaocmhdnaa.Q
