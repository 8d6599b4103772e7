/- Package mark: Off: its walk. Conditions: sizes. -/
import Derived.Test.YtbdjcfaocmhdnaaMkB
namespace Go.Proofs.Ytbdjcfaocmhdnaa.Q
open Go Go.RowKit Go.Proofs Go.Proofs.Ytbdjcfaocmhdnaa.Fl Go.Proofs.YtbdjcfaocmhdnaaW.PrintWords Go.Proofs.YtbdjcfaocmhdnaaW.PrintLast Go.Proofs.YtbdjcfaocmhdnaaW.PrintMore
attribute [local go_sem] max2_int min2_int max_two min_two
set_option linter.unusedVariables false
set_option linter.unusedSimpArgs false

def offI (v : Int) (s : ByteArray) (p q : Int × Int) (i n : Nat) : Nat → Nat → Int → Int
  | 0, _, out => out
  | m + 1, k, out => if k < n then offI v s p q i n m (k + 1) (if goZ q (way v (s.extract i (i + k))) = p then ((i + k : Nat) : Int) else out) else out
def unitN (v : Int) (s : ByteArray) (i : Nat) : Nat := max (brkN v s i) 1
def offO (v : Int) (s : ByteArray) (p : Int × Int) : Nat → Nat → Int × Int → Int → Int
  | 0, _, _, out => out
  | f + 1, i, q, out => if i < s.size then offO v s p f (i + unitN v s i) (goZ q (way v (s.extract i (i + unitN v s i)))) (offI v s p q i (unitN v s i) (unitN v s i) 1 (if q = p then (i : Int) else out)) else (if q = p then (i : Int) else out)
/-- The last byte at a place. -/
def offR (v : Int) (s : ByteArray) (p : Int × Int) : Int := offO v s p (s.size + 1) 0 (0, 0) (-1)

theorem offO_any (v : Int) (s : ByteArray) (p : Int × Int) : ∀ (f g i : Nat) (q : Int × Int) (out : Int), s.size - i < f → s.size - i < g → offO v s p f i q out = offO v s p g i q out := by
  intro f
  induction f with
  | zero => intro g i q out h; omega
  | succ f ih =>
    intro g i q out hf hg
    obtain ⟨g, rfl⟩ : ∃ k, g = k + 1 := ⟨g - 1, by omega⟩
    rw [offO, offO]
    by_cases h : i < s.size
    · rw [if_pos h, if_pos h]
      have hu : 1 ≤ unitN v s i := Nat.le_max_right _ _
      exact ih g _ _ _ (by omega) (by omega)
    · rw [if_neg h, if_neg h]
theorem slice_kn (s : ByteArray) (k m : Nat) (h : k + m ≤ s.size) (w : World) : (Instr.slice 9 (.string s) (some (.int .i64 (k : Int))) (some (.int .i64 ((k : Int) + (m : Int)))) none).run Try.prog w = .ok (.string (s.extract k (k + m))) w := by
  have := run_slice_string (P := Try.prog) w 9 s .i64 .i64 (k : Int) ((k : Int) + (m : Int)) Try.underlying9 (by omega) (by omega) (by omega)
  rw [this]
  congr 2
theorem goZ_nat (a b : Nat) (q : Nat × Nat) : ∃ c d : Nat, goZ ((a : Int), (b : Int)) q = ((c : Int), (d : Int)) ∧ c ≤ a + q.1 ∧ d ≤ b + q.2 := by
  unfold goZ
  by_cases h : 0 < q.1
  · rw [if_pos h]
    exact ⟨a + q.1, q.2, by simp, by omega, by omega⟩
  · rw [if_neg h]
    exact ⟨a, b + q.2, by simp, by omega, by omega⟩
theorem cx_eq {a b x y : Int} (ha : small a) (hb : small b) (hx : small x) (hy : small y) : ((FloatKind.f64.format.order (D a) (D x) == some .eq) && (FloatKind.f64.format.order (D b) (D y) == some .eq)) = decide ((a, b) = (x, y)) := by
  rw [fl_eq ha hx, fl_eq hb hy, ← Bool.decide_and, decide_eq_decide]
  simp

set_option maxHeartbeats 16000000 in
set_option maxRecDepth 100000 in
theorem Off_says (v x y : Int) (s : ByteArray) (hs : s.size ≤ 20000) (hx : -100000 ≤ x ∧ x ≤ 100000) (hy : -100000 ≤ y ∧ y ≤ 100000) (w : World) :
    Calls Try.prog 15 #[.int .i64 v, .string s, .complex .f64 (D x) (D y)] w fun e w' => e = .returned (.int .i64 (offR v s (x, y))) ∧ Drawn0 w w' := by
  have CB := Lib.hid (fun a w => brk_says v s (by omega) a w)
  have CG := Lib.hid (fun (a b : Int) (t : ByteArray) (ht : t.size ≤ 100000) (ha : -100000 ≤ a ∧ a ≤ 100000) (hb : -100000 ≤ b ∧ b ≤ 100000) w => Go_says v a b t ht ha hb w)
  have SX : Hid (small x ∧ small y) := Lib.hid ⟨small_le (by omega) (by omega), small_le (by omega) (by omega)⟩
  obtain ⟨R, hR⟩ : ∃ R, offR v s (x, y) = R := ⟨_, rfl⟩
  rw [hR]
  have HR := Lib.hid hR
  clear hR
  go_enter Try.func15, Try.ntmps15
  go_wp2
  go_loopw [7, 8, 9] (fun o q i wr => ∃ a b k : Nat, ∃ out : Int, a ≤ k ∧ b ≤ k ∧ k ≤ s.size ∧ i = .int .i64 k ∧ q = .complex .f64 (D a) (D b) ∧ o = .int .i64 out ∧ Hid (offO v s (x, y) (s.size - k + 1) k ((a : Int), (b : Int)) out = R) ∧ Drawn0 w wr) (fun _ _ i _ => s.size - (intOf i).toNat)
  case atStart => exact ⟨0, 0, 0, -1, Nat.le_refl _, Nat.le_refl _, Nat.zero_le _, rfl, by show _ = Value.complex .f64 (D 0) (D 0); rw [D0], rfl, Lib.hid HR.out, Drawn0.refl _⟩
  case round =>
    obtain ⟨a, b, k, out, ha, hb, hk, rfl, rfl, rfl, H, hd⟩ := hrel
    have sa : small (a : Int) := small_nat (by omega)
    have sb : small (b : Int) := small_nat (by omega)
    have Heq := Lib.hid (cx_eq sa sb SX.out.1 SX.out.2)
    clear sa sb
    obtain ⟨o1, ho1⟩ : ∃ o1 : Int, o1 = if ((a : Int), (b : Int)) = (x, y) then (k : Int) else out := ⟨_, rfl⟩
    have Ho1 := Lib.hid ho1
    clear ho1
    go_upto_if 14 with (fail)
    generalize hq : (FloatKind.f64.format.order (D (a : Int)) (D x) == some Ordering.eq && FloatKind.f64.format.order (D (b : Int)) (D y) == some Ordering.eq) = tq
    have Hq : Hid (tq = decide (((a : Int), (b : Int)) = (x, y))) := Lib.hid (hq.symm.trans Heq.out)
    clear hq Heq
    go_cut [7] (fun v7 wc => v7 = .int .i64 o1 ∧ Drawn0 w wc)
    case first =>
      cases tq with
      | true =>
        have E1 : Hid (o1 = (k : Int)) := Lib.hid (by rw [Ho1.out, if_pos (of_decide_eq_true Hq.out.symm)])
        clear Ho1 Hq
        go_wp2
        go_meet
        case rel => exact ⟨by rw [E1.out], hd⟩
      | false =>
        have E1 : Hid (o1 = out) := Lib.hid (by rw [Ho1.out, if_neg (of_decide_eq_false Hq.out.symm)])
        clear Ho1 Hq
        go_wp2
        go_meet
        case rel => exact ⟨by rw [E1.out], hd⟩
    case rest =>
      clear hd
      obtain ⟨rfl, hd⟩ := hcut
      have H1 := H.out
      rw [offO] at H1
      rw [← Ho1.out] at H1
      clear H Ho1 Hq
      by_cases hlt : k < s.size
      · rw [if_pos hlt] at H1
        have d1 : decide ((s.size : Int) ≤ (k : Int)) = false := decide_eq_false (by omega)
        have d2 : decide (s.size ≤ k) = false := decide_eq_false (by omega)
        have cBk := fun w => CB.out k w
        have hbl := brkN_le v s k hk
        have hb3 : brkN v s k ≤ 3 := brkL_3 _ _
        have hu : unitN v s k = max (brkN v s k) 1 := rfl
        have hun : k + unitN v s k ≤ s.size := by omega
        have hmx : (if (brkN v s k : Int) < 1 then (1 : Int) else (brkN v s k : Int)) = (unitN v s k : Int) := by
          split <;> omega
        obtain ⟨n, hn⟩ : ∃ n, unitN v s k = n := ⟨_, rfl⟩
        rw [hn] at H1 hun hmx hu
        have hn1 : 1 ≤ n ∧ n ≤ 3 := by omega
        have H2 := Lib.hid H1
        clear H1 hn hu hbl hb3
        have Hmx := Lib.hid hmx
        generalize brkN v s k = br at *
        have cGn : ∀ w, Calls Try.prog 14 #[.int .i64 v, .complex .f64 (D (a : Int)) (D (b : Int)), .string (s.extract k (k + n))] w fun e w' => e = .returned (.complex .f64 (D (goZ ((a : Int), (b : Int)) (way v (s.extract k (k + n)))).1) (D (goZ ((a : Int), (b : Int)) (way v (s.extract k (k + n)))).2)) ∧ Drawn0 w w' := fun w => CG.out a b _ (by rw [ByteArray.size_extract]; omega) (by omega) (by omega) w
        have hwl := way_le v (s.extract k (k + n))
        obtain ⟨c, d, hcd, hc, hd2⟩ := goZ_nat a b (way v (s.extract k (k + n)))
        rw [hcd] at cGn
        have Hcd := Lib.hid hcd
        have hcn : c ≤ k + n ∧ d ≤ k + n := by
          rw [ByteArray.size_extract] at hwl
          omega
        clear hcd hwl hc hd2
        have loop : ∀ (u : Prop), u → u := fun _ h => h
        clear loop
        go_wp2_with (first | ((with_reducible refine (cBk _).mono ?_); rintro e w' ⟨rfl, hdb⟩; replace hd := drawn_trans hd hdb; clear hdb))
        clear cBk hmx d1 d2
        have hdB := hd
        clear hd
        go_loopw [7, 11] (fun o j wr => ∃ m : Nat, ∃ o2 : Int, 1 ≤ m ∧ m ≤ n ∧ j = .int .i64 m ∧ o = .int .i64 o2 ∧ Hid (offI v s (x, y) ((a : Int), (b : Int)) k n (n - m + 1) m o2 = offI v s (x, y) ((a : Int), (b : Int)) k n n 1 o1) ∧ Drawn0 w wr) (fun _ j _ => 4 - (intOf j).toNat)
        case atStart => exact ⟨1, o1, Nat.le_refl _, hn1.1, rfl, rfl, Lib.hid (by rw [show n - 1 + 1 = n by omega]), hdB⟩
        case round =>
          clear hdB
          obtain ⟨m, o2, hm1, hmn, rfl, rfl, Hi, hd⟩ := hrel
          have hI := Hi.out
          rw [offI] at hI
          by_cases hlm : m < n
          · rw [if_pos hlm] at hI
            have cGm : ∀ w, Calls Try.prog 14 #[.int .i64 v, .complex .f64 (D (a : Int)) (D (b : Int)), .string (s.extract k (k + m))] w fun e w' => e = .returned (.complex .f64 (D (goZ ((a : Int), (b : Int)) (way v (s.extract k (k + m)))).1) (D (goZ ((a : Int), (b : Int)) (way v (s.extract k (k + m)))).2)) ∧ Drawn0 w w' := fun w => CG.out a b _ (by rw [ByteArray.size_extract]; omega) (by omega) (by omega) w
            have hwl := way_le v (s.extract k (k + m))
            obtain ⟨c2, e2, hce, hc2, he2⟩ := goZ_nat a b (way v (s.extract k (k + m)))
            rw [ByteArray.size_extract] at hwl
            have sc : small (c2 : Int) := small_nat (by omega)
            have se : small (e2 : Int) := small_nat (by omega)
            rw [hce] at cGm hI
            obtain ⟨o3, ho3⟩ : ∃ o3 : Int, o3 = if ((c2 : Int), (e2 : Int)) = (x, y) then ((k + m : Nat) : Int) else o2 := ⟨_, rfl⟩
            rw [← ho3] at hI
            have Ho3 := Lib.hid ho3
            have HI := Lib.hid hI
            have Heq := Lib.hid (cx_eq sc se SX.out.1 SX.out.2)
            clear hce hc2 he2 hwl sc se hI ho3 Hi
            have hsl := slice_kn s k m (by omega)
            go_upto_if 41 with (first | ((with_reducible refine (cGm _).mono ?_); rintro e w' ⟨rfl, hdb⟩; replace hd := drawn_trans hd hdb; clear hdb))
            generalize hq : (FloatKind.f64.format.order (D (c2 : Int)) (D x) == some Ordering.eq && FloatKind.f64.format.order (D (e2 : Int)) (D y) == some Ordering.eq) = tq
            have Hq : Hid (tq = decide (((c2 : Int), (e2 : Int)) = (x, y))) := Lib.hid (hq.symm.trans Heq.out)
            clear hq Heq cGm
            cases tq with
            | true =>
              have E1 : Hid (o3 = ((k + m : Nat) : Int)) := Lib.hid (by rw [Ho3.out, if_pos (of_decide_eq_true Hq.out.symm)])
              clear Ho3 Hq
              go_wp2
              go_roundw
              case rel => exact ⟨m + 1, o3, by omega, by omega, by go_num, by rw [E1.out]; go_num, Lib.hid (by rw [show n - (m + 1) + 1 = n - m by omega]; exact HI.out), hd⟩
              case measure => simp [intOf]; omega
            | false =>
              have E1 : Hid (o3 = o2) := Lib.hid (by rw [Ho3.out, if_neg (of_decide_eq_false Hq.out.symm)])
              clear Ho3 Hq
              go_wp2
              go_roundw
              case rel => exact ⟨m + 1, o3, by omega, by omega, by go_num, by rw [E1.out], Lib.hid (by rw [show n - (m + 1) + 1 = n - m by omega]; exact HI.out), hd⟩
              case measure => simp [intOf]; omega
          · obtain rfl : n = m := by omega
            rw [if_neg hlm] at hI
            have e1 : decide (n < n) = false := decide_eq_false (by omega)
            have e2 : decide ((n : Int) < (n : Int)) = false := decide_eq_false (by omega)
            have H3 : Hid (offO v s (x, y) (s.size - k) (k + n) ((c : Int), (d : Int)) o2 = R) := Lib.hid (by
              have h := H2.out
              rw [Hcd.out, ← hI] at h
              exact h)
            clear hI Hi H2 Hcd hlm
            have hsl := slice_kn s k n (by omega)
            go_wp2_with (first | ((with_reducible refine (cGn _).mono ?_); rintro e w' ⟨rfl, hdb⟩; replace hd := drawn_trans hd hdb; clear hdb))
            go_roundw
            case rel => exact ⟨c, d, k + n, o2, by omega, by omega, by omega, by go_num, rfl, rfl, Lib.hid (by
              have h := H3.out
              rw [← h]
              exact (offO_any v s (x, y) _ _ _ _ _ (by omega) (by omega))), hd⟩
            case measure => simp [intOf]; omega
      · rw [if_neg hlt] at H1
        subst H1
        have d1 : decide ((s.size : Int) ≤ (k : Int)) = true := decide_eq_true (by omega)
        have d2 : decide (s.size ≤ k) = true := decide_eq_true (by omega)
        clear hlt
        go_wp2
        go_ret
        exact ⟨rfl, hd⟩
end Go.Proofs.Ytbdjcfaocmhdnaa.Q
