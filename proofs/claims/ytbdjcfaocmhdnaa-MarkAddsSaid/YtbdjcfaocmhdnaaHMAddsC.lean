/- The law MarkAdds: on one line the way is the difference of two places, so the law answers true. Conditions: the row's bounds. -/
import Derived.Test.YtbdjcfaocmhdnaaHMAdds
import Derived.Test.YtbdjcfaocmhdnaaHMOrderC
import Derived.Test.YtbdjcfaocmhdnaaMkR
namespace Go.Proofs.Ytbdjcfaocmhdnaa.Q
open Go Go.RowKit Go.Proofs Go.Proofs.Ytbdjcfaocmhdnaa.Fl Go.Proofs.YtbdjcfaocmhdnaaW.PrintWords Go.Proofs.YtbdjcfaocmhdnaaW.PrintLast Go.Proofs.YtbdjcfaocmhdnaaW.PrintMore
set_option linter.unusedVariables false
set_option linter.unusedSimpArgs false

def targumlaw3_MarkAdds.f (k : Nat) (a0 : ByteArray) (a1 : Bool) (a2 a3 : Int) : Option Bool :=
  if a0.size ≤ 140737488351232 ∧ (Lit.int .i64 a2).wf = true ∧ (Lit.int .i64 a3).wf = true then some true else none
/-- A text that begins with a line feed leads over a break. -/
theorem lf_breaks (o : Bool) (l : List UInt8) (h : l.head? = some 10) : 0 < (wL o l).1 := by
  cases l with
  | nil => exact nomatch h
  | cons c l =>
    rw [List.head?_cons] at h
    obtain rfl := Option.some.inj h
    rw [wL_cons]
    have hb : 0 < brkL o ((10 : UInt8) :: l) := by
      unfold brkL
      simp only
      rw [if_neg (by decide), if_pos trivial]
      exact Nat.one_pos
    have hu : u1 o 10 l = (1, 0) := by unfold u1; rw [if_pos hb]
    rw [hu]
    unfold goN
    split <;> simp only <;> omega
theorem line_of (o : Bool) (s : ByteArray) (i k : Nat) (hik : i ≤ k) (hk : k ≤ s.size) (hw : Wl (s.data.toList.take i)) (h0 : ¬ 0 < (wL o ((s.data.toList.drop i).take (k - i))).1) :
    wL o (s.data.toList.take k) = goN (wL o (s.data.toList.take i)) (wL o ((s.data.toList.drop i).take (k - i))) := by
  have e : s.data.toList.take k = s.data.toList.take i ++ (s.data.toList.drop i).take (k - i) := by
    rw [show k = i + (k - i) by omega, List.take_add, show i + (k - i) - i = k - i by omega]
  rw [e]
  exact wL_join o hw (fun A' _ h => h0 (lf_breaks o _ h))
theorem madds_both (s : ByteArray) (o : Bool) (x y : Int) (w : World) (hs : s.size ≤ 200) :
    Calls Try.prog 7 #[.string s, .bool o, .int .i64 x, .int .i64 y] w fun e w' => e = .returned (.bool true) ∧ Below w.heap.size w w' := by
  obtain ⟨r, hS, cS⟩ := well_says s (by omega)
  cases r with
  | false => exact madds_ill s o x y w hs cS
  | true =>
  obtain ⟨i, hi, cI⟩ := within_says s.size (by omega) x
  obtain ⟨k, hk, cJ⟩ := within_says s.size (by omega) y
  have small2 : ∀ {n : Nat}, n ≤ 200 → small (n : Int) := fun h => small_nat (by omega)
  have main : ∀ i k : Nat, i ≤ k → k ≤ s.size → ∃ rx ry : Bool, (∀ w, Calls Try.prog 18 #[.string (s.extract 0 i)] w fun e w' => e = .returned (.bool rx) ∧ Drawn0 w w') ∧
      (∀ w, Calls Try.prog 18 #[.string (s.extract 0 k)] w fun e w' => e = .returned (.bool ry) ∧ Drawn0 w w') ∧ (rx = true → ry = true →
      ∃ a b c d g h : Nat, (a ≤ 200 ∧ b ≤ 200 ∧ c ≤ 200 ∧ d ≤ 200 ∧ g ≤ 200 ∧ h ≤ 200) ∧ (a < c ∨ 0 < g ∧ a = c ∨ g = 0 ∧ a = c ∧ d = b + h) ∧
      (∀ w, Calls Try.prog 13 #[.int .i64 (verI o), .string s, .int .i64 (i : Int)] w fun e w' => e = .returned (.complex .f64 (D (a : Int)) (D (b : Int))) ∧ Drawn0 w w') ∧
      (∀ w, Calls Try.prog 13 #[.int .i64 (verI o), .string s, .int .i64 (k : Int)] w fun e w' => e = .returned (.complex .f64 (D (c : Int)) (D (d : Int))) ∧ Drawn0 w w') ∧
      (∀ w, Calls Try.prog 10 #[.int .i64 (verI o), .string (s.extract i k)] w fun e w' => e = .returned (.complex .f64 (D (g : Int)) (D (h : Int))) ∧ Drawn0 w w') ∧
      (∀ w, Calls Try.prog 9 #[.int .i64 (verI o), .string (s.extract i k)] w fun e w' => e = .returned (.tuple #[.int .i64 (g : Int), .int .i64 (h : Int)]) ∧ Drawn0 w w') ∧
      (g = 0 → a = c → d = b + h → ∀ w, Calls Try.prog 14 #[.int .i64 (verI o), .complex .f64 (D (a : Int)) (D (b : Int)), .string (s.extract i k)] w fun e w' => e = .returned (.complex .f64 (D (c : Int)) (D (d : Int))) ∧ Drawn0 w w')) := by
    intro i k hik hk
    obtain ⟨rx, hX, cX⟩ := well_says (s.extract 0 i) (by rw [ByteArray.size_extract]; omega)
    obtain ⟨ry, hY, cY⟩ := well_says (s.extract 0 k) (by rw [ByteArray.size_extract]; omega)
    refine ⟨rx, ry, cX, cY, fun ex ey => ?_⟩
    have hwx := hX ex
    rw [show (s.extract 0 i).data.toList = s.data.toList.take i from by rw [extract_list, List.drop_zero, Nat.sub_zero]] at hwx
    have hr := rise o s.data.toList i (k - i)
    rw [show i + (k - i) = k by omega] at hr
    have h1 := of_le o s i (by omega)
    have h2 := of_le o s k hk
    have h3 := way_le (verI o) (s.extract i k)
    rw [ByteArray.size_extract] at h3
    have cP := of_at o s hs i (by omega)
    have cQ := of_at o s hs k hk
    have hsz : (s.extract i k).size ≤ 200 := by rw [ByteArray.size_extract]; omega
    have cW := fun w => Way_says (verI o) (s.extract i k) (by omega) w
    obtain ⟨KW, hKW⟩ := (ref_way (verI o) (s.extract i k) (by omega)).rounds
    have cR := fun w => targumref1_Way.calls KW (verI o) (s.extract i k) _ _ w hKW
    have cG := fun w => Go_says (verI o) ((wL o (s.data.toList.take i)).1 : Int) ((wL o (s.data.toList.take i)).2 : Int) (s.extract i k) (by omega) (by omega) (by omega) w
    have hln := line_of o s i k hik hk hwx
    have ew : way (verI o) (s.extract i k) = wL o ((s.data.toList.drop i).take (k - i)) := by rw [way_wL, extract_list, verI_11]
    rw [ew] at h3 cG cW cR
    generalize wL o ((s.data.toList.drop i).take (k - i)) = q at h3 cW cR cG hln
    generalize wL o (s.data.toList.take i) = p at hr h1 cP cG hln
    generalize wL o (s.data.toList.take k) = p2 at hr h2 cQ hln
    obtain ⟨a, b⟩ := p
    obtain ⟨c, d⟩ := p2
    obtain ⟨g, h⟩ := q
    simp only at h1 h2 h3 cP cQ cW cR cG hln
    refine ⟨a, b, c, d, g, h, by omega, ?_, cP, cQ, cW, cR, fun e0 e1 e2 w => ?_⟩
    · unfold leP at hr
      simp only at hr
      by_cases hac : a < c
      · exact .inl hac
      · by_cases hg : 0 < g
        · exact .inr (.inl ⟨hg, by omega⟩)
        · have hl := hln hg
          unfold goN at hl
          simp only at hl
          rw [if_neg hg] at hl
          have l1 := congrArg Prod.fst hl
          have l2 := congrArg Prod.snd hl
          simp only at l1 l2
          exact .inr (.inr ⟨by omega, by omega, by omega⟩)
    · have c := cG w
      unfold goZ at c
      rw [if_neg (show ¬ 0 < (g, h).1 by simp only; omega)] at c
      simp only at c
      subst e0 e1 e2
      rw [show ((b + h : Nat) : Int) = (b : Int) + (h : Int) by omega]
      exact c
  have fin : ∀ {a b c d g h : Nat}, (a ≤ 200 ∧ b ≤ 200 ∧ c ≤ 200 ∧ d ≤ 200 ∧ g ≤ 200 ∧ h ≤ 200) → g = 0 → a = c → d = b + h →
      (∀ w, (binOp .sub 26 (.complex .f64 (D (c : Int)) (D (d : Int))) (.complex .f64 (D (a : Int)) (D (b : Int)))).run Try.prog w = .ok (.complex .f64 (D (g : Int)) (D (h : Int))) w) ∧
      (∀ w, (binOp .add 26 (.complex .f64 (D (a : Int)) (D (b : Int))) (.complex .f64 (D (g : Int)) (D (h : Int)))).run Try.prog w = .ok (.complex .f64 (D (c : Int)) (D (d : Int))) w) := by
    intro a b c d g h hb e0 e1 e2
    subst e0 e1 e2
    refine ⟨fun w => ?_, fun w => ?_⟩
    · rw [run_cx_sub (P := Try.prog) w 26 (a : Int) ((b + h : Nat) : Int) (a : Int) (b : Int) (small2 (by omega)) (small_nat (by omega)) (small2 (by omega)) (small2 (by omega))]
      rw [show (a : Int) - (a : Int) = ((0 : Nat) : Int) by omega, show ((b + h : Nat) : Int) - (b : Int) = (h : Int) by omega]
    · rw [run_cx_add (P := Try.prog) w 26 (a : Int) (b : Int) ((0 : Nat) : Int) (h : Int) (small2 (by omega)) (small2 (by omega)) (small_nat (by omega)) (small2 (by omega))]
      rw [show (a : Int) + ((0 : Nat) : Int) = (a : Int) by omega, show (b : Int) + (h : Int) = ((b + h : Nat) : Int) by omega]
  have self : ∀ {n : Nat}, n ≤ 200 → (FloatKind.f64.format.order (D (n : Int)) (D (n : Int)) == some .eq) = true := fun h => (fl_eq (small2 h) (small2 h)).trans (decide_eq_true rfl)
  have qz : (FloatKind.f64.format.order (D ((0 : Nat) : Int)) 0 == some .eq) = true := by
    have h := self (n := 0) (by omega)
    rw [show (D ((0 : Nat) : Int)) = 0 from D0] at h ⊢
    exact h
  by_cases hik : i ≤ k
  · obtain ⟨rx, ry, cX, cY, hm⟩ := main i k hik hk
    cases rx with
    | false => exact madds_cutI_up s o x y (verI o) i k w hs hik hk cS (version_says o) cI cJ cX
    | true =>
    cases ry with
    | false => exact madds_cutK_up s o x y (verI o) i k w hs hik hk cS (version_says o) cI cJ cX cY
    | true =>
    obtain ⟨a, b, c, d, g, h, hb, hc, cP, cQ, cW, cR, cG⟩ := hm rfl rfl
    rcases hc with hac | ⟨hg, rfl⟩ | ⟨e0, e1, e2⟩
    · exact madds_far_up s o x y (verI o) i k a b c d g h w hs hik hk ((fl_eq (small2 (by omega)) (small2 (by omega))).trans (decide_eq_false (by omega))) ((fl_lt (small2 (by omega)) (small2 (by omega))).trans (decide_eq_true (by omega))) cS (version_says o) cI cJ cX cY cP cQ cW
    · exact madds_brk_up s o x y (verI o) i k a b a d g h w hs hik hk (by omega) (self (by omega)) cS (version_says o) cI cJ cX cY cP cQ cW cR
    · obtain ⟨f1, f2⟩ := fin hb e0 e1 e2
      have cG2 := cG e0 e1 e2
      subst e0 e1
      exact madds_line_up s o x y (verI o) i k a b a d 0 h w hs hik hk (by omega) (self (by omega)) (self (n := 0) (by omega)) (self (by omega)) (self (by omega)) (self (by omega)) qz f1 f2 cS (version_says o) cI cJ cX cY cP cQ cW cR cG2
  · obtain ⟨rx, ry, cX, cY, hm⟩ := main k i (by omega) hi
    cases rx with
    | false => exact madds_cutI_down s o x y (verI o) k i w hs (by omega) (by omega) hi cS (version_says o) cI cJ cX
    | true =>
    cases ry with
    | false => exact madds_cutK_down s o x y (verI o) k i w hs (by omega) (by omega) hi cS (version_says o) cI cJ cX cY
    | true =>
    obtain ⟨a, b, c, d, g, h, hb, hc, cP, cQ, cW, cR, cG⟩ := hm rfl rfl
    rcases hc with hac | ⟨hg, rfl⟩ | ⟨e0, e1, e2⟩
    · exact madds_far_down s o x y (verI o) k i a b c d g h w hs (by omega) (by omega) hi ((fl_eq (small2 (by omega)) (small2 (by omega))).trans (decide_eq_false (by omega))) ((fl_lt (small2 (by omega)) (small2 (by omega))).trans (decide_eq_true (by omega))) cS (version_says o) cI cJ cX cY cP cQ cW
    · exact madds_brk_down s o x y (verI o) k i a b a d g h w hs (by omega) (by omega) hi (by omega) (self (by omega)) cS (version_says o) cI cJ cX cY cP cQ cW cR
    · obtain ⟨f1, f2⟩ := fin hb e0 e1 e2
      have cG2 := cG e0 e1 e2
      subst e0 e1
      exact madds_line_down s o x y (verI o) k i a b a d 0 h w hs (by omega) (by omega) hi (by omega) (self (by omega)) (self (n := 0) (by omega)) (self (by omega)) (self (by omega)) (self (by omega)) qz f1 f2 cS (version_says o) cI cJ cX cY cP cQ cW cR cG2
theorem targumlaw3_MarkAdds.calls (k : Nat) (a0 : ByteArray) (a1 : Bool) (a2 a3 : Int) (r : Bool) (w : World) (h : targumlaw3_MarkAdds.f k a0 a1 a2 a3 = some r) :
    Calls Try.prog 7 #[.string a0, .bool a1, .int .i64 a2, .int .i64 a3] w fun e w' => e = .returned (.bool r) ∧ Below w.heap.size w w' := by
  unfold targumlaw3_MarkAdds.f at h
  split at h
  case isFalse => cases h
  obtain rfl := Option.some.inj h
  clear h
  by_cases hlong : 200 < a0.size
  · exact madds_long a0 a1 a2 a3 w hlong
  · exact madds_both a0 a1 a2 a3 w (by omega)
end Go.Proofs.Ytbdjcfaocmhdnaa.Q
