/- The law MarkOrder: the program's places rise, so the law answers true. Conditions: the row's bounds. -/
import Derived.Test.YtbdjcfaocmhdnaaHMOrder
namespace Go.Proofs.Ytbdjcfaocmhdnaa.Q
open Go Go.RowKit Go.Proofs Go.Proofs.Ytbdjcfaocmhdnaa.Fl Go.Proofs.YtbdjcfaocmhdnaaW.PrintWords Go.Proofs.YtbdjcfaocmhdnaaW.PrintLast Go.Proofs.YtbdjcfaocmhdnaaW.PrintMore
set_option linter.unusedVariables false
set_option linter.unusedSimpArgs false

def targumlaw3_MarkOrder.f (k : Nat) (a0 : ByteArray) (a1 : Bool) (a2 a3 : Int) : Option Bool :=
  if a0.size ≤ 140737488351232 ∧ (Lit.int .i64 a2).wf = true ∧ (Lit.int .i64 a3).wf = true then some true else none
theorem of_at (o : Bool) (s : ByteArray) (hs : s.size ≤ 200) (n : Nat) (hn : n ≤ s.size) (w : World) :
    Calls Try.prog 13 #[.int .i64 (verI o), .string s, .int .i64 (n : Int)] w fun e w' => e = .returned (.complex .f64 (D ((wL o (s.data.toList.take n)).1 : Int)) (D ((wL o (s.data.toList.take n)).2 : Int))) ∧ Drawn0 w w' := by
  have h := Of_says (verI o) s (n : Int) (by omega) w
  rw [offN_nat s n hn, way_to, verI_11] at h
  exact h
theorem of_le (o : Bool) (s : ByteArray) (n : Nat) (hn : n ≤ s.size) : (wL o (s.data.toList.take n)).1 ≤ s.size ∧ (wL o (s.data.toList.take n)).2 ≤ s.size := by
  have h := way_le (verI o) (s.extract 0 n)
  rw [way_to, verI_11, ByteArray.size_extract] at h
  omega
theorem morder_both (s : ByteArray) (o : Bool) (x y : Int) (w : World) (hs : s.size ≤ 200) :
    Calls Try.prog 6 #[.string s, .bool o, .int .i64 x, .int .i64 y] w fun e w' => e = .returned (.bool true) ∧ Below w.heap.size w w' := by
  obtain ⟨i, hi, cI⟩ := within_says s.size (by omega) x
  obtain ⟨k, hk, cJ⟩ := within_says s.size (by omega) y
  have main : ∀ i k : Nat, i ≤ k → k ≤ s.size → ∃ B1 : Bool, (B1 = true ∨ B1 = false ∧ (wL o (s.data.toList.take i)).1 = (wL o (s.data.toList.take k)).1 ∧ (wL o (s.data.toList.take i)).2 = (wL o (s.data.toList.take k)).2) ∧
      (∀ w, Calls Try.prog 17 #[.complex .f64 (D ((wL o (s.data.toList.take k)).1 : Int)) (D ((wL o (s.data.toList.take k)).2 : Int)), .complex .f64 (D ((wL o (s.data.toList.take i)).1 : Int)) (D ((wL o (s.data.toList.take i)).2 : Int))] w fun e w' => e = .returned (.bool false) ∧ Drawn0 w w') ∧
      (∀ w, Calls Try.prog 17 #[.complex .f64 (D ((wL o (s.data.toList.take i)).1 : Int)) (D ((wL o (s.data.toList.take i)).2 : Int)), .complex .f64 (D ((wL o (s.data.toList.take k)).1 : Int)) (D ((wL o (s.data.toList.take k)).2 : Int))] w fun e w' => e = .returned (.bool B1) ∧ Drawn0 w w') := by
    intro i k hik hk
    have h := rise o s.data.toList i (k - i)
    rw [show i + (k - i) = k by omega] at h
    have h1 := of_le o s i (by omega)
    have h2 := of_le o s k hk
    generalize wL o (s.data.toList.take i) = p at h h1 ⊢
    generalize wL o (s.data.toList.take k) = q at h h2 ⊢
    obtain ⟨a, b⟩ := p
    obtain ⟨c, d⟩ := q
    have h3 := lt_or h
    simp only at h1 h2 ⊢
    have l1 := fun w => Less_says (c : Int) (d : Int) (a : Int) (b : Int) (small_nat (by omega)) (small_nat (by omega)) (small_nat (by omega)) (small_nat (by omega)) w
    have l2 := fun w => Less_says (a : Int) (b : Int) (c : Int) (d : Int) (small_nat (by omega)) (small_nat (by omega)) (small_nat (by omega)) (small_nat (by omega)) w
    rw [decide_eq_false (show ¬((c : Int) < a ∨ (c : Int) = a ∧ (d : Int) < b) by omega)] at l1
    refine ⟨_, ?_, l1, l2⟩
    rcases h3 with h3 | h3
    · exact .inl (decide_eq_true (by omega))
    · exact .inr ⟨decide_eq_false (by omega), h3⟩
  have li := of_le o s i hi
  have lk := of_le o s k hk
  by_cases hik : i ≤ k
  · obtain ⟨B1, hB, l1, l2⟩ := main i k hik hk
    exact morder_up s o (verI o) x y i k _ _ _ _ B1 w hs hik (by omega) (by omega) (by omega) (by omega) (version_says o) cI cJ (of_at o s hs i hi) (of_at o s hs k hk) hB l1 l2
  · obtain ⟨B1, hB, l1, l2⟩ := main k i (by omega) hi
    exact morder_down s o (verI o) x y k i _ _ _ _ B1 w hs (by omega) (by omega) (by omega) (by omega) (by omega) (version_says o) cI cJ (of_at o s hs k hk) (of_at o s hs i hi) hB l1 l2
theorem targumlaw3_MarkOrder.calls (k : Nat) (a0 : ByteArray) (a1 : Bool) (a2 a3 : Int) (r : Bool) (w : World) (h : targumlaw3_MarkOrder.f k a0 a1 a2 a3 = some r) :
    Calls Try.prog 6 #[.string a0, .bool a1, .int .i64 a2, .int .i64 a3] w fun e w' => e = .returned (.bool r) ∧ Below w.heap.size w w' := by
  unfold targumlaw3_MarkOrder.f at h
  split at h
  case isFalse => cases h
  obtain rfl := Option.some.inj h
  clear h
  by_cases hlong : 200 < a0.size
  · exact morder_long a0 a1 a2 a3 hlong w
  · exact morder_both a0 a1 a2 a3 w (by omega)
end Go.Proofs.Ytbdjcfaocmhdnaa.Q
