/- SquoteBack: for every input the answer is true. No condition. -/
import Derived.Test.YthllhoodbfnlaaaDoorL18a
import Derived.Test.YthllhoodbfnlaaaDoorSqE
import Derived.Test.YthllhoodbfnlaaaDoorTxt
import Derived.Test.YthllhoodbfnlaaaDoorL18b
namespace Go.Mini
open Go Go.RowKit Go.Proofs
set_option maxRecDepth 100000
set_option linter.unusedVariables false
set_option linter.unusedSimpArgs false

theorem dbl_head {l r : List UInt8} {c : UInt8} (hc : c ≠ 39) (h : (dbl l ++ 39 :: r).head? = some c) : l.head? = some c := by
  cases l with
  | nil => simp [dbl] at h; exact absurd h.symm hc
  | cons d l =>
    rw [dbl] at h
    split at h
    · simp at h; exact absurd h.symm hc
    · simpa using h
theorem dbl_take {l r : List UInt8} {c d : UInt8} (hc : c ≠ 39) (hd : d ≠ 39) (h : (dbl l ++ 39 :: r).take 2 = [c, d]) : l.take 2 = [c, d] := by
  cases l with
  | nil => simp [dbl] at h; exact absurd h.1.symm hc
  | cons x l =>
    rw [dbl] at h
    split at h
    · simp at h; exact absurd h.1.symm hc
    · simp only [List.cons_append, List.take_succ_cons, List.cons.injEq] at h
      cases l with
      | nil => simp [dbl] at h; exact absurd h.2.symm hd
      | cons y l =>
        rw [dbl] at h
        split at h
        · simp at h; exact absurd h.2.symm hd
        · simpa using h
theorem brk_dbl {old : Bool} {l r : List UInt8} (h : brkL old l = 0) : brkL old (dbl l ++ 39 :: r) = 0 := by
  cases l with
  | nil => cases old <;> simp [dbl, brkL]
  | cons c l =>
    rw [dbl]
    by_cases hc : c = 39
    · rw [if_pos hc]; cases old <;> simp [brkL]
    · rw [if_neg hc, List.cons_append]
      have hh : (dbl l ++ 39 :: r).head? = some 133 → l.head? = some 133 := dbl_head (by decide)
      have h1 : (dbl l ++ 39 :: r).take 2 = [128, 168] → l.take 2 = [128, 168] := dbl_take (by decide) (by decide)
      have h2 : (dbl l ++ 39 :: r).take 2 = [128, 169] → l.take 2 = [128, 169] := dbl_take (by decide) (by decide)
      generalize dbl l ++ 39 :: r = m at *
      unfold brkL at h ⊢
      revert h
      repeat' split
      all_goals simp_all
theorem bls_dbl (l r : List UInt8) : bls (dbl l ++ 39 :: r) = bls l := by
  induction l with
  | nil => rfl
  | cons c l ih =>
    rw [dbl]
    by_cases hc : c = 39
    · subst hc; rfl
    · rw [if_neg hc, List.cons_append, bls, bls, ih]
theorem dbl_split : ∀ l : List UInt8, dbl l = l.take (bls l) ++ dbl (l.drop (bls l))
  | [] => rfl
  | c :: l => by
    rw [bls]
    by_cases hb : isBl c = true
    · have hc : c ≠ 39 := fun e => by rw [e] at hb; exact absurd hb (by decide)
      rw [if_pos hb, List.take_succ_cons, List.drop_succ_cons, List.cons_append, ← dbl_split l, dbl, if_neg hc]
    · rw [if_neg hb]; rfl
section
variable {v i : Int} {s : ByteArray} {r : List UInt8}
theorem sq_written (hr : ∀ r', r ≠ 39 :: r') : ∀ (n : Nat) (l : List UInt8) (a : Int) (o : List UInt8) (k : Nat), l.length ≤ n → (∀ j, brkL (decide (v = 11)) (l.drop j) = 0) → Sat s a (dbl l ++ 39 :: r) → l.length < k → sqN v s i k a o = .ok (o ++ l, a + (dbl l).length + 1)
  | n, [], a, o, k, hn, hB, h, hk => by
    obtain ⟨k, rfl⟩ : ∃ k', k = k' + 1 := ⟨k - 1, by simp only [List.length_nil] at hk; omega⟩
    rw [sq_end h hr]
    simp [dbl]
  | 0, c :: l, a, o, k, hn, hB, h, hk => by simp at hn
  | n + 1, c :: l, a, o, k, hn, hB, h, hk => by
    obtain ⟨k, rfl⟩ : ∃ k', k = k' + 1 := ⟨k - 1, by simp only [List.length_cons] at hk; omega⟩
    simp only [List.length_cons] at hn hk
    have hB' : ∀ j, brkL (decide (v = 11)) (l.drop j) = 0 := fun j => hB (j + 1)
    by_cases hc : c = 39
    · subst hc
      rw [dbl, if_pos rfl] at h
      rw [sq_pair h, sq_written hr n l (a + 2) (o ++ [39]) k (by omega) hB' (by have := h.step.step; rwa [show a + 1 + 1 = a + 2 from by omega] at this) (by omega), dbl, if_pos rfl]
      simp only [List.length_cons, List.append_assoc, List.singleton_append]
      congr 2
      omega
    · cases hb : isBl c with
      | false =>
        rw [dbl, if_neg hc] at h
        have hk0 : brkL (decide (v = 11)) (c :: (dbl l ++ 39 :: r)) = 0 := by
          have := brk_dbl (r := r) (hB 0)
          rw [List.drop_zero, dbl, if_neg hc] at this
          exact this
        rw [sq_plain h hc hb hk0, sq_written hr n l (a + 1) (o ++ [c]) k (by omega) hB' h.step (by omega), dbl, if_neg hc]
        simp only [List.length_cons, List.append_assoc, List.singleton_append]
        congr 2
        omega
      | true =>
        have hbl : bls (c :: l) = bls l + 1 := by rw [bls, if_pos hb]
        have hble := bls_le (c :: l)
        generalize hm : bls (c :: l) = m at *
        have hsp := dbl_split (c :: l)
        rw [hm] at hsp
        have htl : ((c :: l).take m).length = m := by rw [List.length_take]; omega
        have ho : overI s a = a + m := by rw [h.over, bls_dbl, hm]
        have hlt : a < s.size := by rw [dbl, if_neg hc] at h; exact h.lt
        have hby : byteAt s a.toNat = c := by rw [dbl, if_neg hc] at h; exact h.byte
        have h2 : Sat s (a + m) (dbl ((c :: l).drop m) ++ 39 :: r) := by
          rw [hsp, List.append_assoc] at h
          have := h.app
          rwa [htl] at this
        have hbt : bytesI s a (a + m) = (c :: l).take m := by
          unfold bytesI
          rw [h.2.2, hsp, show (a + (m : Int) - a).toNat = m from by omega, List.append_assoc, List.take_append_of_le_length (by omega), List.take_of_length_le (by omega)]
        have hk0 : brkI v s (a + m) = 0 := by rw [h2.brk, brk_dbl (hB m)]; rfl
        rw [sqN, if_neg (by omega), if_neg (fun e => hc (by rw [← hby]; exact e.1)), if_neg (by rw [hby]; exact hc), ho, hk0, if_neg (by omega), Int.max_eq_left (by omega), hbt]
        have hdl : ((c :: l).drop m).length ≤ n := by rw [List.length_drop, List.length_cons]; omega
        rw [sq_written hr n ((c :: l).drop m) (a + m) _ k hdl (fun j => by rw [List.drop_drop]; exact hB (m + j)) h2 (by rw [List.length_drop, List.length_cons]; omega), List.append_assoc, List.take_append_drop]
        congr 2
        rw [hsp, List.length_append, htl]
        omega
end
theorem noB_all (s : ByteArray) : ∀ (k : Nat) (j : Int), noB s k j = true → ∀ i : Int, j ≤ i → i < j + k → brkI 11 s i = 0
  | 0, j, h, i, h1, h2 => by omega
  | k + 1, j, h, i, h1, h2 => by
    rw [noB] at h
    split at h
    · cases h
    · have hn := brkI_nn 11 s j
      by_cases e : i = j
      · subst e; omega
      · exact noB_all s k (j + 1) h i (by omega) (by omega)
theorem brkL_old {l : List UInt8} (h : brkL true l = 0) : brkL false l = 0 := by
  cases l with
  | nil => rfl
  | cons c l =>
    unfold brkL at h ⊢
    revert h
    repeat' split
    all_goals simp_all
theorem noB_lst {s : ByteArray} (h : noB s s.size 0 = true) (old : Bool) (j : Nat) : brkL old ((lst s).drop j) = 0 := by
  have e : brkL true ((lst s).drop j) = 0 := by
    rcases Nat.lt_or_ge j s.size with h1 | h1
    · have := noB_all s s.size 0 h j (by omega) (by omega)
      unfold brkI at this
      rw [if_pos (by omega)] at this
      simpa using this
    · rw [drop_ge h1]; rfl
  cases old with
  | true => exact e
  | false => exact brkL_old e
theorem sq_back {v : Int} {s x : ByteArray} {i : Int} {r : List UInt8} (h : noB s s.size 0 = true) (hr : ∀ r', r ≠ 39 :: r') (hx : Sat x i (39 :: (dbl (lst s) ++ 39 :: r))) : sqI v x i = .ok (lst s, i + (dbl (lst s)).length + 2) := by
  have hlt := hx.lt
  have hlen := hx.step.len
  have hl : (lst s).length ≤ (dbl (lst s)).length := by
    generalize lst s = l
    induction l with
    | nil => exact Nat.le_refl _
    | cons c l ih => rw [dbl]; split <;> simp only [List.length_cons] <;> omega
  unfold sqI
  have hi := hx.1
  simp only [List.length_append, List.length_cons] at hlen
  rw [if_neg (by rintro (h1 | h1 | h1) <;> first | omega | exact h1 hx.byte), sq_written hr _ (lst s) (i + 1) [] _ (Nat.le_refl _) (noB_lst h _) hx.step (by omega), List.nil_append]
  congr 2
  omega
theorem ln_break {v : Int} {s : ByteArray} : ∀ (m k : Nat) (a i : Int), 0 ≤ i → i + m = s.size → s.size - i < k → (∃ j : Int, i ≤ j ∧ j < s.size ∧ 0 < brkI v s j) → ∃ x r, (lnLoop v s k a i).1 = x :: r ∧ x.e < s.size
  | m, 0, a, i, h0, h, hk, _ => by omega
  | 0, k + 1, a, i, h0, h, hk, ⟨j, h1, h2, _⟩ => by omega
  | m + 1, k + 1, a, i, h0, h, hk, ⟨j, h1, h2, h3⟩ => by
    rw [lnLoop, if_neg (by omega)]
    by_cases hb : brkI v s i = 0
    · rw [if_pos hb]
      exact ln_break m k a (i + 1) (by omega) (by omega) (by omega) ⟨j, by
        rcases Int.lt_or_le i j with h4 | h4
        · omega
        · obtain rfl : i = j := by omega
          omega, h2, h3⟩
    · rw [if_neg hb]
      exact ⟨_, _, rfl, by dsimp only; omega⟩
theorem noB_some (s : ByteArray) : ∀ (k : Nat) (j : Int), noB s k j = false → ∃ i : Int, j ≤ i ∧ i < j + k ∧ 0 < brkI 11 s i
  | 0, j, h => by cases h
  | k + 1, j, h => by
    rw [noB] at h
    by_cases hb : 0 < brkI 11 s j
    · exact ⟨j, by omega, by omega, hb⟩
    · rw [if_neg hb] at h
      obtain ⟨i, h1, h2, h3⟩ := noB_some s k (j + 1) h
      exact ⟨i, by omega, by omega, h3⟩
theorem lines_break {s : ByteArray} (h : noB s s.size 0 = false) : ∃ x r, linesI 11 s = x :: r ∧ x.e < s.size := by
  obtain ⟨i, h1, h2, h3⟩ := noB_some s _ _ h
  obtain ⟨x, r, h4, h5⟩ := ln_break (v := 11) (s := s) s.size (s.size + 1) 0 0 (by omega) (by omega) (by omega) ⟨i, h1, by omega, h3⟩
  unfold linesI
  rw [h4]
  split
  · exact ⟨x, _, rfl, h5⟩
  · exact ⟨x, r, rfl, h5⟩

def TB8 : CT := (extC (extC (extC (extC SZ targumref1_IsBlank.n targumref1_IsBlank.s) targumref1_Lines.n targumref1_Lines.s) targumhelp_Few.n targumhelp_Few.s) targumlaw18_known.n targumlaw18_known.s)
theorem TB8_ok : COk Tryd.prog TB8 := (extC_ok (extC_ok (extC_ok (extC_ok SZ_ok targumref1_IsBlank.sc targumref1_IsBlank.sd) targumref1_Lines.sc targumref1_Lines.sd) targumhelp_Few.sc targumhelp_Few.sd) targumlaw18_known.sc targumlaw18_known.sd)
theorem TB8_mono : CMono TB8 := (extC_mono (extC_mono (extC_mono (extC_mono SZ_mono targumref1_IsBlank.sm) targumref1_Lines.sm) targumhelp_Few.sm) targumlaw18_known.sm)
theorem targumlaw18_SquoteBack.t (s r : ByteArray) (K : VK) : mwp TB8 (lt0) targumlaw18_SquoteBack.m (retK [.t 4] K) (argE 0 [.string s, .string r]) (lit ([])) = ((200 : Int) ≤ (1000000 : Int) ∧ br (!fewI s (200 : Int)) (K (Value.bool true) (Heap.mk (0 : Nat) [])) ((50 : Int) ≤ (1000000 : Int) ∧ br (!fewI r (50 : Int)) (K (Value.bool true) (Heap.mk (0 : Nat) [])) (s.size ≤ (1000000 : Nat) ∧ br (!wrOk s) (br (decide (wrS s = ByteArray.mk #[])) (br (blankI s (0 : Int)) (K (Value.bool true) (Heap.mk (0 : Nat) [])) (rng IntKind.i64 ((↑s.size : Int) - (1 : Int)) ∧ br (blankI s ((↑s.size : Int) - (1 : Int))) (K (Value.bool true) (Heap.mk (0 : Nat) [])) (s.size ≤ (1000000 : Nat) ∧ br (decide ((1 : Int) < (↑(linesI (11 : Int) s).length : Int))) (K (Value.bool true) (Heap.mk ((0 : Nat) + (List.map (renB (sh (0 : Nat))) [Blk.mk (51 : TypeId) (3 : Nat) (lnsC (linesI (11 : Int) s)) true]).length) [some (Blk.mk (51 : TypeId) (3 : Nat) (List.map (ren (sh (0 : Nat))) (lnsC (linesI (11 : Int) s))) true)])) (s.size ≤ (1000000 : Nat) ∧ ((0 : Int) ≤ (0 : Int) ∧ (0 : Int) < (↑(linesI (11 : Int) s).length : Int)) ∧ ∃ (z : Int), List.take (1 : Nat) (List.drop (1 : Nat) (List.map (ren (sh ((0 : Nat) + (List.map (renB (sh (0 : Nat))) [Blk.mk (51 : TypeId) (3 : Nat) (lnsC (linesI (11 : Int) s)) true]).length))) (lnsC (linesI (11 : Int) s)))) = [Value.int IntKind.i64 z] ∧ K (Value.bool (decide (z < (↑s.size : Int)))) (Heap.mk ((0 : Nat) + (List.map (renB (sh (0 : Nat))) [Blk.mk (51 : TypeId) (3 : Nat) (lnsC (linesI (11 : Int) s)) true]).length + (List.map (renB (sh ((0 : Nat) + (List.map (renB (sh (0 : Nat))) [Blk.mk (51 : TypeId) (3 : Nat) (lnsC (linesI (11 : Int) s)) true]).length))) [Blk.mk (51 : TypeId) (3 : Nat) (lnsC (linesI (11 : Int) s)) true]).length) [some (Blk.mk (51 : TypeId) (3 : Nat) (List.map (ren (sh (0 : Nat))) (lnsC (linesI (11 : Int) s))) true), some (Blk.mk (51 : TypeId) (3 : Nat) (List.map (ren (sh ((0 : Nat) + (List.map (renB (sh (0 : Nat))) [Blk.mk (51 : TypeId) (3 : Nat) (lnsC (linesI (11 : Int) s)) true]).length))) (lnsC (linesI (11 : Int) s))) true)]))))) (K (Value.bool false) (Heap.mk (0 : Nat) []))) ((wrS s).size + (ByteArray.mk #[(44 : UInt8)]).size ≤ (9223372036854775807 : Nat) ∧ (wrS s ++ ByteArray.mk #[(44 : UInt8)]).size + r.size ≤ (9223372036854775807 : Nat) ∧ ((wrS s ++ ByteArray.mk #[(44 : UInt8)] ++ r).size ≤ (1000000 : Nat) ∧ (-10000000 : Int) ≤ (0 : Int) ∧ (0 : Int) ≤ (10000000 : Int)) ∧ (ByteArray.mk #[(120 : UInt8)]).size + (wrS s).size ≤ (9223372036854775807 : Nat) ∧ ((ByteArray.mk #[(120 : UInt8)] ++ wrS s).size ≤ (1000000 : Nat) ∧ (-10000000 : Int) ≤ (1 : Int) ∧ (1 : Int) ≤ (10000000 : Int)) ∧ br (decide (sqC (sqI (11 : Int) (wrS s ++ ByteArray.mk #[(44 : UInt8)] ++ r) (0 : Int)) = (0 : Int))) (br (decide (sqC (sqI (12 : Int) (ByteArray.mk #[(120 : UInt8)] ++ wrS s) (1 : Int)) = (0 : Int))) (br (decide (strOf (sqT (sqI (11 : Int) (wrS s ++ ByteArray.mk #[(44 : UInt8)] ++ r) (0 : Int))) = s)) (br (decide (strOf (sqT (sqI (12 : Int) (ByteArray.mk #[(120 : UInt8)] ++ wrS s) (1 : Int))) = s)) (br (decide (sqE (sqI (11 : Int) (wrS s ++ ByteArray.mk #[(44 : UInt8)] ++ r) (0 : Int)) = (↑(wrS s).size : Int))) (rng IntKind.i64 ((1 : Int) + (↑(wrS s).size : Int)) ∧ K (Value.bool (decide (sqE (sqI (12 : Int) (ByteArray.mk #[(120 : UInt8)] ++ wrS s) (1 : Int)) = (1 : Int) + (↑(wrS s).size : Int)))) (Heap.mk (2 : Nat) [some (Blk.mk (30 : Nat) (2 : Nat) ([] ++ [Value.int IntKind.i64 (sqC (sqI (11 : Int) (wrS s ++ ByteArray.mk #[(44 : UInt8)] ++ r) (0 : Int))), Value.int IntKind.i64 (sqO (sqI (11 : Int) (wrS s ++ ByteArray.mk #[(44 : UInt8)] ++ r) (0 : Int)))] ++ []) true), some (Blk.mk (30 : Nat) (2 : Nat) ([] ++ [Value.int IntKind.i64 (sqC (sqI (12 : Int) (ByteArray.mk #[(120 : UInt8)] ++ wrS s) (1 : Int))), Value.int IntKind.i64 (sqO (sqI (12 : Int) (ByteArray.mk #[(120 : UInt8)] ++ wrS s) (1 : Int)))] ++ []) true)])) (K (Value.bool false) (Heap.mk (2 : Nat) [some (Blk.mk (30 : Nat) (2 : Nat) ([] ++ [Value.int IntKind.i64 (sqC (sqI (11 : Int) (wrS s ++ ByteArray.mk #[(44 : UInt8)] ++ r) (0 : Int))), Value.int IntKind.i64 (sqO (sqI (11 : Int) (wrS s ++ ByteArray.mk #[(44 : UInt8)] ++ r) (0 : Int)))] ++ []) true), some (Blk.mk (30 : Nat) (2 : Nat) ([] ++ [Value.int IntKind.i64 (sqC (sqI (12 : Int) (ByteArray.mk #[(120 : UInt8)] ++ wrS s) (1 : Int))), Value.int IntKind.i64 (sqO (sqI (12 : Int) (ByteArray.mk #[(120 : UInt8)] ++ wrS s) (1 : Int)))] ++ []) true)]))) (K (Value.bool false) (Heap.mk (2 : Nat) [some (Blk.mk (30 : Nat) (2 : Nat) ([] ++ [Value.int IntKind.i64 (sqC (sqI (11 : Int) (wrS s ++ ByteArray.mk #[(44 : UInt8)] ++ r) (0 : Int))), Value.int IntKind.i64 (sqO (sqI (11 : Int) (wrS s ++ ByteArray.mk #[(44 : UInt8)] ++ r) (0 : Int)))] ++ []) true), some (Blk.mk (30 : Nat) (2 : Nat) ([] ++ [Value.int IntKind.i64 (sqC (sqI (12 : Int) (ByteArray.mk #[(120 : UInt8)] ++ wrS s) (1 : Int))), Value.int IntKind.i64 (sqO (sqI (12 : Int) (ByteArray.mk #[(120 : UInt8)] ++ wrS s) (1 : Int)))] ++ []) true)]))) (K (Value.bool false) (Heap.mk (2 : Nat) [some (Blk.mk (30 : Nat) (2 : Nat) ([] ++ [Value.int IntKind.i64 (sqC (sqI (11 : Int) (wrS s ++ ByteArray.mk #[(44 : UInt8)] ++ r) (0 : Int))), Value.int IntKind.i64 (sqO (sqI (11 : Int) (wrS s ++ ByteArray.mk #[(44 : UInt8)] ++ r) (0 : Int)))] ++ []) true), some (Blk.mk (30 : Nat) (2 : Nat) ([] ++ [Value.int IntKind.i64 (sqC (sqI (12 : Int) (ByteArray.mk #[(120 : UInt8)] ++ wrS s) (1 : Int))), Value.int IntKind.i64 (sqO (sqI (12 : Int) (ByteArray.mk #[(120 : UInt8)] ++ wrS s) (1 : Int)))] ++ []) true)]))) (K (Value.bool false) (Heap.mk (2 : Nat) [some (Blk.mk (30 : Nat) (2 : Nat) ([] ++ [Value.int IntKind.i64 (sqC (sqI (11 : Int) (wrS s ++ ByteArray.mk #[(44 : UInt8)] ++ r) (0 : Int))), Value.int IntKind.i64 (sqO (sqI (11 : Int) (wrS s ++ ByteArray.mk #[(44 : UInt8)] ++ r) (0 : Int)))] ++ []) true), some (Blk.mk (30 : Nat) (2 : Nat) ([] ++ [Value.int IntKind.i64 (sqC (sqI (12 : Int) (ByteArray.mk #[(120 : UInt8)] ++ wrS s) (1 : Int))), Value.int IntKind.i64 (sqO (sqI (12 : Int) (ByteArray.mk #[(120 : UInt8)] ++ wrS s) (1 : Int)))] ++ []) true)]))) (K (Value.bool false) (Heap.mk (2 : Nat) [some (Blk.mk (30 : Nat) (2 : Nat) ([] ++ [Value.int IntKind.i64 (sqC (sqI (11 : Int) (wrS s ++ ByteArray.mk #[(44 : UInt8)] ++ r) (0 : Int))), Value.int IntKind.i64 (sqO (sqI (11 : Int) (wrS s ++ ByteArray.mk #[(44 : UInt8)] ++ r) (0 : Int)))] ++ []) true), some (Blk.mk (30 : Nat) (2 : Nat) ([] ++ [Value.int IntKind.i64 (sqC (sqI (12 : Int) (ByteArray.mk #[(120 : UInt8)] ++ wrS s) (1 : Int))), Value.int IntKind.i64 (sqO (sqI (12 : Int) (ByteArray.mk #[(120 : UInt8)] ++ wrS s) (1 : Int)))] ++ []) true)])))))) := by kernel_rfl
theorem targumlaw18_SquoteBack.law (s r : ByteArray) : ACalls Tryd.prog targumlaw18_SquoteBack.n [.string s, .string r] (lit ([])) (fun v _ => v = .bool true) := by
  refine acalls_mk TB8_ok targumlaw18_SquoteBack.ok (LS := lt0) (by simp only [targumlaw18_SquoteBack.m, LOk, and_true, true_and]) (Nat.le_of_ble_eq_true rfl) (Eq.mpr (targumlaw18_SquoteBack.t s r _) ?_)
  refine ⟨by omega, br_intro (fun _ => rfl) (fun hf => ⟨by omega, br_intro (fun _ => rfl) (fun hg => ?_)⟩)⟩
  have hfew : fewI s 200 = true := by simpa using hf
  have hs : s.size ≤ 200 := by have := few_le hfew; omega
  have hr : r.size ≤ 50 := by have := few_le (by simpa using hg : fewI r 50 = true); omega
  have hchk : decide (chkI s < 0) = true := by unfold fewI at hfew; simp only [Bool.and_eq_true] at hfew; exact hfew.2
  have hw : wrOk s = ((!blankI s 0 && !blankI s (s.size - 1)) && noB s s.size 0) := by unfold wrOk; rw [trim_blankI, hchk]; rfl
  refine ⟨by omega, br_intro (fun ho => ?_) (fun ho => ?_)⟩
  · simp only [Bool.not_eq_true'] at ho
    refine br_intro (fun _ => br_intro (fun _ => rfl) (fun h1 => ⟨by simp only [rng]; omega, br_intro (fun _ => rfl) (fun h2 => ⟨by omega, br_intro (fun _ => rfl) (fun h3 => ?_)⟩)⟩)) (fun he => ?_)
    · rw [hw, h1, h2] at ho
      obtain ⟨x, q, h4, h5⟩ := lines_break (s := s) (by simpa using ho)
      refine ⟨by omega, ⟨by omega, by rw [h4, List.length_cons]; omega⟩, x.e, ?_, congrArg Value.bool (decide_eq_true h5)⟩
      rw [map_ren_flat (lnsC_flat _), h4]
      rfl
    · unfold wrS at he
      rw [ho] at he
      exact absurd (he.symm.trans (decide_eq_true rfl)) (by decide)
  · simp only [Bool.not_eq_false'] at ho
    have hdl := dbl_len (lst s)
    rw [lst_len] at hdl
    have ew : wrS s = strOf (39 :: (dbl (lst s) ++ [39])) := by unfold wrS wrL; rw [ho, replaceAll_dbl]; rfl
    have hn : noB s s.size 0 = true := by rw [hw] at ho; simp only [Bool.and_eq_true] at ho; exact ho.2
    have e1 : wrS s ++ ByteArray.mk #[(44 : UInt8)] ++ r = strOf (39 :: (dbl (lst s) ++ 39 :: (44 :: lst r))) := by
      rw [ew, show ByteArray.mk #[(44 : UInt8)] = strOf [44] from rfl, strOf_app, ← strOf_lst r, strOf_app, lst_strOf]; simp
    have e2 : ByteArray.mk #[(120 : UInt8)] ++ wrS s = strOf (120 :: (39 :: (dbl (lst s) ++ 39 :: []))) := by rw [mk_app, ew, lst_strOf]
    have s1 := sq_back (v := 11) (x := strOf (39 :: (dbl (lst s) ++ 39 :: (44 :: lst r)))) (i := 0) (r := 44 :: lst r) hn (by simp) (Sat.start _)
    have s2 := sq_back (v := 12) (x := strOf (120 :: (39 :: (dbl (lst s) ++ 39 :: [])))) (i := 1) (r := []) hn (by simp) (Sat.start _).step
    rw [e1, e2, s1, s2]
    have zw : (wrS s).size = (dbl (lst s)).length + 2 := by rw [ew, strOf_size]; simp
    have zr : (lst r).length = r.size := Array.length_toList
    have z44 : (wrS s ++ ByteArray.mk #[(44 : UInt8)]).size = (dbl (lst s)).length + 3 := by rw [ByteArray.size_append, zw]; rfl
    have zz : (strOf (39 :: (dbl (lst s) ++ 39 :: (44 :: lst r)))).size ≤ 1000 := by rw [strOf_size]; simp only [List.length_cons, List.length_append]; omega
    have zy : (strOf (120 :: (39 :: (dbl (lst s) ++ 39 :: [])))).size ≤ 1000 := by rw [strOf_size]; simp only [List.length_cons, List.length_append, List.length_nil]; omega
    have z1 : ∀ c : UInt8, (ByteArray.mk #[c]).size = 1 := fun _ => rfl
    have es : decide (strOf (lst s) = s) = true := decide_eq_true (strOf_lst s)
    rw [z1, z1, zw, z44]
    refine ⟨by omega, by omega, ⟨by omega, by omega, by omega⟩, by omega, ⟨by omega, by omega, by omega⟩, ?_⟩
    refine br_intro (fun _ => br_intro (fun _ => br_intro (fun _ => br_intro (fun _ => br_intro (fun _ => ⟨by simp only [rng]; omega, congrArg Value.bool (decide_eq_true ?_)⟩) (fun h => ?_)) (fun h => ?_)) (fun h => ?_)) (fun h => ?_)) (fun h => ?_)
    · show (1 : Int) + _ + 2 = _; omega
    · exfalso; simp only [decide_eq_false_iff_not] at h; exact h (by show (0 : Int) + _ + 2 = _; omega)
    · exact absurd (h.symm.trans es) (by decide)
    · exact absurd (h.symm.trans es) (by decide)
    · exact absurd (h.symm.trans (decide_eq_true rfl)) (by decide)
    · exact absurd (h.symm.trans (decide_eq_true rfl)) (by decide)

end Go.Mini
