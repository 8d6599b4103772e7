/- What the code reads in single quotes is what the reference reads; what the reference writes. Conditions: sizes. -/
import Derived.Test.YthllhoodbfnlaaaDoorSq3
import Derived.Test.YthllhoodbfnlaaaDoorSg1
import Derived.Test.YthllhoodbfnlaaaDoorSat0
namespace Go.Mini
open Go Go.RowKit Go.Proofs
set_option maxRecDepth 100000
set_option linter.unusedVariables false
set_option linter.unusedSimpArgs false

theorem brkI_out {v : Int} {s : ByteArray} {i : Int} (h : s.size ≤ i) : brkI v s i = 0 := by
  unfold brkI
  rw [if_pos (by omega), drop_ge (by omega)]
  rfl
theorem overI_not (s : ByteArray) : ∀ (n : Nat) (i : Int), s.size - i ≤ n → blankI s (overI s i) = false
  | 0, i, h => by
    have hb : blankI s i = false := by
      rw [Bool.eq_false_iff]; intro e; have := blankI_lt e; omega
    rw [overI_false hb]; exact hb
  | n + 1, i, h => by
    cases hb : blankI s i with
    | false => rw [overI_false hb]; exact hb
    | true => rw [← overI_true hb]; exact overI_not s n (i + 1) (by omega)
theorem overI_nb (s : ByteArray) (i : Int) : blankI s (overI s i) = false := overI_not s (s.size - i).toNat i (by omega)
theorem rowF_fuel (v : Int) (s : ByteArray) : ∀ (k k' : Nat) (i n : Int), s.size - i < k → s.size - i < k' → rowF v s k i n = rowF v s k' i n
  | 0, 0, i, n, h, h' => rfl
  | 0, k' + 1, i, n, h, h' => by rw [rowF, rowF, if_pos (by omega)]
  | k + 1, 0, i, n, h, h' => by rw [rowF, rowF, if_pos (by omega)]
  | k + 1, k' + 1, i, n, h, h' => by
    rw [rowF, rowF]
    have hn := brkI_nn v s i
    split
    · rfl
    · split
      · exact rowF_fuel v s k k' (i + 1) n (by omega) (by omega)
      · split
        · rfl
        · split
          · rfl
          · exact rowF_fuel v s k k' _ (n + 1) (by omega) (by omega)
theorem rowF_over (v : Int) (s : ByteArray) : ∀ (k : Nat) (i n : Int), s.size - i < k → rowF v s k i n = rowF v s k (overI s i) n
  | 0, i, n, h => by
    have := overI_ge s i
    have hb : blankI s i = false := by
      rw [Bool.eq_false_iff]; intro e; have := blankI_lt e; omega
    rw [overI_false hb]
  | k + 1, i, n, h => by
    cases hb : blankI s i with
    | false => rw [overI_false hb]
    | true =>
      have := blankI_lt hb
      have := overI_ge s (i + 1)
      rw [rowF, if_neg (by omega), if_pos hb, rowF_over v s k (i + 1) n (by omega), overI_true hb]
      rw [overI_true hb] at this
      exact rowF_fuel v s k (k + 1) _ n (by omega) (by omega)
theorem row_fold (v : Int) (s : ByteArray) : ∀ (k : Nat) (i n : Int), s.size - i < k → blankI s i = false → rowF v s k i n = foldF v s k i n
  | 0, i, n, h, hb => rfl
  | k + 1, i, n, h, hb => by
    have hn := brkI_nn v s i
    rw [rowF, foldF]
    by_cases h1 : s.size ≤ i
    · rw [if_pos h1, if_pos (by rw [brkI_out h1]; omega)]
    · rw [if_neg h1, if_neg (by rw [hb]; decide)]
      by_cases h2 : brkI v s i = 0
      · rw [if_pos h2, if_pos (by omega)]
      · rw [if_neg h2, if_neg (show ¬ brkI v s i ≤ 0 by omega)]
        have h3 := overI_ge s (i + brkI v s i)
        rw [rowF_over v s k _ _ (by omega), row_fold v s k _ _ (by omega) (overI_nb ..)]
theorem rowI_fold (v : Int) (s : ByteArray) {i : Int} (h0 : 0 ≤ i) : rowI v s i = foldI v s (overI s i) := by
  have := overI_ge s i
  unfold rowI foldI
  rw [rowF_over v s _ _ _ (by omega), row_fold v s _ _ _ (by omega) (overI_nb ..)]
theorem foldI_pos {v : Int} {s : ByteArray} {e : Int} (h0 : 0 ≤ e) (h1 : e ≤ s.size) (hb : 0 < brkI v s e) (hn : ¬ (foldI v s e).1 < 0) : 1 ≤ (foldI v s e).1 := by
  unfold foldI at hn ⊢
  rw [foldF, if_neg (by omega)] at hn ⊢
  have hl := brkI_len v h0 h1
  split at hn
  · exact absurd (show (-1 : Int) < 0 by decide) hn
  · rename_i hm
    rw [if_neg hm]
    have := foldF_ok v s s.size (overI s (e + brkI v s e)) (0 + 1) (by have := overI_ge s (e + brkI v s e); omega) (overI_le _ _ hl) (by omega)
    omega
theorem byteAt_take (s : ByteArray) {a : Int} (h0 : 0 ≤ a) (h1 : a < s.size) : bytesI s a (a + 1) = [byteAt s a.toNat] := by
  unfold bytesI
  rw [drop_lt (by omega), show (a + 1 - a).toNat = 1 from by omega]
  rfl
theorem sg_sq (v : Int) (s : ByteArray) (i : Int) : ∀ (k : Nat) (a : Int) (l : List UInt8), 0 ≤ a → sgN v s i k a l = sqN v s i k a l
  | 0, a, l, h0 => rfl
  | k + 1, a, l, h0 => by
    have ho := overI_ge s a
    rw [sgN, sqN]
    by_cases h1 : s.size ≤ a
    · rw [if_pos h1, if_pos h1]
    have ho2 := overI_le s a (by omega)
    rw [if_neg h1, if_neg h1]
    by_cases h2 : byteAt s a.toNat = 39 ∧ byteAt s (a + 1).toNat = 39
    · rw [if_pos h2, if_pos h2]; exact sg_sq v s i k _ _ (by omega)
    rw [if_neg h2, if_neg h2]
    by_cases h3 : byteAt s a.toNat = 39
    · rw [if_pos h3, if_pos h3]
    rw [if_neg h3, if_neg h3, rowI_fold v s h0]
    by_cases h4 : 0 < brkI v s (overI s a)
    · have h5 : blankI s a = true ∨ 0 < brkI v s a := by
        cases hb : blankI s a with
        | true => exact .inl rfl
        | false => rw [overI_false hb] at h4; exact .inr h4
      rw [if_pos h5, if_pos h4]
      split
      · rfl
      · rename_i h6
        have h7 := foldI_pos (by omega) ho2 h4 h6
        have h8 := (foldI_ok v (s := s) (i := overI s a) (by omega) ho2).1
        unfold foldK
        rw [if_neg (by omega)]
        exact sg_sq v s i k _ _ (by omega)
    · rw [if_neg h4]
      have hn := brkI_nn v s (overI s a)
      have hf : foldI v s (overI s a) = (0, overI s a) := by unfold foldI; rw [foldF, if_pos (by omega)]
      cases hb : blankI s a with
      | true =>
        have := overI_ge s (a + 1)
        rw [overI_true hb] at this
        rw [if_pos (.inl rfl), hf]
        dsimp only
        rw [if_neg (by omega), Int.max_eq_left this]
        unfold foldK
        rw [if_pos rfl]
        exact sg_sq v s i k _ _ (by omega)
      | false =>
        rw [overI_false hb] at h4 ⊢
        rw [if_neg (by rintro (h | h); exact absurd h (by decide); exact h4 h), Int.max_eq_right (by omega), byteAt_take s h0 (by omega)]
        exact sg_sq v s i k _ _ (by omega)
theorem sgI_sqI (v : Int) (s : ByteArray) (i : Int) : sgI v s i = sqI v s i := by
  unfold sgI sqI
  split
  · rfl
  · rename_i h
    exact sg_sq v s i _ _ _ (by omega)

/-! ### Written -/
def dbl : List UInt8 → List UInt8
  | [] => []
  | c :: l => if c = 39 then 39 :: 39 :: dbl l else c :: dbl l
theorem dbl_len : ∀ l : List UInt8, (dbl l).length ≤ 2 * l.length
  | [] => Nat.le_refl _
  | c :: l => by have := dbl_len l; unfold dbl; split <;> simp only [List.length_cons] <;> omega
theorem rk : ∀ (l : List UInt8) (k : Nat), l.count 39 ≤ k → Lib.replaceK [39] [39, 39] k l = dbl l
  | [], 0, _ => rfl
  | [], k + 1, _ => rfl
  | c :: l, k, h => by
    rw [List.count_cons] at h
    by_cases hc : c = 39
    · subst hc
      simp only [beq_self_eq_true, if_true] at h
      obtain ⟨k, rfl⟩ : ∃ k', k = k' + 1 := ⟨k - 1, by omega⟩
      rw [Lib.replaceK_hit _ _ _ _ 0 rfl, dbl, if_pos rfl]
      show 39 :: 39 :: Lib.replaceK [39] [39, 39] k l = _
      rw [rk l k (by omega)]
    · have hb : (c == 39) = false := by simpa using hc
      rw [hb] at h
      have ih := rk l k (by simpa using h)
      rw [dbl, if_neg hc]
      cases k with
      | zero => rw [Lib.replaceK] at ih ⊢; rw [← ih]
      | succ k =>
        have hi : Lib.index (c :: l) [39] = if Lib.index l [39] == -1 then -1 else Lib.index l [39] + 1 := by
          rw [Lib.index, if_neg]
          simp only [List.isPrefixOf, Bool.and_true, beq_iff_eq]
          exact fun e => hc e.symm
        have hge := Lib.index_ge l [39]
        rw [Lib.replaceK] at ih ⊢
        rw [hi]
        by_cases hm : (Lib.index l [39] == -1) = true
        · rw [if_pos hm] at ih ⊢; rw [if_pos (show ((-1 : Int) == -1) = true from rfl), ← ih]
        · have hm' : Lib.index l [39] ≠ -1 := fun e => hm (beq_iff_eq.2 e)
          rw [if_neg hm] at ih ⊢
          rw [if_neg (by rw [beq_iff_eq]; omega), ← ih, show (Lib.index l [39] + 1).toNat = (Lib.index l [39]).toNat + 1 from by omega]
          rfl
theorem replaceAll_dbl (l : List UInt8) : Lib.replaceAll l [39] [39, 39] = dbl l := by
  unfold Lib.replaceAll Lib.replace
  rw [if_neg (by decide)]
  refine rk l _ ?_
  unfold Lib.replaceNum
  rw [if_pos (.inl (by decide)), Lib.count_one]
  exact Nat.le_refl _
theorem dw_id (p : UInt8 → Bool) (l : List UInt8) : l.dropWhile p = l ↔ ∀ c t, l = c :: t → p c = false := by
  cases l with
  | nil => simp
  | cons c l =>
    cases h : p c with
    | true =>
      rw [List.dropWhile_cons_of_pos h]
      constructor
      · intro e
        have h1 := (List.dropWhile_suffix p (l := l)).length_le
        rw [e] at h1
        simp only [List.length_cons] at h1
        omega
      · intro hh; rw [hh c l rfl] at h; cases h
    | false =>
      rw [List.dropWhile_cons_of_neg (by rw [h]; decide)]
      exact ⟨fun _ d t e => by cases e; exact h, fun _ => rfl⟩
theorem trim_id (l : List UInt8) : Lib.trimS l [32, 9] = l ↔ (∀ c t, l = c :: t → isBl c = false) ∧ (∀ c t, l.reverse = c :: t → isBl c = false) := by
  have hp : (fun x => ([32, 9] : List UInt8).contains x) = isBl := funext isBl_set
  unfold Lib.trimS Lib.trimLeftS Lib.trimRightS
  rw [hp, ← dw_id isBl l, ← dw_id isBl l.reverse]
  constructor
  · intro h
    have h1 := (List.dropWhile_suffix isBl (l := (List.dropWhile isBl l.reverse).reverse)).length_le
    have h2 := List.dropWhile_suffix isBl (l := l.reverse)
    rw [h] at h1
    rw [List.length_reverse] at h1
    have h3 := h2.length_le
    rw [List.length_reverse] at h3
    have h4 : List.dropWhile isBl l.reverse = l.reverse := h2.eq_of_length (by rw [List.length_reverse]; omega)
    rw [h4, List.reverse_reverse] at h
    exact ⟨h, h4⟩
  · rintro ⟨h1, h2⟩
    rw [h2, List.reverse_reverse, h1]
theorem byteAt_lst (s : ByteArray) (j : Nat) : byteAt s j = (lst s).getD j 0 := rfl
theorem trim_blankI (s : ByteArray) : decide (strOf (Lib.trimS (lst s) [32, 9]) = s) = (!blankI s 0 && !blankI s (s.size - 1)) := by
  have e : strOf (Lib.trimS (lst s) [32, 9]) = s ↔ Lib.trimS (lst s) [32, 9] = lst s := by
    constructor
    · intro h
      have := congrArg lst h
      rwa [lst_strOf] at this
    · intro h; rw [h]; exact strOf_lst s
  rw [Bool.eq_iff_iff, decide_eq_true_eq, e, trim_id]
  simp only [Bool.and_eq_true, Bool.not_eq_true']
  have hl : (lst s).length = s.size := Array.length_toList
  have h1 : blankI s 0 = false ↔ ∀ c t, lst s = c :: t → isBl c = false := by
    unfold blankI
    rw [show (0 : Int).toNat = 0 from rfl, byteAt_lst]
    cases hs : lst s with
    | nil => exact ⟨fun _ c t e => (by cases e), fun _ => rfl⟩
    | cons d u => exact ⟨fun h c t e => (by cases e; exact h), fun h => h d u rfl⟩
  have h2 : blankI s (s.size - 1) = false ↔ ∀ c t, (lst s).reverse = c :: t → isBl c = false := by
    unfold blankI
    rw [byteAt_lst]
    rcases List.eq_nil_or_concat (lst s) with hs | ⟨u, d, hs⟩ <;> try rw [List.concat_eq_append] at hs
    · rw [hs] at hl
      have : s.size = 0 := hl.symm
      rw [hs, this]
      exact ⟨fun _ c t e => (by simp at e), fun _ => rfl⟩
    · have hd : (lst s).getD ((s.size : Int) - 1).toNat 0 = d := by
        rw [hs, List.length_append, List.length_singleton] at hl
        rw [hs, show ((s.size : Int) - 1).toNat = u.length from by omega, List.getD_eq_getElem?_getD, List.getElem?_append_right (Nat.le_refl _), Nat.sub_self]
        rfl
      rw [hd, hs, List.reverse_append]
      have hz : 0 ≤ (s.size : Int) - 1 := by rw [hs, List.length_append, List.length_singleton] at hl; omega
      rw [decide_eq_true hz, Bool.true_and]
      exact ⟨fun h c t e => (by simp only [List.reverse_singleton, List.singleton_append, List.cons.injEq] at e; rw [← e.1]; exact h), fun h => h d _ rfl⟩
  rw [h1, h2]

def GE : CT := (extC (extC (extC SY targumref1_IsBlank.n targumref1_IsBlank.s) targumref1_Break.n targumref1_Break.s) targumref1_Check.n targumref1_Check.s)
theorem GE_ok : COk Tryd.prog GE := (extC_ok (extC_ok (extC_ok SY_ok targumref1_IsBlank.sc targumref1_IsBlank.sd) targumref1_Break.sc targumref1_Break.sd) targumref1_Check.sc targumref1_Check.sd)
theorem GE_mono : CMono GE := (extC_mono (extC_mono (extC_mono SY_mono targumref1_IsBlank.sm) targumref1_Break.sm) targumref1_Check.sm)
def targumref17_Write.sp0 : LSpec := ⟨targumref17_Write.cs0, targumref17_Write.ts0, fun vs h K => ∃ (s q : ByteArray) (r : Bool) (o : List UInt8) (j : Int) (k : Nat), (vs = [.string s, .string q, .bool r, .string (strOf o), .int .i64 j] ∧ (s.size ≤ 1000000 ∧ 0 ≤ j ∧ j + k = s.size ∧ o.length ≤ 2 * j + 1)) ∧ ((noB s k j = false → ∀ (x : Int) (y : ByteArray), K .ret [.string s, .string ⟨#[]⟩, .bool false, .string y, .int .i64 x] h) ∧ (noB s k j = true → ∀ x : Int, K (.exit 0) [.string s, .string q, .bool r, .string (strOf (o ++ dbl ((lst s).drop j.toNat))), .int .i64 x] h))⟩
theorem targumref17_Write.spm0 : LSpecMono targumref17_Write.sp0 := by
  rintro vs h K K' hk ⟨s, q, r, o, j, k, h3, h4⟩
  exact ⟨s, q, r, o, j, k, h3, ⟨fun e x y => hk _ _ _ (h4.1 e x y), fun e x => hk _ _ _ (h4.2 e x)⟩⟩
theorem targumref17_Write.t0 (s q : ByteArray) (r : Bool) (o : List UInt8) (j : Int) (k : Nat) (h : Heap) (E : Env) (N : List Value → Heap → Prop) (K : LK) : mwp GE (lt0) targumref17_Write.l0 (lK targumref17_Write.cs0 N K) (zipE targumref17_Write.cs0 [.string s, .string q, .bool r, .string (strOf o), .int .i64 j] ++ E) h = (br (decide (j < (↑s.size : Int))) (s.size ≤ (1000000 : Nat) ∧ br (decide ((0 : Int) < brkI (11 : Int) s j)) (K Exit.ret [Value.string s, Value.string (ByteArray.mk #[]), Value.bool false, Value.string (strOf o), Value.int IntKind.i64 j] h) (((0 : Int) ≤ j ∧ j < (↑s.size : Int)) ∧ br (decide ((↑(byteAt s j.toNat).toNat : Int) = (39 : Int))) ((strOf o).size + (ByteArray.mk #[(39 : UInt8)]).size ≤ (9223372036854775807 : Nat) ∧ rng IntKind.i64 (j + (1 : Int)) ∧ ((0 : Int) ≤ j ∧ j ≤ j + (1 : Int) ∧ j + (1 : Int) ≤ (↑s.size : Int)) ∧ (strOf o ++ ByteArray.mk #[(39 : UInt8)]).size + (s.extract j.toNat (j + (1 : Int)).toNat).size ≤ (9223372036854775807 : Nat) ∧ rng IntKind.i64 (j + (1 : Int)) ∧ N [Value.string s, Value.string q, Value.bool r, Value.string (strOf o ++ ByteArray.mk #[(39 : UInt8)] ++ s.extract j.toNat (j + (1 : Int)).toNat), Value.int IntKind.i64 (j + (1 : Int))] h) (rng IntKind.i64 (j + (1 : Int)) ∧ ((0 : Int) ≤ j ∧ j ≤ j + (1 : Int) ∧ j + (1 : Int) ≤ (↑s.size : Int)) ∧ (strOf o).size + (s.extract j.toNat (j + (1 : Int)).toNat).size ≤ (9223372036854775807 : Nat) ∧ rng IntKind.i64 (j + (1 : Int)) ∧ N [Value.string s, Value.string q, Value.bool r, Value.string (strOf o ++ s.extract j.toNat (j + (1 : Int)).toNat), Value.int IntKind.i64 (j + (1 : Int))] h))) (K (Exit.exit (0 : Nat)) [Value.string s, Value.string q, Value.bool r, Value.string (strOf o), Value.int IntKind.i64 j] h)) := by kernel_rfl
theorem targumref17_Write.lo0 : LOk1 Tryd.prog targumref17_Write.nt targumref17_Write.sp0 (.loop 0 targumref17_Write.l0) := by
  refine loop_res (σ := ByteArray × ByteArray × Bool × (List UInt8) × Int × Nat) GE_ok GE_mono (lt0_mono) (LS := lt0) (by simp only [targumref17_Write.l0, LOk, and_true, true_and]) rfl rfl (fun ⟨s, q, r, o, j, k⟩ => [.string s, .string q, .bool r, .string (strOf o), .int .i64 j]) (fun ⟨s, q, r, o, j, k⟩ h => s.size ≤ 1000000 ∧ 0 ≤ j ∧ j + k = s.size ∧ o.length ≤ 2 * j + 1) (fun ⟨s, q, r, o, j, k⟩ => k) (fun ⟨s, q, r, o, j, k⟩ K h => (noB s k j = false → ∀ (x : Int) (y : ByteArray), K .ret [.string s, .string ⟨#[]⟩, .bool false, .string y, .int .i64 x] h) ∧ (noB s k j = true → ∀ x : Int, K (.exit 0) [.string s, .string q, .bool r, .string (strOf (o ++ dbl ((lst s).drop j.toNat))), .int .i64 x] h)) ?_ ?_
  · rintro vs h K ⟨s, q, r, o, j, k, ⟨h1, h2⟩, h3⟩
    exact ⟨⟨s, q, r, o, j, k⟩, h1, h2, h3⟩
  rintro ⟨s, q, r, o, j, k⟩ E h N K hE hp hN hK
  dsimp only at hp hN hK
  refine Eq.mpr (targumref17_Write.t0 s q r o j k h E N K) ?_
  obtain ⟨h1, h2, h3, h4⟩ := hp
  refine br_intro (fun hb => ?_) (fun hb => ?_)
  · simp only [decide_eq_true_eq] at hb
    obtain ⟨k, rfl⟩ : ∃ k', k = k' + 1 := ⟨k - 1, by omega⟩
    rw [noB] at hK
    refine ⟨h1, br_intro (fun hc => ?_) (fun hc => ?_)⟩
    · simp only [decide_eq_true_eq] at hc
      rw [if_pos hc] at hK
      exact hK.1 rfl _ _
    · simp only [decide_eq_false_iff_not] at hc
      rw [if_neg hc, drop_lt (by omega), dbl] at hK
      have e1 : s.extract j.toNat (j + 1).toNat = strOf [byteAt s j.toNat] := by
        rw [← byteAt_take s h2 hb, ← bytesI_ext s h2 (by omega)]
        exact (strOf_lst _).symm
      have z1 : (ByteArray.mk #[(39 : UInt8)]).size = 1 := rfl
      rw [e1, mk1', strOf_app', strOf_app', strOf_app', strOf_size, strOf_size, strOf_size, strOf_size]
      simp only [List.length_append, List.length_singleton]
      refine ⟨⟨by omega, by omega⟩, br_intro (fun hd => ?_) (fun hd => ?_)⟩
      · simp only [decide_eq_true_eq] at hd
        have h39 : byteAt s j.toNat = 39 := UInt8.toNat_inj.1 (by show (byteAt s j.toNat).toNat = 39; omega)
        rw [if_pos h39] at hK
        refine ⟨by omega, by simp only [rng]; omega, ⟨by omega, by omega, by omega⟩, by omega, by simp only [rng]; omega, ?_⟩
        rw [h39]
        refine hN (s, q, r, o ++ [39] ++ [39], j + 1, k) h ⟨h1, by dsimp only; omega, by dsimp only; omega, by simp only [List.length_append, List.length_singleton]; omega⟩ (by dsimp only; omega) ?_
        dsimp only
        rw [show (j + 1).toNat = j.toNat + 1 from by omega, List.append_assoc, List.append_assoc]
        exact hK
      · have h39 : ¬ byteAt s j.toNat = 39 := fun e => by rw [e] at hd; exact absurd hd (by decide)
        rw [if_neg h39] at hK
        refine ⟨by simp only [rng]; omega, ⟨by omega, by omega, by omega⟩, by omega, by simp only [rng]; omega, ?_⟩
        refine hN (s, q, r, o ++ [byteAt s j.toNat], j + 1, k) h ⟨h1, by dsimp only; omega, by dsimp only; omega, by simp only [List.length_append, List.length_singleton]; omega⟩ (by dsimp only; omega) ?_
        dsimp only
        rw [show (j + 1).toNat = j.toNat + 1 from by omega, List.append_assoc]
        exact hK
  · simp only [decide_eq_false_iff_not] at hb
    obtain rfl : k = 0 := by omega
    rw [drop_ge (by omega), dbl, List.append_nil] at hK
    exact hK.2 rfl _

def targumref17_Write.LS : LT := (extL lt0 0 targumref17_Write.sp0)
theorem targumref17_Write.LS_mono : LMono targumref17_Write.LS := (extL_mono lt0_mono targumref17_Write.spm0)
def targumref17_Write.s : List Value → Heap → VK → Prop
  | [.string s], h, K => (s.size ≤ 1000000) ∧ K (.tuple #[.string (wrS s), .bool (wrOk s)]) h
  | _, _, _ => False
theorem targumref17_Write.t (s : ByteArray) (h : Heap) (K : VK) : mwp GE (targumref17_Write.LS) targumref17_Write.m (retK [.t 2, .t 3] K) (argE 0 [.string s]) h = (s.size ≤ (1000000 : Nat) ∧ br (decide ((0 : Int) ≤ chkI s)) (K (Value.tuple #[Value.string (ByteArray.mk #[]), Value.bool false]) h) (br (blankI s (0 : Int)) (K (Value.tuple #[Value.string (ByteArray.mk #[]), Value.bool false]) h) (rng IntKind.i64 ((↑s.size : Int) - (1 : Int)) ∧ br (blankI s ((↑s.size : Int) - (1 : Int))) (K (Value.tuple #[Value.string (ByteArray.mk #[]), Value.bool false]) h) (∃ (s_1 : ByteArray), ∃ (q : ByteArray), ∃ (r : Bool), ∃ (o : List UInt8), ∃ (j : Int), ∃ (k : Nat), ([Value.string s, Value.string (ByteArray.mk #[]), Value.bool false, Value.string (ByteArray.mk #[(39 : UInt8)]), Value.int IntKind.i64 (0 : Int)] = [Value.string s_1, Value.string q, Value.bool r, Value.string (strOf o), Value.int IntKind.i64 j] ∧ s_1.size ≤ (1000000 : Nat) ∧ (0 : Int) ≤ j ∧ j + (↑k : Int) = (↑s_1.size : Int) ∧ (↑o.length : Int) ≤ (2 : Int) * j + (1 : Int)) ∧ (noB s_1 k j = false → ∀ (x : Int) (y : ByteArray), K (Value.tuple #[Value.string (ByteArray.mk #[]), Value.bool false]) h) ∧ (noB s_1 k j = true → ∀ (x : Int), (strOf (o ++ dbl (List.drop j.toNat (lst s_1)))).size + (ByteArray.mk #[(39 : UInt8)]).size ≤ (9223372036854775807 : Nat) ∧ K (Value.tuple #[Value.string (strOf (o ++ dbl (List.drop j.toNat (lst s_1))) ++ ByteArray.mk #[(39 : UInt8)]), Value.bool true]) h))))) := by kernel_rfl
theorem targumref17_Write.c (s : ByteArray) (h : Heap) (K : VK) (hp : s.size ≤ 1000000) (hh : K (.tuple #[.string (wrS s), .bool (wrOk s)]) h) : ACalls Tryd.prog targumref17_Write.n [.string s] h K := by
  refine acalls_mk GE_ok targumref17_Write.ok (LS := targumref17_Write.LS) (by simp only [targumref17_Write.m, LOk, and_true, true_and]; (repeat' apply And.intro) <;> first | trivial | exact targumref17_Write.lo0) (Nat.le_of_ble_eq_true rfl) (Eq.mpr (targumref17_Write.t s h K) ?_)
  have hno : wrOk s = false → K (.tuple #[.string ⟨#[]⟩, .bool false]) h := fun e => by
    unfold wrS at hh; rw [e] at hh; exact hh
  have hw : wrOk s = (decide (chkI s < 0) && ((!blankI s 0 && !blankI s (s.size - 1)) && noB s s.size 0)) := by unfold wrOk; rw [trim_blankI]
  refine ⟨hp, br_intro (fun hb => ?_) (fun hb => br_intro (fun hc => ?_) (fun hc => ⟨by simp only [rng]; omega, br_intro (fun hd => ?_) (fun hd => ?_)⟩))⟩
  · simp only [decide_eq_true_eq] at hb
    exact hno (by rw [hw, decide_eq_false (by omega)]; rfl)
  · exact hno (by rw [hw, hc]; simp)
  · exact hno (by rw [hw, hd]; simp)
  · simp only [decide_eq_false_iff_not] at hb
    rw [mk1']
    refine ⟨s, _, _, [39], 0, s.size, ⟨rfl, hp, by omega, by omega, by simp⟩, fun e x y => hno (by rw [hw, e]; simp), fun e x => ?_⟩
    have hdl := dbl_len (lst s)
    rw [lst_len] at hdl
    have ok : wrOk s = true := by rw [hw, hc, hd, e, decide_eq_true (by omega)]; rfl
    unfold wrS wrL at hh
    rw [ok, replaceAll_dbl] at hh
    rw [strOf_app', strOf_size, strOf_size]
    refine ⟨?_, hh⟩
    simp only [List.length_append, List.length_singleton, Int.toNat_zero, List.drop_zero]
    omega
theorem targumref17_Write.sc : ∀ vs h K, targumref17_Write.s vs h K → ACalls Tryd.prog targumref17_Write.n vs h K := by
  intro vs h K hh; unfold targumref17_Write.s at hh; split at hh
  · exact targumref17_Write.c _ _ _ hh.1 hh.2
  · exact hh.elim
theorem targumref17_Write.sm : SpecMono targumref17_Write.s := by
  intro vs h K K' hk hh; unfold targumref17_Write.s at hh ⊢; split at hh
  · exact ⟨hh.1, hk _ _ hh.2⟩
  · exact hh.elim
theorem targumref17_Write.sd : SpecDet targumref17_Write.s := by
  intro vs h K hh; unfold targumref17_Write.s at hh; split at hh
  · exact ⟨_, hh.2, hh.1, rfl⟩
  · exact hh.elim

end Go.Mini
