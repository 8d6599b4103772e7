/- SquoteDouble: for every input the answer is true. No condition. -/
import Derived.Test.YthllhoodbfnlaaaDoorL18a
import Derived.Test.YthllhoodbfnlaaaDoorDq2
import Derived.Test.YthllhoodbfnlaaaDoorTxt
namespace Go.Mini
open Go Go.RowKit Go.Proofs
set_option maxRecDepth 100000
set_option linter.unusedVariables false
set_option linter.unusedSimpArgs false

def TE8 : CT := (extC (extC (extC (extC (extC DB squote_Read.n squote_Read.s) targumref17_Double.n targumref17_Double.s) targumhelp_Few.n targumhelp_Few.s) targumhelp_Version.n targumhelp_Version.s) targumlaw18_known.n targumlaw18_known.s)
theorem TE8_ok : COk Tryd.prog TE8 := (extC_ok (extC_ok (extC_ok (extC_ok (extC_ok DB_ok squote_Read.sc squote_Read.sd) targumref17_Double.sc targumref17_Double.sd) targumhelp_Few.sc targumhelp_Few.sd) targumhelp_Version.sc targumhelp_Version.sd) targumlaw18_known.sc targumlaw18_known.sd)
theorem TE8_mono : CMono TE8 := (extC_mono (extC_mono (extC_mono (extC_mono (extC_mono DB_mono squote_Read.sm) targumref17_Double.sm) targumhelp_Few.sm) targumhelp_Version.sm) targumlaw18_known.sm)
def noQ (s : ByteArray) : Nat → Int → Bool
  | 0, _ => true
  | k + 1, j => if byteAt s j.toNat = 34 ∨ byteAt s j.toNat = 92 ∨ byteAt s j.toNat = 39 then false else noQ s k (j + 1)
theorem byI (s : ByteArray) (j : Nat) (n : Nat) (c : UInt8) (hc : c.toNat = n) : ((byteAt s j).toNat : Int) = n ↔ byteAt s j = c := ⟨fun e => UInt8.toNat_inj.1 (by rw [hc]; exact_mod_cast e), fun e => by rw [e, hc]⟩
def targumlaw18_SquoteDouble.sp0 : LSpec := ⟨targumlaw18_SquoteDouble.cs0, targumlaw18_SquoteDouble.ts0, fun vs h K => ∃ (s : ByteArray) (q : Bool) (j : Int) (k : Nat), (vs = [.string s, .bool q, .int .i64 j] ∧ (s.size ≤ 1000000 ∧ 0 ≤ j ∧ j + k = s.size)) ∧ ((noQ s k j = false → ∀ x : Int, K .ret [.string s, .bool true, .int .i64 x] h) ∧ (noQ s k j = true → ∀ x : Int, K (.exit 0) [.string s, .bool q, .int .i64 x] h))⟩
theorem targumlaw18_SquoteDouble.spm0 : LSpecMono targumlaw18_SquoteDouble.sp0 := by
  rintro vs h K K' hk ⟨s, q, j, k, h3, h4⟩
  exact ⟨s, q, j, k, h3, ⟨fun e x => hk _ _ _ (h4.1 e x), fun e x => hk _ _ _ (h4.2 e x)⟩⟩
theorem targumlaw18_SquoteDouble.t0 (s : ByteArray) (q : Bool) (j : Int) (k : Nat) (h : Heap) (E : Env) (N : List Value → Heap → Prop) (K : LK) : mwp TE8 (lt0) targumlaw18_SquoteDouble.l0 (lK targumlaw18_SquoteDouble.cs0 N K) (zipE targumlaw18_SquoteDouble.cs0 [.string s, .bool q, .int .i64 j] ++ E) h = (br (decide (j < (↑s.size : Int))) (((0 : Int) ≤ j ∧ j < (↑s.size : Int)) ∧ br (decide ((↑(byteAt s j.toNat).toNat : Int) = (34 : Int))) (K Exit.ret [Value.string s, Value.bool true, Value.int IntKind.i64 j] h) (((0 : Int) ≤ j ∧ j < (↑s.size : Int)) ∧ br (decide ((↑(byteAt s j.toNat).toNat : Int) = (92 : Int))) (K Exit.ret [Value.string s, Value.bool true, Value.int IntKind.i64 j] h) (((0 : Int) ≤ j ∧ j < (↑s.size : Int)) ∧ br (decide ((↑(byteAt s j.toNat).toNat : Int) = (39 : Int))) (K Exit.ret [Value.string s, Value.bool true, Value.int IntKind.i64 j] h) (rng IntKind.i64 (j + (1 : Int)) ∧ N [Value.string s, Value.bool q, Value.int IntKind.i64 (j + (1 : Int))] h)))) (K (Exit.exit (0 : Nat)) [Value.string s, Value.bool q, Value.int IntKind.i64 j] h)) := by kernel_rfl
theorem targumlaw18_SquoteDouble.lo0 : LOk1 Tryd.prog targumlaw18_SquoteDouble.nt targumlaw18_SquoteDouble.sp0 (.loop 0 targumlaw18_SquoteDouble.l0) := by
  refine loop_res (σ := ByteArray × Bool × Int × Nat) TE8_ok TE8_mono (lt0_mono) (LS := lt0) (by simp only [targumlaw18_SquoteDouble.l0, LOk, and_true, true_and]) rfl rfl (fun ⟨s, q, j, k⟩ => [.string s, .bool q, .int .i64 j]) (fun ⟨s, q, j, k⟩ h => s.size ≤ 1000000 ∧ 0 ≤ j ∧ j + k = s.size) (fun ⟨s, q, j, k⟩ => k) (fun ⟨s, q, j, k⟩ K h => (noQ s k j = false → ∀ x : Int, K .ret [.string s, .bool true, .int .i64 x] h) ∧ (noQ s k j = true → ∀ x : Int, K (.exit 0) [.string s, .bool q, .int .i64 x] h)) ?_ ?_
  · rintro vs h K ⟨s, q, j, k, ⟨h1, h2⟩, h3⟩
    exact ⟨⟨s, q, j, k⟩, h1, h2, h3⟩
  rintro ⟨s, q, j, k⟩ E h N K hE hp hN hK
  dsimp only at hp hN hK
  refine Eq.mpr (targumlaw18_SquoteDouble.t0 s q j k h E N K) ?_
  obtain ⟨h1, h2, h3⟩ := hp
  refine br_intro (fun hb => ?_) (fun hb => ?_)
  · simp only [decide_eq_true_eq] at hb
    obtain ⟨k, rfl⟩ : ∃ k', k = k' + 1 := ⟨k - 1, by omega⟩
    rw [noQ] at hK
    have b1 := byI s j.toNat 34 34 rfl
    have b2 := byI s j.toNat 92 92 rfl
    have b3 := byI s j.toNat 39 39 rfl
    have bad : (byteAt s j.toNat = 34 ∨ byteAt s j.toNat = 92 ∨ byteAt s j.toNat = 39) → K .ret [.string s, .bool true, .int .i64 j] h := fun e => by
      rw [if_pos e] at hK; exact hK.1 rfl _
    refine ⟨⟨by omega, by omega⟩, br_intro (fun hc => ?_) (fun hc => ⟨⟨by omega, by omega⟩, br_intro (fun hd => ?_) (fun hd => ⟨⟨by omega, by omega⟩, br_intro (fun he => ?_) (fun he => ?_)⟩)⟩)⟩
    · exact bad (.inl (b1.1 (by simpa using hc)))
    · exact bad (.inr (.inl (b2.1 (by simpa using hd))))
    · exact bad (.inr (.inr (b3.1 (by simpa using he))))
    · simp only [decide_eq_false_iff_not] at hc hd he
      rw [if_neg (by rintro (e | e | e); exact hc (b1.2 e); exact hd (b2.2 e); exact he (b3.2 e))] at hK
      exact ⟨by simp only [rng]; omega, hN (s, q, j + 1, k) h ⟨h1, by dsimp only; omega, by dsimp only; omega⟩ (by dsimp only; omega) hK⟩
  · simp only [decide_eq_false_iff_not] at hb
    obtain rfl : k = 0 := by omega
    exact hK.2 rfl _

/-! ### One quote for the other -/
def fq (c : UInt8) : UInt8 := if c = 39 then 34 else c
theorem fq_eq {c d : UInt8} (h1 : d ≠ 34) (h2 : d ≠ 39) : fq c = d ↔ c = d := by
  unfold fq
  split
  · rename_i h; subst h; exact ⟨fun e => absurd e.symm h1, fun e => absurd e.symm h2⟩
  · exact Iff.rfl
theorem isBl_fq (c : UInt8) : isBl (fq c) = isBl c := by
  unfold fq; split
  · rename_i h; subst h; rfl
  · rfl
theorem head_fq {l : List UInt8} {d : UInt8} (h1 : d ≠ 34) (h2 : d ≠ 39) : (l.map fq).head? = some d ↔ l.head? = some d := by
  cases l with
  | nil => simp
  | cons c l => simp only [List.map_cons, List.head?_cons, Option.some.injEq]; exact fq_eq h1 h2
theorem take_fq {l : List UInt8} {d e : UInt8} (h1 : d ≠ 34) (h2 : d ≠ 39) (h3 : e ≠ 34) (h4 : e ≠ 39) : (l.map fq).take 2 = [d, e] ↔ l.take 2 = [d, e] := by
  match l with
  | [] => simp
  | [c] => simp
  | c :: b :: l => simp [fq_eq h1 h2, fq_eq h3 h4]
theorem brkL_fq (old : Bool) (l : List UInt8) : brkL old (l.map fq) = brkL old l := by
  cases l with
  | nil => rfl
  | cons c l =>
    rw [List.map_cons]
    unfold brkL
    simp only [fq_eq (c := c) (d := 13) (by decide) (by decide), fq_eq (c := c) (d := 10) (by decide) (by decide), fq_eq (c := c) (d := 194) (by decide) (by decide), fq_eq (c := c) (d := 226) (by decide) (by decide),
      head_fq (l := l) (d := 10) (by decide) (by decide), head_fq (l := l) (d := 133) (by decide) (by decide), take_fq (l := l) (d := 128) (e := 168) (by decide) (by decide) (by decide) (by decide), take_fq (l := l) (d := 128) (e := 169) (by decide) (by decide) (by decide) (by decide)]
theorem bls_fq (l : List UInt8) : bls (l.map fq) = bls l := by
  induction l with
  | nil => rfl
  | cons c l ih => rw [List.map_cons, bls, bls, isBl_fq, ih]
theorem eol_fq (old : Bool) (l : List UInt8) : eol old (l.map fq) = eol old l := by
  induction l with
  | nil => rfl
  | cons c l ih => rw [List.map_cons, eol, eol, ← List.map_cons, brkL_fq, ih]
theorem pre_fq {d : UInt8} (h1 : d ≠ 34) (h2 : d ≠ 39) (l : List UInt8) : List.isPrefixOf [d, d, d] (l.map fq) = List.isPrefixOf [d, d, d] l := by
  have e : ∀ c : UInt8, (d == fq c) = (d == c) := fun c => by
    rw [Bool.eq_iff_iff, beq_iff_eq, beq_iff_eq]
    exact ⟨fun h => ((fq_eq h1 h2).1 h.symm).symm, fun h => ((fq_eq h1 h2).2 h.symm).symm⟩
  match l with
  | [] => rfl
  | [c] => simp [List.isPrefixOf, e]
  | [c, b] => simp [List.isPrefixOf, e]
  | c :: b :: a :: l => simp [List.isPrefixOf, e]
theorem mrkL_fq (t : List UInt8) : mrkL (t.map fq) = mrkL t := by
  have e : (t.map fq).getD 3 0 = fq (t.getD 3 0) := by
    rw [List.getD_eq_getElem?_getD, List.getD_eq_getElem?_getD, List.getElem?_map]
    cases t[3]? <;> rfl
  unfold mrkL
  rw [List.length_map, e, isBl_fq, pre_fq (by decide) (by decide), pre_fq (by decide) (by decide)]
section
variable {x y : ByteArray} (hy : lst y = (lst x).map fq)
include hy
theorem size_fq : y.size = x.size := by rw [← lst_len y, hy, List.length_map, lst_len]
theorem byte_fq (j : Nat) : byteAt y j = fq (byteAt x j) := by
  rw [byteAt_lst, byteAt_lst, hy, List.getD_eq_getElem?_getD, List.getD_eq_getElem?_getD, List.getElem?_map]
  cases (lst x)[j]? <;> rfl
theorem blank_fq (i : Int) : blankI y i = blankI x i := by unfold blankI; rw [byte_fq hy, isBl_fq]
theorem brkI_fq (v i : Int) : brkI v y i = brkI v x i := by unfold brkI; rw [hy, ← List.map_drop, brkL_fq]
theorem over_fq (i : Int) : overI y i = overI x i := by unfold overI; rw [hy, ← List.map_drop, bls_fq]
theorem end_fq (v i : Int) : endI v y i = endI v x i := by unfold endI; rw [hy, ← List.map_drop, eol_fq]
theorem mrk_fq (a e n : Int) : mrkI y a e n = mrkI x a e n := by
  unfold mrkI saysL okLn
  rw [size_fq hy, hy, ← List.map_drop, ← List.map_take]
  split
  · exact mrkL_fq _
  · rfl
theorem mark_fq (v i : Int) : markI v y i = markI v x i := by
  unfold markI nxtI
  rw [end_fq hy, brkI_fq hy, mrk_fq hy]
theorem rowF_fq (v : Int) : ∀ (k : Nat) (i n : Int), rowF v y k i n = rowF v x k i n
  | 0, i, n => rfl
  | k + 1, i, n => by rw [rowF, rowF, size_fq hy, blank_fq hy, brkI_fq hy, mark_fq hy, rowF_fq v k, rowF_fq v k]
theorem rowI_fq (v i : Int) : rowI v y i = rowI v x i := by unfold rowI; rw [size_fq hy, rowF_fq hy]
end
/-- What the two ways of reading tell is the same. -/
def Alike1 (o : Except Int (List UInt8 × Int)) (p : Except (Option (Int × Int)) (List UInt8 × Int)) : Prop :=
  (∃ q, o = .ok q ∧ p = .ok q) ∨ (o = .error 0 ∧ p = .error none) ∨ ∃ a, o = .error a ∧ p = .error (some (11, a))
theorem bls_bl : ∀ (l : List UInt8), ∀ c ∈ l.take (bls l), isBl c = true
  | [], c, h => by simp at h
  | d :: l, c, h => by
    rw [bls] at h
    split at h
    · rename_i hd
      rw [List.take_succ_cons, List.mem_cons] at h
      rcases h with rfl | h
      · exact hd
      · exact bls_bl l c h
    · simp at h
theorem row_zero {v : Int} {s : ByteArray} {a : Int} (h0 : 0 ≤ a) (h1 : a ≤ s.size) (h : (rowI v s a).1 = 0) : (rowI v s a).2 = overI s a := by
  rw [rowI_fold v s h0] at h ⊢
  have ho := overI_ge s a
  by_cases h4 : 0 < brkI v s (overI s a)
  · have := foldI_pos (by omega) (overI_le s a h1) h4 (by omega)
    omega
  · unfold foldI; rw [foldF, if_pos (by omega)]
theorem foldK_fq {v : Int} {x y : ByteArray} (hy : lst y = (lst x).map fq) {a : Int} (h0 : 0 ≤ a) (h1 : a ≤ x.size) : foldK y a (rowI v x a).2 (rowI v x a).1 = foldK x a (rowI v x a).2 (rowI v x a).1 := by
  unfold foldK
  split
  · rename_i hz
    rw [row_zero h0 h1 hz]
    unfold bytesI
    rw [hy, ← List.map_drop, ← List.map_take]
    have e : overI x a = a + bls ((lst x).drop a.toNat) := by unfold overI; rw [if_pos h0]
    rw [e, show (a + (bls ((lst x).drop a.toNat) : Int) - a).toNat = bls ((lst x).drop a.toNat) from by omega]
    refine (List.map_congr_left (g := id) fun c hc => ?_).trans (List.map_id _)
    have := bls_bl _ c hc
    unfold fq
    rw [if_neg (fun e => by rw [e] at this; exact absurd this (by decide))]
    rfl
  · rfl
theorem alike_loop {v : Int} {x y : ByteArray} (hy : lst y = (lst x).map fq) (h39 : ∀ j : Int, 1 ≤ j → byteAt x j.toNat = 39 → j + 1 = x.size) (h34 : ∀ j : Int, 1 ≤ j → byteAt x j.toNat ≠ 34 ∧ byteAt x j.toNat ≠ 92) :
    ∀ (k : Nat) (a : Int) (l : List UInt8), 1 ≤ a → Alike1 (sgN v x 0 k a l) (dqN v y k a l)
  | 0, a, l, h => .inr (.inl ⟨rfl, rfl⟩)
  | k + 1, a, l, h => by
    rw [sgN, dqN, size_fq hy, byte_fq hy, brkI_fq hy, brkI_fq hy, blank_fq hy, rowI_fq hy, rowI_fq hy]
    obtain ⟨q1, q2⟩ := h34 a h
    by_cases h1 : x.size ≤ a
    · rw [if_pos h1, if_pos h1]; exact .inr (.inl ⟨rfl, rfl⟩)
    rw [if_neg h1, if_neg h1]
    by_cases h2 : byteAt x a.toNat = 39
    · have := h39 a h h2
      rw [if_neg (show ¬ (byteAt x a.toNat = 39 ∧ byteAt x (a + 1).toNat = 39) from fun e => by rw [byteAt_out (n := (a + 1).toNat) (by omega)] at e; exact absurd e.2 (by decide)), if_pos h2, if_pos (show fq (byteAt x a.toNat) = 34 by rw [h2]; rfl)]
      exact .inl ⟨_, rfl, rfl⟩
    · have hf : fq (byteAt x a.toNat) = byteAt x a.toNat := by unfold fq; rw [if_neg h2]
      rw [if_neg (show ¬ (byteAt x a.toNat = 39 ∧ byteAt x (a + 1).toNat = 39) from fun e => h2 e.1), if_neg h2, hf, if_neg q1, if_neg (show ¬ (byteAt x a.toNat = 92 ∧ 0 < brkI v x (a + 1)) from fun e => q2 e.1), if_neg q2]
      by_cases h3 : blankI x a = true ∨ 0 < brkI v x a
      · rw [if_pos h3, if_pos h3]
        split
        · exact .inr (.inr ⟨_, rfl, rfl⟩)
        · rw [foldK_fq hy (by omega) (by omega)]
          have := rowI_pos (v := v) (s := x) (by omega) (by omega) h3
          exact alike_loop hy h39 h34 k _ _ (by omega)
      · rw [if_neg h3, if_neg h3]
        exact alike_loop hy h39 h34 k _ _ (by omega)
theorem noQ_all (s : ByteArray) : ∀ (k : Nat) (j : Int), noQ s k j = true → ∀ i : Int, j ≤ i → i < j + k → byteAt s i.toNat ≠ 34 ∧ byteAt s i.toNat ≠ 92 ∧ byteAt s i.toNat ≠ 39
  | 0, j, h, i, h1, h2 => by omega
  | k + 1, j, h, i, h1, h2 => by
    rw [noQ] at h
    split at h
    · cases h
    · rename_i hn
      by_cases e : i = j
      · subst e; exact ⟨fun e => hn (.inl e), fun e => hn (.inr (.inl e)), fun e => hn (.inr (.inr e))⟩
      · exact noQ_all s k (j + 1) h i (by omega) (by omega)
theorem both_quotes (v : Int) {s : ByteArray} (h : noQ s s.size 0 = true) : Alike1 (sgN v (strOf (39 :: (lst s ++ [39]))) 0 (s.size + 2 + 2) 1 []) (dqN v (strOf (34 :: (lst s ++ [34]))) (s.size + 2 + 2) 1 []) := by
  have hn := noQ_all s _ _ h
  have hl := lst_len s
  have hb : ∀ j : Int, 1 ≤ j → byteAt (strOf (39 :: (lst s ++ [39]))) j.toNat = if j - 1 < s.size then byteAt s (j - 1).toNat else if j - 1 = s.size then 39 else 0 := fun j hj => by
    rw [byteAt_lst, lst_strOf, show j.toNat = (j - 1).toNat + 1 from by omega, List.getD_cons_succ, List.getD_eq_getElem?_getD]
    split
    · rw [List.getElem?_append_left (by omega), byteAt_lst, List.getD_eq_getElem?_getD]
    · rw [List.getElem?_append_right (by omega)]
      split
      · rw [show (j - 1).toNat - (lst s).length = 0 from by omega]; rfl
      · rw [List.getElem?_eq_none (by simp; omega)]; rfl
  refine alike_loop ?_ (fun j hj e => ?_) (fun j hj => ?_) _ 1 [] (Int.le_refl _)
  · rw [lst_strOf, lst_strOf, List.map_cons, List.map_append]
    suffices hm : List.map fq (lst s) = lst s by rw [hm]; rfl
    refine (List.map_congr_left (g := id) fun c hc => ?_).trans (List.map_id _)
    obtain ⟨i, hi, rfl⟩ := List.getElem_of_mem hc
    have := (hn i (by omega) (by omega)).2.2
    rw [byteAt_lst, List.getD_eq_getElem?_getD, show (i : Int).toNat = i from rfl, List.getElem?_eq_getElem hi] at this
    unfold fq
    rw [if_neg (show ¬ (lst s)[i] = 39 from this)]; rfl
  · rw [hb j hj] at e
    rw [strOf_size, List.length_cons, List.length_append, List.length_singleton]
    split at e
    · exact absurd e (hn (j - 1) (by omega) (by omega)).2.2
    · split at e
      · omega
      · exact absurd e (by decide)
  · rw [hb j hj]
    split
    · have := hn (j - 1) (by omega) (by omega)
      exact ⟨this.1, this.2.1⟩
    · split <;> exact ⟨by decide, by decide⟩

def targumlaw18_SquoteDouble.LS : LT := (extL lt0 0 targumlaw18_SquoteDouble.sp0)
theorem targumlaw18_SquoteDouble.LS_mono : LMono targumlaw18_SquoteDouble.LS := (extL_mono lt0_mono targumlaw18_SquoteDouble.spm0)
theorem targumlaw18_SquoteDouble.t (s : ByteArray) (old : Bool) (K : VK) : mwp TE8 (targumlaw18_SquoteDouble.LS) targumlaw18_SquoteDouble.m (retK [.t 4] K) (argE 0 [.string s, .bool old]) (lit ([])) = ((200 : Int) ≤ (1000000 : Int) ∧ br (!fewI s (200 : Int)) (K (Value.bool true) (Heap.mk (0 : Nat) [])) (∃ (s_1 : ByteArray), ∃ (q : Bool), ∃ (j : Int), ∃ (k : Nat), ([Value.string s, Value.bool false, Value.int IntKind.i64 (0 : Int)] = [Value.string s_1, Value.bool q, Value.int IntKind.i64 j] ∧ s_1.size ≤ (1000000 : Nat) ∧ (0 : Int) ≤ j ∧ j + (↑k : Int) = (↑s_1.size : Int)) ∧ (noQ s_1 k j = false → ∀ (x : Int), K (Value.bool true) (Heap.mk (0 : Nat) [])) ∧ (noQ s_1 k j = true → ∀ (x : Int), (ByteArray.mk #[(39 : UInt8)]).size + s_1.size ≤ (9223372036854775807 : Nat) ∧ (ByteArray.mk #[(39 : UInt8)] ++ s_1).size + (ByteArray.mk #[(39 : UInt8)]).size ≤ (9223372036854775807 : Nat) ∧ ((ByteArray.mk #[(39 : UInt8)] ++ s_1 ++ ByteArray.mk #[(39 : UInt8)]).size ≤ (1000000 : Nat) ∧ (-10000000 : Int) ≤ (0 : Int) ∧ (0 : Int) ≤ (10000000 : Int)) ∧ (ByteArray.mk #[(34 : UInt8)]).size + s_1.size ≤ (9223372036854775807 : Nat) ∧ (ByteArray.mk #[(34 : UInt8)] ++ s_1).size + (ByteArray.mk #[(34 : UInt8)]).size ≤ (9223372036854775807 : Nat) ∧ ((ByteArray.mk #[(34 : UInt8)] ++ s_1 ++ ByteArray.mk #[(34 : UInt8)]).size ≤ (300000 : Nat) ∧ (-10000000 : Int) ≤ (0 : Int) ∧ (0 : Int) ≤ (10000000 : Int)) ∧ br (decide (strOf (sqT (sqI (verI old) (ByteArray.mk #[(39 : UInt8)] ++ s_1 ++ ByteArray.mk #[(39 : UInt8)]) (0 : Int))) = strOf (dqT (dqI (verI old) (ByteArray.mk #[(34 : UInt8)] ++ s_1 ++ ByteArray.mk #[(34 : UInt8)]) (0 : Int))))) (br (decide (sqE (sqI (verI old) (ByteArray.mk #[(39 : UInt8)] ++ s_1 ++ ByteArray.mk #[(39 : UInt8)]) (0 : Int)) = dqE (dqI (verI old) (ByteArray.mk #[(34 : UInt8)] ++ s_1 ++ ByteArray.mk #[(34 : UInt8)]) (0 : Int)))) (K (Value.bool (match decide (sqC (sqI (verI old) (ByteArray.mk #[(39 : UInt8)] ++ s_1 ++ ByteArray.mk #[(39 : UInt8)]) (0 : Int)) = dqC (dqI (verI old) (ByteArray.mk #[(34 : UInt8)] ++ s_1 ++ ByteArray.mk #[(34 : UInt8)]) (0 : Int))) with | false => false | true => decide (sqO (sqI (verI old) (ByteArray.mk #[(39 : UInt8)] ++ s_1 ++ ByteArray.mk #[(39 : UInt8)]) (0 : Int)) = dqO (dqI (verI old) (ByteArray.mk #[(34 : UInt8)] ++ s_1 ++ ByteArray.mk #[(34 : UInt8)]) (0 : Int))))) (Heap.mk (2 : Nat) [some (Blk.mk (30 : Nat) (2 : Nat) ([] ++ [Value.int IntKind.i64 (sqC (sqI (verI old) (ByteArray.mk #[(39 : UInt8)] ++ s_1 ++ ByteArray.mk #[(39 : UInt8)]) (0 : Int))), Value.int IntKind.i64 (sqO (sqI (verI old) (ByteArray.mk #[(39 : UInt8)] ++ s_1 ++ ByteArray.mk #[(39 : UInt8)]) (0 : Int)))] ++ []) true), some (Blk.mk (30 : Nat) (2 : Nat) ([] ++ [Value.int IntKind.i64 (dqC (dqI (verI old) (ByteArray.mk #[(34 : UInt8)] ++ s_1 ++ ByteArray.mk #[(34 : UInt8)]) (0 : Int))), Value.int IntKind.i64 (dqO (dqI (verI old) (ByteArray.mk #[(34 : UInt8)] ++ s_1 ++ ByteArray.mk #[(34 : UInt8)]) (0 : Int)))] ++ []) true)])) (K (Value.bool false) (Heap.mk (2 : Nat) [some (Blk.mk (30 : Nat) (2 : Nat) ([] ++ [Value.int IntKind.i64 (sqC (sqI (verI old) (ByteArray.mk #[(39 : UInt8)] ++ s_1 ++ ByteArray.mk #[(39 : UInt8)]) (0 : Int))), Value.int IntKind.i64 (sqO (sqI (verI old) (ByteArray.mk #[(39 : UInt8)] ++ s_1 ++ ByteArray.mk #[(39 : UInt8)]) (0 : Int)))] ++ []) true), some (Blk.mk (30 : Nat) (2 : Nat) ([] ++ [Value.int IntKind.i64 (dqC (dqI (verI old) (ByteArray.mk #[(34 : UInt8)] ++ s_1 ++ ByteArray.mk #[(34 : UInt8)]) (0 : Int))), Value.int IntKind.i64 (dqO (dqI (verI old) (ByteArray.mk #[(34 : UInt8)] ++ s_1 ++ ByteArray.mk #[(34 : UInt8)]) (0 : Int)))] ++ []) true)]))) (K (Value.bool false) (Heap.mk (2 : Nat) [some (Blk.mk (30 : Nat) (2 : Nat) ([] ++ [Value.int IntKind.i64 (sqC (sqI (verI old) (ByteArray.mk #[(39 : UInt8)] ++ s_1 ++ ByteArray.mk #[(39 : UInt8)]) (0 : Int))), Value.int IntKind.i64 (sqO (sqI (verI old) (ByteArray.mk #[(39 : UInt8)] ++ s_1 ++ ByteArray.mk #[(39 : UInt8)]) (0 : Int)))] ++ []) true), some (Blk.mk (30 : Nat) (2 : Nat) ([] ++ [Value.int IntKind.i64 (dqC (dqI (verI old) (ByteArray.mk #[(34 : UInt8)] ++ s_1 ++ ByteArray.mk #[(34 : UInt8)]) (0 : Int))), Value.int IntKind.i64 (dqO (dqI (verI old) (ByteArray.mk #[(34 : UInt8)] ++ s_1 ++ ByteArray.mk #[(34 : UInt8)]) (0 : Int)))] ++ []) true)]))))) := by kernel_rfl
theorem targumlaw18_SquoteDouble.law (s : ByteArray) (old : Bool) : ACalls Tryd.prog targumlaw18_SquoteDouble.n [.string s, .bool old] (lit ([])) (fun v _ => v = .bool true) := by
  refine acalls_mk TE8_ok targumlaw18_SquoteDouble.ok (LS := targumlaw18_SquoteDouble.LS) (by simp only [targumlaw18_SquoteDouble.m, LOk, and_true, true_and]; (repeat' apply And.intro) <;> first | trivial | exact targumlaw18_SquoteDouble.lo0) (Nat.le_of_ble_eq_true rfl) (Eq.mpr (targumlaw18_SquoteDouble.t s old _) ?_)
  refine ⟨by omega, br_intro (fun _ => rfl) (fun hf => ?_)⟩
  have hs : s.size ≤ 200 := by have := few_le (by simpa using hf : fewI s 200 = true); omega
  refine ⟨s, false, 0, s.size, ⟨rfl, by omega, by omega, by omega⟩, fun _ _ => rfl, fun hq _ => ?_⟩
  have hl := lst_len s
  have e1 : ∀ c : UInt8, ByteArray.mk #[c] ++ s ++ ByteArray.mk #[c] = strOf (c :: (lst s ++ [c])) := fun c => by
    rw [mk_app, show ByteArray.mk #[c] = strOf [c] from rfl, strOf_app]; rfl
  have z1 : ∀ c : UInt8, (ByteArray.mk #[c]).size = 1 := fun _ => rfl
  have z2 : ∀ c : UInt8, (ByteArray.mk #[c] ++ s).size = s.size + 1 := fun c => by rw [mk_app, strOf_size, List.length_cons, hl]
  have z3 : ∀ c : UInt8, (strOf (c :: (lst s ++ [c]))).size = s.size + 2 := fun c => by rw [strOf_size, List.length_cons, List.length_append, hl]; rfl
  rw [e1, e1, z1, z1, z2, z2, z3, z3, ← sgI_sqI]
  refine ⟨by omega, by omega, ⟨by omega, by omega, by omega⟩, by omega, by omega, ⟨by omega, by omega, by omega⟩, ?_⟩
  have hb := both_quotes (verI old) hq
  have u1 : sgI (verI old) (strOf (39 :: (lst s ++ [39]))) 0 = sgN (verI old) (strOf (39 :: (lst s ++ [39]))) 0 (s.size + 2 + 2) 1 [] := by
    unfold sgI
    rw [if_neg (by rw [z3]; rintro (h | h | h); omega; omega; exact h rfl), z3]; rfl
  have u2 : dqI (verI old) (strOf (34 :: (lst s ++ [34]))) 0 = match dqN (verI old) (strOf (34 :: (lst s ++ [34]))) (s.size + 2 + 2) 1 [] with
    | .error none => .error (11, 0)
    | .error (some p) => .error p
    | .ok p => .ok p := by
    unfold dqI
    rw [if_neg (by rw [z3]; rintro (h | h | h); omega; omega; exact h rfl), z3]; rfl
  rw [u1, u2]
  rcases hb with ⟨q, h1, h2⟩ | ⟨h1, h2⟩ | ⟨a, h1, h2⟩
  · rw [h1, h2]
    refine br_intro (fun _ => br_intro (fun _ => ?_) (fun h => absurd (h.symm.trans (decide_eq_true rfl)) (by decide))) (fun h => absurd (h.symm.trans (decide_eq_true rfl)) (by decide))
    rfl
  · rw [h1, h2]
    refine br_intro (fun _ => br_intro (fun _ => ?_) (fun h => absurd (h.symm.trans (decide_eq_true rfl)) (by decide))) (fun h => absurd (h.symm.trans (decide_eq_true rfl)) (by decide))
    rfl
  · rw [h1, h2]
    refine br_intro (fun _ => br_intro (fun _ => ?_) (fun h => absurd (h.symm.trans (decide_eq_true rfl)) (by decide))) (fun h => absurd (h.symm.trans (decide_eq_true rfl)) (by decide))
    show Value.bool _ = Value.bool true
    simp [sqC, dqC, sqO, dqO]

end Go.Mini
