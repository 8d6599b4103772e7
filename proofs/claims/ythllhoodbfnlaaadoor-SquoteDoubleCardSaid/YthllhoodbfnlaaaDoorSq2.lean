/- Texts in single quotes, read. Conditions: sizes. -/
import Derived.Test.YthllhoodbfnlaaaDoorSq1
import Derived.Test.YthllhoodbfnlaaaDoorMiniY
import Derived.Test.YthllhoodbfnlaaaDoorBld2
namespace Go.Mini
open Go Go.RowKit Go.Proofs
set_option maxRecDepth 100000
set_option linter.unusedVariables false
set_option linter.unusedSimpArgs false

def bytesI (s : ByteArray) (a e : Int) : List UInt8 := ((lst s).drop a.toNat).take (e - a).toNat
theorem bytesI_ext (s : ByteArray) {a e : Int} (h0 : 0 ≤ a) (h1 : a ≤ e) : (s.extract a.toNat e.toNat).data.toList = bytesI s a e := by
  have := lst_ext s a.toNat e.toNat
  rw [show e.toNat - a.toNat = (e - a).toNat from by omega] at this
  exact this
theorem bytesI_len (s : ByteArray) (a e : Int) : (bytesI s a e).length ≤ (e - a).toNat := by
  unfold bytesI
  rw [List.length_take]; omega
/-- The text in quotes from a place within on, or where what is wrong stands. -/
def sqN (v : Int) (s : ByteArray) (i : Int) : Nat → Int → List UInt8 → Except Int (List UInt8 × Int)
  | 0, _, _ => .error i
  | k + 1, a, l => if s.size ≤ a then .error i else if byteAt s a.toNat = 39 ∧ byteAt s (a + 1).toNat = 39 then sqN v s i k (a + 2) (l ++ [39])
    else if byteAt s a.toNat = 39 then .ok (l, a + 1)
    else if 0 < brkI v s (overI s a) then (if (foldI v s (overI s a)).1 < 0 then .error (foldI v s (overI s a)).2 else sqN v s i k (foldI v s (overI s a)).2 (l ++ foldedL (foldI v s (overI s a)).1))
    else sqN v s i k (max (overI s a) (a + 1)) (l ++ bytesI s a (max (overI s a) (a + 1)))
def sqI (v : Int) (s : ByteArray) (i : Int) : Except Int (List UInt8 × Int) := if i < 0 ∨ s.size ≤ i ∨ byteAt s i.toNat ≠ 39 then .error i else sqN v s i (s.size + 2) (i + 1) []
abbrev TF : Nat := 30
abbrev fltB (c a : Int) : Option Blk := some ⟨TF, 2, [.int .i64 c, .int .i64 a], true⟩
/-- What a result asks of what comes then. -/
def sqRes (v : Int) (s : ByteArray) (i : Int) (K : LK) : Except Int (List UInt8 × Int) → Prop
  | .error a => ∀ h' : Heap, h'.g 0 = fltB 11 a → K .ret [.int .i64 v, .string s, .int .i64 i, .string ⟨#[]⟩, .int .i64 0, .pointer (some ⟨0, 0, none⟩)] h'
  | .ok (t, e) => ∀ h' : Heap, h'.g 0 = fltB 0 0 → K .ret [.int .i64 v, .string s, .int .i64 i, .string (strOf t), .int .i64 e, .pointer (some ⟨0, 0, none⟩)] h'
def sqH (i : Int) : Heap := lit [fltB 0 0, some ⟨TB, 2, [.pointer none, .slice none 0 0], true⟩, fltB 11 i]
abbrev sqV (v : Int) (s : ByteArray) (i a e n : Int) : List Value := [.int .i64 v, .string s, .int .i64 i, .string ⟨#[]⟩, .int .i64 0, .pointer (some ⟨0, 0, none⟩), .pointer (some ⟨1, 0, none⟩), .int .i64 a, .int .i64 e, .int .i64 n, .pointer (some ⟨2, 0, none⟩)]
abbrev sqCl : List Nat := [0, 1, 2, 6, 7, 8, 9, 10, 11, 12, 13]
def squote_Read.sp1999 : LSpec := ⟨squote_Read.cs1999, squote_Read.ts1999, fun vs h K => ∃ (v : Int) (s : ByteArray) (i : Int), vs = [.int .i64 v, .string s, .int .i64 i, .string ⟨#[]⟩, .int .i64 0, .pointer (some ⟨0, 0, none⟩)] ∧ h = lit [fltB 0 0] ∧ (s.size ≤ 1000000 ∧ -10000000 ≤ i ∧ i ≤ 10000000) ∧ sqRes v s i K (sqI v s i)⟩
theorem sqRes_mono {v : Int} {s : ByteArray} {i : Int} {K K' : LK} (hk : ∀ x vs h, K x vs h → K' x vs h) : ∀ {o : Except Int (List UInt8 × Int)}, sqRes v s i K o → sqRes v s i K' o
  | .error a, h => fun h' e => hk _ _ _ (h h' e)
  | .ok (t, e), h => fun h' e => hk _ _ _ (h h' e)
theorem squote_Read.spm1999 : LSpecMono squote_Read.sp1999 := by
  rintro vs h K K' hk ⟨v, s, i, h1, h2, h3, h4⟩
  exact ⟨v, s, i, h1, h2, h3, sqRes_mono hk h4⟩
def SQ0 : CT := extC (extC HE 38 (bwsM 3)) 39 (bstrM 3)
theorem SQ0_ok : COk Tryd.prog SQ0 := extC_ok (extC_ok HE_ok (bwsM_sc 3) (bwsM_sd 3)) (bstrM_sc 3) (bstrM_sd 3)
theorem SQ0_mono : CMono SQ0 := extC_mono (extC_mono HE_mono (bwsM_sm 3)) (bstrM_sm 3)
def SQ : CT := (extC (extC (extC (extC (extC SQ0 strings_HasPrefix.n strings_HasPrefix.s) rows_Over.n rows_Over.s) brk_Break.n brk_Break.s) rows_Fold.n rows_Fold.s) rows_Folded.n rows_Folded.s)
theorem SQ_ok : COk Tryd.prog SQ := (extC_ok (extC_ok (extC_ok (extC_ok (extC_ok SQ0_ok strings_HasPrefix.sc strings_HasPrefix.sd) rows_Over.sc rows_Over.sd) brk_Break.sc brk_Break.sd) rows_Fold.sc rows_Fold.sd) rows_Folded.sc rows_Folded.sd)
theorem SQ_mono : CMono SQ := (extC_mono (extC_mono (extC_mono (extC_mono (extC_mono SQ0_mono strings_HasPrefix.sm) rows_Over.sm) brk_Break.sm) rows_Fold.sm) rows_Folded.sm)
def squote_Read.r0 : MCode := (mfind squote_Read.l1999 0).getD .skip
def squote_Read.r1 : MCode := (mfind squote_Read.l1999 1).getD .skip
theorem squote_Read.rf0 : mfind squote_Read.l1999 0 = some squote_Read.r0 := by kernel_rfl
theorem squote_Read.rf1 : mfind squote_Read.l1999 1 = some squote_Read.r1 := by kernel_rfl
abbrev sqN0 (i : Int) (n : Nat) (b : Option Blk) (R : List (Option Blk)) : Heap := Heap.mk n (fltB 0 0 :: b :: fltB 11 i :: R)
theorem squote_Read.t0 (v : Int) (s : ByteArray) (i a e n : Int) (m : Nat) (b : Option Blk) (R : List (Option Blk)) (E : Env) (G : Nat → List Value → Heap → Prop) (K : LK) : mwp SQ (lt0) squote_Read.r0 (gK2 squote_Read.cs1999 sqCl G K) (zipE sqCl (sqV v s i a e n) ++ E) (sqN0 i m b R) = (br (decide ((↑s.size : Int) ≤ a)) (K Exit.ret [Value.int IntKind.i64 v, Value.string s, Value.int IntKind.i64 i, Value.string (ByteArray.mk #[]), Value.int IntKind.i64 (0 : Int), Value.pointer (some (Addr.mk (0 : Nat) (0 : Nat) none))] (Heap.mk ((fun (self : Heap) => self.1) (sqN0 i m b R)) (some (Blk.mk TF (2 : Nat) ([] ++ [Value.int IntKind.i64 (11 : Int), Value.int IntKind.i64 i] ++ []) true) :: b :: fltB (11 : Int) i :: R))) (((0 : Int) ≤ a ∧ a ≤ (↑s.size : Int)) ∧ br (hp (s.extract a.toNat s.size) (ByteArray.mk #[(39 : UInt8), (39 : UInt8)])) (∃ (l : List UInt8), BldM (3 : Nat) (sqN0 i m b R) (1 : Nat) l ∧ l.length + (ByteArray.mk #[(39 : UInt8)]).size ≤ (100000000000000 : Nat) ∧ ∀ (n_1 : Nat) (b_1 : Option Blk) (R_1 : List (Option Blk)), BldM (3 : Nat) (cutH (3 : Nat) (sqN0 i m b R) (1 : Nat) n_1 b_1 R_1) (1 : Nat) (l ++ lst (ByteArray.mk #[(39 : UInt8)])) → rng IntKind.i64 (a + (2 : Int)) ∧ G (0 : Nat) [Value.int IntKind.i64 v, Value.string s, Value.int IntKind.i64 i, Value.string (ByteArray.mk #[]), Value.int IntKind.i64 (0 : Int), Value.pointer (some (Addr.mk (0 : Nat) (0 : Nat) none)), Value.pointer (some (Addr.mk (1 : Nat) (0 : Nat) none)), Value.int IntKind.i64 (a + (2 : Int)), Value.int IntKind.i64 e, Value.int IntKind.i64 n, Value.pointer (some (Addr.mk (2 : Nat) (0 : Nat) none))] (cutH (3 : Nat) (sqN0 i m b R) (1 : Nat) n_1 b_1 R_1)) (((0 : Int) ≤ a ∧ a < (↑s.size : Int)) ∧ br (decide ((↑(byteAt s a.toNat).toNat : Int) = (39 : Int))) (∃ (l : List UInt8), BldM (3 : Nat) (sqN0 i m b R) (1 : Nat) l ∧ l.length ≤ (100000000000000 : Nat) ∧ ∀ (n : Nat) (b_1 : Option Blk) (R_1 : List (Option Blk)), rng IntKind.i64 (a + (1 : Int)) ∧ K Exit.ret [Value.int IntKind.i64 v, Value.string s, Value.int IntKind.i64 i, Value.string (strOf l), Value.int IntKind.i64 (a + (1 : Int)), Value.pointer (some (Addr.mk (0 : Nat) (0 : Nat) none))] (Heap.mk ((fun (self : Heap) => self.1) (cutH (3 : Nat) (sqN0 i m b R) (1 : Nat) n b_1 R_1)) (some (Blk.mk TF (2 : Nat) ([] ++ [Value.int IntKind.i64 (0 : Int), Value.int IntKind.i64 (0 : Int)] ++ []) true) :: b_1 :: fltB (11 : Int) i :: [].append R_1))) (s.size ≤ (1000000 : Nat) ∧ br (decide ((0 : Int) < brkI v s (overI s a))) (G (1 : Nat) [Value.int IntKind.i64 v, Value.string s, Value.int IntKind.i64 i, Value.string (ByteArray.mk #[]), Value.int IntKind.i64 (0 : Int), Value.pointer (some (Addr.mk (0 : Nat) (0 : Nat) none)), Value.pointer (some (Addr.mk (1 : Nat) (0 : Nat) none)), Value.int IntKind.i64 a, Value.int IntKind.i64 (overI s a), Value.int IntKind.i64 n, Value.pointer (some (Addr.mk (2 : Nat) (0 : Nat) none))] (sqN0 i m b R)) (rng IntKind.i64 (a + (1 : Int)) ∧ ((0 : Int) ≤ a ∧ a ≤ max (overI s a) (a + (1 : Int)) ∧ max (overI s a) (a + (1 : Int)) ≤ (↑s.size : Int)) ∧ ∃ (l : List UInt8), BldM (3 : Nat) (sqN0 i m b R) (1 : Nat) l ∧ l.length + (s.extract a.toNat (max (overI s a) (a + (1 : Int))).toNat).size ≤ (100000000000000 : Nat) ∧ ∀ (n_1 : Nat) (b_1 : Option Blk) (R_1 : List (Option Blk)), BldM (3 : Nat) (cutH (3 : Nat) (sqN0 i m b R) (1 : Nat) n_1 b_1 R_1) (1 : Nat) (l ++ lst (s.extract a.toNat (max (overI s a) (a + (1 : Int))).toNat)) → G (0 : Nat) [Value.int IntKind.i64 v, Value.string s, Value.int IntKind.i64 i, Value.string (ByteArray.mk #[]), Value.int IntKind.i64 (0 : Int), Value.pointer (some (Addr.mk (0 : Nat) (0 : Nat) none)), Value.pointer (some (Addr.mk (1 : Nat) (0 : Nat) none)), Value.int IntKind.i64 (max (overI s a) (a + (1 : Int))), Value.int IntKind.i64 (max (overI s a) (a + (1 : Int))), Value.int IntKind.i64 n, Value.pointer (some (Addr.mk (2 : Nat) (0 : Nat) none))] (cutH (3 : Nat) (sqN0 i m b R) (1 : Nat) n_1 b_1 R_1)))))) := by kernel_rfl
theorem squote_Read.t1 (v : Int) (s : ByteArray) (i a e n : Int) (m : Nat) (b : Option Blk) (R : List (Option Blk)) (E : Env) (G : Nat → List Value → Heap → Prop) (K : LK) : mwp SQ (lt0) squote_Read.r1 (gK2 squote_Read.cs1999 sqCl G K) (zipE sqCl (sqV v s i a e n) ++ E) (sqN0 i m b R) = ((s.size ≤ (1000000 : Nat) ∧ (0 : Int) ≤ e ∧ e ≤ (↑s.size : Int)) ∧ br (decide ((foldI v s e).fst < (0 : Int))) (K Exit.ret [Value.int IntKind.i64 v, Value.string s, Value.int IntKind.i64 i, Value.string (ByteArray.mk #[]), Value.int IntKind.i64 (0 : Int), Value.pointer (some (Addr.mk (0 : Nat) (0 : Nat) none))] (Heap.mk ((fun (self : Heap) => self.1) (sqN0 i m b R)) (some (Blk.mk TF (2 : Nat) ([] ++ [Value.int IntKind.i64 (11 : Int), Value.int IntKind.i64 (foldI v s e).snd] ++ []) true) :: b :: fltB (11 : Int) i :: R))) (((-1000000 : Int) ≤ (foldI v s e).fst ∧ (foldI v s e).fst ≤ (1000000 : Int)) ∧ ∃ (l : List UInt8), BldM (3 : Nat) (sqN0 i m b R) (1 : Nat) l ∧ l.length + (strOf (foldedL (foldI v s e).fst)).size ≤ (100000000000000 : Nat) ∧ ∀ (n : Nat) (b_1 : Option Blk) (R_1 : List (Option Blk)), BldM (3 : Nat) (cutH (3 : Nat) (sqN0 i m b R) (1 : Nat) n b_1 R_1) (1 : Nat) (l ++ lst (strOf (foldedL (foldI v s e).fst))) → G (0 : Nat) [Value.int IntKind.i64 v, Value.string s, Value.int IntKind.i64 i, Value.string (ByteArray.mk #[]), Value.int IntKind.i64 (0 : Int), Value.pointer (some (Addr.mk (0 : Nat) (0 : Nat) none)), Value.pointer (some (Addr.mk (1 : Nat) (0 : Nat) none)), Value.int IntKind.i64 (foldI v s e).snd, Value.int IntKind.i64 e, Value.int IntKind.i64 (foldI v s e).fst, Value.pointer (some (Addr.mk (2 : Nat) (0 : Nat) none))] (cutH (3 : Nat) (sqN0 i m b R) (1 : Nat) n b_1 R_1))) := by kernel_rfl
theorem foldI_gt {v : Int} {s : ByteArray} {e : Int} (h0 : 0 ≤ e) (h1 : e ≤ s.size) (hb : 0 < brkI v s e) : e < (foldI v s e).2 := by
  unfold foldI
  rw [foldF, if_neg (by omega)]
  have hl := brkI_len v h0 h1
  split
  · dsimp only; omega
  · have := foldF_ok v s s.size (overI s (e + brkI v s e)) (0 + 1) (by have := overI_ge s (e + brkI v s e); omega) (overI_le _ _ hl) (by omega)
    have := overI_ge s (e + brkI v s e)
    omega
theorem foldedL_le {n m : Int} (h : n ≤ m) (h1 : 1 ≤ m) : ((foldedL n).length : Int) ≤ m := by
  unfold foldedL
  split
  · simpa using h1
  · rw [List.length_replicate]; omega
theorem sq_cut (i : Int) (m : Nat) (b : Option Blk) (R : List (Option Blk)) (n' : Nat) (b' : Option Blk) (R' : List (Option Blk)) : cutH 3 (sqN0 i m b R) 1 n' b' R' = sqN0 i n' b' R' := rfl
theorem pre2 (c d x y : UInt8) (t : List UInt8) : List.isPrefixOf [c, d] (x :: y :: t) = (decide (x = c) && decide (y = d)) := by
  rw [Bool.eq_iff_iff]
  simp only [List.isPrefixOf, Bool.and_eq_true, beq_iff_eq, decide_eq_true_eq, and_true]
  constructor <;> rintro ⟨rfl, rfl⟩ <;> exact ⟨rfl, rfl⟩
theorem pre1 (c d x : UInt8) : List.isPrefixOf [c, d] [x] = false := by
  simp only [List.isPrefixOf, Bool.and_false]
theorem hp_two {s : ByteArray} {a : Int} (h0 : 0 ≤ a) (h1 : a < s.size) : hp (s.extract a.toNat s.size) (ByteArray.mk #[(39 : UInt8), (39 : UInt8)]) = (decide (byteAt s a.toNat = 39) && decide (byteAt s (a + 1).toNat = 39)) := by
  have hl : (lst s).length = s.size := Array.length_toList
  have e : lst (s.extract a.toNat s.size) = (lst s).drop a.toNat := by
    rw [lst_ext, List.take_of_length_le (by rw [List.length_drop]; omega)]
  unfold hp
  rw [e, drop_lt (by omega), show (a + 1).toNat = a.toNat + 1 from by omega]
  rcases Nat.lt_or_ge (a.toNat + 1) s.size with h | h
  · rw [drop_lt h]; exact pre2 _ _ _ _ _
  · rw [show (lst s).drop (a.toNat + 1) = [] from List.drop_eq_nil_of_le (by omega), byteAt_out h]
    refine (pre1 _ _ _).trans ?_
    simp

structure SqS where
  (lb : Nat) (v : Int) (s : ByteArray) (i a e n : Int) (l : List UInt8) (k : Nat)
def SqS.out (y : SqS) : Except Int (List UInt8 × Int) := if y.lb = 0 then sqN y.v y.s y.i y.k y.a y.l else if (foldI y.v y.s y.e).1 < 0 then .error (foldI y.v y.s y.e).2 else sqN y.v y.s y.i y.k (foldI y.v y.s y.e).2 (y.l ++ foldedL (foldI y.v y.s y.e).1)
def SqS.inv (y : SqS) (h : Heap) : Prop := (∃ m b R, h = sqN0 y.i m b R) ∧ BldM 3 h 1 y.l ∧ y.s.size ≤ 1000000 ∧ 0 ≤ y.a ∧ y.a ≤ y.s.size ∧ (y.l.length : Int) ≤ y.a ∧ ((y.lb = 0 ∧ (y.s.size : Int) - y.a < y.k) ∨ (y.lb = 1 ∧ y.a ≤ y.e ∧ y.e ≤ y.s.size ∧ 0 < brkI y.v y.s y.e ∧ (y.s.size : Int) - y.e ≤ y.k))
def SqS.rest (y : SqS) : MCode := if y.lb = 0 then squote_Read.r0 else squote_Read.r1
theorem sq_round0 {y : SqS} {E : Env} {h : Heap} {K : LK} {G : Nat → List Value → Heap → Prop} (hi : y.inv h) (h0 : y.lb = 0) (hr : sqRes y.v y.s y.i K y.out)
    (hG : ∀ (z : SqS) (h' : Heap), z.inv h' → (if z.lb = 0 then 2 * z.k else 2 * z.k + 1) < 2 * y.k → sqRes z.v z.s z.i K z.out → G z.lb (sqV z.v z.s z.i z.a z.e z.n) h') :
    mwp SQ lt0 squote_Read.r0 (gK2 squote_Read.cs1999 sqCl G K) (zipE sqCl (sqV y.v y.s y.i y.a y.e y.n) ++ E) h := by
  obtain ⟨lb, v, s, i, a, e, n, l, k⟩ := y
  obtain ⟨⟨m, b, R, rfl⟩, B, hs, ha, ha2, hl, hlab⟩ := hi
  dsimp only at *
  subst h0
  have hk : (s.size : Int) - a < k := by rcases hlab with h | h <;> omega
  clear hlab
  obtain ⟨k, rfl⟩ : ∃ k', k = k' + 1 := ⟨k - 1, by omega⟩
  refine Eq.mpr (squote_Read.t0 v s i a e n m b R E G K) ?_
  unfold SqS.out at hr
  dsimp only at hr
  rw [if_pos rfl, sqN] at hr
  refine br_intro (fun hb => ?_) (fun hb => ?_)
  · simp only [decide_eq_true_eq] at hb
    rw [if_pos hb] at hr
    exact hr _ rfl
  simp only [decide_eq_false_iff_not] at hb
  rw [if_neg hb] at hr
  refine ⟨⟨ha, ha2⟩, br_intro (fun hc => ?_) (fun hc => ?_)⟩
  · rw [hp_two ha (by omega)] at hc
    simp only [Bool.and_eq_true, decide_eq_true_eq] at hc
    rw [if_pos hc] at hr
    have h2 : a + 2 ≤ s.size := by
      rcases Nat.lt_or_ge (a + 1).toNat s.size with h | h
      · omega
      · rw [byteAt_out h] at hc; exact absurd hc.2 (by decide)
    refine ⟨l, B, by show l.length + 1 ≤ _; omega, fun n' b' R' B' => ⟨by simp only [rng]; omega, ?_⟩⟩
    exact hG ⟨0, v, s, i, a + 2, e, n, l ++ [39], k⟩ _ ⟨⟨_, _, _, rfl⟩, B', hs, by dsimp only; omega, h2, by simp only [List.length_append, List.length_singleton]; omega, .inl ⟨rfl, by dsimp only; omega⟩⟩ (by dsimp only; rw [if_pos rfl]; omega) (by unfold SqS.out; dsimp only; rw [if_pos rfl]; exact hr)
  · rw [hp_two ha (by omega)] at hc
    have hc' : ¬ (byteAt s a.toNat = 39 ∧ byteAt s (a + 1).toNat = 39) := fun h => by rw [decide_eq_true h.1, decide_eq_true h.2] at hc; cases hc
    rw [if_neg hc'] at hr
    refine ⟨⟨ha, by omega⟩, br_intro (fun hd => ?_) (fun hd => ?_)⟩
    · simp only [decide_eq_true_eq] at hd
      have hd' : byteAt s a.toNat = 39 := UInt8.toNat_inj.1 (by exact_mod_cast hd)
      rw [if_pos hd'] at hr
      exact ⟨l, B, by omega, fun n' b' R' => ⟨by simp only [rng]; omega, hr _ rfl⟩⟩
    · simp only [decide_eq_false_iff_not] at hd
      have hd' : ¬ byteAt s a.toNat = 39 := fun h => hd (by rw [h]; rfl)
      rw [if_neg hd'] at hr
      have g1 := overI_ge s a
      have g2 := overI_le s a ha2
      refine ⟨hs, br_intro (fun he => ?_) (fun he => ?_)⟩
      · simp only [decide_eq_true_eq] at he
        rw [if_pos he] at hr
        exact hG ⟨1, v, s, i, a, overI s a, n, l, k⟩ _ ⟨⟨_, _, _, rfl⟩, B, hs, ha, ha2, hl, .inr ⟨rfl, g1, g2, he, by dsimp only; omega⟩⟩ (by dsimp only; rw [if_neg (by decide)]; omega) (by unfold SqS.out; dsimp only; rw [if_neg (by decide)]; exact hr)
      · simp only [decide_eq_false_iff_not] at he
        rw [if_neg he] at hr
        have hsz : (s.extract a.toNat (max (overI s a) (a + 1)).toNat).size = (bytesI s a (max (overI s a) (a + 1))).length := by rw [← bytesI_ext s ha (by omega), Array.length_toList]; rfl
        have hbl := bytesI_len s a (max (overI s a) (a + 1))
        refine ⟨by simp only [rng]; omega, ⟨ha, by omega, by omega⟩, l, B, by rw [hsz]; omega, fun n' b' R' B' => ?_⟩
        rw [show lst (s.extract a.toNat (max (overI s a) (a + 1)).toNat) = bytesI s a (max (overI s a) (a + 1)) from bytesI_ext s ha (by omega)] at B'
        exact hG ⟨0, v, s, i, max (overI s a) (a + 1), max (overI s a) (a + 1), n, l ++ bytesI s a (max (overI s a) (a + 1)), k⟩ _ ⟨⟨_, _, _, rfl⟩, B', hs, by dsimp only; omega, by dsimp only; omega, by simp only [List.length_append]; omega, .inl ⟨rfl, by dsimp only; omega⟩⟩ (by dsimp only; rw [if_pos rfl]; omega) (by unfold SqS.out; dsimp only; rw [if_pos rfl]; exact hr)
theorem sq_round1 {y : SqS} {E : Env} {h : Heap} {K : LK} {G : Nat → List Value → Heap → Prop} (hi : y.inv h) (h0 : y.lb ≠ 0) (hr : sqRes y.v y.s y.i K y.out)
    (hG : ∀ (z : SqS) (h' : Heap), z.inv h' → (if z.lb = 0 then 2 * z.k else 2 * z.k + 1) < 2 * y.k + 1 → sqRes z.v z.s z.i K z.out → G z.lb (sqV z.v z.s z.i z.a z.e z.n) h') :
    mwp SQ lt0 squote_Read.r1 (gK2 squote_Read.cs1999 sqCl G K) (zipE sqCl (sqV y.v y.s y.i y.a y.e y.n) ++ E) h := by
  obtain ⟨lb, v, s, i, a, e, n, l, k⟩ := y
  obtain ⟨⟨m, b, R, rfl⟩, B, hs, ha, ha2, hl, hlab⟩ := hi
  dsimp only at *
  obtain ⟨q1, q2, q3, q4⟩ : a ≤ e ∧ e ≤ s.size ∧ 0 < brkI v s e ∧ (s.size : Int) - e ≤ k := by
    rcases hlab with h | h
    · exact absurd h.1 h0
    · exact h.2
  refine Eq.mpr (squote_Read.t1 v s i a e n m b R E G K) ?_
  unfold SqS.out at hr
  dsimp only at hr
  rw [if_neg h0] at hr
  have hok := foldI_ok v (s := s) (i := e) (by omega) q2
  have hgt := foldI_gt (v := v) (s := s) (e := e) (by omega) q2 q3
  refine ⟨⟨hs, by omega, q2⟩, br_intro (fun hc => ?_) (fun hc => ?_)⟩
  · simp only [decide_eq_true_eq] at hc
    rw [if_pos hc] at hr
    exact hr _ rfl
  · simp only [decide_eq_false_iff_not] at hc
    rw [if_neg hc] at hr
    have hfn : (foldI v s e).1 ≤ (foldI v s e).2 - e := by
      have := foldF_ok v s (s.size + 1) e 0 (by omega) q2 (by omega)
      unfold foldI; omega
    have hfl := foldedL_le hfn (by omega)
    refine ⟨by omega, l, B, by rw [strOf_size]; omega, fun n' b' R' B' => ?_⟩
    rw [lst_strOf] at B'
    exact hG ⟨0, v, s, i, (foldI v s e).2, e, (foldI v s e).1, l ++ foldedL (foldI v s e).1, k⟩ _ ⟨⟨_, _, _, rfl⟩, B', hs, by dsimp only; omega, by dsimp only; omega, by simp only [List.length_append]; omega, .inl ⟨rfl, by dsimp only; omega⟩⟩ (by dsimp only; rw [if_pos rfl]; omega) (by unfold SqS.out; dsimp only; rw [if_pos rfl]; exact hr)
theorem squote_Read.te (v : Int) (s : ByteArray) (i : Int) (E : Env) (G : Nat → List Value → Heap → Prop) (K : LK) : mwp SQ (lt0) squote_Read.l1999 (gK2 squote_Read.cs1999 sqCl G K) (zipE squote_Read.cs1999 [.int .i64 v, .string s, .int .i64 i, .string ⟨#[]⟩, .int .i64 0, .pointer (some ⟨0, 0, none⟩)] ++ E) (lit [fltB 0 0]) =
    (rng .i64 (i + 1) ∧ br (decide (i < 0)) (K .ret [.int .i64 v, .string s, .int .i64 i, .string ⟨#[]⟩, .int .i64 0, .pointer (some ⟨0, 0, none⟩)] (Heap.mk 3 [fltB 11 i, some ⟨TB, 2, [.pointer none, .slice none 0 0], true⟩, fltB 11 i]))
      (br (decide ((s.size : Int) ≤ i)) (K .ret [.int .i64 v, .string s, .int .i64 i, .string ⟨#[]⟩, .int .i64 0, .pointer (some ⟨0, 0, none⟩)] (Heap.mk 3 [fltB 11 i, some ⟨TB, 2, [.pointer none, .slice none 0 0], true⟩, fltB 11 i]))
        ((0 ≤ i ∧ i < (s.size : Int)) ∧ br (!decide (((byteAt s i.toNat).toNat : Int) = 39)) (K .ret [.int .i64 v, .string s, .int .i64 i, .string ⟨#[]⟩, .int .i64 0, .pointer (some ⟨0, 0, none⟩)] (Heap.mk 3 [fltB 11 i, some ⟨TB, 2, [.pointer none, .slice none 0 0], true⟩, fltB 11 i]))
          (mwp SQ (lt0) squote_Read.r0 (gK2 squote_Read.cs1999 sqCl G K) (zipE sqCl (sqV v s i (i + 1) 0 0) ++ E) (sqN0 i 3 (some ⟨TB, 2, [.pointer none, .slice none 0 0], true⟩) []))))) := by kernel_rfl
theorem sq_start (i : Int) : BldM 3 (sqN0 i 3 (some ⟨TB, 2, [.pointer none, .slice none 0 0], true⟩) []) 1 [] := BldM.start (by omega) (Nat.le_refl _) ⟨_, rfl⟩ rfl
theorem squote_Read.lo1999 : LOk1 Tryd.prog squote_Read.nt squote_Read.sp1999 (.scope 1999 squote_Read.l1999) := by
  refine scope_resM SQ_ok SQ_mono lt0_mono SqS.lb SqS.rest (by simp only [squote_Read.l1999, LOk, and_true, true_and]) rfl rfl sqCl rfl (fun y => sqV y.v y.s y.i y.a y.e y.n) SqS.inv (fun y => if y.lb = 0 then 2 * y.k else 2 * y.k + 1) (fun y K _ => sqRes y.v y.s y.i K y.out) ?_ ?_ ?_
  · intro y h hi
    unfold SqS.rest
    rcases hi.2.2.2.2.2.2 with h | h
    · rw [if_pos h.1, h.1]; exact squote_Read.rf0
    · rw [if_neg (by omega), h.1]; exact squote_Read.rf1
  · rintro vs h K ⟨v, s, i, rfl, rfl, ⟨hs, hi1, hi2⟩, hr⟩ E hE
    refine Eq.mpr (squote_Read.te v s i E _ K) ?_
    unfold sqI at hr
    refine ⟨by simp only [rng]; omega, br_intro (fun hb => ?_) (fun hb => br_intro (fun hc => ?_) (fun hc => ?_))⟩
    · simp only [decide_eq_true_eq] at hb
      rw [if_pos (.inl hb)] at hr
      exact hr _ rfl
    · simp only [decide_eq_true_eq] at hc
      rw [if_pos (.inr (.inl hc))] at hr
      exact hr _ rfl
    · simp only [decide_eq_false_iff_not] at hb hc
      refine ⟨⟨by omega, by omega⟩, br_intro (fun hd => ?_) (fun hd => ?_)⟩
      · have hd' : byteAt s i.toNat ≠ 39 := fun h => by rw [h] at hd; cases hd
        rw [if_pos (.inr (.inr hd'))] at hr
        exact hr _ rfl
      · have hd' : byteAt s i.toNat = 39 := by
          simp only [Bool.not_eq_false', decide_eq_true_eq] at hd
          exact UInt8.toNat_inj.1 (by exact_mod_cast hd)
        rw [if_neg (by rintro (h | h | h) <;> first | omega | exact h hd')] at hr
        refine sq_round0 (y := ⟨0, v, s, i, i + 1, 0, 0, [], s.size + 2⟩) ⟨⟨_, _, _, rfl⟩, sq_start i, hs, by dsimp only; omega, by dsimp only; omega, by simp only [List.length_nil]; omega, .inl ⟨rfl, by dsimp only; omega⟩⟩ rfl ?_ fun z h' hz hlt hrz => ⟨z, rfl, rfl, hz, hrz⟩
        unfold SqS.out
        rw [if_pos rfl]; exact hr
  · intro x E h K hE hi hr
    unfold SqS.rest
    by_cases h0 : x.lb = 0
    · rw [if_pos h0]
      refine sq_round0 hi h0 hr fun z h' hz hlt hrz => ⟨z, rfl, rfl, hz, ?_, hrz⟩
      rw [if_pos h0]; exact hlt
    · rw [if_neg h0]
      refine sq_round1 hi h0 hr fun z h' hz hlt hrz => ⟨z, rfl, rfl, hz, ?_, hrz⟩
      rw [if_neg h0]; exact hlt
def sqT : Except Int (List UInt8 × Int) → List UInt8
  | .ok (t, _) => t
  | .error _ => []
def sqE : Except Int (List UInt8 × Int) → Int
  | .ok (_, e) => e
  | .error _ => 0
def sqC : Except Int (List UInt8 × Int) → Int
  | .ok _ => 0
  | .error _ => 11
def sqO : Except Int (List UInt8 × Int) → Int
  | .ok _ => 0
  | .error a => a
def squote_Read.LS : LT := (extL lt0 1999 squote_Read.sp1999)
theorem squote_Read.LS_mono : LMono squote_Read.LS := (extL_mono lt0_mono squote_Read.spm1999)
def squote_Read.s : List Value → Heap → VK → Prop
  | [.int .i64 v, .string s, .int .i64 i], h, K => (s.size ≤ 1000000 ∧ -10000000 ≤ i ∧ i ≤ 10000000) ∧ K (.tuple #[.string (strOf (sqT (sqI v s i))), .int .i64 (sqE (sqI v s i)), .agg #[.int .i64 (sqC (sqI v s i)), .int .i64 (sqO (sqI v s i))]]) h
  | _, _, _ => False
theorem squote_Read.t (v : Int) (s : ByteArray) (i : Int) (K : VK) : mwp SQ (squote_Read.LS) squote_Read.m (retK [.t 6, .t 7, .v 8 (some 2)] K) (argE 0 [.int .i64 v, .string s, .int .i64 i]) (lit []) = (∃ (v_1 : Int), ∃ (s_1 : ByteArray), ∃ (i_1 : Int), [Value.int IntKind.i64 v, Value.string s, Value.int IntKind.i64 i, Value.string (ByteArray.mk #[]), Value.int IntKind.i64 (0 : Int), Value.pointer (some (Addr.mk (0 : Nat) (0 : Nat) none))] = [Value.int IntKind.i64 v_1, Value.string s_1, Value.int IntKind.i64 i_1, Value.string (ByteArray.mk #[]), Value.int IntKind.i64 (0 : Int), Value.pointer (some (Addr.mk (0 : Nat) (0 : Nat) none))] ∧ Heap.mk (1 : Nat) [some (Blk.mk (30 : Nat) (2 : Nat) [Value.int IntKind.i64 (0 : Int), Value.int IntKind.i64 (0 : Int)] true)] = Heap.mk (1 : Nat) [fltB (0 : Int) (0 : Int)] ∧ (s_1.size ≤ (1000000 : Nat) ∧ (-10000000 : Int) ≤ i_1 ∧ i_1 ≤ (10000000 : Int)) ∧ match sqI v_1 s_1 i_1 with | Except.error a => ∀ (h' : Heap), mrow h'.l (0 : Nat) = fltB (11 : Int) a → behind (squote_Read.LS (1999 : Nat)).cs (squote_Read.LS (1999 : Nat)).ts ((((argE (0 : Nat) [Value.int IntKind.i64 v, Value.string s, Value.int IntKind.i64 i]).put (MOper.mk (some (6 : Nat)) (MOp.mv (MO.c (Value.string (ByteArray.mk #[])))) none).dst (Value.string (ByteArray.mk #[]))).put (MOper.mk (some (7 : Nat)) (MOp.mv (MO.c (Value.int IntKind.i64 (0 : Int)))) none).dst (Value.int IntKind.i64 (0 : Int))).put (MOper.mk (some (8 : Nat)) (MOp.new (30 : Nat) (2 : Nat) [Value.int IntKind.i64 (0 : Int), Value.int IntKind.i64 (0 : Int)]) none).dst (Value.pointer (some (Addr.mk (0 : Nat) (0 : Nat) none)))) (retK [MR.t (6 : Nat), MR.t (7 : Nat), MR.v (8 : Nat) (some (2 : Nat))] K) Exit.ret [Value.int IntKind.i64 v_1, Value.string s_1, Value.int IntKind.i64 i_1, Value.string (ByteArray.mk #[]), Value.int IntKind.i64 (0 : Int), Value.pointer (some (Addr.mk (0 : Nat) (0 : Nat) none))] h' | Except.ok (t, e) => ∀ (h' : Heap), mrow h'.l (0 : Nat) = fltB (0 : Int) (0 : Int) → behind (squote_Read.LS (1999 : Nat)).cs (squote_Read.LS (1999 : Nat)).ts ((((argE (0 : Nat) [Value.int IntKind.i64 v, Value.string s, Value.int IntKind.i64 i]).put (MOper.mk (some (6 : Nat)) (MOp.mv (MO.c (Value.string (ByteArray.mk #[])))) none).dst (Value.string (ByteArray.mk #[]))).put (MOper.mk (some (7 : Nat)) (MOp.mv (MO.c (Value.int IntKind.i64 (0 : Int)))) none).dst (Value.int IntKind.i64 (0 : Int))).put (MOper.mk (some (8 : Nat)) (MOp.new (30 : Nat) (2 : Nat) [Value.int IntKind.i64 (0 : Int), Value.int IntKind.i64 (0 : Int)]) none).dst (Value.pointer (some (Addr.mk (0 : Nat) (0 : Nat) none)))) (retK [MR.t (6 : Nat), MR.t (7 : Nat), MR.v (8 : Nat) (some (2 : Nat))] K) Exit.ret [Value.int IntKind.i64 v_1, Value.string s_1, Value.int IntKind.i64 i_1, Value.string (strOf t), Value.int IntKind.i64 e, Value.pointer (some (Addr.mk (0 : Nat) (0 : Nat) none))] h') := by kernel_rfl
theorem squote_Read.c (v : Int) (s : ByteArray) (i : Int) (h : Heap) (K : VK) (hp : s.size ≤ 1000000 ∧ -10000000 ≤ i ∧ i ≤ 10000000) (hh : K (.tuple #[.string (strOf (sqT (sqI v s i))), .int .i64 (sqE (sqI v s i)), .agg #[.int .i64 (sqC (sqI v s i)), .int .i64 (sqO (sqI v s i))]]) h) : ACalls Tryd.prog squote_Read.n [.int .i64 v, .string s, .int .i64 i] h K := by
  refine ACalls.alone rfl (acalls_mk SQ_ok squote_Read.ok (LS := squote_Read.LS) (by simp only [squote_Read.m, LOk, and_true, true_and]; (repeat' apply And.intro) <;> first | trivial | exact squote_Read.lo1999) (Nat.le_of_ble_eq_true rfl) (Eq.mpr (squote_Read.t v s i (fun v _ => ck (cleanT v) (K v h))) ?_))
  refine ⟨v, s, i, rfl, rfl, hp, ?_⟩
  generalize sqI v s i = o at *
  cases o with
  | error a =>
    rintro ⟨n, _ | ⟨x, L⟩⟩ e
    · cases e
    · have ex : x = fltB 11 a := e
      subst ex
      exact ck_iff.2 ⟨rfl, hh⟩
  | ok te =>
    obtain ⟨t, e1⟩ := te
    rintro ⟨n, _ | ⟨x, L⟩⟩ e
    · cases e
    · have ex : x = fltB 0 0 := e
      subst ex
      exact ck_iff.2 ⟨rfl, hh⟩
theorem squote_Read.sc : ∀ vs h K, squote_Read.s vs h K → ACalls Tryd.prog squote_Read.n vs h K := by
  intro vs h K hh; unfold squote_Read.s at hh; split at hh
  · exact squote_Read.c _ _ _ _ _ hh.1 hh.2
  · exact hh.elim
theorem squote_Read.sm : SpecMono squote_Read.s := by
  intro vs h K K' hk hh; unfold squote_Read.s at hh ⊢; split at hh
  · exact ⟨hh.1, hk _ _ hh.2⟩
  · exact hh.elim
theorem squote_Read.sd : SpecDet squote_Read.s := by
  intro vs h K hh; unfold squote_Read.s at hh; split at hh
  · exact ⟨_, hh.2, hh.1, rfl⟩
  · exact hh.elim

end Go.Mini
