/- Plain texts: where one goes on; the whole text. Conditions: sizes. -/
import Derived.Test.YtcdkcdapbadkaaaDoorPl2
import Derived.Test.YtcdkcdapbadkaaaDoorBld
namespace Go.Mini
open Go Go.RowKit Go.Proofs
set_option maxRecDepth 100000
set_option linter.unusedVariables false
set_option linter.unusedSimpArgs false

def nxtI (v : Int) (s : ByteArray) (a : Int) : Int := endI v s a + brkI v s (endI v s a)
def refuse (v : Int) (s : ByteArray) (p a : Int) : Bool := decide (indI s a (endI v s a) (nxtI v s a) ≤ p) || decide (0 < mrkI s a (endI v s a) (nxtI v s a)) || decide (byteAt s (overI s a).toNat = 35) || (decide (byteAt s (overI s a).toNat = 58) && stopI v s (overI s a + 1) false)
def onF (v : Int) (s : ByteArray) (p : Int) : Nat → Int → Int → Int × Int
  | 0, _, _ => (-1, 0)
  | k + 1, a, n => if s.size ≤ a then (-1, 0) else if blnI s a (endI v s a) (nxtI v s a) = true then onF v s p k (nxtI v s a) (n + 1) else if refuse v s p a = true then (-1, 0) else (overI s a, n)
def onI (v : Int) (s : ByteArray) (e p : Int) : Int × Int := if overI s e < endI v s (overI s e) then (-1, 0) else onF v s p (s.size + 1) (nxtI v s (overI s e)) 0

theorem brkI_len (v : Int) {s : ByteArray} {i : Int} (h0 : 0 ≤ i) (h1 : i ≤ s.size) : i + brkI v s i ≤ s.size := by
  have key : ∀ (old : Bool) (l : List UInt8), brkL old l ≤ l.length := fun old l => by
    match l with
    | [] => simp [brkL]
    | [c] =>
      rw [brkL]
      repeat' split
      all_goals simp_all
    | [c, d] =>
      rw [brkL]
      repeat' split
      all_goals simp_all
    | c :: d :: f :: m =>
      rw [brkL]
      repeat' split
      all_goals (simp only [List.length_cons]; omega)
  unfold brkI
  rw [if_pos h0]
  have := key (decide (v = 11)) ((lst s).drop i.toNat)
  rw [List.length_drop, Array.length_toList] at this
  have : s.data.size = s.size := rfl
  omega
theorem nxtI_le (v : Int) {s : ByteArray} {a : Int} (h0 : 0 ≤ a) (h1 : a ≤ s.size) : nxtI v s a ≤ s.size := by
  unfold nxtI
  have h2 := endI_ge v s a
  exact brkI_len v (by omega) (endI_le v h0 h1)
theorem nxtI_ge (v : Int) (s : ByteArray) (a : Int) : a ≤ nxtI v s a := by
  unfold nxtI
  have h1 := endI_ge v s a
  have h2 := brkI_nn v s (endI v s a)
  omega
theorem nxtI_lt {v : Int} {s : ByteArray} {a : Int} (h0 : 0 ≤ a) (h1 : a < s.size) : a < nxtI v s a := by
  unfold nxtI
  have h2 := endI_ge v s a
  rcases Int.lt_or_eq_of_le h2 with h3 | h3
  · have := brkI_nn v s (endI v s a); omega
  · rw [← h3]
    have hb : 0 < brkI v s a := by
      by_cases hb : 0 < brkI v s a
      · exact hb
      · have h4 := endI_next h0 h1 hb
        have h5 := endI_ge v s (a + 1)
        omega
    omega
theorem overI_lt {s : ByteArray} {a e n : Int} (h : okLn s a e n = true) (hb : blnI s a e n = false) : overI s a < e := by
  have h1 := okLn_iff.1 h
  unfold blnI at hb
  rw [h, Bool.true_and] at hb
  have key : ∀ (m : Nat) (l : List UInt8), (l.take m).all isBl = false → bls l < m := fun m => by
    induction m with
    | zero => intro l h; simp at h
    | succ m ih =>
      intro l h
      cases l with
      | nil => simp at h
      | cons c l =>
        unfold bls
        split
        · rename_i hc
          rw [List.take_succ_cons, List.all_cons, hc, Bool.true_and] at h
          have := ih l h
          omega
        · omega
  unfold saysL at hb
  rw [if_pos h] at hb
  have := key _ _ hb
  unfold overI
  rw [if_pos h1.1]
  omega
def SN : CT := (extC SM targumref17_Part.n targumref17_Part.s)
theorem SN_ok : COk Tryd.prog SN := (extC_ok SM_ok targumref17_Part.sc targumref17_Part.sd)
theorem SN_mono : CMono SN := (extC_mono SM_mono targumref17_Part.sm)
def plain_on.sp1999 : LSpec := ⟨plain_on.cs1999, plain_on.ts1999, fun vs h K => match vs with
  | [.int .i64 v, .string s, .int .i64 e, .int .i64 p, .int .i64 q, .int .i64 r] => h = lit [] ∧ (s.size ≤ 1000000 ∧ 0 ≤ e ∧ e ≤ s.size) ∧ (∀ x y z : Int, K .ret [.int .i64 v, .string s, .int .i64 e, .int .i64 p, .int .i64 (onI v s e p).1, .int .i64 (onI v s e p).2] (lit [lnB x y z]))
  | _ => False⟩
theorem plain_on.spm1999 : LSpecMono plain_on.sp1999 := by
  intro vs h K K' hk hh; unfold plain_on.sp1999 at hh ⊢; dsimp only at hh ⊢; split at hh
  · obtain ⟨h2, h3, h4⟩ := hh; exact ⟨h2, h3, fun x y z => hk _ _ _ (h4 x y z)⟩
  · exact hh.elim
def plain_on.r1999 : MCode := (mfind plain_on.l1999 0).getD .skip
theorem plain_on.rf1999 : mfind plain_on.l1999 0 = some plain_on.r1999 := by kernel_rfl
theorem plain_on.ta1999 (v : Int) (s : ByteArray) (e : Int) (p : Int) (q : Int) (r : Int) (E : Env) (G : Nat → List Value → Heap → Prop) (K : LK) : mwp SN (lt0) plain_on.l1999 (gK2 plain_on.cs1999 [0, 1, 2, 3, 8, 9, 10, 11] G K) (zipE plain_on.cs1999 [.int .i64 v, .string s, .int .i64 e, .int .i64 p, .int .i64 q, .int .i64 r] ++ E) (lit []) = (s.size ≤ (1000000 : Nat) ∧ (s.size ≤ (1000000 : Nat) ∧ (0 : Int) ≤ overI s e ∧ overI s e ≤ (1000000 : Int)) ∧ br (decide (overI s e < endI v s (overI s e))) (K Exit.ret [Value.int IntKind.i64 v, Value.string s, Value.int IntKind.i64 e, Value.int IntKind.i64 p, Value.int IntKind.i64 (-1 : Int), Value.int IntKind.i64 (0 : Int)] (Heap.mk (1 : Nat) [some (Blk.mk (58 : Nat) (3 : Nat) ([] ++ [Value.int IntKind.i64 (overI s e), Value.int IntKind.i64 (endI v s (overI s e)), Value.int IntKind.i64 (endI v s (overI s e) + brkI v s (endI v s (overI s e)))] ++ []) true)])) ((s.size ≤ (1000000 : Nat) ∧ (0 : Int) ≤ endI v s (overI s e) + brkI v s (endI v s (overI s e)) ∧ endI v s (overI s e) + brkI v s (endI v s (overI s e)) ≤ (1000000 : Int)) ∧ br (decide ((↑s.size : Int) ≤ endI v s (overI s e) + brkI v s (endI v s (overI s e)))) (K Exit.ret [Value.int IntKind.i64 v, Value.string s, Value.int IntKind.i64 e, Value.int IntKind.i64 p, Value.int IntKind.i64 (-1 : Int), Value.int IntKind.i64 (0 : Int)] (Heap.mk (1 : Nat) [some (Blk.mk (58 : Nat) (3 : Nat) ([] ++ [Value.int IntKind.i64 (endI v s (overI s e) + brkI v s (endI v s (overI s e))), Value.int IntKind.i64 (endI v s (endI v s (overI s e) + brkI v s (endI v s (overI s e)))), Value.int IntKind.i64 (endI v s (endI v s (overI s e) + brkI v s (endI v s (overI s e))) + brkI v s (endI v s (endI v s (overI s e) + brkI v s (endI v s (overI s e)))))] ++ []) true)])) (s.size ≤ (1000000 : Nat) ∧ br (blnI s (endI v s (overI s e) + brkI v s (endI v s (overI s e))) (endI v s (endI v s (overI s e) + brkI v s (endI v s (overI s e)))) (endI v s (endI v s (overI s e) + brkI v s (endI v s (overI s e))) + brkI v s (endI v s (endI v s (overI s e) + brkI v s (endI v s (overI s e)))))) (rng IntKind.i64 ((0 : Int) + (1 : Int)) ∧ G (0 : Nat) [Value.int IntKind.i64 v, Value.string s, Value.int IntKind.i64 e, Value.int IntKind.i64 p, Value.int IntKind.i64 q, Value.int IntKind.i64 r, Value.pointer (some (Addr.mk (0 : Nat) (0 : Nat) none)), Value.int IntKind.i64 ((0 : Int) + (1 : Int))] (Heap.mk (1 : Nat) [some (Blk.mk (58 : Nat) (3 : Nat) ([] ++ [Value.int IntKind.i64 (endI v s (overI s e) + brkI v s (endI v s (overI s e))), Value.int IntKind.i64 (endI v s (endI v s (overI s e) + brkI v s (endI v s (overI s e)))), Value.int IntKind.i64 (endI v s (endI v s (overI s e) + brkI v s (endI v s (overI s e))) + brkI v s (endI v s (endI v s (overI s e) + brkI v s (endI v s (overI s e)))))] ++ []) true)])) (s.size ≤ (1000000 : Nat) ∧ s.size ≤ (1000000 : Nat) ∧ br (decide (indI s (endI v s (overI s e) + brkI v s (endI v s (overI s e))) (endI v s (endI v s (overI s e) + brkI v s (endI v s (overI s e)))) (endI v s (endI v s (overI s e) + brkI v s (endI v s (overI s e))) + brkI v s (endI v s (endI v s (overI s e) + brkI v s (endI v s (overI s e))))) ≤ p)) (K Exit.ret [Value.int IntKind.i64 v, Value.string s, Value.int IntKind.i64 e, Value.int IntKind.i64 p, Value.int IntKind.i64 (-1 : Int), Value.int IntKind.i64 (0 : Int)] (Heap.mk (1 : Nat) [some (Blk.mk (58 : Nat) (3 : Nat) ([] ++ [Value.int IntKind.i64 (endI v s (overI s e) + brkI v s (endI v s (overI s e))), Value.int IntKind.i64 (endI v s (endI v s (overI s e) + brkI v s (endI v s (overI s e)))), Value.int IntKind.i64 (endI v s (endI v s (overI s e) + brkI v s (endI v s (overI s e))) + brkI v s (endI v s (endI v s (overI s e) + brkI v s (endI v s (overI s e)))))] ++ []) true)])) (s.size ≤ (1000000 : Nat) ∧ br (decide ((0 : Int) < mrkI s (endI v s (overI s e) + brkI v s (endI v s (overI s e))) (endI v s (endI v s (overI s e) + brkI v s (endI v s (overI s e)))) (endI v s (endI v s (overI s e) + brkI v s (endI v s (overI s e))) + brkI v s (endI v s (endI v s (overI s e) + brkI v s (endI v s (overI s e))))))) (K Exit.ret [Value.int IntKind.i64 v, Value.string s, Value.int IntKind.i64 e, Value.int IntKind.i64 p, Value.int IntKind.i64 (-1 : Int), Value.int IntKind.i64 (0 : Int)] (Heap.mk (1 : Nat) [some (Blk.mk (58 : Nat) (3 : Nat) ([] ++ [Value.int IntKind.i64 (endI v s (overI s e) + brkI v s (endI v s (overI s e))), Value.int IntKind.i64 (endI v s (endI v s (overI s e) + brkI v s (endI v s (overI s e)))), Value.int IntKind.i64 (endI v s (endI v s (overI s e) + brkI v s (endI v s (overI s e))) + brkI v s (endI v s (endI v s (overI s e) + brkI v s (endI v s (overI s e)))))] ++ []) true)])) (((0 : Int) ≤ overI s (endI v s (overI s e) + brkI v s (endI v s (overI s e))) ∧ overI s (endI v s (overI s e) + brkI v s (endI v s (overI s e))) < (↑s.size : Int)) ∧ br (decide ((↑(byteAt s (overI s (endI v s (overI s e) + brkI v s (endI v s (overI s e)))).toNat).toNat : Int) = (35 : Int))) (K Exit.ret [Value.int IntKind.i64 v, Value.string s, Value.int IntKind.i64 e, Value.int IntKind.i64 p, Value.int IntKind.i64 (-1 : Int), Value.int IntKind.i64 (0 : Int)] (Heap.mk (1 : Nat) [some (Blk.mk (58 : Nat) (3 : Nat) ([] ++ [Value.int IntKind.i64 (endI v s (overI s e) + brkI v s (endI v s (overI s e))), Value.int IntKind.i64 (endI v s (endI v s (overI s e) + brkI v s (endI v s (overI s e)))), Value.int IntKind.i64 (endI v s (endI v s (overI s e) + brkI v s (endI v s (overI s e))) + brkI v s (endI v s (endI v s (overI s e) + brkI v s (endI v s (overI s e)))))] ++ []) true)])) (((0 : Int) ≤ overI s (endI v s (overI s e) + brkI v s (endI v s (overI s e))) ∧ overI s (endI v s (overI s e) + brkI v s (endI v s (overI s e))) < (↑s.size : Int)) ∧ br (decide ((↑(byteAt s (overI s (endI v s (overI s e) + brkI v s (endI v s (overI s e)))).toNat).toNat : Int) = (58 : Int))) (rng IntKind.i64 (overI s (endI v s (overI s e) + brkI v s (endI v s (overI s e))) + (1 : Int)) ∧ (0 : Int) ≤ overI s (endI v s (overI s e) + brkI v s (endI v s (overI s e))) + (1 : Int) ∧ br (stopI v s (overI s (endI v s (overI s e) + brkI v s (endI v s (overI s e))) + (1 : Int)) false) (K Exit.ret [Value.int IntKind.i64 v, Value.string s, Value.int IntKind.i64 e, Value.int IntKind.i64 p, Value.int IntKind.i64 (-1 : Int), Value.int IntKind.i64 (0 : Int)] (Heap.mk (1 : Nat) [some (Blk.mk (58 : Nat) (3 : Nat) ([] ++ [Value.int IntKind.i64 (endI v s (overI s e) + brkI v s (endI v s (overI s e))), Value.int IntKind.i64 (endI v s (endI v s (overI s e) + brkI v s (endI v s (overI s e)))), Value.int IntKind.i64 (endI v s (endI v s (overI s e) + brkI v s (endI v s (overI s e))) + brkI v s (endI v s (endI v s (overI s e) + brkI v s (endI v s (overI s e)))))] ++ []) true)])) (K Exit.ret [Value.int IntKind.i64 v, Value.string s, Value.int IntKind.i64 e, Value.int IntKind.i64 p, Value.int IntKind.i64 (overI s (endI v s (overI s e) + brkI v s (endI v s (overI s e)))), Value.int IntKind.i64 (0 : Int)] (Heap.mk (1 : Nat) [some (Blk.mk (58 : Nat) (3 : Nat) ([] ++ [Value.int IntKind.i64 (endI v s (overI s e) + brkI v s (endI v s (overI s e))), Value.int IntKind.i64 (endI v s (endI v s (overI s e) + brkI v s (endI v s (overI s e)))), Value.int IntKind.i64 (endI v s (endI v s (overI s e) + brkI v s (endI v s (overI s e))) + brkI v s (endI v s (endI v s (overI s e) + brkI v s (endI v s (overI s e)))))] ++ []) true)]))) (K Exit.ret [Value.int IntKind.i64 v, Value.string s, Value.int IntKind.i64 e, Value.int IntKind.i64 p, Value.int IntKind.i64 (overI s (endI v s (overI s e) + brkI v s (endI v s (overI s e)))), Value.int IntKind.i64 (0 : Int)] (Heap.mk (1 : Nat) [some (Blk.mk (58 : Nat) (3 : Nat) ([] ++ [Value.int IntKind.i64 (endI v s (overI s e) + brkI v s (endI v s (overI s e))), Value.int IntKind.i64 (endI v s (endI v s (overI s e) + brkI v s (endI v s (overI s e)))), Value.int IntKind.i64 (endI v s (endI v s (overI s e) + brkI v s (endI v s (overI s e))) + brkI v s (endI v s (endI v s (overI s e) + brkI v s (endI v s (overI s e)))))] ++ []) true)]))))))))) := by kernel_rfl
theorem plain_on.tb1999 (v : Int) (s : ByteArray) (e : Int) (p : Int) (q : Int) (r : Int) (n : Int) (x : Int) (y : Int) (z : Int) (k : Nat) (E : Env) (G : Nat → List Value → Heap → Prop) (K : LK) : mwp SN (lt0) plain_on.r1999 (gK2 plain_on.cs1999 [0, 1, 2, 3, 8, 9, 10, 11] G K) (zipE [0, 1, 2, 3, 8, 9, 10, 11] [.int .i64 v, .string s, .int .i64 e, .int .i64 p, .int .i64 q, .int .i64 r, .pointer (some ⟨0, 0, none⟩), .int .i64 n] ++ E) (lit [lnB x y z]) = ((s.size ≤ (1000000 : Nat) ∧ (0 : Int) ≤ z ∧ z ≤ (1000000 : Int)) ∧ br (decide ((↑s.size : Int) ≤ z)) (K Exit.ret [Value.int IntKind.i64 v, Value.string s, Value.int IntKind.i64 e, Value.int IntKind.i64 p, Value.int IntKind.i64 (-1 : Int), Value.int IntKind.i64 (0 : Int)] (Heap.mk (1 : Nat) [some (Blk.mk TL (3 : Nat) ([] ++ [Value.int IntKind.i64 z, Value.int IntKind.i64 (endI v s z), Value.int IntKind.i64 (endI v s z + brkI v s (endI v s z))] ++ []) true)])) (s.size ≤ (1000000 : Nat) ∧ br (blnI s z (endI v s z) (endI v s z + brkI v s (endI v s z))) (rng IntKind.i64 (n + (1 : Int)) ∧ G (0 : Nat) [Value.int IntKind.i64 v, Value.string s, Value.int IntKind.i64 e, Value.int IntKind.i64 p, Value.int IntKind.i64 q, Value.int IntKind.i64 r, Value.pointer (some (Addr.mk (0 : Nat) (0 : Nat) none)), Value.int IntKind.i64 (n + (1 : Int))] (Heap.mk (1 : Nat) [some (Blk.mk TL (3 : Nat) ([] ++ [Value.int IntKind.i64 z, Value.int IntKind.i64 (endI v s z), Value.int IntKind.i64 (endI v s z + brkI v s (endI v s z))] ++ []) true)])) (s.size ≤ (1000000 : Nat) ∧ s.size ≤ (1000000 : Nat) ∧ br (decide (indI s z (endI v s z) (endI v s z + brkI v s (endI v s z)) ≤ p)) (K Exit.ret [Value.int IntKind.i64 v, Value.string s, Value.int IntKind.i64 e, Value.int IntKind.i64 p, Value.int IntKind.i64 (-1 : Int), Value.int IntKind.i64 (0 : Int)] (Heap.mk (1 : Nat) [some (Blk.mk TL (3 : Nat) ([] ++ [Value.int IntKind.i64 z, Value.int IntKind.i64 (endI v s z), Value.int IntKind.i64 (endI v s z + brkI v s (endI v s z))] ++ []) true)])) (s.size ≤ (1000000 : Nat) ∧ br (decide ((0 : Int) < mrkI s z (endI v s z) (endI v s z + brkI v s (endI v s z)))) (K Exit.ret [Value.int IntKind.i64 v, Value.string s, Value.int IntKind.i64 e, Value.int IntKind.i64 p, Value.int IntKind.i64 (-1 : Int), Value.int IntKind.i64 (0 : Int)] (Heap.mk (1 : Nat) [some (Blk.mk TL (3 : Nat) ([] ++ [Value.int IntKind.i64 z, Value.int IntKind.i64 (endI v s z), Value.int IntKind.i64 (endI v s z + brkI v s (endI v s z))] ++ []) true)])) (((0 : Int) ≤ overI s z ∧ overI s z < (↑s.size : Int)) ∧ br (decide ((↑(byteAt s (overI s z).toNat).toNat : Int) = (35 : Int))) (K Exit.ret [Value.int IntKind.i64 v, Value.string s, Value.int IntKind.i64 e, Value.int IntKind.i64 p, Value.int IntKind.i64 (-1 : Int), Value.int IntKind.i64 (0 : Int)] (Heap.mk (1 : Nat) [some (Blk.mk TL (3 : Nat) ([] ++ [Value.int IntKind.i64 z, Value.int IntKind.i64 (endI v s z), Value.int IntKind.i64 (endI v s z + brkI v s (endI v s z))] ++ []) true)])) (((0 : Int) ≤ overI s z ∧ overI s z < (↑s.size : Int)) ∧ br (decide ((↑(byteAt s (overI s z).toNat).toNat : Int) = (58 : Int))) (rng IntKind.i64 (overI s z + (1 : Int)) ∧ (0 : Int) ≤ overI s z + (1 : Int) ∧ br (stopI v s (overI s z + (1 : Int)) false) (K Exit.ret [Value.int IntKind.i64 v, Value.string s, Value.int IntKind.i64 e, Value.int IntKind.i64 p, Value.int IntKind.i64 (-1 : Int), Value.int IntKind.i64 (0 : Int)] (Heap.mk (1 : Nat) [some (Blk.mk TL (3 : Nat) ([] ++ [Value.int IntKind.i64 z, Value.int IntKind.i64 (endI v s z), Value.int IntKind.i64 (endI v s z + brkI v s (endI v s z))] ++ []) true)])) (K Exit.ret [Value.int IntKind.i64 v, Value.string s, Value.int IntKind.i64 e, Value.int IntKind.i64 p, Value.int IntKind.i64 (overI s z), Value.int IntKind.i64 n] (Heap.mk (1 : Nat) [some (Blk.mk TL (3 : Nat) ([] ++ [Value.int IntKind.i64 z, Value.int IntKind.i64 (endI v s z), Value.int IntKind.i64 (endI v s z + brkI v s (endI v s z))] ++ []) true)]))) (K Exit.ret [Value.int IntKind.i64 v, Value.string s, Value.int IntKind.i64 e, Value.int IntKind.i64 p, Value.int IntKind.i64 (overI s z), Value.int IntKind.i64 n] (Heap.mk (1 : Nat) [some (Blk.mk TL (3 : Nat) ([] ++ [Value.int IntKind.i64 z, Value.int IntKind.i64 (endI v s z), Value.int IntKind.i64 (endI v s z + brkI v s (endI v s z))] ++ []) true)])))))))) := by kernel_rfl
theorem plain_on.lo1999 : LOk1 Tryd.prog plain_on.nt plain_on.sp1999 (.scope 1999 plain_on.l1999) := by
  refine scope_resC (σ := Int × ByteArray × Int × Int × Int × Int × Int × Int × Int × Int × Nat) (l := 0) (rest := plain_on.r1999) SN_ok SN_mono (lt0_mono) (LS := lt0) (by simp only [plain_on.l1999, LOk, and_true, true_and]) rfl rfl [0, 1, 2, 3, 8, 9, 10, 11] rfl plain_on.rf1999 (fun ⟨v, s, e, p, q, r, n, x, y, z, k⟩ => [.int .i64 v, .string s, .int .i64 e, .int .i64 p, .int .i64 q, .int .i64 r, .pointer (some ⟨0, 0, none⟩), .int .i64 n]) (fun ⟨v, s, e, p, q, r, n, x, y, z, k⟩ => lit [lnB x y z]) (fun ⟨v, s, e, p, q, r, n, x, y, z, k⟩ => s.size ≤ 1000000 ∧ 0 ≤ z ∧ z ≤ s.size ∧ 0 ≤ n ∧ n ≤ z ∧ s.size - z < k) (fun ⟨v, s, e, p, q, r, n, x, y, z, k⟩ => k) 0 (fun ⟨v, s, e, p, q, r, n, x, y, z, k⟩ K => ∀ x y z' : Int, K .ret [.int .i64 v, .string s, .int .i64 e, .int .i64 p, .int .i64 (onF v s p k z n).1, .int .i64 (onF v s p k z n).2] (lit [lnB x y z'])) ?_ ?_
  · intro vs h K hh; unfold plain_on.sp1999 at hh; dsimp only at hh; split at hh
    · rename_i v s e p q r
      obtain ⟨h2, hp, hK⟩ := hh
      refine ⟨h2 ▸ rfl, fun E G hE hG => ?_⟩
      subst h2
      dsimp only at hG
      refine Eq.mpr (plain_on.ta1999 _ _ _ _ _ _ E G (fun x => In 0 (K x))) ?_
      obtain ⟨hs, he0, hle0⟩ := hp
      have ho1' := overI_ge s e
      have ho2' := overI_le s e hle0
      have h1 := nxtI_le v (s := s) (a := overI s e) (by omega) ho2'
      have hz0 := nxtI_ge v s (overI s e)
      unfold onI at hK
      refine ⟨hs, ⟨hs, by omega, by omega⟩, br_intro (fun hb => ?_) (fun hb => ?_)⟩
      · simp only [decide_eq_true_eq] at hb
        rw [if_pos hb] at hK
        exact .inl (hK (overI s e) (endI v s (overI s e)) (nxtI v s (overI s e)))
      simp only [decide_eq_false_iff_not] at hb
      rw [if_neg hb] at hK
      clear hb
      have hzz : endI v s (overI s e) + brkI v s (endI v s (overI s e)) = nxtI v s (overI s e) := rfl
      rw [hzz]
      have h0 : 0 ≤ nxtI v s (overI s e) := by omega
      clear hz0 hzz ho1' ho2'
      generalize nxtI v s (overI s e) = z at *
      have hge := endI_ge v s z
      have hle := endI_le v h0 h1
      have hn0 := nxtI_le v h0 h1
      have hnn := brkI_nn v s (endI v s z)
      rw [onF] at hK
      refine ⟨⟨hs, h0, by omega⟩, br_intro (fun hb => ?_) (fun hb => ?_)⟩
      · simp only [decide_eq_true_eq] at hb
        rw [if_pos hb] at hK
        exact .inl (hK z (endI v s z) (nxtI v s z))
      simp only [decide_eq_false_iff_not] at hb
      rw [if_neg hb] at hK
      have hok : okLn s z (endI v s z) (nxtI v s z) = true := okLn_iff.2 ⟨h0, hge, by unfold nxtI; omega, hn0⟩
      have hadv : z < nxtI v s z := nxtI_lt h0 (by omega)
      refine ⟨hs, br_intro (fun hc => ?_) (fun hc => ?_)⟩
      · have hc' : blnI s z (endI v s z) (nxtI v s z) = true := hc
        rw [if_pos hc'] at hK
        exact ⟨by simp only [rng]; omega, hG (v, s, e, p, q, r, 0 + 1, z, endI v s z, nxtI v s z, s.size) _ _ ⟨hs, by dsimp only; omega, by dsimp only; omega, by dsimp only; omega, by dsimp only; omega, by dsimp only; omega⟩ hK (.inl ⟨rfl, rfl⟩)⟩
      have hc' : blnI s z (endI v s z) (nxtI v s z) = false := hc
      rw [if_neg (by rw [hc']; decide)] at hK
      have ho := overI_lt hok hc'
      have ho1 := overI_ge s z
      have ret : refuse v s p z = true → In 0 (K .ret) [.int .i64 v, .string s, .int .i64 e, .int .i64 p, .int .i64 (-1), .int .i64 0] (lit [lnB z (endI v s z) (nxtI v s z)]) := fun h => by
        rw [if_pos h] at hK
        exact .inl (hK z (endI v s z) (nxtI v s z))
      have fine : refuse v s p z = false → In 0 (K .ret) [.int .i64 v, .string s, .int .i64 e, .int .i64 p, .int .i64 (overI s z), .int .i64 0] (lit [lnB z (endI v s z) (nxtI v s z)]) := fun h => by
        rw [if_neg (by rw [h]; decide)] at hK
        exact .inl (hK z (endI v s z) (nxtI v s z))
      unfold refuse at ret fine
      refine ⟨hs, hs, br_intro (fun hd => ?_) (fun hd => ?_)⟩
      · exact ret (by rw [show decide (indI s z (endI v s z) (nxtI v s z) ≤ p) = true from hd]; rfl)
      refine ⟨hs, br_intro (fun he => ?_) (fun he => ?_)⟩
      · exact ret (by rw [show decide (0 < mrkI s z (endI v s z) (nxtI v s z)) = true from he, Bool.or_true]; rfl)
      rw [show decide (indI s z (endI v s z) (nxtI v s z) ≤ p) = false from hd, show decide (0 < mrkI s z (endI v s z) (nxtI v s z)) = false from he] at ret fine
      have hlt : overI s z < s.size := by omega
      refine ⟨by omega, br_intro (fun hf => ?_) (fun hf => ?_)⟩
      · have hc35 : byteAt s (overI s z).toNat = 35 := UInt8.toNat_inj.1 (show (byteAt s (overI s z).toNat).toNat = 35 by simp only [decide_eq_true_eq] at hf; omega)
        exact ret (by rw [hc35]; rfl)
      have hn35 : ¬ byteAt s (overI s z).toNat = 35 := fun e => by rw [e] at hf; exact absurd hf (by decide)
      rw [decide_eq_false hn35] at ret fine
      refine ⟨by omega, br_intro (fun hg => ?_) (fun hg => ?_)⟩
      · have hc58 : byteAt s (overI s z).toNat = 58 := UInt8.toNat_inj.1 (show (byteAt s (overI s z).toNat).toNat = 58 by simp only [decide_eq_true_eq] at hg; omega)
        rw [hc58] at ret fine
        refine ⟨by simp only [rng]; omega, by omega, br_intro (fun hx => ?_) (fun hx => ?_)⟩
        · exact ret (by rw [hx]; rfl)
        · exact fine (by rw [hx]; rfl)
      · have hn58 : ¬ byteAt s (overI s z).toNat = 58 := fun e => by rw [e] at hg; exact absurd hg (by decide)
        rw [decide_eq_false hn58] at fine
        exact fine rfl
    · exact hh.elim
  rintro ⟨v, s, e, p, q, r, n, x, y, z, k⟩ E G K hE hp hG hK
  dsimp only at hp hG hK
  refine Eq.mpr (plain_on.tb1999 v s e p q r n x y z k E G (fun x => In 0 (K x))) ?_
  have main : ∀ a : Int, True := fun _ => trivial
  obtain ⟨hs, h0, h1, h2, h3, h4⟩ := hp
  obtain ⟨k, rfl⟩ : ∃ k', k = k' + 1 := ⟨k - 1, by omega⟩
  have hge := endI_ge v s z
  have hle := endI_le v h0 h1
  have hn0 := nxtI_le v h0 h1
  have hnn := brkI_nn v s (endI v s z)
  rw [onF] at hK
  refine ⟨⟨hs, h0, by omega⟩, br_intro (fun hb => ?_) (fun hb => ?_)⟩
  · simp only [decide_eq_true_eq] at hb
    rw [if_pos hb] at hK
    exact .inl (hK z (endI v s z) (nxtI v s z))
  simp only [decide_eq_false_iff_not] at hb
  rw [if_neg hb] at hK
  have hok : okLn s z (endI v s z) (nxtI v s z) = true := okLn_iff.2 ⟨h0, hge, by unfold nxtI; omega, hn0⟩
  have hadv : z < nxtI v s z := nxtI_lt h0 (by omega)
  refine ⟨hs, br_intro (fun hc => ?_) (fun hc => ?_)⟩
  · have hc' : blnI s z (endI v s z) (nxtI v s z) = true := hc
    rw [if_pos hc'] at hK
    exact ⟨by simp only [rng]; omega, hG (v, s, e, p, q, r, n + 1, z, endI v s z, nxtI v s z, k) _ _ ⟨hs, by dsimp only; omega, by dsimp only; omega, by dsimp only; omega, by dsimp only; omega, by dsimp only; omega⟩ (by dsimp only; omega) hK (.inl ⟨rfl, rfl⟩)⟩
  have hc' : blnI s z (endI v s z) (nxtI v s z) = false := hc
  rw [if_neg (by rw [hc']; decide)] at hK
  have ho := overI_lt hok hc'
  have ho1 := overI_ge s z
  have ret : refuse v s p z = true → In 0 (K .ret) [.int .i64 v, .string s, .int .i64 e, .int .i64 p, .int .i64 (-1), .int .i64 0] (lit [lnB z (endI v s z) (nxtI v s z)]) := fun h => by
    rw [if_pos h] at hK
    exact .inl (hK z (endI v s z) (nxtI v s z))
  have fine : refuse v s p z = false → In 0 (K .ret) [.int .i64 v, .string s, .int .i64 e, .int .i64 p, .int .i64 (overI s z), .int .i64 n] (lit [lnB z (endI v s z) (nxtI v s z)]) := fun h => by
    rw [if_neg (by rw [h]; decide)] at hK
    exact .inl (hK z (endI v s z) (nxtI v s z))
  unfold refuse at ret fine
  refine ⟨hs, hs, br_intro (fun hd => ?_) (fun hd => ?_)⟩
  · exact ret (by rw [show decide (indI s z (endI v s z) (nxtI v s z) ≤ p) = true from hd]; rfl)
  refine ⟨hs, br_intro (fun he => ?_) (fun he => ?_)⟩
  · exact ret (by rw [show decide (0 < mrkI s z (endI v s z) (nxtI v s z)) = true from he, Bool.or_true]; rfl)
  rw [show decide (indI s z (endI v s z) (nxtI v s z) ≤ p) = false from hd, show decide (0 < mrkI s z (endI v s z) (nxtI v s z)) = false from he] at ret fine
  have hlt : overI s z < s.size := by omega
  refine ⟨by omega, br_intro (fun hf => ?_) (fun hf => ?_)⟩
  · have hc35 : byteAt s (overI s z).toNat = 35 := UInt8.toNat_inj.1 (show (byteAt s (overI s z).toNat).toNat = 35 by simp only [decide_eq_true_eq] at hf; omega)
    exact ret (by rw [hc35]; rfl)
  have hn35 : ¬ byteAt s (overI s z).toNat = 35 := fun e => by rw [e] at hf; exact absurd hf (by decide)
  rw [decide_eq_false hn35] at ret fine
  refine ⟨by omega, br_intro (fun hg => ?_) (fun hg => ?_)⟩
  · have hc58 : byteAt s (overI s z).toNat = 58 := UInt8.toNat_inj.1 (show (byteAt s (overI s z).toNat).toNat = 58 by simp only [decide_eq_true_eq] at hg; omega)
    rw [hc58] at ret fine
    refine ⟨by simp only [rng]; omega, by omega, br_intro (fun hx => ?_) (fun hx => ?_)⟩
    · exact ret (by rw [hx]; rfl)
    · exact fine (by rw [hx]; rfl)
  · have hn58 : ¬ byteAt s (overI s z).toNat = 58 := fun e => by rw [e] at hg; exact absurd hg (by decide)
    rw [decide_eq_false hn58] at fine
    exact fine rfl

def plain_on.LS : LT := (extL lt0 1999 plain_on.sp1999)
theorem plain_on.LS_mono : LMono plain_on.LS := (extL_mono lt0_mono plain_on.spm1999)
def plain_on.s : List Value → Heap → VK → Prop
  | [.int .i64 v, .string s, .int .i64 e, .int .i64 p], h, K => (s.size ≤ 1000000 ∧ 0 ≤ e ∧ e ≤ s.size) ∧ K (.tuple #[.int .i64 (onI v s e p).1, .int .i64 (onI v s e p).2]) h
  | _, _, _ => False
theorem plain_on.t (v : Int) (s : ByteArray) (e : Int) (p : Int) (K : VK) : mwp SN (plain_on.LS) plain_on.m (retK [.t 8, .t 9] K) (argE 0 [.int .i64 v, .string s, .int .i64 e, .int .i64 p]) (lit []) = (Heap.mk (0 : Nat) [] = Heap.mk (0 : Nat) [] ∧ (s.size ≤ (1000000 : Nat) ∧ (0 : Int) ≤ e ∧ e ≤ (↑s.size : Int)) ∧ ∀ (x y z : Int), K (Value.tuple #[Value.int IntKind.i64 (onI v s e p).fst, Value.int IntKind.i64 (onI v s e p).snd]) (Heap.mk (1 : Nat) [lnB x y z])) := by kernel_rfl
theorem plain_on.c (v : Int) (s : ByteArray) (e : Int) (p : Int) (h : Heap) (K : VK) (hp : s.size ≤ 1000000 ∧ 0 ≤ e ∧ e ≤ s.size) (hh : K (.tuple #[.int .i64 (onI v s e p).1, .int .i64 (onI v s e p).2]) h) : ACalls Tryd.prog plain_on.n [.int .i64 v, .string s, .int .i64 e, .int .i64 p] h K := by
  refine ACalls.alone rfl (acalls_mk SN_ok plain_on.ok (LS := plain_on.LS) (by simp only [plain_on.m, LOk, and_true, true_and]; (repeat' apply And.intro) <;> first | trivial | exact plain_on.lo1999) (Nat.le_of_ble_eq_true rfl) (Eq.mpr (plain_on.t v s e p (fun v _ => ck (cleanT v) (K v h))) ?_))
  refine ⟨rfl, hp, fun x y z => ?_⟩
  exact hh
theorem plain_on.sc : ∀ vs h K, plain_on.s vs h K → ACalls Tryd.prog plain_on.n vs h K := by
  intro vs h K hh; unfold plain_on.s at hh; split at hh
  · exact plain_on.c _ _ _ _ _ _ hh.1 hh.2
  · exact hh.elim
theorem plain_on.sm : SpecMono plain_on.s := by
  intro vs h K K' hk hh; unfold plain_on.s at hh ⊢; split at hh
  · exact ⟨hh.1, hk _ _ hh.2⟩
  · exact hh.elim
theorem plain_on.sd : SpecDet plain_on.s := by
  intro vs h K hh; unfold plain_on.s at hh; split at hh
  · exact ⟨_, hh.2, hh.1, rfl⟩
  · exact hh.elim

end Go.Mini
