/- Plain texts: where one goes on; the whole text. Conditions: sizes. -/
import Derived.Test.YthllhoodbfnlaaaDoorPl2
import Derived.Test.YthllhoodbfnlaaaDoorBld
namespace Go.Mini
open Go Go.RowKit Go.Proofs
set_option maxRecDepth 100000
set_option linter.unusedVariables false
set_option linter.unusedSimpArgs false

def nxtI (v : Int) (s : ByteArray) (a : Int) : Int := endI v s a + brkI v s (endI v s a)
def refuse (v : Int) (s : ByteArray) (p a : Int) : Bool := decide (indI s a (endI v s a) (nxtI v s a) ≤ p) || decide (0 < mrkI s a (endI v s a) (nxtI v s a)) || decide (byteAt s (overI s a).toNat = 35) || (decide (byteAt s (overI s a).toNat = 58) && stopI v s (overI s a + 1) false)
def onF (v : Int) (s : ByteArray) (p : Int) : Nat → Int → Int → Int × Int
  | 0, _, _ => (-1, 0)
  | k + 1, a, n => if s.size ≤ a then (-1, 0) else if blnI s a (endI v s a) (nxtI v s a) = true then onF v s p k (nxtI v s a) (n + 1) else if refuse v s p a = true then (-1, 0) else (overI s a, n)
def onI (v : Int) (s : ByteArray) (e p : Int) : Int × Int := if overI s e < endI v s (overI s e) then (-1, 0) else onF v s p (s.size + 1) (nxtI v s (overI s e)) 0

theorem brkI_len (v : Int) {s : ByteArray} {i : Int} (h0 : 0 ≤ i) (h1 : i ≤ s.size) : i + brkI v s i ≤ s.size := by
  have key : ∀ (old : Bool) (l : List UInt8), brkL old l ≤ l.length := fun old l => by
    match l with
    | [] => simp [brkL]
    | [c] =>
      rw [brkL]
      repeat' split
      all_goals simp_all
    | [c, d] =>
      rw [brkL]
      repeat' split
      all_goals simp_all
    | c :: d :: f :: m =>
      rw [brkL]
      repeat' split
      all_goals (simp only [List.length_cons]; omega)
  unfold brkI
  rw [if_pos h0]
  have := key (decide (v = 11)) ((lst s).drop i.toNat)
  rw [List.length_drop, Array.length_toList] at this
  have : s.data.size = s.size := rfl
  omega
theorem nxtI_le (v : Int) {s : ByteArray} {a : Int} (h0 : 0 ≤ a) (h1 : a ≤ s.size) : nxtI v s a ≤ s.size := by
  unfold nxtI
  have h2 := endI_ge v s a
  exact brkI_len v (by omega) (endI_le v h0 h1)
theorem nxtI_ge (v : Int) (s : ByteArray) (a : Int) : a ≤ nxtI v s a := by
  unfold nxtI
  have h1 := endI_ge v s a
  have h2 := brkI_nn v s (endI v s a)
  omega
theorem nxtI_lt {v : Int} {s : ByteArray} {a : Int} (h0 : 0 ≤ a) (h1 : a < s.size) : a < nxtI v s a := by
  unfold nxtI
  have h2 := endI_ge v s a
  rcases Int.lt_or_eq_of_le h2 with h3 | h3
  · have := brkI_nn v s (endI v s a); omega
  · rw [← h3]
    have hb : 0 < brkI v s a := by
      by_cases hb : 0 < brkI v s a
      · exact hb
      · have h4 := endI_next h0 h1 hb
        have h5 := endI_ge v s (a + 1)
        omega
    omega
theorem overI_lt {s : ByteArray} {a e n : Int} (h : okLn s a e n = true) (hb : blnI s a e n = false) : overI s a < e := by
  have h1 := okLn_iff.1 h
  unfold blnI at hb
  rw [h, Bool.true_and] at hb
  have key : ∀ (m : Nat) (l : List UInt8), (l.take m).all isBl = false → bls l < m := fun m => by
    induction m with
    | zero => intro l h; simp at h
    | succ m ih =>
      intro l h
      cases l with
      | nil => simp at h
      | cons c l =>
        unfold bls
        split
        · rename_i hc
          rw [List.take_succ_cons, List.all_cons, hc, Bool.true_and] at h
          have := ih l h
          omega
        · omega
  unfold saysL at hb
  rw [if_pos h] at hb
  have := key _ _ hb
  unfold overI
  rw [if_pos h1.1]
  omega
def SN : CT := SM
theorem SN_ok : COk Tryd.prog SN := SM_ok
theorem SN_mono : CMono SN := SM_mono

def plain_on.LS : LT := lt0
theorem plain_on.LS_mono : LMono plain_on.LS := lt0_mono

end Go.Mini
