/- Plain texts: a part, the code's and the reference's. Conditions: sizes. -/
import Derived.Test.YthllhoodbfnlaaaDoorPl1
namespace Go.Mini
open Go Go.RowKit Go.Proofs
set_option maxRecDepth 100000
set_option linter.unusedVariables false
set_option linter.unusedSimpArgs false

/-- The reference's scan. -/
def stopR (v : Int) (s : ByteArray) (i : Int) (flow : Bool) (k : Int) : Bool := decide (s.size ≤ k) || decide (0 < brkI v s k) || (decide (i < k) && remI s k) || (decide (byteAt s k.toNat = 58) && stopI v s (k + 1) flow) || (flow && signB (byteAt s k.toNat))
def scanR (v : Int) (s : ByteArray) (i : Int) (flow : Bool) : Nat → Int → Int
  | 0, k => k
  | n + 1, k => if stopR v s i flow k = true then k else scanR v s i flow n (k + 1)
def backR (s : ByteArray) (i : Int) : Nat → Int
  | 0 => i
  | n + 1 => if blankI s (i + n) = true then backR s i n else i + n + 1
def signI (c : Int) : Bool := decide (c = 44) || decide (c = 91) || decide (c = 93) || decide (c = 123) || decide (c = 125)
theorem signI_B (c : UInt8) : signI (c.toNat : Int) = signB c := by
  unfold signI signB
  rw [Bool.eq_iff_iff]
  simp only [Bool.or_eq_true, decide_eq_true_eq, List.contains_iff_mem, List.mem_cons, List.not_mem_nil, or_false, or_assoc]
  have k : ∀ x : UInt8, c = x ↔ (c.toNat : Int) = x.toNat := fun x => ⟨fun h => by rw [h], fun h => UInt8.toNat_inj.1 (by omega)⟩
  rw [k 44, k 91, k 93, k 123, k 125]
  rfl
theorem opensI_lt {v : Int} {s : ByteArray} {i : Int} {flow : Bool} (h : opensI v s i flow = true) : 0 ≤ i ∧ i < s.size := by
  unfold opensI at h
  simp only [Bool.and_eq_true, decide_eq_true_eq, Bool.not_eq_true'] at h
  obtain ⟨⟨⟨h1, h2⟩, _⟩, _⟩ := h
  unfold stopI at h2
  simp only [Bool.or_eq_false_iff, decide_eq_false_iff_not] at h2
  omega
theorem opensI_35 {v : Int} {s : ByteArray} {i : Int} {flow : Bool} (h : opensI v s i flow = true) : byteAt s i.toNat ≠ 35 := by
  unfold opensI at h
  simp only [Bool.and_eq_true, decide_eq_true_eq, Bool.not_eq_true'] at h
  obtain ⟨⟨⟨h1, h2⟩, h3⟩, _⟩ := h
  intro e
  rw [e] at h3
  exact absurd h3 (by decide)
theorem stopR_lt {v : Int} {s : ByteArray} {i : Int} {flow : Bool} {j : Int} (h : stopR v s i flow j = false) : j < s.size := by
  unfold stopR at h
  simp only [Bool.or_eq_false_iff, decide_eq_false_iff_not] at h
  omega
theorem scanR_stop {v : Int} {s : ByteArray} {i : Int} {flow : Bool} {n : Nat} {k : Int} (h : stopR v s i flow k = true) : scanR v s i flow n k = k := by
  cases n with
  | zero => rfl
  | succ n => rw [scanR, if_pos h]
theorem scanR_next {v : Int} {s : ByteArray} {i : Int} {flow : Bool} {k : Int} (h : stopR v s i flow k = false) : scanR v s i flow (s.size - k).toNat k = scanR v s i flow (s.size - (k + 1)).toNat (k + 1) := by
  have := stopR_lt h
  rw [show (s.size - k).toNat = (s.size - (k + 1)).toNat + 1 from by omega, scanR, if_neg (by rw [h]; decide)]
theorem scanR_ge (v : Int) (s : ByteArray) (i : Int) (flow : Bool) : ∀ (n : Nat) (k : Int), k ≤ scanR v s i flow n k
  | 0, k => Int.le_refl _
  | n + 1, k => by
    unfold scanR
    split
    · exact Int.le_refl _
    · have := scanR_ge v s i flow n (k + 1); omega
theorem scanR_le (v : Int) (s : ByteArray) (i : Int) (flow : Bool) : ∀ (n : Nat) (k : Int), k + n ≤ s.size → scanR v s i flow n k ≤ s.size
  | 0, k, h => by unfold scanR; omega
  | n + 1, k, h => by
    unfold scanR
    split
    · omega
    · exact scanR_le v s i flow n (k + 1) (by omega)
theorem ends_eq {v : Int} {s : ByteArray} {i : Int} {flow : Bool} (h0 : 0 ≤ i) (h35 : byteAt s i.toNat ≠ 35) : endsI v s i flow = backR s i (scanR v s i flow (s.size - i).toNat i - i).toNat := by
  have hst : ∀ k, i ≤ k → stopE v s flow k = stopR v s i flow k := fun k hk => by
    unfold stopE stopR
    rcases Int.lt_or_eq_of_le hk with h | h
    · rw [decide_eq_true h, Bool.true_and]
    · subst h
      have : remI s i = false := by unfold remI; rw [decide_eq_false h35]; simp
      rw [this, Bool.and_false]
  have key : ∀ (n : Nat) (j e : Int), i ≤ j → e = backR s i (j - i).toNat → (endP v s flow n e j).1 = backR s i (scanR v s i flow n j - i).toNat := by
    intro n
    induction n with
    | zero => intro j e hj he; exact he
    | succ n ih =>
      intro j e hj he
      unfold endP scanR
      rw [hst j hj]
      cases hs : stopR v s i flow j with
      | true => rw [if_pos rfl, if_pos rfl]; exact he
      | false =>
        rw [if_neg (by decide)]
        have e1 : (j + 1 - i).toNat = (j - i).toNat + 1 := by omega
        have e2 : i + ((j - i).toNat : Int) = j := by omega
        cases hb : blankI s j with
        | true =>
          rw [if_pos rfl, if_neg (by decide)]
          exact ih (j + 1) e (by omega) (by rw [e1, backR, e2, hb, if_pos rfl]; exact he)
        | false =>
          rw [if_neg (by decide), if_neg (by decide)]
          exact ih (j + 1) (j + 1) (by omega) (by rw [e1, backR, e2, hb, if_neg (by decide)])
  exact key _ i i (Int.le_refl _) (by rw [Int.sub_self]; rfl)
def SJ : CT := SI
theorem SJ_ok : COk Tryd.prog SJ := SI_ok
theorem SJ_mono : CMono SJ := SI_mono



def SK : CT := SJ
theorem SK_ok : COk Tryd.prog SK := SJ_ok
theorem SK_mono : CMono SK := SJ_mono

def SL : CT := SK
theorem SL_ok : COk Tryd.prog SL := SK_ok
theorem SL_mono : CMono SL := SK_mono



def targumref17_ends.LS : LT := lt0
theorem targumref17_ends.LS_mono : LMono targumref17_ends.LS := lt0_mono

def SM : CT := SL
theorem SM_ok : COk Tryd.prog SM := SL_ok
theorem SM_mono : CMono SM := SL_mono

end Go.Mini
