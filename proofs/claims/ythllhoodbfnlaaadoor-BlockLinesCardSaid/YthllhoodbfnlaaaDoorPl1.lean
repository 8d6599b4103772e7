/- Plain texts: where one begins, where a part ends: the code's and the reference's. Conditions: sizes. -/
import Derived.Test.YthllhoodbfnlaaaDoorRef1
namespace Go.Mini
open Go Go.RowKit Go.Proofs
set_option maxRecDepth 100000
set_option linter.unusedVariables false
set_option linter.unusedSimpArgs false

def neverB (c : UInt8) : Bool := [44, 91, 93, 123, 125, 35, 38, 42, 33, 124, 62, 39, 34, 37, 64, 96].contains c
def wantB (c : UInt8) : Bool := [45, 63, 58].contains c
def opensI (v : Int) (s : ByteArray) (i : Int) (flow : Bool) : Bool := decide (0 ≤ i) && !stopI v s i false && !neverB (byteAt s i.toNat) && (!wantB (byteAt s i.toNat) || !stopI v s (i + 1) flow)
/-- Does a part end at a place? -/
def stopE (v : Int) (s : ByteArray) (flow : Bool) (i : Int) : Bool := decide (s.size ≤ i) || decide (0 < brkI v s i) || remI s i || (decide (byteAt s i.toNat = 58) && stopI v s (i + 1) flow) || (flow && signB (byteAt s i.toNat))
def endP (v : Int) (s : ByteArray) (flow : Bool) : Nat → Int → Int → Int × Int
  | 0, e, j => (e, j)
  | n + 1, e, j => if stopE v s flow j = true then (e, j) else if blankI s j = true then endP v s flow n e (j + 1) else endP v s flow n (j + 1) (j + 1)
def endsI (v : Int) (s : ByteArray) (i : Int) (flow : Bool) : Int := (endP v s flow (s.size - i).toNat i i).1
def partI (v : Int) (s : ByteArray) (i : Int) (flow : Bool) : Int := if opensI v s i flow = true then endsI v s i flow else -1

theorem stopE_lt {v : Int} {s : ByteArray} {flow : Bool} {j : Int} (h : stopE v s flow j = false) : j < s.size := by
  unfold stopE at h
  simp only [Bool.or_eq_false_iff, decide_eq_false_iff_not] at h
  omega
theorem endP_stop {v : Int} {s : ByteArray} {flow : Bool} {n : Nat} {e j : Int} (h : stopE v s flow j = true) : endP v s flow n e j = (e, j) := by
  cases n with
  | zero => rfl
  | succ n => rw [endP, if_pos h]
theorem endP_blank {v : Int} {s : ByteArray} {flow : Bool} {e j : Int} (h : stopE v s flow j = false) (hb : blankI s j = true) : endP v s flow (s.size - j).toNat e j = endP v s flow (s.size - (j + 1)).toNat e (j + 1) := by
  have := stopE_lt h
  rw [show (s.size - j).toNat = (s.size - (j + 1)).toNat + 1 from by omega, endP, if_neg (by rw [h]; decide), if_pos hb]
theorem endP_more {v : Int} {s : ByteArray} {flow : Bool} {e j : Int} (h : stopE v s flow j = false) (hb : blankI s j = false) : endP v s flow (s.size - j).toNat e j = endP v s flow (s.size - (j + 1)).toNat (j + 1) (j + 1) := by
  have := stopE_lt h
  rw [show (s.size - j).toNat = (s.size - (j + 1)).toNat + 1 from by omega, endP, if_neg (by rw [h]; decide), if_neg (by rw [hb]; decide)]
theorem sign_bl {s : ByteArray} {j : Int} (h : blankI s j = true) : signB (byteAt s j.toNat) = false := by
  unfold blankI isBl at h
  simp only [Bool.and_eq_true, Bool.or_eq_true, decide_eq_true_eq] at h
  rw [Bool.eq_false_iff]
  intro hs
  unfold signB at hs
  simp only [List.contains_iff_mem, List.mem_cons, List.not_mem_nil, or_false] at hs
  rcases hs with e | e | e | e | e <;> rw [e] at h <;> exact absurd h.2 (by decide)
def SI : CT := (extC SH targumref1_Marker.n targumref1_Marker.s)
theorem SI_ok : COk Tryd.prog SI := (extC_ok SH_ok targumref1_Marker.sc targumref1_Marker.sd)
theorem SI_mono : CMono SI := (extC_mono SH_mono targumref1_Marker.sm)



def plain_ends.LS : LT := lt0
theorem plain_ends.LS_mono : LMono plain_ends.LS := lt0_mono

end Go.Mini
