/- Where a text goes on with a list of bytes. Conditions: none. -/
import Derived.Test.YthllhoodbfnlaaaDoorLines
namespace Go.Mini
open Go Go.RowKit Go.Proofs
set_option maxRecDepth 100000
set_option linter.unusedVariables false
set_option linter.unusedSimpArgs false

def Sat (s : ByteArray) (i : Int) (l : List UInt8) : Prop := 0 ≤ i ∧ i ≤ s.size ∧ (lst s).drop i.toNat = l
theorem Sat.start (l : List UInt8) : Sat (strOf l) 0 l := ⟨Int.le_refl _, by omega, by rw [lst_strOf]; rfl⟩
theorem lst_len (s : ByteArray) : (lst s).length = s.size := Array.length_toList
section
variable {v : Int} {s : ByteArray} {flow : Bool} {i : Int} {c : UInt8} {l r w : List UInt8}
theorem Sat.len (h : Sat s i l) : i + l.length = s.size := by
  have := lst_len s
  obtain ⟨h0, h1, h2⟩ := h
  rw [← h2, List.length_drop]; omega
theorem Sat.app (h : Sat s i (w ++ r)) : Sat s (i + w.length) r := by
  have hl := h.len
  obtain ⟨h0, h1, h2⟩ := h
  simp only [List.length_append] at hl
  refine ⟨by omega, by omega, ?_⟩
  rw [show (i + (w.length : Int)).toNat = i.toNat + w.length from by omega, ← List.drop_drop, h2, List.drop_left]
theorem Sat.step (h : Sat s i (c :: l)) : Sat s (i + 1) l := Sat.app (w := [c]) h
theorem Sat.lt (h : Sat s i (c :: l)) : i < s.size := by have := h.len; simp only [List.length_cons] at this; omega
theorem Sat.byte (h : Sat s i (c :: l)) : byteAt s i.toNat = c := by
  unfold byteAt
  have e : (lst s)[i.toNat]? = some c := by
    have := congrArg (fun x => x[0]?) h.2.2
    simpa [List.getElem?_drop] using this
  rw [show s.data.toList = lst s from rfl, List.getD_eq_getElem?_getD, e]; rfl
theorem Sat.nil (h : Sat s i []) : byteAt s i.toNat = 0 := byteAt_out (by have := h.len; simp only [List.length_nil] at this; omega)
theorem Sat.blank (h : Sat s i (c :: l)) : blankI s i = isBl c := by
  unfold blankI; rw [h.byte, decide_eq_true h.1, Bool.true_and]
theorem Sat.brk (h : Sat s i l) : brkI v s i = (brkL (decide (v = 11)) l : Nat) := by
  unfold brkI; rw [if_pos h.1, h.2.2]
theorem Sat.eol (h : Sat s i l) : endI v s i = i + (Go.Mini.eol (decide (v = 11)) l : Nat) := by
  unfold endI; rw [h.2.2]
theorem Sat.over (h : Sat s i l) : overI s i = i + (bls l : Nat) := by
  unfold overI; rw [if_pos h.1, h.2.2]
end
end Go.Mini
