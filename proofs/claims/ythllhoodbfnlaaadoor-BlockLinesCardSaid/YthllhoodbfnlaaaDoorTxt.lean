/- Texts of signs, by a seed; rows of texts and numbers; for laws. Conditions: sizes. -/
import Derived.Test.YthllhoodbfnlaaaDoorHelp
import Derived.Test.YthllhoodbfnlaaaDoorBld2
namespace Go.Mini
open Go Go.RowKit Go.Proofs
set_option maxRecDepth 100000
set_option linter.unusedVariables false
set_option linter.unusedSimpArgs false

theorem strOf_app (l m : List UInt8) : strOf l ++ strOf m = strOf (l ++ m) := by
  apply ByteArray.ext; apply Array.ext'
  simp [strOf]
def strsV (l : List (List UInt8)) : List Value := l.map fun x => .string (strOf x)
theorem strsV_at {l : List (List UInt8)} {j : Nat} (h : j < l.length) : ((strsV l).drop j).take 1 = [.string (strOf (l.getD j []))] := by
  unfold strsV
  rw [List.drop_eq_getElem_cons (by simpa using h), List.take_succ_cons, List.take_zero, List.getElem_map, List.getD_eq_getElem?_getD, List.getElem?_eq_getElem h]
  rfl
theorem byV_at {l : List UInt8} {j : Nat} (h : j < l.length) : ((byV l).drop j).take 1 = [.int .u8 (l.getD j 0).toNat] := by
  unfold byV
  rw [List.drop_eq_getElem_cons (by simpa using h), List.take_succ_cons, List.take_zero, List.getElem_map, List.getD_eq_getElem?_getD, List.getElem?_eq_getElem h]
  rfl
theorem byV_flat (l : List UInt8) : (byV l).all flatV = true := List.all_eq_true.2 fun v hv => by
  obtain ⟨b, _, rfl⟩ := List.mem_map.1 hv; rfl
theorem strsV_flat (l : List (List UInt8)) : (strsV l).all flatV = true := List.all_eq_true.2 fun v hv => by
  obtain ⟨b, _, rfl⟩ := List.mem_map.1 hv; rfl
/-- Signs, by a seed's bytes. -/
def pickL (S : List (List UInt8)) (b : UInt8) : List UInt8 := S.getD (b.toNat % S.length) []
def textL (S : List (List UInt8)) (l : List UInt8) : List UInt8 := (l.map (pickL S)).flatten
theorem pickL_len {S : List (List UInt8)} {m : Nat} (hS : S.all (fun x => Nat.ble x.length m) = true) (b : UInt8) : (pickL S b).length ≤ m := by
  unfold pickL
  rw [List.getD_eq_getElem?_getD]
  cases h : S[b.toNat % S.length]? with
  | none => simp
  | some x => have := List.all_eq_true.1 hS x (List.mem_of_getElem? h); simpa using this
theorem textL_len {S : List (List UInt8)} {m : Nat} (hS : S.all (fun x => Nat.ble x.length m) = true) : ∀ l : List UInt8, (textL S l).length ≤ m * l.length
  | [] => by simp [textL]
  | b :: l => by
    have := textL_len hS l
    have h := pickL_len hS b
    simp only [textL, List.map_cons, List.flatten_cons, List.length_append, List.length_cons] at this ⊢
    rw [Nat.mul_add]; omega
theorem textL_snoc (S : List (List UInt8)) (l : List UInt8) (b : UInt8) : textL S (l ++ [b]) = textL S l ++ pickL S b := by simp [textL]
theorem take_snoc {l : List UInt8} {j : Nat} (h : j < l.length) : l.take (j + 1) = l.take j ++ [l.getD j 0] := by
  rw [List.take_add_one, List.getD_eq_getElem?_getD, List.getElem?_eq_getElem h]; rfl

abbrev seedB (l : List UInt8) : Option Blk := some ⟨5, 1, byV l, false⟩
abbrev strsB (l : List (List UInt8)) : Option Blk := some ⟨9, 1, strsV l, true⟩
abbrev intsB (l : List Int) : Option Blk := some ⟨3, 1, l.map (.int .i64), true⟩
theorem ints_at {l : List Int} {j : Nat} (h : j < l.length) : ((l.map (Value.int .i64)).drop j).take 1 = [.int .i64 (l.getD j 0)] := by
  rw [List.drop_eq_getElem_cons (by simpa using h), List.take_succ_cons, List.take_zero, List.getElem_map, List.getD_eq_getElem?_getD, List.getElem?_eq_getElem h]
  rfl
theorem seed_see {Z : List UInt8} {h : Heap} {k : Nat} {o : Bool} (hk : Nat.blt k h.n = true) (hg : h.g k = some ⟨5, 1, byV Z, o⟩) : rowsSee (fun j => [some k].getD j none) [seedB Z].length h [seedB Z] [some k] :=
  ⟨⟨hk, rfl, okF_all (byV_flat Z), o, by rw [map_ren_flat (byV_flat Z)]; exact hg⟩, trivial⟩
theorem few_le {s : ByteArray} {m : Int} (h : fewI s m = true) : s.size ≤ m := by
  unfold fewI at h
  simp only [Bool.and_eq_true, decide_eq_true_eq] at h
  exact h.1
theorem mk_app (a : UInt8) (s : ByteArray) : ByteArray.mk #[a] ++ s = strOf (a :: lst s) := by
  rw [show ByteArray.mk #[a] = strOf [a] from rfl, ← strOf_lst s, strOf_app, lst_strOf]; rfl


end Go.Mini
