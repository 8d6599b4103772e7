/- PlainTells: for every input the answer is true. No condition. -/
import Derived.Test.YtcdkcdapbadkaaaDoorL20b
namespace Go.Mini
open Go Go.RowKit Go.Proofs
set_option maxRecDepth 100000
set_option linter.unusedVariables false
set_option linter.unusedSimpArgs false

theorem seed_see {Z : List UInt8} {h : Heap} {k : Nat} {o : Bool} (hk : Nat.blt k h.n = true) (hg : h.g k = some ⟨5, 1, byV Z, o⟩) : rowsSee (fun j => [some k].getD j none) [seedB Z].length h [seedB Z] [some k] :=
  ⟨⟨hk, rfl, okF_all (byV_flat Z), o, by rw [map_ren_flat (byV_flat Z)]; exact hg⟩, trivial⟩
theorem few_le {s : ByteArray} {m : Int} (h : fewI s m = true) : s.size ≤ m := by
  unfold fewI at h
  simp only [Bool.and_eq_true, decide_eq_true_eq] at h
  exact h.1
theorem mk_app (a : UInt8) (s : ByteArray) : ByteArray.mk #[a] ++ s = strOf (a :: lst s) := by
  rw [show ByteArray.mk #[a] = strOf [a] from rfl, ← strOf_lst s, strOf_app, lst_strOf]; rfl

def targumlaw20_PlainTells.LS : LT := (extL lt0 0 targumlaw20_PlainTells.sp0)
theorem targumlaw20_PlainTells.LS_mono : LMono targumlaw20_PlainTells.LS := (extL_mono lt0_mono targumlaw20_PlainTells.spm0)
theorem targumlaw20_PlainTells.t (s : ByteArray) (l : List UInt8) (i : Int) (par : UInt8) (old : Bool) (K : VK) : mwp LB (targumlaw20_PlainTells.LS) targumlaw20_PlainTells.m (retK [.t 10] K) (argE 0 [.string s, .slice (some ⟨0, 0, none⟩) l.length l.length, .int .i64 i, .int .u8 par.toNat, .bool old]) (lit ([seedB l])) = ((200 : Int) ≤ (1000000 : Int) ∧ br (!fewI s (200 : Int)) (K (Value.bool true) (Heap.mk (1 : Nat) [seedB l])) (br (decide ((60 : Int) < (↑l.length : Int))) (K (Value.bool true) (Heap.mk (1 : Nat) [seedB l])) ((5 : Int) ≠ (0 : Int) ∧ rng IntKind.i64 ((↑par.toNat : Int).tmod (5 : Int)) ∧ rng IntKind.i64 ((↑par.toNat : Int).tmod (5 : Int) - (1 : Int)) ∧ ∃ (l_1 : List UInt8), ∃ (ρl : List (Option Nat)), [Value.slice (some (Addr.mk (0 : Nat) (0 : Nat) none)) l.length l.length] = List.map (renT fun (j : Nat) => ρl.getD j none) [Value.slice (some (Addr.mk (0 : Nat) (0 : Nat) none)) l_1.length l_1.length] ∧ rowsSee (fun (j : Nat) => ρl.getD j none) (targumlaw20_text.H l_1).length (Heap.mk (1 : Nat) [seedB l]) (targumlaw20_text.H l_1) ρl ∧ l_1.length ≤ (1000000 : Nat) ∧ (ByteArray.mk #[(97 : UInt8)]).size + (strOf (textL signs20 l_1)).size ≤ (9223372036854775807 : Nat) ∧ (ByteArray.mk #[(97 : UInt8)]).size + s.size ≤ (9223372036854775807 : Nat) ∧ (ByteArray.mk #[(97 : UInt8)] ++ s).size + (ByteArray.mk #[(10 : UInt8), (32 : UInt8), (32 : UInt8)]).size ≤ (9223372036854775807 : Nat) ∧ (ByteArray.mk #[(97 : UInt8)] ++ s ++ ByteArray.mk #[(10 : UInt8), (32 : UInt8), (32 : UInt8)]).size + (strOf (textL signs20 l_1)).size ≤ (9223372036854775807 : Nat) ∧ ∃ (i_1 : Int), ∃ (q : Bool), ∃ (v : Int), ∃ (p : Int), ∃ (Z : List UInt8), ∃ (X : List (List UInt8)), ∃ (j : Nat), ((2 : Nat) = (2 : Nat) ∧ In (2 : Nat) (targumlaw20_PlainTells.N0 i_1 q v p Z X j) [Value.int IntKind.i64 i, Value.bool false, Value.int IntKind.i64 (verI old), Value.int IntKind.i64 ((↑par.toNat : Int).tmod (5 : Int) - (1 : Int)), Value.slice (some (Addr.mk (1 : Nat) (0 : Nat) none)) (4 : Nat) (4 : Nat), Value.int IntKind.i64 (↑(4 : Nat) : Int), Value.int IntKind.i64 (0 : Int)] (Heap.mk (2 : Nat) [seedB l, some (Blk.mk (9 : Nat) (1 : Nat) [Value.string s, Value.string (strOf (textL signs20 l_1)), Value.string (ByteArray.mk #[(97 : UInt8)] ++ strOf (textL signs20 l_1)), Value.string (ByteArray.mk #[(97 : UInt8)] ++ s ++ ByteArray.mk #[(10 : UInt8), (32 : UInt8), (32 : UInt8)] ++ strOf (textL signs20 l_1))] true)]) ∧ (∀ (x : List UInt8), x ∈ X → x.length ≤ (1000000 : Nat)) ∧ j ≤ X.length ∧ X.length ≤ (1000 : Nat)) ∧ ∀ (j' : Int), K (Value.bool true) (Heap.mk (2 : Nat) [seedB Z, strsB X])))) := by kernel_rfl
theorem targumlaw20_PlainTells.law (s : ByteArray) (l : List UInt8) (i : Int) (par : UInt8) (old : Bool) : ACalls Tryd.prog targumlaw20_PlainTells.n [.string s, .slice (some ⟨0, 0, none⟩) l.length l.length, .int .i64 i, .int .u8 par.toNat, .bool old] (lit ([seedB l])) (fun v _ => v = .bool true) := by
  refine acalls_mk LB_ok targumlaw20_PlainTells.ok (LS := targumlaw20_PlainTells.LS) (by simp only [targumlaw20_PlainTells.m, LOk, and_true, true_and]; (repeat' apply And.intro) <;> first | trivial | exact targumlaw20_PlainTells.lo2 | exact targumlaw20_PlainTells.lo0) (Nat.le_of_ble_eq_true rfl) (Eq.mpr (targumlaw20_PlainTells.t s l i par old _) ?_)
  refine ⟨by omega, br_intro (fun _ => rfl) (fun hf => br_intro (fun _ => rfl) (fun hl => ?_))⟩
  have hs : s.size ≤ 200 := by have := few_le (by simpa using hf : fewI s 200 = true); omega
  simp only [decide_eq_false_iff_not] at hl
  have hpar : ((par.toNat : Int).tmod 5) = ((par.toNat % 5 : Nat) : Int) := by rw [Int.tmod_eq_emod_of_nonneg (by omega)]; omega
  have ht := textL_len (S := signs20) (m := 5) (by decide) l
  rw [hpar]
  have e2 : ByteArray.mk #[(97 : UInt8)] ++ s ++ ByteArray.mk #[(10 : UInt8), (32 : UInt8), (32 : UInt8)] = strOf (97 :: lst s ++ [10, 32, 32]) := by
    rw [mk_app, show ByteArray.mk #[(10 : UInt8), (32 : UInt8), (32 : UInt8)] = strOf [10, 32, 32] from rfl, strOf_app]
  have hls : (lst s).length = s.size := Array.length_toList
  refine ⟨by omega, by simp only [rng]; omega, by simp only [rng]; omega, l, [some 0], rfl, seed_see rfl rfl, by omega, ?_⟩
  rw [e2, mk_app, mk_app, lst_strOf, strOf_app]
  refine ⟨by simp only [strOf_size, List.length_append, List.length_cons, List.length_nil, show (ByteArray.mk #[(97 : UInt8)]).size = 1 from rfl, show (ByteArray.mk #[(10 : UInt8), (32 : UInt8), (32 : UInt8)]).size = 3 from rfl]; omega, by simp only [strOf_size, List.length_append, List.length_cons, List.length_nil, show (ByteArray.mk #[(97 : UInt8)]).size = 1 from rfl, show (ByteArray.mk #[(10 : UInt8), (32 : UInt8), (32 : UInt8)]).size = 3 from rfl]; omega, by simp only [strOf_size, List.length_append, List.length_cons, List.length_nil, show (ByteArray.mk #[(97 : UInt8)]).size = 1 from rfl, show (ByteArray.mk #[(10 : UInt8), (32 : UInt8), (32 : UInt8)]).size = 3 from rfl]; omega, by simp only [strOf_size, List.length_append, List.length_cons, List.length_nil, show (ByteArray.mk #[(97 : UInt8)]).size = 1 from rfl, show (ByteArray.mk #[(10 : UInt8), (32 : UInt8), (32 : UInt8)]).size = 3 from rfl]; omega, i, false, verI old, _, l, [lst s, textL signs20 l, 97 :: textL signs20 l, 97 :: lst s ++ [10, 32, 32] ++ textL signs20 l], 0, ⟨rfl, .inl ⟨rfl, ?_⟩, ?_, by simp, by simp⟩, fun _ => rfl⟩
  · simp [lit, strsV, strOf_lst]
  · intro x hx
    simp only [List.mem_cons, List.not_mem_nil, or_false] at hx
    rcases hx with rfl | rfl | rfl | rfl <;> first | omega | (simp only [List.length_append, List.length_cons, List.length_nil]; omega)

end Go.Mini
