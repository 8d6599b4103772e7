/- PlainCut: for every input the answer is true. No condition. -/
import Derived.Test.YtcdkcdapbadkaaaDoorL20c
import Derived.Test.YtcdkcdapbadkaaaDoorCut20
namespace Go.Mini
open Go Go.RowKit Go.Proofs
set_option maxRecDepth 100000
set_option linter.unusedVariables false
set_option linter.unusedSimpArgs false

def closedI (s : ByteArray) : Bool := decide (byteAt s (s.size - 1) ≠ 58) && (decide (s ≠ ByteArray.mk #[45]) && decide (s ≠ ByteArray.mk #[63]))
def targumlaw20_closed.s : List Value → Heap → VK → Prop
  | [.string s], h, K => (0 < s.size ∧ s.size ≤ 1000000) ∧ K (.bool (closedI s)) h
  | _, _, _ => False
theorem targumlaw20_closed.t (s : ByteArray) (h : Heap) (K : VK) : mwp S0 (lt0) targumlaw20_closed.m (retK [.t 2] K) (argE 0 [.string s]) h = (rng IntKind.i64 ((↑s.size : Int) - (1 : Int)) ∧ ((0 : Int) ≤ (↑s.size : Int) - (1 : Int) ∧ (↑s.size : Int) - (1 : Int) < (↑s.size : Int)) ∧ br (!decide ((↑(byteAt s ((↑s.size : Int) - (1 : Int)).toNat).toNat : Int) = (58 : Int))) (br (!decide (s = ByteArray.mk #[(45 : UInt8)])) (K (Value.bool !decide (s = ByteArray.mk #[(63 : UInt8)])) h) (K (Value.bool false) h)) (K (Value.bool false) h)) := by kernel_rfl
theorem targumlaw20_closed.c (s : ByteArray) (h : Heap) (K : VK) (hp : 0 < s.size ∧ s.size ≤ 1000000) (hh : K (.bool (closedI s)) h) : ACalls Tryd.prog targumlaw20_closed.n [.string s] h K := by
  refine acalls_mk S0_ok targumlaw20_closed.ok (LS := lt0) (by simp only [targumlaw20_closed.m, LOk, and_true, true_and]) (Nat.le_of_ble_eq_true rfl) (Eq.mpr (targumlaw20_closed.t s h K) ?_)
  obtain ⟨h1, h2⟩ := hp
  have e : ((s.size : Int) - 1).toNat = s.size - 1 := by omega
  rw [e]
  unfold closedI at hh
  refine ⟨by simp only [rng]; omega, ⟨by omega, by omega⟩, ?_⟩
  by_cases a : byteAt s (s.size - 1) = 58
  · rw [a] at hh ⊢; exact hh
  · have a' : ¬ ((byteAt s (s.size - 1)).toNat : Int) = 58 := fun h => a (UInt8.toNat_inj.1 (by exact_mod_cast h))
    rw [decide_eq_true a, Bool.true_and] at hh
    rw [decide_eq_false a']
    by_cases b : s = ByteArray.mk #[45]
    · subst b; exact hh
    · rw [decide_eq_true b, Bool.true_and] at hh
      rw [decide_eq_false b]
      refine br_intro (fun _ => br_intro (fun _ => ?_) (fun h => absurd h (by decide))) (fun h => absurd h (by decide))
      simpa using hh
theorem targumlaw20_closed.sc : ∀ vs h K, targumlaw20_closed.s vs h K → ACalls Tryd.prog targumlaw20_closed.n vs h K := by
  intro vs h K hh; unfold targumlaw20_closed.s at hh; split at hh
  · exact targumlaw20_closed.c _ _ _ hh.1 hh.2
  · exact hh.elim
theorem targumlaw20_closed.sm : SpecMono targumlaw20_closed.s := by
  intro vs h K K' hk hh; unfold targumlaw20_closed.s at hh ⊢; split at hh
  · exact ⟨hh.1, hk _ _ hh.2⟩
  · exact hh.elim
theorem targumlaw20_closed.sd : SpecDet targumlaw20_closed.s := by
  intro vs h K hh; unfold targumlaw20_closed.s at hh; split at hh
  · exact ⟨_, hh.2, hh.1, rfl⟩
  · exact hh.elim

/-- What `closed` asks is what a cut needs. -/
theorem cut_closed {v : Int} {s : ByteArray} {flow : Bool} {a : Int} (ha : partI v s 0 flow = a) (h0 : 0 < a) (hc : closedI (s.extract 0 a.toNat) = true) : partI v (s.extract 0 a.toNat) 0 flow = a := by
  have ho : opensI v s 0 flow = true := by
    unfold partI at ha; split at ha
    · assumption
    · omega
  have hE : endsI v s 0 flow = a := by unfold partI at ha; rw [if_pos ho] at ha; exact ha
  obtain ⟨f1, f2, f3, f4⟩ := part_facts ho
  rw [hE] at f1 f2 f3 f4
  have hsz := pre_size (s := s) (a := a) (by omega) f2
  unfold closedI at hc
  simp only [Bool.and_eq_true, decide_eq_true_eq] at hc
  obtain ⟨c1, c2, c3⟩ := hc
  refine part_cut ha h0 ?_ fun h1 => ?_
  · rw [show (s.extract 0 a.toNat).size - 1 = (a - 1).toNat from by omega, pre_byte (by omega) (by omega)] at c1
    exact c1
  · subst h1
    have key : ∀ c : UInt8, byteAt s 0 = c → s.extract 0 (1 : Int).toNat = ByteArray.mk #[c] := fun c hc => by
      have e := lst_ext s 0 1
      rw [List.drop_zero, Nat.sub_zero] at e
      have hl : (lst s).length = s.size := Array.length_toList
      have hb : byteAt s 0 = (lst s).getD 0 0 := rfl
      rw [← strOf_lst (s.extract 0 (1 : Int).toNat), show (1 : Int).toNat = 1 from rfl, e]
      rcases hl2 : lst s with _ | ⟨d, r⟩
      · rw [hl2] at hl; simp at hl; omega
      · rw [hl2] at hb; rw [← hc, hb]; rfl
    exact ⟨fun h => c2 (key 45 h), fun h => c3 (key 63 h)⟩

def LC : CT := (extC (extC LB targumlaw20_closed.n targumlaw20_closed.s) targumref1_IsBlank.n targumref1_IsBlank.s)
theorem LC_ok : COk Tryd.prog LC := (extC_ok (extC_ok LB_ok targumlaw20_closed.sc targumlaw20_closed.sd) targumref1_IsBlank.sc targumref1_IsBlank.sd)
theorem LC_mono : CMono LC := (extC_mono (extC_mono LB_mono targumlaw20_closed.sm) targumref1_IsBlank.sm)
def targumlaw20_PlainCut.N0 (q : Bool) (v : Int) (Z : List UInt8) (X : List (List UInt8)) (j : Nat) (vs : List Value) (h : Heap) : Prop := vs = [.bool q, .int .i64 v, .slice (some ⟨1, 0, none⟩) X.length X.length, .int .i64 X.length, .int .i64 j] ∧ h = lit [seedB Z, strsB X]
def targumlaw20_PlainCut.sp0 : LSpec := ⟨targumlaw20_PlainCut.cs0, targumlaw20_PlainCut.ts0, fun vs h K => ∃ (q : Bool) (v : Int) (Z : List UInt8) (X : List (List UInt8)) (j : Nat), (h.n = 2 ∧ In 2 (targumlaw20_PlainCut.N0 q v Z X j) vs h ∧ ((∀ x ∈ X, x.length ≤ 1000000) ∧ j ≤ X.length ∧ X.length ≤ 1000)) ∧ (∀ j' : Int, K (.exit 0) [.bool q, .int .i64 v, .slice (some ⟨1, 0, none⟩) X.length X.length, .int .i64 X.length, .int .i64 j'] (lit [seedB Z, strsB X]))⟩
theorem targumlaw20_PlainCut.spm0 : LSpecMono targumlaw20_PlainCut.sp0 := by
  rintro vs h K K' hk ⟨q, v, Z, X, j, h3, h4⟩
  exact ⟨q, v, Z, X, j, h3, fun j' => hk _ _ _ (h4 j')⟩
theorem targumlaw20_PlainCut.t0 (q : Bool) (v : Int) (Z : List UInt8) (X : List (List UInt8)) (j : Nat) (E : Env) (N : List Value → Heap → Prop) (K : LK) : mwp LC (lt0) targumlaw20_PlainCut.l0 (lK targumlaw20_PlainCut.cs0 N K) (zipE targumlaw20_PlainCut.cs0 [.bool q, .int .i64 v, .slice (some ⟨1, 0, none⟩) X.length X.length, .int .i64 X.length, .int .i64 j] ++ E) (lit [seedB Z, strsB X]) = (br (decide ((↑j : Int) < (↑X.length : Int))) (((0 : Int) ≤ (↑j : Int) ∧ (↑j : Int) < (↑X.length : Int)) ∧ ∃ (s : ByteArray), List.take (1 : Nat) (List.drop ((0 : Nat) + (↑j : Int).toNat * (1 : Nat)) (strsV X)) = [Value.string s] ∧ s.size ≤ (1000000 : Nat) ∧ s.size ≤ (1000000 : Nat) ∧ br (decide (partI v s (0 : Int) false < (-1 : Int))) (K Exit.ret [Value.bool false, Value.int IntKind.i64 v, Value.slice (some (Addr.mk (1 : Nat) (0 : Nat) none)) X.length X.length, Value.int IntKind.i64 (↑X.length : Int), Value.int IntKind.i64 (↑j : Int)] (Heap.mk (2 : Nat) [seedB Z, strsB X])) (br (decide (partI v s (0 : Int) false = (0 : Int))) (K Exit.ret [Value.bool false, Value.int IntKind.i64 v, Value.slice (some (Addr.mk (1 : Nat) (0 : Nat) none)) X.length X.length, Value.int IntKind.i64 (↑X.length : Int), Value.int IntKind.i64 (↑j : Int)] (Heap.mk (2 : Nat) [seedB Z, strsB X])) (br (decide ((↑s.size : Int) < partI v s (0 : Int) false)) (K Exit.ret [Value.bool false, Value.int IntKind.i64 v, Value.slice (some (Addr.mk (1 : Nat) (0 : Nat) none)) X.length X.length, Value.int IntKind.i64 (↑X.length : Int), Value.int IntKind.i64 (↑j : Int)] (Heap.mk (2 : Nat) [seedB Z, strsB X])) (br (decide (partI v s (0 : Int) false < partI v s (0 : Int) true)) (K Exit.ret [Value.bool false, Value.int IntKind.i64 v, Value.slice (some (Addr.mk (1 : Nat) (0 : Nat) none)) X.length X.length, Value.int IntKind.i64 (↑X.length : Int), Value.int IntKind.i64 (↑j : Int)] (Heap.mk (2 : Nat) [seedB Z, strsB X])) (br (decide (partI v s (0 : Int) true < (-1 : Int))) (K Exit.ret [Value.bool false, Value.int IntKind.i64 v, Value.slice (some (Addr.mk (1 : Nat) (0 : Nat) none)) X.length X.length, Value.int IntKind.i64 (↑X.length : Int), Value.int IntKind.i64 (↑j : Int)] (Heap.mk (2 : Nat) [seedB Z, strsB X])) (br (decide (partI v s (0 : Int) true = (0 : Int))) (K Exit.ret [Value.bool false, Value.int IntKind.i64 v, Value.slice (some (Addr.mk (1 : Nat) (0 : Nat) none)) X.length X.length, Value.int IntKind.i64 (↑X.length : Int), Value.int IntKind.i64 (↑j : Int)] (Heap.mk (2 : Nat) [seedB Z, strsB X])) (br (decide ((0 : Int) < partI v s (0 : Int) false)) (((0 : Int) ≤ partI v s (0 : Int) false ∧ partI v s (0 : Int) false ≤ (↑s.size : Int)) ∧ ((0 : Nat) < (s.extract (0 : Nat) (partI v s (0 : Int) false).toNat).size ∧ (s.extract (0 : Nat) (partI v s (0 : Int) false).toNat).size ≤ (1000000 : Nat)) ∧ br (closedI (s.extract (0 : Nat) (partI v s (0 : Int) false).toNat)) (((0 : Int) ≤ partI v s (0 : Int) false ∧ partI v s (0 : Int) false ≤ (↑s.size : Int)) ∧ (s.extract (0 : Nat) (partI v s (0 : Int) false).toNat).size ≤ (1000000 : Nat) ∧ br (!decide (partI v (s.extract (0 : Nat) (partI v s (0 : Int) false).toNat) (0 : Int) false = partI v s (0 : Int) false)) (K Exit.ret [Value.bool false, Value.int IntKind.i64 v, Value.slice (some (Addr.mk (1 : Nat) (0 : Nat) none)) X.length X.length, Value.int IntKind.i64 (↑X.length : Int), Value.int IntKind.i64 (↑j : Int)] (Heap.mk (2 : Nat) [seedB Z, strsB X])) (rng IntKind.i64 (partI v s (0 : Int) false - (1 : Int)) ∧ br (blankI s (partI v s (0 : Int) false - (1 : Int))) (K Exit.ret [Value.bool false, Value.int IntKind.i64 v, Value.slice (some (Addr.mk (1 : Nat) (0 : Nat) none)) X.length X.length, Value.int IntKind.i64 (↑X.length : Int), Value.int IntKind.i64 (↑j : Int)] (Heap.mk (2 : Nat) [seedB Z, strsB X])) (((0 : Int) ≤ partI v s (0 : Int) false ∧ partI v s (0 : Int) false ≤ (↑s.size : Int)) ∧ (s.extract (0 : Nat) (partI v s (0 : Int) false).toNat).size ≤ (1000000 : Nat) ∧ br (!decide ((↑(linesI v (s.extract (0 : Nat) (partI v s (0 : Int) false).toNat)).length : Int) = (1 : Int))) (K Exit.ret [Value.bool false, Value.int IntKind.i64 v, Value.slice (some (Addr.mk (1 : Nat) (0 : Nat) none)) X.length X.length, Value.int IntKind.i64 (↑X.length : Int), Value.int IntKind.i64 (↑j : Int)] (Heap.mk ((2 : Nat) + (List.map (renB (sh (2 : Nat))) [Blk.mk (58 : TypeId) (3 : Nat) (lnsC (linesI v (s.extract (0 : Nat) (partI v s (0 : Int) false).toNat))) true]).length) [seedB Z, strsB X, some (Blk.mk (58 : TypeId) (3 : Nat) (List.map (ren (sh (2 : Nat))) (lnsC (linesI v (s.extract (0 : Nat) (partI v s (0 : Int) false).toNat)))) true)])) (br (decide ((0 : Int) < partI v s (0 : Int) true)) (((0 : Int) ≤ partI v s (0 : Int) true ∧ partI v s (0 : Int) true ≤ (↑s.size : Int)) ∧ ((0 : Nat) < (s.extract (0 : Nat) (partI v s (0 : Int) true).toNat).size ∧ (s.extract (0 : Nat) (partI v s (0 : Int) true).toNat).size ≤ (1000000 : Nat)) ∧ br (closedI (s.extract (0 : Nat) (partI v s (0 : Int) true).toNat)) (((0 : Int) ≤ partI v s (0 : Int) true ∧ partI v s (0 : Int) true ≤ (↑s.size : Int)) ∧ (s.extract (0 : Nat) (partI v s (0 : Int) true).toNat).size ≤ (1000000 : Nat) ∧ br (!decide (partI v (s.extract (0 : Nat) (partI v s (0 : Int) true).toNat) (0 : Int) true = partI v s (0 : Int) true)) (K Exit.ret [Value.bool false, Value.int IntKind.i64 v, Value.slice (some (Addr.mk (1 : Nat) (0 : Nat) none)) X.length X.length, Value.int IntKind.i64 (↑X.length : Int), Value.int IntKind.i64 (↑j : Int)] (Heap.mk ((2 : Nat) + (List.map (renB (sh (2 : Nat))) [Blk.mk (58 : TypeId) (3 : Nat) (lnsC (linesI v (s.extract (0 : Nat) (partI v s (0 : Int) false).toNat))) true]).length) [seedB Z, strsB X, some (Blk.mk (58 : TypeId) (3 : Nat) (List.map (ren (sh (2 : Nat))) (lnsC (linesI v (s.extract (0 : Nat) (partI v s (0 : Int) false).toNat)))) true)])) (rng IntKind.i64 ((↑j : Int) + (1 : Int)) ∧ N [Value.bool q, Value.int IntKind.i64 v, Value.slice (some (Addr.mk (1 : Nat) (0 : Nat) none)) X.length X.length, Value.int IntKind.i64 (↑X.length : Int), Value.int IntKind.i64 ((↑j : Int) + (1 : Int))] (Heap.mk ((2 : Nat) + (List.map (renB (sh (2 : Nat))) [Blk.mk (58 : TypeId) (3 : Nat) (lnsC (linesI v (s.extract (0 : Nat) (partI v s (0 : Int) false).toNat))) true]).length) [seedB Z, strsB X, some (Blk.mk (58 : TypeId) (3 : Nat) (List.map (ren (sh (2 : Nat))) (lnsC (linesI v (s.extract (0 : Nat) (partI v s (0 : Int) false).toNat)))) true)]))) (rng IntKind.i64 ((↑j : Int) + (1 : Int)) ∧ N [Value.bool q, Value.int IntKind.i64 v, Value.slice (some (Addr.mk (1 : Nat) (0 : Nat) none)) X.length X.length, Value.int IntKind.i64 (↑X.length : Int), Value.int IntKind.i64 ((↑j : Int) + (1 : Int))] (Heap.mk ((2 : Nat) + (List.map (renB (sh (2 : Nat))) [Blk.mk (58 : TypeId) (3 : Nat) (lnsC (linesI v (s.extract (0 : Nat) (partI v s (0 : Int) false).toNat))) true]).length) [seedB Z, strsB X, some (Blk.mk (58 : TypeId) (3 : Nat) (List.map (ren (sh (2 : Nat))) (lnsC (linesI v (s.extract (0 : Nat) (partI v s (0 : Int) false).toNat)))) true)]))) (rng IntKind.i64 ((↑j : Int) + (1 : Int)) ∧ N [Value.bool q, Value.int IntKind.i64 v, Value.slice (some (Addr.mk (1 : Nat) (0 : Nat) none)) X.length X.length, Value.int IntKind.i64 (↑X.length : Int), Value.int IntKind.i64 ((↑j : Int) + (1 : Int))] (Heap.mk ((2 : Nat) + (List.map (renB (sh (2 : Nat))) [Blk.mk (58 : TypeId) (3 : Nat) (lnsC (linesI v (s.extract (0 : Nat) (partI v s (0 : Int) false).toNat))) true]).length) [seedB Z, strsB X, some (Blk.mk (58 : TypeId) (3 : Nat) (List.map (ren (sh (2 : Nat))) (lnsC (linesI v (s.extract (0 : Nat) (partI v s (0 : Int) false).toNat)))) true)])))))) (rng IntKind.i64 (partI v s (0 : Int) false - (1 : Int)) ∧ br (blankI s (partI v s (0 : Int) false - (1 : Int))) (K Exit.ret [Value.bool false, Value.int IntKind.i64 v, Value.slice (some (Addr.mk (1 : Nat) (0 : Nat) none)) X.length X.length, Value.int IntKind.i64 (↑X.length : Int), Value.int IntKind.i64 (↑j : Int)] (Heap.mk (2 : Nat) [seedB Z, strsB X])) (((0 : Int) ≤ partI v s (0 : Int) false ∧ partI v s (0 : Int) false ≤ (↑s.size : Int)) ∧ (s.extract (0 : Nat) (partI v s (0 : Int) false).toNat).size ≤ (1000000 : Nat) ∧ br (!decide ((↑(linesI v (s.extract (0 : Nat) (partI v s (0 : Int) false).toNat)).length : Int) = (1 : Int))) (K Exit.ret [Value.bool false, Value.int IntKind.i64 v, Value.slice (some (Addr.mk (1 : Nat) (0 : Nat) none)) X.length X.length, Value.int IntKind.i64 (↑X.length : Int), Value.int IntKind.i64 (↑j : Int)] (Heap.mk ((2 : Nat) + (List.map (renB (sh (2 : Nat))) [Blk.mk (58 : TypeId) (3 : Nat) (lnsC (linesI v (s.extract (0 : Nat) (partI v s (0 : Int) false).toNat))) true]).length) [seedB Z, strsB X, some (Blk.mk (58 : TypeId) (3 : Nat) (List.map (ren (sh (2 : Nat))) (lnsC (linesI v (s.extract (0 : Nat) (partI v s (0 : Int) false).toNat)))) true)])) (br (decide ((0 : Int) < partI v s (0 : Int) true)) (((0 : Int) ≤ partI v s (0 : Int) true ∧ partI v s (0 : Int) true ≤ (↑s.size : Int)) ∧ ((0 : Nat) < (s.extract (0 : Nat) (partI v s (0 : Int) true).toNat).size ∧ (s.extract (0 : Nat) (partI v s (0 : Int) true).toNat).size ≤ (1000000 : Nat)) ∧ br (closedI (s.extract (0 : Nat) (partI v s (0 : Int) true).toNat)) (((0 : Int) ≤ partI v s (0 : Int) true ∧ partI v s (0 : Int) true ≤ (↑s.size : Int)) ∧ (s.extract (0 : Nat) (partI v s (0 : Int) true).toNat).size ≤ (1000000 : Nat) ∧ br (!decide (partI v (s.extract (0 : Nat) (partI v s (0 : Int) true).toNat) (0 : Int) true = partI v s (0 : Int) true)) (K Exit.ret [Value.bool false, Value.int IntKind.i64 v, Value.slice (some (Addr.mk (1 : Nat) (0 : Nat) none)) X.length X.length, Value.int IntKind.i64 (↑X.length : Int), Value.int IntKind.i64 (↑j : Int)] (Heap.mk ((2 : Nat) + (List.map (renB (sh (2 : Nat))) [Blk.mk (58 : TypeId) (3 : Nat) (lnsC (linesI v (s.extract (0 : Nat) (partI v s (0 : Int) false).toNat))) true]).length) [seedB Z, strsB X, some (Blk.mk (58 : TypeId) (3 : Nat) (List.map (ren (sh (2 : Nat))) (lnsC (linesI v (s.extract (0 : Nat) (partI v s (0 : Int) false).toNat)))) true)])) (rng IntKind.i64 ((↑j : Int) + (1 : Int)) ∧ N [Value.bool q, Value.int IntKind.i64 v, Value.slice (some (Addr.mk (1 : Nat) (0 : Nat) none)) X.length X.length, Value.int IntKind.i64 (↑X.length : Int), Value.int IntKind.i64 ((↑j : Int) + (1 : Int))] (Heap.mk ((2 : Nat) + (List.map (renB (sh (2 : Nat))) [Blk.mk (58 : TypeId) (3 : Nat) (lnsC (linesI v (s.extract (0 : Nat) (partI v s (0 : Int) false).toNat))) true]).length) [seedB Z, strsB X, some (Blk.mk (58 : TypeId) (3 : Nat) (List.map (ren (sh (2 : Nat))) (lnsC (linesI v (s.extract (0 : Nat) (partI v s (0 : Int) false).toNat)))) true)]))) (rng IntKind.i64 ((↑j : Int) + (1 : Int)) ∧ N [Value.bool q, Value.int IntKind.i64 v, Value.slice (some (Addr.mk (1 : Nat) (0 : Nat) none)) X.length X.length, Value.int IntKind.i64 (↑X.length : Int), Value.int IntKind.i64 ((↑j : Int) + (1 : Int))] (Heap.mk ((2 : Nat) + (List.map (renB (sh (2 : Nat))) [Blk.mk (58 : TypeId) (3 : Nat) (lnsC (linesI v (s.extract (0 : Nat) (partI v s (0 : Int) false).toNat))) true]).length) [seedB Z, strsB X, some (Blk.mk (58 : TypeId) (3 : Nat) (List.map (ren (sh (2 : Nat))) (lnsC (linesI v (s.extract (0 : Nat) (partI v s (0 : Int) false).toNat)))) true)]))) (rng IntKind.i64 ((↑j : Int) + (1 : Int)) ∧ N [Value.bool q, Value.int IntKind.i64 v, Value.slice (some (Addr.mk (1 : Nat) (0 : Nat) none)) X.length X.length, Value.int IntKind.i64 (↑X.length : Int), Value.int IntKind.i64 ((↑j : Int) + (1 : Int))] (Heap.mk ((2 : Nat) + (List.map (renB (sh (2 : Nat))) [Blk.mk (58 : TypeId) (3 : Nat) (lnsC (linesI v (s.extract (0 : Nat) (partI v s (0 : Int) false).toNat))) true]).length) [seedB Z, strsB X, some (Blk.mk (58 : TypeId) (3 : Nat) (List.map (ren (sh (2 : Nat))) (lnsC (linesI v (s.extract (0 : Nat) (partI v s (0 : Int) false).toNat)))) true)])))))) (br (decide ((0 : Int) < partI v s (0 : Int) true)) (((0 : Int) ≤ partI v s (0 : Int) true ∧ partI v s (0 : Int) true ≤ (↑s.size : Int)) ∧ ((0 : Nat) < (s.extract (0 : Nat) (partI v s (0 : Int) true).toNat).size ∧ (s.extract (0 : Nat) (partI v s (0 : Int) true).toNat).size ≤ (1000000 : Nat)) ∧ br (closedI (s.extract (0 : Nat) (partI v s (0 : Int) true).toNat)) (((0 : Int) ≤ partI v s (0 : Int) true ∧ partI v s (0 : Int) true ≤ (↑s.size : Int)) ∧ (s.extract (0 : Nat) (partI v s (0 : Int) true).toNat).size ≤ (1000000 : Nat) ∧ br (!decide (partI v (s.extract (0 : Nat) (partI v s (0 : Int) true).toNat) (0 : Int) true = partI v s (0 : Int) true)) (K Exit.ret [Value.bool false, Value.int IntKind.i64 v, Value.slice (some (Addr.mk (1 : Nat) (0 : Nat) none)) X.length X.length, Value.int IntKind.i64 (↑X.length : Int), Value.int IntKind.i64 (↑j : Int)] (Heap.mk (2 : Nat) [seedB Z, strsB X])) (rng IntKind.i64 ((↑j : Int) + (1 : Int)) ∧ N [Value.bool q, Value.int IntKind.i64 v, Value.slice (some (Addr.mk (1 : Nat) (0 : Nat) none)) X.length X.length, Value.int IntKind.i64 (↑X.length : Int), Value.int IntKind.i64 ((↑j : Int) + (1 : Int))] (Heap.mk (2 : Nat) [seedB Z, strsB X]))) (rng IntKind.i64 ((↑j : Int) + (1 : Int)) ∧ N [Value.bool q, Value.int IntKind.i64 v, Value.slice (some (Addr.mk (1 : Nat) (0 : Nat) none)) X.length X.length, Value.int IntKind.i64 (↑X.length : Int), Value.int IntKind.i64 ((↑j : Int) + (1 : Int))] (Heap.mk (2 : Nat) [seedB Z, strsB X]))) (rng IntKind.i64 ((↑j : Int) + (1 : Int)) ∧ N [Value.bool q, Value.int IntKind.i64 v, Value.slice (some (Addr.mk (1 : Nat) (0 : Nat) none)) X.length X.length, Value.int IntKind.i64 (↑X.length : Int), Value.int IntKind.i64 ((↑j : Int) + (1 : Int))] (Heap.mk (2 : Nat) [seedB Z, strsB X])))))))))) (K (Exit.exit (0 : Nat)) [Value.bool q, Value.int IntKind.i64 v, Value.slice (some (Addr.mk (1 : Nat) (0 : Nat) none)) X.length X.length, Value.int IntKind.i64 (↑X.length : Int), Value.int IntKind.i64 (↑j : Int)] (Heap.mk (2 : Nat) [seedB Z, strsB X]))) := by kernel_rfl
theorem targumlaw20_PlainCut.lo0 : LOk1 Tryd.prog targumlaw20_PlainCut.nt targumlaw20_PlainCut.sp0 (.loop 0 targumlaw20_PlainCut.l0) := by
  refine loop_resC (σ := Bool × Int × (List UInt8) × (List (List UInt8)) × Nat) LC_ok LC_mono (lt0_mono) (LS := lt0) (by simp only [targumlaw20_PlainCut.l0, LOk, and_true, true_and]) rfl rfl (fun ⟨q, v, Z, X, j⟩ => [.bool q, .int .i64 v, .slice (some ⟨1, 0, none⟩) X.length X.length, .int .i64 X.length, .int .i64 j]) (fun ⟨q, v, Z, X, j⟩ => lit [seedB Z, strsB X]) (fun ⟨q, v, Z, X, j⟩ => (∀ x ∈ X, x.length ≤ 1000000) ∧ j ≤ X.length ∧ X.length ≤ 1000) (fun ⟨q, v, Z, X, j⟩ => X.length - j) 2 (fun ⟨q, v, Z, X, j⟩ K => ∀ j' : Int, K (.exit 0) [.bool q, .int .i64 v, .slice (some ⟨1, 0, none⟩) X.length X.length, .int .i64 X.length, .int .i64 j'] (lit [seedB Z, strsB X])) ?_ ?_
  · rintro vs h K ⟨q, v, Z, X, j, ⟨h1, h2, h3⟩, h4⟩
    exact ⟨h1, ⟨q, v, Z, X, j⟩, h2, h3, h4⟩
  rintro ⟨q, v, Z, X, j⟩ E N K hE hp hN hK
  dsimp only at hp hN hK
  refine Eq.mpr (targumlaw20_PlainCut.t0 q v Z X j E N (fun x => In 2 (K x))) ?_
  obtain ⟨hX, h1, h2⟩ := hp
  refine br_intro (fun hb => ?_) (fun hb => ?_)
  · simp only [decide_eq_true_eq] at hb
    have hj : j < X.length := by omega
    have hx : (X.getD j []).length ≤ 1000000 := hX _ (by rw [List.getD_eq_getElem?_getD, List.getElem?_eq_getElem hj]; exact List.getElem_mem hj)
    refine ⟨⟨by omega, by omega⟩, strOf (X.getD j []), by rw [show 0 + (j : Int).toNat * 1 = j from by omega]; exact strsV_at hj, by rw [strOf_size]; omega, by rw [strOf_size]; omega, ?_⟩
    generalize hx' : strOf (X.getD j []) = x
    have hxs : x.size ≤ 1000000 := by rw [← hx', strOf_size]; exact hx
    have ra := part_range (v := v) (s := x) (flow := false) (i := 0) (by omega)
    have rb := part_range (v := v) (s := x) (flow := true) (i := 0) (by omega)
    have ba := part_flow (v := v) (s := x) (i := 0)
    have ca := @cut_closed v x false _ rfl
    have cb := @cut_closed v x true _ rfl
    have la := @part_line v x false _ rfl
    have bl : 0 < partI v x 0 false → blankI x (partI v x 0 false - 1) = false := fun h0 => by
      have ho : opensI v x 0 false = true := by
        unfold partI at h0; split at h0
        · assumption
        · omega
      have hE : endsI v x 0 false = partI v x 0 false := by unfold partI; rw [if_pos ho]
      have := (part_facts ho).2.2.1
      rw [hE] at this; exact this
    generalize partI v x 0 false = a at *
    generalize partI v x 0 true = b at *
    have cont2 : rng .i64 ((j : Int) + 1) ∧ N [.bool q, .int .i64 v, .slice (some ⟨1, 0, none⟩) X.length X.length, .int .i64 X.length, .int .i64 ((j : Int) + 1)] (lit [seedB Z, strsB X]) :=
      ⟨by simp only [rng]; omega, hN (q, v, Z, X, j + 1) _ _ ⟨hX, by dsimp only; omega, h2⟩ (by dsimp only; omega) hK (.inl ⟨by dsimp only; rw [show ((j + 1 : Nat) : Int) = (j : Int) + 1 from by omega], rfl⟩)⟩
    have cont3 : ∀ B : Option Blk, rng .i64 ((j : Int) + 1) ∧ N [.bool q, .int .i64 v, .slice (some ⟨1, 0, none⟩) X.length X.length, .int .i64 X.length, .int .i64 ((j : Int) + 1)] (lit [seedB Z, strsB X, B]) := fun B => by
      refine ⟨by simp only [rng]; omega, hN (q, v, Z, X, j + 1) _ _ ⟨hX, by dsimp only; omega, h2⟩ (by dsimp only; omega) hK ?_⟩
      refine In.rows [some 0, some 1] ⟨⟨rfl, okF_all (byV_flat _), ?_⟩, ⟨rfl, okF_all (strsV_flat _), ?_⟩, trivial⟩ rfl rfl rfl ?_ ?_
      · rw [map_ren_flat (byV_flat _)]; rfl
      · rw [map_ren_flat (strsV_flat _)]; rfl
      · simp [renT, renA, ren]
      · simp [okT, okA, okF, flatV]
    have hB : ∀ C F : Prop, C → br (decide (0 < b)) ((0 ≤ b ∧ b ≤ (x.size : Int)) ∧ (0 < (x.extract 0 b.toNat).size ∧ (x.extract 0 b.toNat).size ≤ 1000000) ∧ br (closedI (x.extract 0 b.toNat)) ((0 ≤ b ∧ b ≤ (x.size : Int)) ∧ (x.extract 0 b.toNat).size ≤ 1000000 ∧ br (!decide (partI v (x.extract 0 b.toNat) 0 true = b)) F C) C) C := fun C F hC => by
      refine br_intro (fun h => ?_) (fun _ => hC)
      simp only [decide_eq_true_eq] at h
      have e := pre_size (s := x) (a := b) (by omega) (by omega)
      refine ⟨⟨by omega, by omega⟩, ⟨by omega, by omega⟩, br_intro (fun hc => ⟨⟨by omega, by omega⟩, by omega, br_intro (fun hf => ?_) (fun _ => hC)⟩) (fun _ => hC)⟩
      rw [cb h hc] at hf; simp at hf
    refine br_intro (fun h => ?_) (fun _ => br_intro (fun h => ?_) (fun _ => br_intro (fun h => ?_) (fun _ => br_intro (fun h => ?_) (fun _ => br_intro (fun h => ?_) (fun _ => br_intro (fun h => ?_) (fun _ => br_intro (fun h => ?_) (fun _ => hB _ _ cont2)))))))
    iterate 6 (· simp only [decide_eq_true_eq] at h; omega)
    simp only [decide_eq_true_eq] at h
    have e := pre_size (s := x) (a := a) (by omega) (by omega)
    have fin : ∀ F G C : Prop, C → rng .i64 (a - 1) ∧ br (blankI x (a - 1)) F ((0 ≤ a ∧ a ≤ (x.size : Int)) ∧ (x.extract 0 a.toNat).size ≤ 1000000 ∧ br (!decide (((linesI v (x.extract 0 a.toNat)).length : Int) = 1)) G C) := fun F G C hC => by
      refine ⟨by simp only [rng]; omega, ?_⟩
      rw [bl h, la h]
      exact ⟨⟨by omega, by omega⟩, by omega, hC⟩
    refine ⟨⟨by omega, by omega⟩, ⟨by omega, by omega⟩, br_intro (fun hc => ⟨⟨by omega, by omega⟩, by omega, br_intro (fun hf => ?_) (fun _ => fin _ _ _ (hB _ _ (cont3 _)))⟩) (fun _ => fin _ _ _ (hB _ _ (cont3 _)))⟩
    rw [ca h hc] at hf; simp at hf
  · exact .inl (hK j)

def targumlaw20_PlainCut.LS : LT := (extL lt0 0 targumlaw20_PlainCut.sp0)
theorem targumlaw20_PlainCut.LS_mono : LMono targumlaw20_PlainCut.LS := (extL_mono lt0_mono targumlaw20_PlainCut.spm0)
theorem targumlaw20_PlainCut.t (s : ByteArray) (l : List UInt8) (old : Bool) (K : VK) : mwp LC (targumlaw20_PlainCut.LS) targumlaw20_PlainCut.m (retK [.t 6] K) (argE 0 [.string s, .slice (some ⟨0, 0, none⟩) l.length l.length, .bool old]) (lit ([seedB l])) = ((200 : Int) ≤ (1000000 : Int) ∧ br (!fewI s (200 : Int)) (K (Value.bool true) (Heap.mk (1 : Nat) [seedB l])) (br (decide ((60 : Int) < (↑l.length : Int))) (K (Value.bool true) (Heap.mk (1 : Nat) [seedB l])) (∃ (l_1 : List UInt8), ∃ (ρl : List (Option Nat)), [Value.slice (some (Addr.mk (0 : Nat) (0 : Nat) none)) l.length l.length] = List.map (renT fun (j : Nat) => ρl.getD j none) [Value.slice (some (Addr.mk (0 : Nat) (0 : Nat) none)) l_1.length l_1.length] ∧ rowsSee (fun (j : Nat) => ρl.getD j none) (targumlaw20_text.H l_1).length (Heap.mk (1 : Nat) [seedB l]) (targumlaw20_text.H l_1) ρl ∧ l_1.length ≤ (1000000 : Nat) ∧ ∃ (l_2 : List UInt8), ∃ (ρl : List (Option Nat)), [Value.slice (some (Addr.mk (0 : Nat) (0 : Nat) none)) l.length l.length] = List.map (renT fun (j : Nat) => ρl.getD j none) [Value.slice (some (Addr.mk (0 : Nat) (0 : Nat) none)) l_2.length l_2.length] ∧ rowsSee (fun (j : Nat) => ρl.getD j none) (targumlaw20_text.H l_2).length (Heap.mk (1 : Nat) [seedB l]) (targumlaw20_text.H l_2) ρl ∧ l_2.length ≤ (1000000 : Nat) ∧ (ByteArray.mk #[(97 : UInt8)]).size + (strOf (textL signs20 l_2)).size ≤ (9223372036854775807 : Nat) ∧ ∃ (q : Bool), ∃ (v : Int), ∃ (Z : List UInt8), ∃ (X : List (List UInt8)), ∃ (j : Nat), ((2 : Nat) = (2 : Nat) ∧ In (2 : Nat) (targumlaw20_PlainCut.N0 q v Z X j) [Value.bool false, Value.int IntKind.i64 (verI old), Value.slice (some (Addr.mk (1 : Nat) (0 : Nat) none)) (3 : Nat) (3 : Nat), Value.int IntKind.i64 (↑(3 : Nat) : Int), Value.int IntKind.i64 (0 : Int)] (Heap.mk (2 : Nat) [seedB l, some (Blk.mk (9 : Nat) (1 : Nat) [Value.string s, Value.string (strOf (textL signs20 l_1)), Value.string (ByteArray.mk #[(97 : UInt8)] ++ strOf (textL signs20 l_2))] true)]) ∧ (∀ (x : List UInt8), x ∈ X → x.length ≤ (1000000 : Nat)) ∧ j ≤ X.length ∧ X.length ≤ (1000 : Nat)) ∧ ∀ (j' : Int), K (Value.bool true) (Heap.mk (2 : Nat) [seedB Z, strsB X])))) := by kernel_rfl
theorem targumlaw20_PlainCut.law (s : ByteArray) (l : List UInt8) (old : Bool) : ACalls Tryd.prog targumlaw20_PlainCut.n [.string s, .slice (some ⟨0, 0, none⟩) l.length l.length, .bool old] (lit ([seedB l])) (fun v _ => v = .bool true) := by
  refine acalls_mk LC_ok targumlaw20_PlainCut.ok (LS := targumlaw20_PlainCut.LS) (by simp only [targumlaw20_PlainCut.m, LOk, and_true, true_and]; (repeat' apply And.intro) <;> first | trivial | exact targumlaw20_PlainCut.lo0) (Nat.le_of_ble_eq_true rfl) (Eq.mpr (targumlaw20_PlainCut.t s l old _) ?_)
  refine ⟨by omega, br_intro (fun _ => rfl) (fun hf => br_intro (fun _ => rfl) (fun hl => ?_))⟩
  have hs : s.size ≤ 200 := by have := few_le (by simpa using hf : fewI s 200 = true); omega
  simp only [decide_eq_false_iff_not] at hl
  have ht := textL_len (S := signs20) (m := 5) (by decide) l
  have hls : (lst s).length = s.size := Array.length_toList
  refine ⟨l, [some 0], rfl, seed_see rfl rfl, by omega, l, [some 0], rfl, seed_see rfl rfl, by omega, ?_⟩
  rw [mk_app, lst_strOf]
  refine ⟨by simp only [strOf_size, List.length_cons, show (ByteArray.mk #[(97 : UInt8)]).size = 1 from rfl]; omega, false, verI old, l, [lst s, textL signs20 l, 97 :: textL signs20 l], 0, ⟨rfl, .inl ⟨rfl, ?_⟩, ?_, by simp, by simp⟩, fun _ => rfl⟩
  · simp [lit, strsV, strOf_lst]
  · intro x hx
    simp only [List.mem_cons, List.not_mem_nil, or_false] at hx
    rcases hx with rfl | rfl | rfl <;> first | omega | (simp only [List.length_cons]; omega)

end Go.Mini
