/- The law's known cases; letters. Conditions: sizes. -/
import Derived.Test.YtcdkcdapbadkaaaDoorL20a
namespace Go.Mini
open Go Go.RowKit Go.Proofs
set_option maxRecDepth 100000
set_option linter.unusedVariables false
set_option linter.unusedSimpArgs false

def LA : CT := (extC (extC (extC (extC (extC (extC (extC HC plain_Read.n plain_Read.s) targumref17_Plain.n targumref17_Plain.s) targumhelp_Version.n targumhelp_Version.s) targumhelp_Within.n targumhelp_Within.s) targumhelp_Cut.n targumhelp_Cut.s) targumhelp_Few.n targumhelp_Few.s) targumlaw20_text.n targumlaw20_text.s)
theorem LA_ok : COk Tryd.prog LA := (extC_ok (extC_ok (extC_ok (extC_ok (extC_ok (extC_ok (extC_ok HC_ok plain_Read.sc plain_Read.sd) targumref17_Plain.sc targumref17_Plain.sd) targumhelp_Version.sc targumhelp_Version.sd) targumhelp_Within.sc targumhelp_Within.sd) targumhelp_Cut.sc targumhelp_Cut.sd) targumhelp_Few.sc targumhelp_Few.sd) targumlaw20_text.sc targumlaw20_text.sd)
theorem LA_mono : CMono LA := (extC_mono (extC_mono (extC_mono (extC_mono (extC_mono (extC_mono (extC_mono HC_mono plain_Read.sm) targumref17_Plain.sm) targumhelp_Version.sm) targumhelp_Within.sm) targumhelp_Cut.sm) targumhelp_Few.sm) targumlaw20_text.sm)
def targumlaw20_known.s : List Value → Heap → VK → Prop
  | [], h, K => K (.bool true) h
  | _, _, _ => False
theorem targumlaw20_known.t  (h : Heap) (K : VK) : mwp LA (lt0) targumlaw20_known.m (retK [.t 0] K) (argE 0 []) h = ((ByteArray.mk #[(97 : UInt8), (10 : UInt8), (32 : UInt8), (98 : UInt8)]).size ≤ (1000000 : Nat) ∧ (ByteArray.mk #[(97 : UInt8), (32 : UInt8), (35 : UInt8), (32 : UInt8), (99 : UInt8), (10 : UInt8), (32 : UInt8), (98 : UInt8)]).size ≤ (1000000 : Nat) ∧ (ByteArray.mk #[(97 : UInt8), (10 : UInt8), (10 : UInt8), (32 : UInt8), (32 : UInt8), (98 : UInt8), (58 : UInt8), (32 : UInt8), (99 : UInt8)]).size ≤ (1000000 : Nat) ∧ (ByteArray.mk #[(97 : UInt8), (58 : UInt8), (32 : UInt8), (98 : UInt8)]).size ≤ (1000000 : Nat) ∧ (ByteArray.mk #[(97 : UInt8), (44 : UInt8), (98 : UInt8)]).size ≤ (1000000 : Nat) ∧ (ByteArray.mk #[(97 : UInt8), (44 : UInt8), (98 : UInt8)]).size ≤ (1000000 : Nat) ∧ (ByteArray.mk #[(45 : UInt8), (32 : UInt8), (97 : UInt8)]).size ≤ (1000000 : Nat) ∧ (ByteArray.mk #[(45 : UInt8), (97 : UInt8)]).size ≤ (1000000 : Nat) ∧ (ByteArray.mk #[(58 : UInt8), (93 : UInt8)]).size ≤ (1000000 : Nat) ∧ K (Value.bool (decide ((plainI (12 : Int) (ByteArray.mk #[(97 : UInt8), (10 : UInt8), (10 : UInt8), (32 : UInt8), (32 : UInt8), (98 : UInt8), (58 : UInt8), (32 : UInt8), (99 : UInt8)]) (0 : Int) (-1 : Int)).snd = (6 : Int)))) h) := by kernel_rfl
theorem targumlaw20_known.c  (h : Heap) (K : VK) (hh : K (.bool true) h) : ACalls Tryd.prog targumlaw20_known.n [] h K := by
  refine acalls_mk LA_ok targumlaw20_known.ok (LS := lt0) (by simp only [targumlaw20_known.m, LOk, and_true, true_and]) (Nat.le_of_ble_eq_true rfl) (Eq.mpr (targumlaw20_known.t  h K) ?_)
  repeat (refine And.intro (by decide) ?_)
  exact hh
theorem targumlaw20_known.sc : ∀ vs h K, targumlaw20_known.s vs h K → ACalls Tryd.prog targumlaw20_known.n vs h K := by
  intro vs h K hh; unfold targumlaw20_known.s at hh; split at hh
  · exact targumlaw20_known.c  _ _ hh
  · exact hh.elim
theorem targumlaw20_known.sm : SpecMono targumlaw20_known.s := by
  intro vs h K K' hk hh; unfold targumlaw20_known.s at hh ⊢; split at hh
  · exact hk _ _ hh
  · exact hh.elim
theorem targumlaw20_known.sd : SpecDet targumlaw20_known.s := by
  intro vs h K hh; unfold targumlaw20_known.s at hh; split at hh
  · exact ⟨_, hh, rfl⟩
  · exact hh.elim

def LB : CT := (extC LA targumlaw20_known.n targumlaw20_known.s)
theorem LB_ok : COk Tryd.prog LB := (extC_ok LA_ok targumlaw20_known.sc targumlaw20_known.sd)
theorem LB_mono : CMono LB := (extC_mono LA_mono targumlaw20_known.sm)
abbrev strsB (l : List (List UInt8)) : Option Blk := some ⟨9, 1, strsV l, true⟩
abbrev intsB (l : List Int) : Option Blk := some ⟨3, 1, l.map (.int .i64), true⟩
theorem ints_at {l : List Int} {j : Nat} (h : j < l.length) : ((l.map (Value.int .i64)).drop j).take 1 = [.int .i64 (l.getD j 0)] := by
  rw [List.drop_eq_getElem_cons (by simpa using h), List.take_succ_cons, List.take_zero, List.getElem_map, List.getD_eq_getElem?_getD, List.getElem?_eq_getElem h]
  rfl
theorem cut_not {s : ByteArray} {i : Int} (h : cutI s i = false) : ¬ (0 < i ∧ i < s.size ∧ 128 ≤ (byteAt s i.toNat).toNat ∧ (byteAt s i.toNat).toNat < 192) := fun ⟨h1, h2, h3, h4⟩ => by
  unfold cutI at h
  rw [decide_eq_true h1, decide_eq_true h2, decide_eq_true h3, decide_eq_true h4] at h
  cases h

def targumlaw20_PlainTells.N2 (q : Bool) (v p : Int) (s : ByteArray) (Z : List UInt8) (X : List (List UInt8)) (l : List Int) (j : Nat) (vs : List Value) (h : Heap) : Prop := vs = [.bool q, .int .i64 v, .int .i64 p, .string s, .slice (some ⟨2, 0, none⟩) l.length l.length, .int .i64 l.length, .int .i64 j] ∧ h = lit [seedB Z, strsB X, intsB l]
def targumlaw20_PlainTells.sp2 : LSpec := ⟨targumlaw20_PlainTells.cs2, targumlaw20_PlainTells.ts2, fun vs h K => ∃ (q : Bool) (v p : Int) (s : ByteArray) (Z : List UInt8) (X : List (List UInt8)) (l : List Int) (j : Nat), (h.n = 3 ∧ In 3 (targumlaw20_PlainTells.N2 q v p s Z X l j) vs h ∧ (s.size ≤ 1000000 ∧ j ≤ l.length ∧ l.length ≤ 1000)) ∧ (∀ j' : Int, K (.exit 2) [.bool q, .int .i64 v, .int .i64 p, .string s, .slice (some ⟨2, 0, none⟩) l.length l.length, .int .i64 l.length, .int .i64 j'] (lit [seedB Z, strsB X, intsB l]))⟩
theorem targumlaw20_PlainTells.spm2 : LSpecMono targumlaw20_PlainTells.sp2 := by
  rintro vs h K K' hk ⟨q, v, p, s, Z, X, l, j, h3, h4⟩
  exact ⟨q, v, p, s, Z, X, l, j, h3, fun j' => hk _ _ _ (h4 j')⟩
theorem targumlaw20_PlainTells.t2 (q : Bool) (v p : Int) (s : ByteArray) (Z : List UInt8) (X : List (List UInt8)) (l : List Int) (j : Nat) (E : Env) (N : List Value → Heap → Prop) (K : LK) : mwp LB (lt0) targumlaw20_PlainTells.l2 (lK targumlaw20_PlainTells.cs2 N K) (zipE targumlaw20_PlainTells.cs2 [.bool q, .int .i64 v, .int .i64 p, .string s, .slice (some ⟨2, 0, none⟩) l.length l.length, .int .i64 l.length, .int .i64 j] ++ E) (lit [seedB Z, strsB X, intsB l]) = (br (decide ((↑j : Int) < (↑l.length : Int))) (((0 : Int) ≤ (↑j : Int) ∧ (↑j : Int) < (↑l.length : Int)) ∧ ∃ (z : Int), List.take (1 : Nat) (List.drop ((0 : Nat) + (↑j : Int).toNat * (1 : Nat)) (List.map (Value.int IntKind.i64) l)) = [Value.int IntKind.i64 z] ∧ br (cutI s z) (rng IntKind.i64 ((↑j : Int) + (1 : Int)) ∧ N [Value.bool q, Value.int IntKind.i64 v, Value.int IntKind.i64 p, Value.string s, Value.slice (some (Addr.mk (2 : Nat) (0 : Nat) none)) l.length l.length, Value.int IntKind.i64 (↑l.length : Int), Value.int IntKind.i64 ((↑j : Int) + (1 : Int))] (Heap.mk (3 : Nat) [seedB Z, strsB X, intsB l])) (s.size ≤ (1000000 : Nat) ∧ s.size ≤ (1000000 : Nat) ∧ br (!decide (strOf (plainI v s z p).fst = strOf (plainR v s z p).fst)) (K Exit.ret [Value.bool false, Value.int IntKind.i64 v, Value.int IntKind.i64 p, Value.string s, Value.slice (some (Addr.mk (2 : Nat) (0 : Nat) none)) l.length l.length, Value.int IntKind.i64 (↑l.length : Int), Value.int IntKind.i64 (↑j : Int)] (Heap.mk (3 : Nat) [seedB Z, strsB X, intsB l])) (br (!decide ((plainI v s z p).snd = (plainR v s z p).snd)) (K Exit.ret [Value.bool false, Value.int IntKind.i64 v, Value.int IntKind.i64 p, Value.string s, Value.slice (some (Addr.mk (2 : Nat) (0 : Nat) none)) l.length l.length, Value.int IntKind.i64 (↑l.length : Int), Value.int IntKind.i64 (↑j : Int)] (Heap.mk (3 : Nat) [seedB Z, strsB X, intsB l])) (s.size ≤ (1000000 : Nat) ∧ s.size ≤ (1000000 : Nat) ∧ br (!decide (partI v s z false = partI v s z false)) (K Exit.ret [Value.bool false, Value.int IntKind.i64 v, Value.int IntKind.i64 p, Value.string s, Value.slice (some (Addr.mk (2 : Nat) (0 : Nat) none)) l.length l.length, Value.int IntKind.i64 (↑l.length : Int), Value.int IntKind.i64 (↑j : Int)] (Heap.mk (3 : Nat) [seedB Z, strsB X, intsB l])) (s.size ≤ (1000000 : Nat) ∧ s.size ≤ (1000000 : Nat) ∧ br (!decide (partI v s z true = partI v s z true)) (K Exit.ret [Value.bool false, Value.int IntKind.i64 v, Value.int IntKind.i64 p, Value.string s, Value.slice (some (Addr.mk (2 : Nat) (0 : Nat) none)) l.length l.length, Value.int IntKind.i64 (↑l.length : Int), Value.int IntKind.i64 (↑j : Int)] (Heap.mk (3 : Nat) [seedB Z, strsB X, intsB l])) (rng IntKind.i64 ((↑j : Int) + (1 : Int)) ∧ N [Value.bool q, Value.int IntKind.i64 v, Value.int IntKind.i64 p, Value.string s, Value.slice (some (Addr.mk (2 : Nat) (0 : Nat) none)) l.length l.length, Value.int IntKind.i64 (↑l.length : Int), Value.int IntKind.i64 ((↑j : Int) + (1 : Int))] (Heap.mk (3 : Nat) [seedB Z, strsB X, intsB l]))))))) (K (Exit.exit (2 : Nat)) [Value.bool q, Value.int IntKind.i64 v, Value.int IntKind.i64 p, Value.string s, Value.slice (some (Addr.mk (2 : Nat) (0 : Nat) none)) l.length l.length, Value.int IntKind.i64 (↑l.length : Int), Value.int IntKind.i64 (↑j : Int)] (Heap.mk (3 : Nat) [seedB Z, strsB X, intsB l]))) := by kernel_rfl
theorem targumlaw20_PlainTells.lo2 : LOk1 Tryd.prog targumlaw20_PlainTells.nt targumlaw20_PlainTells.sp2 (.loop 2 targumlaw20_PlainTells.l2) := by
  refine loop_resC (σ := Bool × Int × Int × ByteArray × (List UInt8) × (List (List UInt8)) × (List Int) × Nat) LB_ok LB_mono (lt0_mono) (LS := lt0) (by simp only [targumlaw20_PlainTells.l2, LOk, and_true, true_and]) rfl rfl (fun ⟨q, v, p, s, Z, X, l, j⟩ => [.bool q, .int .i64 v, .int .i64 p, .string s, .slice (some ⟨2, 0, none⟩) l.length l.length, .int .i64 l.length, .int .i64 j]) (fun ⟨q, v, p, s, Z, X, l, j⟩ => lit [seedB Z, strsB X, intsB l]) (fun ⟨q, v, p, s, Z, X, l, j⟩ => s.size ≤ 1000000 ∧ j ≤ l.length ∧ l.length ≤ 1000) (fun ⟨q, v, p, s, Z, X, l, j⟩ => l.length - j) 3 (fun ⟨q, v, p, s, Z, X, l, j⟩ K => ∀ j' : Int, K (.exit 2) [.bool q, .int .i64 v, .int .i64 p, .string s, .slice (some ⟨2, 0, none⟩) l.length l.length, .int .i64 l.length, .int .i64 j'] (lit [seedB Z, strsB X, intsB l])) ?_ ?_
  · rintro vs h K ⟨q, v, p, s, Z, X, l, j, ⟨h1, h2, h3⟩, h4⟩
    exact ⟨h1, ⟨q, v, p, s, Z, X, l, j⟩, h2, h3, h4⟩
  rintro ⟨q, v, p, s, Z, X, l, j⟩ E N K hE hp hN hK
  dsimp only at hp hN hK
  refine Eq.mpr (targumlaw20_PlainTells.t2 q v p s Z X l j E N (fun x => In 3 (K x))) ?_
  obtain ⟨hs, h1, h2⟩ := hp
  refine br_intro (fun hb => ?_) (fun hb => ?_)
  · simp only [decide_eq_true_eq] at hb
    have hj : j < l.length := by omega
    have nxt : rng .i64 ((j : Int) + 1) ∧ N [.bool q, .int .i64 v, .int .i64 p, .string s, .slice (some ⟨2, 0, none⟩) l.length l.length, .int .i64 l.length, .int .i64 ((j : Int) + 1)] (lit [seedB Z, strsB X, intsB l]) :=
      ⟨by simp only [rng]; omega, hN (q, v, p, s, Z, X, l, j + 1) _ _ ⟨hs, by dsimp only; omega, h2⟩ (by dsimp only; omega) hK (.inl ⟨by dsimp only; rw [show ((j + 1 : Nat) : Int) = (j : Int) + 1 from by omega], rfl⟩)⟩
    refine ⟨⟨by omega, by omega⟩, l.getD j 0, by rw [show 0 + (j : Int).toNat * 1 = j from by omega]; exact ints_at hj, br_intro (fun hc => nxt) (fun hc => ?_)⟩
    have same := plain_same (v := v) (p := p) (cut_not hc)
    rw [same]
    refine ⟨hs, hs, br_intro (fun h => by simp at h) (fun _ => br_intro (fun h => by simp at h) (fun _ => ⟨hs, hs, br_intro (fun h => by simp at h) (fun _ => ⟨hs, hs, br_intro (fun h => by simp at h) (fun _ => nxt)⟩)⟩))⟩
  · exact .inl (hK j)

def targumlaw20_PlainTells.L2 : LT := (extL lt0 2 targumlaw20_PlainTells.sp2)
theorem targumlaw20_PlainTells.L2_mono : LMono targumlaw20_PlainTells.L2 := (extL_mono lt0_mono targumlaw20_PlainTells.spm2)
def targumlaw20_PlainTells.N0 (i : Int) (q : Bool) (v p : Int) (Z : List UInt8) (X : List (List UInt8)) (j : Nat) (vs : List Value) (h : Heap) : Prop := vs = [.int .i64 i, .bool q, .int .i64 v, .int .i64 p, .slice (some ⟨1, 0, none⟩) X.length X.length, .int .i64 X.length, .int .i64 j] ∧ h = lit [seedB Z, strsB X]
def targumlaw20_PlainTells.sp0 : LSpec := ⟨targumlaw20_PlainTells.cs0, targumlaw20_PlainTells.ts0, fun vs h K => ∃ (i : Int) (q : Bool) (v p : Int) (Z : List UInt8) (X : List (List UInt8)) (j : Nat), (h.n = 2 ∧ In 2 (targumlaw20_PlainTells.N0 i q v p Z X j) vs h ∧ ((∀ x ∈ X, x.length ≤ 1000000) ∧ j ≤ X.length ∧ X.length ≤ 1000)) ∧ (∀ j' : Int, K (.exit 0) [.int .i64 i, .bool q, .int .i64 v, .int .i64 p, .slice (some ⟨1, 0, none⟩) X.length X.length, .int .i64 X.length, .int .i64 j'] (lit [seedB Z, strsB X]))⟩
theorem targumlaw20_PlainTells.spm0 : LSpecMono targumlaw20_PlainTells.sp0 := by
  rintro vs h K K' hk ⟨i, q, v, p, Z, X, j, h3, h4⟩
  exact ⟨i, q, v, p, Z, X, j, h3, fun j' => hk _ _ _ (h4 j')⟩
theorem targumlaw20_PlainTells.t0 (i : Int) (q : Bool) (v p : Int) (Z : List UInt8) (X : List (List UInt8)) (j : Nat) (E : Env) (N : List Value → Heap → Prop) (K : LK) : mwp LB (targumlaw20_PlainTells.L2) targumlaw20_PlainTells.l0 (lK targumlaw20_PlainTells.cs0 N K) (zipE targumlaw20_PlainTells.cs0 [.int .i64 i, .bool q, .int .i64 v, .int .i64 p, .slice (some ⟨1, 0, none⟩) X.length X.length, .int .i64 X.length, .int .i64 j] ++ E) (lit [seedB Z, strsB X]) = (br (decide ((↑j : Int) < (↑X.length : Int))) (((0 : Int) ≤ (↑j : Int) ∧ (↑j : Int) < (↑X.length : Int)) ∧ ∃ (s : ByteArray), List.take (1 : Nat) (List.drop ((0 : Nat) + (↑j : Int).toNat * (1 : Nat)) (strsV X)) = [Value.string s] ∧ rng IntKind.i64 ((↑s.size : Int) + (1 : Int)) ∧ ((-10000000 : Int) ≤ (-1 : Int) ∧ (-1 : Int) ≤ (↑s.size : Int) + (1 : Int) ∧ (↑s.size : Int) + (1 : Int) ≤ (10000000 : Int)) ∧ ∃ (q_1 : Bool), ∃ (v_1 : Int), ∃ (p_1 : Int), ∃ (s_1 : ByteArray), ∃ (Z_1 : List UInt8), ∃ (X_1 : List (List UInt8)), ∃ (l : List Int), ∃ (j_1 : Nat), ((3 : Nat) = (3 : Nat) ∧ In (3 : Nat) (targumlaw20_PlainTells.N2 q_1 v_1 p_1 s_1 Z_1 X_1 l j_1) [Value.bool q, Value.int IntKind.i64 v, Value.int IntKind.i64 p, mkv none [Value.string s], Value.slice (some (Addr.mk (2 : Nat) (0 : Nat) none)) (2 : Nat) (2 : Nat), Value.int IntKind.i64 (↑(2 : Nat) : Int), Value.int IntKind.i64 (0 : Int)] (Heap.mk (3 : Nat) [seedB Z, strsB X, some (Blk.mk (3 : Nat) (1 : Nat) [Value.int IntKind.i64 (0 : Int), Value.int IntKind.i64 (withinI i (-1 : Int) ((↑s.size : Int) + (1 : Int)))] true)]) ∧ s_1.size ≤ (1000000 : Nat) ∧ j_1 ≤ l.length ∧ l.length ≤ (1000 : Nat)) ∧ ∀ (j' : Int), rng IntKind.i64 ((↑j : Int) + (1 : Int)) ∧ N [Value.int IntKind.i64 i, Value.bool q_1, Value.int IntKind.i64 v_1, Value.int IntKind.i64 p_1, Value.slice (some (Addr.mk (1 : Nat) (0 : Nat) none)) X.length X.length, Value.int IntKind.i64 (↑X.length : Int), Value.int IntKind.i64 ((↑j : Int) + (1 : Int))] (Heap.mk (3 : Nat) [seedB Z_1, strsB X_1, intsB l])) (K (Exit.exit (0 : Nat)) [Value.int IntKind.i64 i, Value.bool q, Value.int IntKind.i64 v, Value.int IntKind.i64 p, Value.slice (some (Addr.mk (1 : Nat) (0 : Nat) none)) X.length X.length, Value.int IntKind.i64 (↑X.length : Int), Value.int IntKind.i64 (↑j : Int)] (Heap.mk (2 : Nat) [seedB Z, strsB X]))) := by kernel_rfl
theorem targumlaw20_PlainTells.lo0 : LOk1 Tryd.prog targumlaw20_PlainTells.nt targumlaw20_PlainTells.sp0 (.loop 0 targumlaw20_PlainTells.l0) := by
  refine loop_resC (σ := Int × Bool × Int × Int × (List UInt8) × (List (List UInt8)) × Nat) LB_ok LB_mono (targumlaw20_PlainTells.L2_mono) (LS := targumlaw20_PlainTells.L2) (by simp only [targumlaw20_PlainTells.l0, LOk, and_true, true_and]; (repeat' apply And.intro) <;> first | trivial | exact targumlaw20_PlainTells.lo2) rfl rfl (fun ⟨i, q, v, p, Z, X, j⟩ => [.int .i64 i, .bool q, .int .i64 v, .int .i64 p, .slice (some ⟨1, 0, none⟩) X.length X.length, .int .i64 X.length, .int .i64 j]) (fun ⟨i, q, v, p, Z, X, j⟩ => lit [seedB Z, strsB X]) (fun ⟨i, q, v, p, Z, X, j⟩ => (∀ x ∈ X, x.length ≤ 1000000) ∧ j ≤ X.length ∧ X.length ≤ 1000) (fun ⟨i, q, v, p, Z, X, j⟩ => X.length - j) 2 (fun ⟨i, q, v, p, Z, X, j⟩ K => ∀ j' : Int, K (.exit 0) [.int .i64 i, .bool q, .int .i64 v, .int .i64 p, .slice (some ⟨1, 0, none⟩) X.length X.length, .int .i64 X.length, .int .i64 j'] (lit [seedB Z, strsB X])) ?_ ?_
  · rintro vs h K ⟨i, q, v, p, Z, X, j, ⟨h1, h2, h3⟩, h4⟩
    exact ⟨h1, ⟨i, q, v, p, Z, X, j⟩, h2, h3, h4⟩
  rintro ⟨i, q, v, p, Z, X, j⟩ E N K hE hp hN hK
  dsimp only at hp hN hK
  refine Eq.mpr (targumlaw20_PlainTells.t0 i q v p Z X j E N (fun x => In 2 (K x))) ?_
  obtain ⟨hX, h1, h2⟩ := hp
  refine br_intro (fun hb => ?_) (fun hb => ?_)
  · simp only [decide_eq_true_eq] at hb
    have hj : j < X.length := by omega
    have hx : (X.getD j []).length ≤ 1000000 := hX _ (by rw [List.getD_eq_getElem?_getD, List.getElem?_eq_getElem hj]; exact List.getElem_mem hj)
    refine ⟨⟨by omega, by omega⟩, strOf (X.getD j []), by rw [show 0 + (j : Int).toNat * 1 = j from by omega]; exact strsV_at hj, by rw [strOf_size]; simp only [rng]; omega, by rw [strOf_size]; omega, ?_⟩
    refine ⟨q, v, p, strOf (X.getD j []), Z, X, [0, withinI i (-1) (((strOf (X.getD j [])).size : Int) + 1)], 0, ⟨rfl, .inl ⟨rfl, rfl⟩, by rw [strOf_size]; exact hx, by simp, by simp⟩, fun j' => ⟨by simp only [rng]; omega, ?_⟩⟩
    refine hN (i, q, v, p, Z, X, j + 1) _ _ ⟨hX, by dsimp only; omega, h2⟩ (by dsimp only; omega) hK ?_
    refine In.rows [some 0, some 1] ⟨⟨rfl, okF_all (byV_flat _), ?_⟩, ⟨rfl, okF_all (strsV_flat _), ?_⟩, trivial⟩ rfl rfl rfl ?_ ?_
    · rw [map_ren_flat (byV_flat _)]; rfl
    · rw [map_ren_flat (strsV_flat _)]; rfl
    · simp [renT, renA, ren]
    · simp [okT, okA, okF, flatV]
  · exact .inl (hK j)

end Go.Mini
