/- The reference's lines of a text. Conditions: sizes. -/
import Derived.Test.YthllhoodbfnlaaaDoorPl3
import Derived.Test.YthllhoodbfnlaaaDoorMiniW
namespace Go.Mini
open Go Go.RowKit Go.Proofs
set_option maxRecDepth 100000
set_option linter.unusedVariables false
set_option linter.unusedSimpArgs false

structure Ln where
  a : Int
  e : Int
  n : Int
def lnC (l : Ln) : List Value := [.int .i64 l.a, .int .i64 l.e, .int .i64 l.n]
def lnsC (l : List Ln) : List Value := l.flatMap lnC
theorem lnsC_len (l : List Ln) : (lnsC l).length = l.length * 3 := by
  induction l with
  | nil => rfl
  | cons x l ih => simp [lnsC, lnC] at ih ⊢; omega
theorem lnsC_app (l m : List Ln) : lnsC (l ++ m) = lnsC l ++ lnsC m := by simp [lnsC]
theorem lnsC_flat (l : List Ln) : (lnsC l).all flatV = true := List.all_eq_true.2 fun v hv => by
  simp only [lnsC, List.mem_flatMap, lnC, List.mem_cons, List.not_mem_nil, or_false] at hv
  obtain ⟨x, _, rfl | rfl | rfl⟩ := hv <;> rfl
/-- The loop over a text: the lines with a break, and where the last one begins. -/
def lnLoop (v : Int) (s : ByteArray) : Nat → Int → Int → List Ln × Int
  | 0, at', _ => ([], at')
  | k + 1, at', i => if s.size ≤ i then ([], at') else if brkI v s i = 0 then lnLoop v s k at' (i + 1) else
    (⟨at', i, i + brkI v s i⟩ :: (lnLoop v s k (i + brkI v s i) (i + brkI v s i)).1, (lnLoop v s k (i + brkI v s i) (i + brkI v s i)).2)
def linesI (v : Int) (s : ByteArray) : List Ln :=
  if (lnLoop v s (s.size + 1) 0 0).2 < s.size then (lnLoop v s (s.size + 1) 0 0).1 ++ [⟨(lnLoop v s (s.size + 1) 0 0).2, s.size, s.size⟩] else (lnLoop v s (s.size + 1) 0 0).1
theorem lnLoop_end {v : Int} {s : ByteArray} {k : Nat} {a i : Int} (h : s.size ≤ i) : lnLoop v s k a i = ([], a) := by
  cases k with
  | zero => rfl
  | succ k => rw [lnLoop, if_pos h]
theorem lnLoop_len (v : Int) (s : ByteArray) : ∀ (k : Nat) (a i : Int), 0 ≤ a → a ≤ i → i ≤ s.size → (lnLoop v s k a i).1.length ≤ (lnLoop v s k a i).2 - a ∧ (lnLoop v s k a i).2 ≤ s.size
  | 0, a, i, h0, h1, h => by simp [lnLoop]; omega
  | k + 1, a, i, h0, h1, h => by
    have hnn := brkI_nn v s i
    have hbl := brkI_len v (s := s) (i := i) (by omega) h
    rw [lnLoop]
    split
    · simp; omega
    · split
      · exact lnLoop_len v s k a (i + 1) h0 (by omega) (by omega)
      · have := lnLoop_len v s k (i + brkI v s i) (i + brkI v s i) (by omega) (by omega) (by omega)
        simp only [List.length_cons]
        omega
theorem map_ren_flat {ρ : Nat → Option Nat} {l : List Value} (h : l.all flatV = true) : l.map (ren ρ) = l :=
  (List.map_congr_left (g := id) fun v hv => ren_flat (List.all_eq_true.1 h v hv)).trans (List.map_id _)
theorem okF_all {n : Nat} {l : List Value} (h : l.all flatV = true) : l.all (okF n) = true := List.all_eq_true.2 fun v hv => okF_flat (List.all_eq_true.1 h v hv)

def targumref1_Lines.N0 (v : Int) (s : ByteArray) (l : List Ln) (a : Int) (i : Int) (k : Nat) (vs : List Value) (h : Heap) : Prop := vs = [.int .i64 v, .string s, .slice (some ⟨0, 0, none⟩) l.length l.length, .int .i64 a, .int .i64 i] ∧ h = lit [some ⟨51, 3, lnsC l, true⟩]
def targumref1_Lines.sp0 : LSpec := ⟨targumref1_Lines.cs0, targumref1_Lines.ts0, fun vs h K => ∃ (v : Int) (s : ByteArray) (l : List Ln) (a : Int) (i : Int) (k : Nat), (h.n = 0 ∧ In 0 (targumref1_Lines.N0 v s l a i k) vs h ∧ (s.size ≤ 1000000 ∧ 0 ≤ a ∧ a ≤ i ∧ i ≤ s.size ∧ l.length ≤ i ∧ s.size - i < k)) ∧ (∀ i' : Int, K (.exit 0) [.int .i64 v, .string s, .slice (some ⟨0, 0, none⟩) (l ++ (lnLoop v s k a i).1).length (l ++ (lnLoop v s k a i).1).length, .int .i64 (lnLoop v s k a i).2, .int .i64 i'] (lit [some ⟨51, 3, lnsC (l ++ (lnLoop v s k a i).1), true⟩]))⟩
theorem targumref1_Lines.spm0 : LSpecMono targumref1_Lines.sp0 := by
  rintro vs h K K' hk ⟨v, s, l, a, i, k, h3, h4⟩
  exact ⟨v, s, l, a, i, k, h3, fun i' => hk _ _ _ (h4 i')⟩
theorem targumref1_Lines.t0 (v : Int) (s : ByteArray) (l : List Ln) (a : Int) (i : Int) (k : Nat) (E : Env) (N : List Value → Heap → Prop) (K : LK) : mwp SH (lt0) targumref1_Lines.l0 (lK targumref1_Lines.cs0 N K) (zipE targumref1_Lines.cs0 [.int .i64 v, .string s, .slice (some ⟨0, 0, none⟩) l.length l.length, .int .i64 a, .int .i64 i] ++ E) (lit [some ⟨51, 3, lnsC l, true⟩]) = (br (decide (i < (↑s.size : Int))) (s.size ≤ (1000000 : Nat) ∧ br (decide (brkI v s i = (0 : Int))) (rng IntKind.i64 (i + (1 : Int)) ∧ N [Value.int IntKind.i64 v, Value.string s, Value.slice (some (Addr.mk (0 : Nat) (0 : Nat) none)) l.length l.length, Value.int IntKind.i64 a, Value.int IntKind.i64 (i + (1 : Int))] (Heap.mk (1 : Nat) [some (Blk.mk (51 : TypeId) (3 : Nat) (lnsC l) true)])) (rng IntKind.i64 (i + brkI v s i) ∧ (l.length + (1 : Nat) ≤ (1000000 : Nat) ∧ l.length * (3 : Nat) ≤ (lnsC l).length) ∧ rng IntKind.i64 (i + brkI v s i) ∧ N [Value.int IntKind.i64 v, Value.string s, Value.slice (some (Addr.mk (2 : Nat) (0 : Nat) none)) (l.length + (1 : Nat)) (l.length + (1 : Nat)), Value.int IntKind.i64 (i + brkI v s i), Value.int IntKind.i64 (i + brkI v s i)] (Heap.mk (3 : Nat) [none, some (Blk.mk (51 : Nat) (3 : Nat) [Value.int IntKind.i64 a, Value.int IntKind.i64 i, Value.int IntKind.i64 (i + brkI v s i)] true), some (Blk.mk (51 : Nat) (3 : Nat) (List.take (l.length * (3 : Nat)) (lnsC l) ++ [Value.int IntKind.i64 a, Value.int IntKind.i64 i, Value.int IntKind.i64 (i + brkI v s i)]) true)]))) (K (Exit.exit (0 : Nat)) [Value.int IntKind.i64 v, Value.string s, Value.slice (some (Addr.mk (0 : Nat) (0 : Nat) none)) l.length l.length, Value.int IntKind.i64 a, Value.int IntKind.i64 i] (Heap.mk (1 : Nat) [some (Blk.mk (51 : TypeId) (3 : Nat) (lnsC l) true)]))) := by kernel_rfl
theorem targumref1_Lines.lo0 : LOk1 Tryd.prog targumref1_Lines.nt targumref1_Lines.sp0 (.loop 0 targumref1_Lines.l0) := by
  refine loop_resC (σ := Int × ByteArray × (List Ln) × Int × Int × Nat) SH_ok SH_mono (lt0_mono) (LS := lt0) (by simp only [targumref1_Lines.l0, LOk, and_true, true_and]) rfl rfl (fun ⟨v, s, l, a, i, k⟩ => [.int .i64 v, .string s, .slice (some ⟨0, 0, none⟩) l.length l.length, .int .i64 a, .int .i64 i]) (fun ⟨v, s, l, a, i, k⟩ => lit [some ⟨51, 3, lnsC l, true⟩]) (fun ⟨v, s, l, a, i, k⟩ => s.size ≤ 1000000 ∧ 0 ≤ a ∧ a ≤ i ∧ i ≤ s.size ∧ l.length ≤ i ∧ s.size - i < k) (fun ⟨v, s, l, a, i, k⟩ => k) 0 (fun ⟨v, s, l, a, i, k⟩ K => ∀ i' : Int, K (.exit 0) [.int .i64 v, .string s, .slice (some ⟨0, 0, none⟩) (l ++ (lnLoop v s k a i).1).length (l ++ (lnLoop v s k a i).1).length, .int .i64 (lnLoop v s k a i).2, .int .i64 i'] (lit [some ⟨51, 3, lnsC (l ++ (lnLoop v s k a i).1), true⟩])) ?_ ?_
  · rintro vs h K ⟨v, s, l, a, i, k, ⟨h1, h2, h3⟩, h4⟩
    exact ⟨h1, ⟨v, s, l, a, i, k⟩, h2, h3, h4⟩
  rintro ⟨v, s, l, a, i, k⟩ E N K hE hp hN hK
  dsimp only at hp hN hK
  refine Eq.mpr (targumref1_Lines.t0 v s l a i k E N (fun x => In 0 (K x))) ?_
  obtain ⟨hs, h0, h1, h2, h3, h4⟩ := hp
  obtain ⟨k, rfl⟩ : ∃ k', k = k' + 1 := ⟨k - 1, by omega⟩
  have hnn := brkI_nn v s i
  have hbl := brkI_len v (s := s) (i := i) (by omega) h2
  rw [lnLoop] at hK
  refine br_intro (fun hb => ?_) (fun hb => ?_)
  · simp only [decide_eq_true_eq] at hb
    rw [if_neg (by omega)] at hK
    refine ⟨hs, br_intro (fun hc => ?_) (fun hc => ?_)⟩
    · simp only [decide_eq_true_eq] at hc
      rw [if_pos hc] at hK
      exact ⟨by simp only [rng]; omega, hN (v, s, l, a, i + 1, k) _ _ ⟨hs, by dsimp only; omega, by dsimp only; omega, by dsimp only; omega, by dsimp only; omega, by dsimp only; omega⟩ (by dsimp only; omega) hK (.inl ⟨rfl, rfl⟩)⟩
    · simp only [decide_eq_false_iff_not] at hc
      rw [if_neg hc] at hK
      have hl := lnsC_len l
      refine ⟨by simp only [rng]; omega, ⟨by omega, by omega⟩, by simp only [rng]; omega, hN (v, s, l ++ [⟨a, i, i + brkI v s i⟩], i + brkI v s i, i + brkI v s i, k) _ _ ⟨hs, by dsimp only; omega, by dsimp only; omega, by dsimp only; omega, by simp only [List.length_append, List.length_singleton]; omega, by dsimp only; omega⟩ (by dsimp only; omega) ?_ ?_⟩
      · dsimp only at hK ⊢
        rw [List.append_assoc, List.singleton_append]
        exact hK
      · refine In.rows [some 2] ⟨⟨rfl, okF_all (lnsC_flat _), ?_⟩, trivial⟩ rfl rfl rfl ?_ ?_
        · show some _ = some _
          rw [map_ren_flat (lnsC_flat _), lnsC_app, List.take_of_length_le (by omega)]
          rfl
        · simp [renT, renA, ren]
        · simp [okT, okA, okF, flatV]
  · simp only [decide_eq_false_iff_not] at hb
    rw [if_pos (by omega), List.append_nil] at hK
    exact .inl (hK i)

def targumref1_Lines.LS : LT := (extL lt0 0 targumref1_Lines.sp0)
theorem targumref1_Lines.LS_mono : LMono targumref1_Lines.LS := (extL_mono lt0_mono targumref1_Lines.spm0)
def targumref1_Lines.s : List Value → Heap → VK → Prop
  | [.int .i64 v, .string s], h, K => (s.size ≤ 1000000) ∧ K (renT (sh h.n) (.slice (some ⟨0, 0, none⟩) (linesI v s).length (linesI v s).length)) (addAll h (List.map (renB (sh h.n)) [⟨51, 3, lnsC (linesI v s), true⟩]))
  | _, _, _ => False
theorem targumref1_Lines.t (v : Int) (s : ByteArray) (K : VK) : mwp SH (targumref1_Lines.LS) targumref1_Lines.m (retK [.t 4] K) (argE 0 [.int .i64 v, .string s]) (lit []) = (∃ (v_1 : Int), ∃ (s_1 : ByteArray), ∃ (l : List Ln), ∃ (a : Int), ∃ (i : Int), ∃ (k : Nat), ((0 : Nat) = (0 : Nat) ∧ In (0 : Nat) (targumref1_Lines.N0 v_1 s_1 l a i k) [Value.int IntKind.i64 v, Value.string s, Value.slice none (0 : Nat) (0 : Nat), Value.int IntKind.i64 (0 : Int), Value.int IntKind.i64 (0 : Int)] (Heap.mk (0 : Nat) []) ∧ s_1.size ≤ (1000000 : Nat) ∧ (0 : Int) ≤ a ∧ a ≤ i ∧ i ≤ (↑s_1.size : Int) ∧ (↑l.length : Int) ≤ i ∧ (↑s_1.size : Int) - i < (↑k : Int)) ∧ ∀ (i' : Int), br (decide ((lnLoop v_1 s_1 k a i).snd < (↑s_1.size : Int))) (((l ++ (lnLoop v_1 s_1 k a i).fst).length + (1 : Nat) ≤ (1000000 : Nat) ∧ (l ++ (lnLoop v_1 s_1 k a i).fst).length * (3 : Nat) ≤ (lnsC (l ++ (lnLoop v_1 s_1 k a i).fst)).length) ∧ K (Value.slice (some (Addr.mk (2 : Nat) (0 : Nat) none)) ((l ++ (lnLoop v_1 s_1 k a i).fst).length + (1 : Nat)) ((l ++ (lnLoop v_1 s_1 k a i).fst).length + (1 : Nat))) (Heap.mk (3 : Nat) [none, some (Blk.mk (51 : Nat) (3 : Nat) [Value.int IntKind.i64 (lnLoop v_1 s_1 k a i).snd, Value.int IntKind.i64 (↑s_1.size : Int), Value.int IntKind.i64 (↑s_1.size : Int)] true), some (Blk.mk (51 : Nat) (3 : Nat) (List.take ((l ++ (lnLoop v_1 s_1 k a i).fst).length * (3 : Nat)) (lnsC (l ++ (lnLoop v_1 s_1 k a i).fst)) ++ [Value.int IntKind.i64 (lnLoop v_1 s_1 k a i).snd, Value.int IntKind.i64 (↑s_1.size : Int), Value.int IntKind.i64 (↑s_1.size : Int)]) true)])) (K (Value.slice (some (Addr.mk (0 : Nat) (0 : Nat) none)) (l ++ (lnLoop v_1 s_1 k a i).fst).length (l ++ (lnLoop v_1 s_1 k a i).fst).length) (Heap.mk (1 : Nat) [some (Blk.mk (51 : TypeId) (3 : Nat) (lnsC (l ++ (lnLoop v_1 s_1 k a i).fst)) true)]))) := by kernel_rfl
theorem targumref1_Lines.c (v : Int) (s : ByteArray) (h : Heap) (K : VK) (hp : s.size ≤ 1000000) (hh : K (renT (sh h.n) (.slice (some ⟨0, 0, none⟩) (linesI v s).length (linesI v s).length)) (addAll h (List.map (renB (sh h.n)) [⟨51, 3, lnsC (linesI v s), true⟩]))) : ACalls Tryd.prog targumref1_Lines.n [.int .i64 v, .string s] h K := by
  refine ACalls.fresh rfl (v0 := .slice (some ⟨0, 0, none⟩) (linesI v s).length (linesI v s).length) (L := [⟨51, 3, lnsC (linesI v s), true⟩]) (by simp [okT, okA, okF, flatV]) (by simp [okF_all (lnsC_flat _)]) (acalls_mk SH_ok targumref1_Lines.ok (LS := targumref1_Lines.LS) (by simp only [targumref1_Lines.m, LOk, and_true, true_and]; (repeat' apply And.intro) <;> first | trivial | exact targumref1_Lines.lo0) (Nat.le_of_ble_eq_true rfl) (Eq.mpr (targumref1_Lines.t v s _) ?_)) hh
  refine ⟨v, s, [], 0, 0, s.size + 1, ⟨rfl, ?_, hp, by omega, by omega, by omega, by simp, by omega⟩, fun i' => ?_⟩
  · refine In.rows [none] ⟨rfl, trivial⟩ rfl rfl rfl ?_ ?_
    · simp [renT, renA, ren]
    · simp [okT, okA, okF, flatV]
  have hl := lnLoop_len v s (s.size + 1) 0 0 (by omega) (by omega) (by omega)
  unfold linesI
  rw [List.nil_append]
  generalize lnLoop v s (s.size + 1) 0 0 = p at *
  refine br_intro (fun hb => ?_) (fun hb => ?_)
  · simp only [decide_eq_true_eq] at hb
    have hll := lnsC_len p.1
    refine ⟨⟨by omega, by omega⟩, ?_⟩
    rw [if_pos hb]
    refine InV.rows [some 2] ⟨⟨rfl, okF_all (lnsC_flat _), ?_⟩, trivial⟩ rfl rfl rfl ?_ ?_
    · show some _ = some _
      rw [map_ren_flat (lnsC_flat _), lnsC_app, List.take_of_length_le (by omega)]
      rfl
    · simp [renT, renA, ren]
    · simp [okT, okA, okF, flatV]
  · simp only [decide_eq_false_iff_not] at hb
    rw [if_neg hb]
    exact .inl ⟨rfl, rfl⟩
theorem targumref1_Lines.sc : ∀ vs h K, targumref1_Lines.s vs h K → ACalls Tryd.prog targumref1_Lines.n vs h K := by
  intro vs h K hh; unfold targumref1_Lines.s at hh; split at hh
  · exact targumref1_Lines.c _ _ _ _ hh.1 hh.2
  · exact hh.elim
theorem targumref1_Lines.sm : SpecMono targumref1_Lines.s := by
  intro vs h K K' hk hh; unfold targumref1_Lines.s at hh ⊢; split at hh
  · exact ⟨hh.1, hk _ _ hh.2⟩
  · exact hh.elim
theorem targumref1_Lines.sd : SpecDet targumref1_Lines.s := by
  intro vs h K hh; unfold targumref1_Lines.s at hh; split at hh
  · exact ⟨_, hh.2, hh.1, rfl⟩
  · exact hh.elim

end Go.Mini
