/- Marked lines; rows of breaks folded. Conditions: sizes. -/
import Derived.Test.YthllhoodbfnlaaaDoorHelp
namespace Go.Mini
open Go Go.RowKit Go.Proofs
set_option maxRecDepth 100000
set_option linter.unusedVariables false
set_option linter.unusedSimpArgs false

def markI (v : Int) (s : ByteArray) (i : Int) : Bool := decide (0 < mrkI s i (endI v s i) (nxtI v s i))
def HD : CT := (extC (extC HC rows_Line.n rows_Line.s) brk_Marker.n brk_Marker.s)
theorem HD_ok : COk Tryd.prog HD := (extC_ok (extC_ok HC_ok rows_Line.sc rows_Line.sd) brk_Marker.sc brk_Marker.sd)
theorem HD_mono : CMono HD := (extC_mono (extC_mono HC_mono rows_Line.sm) brk_Marker.sm)
def rows_Marked.s : List Value → Heap → VK → Prop
  | [.int .i64 v, .string s, .int .i64 i], h, K => (s.size ≤ 1000000 ∧ 0 ≤ i ∧ i ≤ 1000000) ∧ K (.bool (markI v s i)) h
  | _, _, _ => False
theorem rows_Marked.t (v : Int) (s : ByteArray) (i : Int) (K : VK) : mwp HD (lt0) rows_Marked.m (retK [.t 6] K) (argE 0 [.int .i64 v, .string s, .int .i64 i]) (lit []) = ((s.size ≤ (1000000 : Nat) ∧ (0 : Int) ≤ i ∧ i ≤ (1000000 : Int)) ∧ s.size ≤ (1000000 : Nat) ∧ K (Value.bool (decide ((0 : Int) < mrkI s i (endI v s i) (endI v s i + brkI v s (endI v s i))))) (Heap.mk (1 : Nat) [some (Blk.mk (51 : Nat) (3 : Nat) ([] ++ [Value.int IntKind.i64 i, Value.int IntKind.i64 (endI v s i), Value.int IntKind.i64 (endI v s i + brkI v s (endI v s i))] ++ []) true)])) := by kernel_rfl
theorem rows_Marked.c (v : Int) (s : ByteArray) (i : Int) (h : Heap) (K : VK) (hp : s.size ≤ 1000000 ∧ 0 ≤ i ∧ i ≤ 1000000) (hh : K (.bool (markI v s i)) h) : ACalls Tryd.prog rows_Marked.n [.int .i64 v, .string s, .int .i64 i] h K := by
  refine ACalls.alone rfl (acalls_mk HD_ok rows_Marked.ok (LS := lt0) (by simp only [rows_Marked.m, LOk, and_true, true_and]) (Nat.le_of_ble_eq_true rfl) (Eq.mpr (rows_Marked.t v s i (fun v _ => ck (cleanT v) (K v h))) ?_))
  exact ⟨hp, hp.1, hh⟩
theorem rows_Marked.sc : ∀ vs h K, rows_Marked.s vs h K → ACalls Tryd.prog rows_Marked.n vs h K := by
  intro vs h K hh; unfold rows_Marked.s at hh; split at hh
  · exact rows_Marked.c _ _ _ _ _ hh.1 hh.2
  · exact hh.elim
theorem rows_Marked.sm : SpecMono rows_Marked.s := by
  intro vs h K K' hk hh; unfold rows_Marked.s at hh ⊢; split at hh
  · exact ⟨hh.1, hk _ _ hh.2⟩
  · exact hh.elim
theorem rows_Marked.sd : SpecDet rows_Marked.s := by
  intro vs h K hh; unfold rows_Marked.s at hh; split at hh
  · exact ⟨_, hh.2, hh.1, rfl⟩
  · exact hh.elim

def foldF (v : Int) (s : ByteArray) : Nat → Int → Int → Int × Int
  | 0, i, n => (n, i)
  | k + 1, i, n => if brkI v s i ≤ 0 then (n, i) else if markI v s (i + brkI v s i) = true then (-1, i + brkI v s i) else foldF v s k (overI s (i + brkI v s i)) (n + 1)
def foldI (v : Int) (s : ByteArray) (i : Int) : Int × Int := foldF v s (s.size + 1) i 0
def HE : CT := (extC HD rows_Marked.n rows_Marked.s)
theorem HE_ok : COk Tryd.prog HE := (extC_ok HD_ok rows_Marked.sc rows_Marked.sd)
theorem HE_mono : CMono HE := (extC_mono HD_mono rows_Marked.sm)
theorem foldF_ok (v : Int) (s : ByteArray) : ∀ (k : Nat) (i n : Int), 0 ≤ i → i ≤ s.size → 0 ≤ n → (i ≤ (foldF v s k i n).2 ∧ (foldF v s k i n).2 ≤ s.size ∧ (foldF v s k i n).1 ≤ n + ((foldF v s k i n).2 - i)) ∧ ((foldF v s k i n).1 = -1 ∨ n ≤ (foldF v s k i n).1)
  | 0, i, n, h0, h1, h2 => by simp only [foldF]; omega
  | k + 1, i, n, h0, h1, h2 => by
    rw [foldF]
    have hl := brkI_len v h0 h1
    split
    · simp only; omega
    · split
      · exact ⟨⟨by dsimp only; omega, by dsimp only; omega, by dsimp only; omega⟩, .inl rfl⟩
      · have g1 := overI_ge s (i + brkI v s i)
        have g2 := overI_le s (i + brkI v s i) hl
        have := foldF_ok v s k (overI s (i + brkI v s i)) (n + 1) (by omega) g2 (by omega)
        omega
theorem foldI_ok (v : Int) {s : ByteArray} {i : Int} (h0 : 0 ≤ i) (h1 : i ≤ s.size) : (i ≤ (foldI v s i).2 ∧ (foldI v s i).2 ≤ s.size ∧ (foldI v s i).1 ≤ s.size) ∧ ((foldI v s i).1 = -1 ∨ 0 ≤ (foldI v s i).1) := by
  have := foldF_ok v s (s.size + 1) i 0 h0 h1 (by omega)
  unfold foldI; omega
def rows_Fold.sp0 : LSpec := ⟨rows_Fold.cs0, rows_Fold.ts0, fun vs h K => ∃ (v : Int) (s : ByteArray) (i q r n : Int) (k : Nat), (vs = [.int .i64 v, .string s, .int .i64 i, .int .i64 q, .int .i64 r, .int .i64 n, .int .i64 (brkI v s i)] ∧ (s.size ≤ 1000000 ∧ 0 ≤ i ∧ i ≤ s.size ∧ 0 ≤ n ∧ n ≤ i ∧ s.size - i < k)) ∧ (((foldF v s k i n).1 < 0 → ∀ x y : Int, K .ret [.int .i64 v, .string s, .int .i64 (foldF v s k i n).2, .int .i64 (-1), .int .i64 (foldF v s k i n).2, .int .i64 x, .int .i64 y] h) ∧ (0 ≤ (foldF v s k i n).1 → ∀ y : Int, K (.exit 0) [.int .i64 v, .string s, .int .i64 (foldF v s k i n).2, .int .i64 q, .int .i64 r, .int .i64 (foldF v s k i n).1, .int .i64 y] h))⟩
theorem rows_Fold.spm0 : LSpecMono rows_Fold.sp0 := by
  rintro vs h K K' hk ⟨v, s, i, q, r, n, k, h3, h4⟩
  exact ⟨v, s, i, q, r, n, k, h3, ⟨fun e x y => hk _ _ _ (h4.1 e x y), fun e y => hk _ _ _ (h4.2 e y)⟩⟩
theorem rows_Fold.t0 (v : Int) (s : ByteArray) (i q r n : Int) (k : Nat) (h : Heap) (E : Env) (N : List Value → Heap → Prop) (K : LK) : mwp HE (lt0) rows_Fold.l0 (lK rows_Fold.cs0 N K) (zipE rows_Fold.cs0 [.int .i64 v, .string s, .int .i64 i, .int .i64 q, .int .i64 r, .int .i64 n, .int .i64 (brkI v s i)] ++ E) h = (br (decide ((0 : Int) < brkI v s i)) (rng IntKind.i64 (n + (1 : Int)) ∧ rng IntKind.i64 (i + brkI v s i) ∧ (s.size ≤ (1000000 : Nat) ∧ (0 : Int) ≤ i + brkI v s i ∧ i + brkI v s i ≤ (1000000 : Int)) ∧ br (markI v s (i + brkI v s i)) (K Exit.ret [Value.int IntKind.i64 v, Value.string s, Value.int IntKind.i64 (i + brkI v s i), Value.int IntKind.i64 (-1 : Int), Value.int IntKind.i64 (i + brkI v s i), Value.int IntKind.i64 (n + (1 : Int)), Value.int IntKind.i64 (brkI v s i)] h) (s.size ≤ (1000000 : Nat) ∧ N [Value.int IntKind.i64 v, Value.string s, Value.int IntKind.i64 (overI s (i + brkI v s i)), Value.int IntKind.i64 q, Value.int IntKind.i64 r, Value.int IntKind.i64 (n + (1 : Int)), Value.int IntKind.i64 (brkI v s (overI s (i + brkI v s i)))] h)) (K (Exit.exit (0 : Nat)) [Value.int IntKind.i64 v, Value.string s, Value.int IntKind.i64 i, Value.int IntKind.i64 q, Value.int IntKind.i64 r, Value.int IntKind.i64 n, Value.int IntKind.i64 (brkI v s i)] h)) := by kernel_rfl
theorem rows_Fold.lo0 : LOk1 Tryd.prog rows_Fold.nt rows_Fold.sp0 (.loop 0 rows_Fold.l0) := by
  refine loop_res (σ := Int × ByteArray × Int × Int × Int × Int × Nat) HE_ok HE_mono (lt0_mono) (LS := lt0) (by simp only [rows_Fold.l0, LOk, and_true, true_and]) rfl rfl (fun ⟨v, s, i, q, r, n, k⟩ => [.int .i64 v, .string s, .int .i64 i, .int .i64 q, .int .i64 r, .int .i64 n, .int .i64 (brkI v s i)]) (fun ⟨v, s, i, q, r, n, k⟩ h => s.size ≤ 1000000 ∧ 0 ≤ i ∧ i ≤ s.size ∧ 0 ≤ n ∧ n ≤ i ∧ s.size - i < k) (fun ⟨v, s, i, q, r, n, k⟩ => k) (fun ⟨v, s, i, q, r, n, k⟩ K h => ((foldF v s k i n).1 < 0 → ∀ x y : Int, K .ret [.int .i64 v, .string s, .int .i64 (foldF v s k i n).2, .int .i64 (-1), .int .i64 (foldF v s k i n).2, .int .i64 x, .int .i64 y] h) ∧ (0 ≤ (foldF v s k i n).1 → ∀ y : Int, K (.exit 0) [.int .i64 v, .string s, .int .i64 (foldF v s k i n).2, .int .i64 q, .int .i64 r, .int .i64 (foldF v s k i n).1, .int .i64 y] h)) ?_ ?_
  · rintro vs h K ⟨v, s, i, q, r, n, k, ⟨h1, h2⟩, h3⟩
    exact ⟨⟨v, s, i, q, r, n, k⟩, h1, h2, h3⟩
  rintro ⟨v, s, i, q, r, n, k⟩ E h N K hE hp hN hK
  dsimp only at hp hN hK
  refine Eq.mpr (rows_Fold.t0 v s i q r n k h E N K) ?_
  obtain ⟨h1, h2, h3, h4, h5, h6⟩ := hp
  obtain ⟨k, rfl⟩ : ∃ k', k = k' + 1 := ⟨k - 1, by omega⟩
  have hl := brkI_len v h2 h3
  rw [foldF] at hK
  refine br_intro (fun hb => ?_) (fun hb => ?_)
  · simp only [decide_eq_true_eq] at hb
    rw [if_neg (by omega)] at hK
    have g1 := overI_ge s (i + brkI v s i)
    have g2 := overI_le s (i + brkI v s i) hl
    refine ⟨by simp only [rng]; omega, by simp only [rng]; omega, ⟨h1, by omega, by omega⟩, br_intro (fun hc => ?_) (fun hc => ?_)⟩
    · rw [if_pos hc] at hK
      exact hK.1 (show (-1 : Int) < 0 by decide) _ _
    · rw [if_neg (by rw [hc]; decide)] at hK
      exact ⟨h1, hN (v, s, overI s (i + brkI v s i), q, r, n + 1, k) h ⟨h1, by dsimp only; omega, by dsimp only; omega, by dsimp only; omega, by dsimp only; omega, by dsimp only; omega⟩ (by dsimp only; omega) hK⟩
  · simp only [decide_eq_false_iff_not] at hb
    rw [if_pos (by omega)] at hK
    exact hK.2 (by dsimp only; omega) _

def rows_Fold.LS : LT := (extL lt0 0 rows_Fold.sp0)
theorem rows_Fold.LS_mono : LMono rows_Fold.LS := (extL_mono lt0_mono rows_Fold.spm0)
def rows_Fold.s : List Value → Heap → VK → Prop
  | [.int .i64 v, .string s, .int .i64 i], h, K => (s.size ≤ 1000000 ∧ 0 ≤ i ∧ i ≤ s.size) ∧ K (.tuple #[.int .i64 (foldI v s i).1, .int .i64 (foldI v s i).2]) h
  | _, _, _ => False
theorem rows_Fold.t (v : Int) (s : ByteArray) (i : Int) (h : Heap) (K : VK) : mwp HE (rows_Fold.LS) rows_Fold.m (retK [.t 6, .t 7] K) (argE 0 [.int .i64 v, .string s, .int .i64 i]) h = (∃ (v_1 : Int), ∃ (s_1 : ByteArray), ∃ (i_1 : Int), ∃ (q : Int), ∃ (r : Int), ∃ (n : Int), ∃ (k : Nat), ([Value.int IntKind.i64 v, Value.string s, Value.int IntKind.i64 i, Value.int IntKind.i64 (0 : Int), Value.int IntKind.i64 (0 : Int), Value.int IntKind.i64 (0 : Int), Value.int IntKind.i64 (brkI v s i)] = [Value.int IntKind.i64 v_1, Value.string s_1, Value.int IntKind.i64 i_1, Value.int IntKind.i64 q, Value.int IntKind.i64 r, Value.int IntKind.i64 n, Value.int IntKind.i64 (brkI v_1 s_1 i_1)] ∧ s_1.size ≤ (1000000 : Nat) ∧ (0 : Int) ≤ i_1 ∧ i_1 ≤ (↑s_1.size : Int) ∧ (0 : Int) ≤ n ∧ n ≤ i_1 ∧ (↑s_1.size : Int) - i_1 < (↑k : Int)) ∧ ((foldF v_1 s_1 k i_1 n).fst < (0 : Int) → ∀ (x y : Int), K (Value.tuple #[Value.int IntKind.i64 (-1 : Int), Value.int IntKind.i64 (foldF v_1 s_1 k i_1 n).snd]) h) ∧ ((0 : Int) ≤ (foldF v_1 s_1 k i_1 n).fst → ∀ (y : Int), K (Value.tuple #[Value.int IntKind.i64 (foldF v_1 s_1 k i_1 n).fst, Value.int IntKind.i64 (foldF v_1 s_1 k i_1 n).snd]) h)) := by kernel_rfl
theorem rows_Fold.c (v : Int) (s : ByteArray) (i : Int) (h : Heap) (K : VK) (hp : s.size ≤ 1000000 ∧ 0 ≤ i ∧ i ≤ s.size) (hh : K (.tuple #[.int .i64 (foldI v s i).1, .int .i64 (foldI v s i).2]) h) : ACalls Tryd.prog rows_Fold.n [.int .i64 v, .string s, .int .i64 i] h K := by
  refine acalls_mk HE_ok rows_Fold.ok (LS := rows_Fold.LS) (by simp only [rows_Fold.m, LOk, and_true, true_and]; (repeat' apply And.intro) <;> first | trivial | exact rows_Fold.lo0) (Nat.le_of_ble_eq_true rfl) (Eq.mpr (rows_Fold.t v s i h K) ?_)
  have hok := foldI_ok v hp.2.1 hp.2.2
  refine ⟨v, s, i, 0, 0, 0, s.size + 1, ⟨rfl, hp.1, hp.2.1, hp.2.2, by omega, by omega, by omega⟩, fun e x y => ?_, fun e y => hh⟩
  have e1 : (foldI v s i).1 = -1 := by
    rcases hok.2 with h | h
    · exact h
    · unfold foldI at h; omega
  rw [e1] at hh
  exact hh
theorem rows_Fold.sc : ∀ vs h K, rows_Fold.s vs h K → ACalls Tryd.prog rows_Fold.n vs h K := by
  intro vs h K hh; unfold rows_Fold.s at hh; split at hh
  · exact rows_Fold.c _ _ _ _ _ hh.1 hh.2
  · exact hh.elim
theorem rows_Fold.sm : SpecMono rows_Fold.s := by
  intro vs h K K' hk hh; unfold rows_Fold.s at hh ⊢; split at hh
  · exact ⟨hh.1, hk _ _ hh.2⟩
  · exact hh.elim
theorem rows_Fold.sd : SpecDet rows_Fold.s := by
  intro vs h K hh; unfold rows_Fold.s at hh; split at hh
  · exact ⟨_, hh.2, hh.1, rfl⟩
  · exact hh.elim

end Go.Mini
