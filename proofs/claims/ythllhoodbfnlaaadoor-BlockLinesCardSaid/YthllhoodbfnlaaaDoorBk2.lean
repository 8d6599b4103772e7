/- Block texts: indentation, which lines are a text's. Conditions: sizes. -/
import Derived.Test.YthllhoodbfnlaaaDoorBk1
namespace Go.Mini
open Go Go.RowKit Go.Proofs
set_option maxRecDepth 100000
set_option linter.unusedVariables false
set_option linter.unusedSimpArgs false

def lnOk (s : ByteArray) (x : Ln) : Prop := 0 ≤ x.a ∧ x.a ≤ x.e ∧ x.e ≤ x.n ∧ x.n ≤ s.size
/-- How many lines ahead are spaces alone. -/
def spcN (s : ByteArray) : List Ln → Nat
  | [] => 0
  | x :: l => if spcI s x.a x.e x.n = true then spcN s l + 1 else 0
abbrev lnsF (l : List Ln) : Option Blk := some ⟨51, 3, lnsC l, false⟩
theorem lnsC_get {l : List Ln} {j : Nat} (h : j < l.length) : ((lnsC l).drop (0 + j * 3)).take 3 = [.int .i64 (l[j]).a, .int .i64 (l[j]).e, .int .i64 (l[j]).n] := by
  induction l generalizing j with
  | nil => simp at h
  | cons x l ih =>
    cases j with
    | zero => rfl
    | succ j =>
      have := ih (j := j) (by simpa using h)
      rw [show 0 + (j + 1) * 3 = (0 + j * 3) + 3 from by omega, show lnsC (x :: l) = lnC x ++ lnsC l from rfl, ← List.drop_drop]
      simpa [lnC] using this
def KD : CT := (extC (extC (extC KC block_spaces.n block_spaces.s) brk_Indent.n brk_Indent.s) brk_Marker.n brk_Marker.s)
theorem KD_ok : COk Tryd.prog KD := (extC_ok (extC_ok (extC_ok KC_ok block_spaces.sc block_spaces.sd) brk_Indent.sc brk_Indent.sd) brk_Marker.sc brk_Marker.sd)
theorem KD_mono : CMono KD := (extC_mono (extC_mono (extC_mono KC_mono block_spaces.sm) brk_Indent.sm) brk_Marker.sm)
def block_indent.N0 (s : ByteArray) (l : List Ln) (k : Nat) (vs : List Value) (h : Heap) : Prop := vs = [.string s, .slice (some ⟨0, 0, none⟩) l.length l.length, .int .i64 k] ∧ h = lit [lnsF l]
def block_indent.sp0 : LSpec := ⟨block_indent.cs0, block_indent.ts0, fun vs h K => ∃ (s : ByteArray) (l : List Ln) (k : Nat), (h.n = 1 ∧ In 1 (block_indent.N0 s l k) vs h ∧ (s.size ≤ 1000000 ∧ (∀ x ∈ l, lnOk s x) ∧ k ≤ l.length ∧ l.length ≤ 1000000)) ∧ (K (.exit 0) [.string s, .slice (some ⟨0, 0, none⟩) l.length l.length, .int .i64 (k + spcN s (l.drop k) : Nat)] (lit [lnsF l]))⟩
theorem block_indent.spm0 : LSpecMono block_indent.sp0 := by
  rintro vs h K K' hk ⟨s, l, k, h3, h4⟩
  exact ⟨s, l, k, h3, hk _ _ _ h4⟩
theorem block_indent.t0 (s : ByteArray) (l : List Ln) (k : Nat) (E : Env) (N : List Value → Heap → Prop) (K : LK) : mwp KD (lt0) block_indent.l0 (lK block_indent.cs0 N K) (zipE block_indent.cs0 [.string s, .slice (some ⟨0, 0, none⟩) l.length l.length, .int .i64 k] ++ E) (lit [lnsF l]) = (br (decide ((↑k : Int) < (↑l.length : Int))) (((0 : Int) ≤ (↑k : Int) ∧ (↑k : Int) < (↑l.length : Int)) ∧ ∃ (z : Int), ∃ (z_1 : Int), ∃ (z_2 : Int), List.take (3 : Nat) (List.drop ((0 : Nat) + (↑k : Int).toNat * (3 : Nat)) (lnsC l)) = [Value.int IntKind.i64 z, Value.int IntKind.i64 z_1, Value.int IntKind.i64 z_2] ∧ (s.size ≤ (1000000 : Nat) ∧ (-10000000 : Int) ≤ z ∧ z ≤ (10000000 : Int) ∧ (-10000000 : Int) ≤ z_1 ∧ z_1 ≤ (10000000 : Int)) ∧ br (spcI s z z_1 z_2) (rng IntKind.i64 ((↑k : Int) + (1 : Int)) ∧ N [Value.string s, Value.slice (some (Addr.mk (0 : Nat) (0 : Nat) none)) l.length l.length, Value.int IntKind.i64 ((↑k : Int) + (1 : Int))] (Heap.mk (1 : Nat) [lnsF l])) (K (Exit.exit (0 : Nat)) [Value.string s, Value.slice (some (Addr.mk (0 : Nat) (0 : Nat) none)) l.length l.length, Value.int IntKind.i64 (↑k : Int)] (Heap.mk (1 : Nat) [lnsF l]))) (K (Exit.exit (0 : Nat)) [Value.string s, Value.slice (some (Addr.mk (0 : Nat) (0 : Nat) none)) l.length l.length, Value.int IntKind.i64 (↑k : Int)] (Heap.mk (1 : Nat) [lnsF l]))) := by kernel_rfl
theorem block_indent.lo0 : LOk1 Tryd.prog block_indent.nt block_indent.sp0 (.loop 0 block_indent.l0) := by
  refine loop_resC (σ := ByteArray × (List Ln) × Nat) KD_ok KD_mono (lt0_mono) (LS := lt0) (by simp only [block_indent.l0, LOk, and_true, true_and]) rfl rfl (fun ⟨s, l, k⟩ => [.string s, .slice (some ⟨0, 0, none⟩) l.length l.length, .int .i64 k]) (fun ⟨s, l, k⟩ => lit [lnsF l]) (fun ⟨s, l, k⟩ => s.size ≤ 1000000 ∧ (∀ x ∈ l, lnOk s x) ∧ k ≤ l.length ∧ l.length ≤ 1000000) (fun ⟨s, l, k⟩ => l.length - k) 1 (fun ⟨s, l, k⟩ K => K (.exit 0) [.string s, .slice (some ⟨0, 0, none⟩) l.length l.length, .int .i64 (k + spcN s (l.drop k) : Nat)] (lit [lnsF l])) ?_ ?_
  · rintro vs h K ⟨s, l, k, ⟨h1, h2, h3⟩, h4⟩
    exact ⟨h1, ⟨s, l, k⟩, h2, h3, h4⟩
  rintro ⟨s, l, k⟩ E N K hE hp hN hK
  dsimp only at hp hN hK
  refine Eq.mpr (block_indent.t0 s l k E N (fun x => In 1 (K x))) ?_
  obtain ⟨hs, hl, h1, h2⟩ := hp
  refine br_intro (fun hb => ?_) (fun hb => ?_)
  · simp only [decide_eq_true_eq] at hb
    have hk : k < l.length := by omega
    have hx := hl _ (List.getElem_mem hk)
    unfold lnOk at hx
    have hd := List.drop_eq_getElem_cons hk
    refine ⟨⟨by omega, by omega⟩, _, _, _, lnsC_get hk, ⟨hs, by omega, by omega, by omega, by omega⟩, br_intro (fun hc => ⟨by simp only [rng]; omega, ?_⟩) (fun hc => ?_)⟩
    · refine hN (s, l, k + 1) _ _ ⟨hs, hl, by dsimp only; omega, h2⟩ (by dsimp only; omega) ?_ (.inl ⟨by dsimp only; rw [show ((k + 1 : Nat) : Int) = (k : Int) + 1 from by omega], rfl⟩)
      dsimp only
      rw [hd, spcN, if_pos hc] at hK
      rw [show k + 1 + spcN s (l.drop (k + 1)) = k + (spcN s (l.drop (k + 1)) + 1) from by omega]
      exact hK
    · rw [hd, spcN, if_neg (by rw [hc]; decide)] at hK
      exact .inl hK
  · simp only [decide_eq_false_iff_not] at hb
    rw [List.drop_of_length_le (by omega)] at hK
    exact .inl hK

/-- The first of lines with more spaces than that. -/
def badF (s : ByteArray) (m : Int) : List Ln → Option Int
  | [] => none
  | x :: l => if m < indI s x.a x.e x.n then some x.a else badF s m l
def block_indent.N2 (s : ByteArray) (q r m : Int) (l : List Ln) (n j : Nat) (vs : List Value) (h : Heap) : Prop := vs = [.string s, .int .i64 q, .int .i64 r, .int .i64 m, .slice (some ⟨0, 0, none⟩) n n, .int .i64 n, .int .i64 j] ∧ h = lit [lnsF l]
def block_indent.sp2 : LSpec := ⟨block_indent.cs2, block_indent.ts2, fun vs h K => ∃ (s : ByteArray) (q r m : Int) (l : List Ln) (n j : Nat), (h.n = 1 ∧ In 1 (block_indent.N2 s q r m l n j) vs h ∧ (s.size ≤ 1000000 ∧ (∀ x ∈ l, lnOk s x) ∧ j ≤ n ∧ n ≤ l.length ∧ l.length ≤ 1000000)) ∧ ((badF s m ((l.take n).drop j) = none → ∀ x : Int, K (.exit 2) [.string s, .int .i64 q, .int .i64 r, .int .i64 m, .slice (some ⟨0, 0, none⟩) n n, .int .i64 n, .int .i64 x] (lit [lnsF l])) ∧ (∀ b : Int, badF s m ((l.take n).drop j) = some b → ∀ x : Int, K .ret [.string s, .int .i64 (-1), .int .i64 b, .int .i64 m, .slice (some ⟨0, 0, none⟩) n n, .int .i64 n, .int .i64 x] (lit [lnsF l])))⟩
theorem block_indent.spm2 : LSpecMono block_indent.sp2 := by
  rintro vs h K K' hk ⟨s, q, r, m, l, n, j, h3, h4⟩
  exact ⟨s, q, r, m, l, n, j, h3, ⟨fun e x => hk _ _ _ (h4.1 e x), fun b e x => hk _ _ _ (h4.2 b e x)⟩⟩
theorem block_indent.t2 (s : ByteArray) (q r m : Int) (l : List Ln) (n j : Nat) (E : Env) (N : List Value → Heap → Prop) (K : LK) : mwp KD (lt0) block_indent.l2 (lK block_indent.cs2 N K) (zipE block_indent.cs2 [.string s, .int .i64 q, .int .i64 r, .int .i64 m, .slice (some ⟨0, 0, none⟩) n n, .int .i64 n, .int .i64 j] ++ E) (lit [lnsF l]) = (br (decide ((↑j : Int) < (↑n : Int))) (((0 : Int) ≤ (↑j : Int) ∧ (↑j : Int) < (↑n : Int)) ∧ ∃ (z : Int), ∃ (z_1 : Int), ∃ (z_2 : Int), List.take (3 : Nat) (List.drop ((0 : Nat) + (↑j : Int).toNat * (3 : Nat)) (lnsC l)) = [Value.int IntKind.i64 z, Value.int IntKind.i64 z_1, Value.int IntKind.i64 z_2] ∧ s.size ≤ (1000000 : Nat) ∧ br (decide (m < indI s z z_1 z_2)) (K Exit.ret [Value.string s, Value.int IntKind.i64 (-1 : Int), Value.int IntKind.i64 z, Value.int IntKind.i64 m, Value.slice (some (Addr.mk (0 : Nat) (0 : Nat) none)) n n, Value.int IntKind.i64 (↑n : Int), Value.int IntKind.i64 (↑j : Int)] (Heap.mk (2 : Nat) [lnsF l, some (Blk.mk (51 : Nat) (3 : Nat) ([] ++ [Value.int IntKind.i64 z, Value.int IntKind.i64 z_1, Value.int IntKind.i64 z_2] ++ []) true)])) (rng IntKind.i64 ((↑j : Int) + (1 : Int)) ∧ N [Value.string s, Value.int IntKind.i64 q, Value.int IntKind.i64 r, Value.int IntKind.i64 m, Value.slice (some (Addr.mk (0 : Nat) (0 : Nat) none)) n n, Value.int IntKind.i64 (↑n : Int), Value.int IntKind.i64 ((↑j : Int) + (1 : Int))] (Heap.mk (2 : Nat) [lnsF l, some (Blk.mk (51 : Nat) (3 : Nat) ([] ++ [Value.int IntKind.i64 z, Value.int IntKind.i64 z_1, Value.int IntKind.i64 z_2] ++ []) true)]))) (K (Exit.exit (2 : Nat)) [Value.string s, Value.int IntKind.i64 q, Value.int IntKind.i64 r, Value.int IntKind.i64 m, Value.slice (some (Addr.mk (0 : Nat) (0 : Nat) none)) n n, Value.int IntKind.i64 (↑n : Int), Value.int IntKind.i64 (↑j : Int)] (Heap.mk (1 : Nat) [lnsF l]))) := by kernel_rfl
theorem block_indent.lo2 : LOk1 Tryd.prog block_indent.nt block_indent.sp2 (.loop 2 block_indent.l2) := by
  refine loop_resC (σ := ByteArray × Int × Int × Int × (List Ln) × Nat × Nat) KD_ok KD_mono (lt0_mono) (LS := lt0) (by simp only [block_indent.l2, LOk, and_true, true_and]) rfl rfl (fun ⟨s, q, r, m, l, n, j⟩ => [.string s, .int .i64 q, .int .i64 r, .int .i64 m, .slice (some ⟨0, 0, none⟩) n n, .int .i64 n, .int .i64 j]) (fun ⟨s, q, r, m, l, n, j⟩ => lit [lnsF l]) (fun ⟨s, q, r, m, l, n, j⟩ => s.size ≤ 1000000 ∧ (∀ x ∈ l, lnOk s x) ∧ j ≤ n ∧ n ≤ l.length ∧ l.length ≤ 1000000) (fun ⟨s, q, r, m, l, n, j⟩ => n - j) 1 (fun ⟨s, q, r, m, l, n, j⟩ K => (badF s m ((l.take n).drop j) = none → ∀ x : Int, K (.exit 2) [.string s, .int .i64 q, .int .i64 r, .int .i64 m, .slice (some ⟨0, 0, none⟩) n n, .int .i64 n, .int .i64 x] (lit [lnsF l])) ∧ (∀ b : Int, badF s m ((l.take n).drop j) = some b → ∀ x : Int, K .ret [.string s, .int .i64 (-1), .int .i64 b, .int .i64 m, .slice (some ⟨0, 0, none⟩) n n, .int .i64 n, .int .i64 x] (lit [lnsF l]))) ?_ ?_
  · rintro vs h K ⟨s, q, r, m, l, n, j, ⟨h1, h2, h3⟩, h4⟩
    exact ⟨h1, ⟨s, q, r, m, l, n, j⟩, h2, h3, h4⟩
  rintro ⟨s, q, r, m, l, n, j⟩ E N K hE hp hN hK
  dsimp only at hp hN hK
  refine Eq.mpr (block_indent.t2 s q r m l n j E N (fun x => In 1 (K x))) ?_
  obtain ⟨hs, hl, h1, h2, h3⟩ := hp
  have tidy : ∀ {K : List Value → Heap → Prop} {vs : List Value} {g : List (Option Blk)}, vs.all (okT 1) = true → vs.map (renT fun j => [some 0].getD j none) = vs → K vs (lit [lnsF l]) → In 1 K vs (Heap.mk (1 + g.length) (lnsF l :: g)) := fun {K vs g} h1 h2 h3 => by
    refine In.lit (L := [lnsF l]) [some 0] vs ⟨⟨by show Nat.blt 0 (1 + g.length) = true; rw [blt_iff]; omega, okF_all (lnsC_flat _), ?_⟩, trivial⟩ rfl rfl rfl h2.symm h1 h3
    rw [map_ren_flat (lnsC_flat _)]; rfl
  refine br_intro (fun hb => ?_) (fun hb => ?_)
  · simp only [decide_eq_true_eq] at hb
    have hj : j < l.length := by omega
    have hx := hl _ (List.getElem_mem hj)
    unfold lnOk at hx
    have hd : (l.take n).drop j = l[j] :: (l.take n).drop (j + 1) := by
      rw [List.drop_eq_getElem_cons (show j < (l.take n).length by rw [List.length_take]; omega), List.getElem_take]
    rw [hd, badF] at hK
    refine ⟨⟨by omega, by omega⟩, _, _, _, lnsC_get hj, hs, br_intro (fun hc => ?_) (fun hc => ⟨by simp only [rng]; omega, ?_⟩)⟩
    · simp only [decide_eq_true_eq] at hc
      rw [if_pos hc] at hK
      exact tidy (g := [_]) (by simp [okT, okA, okF, flatV]) (by simp [renT, renA, ren]) (hK.2 _ rfl _)
    · simp only [decide_eq_false_iff_not] at hc
      rw [if_neg hc] at hK
      refine hN (s, q, r, m, l, n, j + 1) _ _ ⟨hs, hl, by dsimp only; omega, h2, h3⟩ (by dsimp only; omega) hK ?_
      exact tidy (g := [_]) (by simp [okT, okA, okF, flatV]) (by simp [renT, renA, ren]) ⟨by dsimp only; rw [show ((j + 1 : Nat) : Int) = (j : Int) + 1 from by omega], rfl⟩
  · simp only [decide_eq_false_iff_not] at hb
    rw [List.drop_of_length_le (by rw [List.length_take]; omega)] at hK
    exact .inl (hK.1 rfl _)

def bndI (s : ByteArray) (l : List Ln) (p : Int) : Int × Int :=
  match l.drop (spcN s l) with
  | [] => (-1, -1)
  | x :: _ => if indI s x.a x.e x.n ≤ p ∨ 0 < mrkI s x.a x.e x.n then (-1, -1) else match badF s (indI s x.a x.e x.n) (l.take (spcN s l)) with
    | some b => (-1, b)
    | none => (indI s x.a x.e x.n, -1)
theorem spcN_le (s : ByteArray) : ∀ l : List Ln, spcN s l ≤ l.length
  | [] => Nat.le_refl _
  | x :: l => by have := spcN_le s l; unfold spcN; split <;> simp <;> omega
def block_indent.LS : LT := (extL (extL lt0 0 block_indent.sp0) 2 block_indent.sp2)
theorem block_indent.LS_mono : LMono block_indent.LS := (extL_mono (extL_mono lt0_mono block_indent.spm0) block_indent.spm2)
def block_indent.s : List Value → Heap → VK → Prop
  | [.string s, .slice (some ⟨r, 0, none⟩) n n', .int .i64 p], h, K => ∃ (l : List Ln) (o : Bool), Nat.blt r h.n = true ∧ h.g r = some ⟨51, 3, lnsC l, o⟩ ∧ [.string s, .slice (some ⟨r, 0, none⟩) n n', .int .i64 p] = List.map (renT fun j => ([some r] : List (Option Nat)).getD j none) [.string s, .slice (some ⟨0, 0, none⟩) l.length l.length, .int .i64 p] ∧ (s.size ≤ 1000000 ∧ (∀ x ∈ l, lnOk s x) ∧ l.length ≤ 1000000) ∧ K (renT (tgt [some r] h.n 1) (.tuple #[.int .i64 (bndI s l p).1, .int .i64 (bndI s l p).2])) (addAll h (List.map (renB (tgt [some r] h.n 1)) []))
  | _, _, _ => False
theorem block_indent.t (s : ByteArray) (n : Nat) (n' : Nat) (p : Int) (l : List Ln) (K : VK) : mwp KD (block_indent.LS) block_indent.m (retK [.t 6, .t 7] K) (argE 0 [.string s, .slice (some ⟨0, 0, none⟩) l.length l.length, .int .i64 p]) (lit [some ⟨51, 3, lnsC l, false⟩]) = (∃ (s_1 : ByteArray), ∃ (l_1 : List Ln), ∃ (k : Nat), ((1 : Nat) = (1 : Nat) ∧ In (1 : Nat) (block_indent.N0 s_1 l_1 k) [Value.string s, Value.slice (some (Addr.mk (0 : Nat) (0 : Nat) none)) l.length l.length, Value.int IntKind.i64 (0 : Int)] (Heap.mk (1 : Nat) [some (Blk.mk (51 : TypeId) (3 : Nat) (lnsC l) false)]) ∧ s_1.size ≤ (1000000 : Nat) ∧ (∀ (x : Ln), x ∈ l_1 → lnOk s_1 x) ∧ k ≤ l_1.length ∧ l_1.length ≤ (1000000 : Nat)) ∧ br (decide ((↑(k + spcN s_1 (List.drop k l_1)) : Int) = (↑l_1.length : Int))) (K (Value.tuple #[Value.int IntKind.i64 (-1 : Int), Value.int IntKind.i64 (-1 : Int)]) (Heap.mk (1 : Nat) [lnsF l_1])) (((0 : Int) ≤ (↑(k + spcN s_1 (List.drop k l_1)) : Int) ∧ (↑(k + spcN s_1 (List.drop k l_1)) : Int) < (↑l_1.length : Int)) ∧ ∃ (z : Int), ∃ (z_1 : Int), ∃ (z_2 : Int), List.take (3 : Nat) (List.drop ((0 : Nat) + (↑(k + spcN s_1 (List.drop k l_1)) : Int).toNat * (3 : Nat)) (lnsC l_1)) = [Value.int IntKind.i64 z, Value.int IntKind.i64 z_1, Value.int IntKind.i64 z_2] ∧ s_1.size ≤ (1000000 : Nat) ∧ br (decide (indI s_1 z z_1 z_2 ≤ p)) (K (Value.tuple #[Value.int IntKind.i64 (-1 : Int), Value.int IntKind.i64 (-1 : Int)]) (Heap.mk (1 : Nat) [lnsF l_1])) (((0 : Int) ≤ (↑(k + spcN s_1 (List.drop k l_1)) : Int) ∧ (↑(k + spcN s_1 (List.drop k l_1)) : Int) < (↑l_1.length : Int)) ∧ ∃ (z_3 : Int), ∃ (z_4 : Int), ∃ (z_5 : Int), List.take (3 : Nat) (List.drop ((0 : Nat) + (↑(k + spcN s_1 (List.drop k l_1)) : Int).toNat * (3 : Nat)) (lnsC l_1)) = [Value.int IntKind.i64 z_3, Value.int IntKind.i64 z_4, Value.int IntKind.i64 z_5] ∧ s_1.size ≤ (1000000 : Nat) ∧ br (decide ((0 : Int) < mrkI s_1 z_3 z_4 z_5)) (K (Value.tuple #[Value.int IntKind.i64 (-1 : Int), Value.int IntKind.i64 (-1 : Int)]) (Heap.mk (1 : Nat) [lnsF l_1])) (((0 : Int) ≤ (↑(k + spcN s_1 (List.drop k l_1)) : Int) ∧ (↑(k + spcN s_1 (List.drop k l_1)) : Int) ≤ (↑l_1.length : Int)) ∧ ∃ (s : ByteArray), ∃ (q : Int), ∃ (r : Int), ∃ (m : Int), ∃ (l : List Ln), ∃ (n : Nat), ∃ (j : Nat), ((1 : Nat) = (1 : Nat) ∧ In (1 : Nat) (block_indent.N2 s q r m l n j) [Value.string s_1, Value.int IntKind.i64 (0 : Int), Value.int IntKind.i64 (0 : Int), Value.int IntKind.i64 (indI s_1 z z_1 z_2), Value.slice (some (Addr.mk (0 : Nat) (0 : Nat) none)) (↑(k + spcN s_1 (List.drop k l_1)) : Int).toNat (↑(k + spcN s_1 (List.drop k l_1)) : Int).toNat, Value.int IntKind.i64 (↑(↑(k + spcN s_1 (List.drop k l_1)) : Int).toNat : Int), Value.int IntKind.i64 (0 : Int)] (Heap.mk (1 : Nat) [lnsF l_1]) ∧ s.size ≤ (1000000 : Nat) ∧ (∀ (x : Ln), x ∈ l → lnOk s x) ∧ j ≤ n ∧ n ≤ l.length ∧ l.length ≤ (1000000 : Nat)) ∧ (badF s m (List.drop j (List.take n l)) = none → ∀ (x : Int), K (Value.tuple #[Value.int IntKind.i64 m, Value.int IntKind.i64 (-1 : Int)]) (Heap.mk (1 : Nat) [lnsF l])) ∧ ∀ (b : Int), badF s m (List.drop j (List.take n l)) = some b → ∀ (x : Int), K (Value.tuple #[Value.int IntKind.i64 (-1 : Int), Value.int IntKind.i64 b]) (Heap.mk (1 : Nat) [lnsF l]))))) := by kernel_rfl
theorem block_indent.c (s : ByteArray) (r n n' : Nat) (p : Int) (h : Heap) (K : VK) (hh : ∃ (l : List Ln) (o : Bool), Nat.blt r h.n = true ∧ h.g r = some ⟨51, 3, lnsC l, o⟩ ∧ [.string s, .slice (some ⟨r, 0, none⟩) n n', .int .i64 p] = List.map (renT fun j => ([some r] : List (Option Nat)).getD j none) [.string s, .slice (some ⟨0, 0, none⟩) l.length l.length, .int .i64 p] ∧ (s.size ≤ 1000000 ∧ (∀ x ∈ l, lnOk s x) ∧ l.length ≤ 1000000) ∧ K (renT (tgt [some r] h.n 1) (.tuple #[.int .i64 (bndI s l p).1, .int .i64 (bndI s l p).2])) (addAll h (List.map (renB (tgt [some r] h.n 1)) []))) : ACalls Tryd.prog block_indent.n [.string s, .slice (some ⟨r, 0, none⟩) n n', .int .i64 p] h K := by
  obtain ⟨l, o, hr, hg, hvs, hp, hK⟩ := hh
  rw [hvs]
  refine ACalls.reads1 (b := ⟨51, 3, lnsC l, false⟩) (o := o) (v0 := .tuple #[.int .i64 (bndI s l p).1, .int .i64 (bndI s l p).2]) (L := []) hr hg (lnsC_flat l) rfl (by simp [okT, okA, okF, flatV]) rfl (acalls_mk KD_ok block_indent.ok (LS := block_indent.LS) (by simp only [block_indent.m, LOk, and_true, true_and]; (repeat' apply And.intro) <;> first | trivial | exact block_indent.lo0 | exact block_indent.lo2) (Nat.le_of_ble_eq_true rfl) (Eq.mpr (block_indent.t s n n' p l _) ?_)) hK
  clear hK hg hr hvs
  obtain ⟨hs, hl, h3⟩ := hp
  have hle := spcN_le s l
  refine ⟨s, l, 0, ⟨rfl, .inl ⟨rfl, rfl⟩, hs, hl, Nat.zero_le _, h3⟩, ?_⟩
  rw [Nat.zero_add, List.drop_zero]
  have fin : ∀ x y : Int, bndI s l p = (x, y) → InV 1 (fun v h' => v = .tuple #[.int .i64 (bndI s l p).1, .int .i64 (bndI s l p).2] ∧ h' = lit (List.map some [⟨51, 3, lnsC l, false⟩])) (.tuple #[.int .i64 x, .int .i64 y]) (Heap.mk 1 [lnsF l]) := fun x y e => by
    rw [e]; exact .inl ⟨rfl, rfl⟩
  refine br_intro (fun hb => ?_) (fun hb => ?_)
  · simp only [decide_eq_true_eq] at hb
    refine fin _ _ ?_
    unfold bndI
    rw [List.drop_of_length_le (by omega)]
  · simp only [decide_eq_false_iff_not] at hb
    have hk : spcN s l < l.length := by omega
    have hd := List.drop_eq_getElem_cons hk
    have e0 : bndI s l p = if indI s l[spcN s l].a l[spcN s l].e l[spcN s l].n ≤ p ∨ 0 < mrkI s l[spcN s l].a l[spcN s l].e l[spcN s l].n then (-1, -1) else match badF s (indI s l[spcN s l].a l[spcN s l].e l[spcN s l].n) (l.take (spcN s l)) with
        | some b => (-1, b)
        | none => (indI s l[spcN s l].a l[spcN s l].e l[spcN s l].n, -1) := by
      unfold bndI; rw [hd]
    refine ⟨⟨by omega, by omega⟩, _, _, _, lnsC_get hk, hs, br_intro (fun hc => ?_) (fun hc => ⟨⟨by omega, by omega⟩, _, _, _, lnsC_get hk, hs, br_intro (fun hd => ?_) (fun hd => ⟨⟨by omega, by omega⟩, s, 0, 0, _, l, spcN s l, 0, ⟨rfl, .inl ⟨rfl, rfl⟩, hs, hl, Nat.zero_le _, hle, h3⟩, fun e x => ?_, fun b e x => ?_⟩)⟩)⟩
    · simp only [decide_eq_true_eq] at hc
      exact fin _ _ (by rw [e0, if_pos (.inl hc)])
    · simp only [decide_eq_true_eq] at hd
      exact fin _ _ (by rw [e0, if_pos (.inr hd)])
    · simp only [decide_eq_false_iff_not] at hc hd
      rw [List.drop_zero] at e
      exact fin _ _ (by rw [e0, if_neg (by omega), e])
    · simp only [decide_eq_false_iff_not] at hc hd
      rw [List.drop_zero] at e
      exact fin _ _ (by rw [e0, if_neg (by omega), e])
theorem block_indent.sc : ∀ vs h K, block_indent.s vs h K → ACalls Tryd.prog block_indent.n vs h K := by
  intro vs h K hh; unfold block_indent.s at hh; split at hh
  · exact block_indent.c _ _ _ _ _ _ _ hh
  · exact hh.elim
theorem block_indent.sm : SpecMono block_indent.s := by
  intro vs h K K' hk hh; unfold block_indent.s at hh ⊢; split at hh
  · obtain ⟨l, o, h1, h2, h3, h4, h5⟩ := hh; exact ⟨l, o, h1, h2, h3, h4, hk _ _ h5⟩
  · exact hh.elim
theorem block_indent.sd : SpecDet block_indent.s := by
  intro vs h K hh; unfold block_indent.s at hh; split at hh
  · obtain ⟨l, o, h1, h2, h3, h4, h5⟩ := hh; exact ⟨_, h5, l, o, h1, h2, h3, h4, rfl⟩
  · exact hh.elim

/-- Is a line not a text's any more? -/
def outB (s : ByteArray) (m : Int) (x : Ln) : Bool := !spcI s x.a x.e x.n && (decide (m < 0) || decide (indI s x.a x.e x.n < m) || (decide (m = 0) && decide (0 < mrkI s x.a x.e x.n)))
def mineN (s : ByteArray) (m : Int) : List Ln → Nat
  | [] => 0
  | x :: l => if outB s m x = true then 0 else mineN s m l + 1
theorem mineN_le (s : ByteArray) (m : Int) : ∀ l : List Ln, mineN s m l ≤ l.length
  | [] => Nat.le_refl _
  | x :: l => by have := mineN_le s m l; unfold mineN; split <;> simp <;> omega
def block_mine.N0 (s : ByteArray) (l : List Ln) (m : Int) (q : Value) (j : Nat) (vs : List Value) (h : Heap) : Prop := vs = [.string s, .slice (some ⟨0, 0, none⟩) l.length l.length, .int .i64 m, q, .slice (some ⟨0, 0, none⟩) l.length l.length, .int .i64 l.length, .int .i64 j] ∧ h = lit [lnsF l]
def block_mine.sp0 : LSpec := ⟨block_mine.cs0, block_mine.ts0, fun vs h K => ∃ (s : ByteArray) (l : List Ln) (m : Int) (q : Value) (j : Nat), (h.n = 1 ∧ In 1 (block_mine.N0 s l m q j) vs h ∧ (s.size ≤ 1000000 ∧ (∀ x ∈ l, lnOk s x) ∧ j ≤ l.length ∧ l.length ≤ 1000000 ∧ q = .slice none 0 0)) ∧ ((mineN s m (l.drop j) = (l.drop j).length → ∀ x : Int, K (.exit 0) [.string s, .slice (some ⟨0, 0, none⟩) l.length l.length, .int .i64 m, q, .slice (some ⟨0, 0, none⟩) l.length l.length, .int .i64 l.length, .int .i64 x] (lit [lnsF l])) ∧ (mineN s m (l.drop j) < (l.drop j).length → ∀ x : Int, K .ret [.string s, .slice (some ⟨0, 0, none⟩) l.length l.length, .int .i64 m, .slice (some ⟨0, 0, none⟩) (j + mineN s m (l.drop j)) (j + mineN s m (l.drop j)), .slice (some ⟨0, 0, none⟩) l.length l.length, .int .i64 l.length, .int .i64 x] (lit [lnsF l])))⟩
theorem block_mine.spm0 : LSpecMono block_mine.sp0 := by
  rintro vs h K K' hk ⟨s, l, m, q, j, h3, h4⟩
  exact ⟨s, l, m, q, j, h3, ⟨fun e x => hk _ _ _ (h4.1 e x), fun e x => hk _ _ _ (h4.2 e x)⟩⟩
theorem block_mine.t0 (s : ByteArray) (l : List Ln) (m : Int) (q : Value) (j : Nat) (E : Env) (N : List Value → Heap → Prop) (K : LK) : mwp KD (lt0) block_mine.l0 (lK block_mine.cs0 N K) (zipE block_mine.cs0 [.string s, .slice (some ⟨0, 0, none⟩) l.length l.length, .int .i64 m, q, .slice (some ⟨0, 0, none⟩) l.length l.length, .int .i64 l.length, .int .i64 j] ++ E) (lit [lnsF l]) = (br (decide ((↑j : Int) < (↑l.length : Int))) (((0 : Int) ≤ (↑j : Int) ∧ (↑j : Int) < (↑l.length : Int)) ∧ ∃ (z : Int), ∃ (z_1 : Int), ∃ (z_2 : Int), List.take (3 : Nat) (List.drop ((0 : Nat) + (↑j : Int).toNat * (3 : Nat)) (lnsC l)) = [Value.int IntKind.i64 z, Value.int IntKind.i64 z_1, Value.int IntKind.i64 z_2] ∧ (s.size ≤ (1000000 : Nat) ∧ (-10000000 : Int) ≤ z ∧ z ≤ (10000000 : Int) ∧ (-10000000 : Int) ≤ z_1 ∧ z_1 ≤ (10000000 : Int)) ∧ br (!spcI s z z_1 z_2) (br (decide (m < (0 : Int))) (((0 : Int) ≤ (↑j : Int) ∧ (↑j : Int) ≤ (↑l.length : Int)) ∧ K Exit.ret [Value.string s, Value.slice (some (Addr.mk (0 : Nat) (0 : Nat) none)) l.length l.length, Value.int IntKind.i64 m, Value.slice (some (Addr.mk (0 : Nat) (0 : Nat) none)) (↑j : Int).toNat (↑j : Int).toNat, Value.slice (some (Addr.mk (0 : Nat) (0 : Nat) none)) l.length l.length, Value.int IntKind.i64 (↑l.length : Int), Value.int IntKind.i64 (↑j : Int)] (Heap.mk (2 : Nat) [lnsF l, some (Blk.mk (51 : Nat) (3 : Nat) ([] ++ [Value.int IntKind.i64 z, Value.int IntKind.i64 z_1, Value.int IntKind.i64 z_2] ++ []) true)])) (s.size ≤ (1000000 : Nat) ∧ br (decide (indI s z z_1 z_2 < m)) (((0 : Int) ≤ (↑j : Int) ∧ (↑j : Int) ≤ (↑l.length : Int)) ∧ K Exit.ret [Value.string s, Value.slice (some (Addr.mk (0 : Nat) (0 : Nat) none)) l.length l.length, Value.int IntKind.i64 m, Value.slice (some (Addr.mk (0 : Nat) (0 : Nat) none)) (↑j : Int).toNat (↑j : Int).toNat, Value.slice (some (Addr.mk (0 : Nat) (0 : Nat) none)) l.length l.length, Value.int IntKind.i64 (↑l.length : Int), Value.int IntKind.i64 (↑j : Int)] (Heap.mk (2 : Nat) [lnsF l, some (Blk.mk (51 : Nat) (3 : Nat) ([] ++ [Value.int IntKind.i64 z, Value.int IntKind.i64 z_1, Value.int IntKind.i64 z_2] ++ []) true)])) (br (decide (m = (0 : Int))) (s.size ≤ (1000000 : Nat) ∧ br (decide ((0 : Int) < mrkI s z z_1 z_2)) (((0 : Int) ≤ (↑j : Int) ∧ (↑j : Int) ≤ (↑l.length : Int)) ∧ K Exit.ret [Value.string s, Value.slice (some (Addr.mk (0 : Nat) (0 : Nat) none)) l.length l.length, Value.int IntKind.i64 m, Value.slice (some (Addr.mk (0 : Nat) (0 : Nat) none)) (↑j : Int).toNat (↑j : Int).toNat, Value.slice (some (Addr.mk (0 : Nat) (0 : Nat) none)) l.length l.length, Value.int IntKind.i64 (↑l.length : Int), Value.int IntKind.i64 (↑j : Int)] (Heap.mk (2 : Nat) [lnsF l, some (Blk.mk (51 : Nat) (3 : Nat) ([] ++ [Value.int IntKind.i64 z, Value.int IntKind.i64 z_1, Value.int IntKind.i64 z_2] ++ []) true)])) (rng IntKind.i64 ((↑j : Int) + (1 : Int)) ∧ N [Value.string s, Value.slice (some (Addr.mk (0 : Nat) (0 : Nat) none)) l.length l.length, Value.int IntKind.i64 m, q, Value.slice (some (Addr.mk (0 : Nat) (0 : Nat) none)) l.length l.length, Value.int IntKind.i64 (↑l.length : Int), Value.int IntKind.i64 ((↑j : Int) + (1 : Int))] (Heap.mk (2 : Nat) [lnsF l, some (Blk.mk (51 : Nat) (3 : Nat) ([] ++ [Value.int IntKind.i64 z, Value.int IntKind.i64 z_1, Value.int IntKind.i64 z_2] ++ []) true)]))) (rng IntKind.i64 ((↑j : Int) + (1 : Int)) ∧ N [Value.string s, Value.slice (some (Addr.mk (0 : Nat) (0 : Nat) none)) l.length l.length, Value.int IntKind.i64 m, q, Value.slice (some (Addr.mk (0 : Nat) (0 : Nat) none)) l.length l.length, Value.int IntKind.i64 (↑l.length : Int), Value.int IntKind.i64 ((↑j : Int) + (1 : Int))] (Heap.mk (2 : Nat) [lnsF l, some (Blk.mk (51 : Nat) (3 : Nat) ([] ++ [Value.int IntKind.i64 z, Value.int IntKind.i64 z_1, Value.int IntKind.i64 z_2] ++ []) true)]))))) (rng IntKind.i64 ((↑j : Int) + (1 : Int)) ∧ N [Value.string s, Value.slice (some (Addr.mk (0 : Nat) (0 : Nat) none)) l.length l.length, Value.int IntKind.i64 m, q, Value.slice (some (Addr.mk (0 : Nat) (0 : Nat) none)) l.length l.length, Value.int IntKind.i64 (↑l.length : Int), Value.int IntKind.i64 ((↑j : Int) + (1 : Int))] (Heap.mk (2 : Nat) [lnsF l, some (Blk.mk (51 : Nat) (3 : Nat) ([] ++ [Value.int IntKind.i64 z, Value.int IntKind.i64 z_1, Value.int IntKind.i64 z_2] ++ []) true)]))) (K (Exit.exit (0 : Nat)) [Value.string s, Value.slice (some (Addr.mk (0 : Nat) (0 : Nat) none)) l.length l.length, Value.int IntKind.i64 m, q, Value.slice (some (Addr.mk (0 : Nat) (0 : Nat) none)) l.length l.length, Value.int IntKind.i64 (↑l.length : Int), Value.int IntKind.i64 (↑j : Int)] (Heap.mk (1 : Nat) [lnsF l]))) := by kernel_rfl
theorem block_mine.lo0 : LOk1 Tryd.prog block_mine.nt block_mine.sp0 (.loop 0 block_mine.l0) := by
  refine loop_resC (σ := ByteArray × (List Ln) × Int × Value × Nat) KD_ok KD_mono (lt0_mono) (LS := lt0) (by simp only [block_mine.l0, LOk, and_true, true_and]) rfl rfl (fun ⟨s, l, m, q, j⟩ => [.string s, .slice (some ⟨0, 0, none⟩) l.length l.length, .int .i64 m, q, .slice (some ⟨0, 0, none⟩) l.length l.length, .int .i64 l.length, .int .i64 j]) (fun ⟨s, l, m, q, j⟩ => lit [lnsF l]) (fun ⟨s, l, m, q, j⟩ => s.size ≤ 1000000 ∧ (∀ x ∈ l, lnOk s x) ∧ j ≤ l.length ∧ l.length ≤ 1000000 ∧ q = .slice none 0 0) (fun ⟨s, l, m, q, j⟩ => l.length - j) 1 (fun ⟨s, l, m, q, j⟩ K => (mineN s m (l.drop j) = (l.drop j).length → ∀ x : Int, K (.exit 0) [.string s, .slice (some ⟨0, 0, none⟩) l.length l.length, .int .i64 m, q, .slice (some ⟨0, 0, none⟩) l.length l.length, .int .i64 l.length, .int .i64 x] (lit [lnsF l])) ∧ (mineN s m (l.drop j) < (l.drop j).length → ∀ x : Int, K .ret [.string s, .slice (some ⟨0, 0, none⟩) l.length l.length, .int .i64 m, .slice (some ⟨0, 0, none⟩) (j + mineN s m (l.drop j)) (j + mineN s m (l.drop j)), .slice (some ⟨0, 0, none⟩) l.length l.length, .int .i64 l.length, .int .i64 x] (lit [lnsF l]))) ?_ ?_
  · rintro vs h K ⟨s, l, m, q, j, ⟨h1, h2, h3⟩, h4⟩
    exact ⟨h1, ⟨s, l, m, q, j⟩, h2, h3, h4⟩
  rintro ⟨s, l, m, q, j⟩ E N K hE hp hN hK
  dsimp only at hp hN hK
  refine Eq.mpr (block_mine.t0 s l m q j E N (fun x => In 1 (K x))) ?_
  obtain ⟨hs, hl, h1, h3, rfl⟩ := hp
  have tidy : ∀ {K : List Value → Heap → Prop} {vs : List Value} {g : List (Option Blk)}, vs.all (okT 1) = true → vs.map (renT fun j => [some 0].getD j none) = vs → K vs (lit [lnsF l]) → In 1 K vs (Heap.mk (1 + g.length) (lnsF l :: g)) := fun {K vs g} h1 h2 h3 => by
    refine In.lit (L := [lnsF l]) [some 0] vs ⟨⟨by show Nat.blt 0 (1 + g.length) = true; rw [blt_iff]; omega, okF_all (lnsC_flat _), ?_⟩, trivial⟩ rfl rfl rfl h2.symm h1 h3
    rw [map_ren_flat (lnsC_flat _)]; rfl
  refine br_intro (fun hb => ?_) (fun hb => ?_)
  · simp only [decide_eq_true_eq] at hb
    have hj : j < l.length := by omega
    have hx := hl _ (List.getElem_mem hj)
    unfold lnOk at hx
    have hd := List.drop_eq_getElem_cons hj
    rw [hd, mineN] at hK
    have hle := mineN_le s m (l.drop (j + 1))
    have stop : outB s m l[j] = true → ((0 : Int) ≤ (j : Int) ∧ (j : Int) ≤ (l.length : Int)) ∧ In 1 (K .ret) [.string s, .slice (some ⟨0, 0, none⟩) l.length l.length, .int .i64 m, .slice (some ⟨0, 0, none⟩) (j : Int).toNat (j : Int).toNat, .slice (some ⟨0, 0, none⟩) l.length l.length, .int .i64 l.length, .int .i64 j] (Heap.mk 2 [lnsF l, some (Blk.mk 51 3 ([] ++ [.int .i64 l[j].a, .int .i64 l[j].e, .int .i64 l[j].n] ++ []) true)]) := fun e => by
      rw [if_pos e] at hK
      exact ⟨⟨by omega, by omega⟩, tidy (g := [_]) (by simp [okT, okA, okF, flatV]) (by simp [renT, renA, ren]) (hK.2 (by simp; omega) _)⟩
    have nxt : outB s m l[j] = false → rng .i64 ((j : Int) + 1) ∧ N [.string s, .slice (some ⟨0, 0, none⟩) l.length l.length, .int .i64 m, .slice none 0 0, .slice (some ⟨0, 0, none⟩) l.length l.length, .int .i64 l.length, .int .i64 ((j : Int) + 1)] (Heap.mk 2 [lnsF l, some (Blk.mk 51 3 ([] ++ [.int .i64 l[j].a, .int .i64 l[j].e, .int .i64 l[j].n] ++ []) true)]) := fun e => by
      rw [if_neg (by rw [e]; decide)] at hK
      refine ⟨by simp only [rng]; omega, hN (s, l, m, .slice none 0 0, j + 1) _ _ ⟨hs, hl, by dsimp only; omega, h3, rfl⟩ (by dsimp only; omega) ?_ ?_⟩
      · refine ⟨fun e x => hK.1 (by simp only [List.length_cons]; dsimp only at e; omega) x, fun e x => ?_⟩
        have := hK.2 (by simp only [List.length_cons]; dsimp only at e; omega) x
        dsimp only
        rw [show j + 1 + mineN s m (l.drop (j + 1)) = j + (mineN s m (l.drop (j + 1)) + 1) from by omega]
        exact this
      · exact tidy (g := [_]) (by simp [okT, okA, okF, flatV]) (by simp [renT, renA, ren]) ⟨by dsimp only; rw [show ((j + 1 : Nat) : Int) = (j : Int) + 1 from by omega], rfl⟩
    unfold outB at stop nxt
    refine ⟨⟨by omega, by omega⟩, _, _, _, lnsC_get hj, ⟨hs, by omega, by omega, by omega, by omega⟩, ?_⟩
    refine br_intro (fun h1 => br_intro (fun h2 => stop (by rw [h1, h2]; rfl)) (fun h2 => ⟨hs, br_intro (fun h3 => stop (by rw [h1, h2, h3]; rfl)) (fun h3 => br_intro (fun h4 => ⟨hs, br_intro (fun h5 => stop (by rw [h1, h2, h3, h4, h5]; rfl)) (fun h5 => nxt (by rw [h1, h2, h3, h4, h5]; rfl))⟩) (fun h4 => nxt (by rw [h1, h2, h3, h4]; rfl)))⟩)) (fun h1 => nxt (by rw [h1]; rfl))
  · simp only [decide_eq_false_iff_not] at hb
    rw [List.drop_of_length_le (by omega)] at hK
    exact .inl (hK.1 rfl _)

def block_mine.LS : LT := (extL lt0 0 block_mine.sp0)
theorem block_mine.LS_mono : LMono block_mine.LS := (extL_mono lt0_mono block_mine.spm0)
def block_mine.s : List Value → Heap → VK → Prop
  | [.string s, .slice (some ⟨r, 0, none⟩) n n', .int .i64 m], h, K => ∃ (l : List Ln) (o : Bool), Nat.blt r h.n = true ∧ h.g r = some ⟨51, 3, lnsC l, o⟩ ∧ [.string s, .slice (some ⟨r, 0, none⟩) n n', .int .i64 m] = List.map (renT fun j => ([some r] : List (Option Nat)).getD j none) [.string s, .slice (some ⟨0, 0, none⟩) l.length l.length, .int .i64 m] ∧ (s.size ≤ 1000000 ∧ (∀ x ∈ l, lnOk s x) ∧ l.length ≤ 1000000) ∧ K (renT (tgt [some r] h.n 1) (.slice (some ⟨0, 0, none⟩) (mineN s m l) (mineN s m l))) (addAll h (List.map (renB (tgt [some r] h.n 1)) []))
  | _, _, _ => False
theorem block_mine.t (s : ByteArray) (n : Nat) (n' : Nat) (m : Int) (l : List Ln) (K : VK) : mwp KD (block_mine.LS) block_mine.m (retK [.t 6] K) (argE 0 [.string s, .slice (some ⟨0, 0, none⟩) l.length l.length, .int .i64 m]) (lit [some ⟨51, 3, lnsC l, false⟩]) = (∃ (s_1 : ByteArray), ∃ (l_1 : List Ln), ∃ (m_1 : Int), ∃ (q : Value), ∃ (j : Nat), ((1 : Nat) = (1 : Nat) ∧ In (1 : Nat) (block_mine.N0 s_1 l_1 m_1 q j) [Value.string s, Value.slice (some (Addr.mk (0 : Nat) (0 : Nat) none)) l.length l.length, Value.int IntKind.i64 m, Value.slice none (0 : Nat) (0 : Nat), Value.slice (some (Addr.mk (0 : Nat) (0 : Nat) none)) l.length l.length, Value.int IntKind.i64 (↑l.length : Int), Value.int IntKind.i64 (0 : Int)] (Heap.mk (1 : Nat) [some (Blk.mk (51 : TypeId) (3 : Nat) (lnsC l) false)]) ∧ s_1.size ≤ (1000000 : Nat) ∧ (∀ (x : Ln), x ∈ l_1 → lnOk s_1 x) ∧ j ≤ l_1.length ∧ l_1.length ≤ (1000000 : Nat) ∧ q = Value.slice none (0 : Nat) (0 : Nat)) ∧ (mineN s_1 m_1 (List.drop j l_1) = (List.drop j l_1).length → ∀ (x : Int), K (Value.slice (some (Addr.mk (0 : Nat) (0 : Nat) none)) l_1.length l_1.length) (Heap.mk (1 : Nat) [lnsF l_1])) ∧ (mineN s_1 m_1 (List.drop j l_1) < (List.drop j l_1).length → ∀ (x : Int), K (Value.slice (some (Addr.mk (0 : Nat) (0 : Nat) none)) (j + mineN s_1 m_1 (List.drop j l_1)) (j + mineN s_1 m_1 (List.drop j l_1))) (Heap.mk (1 : Nat) [lnsF l_1]))) := by kernel_rfl
theorem block_mine.c (s : ByteArray) (r n n' : Nat) (m : Int) (h : Heap) (K : VK) (hh : ∃ (l : List Ln) (o : Bool), Nat.blt r h.n = true ∧ h.g r = some ⟨51, 3, lnsC l, o⟩ ∧ [.string s, .slice (some ⟨r, 0, none⟩) n n', .int .i64 m] = List.map (renT fun j => ([some r] : List (Option Nat)).getD j none) [.string s, .slice (some ⟨0, 0, none⟩) l.length l.length, .int .i64 m] ∧ (s.size ≤ 1000000 ∧ (∀ x ∈ l, lnOk s x) ∧ l.length ≤ 1000000) ∧ K (renT (tgt [some r] h.n 1) (.slice (some ⟨0, 0, none⟩) (mineN s m l) (mineN s m l))) (addAll h (List.map (renB (tgt [some r] h.n 1)) []))) : ACalls Tryd.prog block_mine.n [.string s, .slice (some ⟨r, 0, none⟩) n n', .int .i64 m] h K := by
  obtain ⟨l, o, hr, hg, hvs, hp, hK⟩ := hh
  rw [hvs]
  refine ACalls.reads1 (b := ⟨51, 3, lnsC l, false⟩) (o := o) (v0 := .slice (some ⟨0, 0, none⟩) (mineN s m l) (mineN s m l)) (L := []) hr hg (lnsC_flat l) rfl (by simp [okT, okA, okF, flatV]) rfl (acalls_mk KD_ok block_mine.ok (LS := block_mine.LS) (by simp only [block_mine.m, LOk, and_true, true_and]; (repeat' apply And.intro) <;> first | trivial | exact block_mine.lo0) (Nat.le_of_ble_eq_true rfl) (Eq.mpr (block_mine.t s n n' m l _) ?_)) hK
  clear hK hg hr hvs
  obtain ⟨hs, hl, h3⟩ := hp
  refine ⟨s, l, m, .slice none 0 0, 0, ⟨rfl, .inl ⟨rfl, rfl⟩, hs, hl, Nat.zero_le _, h3, rfl⟩, fun e x => ?_, fun e x => ?_⟩
  · rw [List.drop_zero] at e
    rw [e]
    exact .inl ⟨rfl, rfl⟩
  · rw [List.drop_zero, Nat.zero_add]
    exact .inl ⟨rfl, rfl⟩
theorem block_mine.sc : ∀ vs h K, block_mine.s vs h K → ACalls Tryd.prog block_mine.n vs h K := by
  intro vs h K hh; unfold block_mine.s at hh; split at hh
  · exact block_mine.c _ _ _ _ _ _ _ hh
  · exact hh.elim
theorem block_mine.sm : SpecMono block_mine.s := by
  intro vs h K K' hk hh; unfold block_mine.s at hh ⊢; split at hh
  · obtain ⟨l, o, h1, h2, h3, h4, h5⟩ := hh; exact ⟨l, o, h1, h2, h3, h4, hk _ _ h5⟩
  · exact hh.elim
theorem block_mine.sd : SpecDet block_mine.s := by
  intro vs h K hh; unfold block_mine.s at hh; split at hh
  · obtain ⟨l, o, h1, h2, h3, h4, h5⟩ := hh; exact ⟨_, h5, l, o, h1, h2, h3, h4, rfl⟩
  · exact hh.elim

end Go.Mini
