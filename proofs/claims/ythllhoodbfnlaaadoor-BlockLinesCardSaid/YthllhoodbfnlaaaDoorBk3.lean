/- Block texts: rows as they are told. Conditions: sizes. -/
import Derived.Test.YthllhoodbfnlaaaDoorBk2
namespace Go.Mini
open Go Go.RowKit Go.Proofs
set_option maxRecDepth 100000
set_option linter.unusedVariables false
set_option linter.unusedSimpArgs false

structure Rw where
  t : List UInt8
  b : Bool
def rwC (x : Rw) : List Value := [.string (strOf x.t), .bool x.b]
def rwsC (l : List Rw) : List Value := l.flatMap rwC
theorem rwsC_len (l : List Rw) : (rwsC l).length = l.length * 2 := by
  induction l with
  | nil => rfl
  | cons x l ih => simp [rwsC, rwC] at ih ⊢; omega
theorem rwsC_app (l m : List Rw) : rwsC (l ++ m) = rwsC l ++ rwsC m := by simp [rwsC]
theorem rwsC_flat (l : List Rw) : (rwsC l).all flatV = true := List.all_eq_true.2 fun v hv => by
  simp only [rwsC, List.mem_flatMap, rwC, List.mem_cons, List.not_mem_nil, or_false] at hv
  obtain ⟨x, _, rfl | rfl⟩ := hv <;> rfl
theorem rwsC_get {l : List Rw} {j : Nat} (h : j < l.length) : ((rwsC l).drop (0 + j * 2)).take 2 = [.string (strOf (l[j]).t), .bool (l[j]).b] := by
  induction l generalizing j with
  | nil => simp at h
  | cons x l ih =>
    cases j with
    | zero => rfl
    | succ j =>
      have := ih (j := j) (by simpa using h)
      rw [show 0 + (j + 1) * 2 = (0 + j * 2) + 2 from by omega, show rwsC (x :: l) = rwC x ++ rwsC l from rfl, ← List.drop_drop]
      simpa [rwC] using this
def cutL (s : ByteArray) (a e : Int) : List UInt8 := ((lst s).drop a.toNat).take (e - a).toNat
theorem cutL_ext (s : ByteArray) {a e : Int} (h0 : 0 ≤ a) (h1 : a ≤ e) : s.extract a.toNat e.toNat = strOf (cutL s a e) := by
  rw [← strOf_lst (s.extract a.toNat e.toNat), lst_ext, show e.toNat - a.toNat = (e - a).toNat from by omega]; rfl
def toldR (s : ByteArray) (m : Int) (x : Ln) : Rw := ⟨if m < 0 then [] else cutL s (min (x.a + m) x.e) x.e, decide (x.e < x.n)⟩
abbrev TRw : Nat := 66
abbrev rwsB (l : List Rw) : Option Blk := some ⟨TRw, 2, rwsC l, true⟩
def block_told.N0 (s : ByteArray) (l : List Ln) (k : Nat) (m : Int) (j : Nat) (vs : List Value) (h : Heap) : Prop := vs = [.string s, .int .i64 m, .slice (some ⟨1, 0, none⟩) j j, .slice (some ⟨0, 0, none⟩) k k, .int .i64 k, .int .i64 j] ∧ h = lit [lnsF l, rwsB ((l.take j).map (toldR s m))]
def block_told.sp0 : LSpec := ⟨block_told.cs0, block_told.ts0, fun vs h K => ∃ (s : ByteArray) (l : List Ln) (k : Nat) (m : Int) (j : Nat), (h.n = 1 ∧ In 1 (block_told.N0 s l k m j) vs h ∧ (s.size ≤ 1000000 ∧ (∀ x ∈ l, lnOk s x) ∧ j ≤ k ∧ k ≤ l.length ∧ l.length ≤ 900000 ∧ m ≤ 10000000)) ∧ (∀ x : Int, K (.exit 0) [.string s, .int .i64 m, .slice (some ⟨1, 0, none⟩) k k, .slice (some ⟨0, 0, none⟩) k k, .int .i64 k, .int .i64 x] (lit [lnsF l, rwsB ((l.take k).map (toldR s m))]))⟩
theorem block_told.spm0 : LSpecMono block_told.sp0 := by
  rintro vs h K K' hk ⟨s, l, k, m, j, h3, h4⟩
  exact ⟨s, l, k, m, j, h3, fun x => hk _ _ _ (h4 x)⟩
theorem block_told.t0 (s : ByteArray) (l : List Ln) (k : Nat) (m : Int) (j : Nat) (E : Env) (N : List Value → Heap → Prop) (K : LK) : mwp KD (lt0) block_told.l0 (lK block_told.cs0 N K) (zipE block_told.cs0 [.string s, .int .i64 m, .slice (some ⟨1, 0, none⟩) j j, .slice (some ⟨0, 0, none⟩) k k, .int .i64 k, .int .i64 j] ++ E) (lit [lnsF l, rwsB ((l.take j).map (toldR s m))]) = (br (decide ((↑j : Int) < (↑k : Int))) (((0 : Int) ≤ (↑j : Int) ∧ (↑j : Int) < (↑k : Int)) ∧ ∃ (z : Int), ∃ (z_1 : Int), ∃ (z_2 : Int), List.take (3 : Nat) (List.drop ((0 : Nat) + (↑j : Int).toNat * (3 : Nat)) (lnsC l)) = [Value.int IntKind.i64 z, Value.int IntKind.i64 z_1, Value.int IntKind.i64 z_2] ∧ br (decide ((0 : Int) ≤ m)) (rng IntKind.i64 (z + m) ∧ ((0 : Int) ≤ min (z + m) z_1 ∧ min (z + m) z_1 ≤ z_1 ∧ z_1 ≤ (↑s.size : Int)) ∧ (j + (1 : Nat) ≤ (1000000 : Nat) ∧ j * (2 : Nat) ≤ (rwsC (List.map (toldR s m) (List.take j l))).length) ∧ rng IntKind.i64 ((↑j : Int) + (1 : Int)) ∧ N [Value.string s, Value.int IntKind.i64 m, Value.slice (some (Addr.mk (4 : Nat) (0 : Nat) none)) (j + (1 : Nat)) (j + (1 : Nat)), Value.slice (some (Addr.mk (0 : Nat) (0 : Nat) none)) k k, Value.int IntKind.i64 (↑k : Int), Value.int IntKind.i64 ((↑j : Int) + (1 : Int))] (Heap.mk (5 : Nat) [lnsF l, none, some (Blk.mk (51 : Nat) (3 : Nat) ([] ++ [Value.int IntKind.i64 z, Value.int IntKind.i64 z_1, Value.int IntKind.i64 z_2] ++ []) true), some (Blk.mk (66 : Nat) (2 : Nat) [Value.string (s.extract (min (z + m) z_1).toNat z_1.toNat), Value.bool (decide (z_1 < z_2))] true), some (Blk.mk (66 : Nat) (2 : Nat) (List.take (j * (2 : Nat)) (rwsC (List.map (toldR s m) (List.take j l))) ++ [Value.string (s.extract (min (z + m) z_1).toNat z_1.toNat), Value.bool (decide (z_1 < z_2))]) true)])) ((j + (1 : Nat) ≤ (1000000 : Nat) ∧ j * (2 : Nat) ≤ (rwsC (List.map (toldR s m) (List.take j l))).length) ∧ rng IntKind.i64 ((↑j : Int) + (1 : Int)) ∧ N [Value.string s, Value.int IntKind.i64 m, Value.slice (some (Addr.mk (4 : Nat) (0 : Nat) none)) (j + (1 : Nat)) (j + (1 : Nat)), Value.slice (some (Addr.mk (0 : Nat) (0 : Nat) none)) k k, Value.int IntKind.i64 (↑k : Int), Value.int IntKind.i64 ((↑j : Int) + (1 : Int))] (Heap.mk (5 : Nat) [lnsF l, none, some (Blk.mk (51 : Nat) (3 : Nat) ([] ++ [Value.int IntKind.i64 z, Value.int IntKind.i64 z_1, Value.int IntKind.i64 z_2] ++ []) true), some (Blk.mk (66 : Nat) (2 : Nat) [Value.string (ByteArray.mk #[]), Value.bool (decide (z_1 < z_2))] true), some (Blk.mk (66 : Nat) (2 : Nat) (List.take (j * (2 : Nat)) (rwsC (List.map (toldR s m) (List.take j l))) ++ [Value.string (ByteArray.mk #[]), Value.bool (decide (z_1 < z_2))]) true)]))) (K (Exit.exit (0 : Nat)) [Value.string s, Value.int IntKind.i64 m, Value.slice (some (Addr.mk (1 : Nat) (0 : Nat) none)) j j, Value.slice (some (Addr.mk (0 : Nat) (0 : Nat) none)) k k, Value.int IntKind.i64 (↑k : Int), Value.int IntKind.i64 (↑j : Int)] (Heap.mk (2 : Nat) [lnsF l, rwsB (List.map (toldR s m) (List.take j l))]))) := by kernel_rfl
theorem block_told.lo0 : LOk1 Tryd.prog block_told.nt block_told.sp0 (.loop 0 block_told.l0) := by
  refine loop_resC (σ := ByteArray × (List Ln) × Nat × Int × Nat) KD_ok KD_mono (lt0_mono) (LS := lt0) (by simp only [block_told.l0, LOk, and_true, true_and]) rfl rfl (fun ⟨s, l, k, m, j⟩ => [.string s, .int .i64 m, .slice (some ⟨1, 0, none⟩) j j, .slice (some ⟨0, 0, none⟩) k k, .int .i64 k, .int .i64 j]) (fun ⟨s, l, k, m, j⟩ => lit [lnsF l, rwsB ((l.take j).map (toldR s m))]) (fun ⟨s, l, k, m, j⟩ => s.size ≤ 1000000 ∧ (∀ x ∈ l, lnOk s x) ∧ j ≤ k ∧ k ≤ l.length ∧ l.length ≤ 900000 ∧ m ≤ 10000000) (fun ⟨s, l, k, m, j⟩ => k - j) 1 (fun ⟨s, l, k, m, j⟩ K => ∀ x : Int, K (.exit 0) [.string s, .int .i64 m, .slice (some ⟨1, 0, none⟩) k k, .slice (some ⟨0, 0, none⟩) k k, .int .i64 k, .int .i64 x] (lit [lnsF l, rwsB ((l.take k).map (toldR s m))])) ?_ ?_
  · rintro vs h K ⟨s, l, k, m, j, ⟨h1, h2, h3⟩, h4⟩
    exact ⟨h1, ⟨s, l, k, m, j⟩, h2, h3, h4⟩
  rintro ⟨s, l, k, m, j⟩ E N K hE hp hN hK
  dsimp only at hp hN hK
  refine Eq.mpr (block_told.t0 s l k m j E N (fun x => In 1 (K x))) ?_
  obtain ⟨hs, hl, h1, hkl, h3, h5⟩ := hp
  refine br_intro (fun hb => ?_) (fun hb => ?_)
  · simp only [decide_eq_true_eq] at hb
    have hj : j < l.length := by omega
    have hx := hl _ (List.getElem_mem hj)
    unfold lnOk at hx
    have hrl := rwsC_len ((l.take j).map (toldR s m))
    have hln : ((l.take j).map (toldR s m)).length = j := by rw [List.length_map, List.length_take]; omega
    rw [hln] at hrl
    have nxt : ∀ (t : List UInt8) (g1 g2 : Option Blk), (toldR s m l[j]).t = t → (j + (1 : Nat) ≤ (1000000 : Nat) ∧ j * (2 : Nat) ≤ (rwsC (List.map (toldR s m) (List.take j l))).length) ∧ rng IntKind.i64 ((j : Int) + (1 : Int)) ∧ N [.string s, .int .i64 m, .slice (some ⟨4, 0, none⟩) (j + 1) (j + 1), .slice (some ⟨0, 0, none⟩) k k, .int .i64 k, .int .i64 ((j : Int) + 1)] (Heap.mk 5 [lnsF l, none, g1, g2, some (Blk.mk 66 2 (List.take (j * (2 : Nat)) (rwsC (List.map (toldR s m) (List.take j l))) ++ [.string (strOf t), .bool (decide (l[j].e < l[j].n))]) true)]) := fun t g1 g2 ht => by
      refine ⟨⟨by omega, by omega⟩, by simp only [rng]; omega, hN (s, l, k, m, j + 1) _ _ ⟨hs, hl, by dsimp only; omega, hkl, h3, h5⟩ (by dsimp only; omega) hK ?_⟩
      refine In.rows [some 0, some 4] ⟨⟨rfl, okF_all (lnsC_flat _), ?_⟩, ⟨rfl, okF_all (rwsC_flat _), ?_⟩, trivial⟩ rfl rfl rfl ?_ ?_
      · rw [map_ren_flat (lnsC_flat _)]; rfl
      · show some _ = some _
        rw [map_ren_flat (rwsC_flat _), List.take_of_length_le (by omega), List.take_add_one, List.getElem?_eq_getElem hj, List.map_append, rwsC_app, ← ht]
        rfl
      · dsimp only
        simp [renT, renA, ren]
      · simp [okT, okA, okF, flatV]
    refine ⟨⟨by omega, by omega⟩, _, _, _, lnsC_get hj, br_intro (fun hc => ?_) (fun hc => ?_)⟩
    · simp only [decide_eq_true_eq] at hc
      refine ⟨by simp only [rng]; omega, ⟨by omega, by omega, by omega⟩, ?_⟩
      rw [cutL_ext s (by omega) (by omega)]
      exact nxt _ _ _ (by unfold toldR; dsimp only; rw [if_neg (by omega)])
    · simp only [decide_eq_false_iff_not] at hc
      exact nxt [] _ _ (by unfold toldR; dsimp only; rw [if_pos (by omega)])
  · simp only [decide_eq_false_iff_not] at hb
    obtain rfl : j = k := by omega
    exact .inl (hK _)

def block_told.LS : LT := (extL lt0 0 block_told.sp0)
theorem block_told.LS_mono : LMono block_told.LS := (extL_mono lt0_mono block_told.spm0)
def block_told.s : List Value → Heap → VK → Prop
  | [.string s, .slice (some ⟨r, 0, none⟩) n n', .int .i64 m], h, K => ∃ (l : List Ln) (k : Nat) (o : Bool), Nat.blt r h.n = true ∧ h.g r = some ⟨51, 3, lnsC l, o⟩ ∧ [.string s, .slice (some ⟨r, 0, none⟩) n n', .int .i64 m] = List.map (renT fun j => ([some r] : List (Option Nat)).getD j none) [.string s, .slice (some ⟨0, 0, none⟩) k k, .int .i64 m] ∧ (s.size ≤ 1000000 ∧ (∀ x ∈ l, lnOk s x) ∧ k ≤ l.length ∧ l.length ≤ 900000 ∧ m ≤ 10000000) ∧ K (renT (tgt [some r] h.n 1) (.slice (some ⟨1, 0, none⟩) k k)) (addAll h (List.map (renB (tgt [some r] h.n 1)) [⟨TRw, 2, rwsC ((l.take k).map (toldR s m)), true⟩]))
  | _, _, _ => False
theorem block_told.t (s : ByteArray) (n : Nat) (n' : Nat) (m : Int) (l : List Ln) (k : Nat) (K : VK) : mwp KD (block_told.LS) block_told.m (retK [.t 6] K) (argE 0 [.string s, .slice (some ⟨0, 0, none⟩) k k, .int .i64 m]) (lit [some ⟨51, 3, lnsC l, false⟩]) = (∃ (s_1 : ByteArray), ∃ (l_1 : List Ln), ∃ (k_1 : Nat), ∃ (m_1 : Int), ∃ (j : Nat), ((1 : Nat) = (1 : Nat) ∧ In (1 : Nat) (block_told.N0 s_1 l_1 k_1 m_1 j) [Value.string s, Value.int IntKind.i64 m, Value.slice none (0 : Nat) (0 : Nat), Value.slice (some (Addr.mk (0 : Nat) (0 : Nat) none)) k k, Value.int IntKind.i64 (↑k : Int), Value.int IntKind.i64 (0 : Int)] (Heap.mk (1 : Nat) [some (Blk.mk (51 : TypeId) (3 : Nat) (lnsC l) false)]) ∧ s_1.size ≤ (1000000 : Nat) ∧ (∀ (x : Ln), x ∈ l_1 → lnOk s_1 x) ∧ j ≤ k_1 ∧ k_1 ≤ l_1.length ∧ l_1.length ≤ (900000 : Nat) ∧ m_1 ≤ (10000000 : Int)) ∧ ∀ (x : Int), K (Value.slice (some (Addr.mk (1 : Nat) (0 : Nat) none)) k_1 k_1) (Heap.mk (2 : Nat) [lnsF l_1, rwsB (List.map (toldR s_1 m_1) (List.take k_1 l_1))])) := by kernel_rfl
theorem block_told.c (s : ByteArray) (r n n' : Nat) (m : Int) (h : Heap) (K : VK) (hh : ∃ (l : List Ln) (k : Nat) (o : Bool), Nat.blt r h.n = true ∧ h.g r = some ⟨51, 3, lnsC l, o⟩ ∧ [.string s, .slice (some ⟨r, 0, none⟩) n n', .int .i64 m] = List.map (renT fun j => ([some r] : List (Option Nat)).getD j none) [.string s, .slice (some ⟨0, 0, none⟩) k k, .int .i64 m] ∧ (s.size ≤ 1000000 ∧ (∀ x ∈ l, lnOk s x) ∧ k ≤ l.length ∧ l.length ≤ 900000 ∧ m ≤ 10000000) ∧ K (renT (tgt [some r] h.n 1) (.slice (some ⟨1, 0, none⟩) k k)) (addAll h (List.map (renB (tgt [some r] h.n 1)) [⟨TRw, 2, rwsC ((l.take k).map (toldR s m)), true⟩]))) : ACalls Tryd.prog block_told.n [.string s, .slice (some ⟨r, 0, none⟩) n n', .int .i64 m] h K := by
  obtain ⟨l, k, o, hr, hg, hvs, hp, hK⟩ := hh
  rw [hvs]
  refine ACalls.reads1 (b := ⟨51, 3, lnsC l, false⟩) (o := o) (v0 := .slice (some ⟨1, 0, none⟩) k k) (L := [⟨TRw, 2, rwsC ((l.take k).map (toldR s m)), true⟩]) hr hg (lnsC_flat l) rfl (by simp [okT, okA, okF, flatV]) rfl (acalls_mk KD_ok block_told.ok (LS := block_told.LS) (by simp only [block_told.m, LOk, and_true, true_and]; (repeat' apply And.intro) <;> first | trivial | exact block_told.lo0) (Nat.le_of_ble_eq_true rfl) (Eq.mpr (block_told.t s n n' m l k _) ?_)) hK
  clear hK hg hr hvs
  obtain ⟨hs, hl, h3, h4, h5⟩ := hp
  refine ⟨s, l, k, m, 0, ⟨rfl, ?_, hs, hl, Nat.zero_le _, h3, h4, h5⟩, fun x => .inl ⟨rfl, rfl⟩⟩
  refine In.rows [some 0, none] ⟨⟨rfl, okF_all (lnsC_flat _), ?_⟩, rfl, trivial⟩ rfl rfl rfl ?_ ?_
  · rw [map_ren_flat (lnsC_flat _)]; rfl
  · simp [renT, renA, ren]
  · simp [okT, okA, okF, flatV]
theorem block_told.sc : ∀ vs h K, block_told.s vs h K → ACalls Tryd.prog block_told.n vs h K := by
  intro vs h K hh; unfold block_told.s at hh; split at hh
  · exact block_told.c _ _ _ _ _ _ _ hh
  · exact hh.elim
theorem block_told.sm : SpecMono block_told.s := by
  intro vs h K K' hk hh; unfold block_told.s at hh ⊢; split at hh
  · obtain ⟨l, k, o, h1, h2, h3, h4, h5⟩ := hh; exact ⟨l, k, o, h1, h2, h3, h4, hk _ _ h5⟩
  · exact hh.elim
theorem block_told.sd : SpecDet block_told.s := by
  intro vs h K hh; unfold block_told.s at hh; split at hh
  · obtain ⟨l, k, o, h1, h2, h3, h4, h5⟩ := hh; exact ⟨_, h5, l, k, o, h1, h2, h3, h4, rfl⟩
  · exact hh.elim

end Go.Mini
