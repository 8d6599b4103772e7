/- Block texts: read. Conditions: sizes. -/
import Derived.Test.YthllhoodbfnlaaaDoorBk5
namespace Go.Mini
open Go Go.RowKit Go.Proofs
set_option maxRecDepth 100000
set_option linter.unusedVariables false
set_option linter.unusedSimpArgs false

/-- Where the last line that says something ends; where what is behind begins. -/
def lstE (s : ByteArray) (m : Int) : Int → List Ln → Int
  | e, [] => e
  | e, x :: l => lstE s m (if (toldR s m x).t = [] then e else x.e) l
def nxtE : Int → List Ln → Int
  | e, [] => e
  | _, x :: l => nxtE x.n l
abbrev lnsT (l : List Ln) : Option Blk := some ⟨51, 3, lnsC l, true⟩
abbrev fltB : Option Blk := some ⟨30, 2, [.int .i64 0, .int .i64 0], true⟩
abbrev hdT (h : BHd) : Option Blk := some ⟨THd, 6, [.bool h.f, .int .i64 h.d, .int .u8 h.c, .int .i64 h.a, .int .i64 h.e, .int .i64 h.n], true⟩
def KI : CT := (extC (extC (extC (extC (extC (extC (extC (extC KH block_begin.n block_begin.s) block_after.n block_after.s) block_indent.n block_indent.s) block_mine.n block_mine.s) block_told.n block_told.s) block_plain.n block_plain.s) block_fold.n block_fold.s) block_end.n block_end.s)
theorem KI_ok : COk Tryd.prog KI := (extC_ok (extC_ok (extC_ok (extC_ok (extC_ok (extC_ok (extC_ok (extC_ok KH_ok block_begin.sc block_begin.sd) block_after.sc block_after.sd) block_indent.sc block_indent.sd) block_mine.sc block_mine.sd) block_told.sc block_told.sd) block_plain.sc block_plain.sd) block_fold.sc block_fold.sd) block_end.sc block_end.sd)
theorem KI_mono : CMono KI := (extC_mono (extC_mono (extC_mono (extC_mono (extC_mono (extC_mono (extC_mono (extC_mono KH_mono block_begin.sm) block_after.sm) block_indent.sm) block_mine.sm) block_told.sm) block_plain.sm) block_fold.sm) block_end.sm)
def block_Read.N0 (s : ByteArray) (g : BHd) (l : List Ln) (k : Nat) (m : Int) (e n : Int) (j : Nat) (vs : List Value) (h : Heap) : Prop := vs = [.slice (some ⟨3, 0, none⟩) k k, .int .i64 e, .int .i64 n, .slice (some ⟨2, 0, none⟩) k k, .int .i64 k, .int .i64 j] ∧ h = lit [fltB, hdT g, lnsT l, rwsB ((l.take k).map (toldR s m))]
def block_Read.sp0 : LSpec := ⟨block_Read.cs0, block_Read.ts0, fun vs h K => ∃ (s : ByteArray) (g : BHd) (l : List Ln) (k : Nat) (m : Int) (e n : Int) (j : Nat), (h.n = 4 ∧ In 4 (block_Read.N0 s g l k m e n j) vs h ∧ (j ≤ k ∧ k ≤ l.length ∧ l.length ≤ 900000)) ∧ (∀ x : Int, K (.exit 0) [.slice (some ⟨3, 0, none⟩) k k, .int .i64 (lstE s m e ((l.take k).drop j)), .int .i64 (nxtE n ((l.take k).drop j)), .slice (some ⟨2, 0, none⟩) k k, .int .i64 k, .int .i64 x] (lit [fltB, hdT g, lnsT l, rwsB ((l.take k).map (toldR s m))]))⟩
theorem block_Read.spm0 : LSpecMono block_Read.sp0 := by
  rintro vs h K K' hk ⟨s, g, l, k, m, e, n, j, h3, h4⟩
  exact ⟨s, g, l, k, m, e, n, j, h3, fun x => hk _ _ _ (h4 x)⟩
theorem block_Read.t0 (s : ByteArray) (g : BHd) (l : List Ln) (k : Nat) (m : Int) (e n : Int) (j : Nat) (E : Env) (N : List Value → Heap → Prop) (K : LK) : mwp KI (lt0) block_Read.l0 (lK block_Read.cs0 N K) (zipE block_Read.cs0 [.slice (some ⟨3, 0, none⟩) k k, .int .i64 e, .int .i64 n, .slice (some ⟨2, 0, none⟩) k k, .int .i64 k, .int .i64 j] ++ E) (lit [fltB, hdT g, lnsT l, rwsB ((l.take k).map (toldR s m))]) = (br (decide ((↑j : Int) < (↑k : Int))) (((0 : Int) ≤ (↑j : Int) ∧ (↑j : Int) < (↑k : Int)) ∧ ∃ (z : Int), ∃ (z_1 : Int), ∃ (z_2 : Int), List.take (3 : Nat) (List.drop ((0 : Nat) + (↑j : Int).toNat * (3 : Nat)) (lnsC l)) = [Value.int IntKind.i64 z, Value.int IntKind.i64 z_1, Value.int IntKind.i64 z_2] ∧ ((0 : Int) ≤ (↑j : Int) ∧ (↑j : Int) < (↑k : Int)) ∧ ∃ (s_1 : ByteArray), List.take (1 : Nat) (List.drop ((0 : Nat) + (↑j : Int).toNat * (2 : Nat) + (0 : Nat)) (rwsC (List.map (toldR s m) (List.take k l)))) = [Value.string s_1] ∧ br (!decide (s_1 = ByteArray.mk #[])) (rng IntKind.i64 ((↑j : Int) + (1 : Int)) ∧ N [Value.slice (some (Addr.mk (3 : Nat) (0 : Nat) none)) k k, Value.int IntKind.i64 z_1, Value.int IntKind.i64 z_2, Value.slice (some (Addr.mk (2 : Nat) (0 : Nat) none)) k k, Value.int IntKind.i64 (↑k : Int), Value.int IntKind.i64 ((↑j : Int) + (1 : Int))] (Heap.mk (5 : Nat) [fltB, hdT g, lnsT l, rwsB (List.map (toldR s m) (List.take k l)), some (Blk.mk (51 : Nat) (3 : Nat) ([] ++ [Value.int IntKind.i64 z, Value.int IntKind.i64 z_1, Value.int IntKind.i64 z_2] ++ []) true)])) (rng IntKind.i64 ((↑j : Int) + (1 : Int)) ∧ N [Value.slice (some (Addr.mk (3 : Nat) (0 : Nat) none)) k k, Value.int IntKind.i64 e, Value.int IntKind.i64 z_2, Value.slice (some (Addr.mk (2 : Nat) (0 : Nat) none)) k k, Value.int IntKind.i64 (↑k : Int), Value.int IntKind.i64 ((↑j : Int) + (1 : Int))] (Heap.mk (5 : Nat) [fltB, hdT g, lnsT l, rwsB (List.map (toldR s m) (List.take k l)), some (Blk.mk (51 : Nat) (3 : Nat) ([] ++ [Value.int IntKind.i64 z, Value.int IntKind.i64 z_1, Value.int IntKind.i64 z_2] ++ []) true)]))) (K (Exit.exit (0 : Nat)) [Value.slice (some (Addr.mk (3 : Nat) (0 : Nat) none)) k k, Value.int IntKind.i64 e, Value.int IntKind.i64 n, Value.slice (some (Addr.mk (2 : Nat) (0 : Nat) none)) k k, Value.int IntKind.i64 (↑k : Int), Value.int IntKind.i64 (↑j : Int)] (Heap.mk (4 : Nat) [fltB, hdT g, lnsT l, rwsB (List.map (toldR s m) (List.take k l))]))) := by kernel_rfl
theorem block_Read.lo0 : LOk1 Tryd.prog block_Read.nt block_Read.sp0 (.loop 0 block_Read.l0) := by
  refine loop_resC (σ := ByteArray × BHd × (List Ln) × Nat × Int × Int × Int × Nat) KI_ok KI_mono (lt0_mono) (LS := lt0) (by simp only [block_Read.l0, LOk, and_true, true_and]) rfl rfl (fun ⟨s, g, l, k, m, e, n, j⟩ => [.slice (some ⟨3, 0, none⟩) k k, .int .i64 e, .int .i64 n, .slice (some ⟨2, 0, none⟩) k k, .int .i64 k, .int .i64 j]) (fun ⟨s, g, l, k, m, e, n, j⟩ => lit [fltB, hdT g, lnsT l, rwsB ((l.take k).map (toldR s m))]) (fun ⟨s, g, l, k, m, e, n, j⟩ => j ≤ k ∧ k ≤ l.length ∧ l.length ≤ 900000) (fun ⟨s, g, l, k, m, e, n, j⟩ => k - j) 4 (fun ⟨s, g, l, k, m, e, n, j⟩ K => ∀ x : Int, K (.exit 0) [.slice (some ⟨3, 0, none⟩) k k, .int .i64 (lstE s m e ((l.take k).drop j)), .int .i64 (nxtE n ((l.take k).drop j)), .slice (some ⟨2, 0, none⟩) k k, .int .i64 k, .int .i64 x] (lit [fltB, hdT g, lnsT l, rwsB ((l.take k).map (toldR s m))])) ?_ ?_
  · rintro vs h K ⟨s, g, l, k, m, e, n, j, ⟨h1, h2, h3⟩, h4⟩
    exact ⟨h1, ⟨s, g, l, k, m, e, n, j⟩, h2, h3, h4⟩
  rintro ⟨s, g, l, k, m, e, n, j⟩ E N K hE hp hN hK
  dsimp only at hp hN hK
  refine Eq.mpr (block_Read.t0 s g l k m e n j E N (fun x => In 4 (K x))) ?_
  obtain ⟨h1, h2, h3⟩ := hp
  have hlt : (l.take k).length = k := by rw [List.length_take]; omega
  have hlm : ((l.take k).map (toldR s m)).length = k := by rw [List.length_map, hlt]
  have rws : ∀ (e n j' : Int) (b : Option Blk), In 4 (fun vs h => vs = [.slice (some ⟨3, 0, none⟩) k k, .int .i64 e, .int .i64 n, .slice (some ⟨2, 0, none⟩) k k, .int .i64 k, .int .i64 j'] ∧ h = lit [fltB, hdT g, lnsT l, rwsB ((l.take k).map (toldR s m))]) [.slice (some ⟨3, 0, none⟩) k k, .int .i64 e, .int .i64 n, .slice (some ⟨2, 0, none⟩) k k, .int .i64 k, .int .i64 j'] (Heap.mk 5 [fltB, hdT g, lnsT l, rwsB ((l.take k).map (toldR s m)), b]) := fun e n j' b => by
    refine In.rows [some 0, some 1, some 2, some 3] ⟨⟨rfl, rfl, rfl⟩, ⟨rfl, rfl, rfl⟩, ⟨rfl, okF_all (lnsC_flat _), ?_⟩, ⟨rfl, okF_all (rwsC_flat _), ?_⟩, trivial⟩ rfl rfl rfl ?_ ?_
    · rw [map_ren_flat (lnsC_flat _)]; rfl
    · rw [map_ren_flat (rwsC_flat _)]; rfl
    · simp [renT, renA, ren]
    · simp [okT, okA, okF, flatV]
  refine br_intro (fun hb => ?_) (fun hb => ?_)
  · simp only [decide_eq_true_eq] at hb
    have hj : j < (l.take k).length := by omega
    have hj2 : j < l.length := by omega
    have hj3 : j < ((l.take k).map (toldR s m)).length := by omega
    have ej : ((j + 1 : Nat) : Int) = (j : Int) + 1 := by omega
    have ec : (j : Int).toNat = j := rfl
    have eg : (l.take k)[j] = l[j] := by rw [List.getElem_take]
    have eg2 : ((l.take k).map (toldR s m))[j] = toldR s m l[j] := by rw [List.getElem_map, eg]
    have hr := rwsC_get hj3
    rw [eg2] at hr
    have hr1 : List.take 1 (List.drop (0 + (j : Int).toNat * 2 + 0) (rwsC ((l.take k).map (toldR s m)))) = [.string (strOf (toldR s m l[j]).t)] := by
      rw [ec, Nat.add_zero]
      have := congrArg (List.take 1) hr
      rw [List.take_take] at this
      exact this
    rw [List.drop_eq_getElem_cons hj, lstE, nxtE, eg] at hK
    refine ⟨⟨by omega, by omega⟩, l[j].a, l[j].e, l[j].n, by rw [ec]; exact lnsC_get hj2, ⟨by omega, by omega⟩, strOf (toldR s m l[j]).t, hr1, ?_⟩
    rw [strOf_nil]
    by_cases hx : (toldR s m l[j]).t = []
    · rw [if_pos hx] at hK
      rw [decide_eq_true hx]
      refine ⟨by simp only [rng]; omega, hN (s, g, l, k, m, e, l[j].n, j + 1) _ _ ⟨by dsimp only; omega, h2, h3⟩ (by dsimp only; omega) hK ?_⟩
      dsimp only; rw [ej]; exact rws _ _ _ _
    · rw [if_neg hx] at hK
      rw [decide_eq_false hx]
      refine ⟨by simp only [rng]; omega, hN (s, g, l, k, m, l[j].e, l[j].n, j + 1) _ _ ⟨by dsimp only; omega, h2, h3⟩ (by dsimp only; omega) hK ?_⟩
      dsimp only; rw [ej]; exact rws _ _ _ _
  · simp only [decide_eq_false_iff_not] at hb
    have e0 : (l.take k).drop j = [] := List.drop_eq_nil_of_le (by omega)
    rw [e0] at hK
    exact .inl (hK _)


/-! ### Sizes -/
theorem sgnF_d (s : ByteArray) : ∀ (k : Nat) (i d c : Int), 0 ≤ d → d ≤ 9 → 0 ≤ (sgnF s k i d c).2.1 ∧ (sgnF s k i d c).2.1 ≤ 9
  | 0, i, d, c, h, h' => ⟨h, h'⟩
  | k + 1, i, d, c, h, h' => by
    rw [sgnF]
    split
    · exact ⟨h, h'⟩
    · split
      · exact sgnF_d s k _ _ _ (by omega) (by omega)
      · split
        · exact sgnF_d s k _ _ _ h h'
        · exact ⟨h, h'⟩
theorem bgI_bd {v : Int} {s : ByteArray} {i : Int} (h : (bgI v s i).ok = true) : 0 ≤ i ∧ i < s.size ∧ 0 ≤ (bgI v s i).d ∧ (bgI v s i).d ≤ 9 ∧ 0 ≤ (bgI v s i).n ∧ (bgI v s i).n ≤ s.size := by
  unfold bgI at h ⊢
  split at h
  · exact absurd h (by decide)
  · rename_i hc
    rw [if_neg hc]
    have h0 : 0 ≤ i := by omega
    have h1 : i < s.size := by omega
    have hd := sgnF_d s 2 (i + 1) 0 0 (by omega) (by omega)
    have hok := sgnF_ok s 2 (i + 1) 0 0 (by omega)
    have ho1 := overI_ge s (sgnF s 2 (i + 1) 0 0).1
    have ho2 := overI_le s (sgnF s 2 (i + 1) 0 0).1 hok.2
    have he1 := endI_ge v s (overI s (sgnF s 2 (i + 1) 0 0).1)
    have he2 := endI_le v (s := s) (i := overI s (sgnF s 2 (i + 1) 0 0).1) (by omega) ho2
    have hb1 := brkI_nn v s (endI v s (overI s (sgnF s 2 (i + 1) 0 0).1))
    have hb2 := brkI_len v (s := s) (i := endI v s (overI s (sgnF s 2 (i + 1) 0 0).1)) (by omega) he2
    dsimp only
    exact ⟨h0, h1, hd.1, hd.2, by omega, by omega⟩
theorem aftF_ln (v : Int) (s : ByteArray) : ∀ (k : Nat) (i : Int), 0 ≤ i → ∀ x ∈ aftF v s k i, lnOk s x
  | 0, i, h0, x, hx => by cases hx
  | k + 1, i, h0, x, hx => by
    rw [aftF] at hx
    split at hx
    · cases hx
    · rename_i hc
      have he1 := endI_ge v s i
      have he2 := endI_le v (s := s) (i := i) h0 (by omega)
      have hb1 := brkI_nn v s (endI v s i)
      have hb2 := brkI_len v (s := s) (i := endI v s i) (by omega) he2
      rcases List.mem_cons.1 hx with rfl | hx
      · exact ⟨h0, he1, by dsimp only; omega, by dsimp only; omega⟩
      · exact aftF_ln v s k _ (by omega) x hx
theorem aftF_len (v : Int) (s : ByteArray) : ∀ (k : Nat) (i : Int), 0 ≤ i → i ≤ s.size → ((aftF v s k i).length : Int) ≤ s.size - i
  | 0, i, h0, h1 => by rw [aftF]; simp; omega
  | k + 1, i, h0, h1 => by
    rw [aftF]
    split
    · simp; omega
    · rename_i hc
      have he2 := endI_le v (s := s) (i := i) h0 (by omega)
      have he1 := endI_ge v s i
      have hb2 := brkI_len v (s := s) (i := endI v s i) (by omega) he2
      have hg := nxt_gt (v := v) h0 (by omega : i < s.size)
      have := aftF_len v s k _ (by omega) hb2
      rw [List.length_cons]
      omega
def cst : List Rw → Nat
  | [] => 0
  | x :: l => x.t.length + 1 + cst l
theorem cst_drop : ∀ (n : Nat) (l : List Rw), cst (l.drop n) ≤ cst l
  | 0, l => Nat.le_refl _
  | n + 1, [] => Nat.le_refl _
  | n + 1, x :: l => by rw [List.drop_succ_cons, cst]; have := cst_drop n l; omega
theorem cst_clr : ∀ (l : List Rw) (q : Nat) (b : Bool), cst (l.set q ⟨[], b⟩) ≤ cst l
  | [], q, b => by rw [List.set_nil]; exact Nat.le_refl _
  | x :: l, 0, b => by rw [List.set_cons_zero, cst, cst]; simp
  | x :: l, q + 1, b => by rw [List.set_cons_succ, cst, cst]; have := cst_clr l q b; omega
theorem cst_len : ∀ l : List Rw, l.length ≤ cst l
  | [] => Nat.le_refl _
  | x :: l => by rw [cst, List.length_cons]; have := cst_len l; omega
theorem plnL_cst : ∀ l : List Rw, (plnL l).length ≤ cst l
  | [] => Nat.le_refl _
  | x :: l => by
    rw [cst, plnL, List.length_append, List.length_append]
    have := plnL_cst l
    split <;> simp <;> omega
theorem foldedL_len (n : Nat) : (foldedL ((n : Int) + 1)).length ≤ n + 1 := by
  unfold foldedL
  split
  · simp
  · rw [List.length_replicate]; omega
theorem fld_cst : ∀ (l : List Rw) (p : Option (List UInt8)) (n : Nat), (fld p n l).length ≤ n + 2 * cst l
  | [], p, n => by rw [fld_nil]; simp
  | x :: l, p, n => by
    rw [fld_cons, cst]
    split
    · rename_i e
      have := fld_cst l p (n + 1)
      omega
    · have := fld_cst l (some x.t) 0
      have h2 := foldedL_len n
      simp only [List.length_append]
      cases p with
      | none => simp only [List.length_replicate]; omega
      | some q =>
        dsimp only
        split
        · rw [List.length_replicate]; omega
        · omega
theorem foldX_cst (X : List Rw) : cst (foldX X) ≤ cst X := by
  unfold foldX clr
  split
  · exact Nat.le_refl _
  · exact cst_clr _ _ _
theorem foldT_cst (X : List Rw) : (foldT X).length ≤ 3 * cst X := by
  unfold foldT
  have h1 := plnL_cst X
  have h2 := fld_cst X none 0
  have h3 := plnL_cst ((foldX X).drop (lastI X).toNat)
  have h4 := cst_drop (lastI X).toNat (foldX X)
  have h5 := foldX_cst X
  split
  · omega
  · rw [List.length_append]; omega
theorem told_cst (v : Int) (s : ByteArray) (m : Int) : ∀ (k : Nat) (i : Int) (j : Nat), 0 ≤ i → i ≤ s.size → (cst (((aftF v s k i).take j).map (toldR s m)) : Int) ≤ 2 * (s.size - i)
  | 0, i, j, h0, h1 => by rw [aftF]; simp [cst]; omega
  | k + 1, i, 0, h0, h1 => by rw [List.take_zero]; simp [cst]; omega
  | k + 1, i, j + 1, h0, h1 => by
    rw [aftF]
    split
    · rw [List.take_nil]; simp [cst]; omega
    · rename_i hc
      have he2 := endI_le v (s := s) (i := i) h0 (by omega)
      have he1 := endI_ge v s i
      have hb1 := brkI_nn v s (endI v s i)
      have hb2 := brkI_len v (s := s) (i := endI v s i) (by omega) he2
      have hg := nxt_gt (v := v) h0 (by omega : i < s.size)
      have ih := told_cst v s m k (endI v s i + brkI v s (endI v s i)) j (by omega) hb2
      rw [List.take_succ_cons, List.map_cons, cst]
      have ht : ((toldR s m ⟨i, endI v s i, endI v s i + brkI v s (endI v s i)⟩).t.length : Int) ≤ endI v s i - i := by
        unfold toldR
        dsimp only
        split
        · simp; omega
        · unfold cutL
          rw [List.length_take]
          omega
      omega
theorem bndI_bd (s : ByteArray) (l : List Ln) (p : Int) : -1 ≤ (bndI s l p).1 ∧ (bndI s l p).1 ≤ s.size := by
  have hi : ∀ a e n : Int, 0 ≤ indI s a e n ∧ indI s a e n ≤ s.size := fun a e n => by
    unfold indI
    have h1 := spc_le (saysL s a e n)
    have h2 := saysL_len s a e n
    omega
  unfold bndI
  split
  · dsimp only; omega
  · split
    · dsimp only; omega
    · split
      · dsimp only; omega
      · exact ⟨Int.le_trans (by decide) (hi _ _ _).1, (hi _ _ _).2⟩

/-! ### Read -/
def rdL (v : Int) (s : ByteArray) (i : Int) : List Ln := aftI v s (bgI v s i).n
/-- The column of a text, and where a line stands that is wrong (or -1). -/
def rdM (v : Int) (s : ByteArray) (i p : Int) : Int × Int := if (bgI v s i).d = 0 then bndI s (rdL v s i) p else ((bgI v s i).d + min (max p 0) s.size, -1)
/-- The lines of a text. -/
def rdK (v : Int) (s : ByteArray) (i p : Int) : List Ln := (rdL v s i).take (mineN s (rdM v s i p).1 (rdL v s i))
def rdR (v : Int) (s : ByteArray) (i p : Int) : List Rw := (rdK v s i p).map (toldR s (rdM v s i p).1)
def rdT (v : Int) (s : ByteArray) (i p : Int) : List UInt8 := if (bgI v s i).f = true then foldT (rdR v s i p) else plnL (rdR v s i p)
/-- What block.Read tells: what is wrong and where, or the text, its last byte, the next. -/
def rdI (v : Int) (s : ByteArray) (i p : Int) : Except (Int × Int) (List UInt8 × Int × Int) :=
  if (bgI v s i).ok = false then .error (11, i)
  else if 0 ≤ (rdM v s i p).2 then .error (12, (rdM v s i p).2)
  else .ok (endL (rdT v s i p) (bgI v s i).c, lstE s (rdM v s i p).1 (bgI v s i).e (rdK v s i p), nxtE (bgI v s i).n (rdK v s i p))
def rdT' : Except (Int × Int) (List UInt8 × Int × Int) → List UInt8
  | .ok (t, _, _) => t
  | .error _ => []
def rdE' : Except (Int × Int) (List UInt8 × Int × Int) → Int
  | .ok (_, e, _) => e
  | .error _ => 0
def rdN' : Except (Int × Int) (List UInt8 × Int × Int) → Int
  | .ok (_, _, n) => n
  | .error _ => 0
def rdC' : Except (Int × Int) (List UInt8 × Int × Int) → Int
  | .ok _ => 0
  | .error (c, _) => c
def rdO' : Except (Int × Int) (List UInt8 × Int × Int) → Int
  | .ok _ => 0
  | .error (_, o) => o
def block_Read.LS : LT := (extL lt0 0 block_Read.sp0)
theorem block_Read.LS_mono : LMono block_Read.LS := (extL_mono lt0_mono block_Read.spm0)
def block_Read.s : List Value → Heap → VK → Prop
  | [.int .i64 v, .string s, .int .i64 i, .int .i64 p], h, K => (s.size ≤ 100000 ∧ -10000000 ≤ i ∧ i ≤ 10000000 ∧ -1 ≤ p ∧ p ≤ 1000000) ∧ K (.tuple #[.string (strOf (rdT' (rdI v s i p))), .int .i64 (rdE' (rdI v s i p)), .int .i64 (rdN' (rdI v s i p)), .agg #[.int .i64 (rdC' (rdI v s i p)), .int .i64 (rdO' (rdI v s i p))]]) h
  | _, _, _ => False
theorem block_Read.t (v : Int) (s : ByteArray) (i p : Int) (K : VK) : mwp KI (block_Read.LS) block_Read.m (retK [.t 8, .t 9, .t 10, .v 11 (some 2)] K) (argE 0 [.int .i64 v, .string s, .int .i64 i, .int .i64 p]) (lit []) = (s.size ≤ (1000000 : Nat) ∧ br (!(bgI v s i).ok) (K (Value.tuple #[Value.string (ByteArray.mk #[]), Value.int IntKind.i64 (0 : Int), Value.int IntKind.i64 (0 : Int), Value.agg #[Value.int IntKind.i64 (11 : Int), Value.int IntKind.i64 i]]) (Heap.mk (2 : Nat) [some (Blk.mk (30 : Nat) (2 : Nat) ([] ++ [Value.int IntKind.i64 (11 : Int), Value.int IntKind.i64 i] ++ []) true), some (Blk.mk (56 : Nat) (6 : Nat) ([] ++ [Value.bool (bgI v s i).f, Value.int IntKind.i64 (bgI v s i).d, Value.int IntKind.u8 (bgI v s i).c, Value.int IntKind.i64 (bgI v s i).a, Value.int IntKind.i64 (bgI v s i).e, Value.int IntKind.i64 (bgI v s i).n] ++ []) true)])) ((s.size ≤ (1000000 : Nat) ∧ (0 : Int) ≤ (bgI v s i).n ∧ (bgI v s i).n ≤ (↑s.size : Int)) ∧ rng IntKind.i64 ((bgI v s i).d + min (max p (0 : Int)) (↑s.size : Int)) ∧ br (decide ((bgI v s i).d = (0 : Int))) (∃ (l : List Ln), ∃ (o : Bool), Nat.blt (2 : Nat) ((2 : Nat) + (List.map (renB (sh (2 : Nat))) [Blk.mk (51 : TypeId) (3 : Nat) (lnsC (aftI v s (bgI v s i).n)) true]).length) = true ∧ mrow (Heap.mk ((2 : Nat) + (List.map (renB (sh (2 : Nat))) [Blk.mk (51 : TypeId) (3 : Nat) (lnsC (aftI v s (bgI v s i).n)) true]).length) [some (Blk.mk (30 : Nat) (2 : Nat) [Value.int IntKind.i64 (0 : Int), Value.int IntKind.i64 (0 : Int)] true), some (Blk.mk (56 : Nat) (6 : Nat) ([] ++ [Value.bool (bgI v s i).f, Value.int IntKind.i64 (bgI v s i).d, Value.int IntKind.u8 (bgI v s i).c, Value.int IntKind.i64 (bgI v s i).a, Value.int IntKind.i64 (bgI v s i).e, Value.int IntKind.i64 (bgI v s i).n] ++ []) true), some (Blk.mk (51 : TypeId) (3 : Nat) (List.map (ren (sh (2 : Nat))) (lnsC (aftI v s (bgI v s i).n))) true)]).l (2 : Nat) = some (Blk.mk (51 : TypeId) (3 : Nat) (lnsC l) o) ∧ [Value.string s, Value.slice (some (Addr.mk (2 : Nat) (0 : Nat) none)) (aftI v s (bgI v s i).n).length (aftI v s (bgI v s i).n).length, Value.int IntKind.i64 p] = List.map (renT fun (j : Nat) => [some (2 : Nat)].getD j none) [Value.string s, Value.slice (some (Addr.mk (0 : Nat) (0 : Nat) none)) l.length l.length, Value.int IntKind.i64 p] ∧ (s.size ≤ (1000000 : Nat) ∧ (∀ (x : Ln), x ∈ l → lnOk s x) ∧ l.length ≤ (1000000 : Nat)) ∧ br (decide ((0 : Int) ≤ (bndI s l p).snd)) (K (Value.tuple #[Value.string (ByteArray.mk #[]), Value.int IntKind.i64 (0 : Int), Value.int IntKind.i64 (0 : Int), Value.agg #[Value.int IntKind.i64 (12 : Int), Value.int IntKind.i64 (bndI s l p).snd]]) (Heap.mk ((2 : Nat) + (List.map (renB (sh (2 : Nat))) [Blk.mk (51 : TypeId) (3 : Nat) (lnsC (aftI v s (bgI v s i).n)) true]).length + (List.map (renB (tgt [some (2 : Nat)] ((2 : Nat) + (List.map (renB (sh (2 : Nat))) [Blk.mk (51 : TypeId) (3 : Nat) (lnsC (aftI v s (bgI v s i).n)) true]).length) (1 : Nat))) []).length) [some (Blk.mk (30 : Nat) (2 : Nat) ([] ++ [Value.int IntKind.i64 (12 : Int), Value.int IntKind.i64 (bndI s l p).snd] ++ []) true), some (Blk.mk (56 : Nat) (6 : Nat) ([] ++ [Value.bool (bgI v s i).f, Value.int IntKind.i64 (bgI v s i).d, Value.int IntKind.u8 (bgI v s i).c, Value.int IntKind.i64 (bgI v s i).a, Value.int IntKind.i64 (bgI v s i).e, Value.int IntKind.i64 (bgI v s i).n] ++ []) true), some (Blk.mk (51 : TypeId) (3 : Nat) (List.map (ren (sh (2 : Nat))) (lnsC (aftI v s (bgI v s i).n))) true)])) (∃ (l_1 : List Ln), ∃ (o : Bool), Nat.blt (2 : Nat) ((2 : Nat) + (List.map (renB (sh (2 : Nat))) [Blk.mk (51 : TypeId) (3 : Nat) (lnsC (aftI v s (bgI v s i).n)) true]).length + (List.map (renB (tgt [some (2 : Nat)] ((2 : Nat) + (List.map (renB (sh (2 : Nat))) [Blk.mk (51 : TypeId) (3 : Nat) (lnsC (aftI v s (bgI v s i).n)) true]).length) (1 : Nat))) []).length) = true ∧ mrow (Heap.mk ((2 : Nat) + (List.map (renB (sh (2 : Nat))) [Blk.mk (51 : TypeId) (3 : Nat) (lnsC (aftI v s (bgI v s i).n)) true]).length + (List.map (renB (tgt [some (2 : Nat)] ((2 : Nat) + (List.map (renB (sh (2 : Nat))) [Blk.mk (51 : TypeId) (3 : Nat) (lnsC (aftI v s (bgI v s i).n)) true]).length) (1 : Nat))) []).length) [some (Blk.mk (30 : Nat) (2 : Nat) [Value.int IntKind.i64 (0 : Int), Value.int IntKind.i64 (0 : Int)] true), some (Blk.mk (56 : Nat) (6 : Nat) ([] ++ [Value.bool (bgI v s i).f, Value.int IntKind.i64 (bgI v s i).d, Value.int IntKind.u8 (bgI v s i).c, Value.int IntKind.i64 (bgI v s i).a, Value.int IntKind.i64 (bgI v s i).e, Value.int IntKind.i64 (bgI v s i).n] ++ []) true), some (Blk.mk (51 : TypeId) (3 : Nat) (List.map (ren (sh (2 : Nat))) (lnsC (aftI v s (bgI v s i).n))) true)]).l (2 : Nat) = some (Blk.mk (51 : TypeId) (3 : Nat) (lnsC l_1) o) ∧ [Value.string s, Value.slice (some (Addr.mk (2 : Nat) (0 : Nat) none)) (aftI v s (bgI v s i).n).length (aftI v s (bgI v s i).n).length, Value.int IntKind.i64 (bndI s l p).fst] = List.map (renT fun (j : Nat) => [some (2 : Nat)].getD j none) [Value.string s, Value.slice (some (Addr.mk (0 : Nat) (0 : Nat) none)) l_1.length l_1.length, Value.int IntKind.i64 (bndI s l p).fst] ∧ (s.size ≤ (1000000 : Nat) ∧ (∀ (x : Ln), x ∈ l_1 → lnOk s x) ∧ l_1.length ≤ (1000000 : Nat)) ∧ ∃ (l_2 : List Ln), ∃ (k : Nat), ∃ (o : Bool), Nat.blt (2 : Nat) ((2 : Nat) + (List.map (renB (sh (2 : Nat))) [Blk.mk (51 : TypeId) (3 : Nat) (lnsC (aftI v s (bgI v s i).n)) true]).length + (List.map (renB (tgt [some (2 : Nat)] ((2 : Nat) + (List.map (renB (sh (2 : Nat))) [Blk.mk (51 : TypeId) (3 : Nat) (lnsC (aftI v s (bgI v s i).n)) true]).length) (1 : Nat))) []).length + (List.map (renB (tgt [some (2 : Nat)] ((2 : Nat) + (List.map (renB (sh (2 : Nat))) [Blk.mk (51 : TypeId) (3 : Nat) (lnsC (aftI v s (bgI v s i).n)) true]).length + (List.map (renB (tgt [some (2 : Nat)] ((2 : Nat) + (List.map (renB (sh (2 : Nat))) [Blk.mk (51 : TypeId) (3 : Nat) (lnsC (aftI v s (bgI v s i).n)) true]).length) (1 : Nat))) []).length) (1 : Nat))) []).length) = true ∧ mrow (Heap.mk ((2 : Nat) + (List.map (renB (sh (2 : Nat))) [Blk.mk (51 : TypeId) (3 : Nat) (lnsC (aftI v s (bgI v s i).n)) true]).length + (List.map (renB (tgt [some (2 : Nat)] ((2 : Nat) + (List.map (renB (sh (2 : Nat))) [Blk.mk (51 : TypeId) (3 : Nat) (lnsC (aftI v s (bgI v s i).n)) true]).length) (1 : Nat))) []).length + (List.map (renB (tgt [some (2 : Nat)] ((2 : Nat) + (List.map (renB (sh (2 : Nat))) [Blk.mk (51 : TypeId) (3 : Nat) (lnsC (aftI v s (bgI v s i).n)) true]).length + (List.map (renB (tgt [some (2 : Nat)] ((2 : Nat) + (List.map (renB (sh (2 : Nat))) [Blk.mk (51 : TypeId) (3 : Nat) (lnsC (aftI v s (bgI v s i).n)) true]).length) (1 : Nat))) []).length) (1 : Nat))) []).length) [some (Blk.mk (30 : Nat) (2 : Nat) [Value.int IntKind.i64 (0 : Int), Value.int IntKind.i64 (0 : Int)] true), some (Blk.mk (56 : Nat) (6 : Nat) ([] ++ [Value.bool (bgI v s i).f, Value.int IntKind.i64 (bgI v s i).d, Value.int IntKind.u8 (bgI v s i).c, Value.int IntKind.i64 (bgI v s i).a, Value.int IntKind.i64 (bgI v s i).e, Value.int IntKind.i64 (bgI v s i).n] ++ []) true), some (Blk.mk (51 : TypeId) (3 : Nat) (List.map (ren (sh (2 : Nat))) (lnsC (aftI v s (bgI v s i).n))) true)]).l (2 : Nat) = some (Blk.mk (51 : TypeId) (3 : Nat) (lnsC l_2) o) ∧ [Value.string s, Value.slice (some (Addr.mk (2 : Nat) (0 : Nat) none)) (mineN s (bndI s l p).fst l_1) (mineN s (bndI s l p).fst l_1), Value.int IntKind.i64 (bndI s l p).fst] = List.map (renT fun (j : Nat) => [some (2 : Nat)].getD j none) [Value.string s, Value.slice (some (Addr.mk (0 : Nat) (0 : Nat) none)) k k, Value.int IntKind.i64 (bndI s l p).fst] ∧ (s.size ≤ (1000000 : Nat) ∧ (∀ (x : Ln), x ∈ l_2 → lnOk s x) ∧ k ≤ l_2.length ∧ l_2.length ≤ (900000 : Nat) ∧ (bndI s l p).fst ≤ (10000000 : Int)) ∧ ∃ (s_1 : ByteArray), ∃ (g : BHd), ∃ (l_3 : List Ln), ∃ (k_1 : Nat), ∃ (m : Int), ∃ (e : Int), ∃ (n : Int), ∃ (j : Nat), ((2 : Nat) + (List.map (renB (sh (2 : Nat))) [Blk.mk (51 : TypeId) (3 : Nat) (lnsC (aftI v s (bgI v s i).n)) true]).length + (List.map (renB (tgt [some (2 : Nat)] ((2 : Nat) + (List.map (renB (sh (2 : Nat))) [Blk.mk (51 : TypeId) (3 : Nat) (lnsC (aftI v s (bgI v s i).n)) true]).length) (1 : Nat))) []).length + (List.map (renB (tgt [some (2 : Nat)] ((2 : Nat) + (List.map (renB (sh (2 : Nat))) [Blk.mk (51 : TypeId) (3 : Nat) (lnsC (aftI v s (bgI v s i).n)) true]).length + (List.map (renB (tgt [some (2 : Nat)] ((2 : Nat) + (List.map (renB (sh (2 : Nat))) [Blk.mk (51 : TypeId) (3 : Nat) (lnsC (aftI v s (bgI v s i).n)) true]).length) (1 : Nat))) []).length) (1 : Nat))) []).length + (List.map (renB (tgt [some (2 : Nat)] ((2 : Nat) + (List.map (renB (sh (2 : Nat))) [Blk.mk (51 : TypeId) (3 : Nat) (lnsC (aftI v s (bgI v s i).n)) true]).length + (List.map (renB (tgt [some (2 : Nat)] ((2 : Nat) + (List.map (renB (sh (2 : Nat))) [Blk.mk (51 : TypeId) (3 : Nat) (lnsC (aftI v s (bgI v s i).n)) true]).length) (1 : Nat))) []).length + (List.map (renB (tgt [some (2 : Nat)] ((2 : Nat) + (List.map (renB (sh (2 : Nat))) [Blk.mk (51 : TypeId) (3 : Nat) (lnsC (aftI v s (bgI v s i).n)) true]).length + (List.map (renB (tgt [some (2 : Nat)] ((2 : Nat) + (List.map (renB (sh (2 : Nat))) [Blk.mk (51 : TypeId) (3 : Nat) (lnsC (aftI v s (bgI v s i).n)) true]).length) (1 : Nat))) []).length) (1 : Nat))) []).length) (1 : Nat))) [Blk.mk TRw (2 : Nat) (rwsC (List.map (toldR s (bndI s l p).fst) (List.take k l_2))) true]).length = (4 : Nat) ∧ In (4 : Nat) (block_Read.N0 s_1 g l_3 k_1 m e n j) [Value.slice (some (Addr.mk ((2 : Nat) + (List.map (renB (sh (2 : Nat))) [Blk.mk (51 : TypeId) (3 : Nat) (lnsC (aftI v s (bgI v s i).n)) true]).length + (List.map (renB (tgt [some (2 : Nat)] ((2 : Nat) + (List.map (renB (sh (2 : Nat))) [Blk.mk (51 : TypeId) (3 : Nat) (lnsC (aftI v s (bgI v s i).n)) true]).length) (1 : Nat))) []).length + (List.map (renB (tgt [some (2 : Nat)] ((2 : Nat) + (List.map (renB (sh (2 : Nat))) [Blk.mk (51 : TypeId) (3 : Nat) (lnsC (aftI v s (bgI v s i).n)) true]).length + (List.map (renB (tgt [some (2 : Nat)] ((2 : Nat) + (List.map (renB (sh (2 : Nat))) [Blk.mk (51 : TypeId) (3 : Nat) (lnsC (aftI v s (bgI v s i).n)) true]).length) (1 : Nat))) []).length) (1 : Nat))) []).length + (0 : Nat)) (0 : Nat) none)) k k, Value.int IntKind.i64 (bgI v s i).e, Value.int IntKind.i64 (bgI v s i).n, Value.slice (some (Addr.mk (2 : Nat) (0 : Nat) none)) (mineN s (bndI s l p).fst l_1) (mineN s (bndI s l p).fst l_1), Value.int IntKind.i64 (↑(mineN s (bndI s l p).fst l_1) : Int), Value.int IntKind.i64 (0 : Int)] (Heap.mk ((2 : Nat) + (List.map (renB (sh (2 : Nat))) [Blk.mk (51 : TypeId) (3 : Nat) (lnsC (aftI v s (bgI v s i).n)) true]).length + (List.map (renB (tgt [some (2 : Nat)] ((2 : Nat) + (List.map (renB (sh (2 : Nat))) [Blk.mk (51 : TypeId) (3 : Nat) (lnsC (aftI v s (bgI v s i).n)) true]).length) (1 : Nat))) []).length + (List.map (renB (tgt [some (2 : Nat)] ((2 : Nat) + (List.map (renB (sh (2 : Nat))) [Blk.mk (51 : TypeId) (3 : Nat) (lnsC (aftI v s (bgI v s i).n)) true]).length + (List.map (renB (tgt [some (2 : Nat)] ((2 : Nat) + (List.map (renB (sh (2 : Nat))) [Blk.mk (51 : TypeId) (3 : Nat) (lnsC (aftI v s (bgI v s i).n)) true]).length) (1 : Nat))) []).length) (1 : Nat))) []).length + (List.map (renB (tgt [some (2 : Nat)] ((2 : Nat) + (List.map (renB (sh (2 : Nat))) [Blk.mk (51 : TypeId) (3 : Nat) (lnsC (aftI v s (bgI v s i).n)) true]).length + (List.map (renB (tgt [some (2 : Nat)] ((2 : Nat) + (List.map (renB (sh (2 : Nat))) [Blk.mk (51 : TypeId) (3 : Nat) (lnsC (aftI v s (bgI v s i).n)) true]).length) (1 : Nat))) []).length + (List.map (renB (tgt [some (2 : Nat)] ((2 : Nat) + (List.map (renB (sh (2 : Nat))) [Blk.mk (51 : TypeId) (3 : Nat) (lnsC (aftI v s (bgI v s i).n)) true]).length + (List.map (renB (tgt [some (2 : Nat)] ((2 : Nat) + (List.map (renB (sh (2 : Nat))) [Blk.mk (51 : TypeId) (3 : Nat) (lnsC (aftI v s (bgI v s i).n)) true]).length) (1 : Nat))) []).length) (1 : Nat))) []).length) (1 : Nat))) [Blk.mk TRw (2 : Nat) (rwsC (List.map (toldR s (bndI s l p).fst) (List.take k l_2))) true]).length) [some (Blk.mk (30 : Nat) (2 : Nat) [Value.int IntKind.i64 (0 : Int), Value.int IntKind.i64 (0 : Int)] true), some (Blk.mk (56 : Nat) (6 : Nat) ([] ++ [Value.bool (bgI v s i).f, Value.int IntKind.i64 (bgI v s i).d, Value.int IntKind.u8 (bgI v s i).c, Value.int IntKind.i64 (bgI v s i).a, Value.int IntKind.i64 (bgI v s i).e, Value.int IntKind.i64 (bgI v s i).n] ++ []) true), some (Blk.mk (51 : TypeId) (3 : Nat) (List.map (ren (sh (2 : Nat))) (lnsC (aftI v s (bgI v s i).n))) true), some (Blk.mk TRw (2 : Nat) (List.map (ren (tgt [some (2 : Nat)] ((2 : Nat) + (List.map (renB (sh (2 : Nat))) [Blk.mk (51 : TypeId) (3 : Nat) (lnsC (aftI v s (bgI v s i).n)) true]).length + (List.map (renB (tgt [some (2 : Nat)] ((2 : Nat) + (List.map (renB (sh (2 : Nat))) [Blk.mk (51 : TypeId) (3 : Nat) (lnsC (aftI v s (bgI v s i).n)) true]).length) (1 : Nat))) []).length + (List.map (renB (tgt [some (2 : Nat)] ((2 : Nat) + (List.map (renB (sh (2 : Nat))) [Blk.mk (51 : TypeId) (3 : Nat) (lnsC (aftI v s (bgI v s i).n)) true]).length + (List.map (renB (tgt [some (2 : Nat)] ((2 : Nat) + (List.map (renB (sh (2 : Nat))) [Blk.mk (51 : TypeId) (3 : Nat) (lnsC (aftI v s (bgI v s i).n)) true]).length) (1 : Nat))) []).length) (1 : Nat))) []).length) (1 : Nat))) (rwsC (List.map (toldR s (bndI s l p).fst) (List.take k l_2)))) true)]) ∧ j ≤ k_1 ∧ k_1 ≤ l_3.length ∧ l_3.length ≤ (900000 : Nat)) ∧ ∀ (x : Int), ∃ (X : List Rw), ∃ (q : Nat), ∃ (ρl : List (Option Nat)), [Value.slice (some (Addr.mk (3 : Nat) (0 : Nat) none)) k_1 k_1] = List.map (renT fun (j : Nat) => ρl.getD j none) [Value.slice (some (Addr.mk (0 : Nat) (q * (2 : Nat)) none)) (X.length - q) (X.length - q)] ∧ rowsSee (fun (j : Nat) => ρl.getD j none) (block_plain.H X q).length (Heap.mk (4 : Nat) [fltB, hdT g, lnsT l_3, rwsB (List.map (toldR s_1 m) (List.take k_1 l_3))]) (block_plain.H X q) ρl ∧ (q ≤ X.length ∧ X.length ≤ (900000 : Nat) ∧ (plnL (List.drop q X)).length ≤ (900000 : Nat)) ∧ br g.f (∃ (X : List Rw), Nat.blt (3 : Nat) (4 : Nat) = true ∧ mrow (Heap.mk (4 : Nat) [fltB, hdT g, lnsT l_3, rwsB (List.map (toldR s_1 m) (List.take k_1 l_3))]).l (3 : Nat) = some (Blk.mk TRw (2 : Nat) (rwsC X) true) ∧ [Value.slice (some (Addr.mk (3 : Nat) (0 : Nat) none)) k_1 k_1] = List.map (renT fun (j : Nat) => [some (3 : Nat)].getD j none) [Value.slice (some (Addr.mk (0 : Nat) (0 : Nat) none)) X.length X.length] ∧ (X.length ≤ (900000 : Nat) ∧ (plnL X).length ≤ (900000 : Nat) ∧ (fld none (0 : Nat) X).length ≤ (900000 : Nat) ∧ (plnL (List.drop (lastI X).toNat (foldX X))).length ≤ (900000 : Nat)) ∧ (strOf (foldT X)).size ≤ (1000000 : Nat) ∧ K (Value.tuple #[Value.string (strOf (endL (lst (strOf (foldT X))) g.c)), Value.int IntKind.i64 (lstE s_1 m e (List.drop j (List.take k_1 l_3))), Value.int IntKind.i64 (nxtE n (List.drop j (List.take k_1 l_3))), Value.agg #[Value.int IntKind.i64 (0 : Int), Value.int IntKind.i64 (0 : Int)]]) (Heap.mk (4 : Nat) [some (Blk.mk (30 : TypeId) (2 : Nat) ([] ++ [Value.int IntKind.i64 (0 : Int), Value.int IntKind.i64 (0 : Int)] ++ []) true), hdT g, lnsT l_3, some (Blk.mk TRw (2 : Nat) (rwsC (foldX X)) true)])) ((strOf (plnL (List.drop q X))).size ≤ (1000000 : Nat) ∧ K (Value.tuple #[Value.string (strOf (endL (lst (strOf (plnL (List.drop q X)))) g.c)), Value.int IntKind.i64 (lstE s_1 m e (List.drop j (List.take k_1 l_3))), Value.int IntKind.i64 (nxtE n (List.drop j (List.take k_1 l_3))), Value.agg #[Value.int IntKind.i64 (0 : Int), Value.int IntKind.i64 (0 : Int)]]) (Heap.mk (4 : Nat) [some (Blk.mk (30 : TypeId) (2 : Nat) ([] ++ [Value.int IntKind.i64 (0 : Int), Value.int IntKind.i64 (0 : Int)] ++ []) true), hdT g, lnsT l_3, rwsB (List.map (toldR s_1 m) (List.take k_1 l_3))])))) (∃ (l : List Ln), ∃ (o : Bool), Nat.blt (2 : Nat) ((2 : Nat) + (List.map (renB (sh (2 : Nat))) [Blk.mk (51 : TypeId) (3 : Nat) (lnsC (aftI v s (bgI v s i).n)) true]).length) = true ∧ mrow (Heap.mk ((2 : Nat) + (List.map (renB (sh (2 : Nat))) [Blk.mk (51 : TypeId) (3 : Nat) (lnsC (aftI v s (bgI v s i).n)) true]).length) [some (Blk.mk (30 : Nat) (2 : Nat) [Value.int IntKind.i64 (0 : Int), Value.int IntKind.i64 (0 : Int)] true), some (Blk.mk (56 : Nat) (6 : Nat) ([] ++ [Value.bool (bgI v s i).f, Value.int IntKind.i64 (bgI v s i).d, Value.int IntKind.u8 (bgI v s i).c, Value.int IntKind.i64 (bgI v s i).a, Value.int IntKind.i64 (bgI v s i).e, Value.int IntKind.i64 (bgI v s i).n] ++ []) true), some (Blk.mk (51 : TypeId) (3 : Nat) (List.map (ren (sh (2 : Nat))) (lnsC (aftI v s (bgI v s i).n))) true)]).l (2 : Nat) = some (Blk.mk (51 : TypeId) (3 : Nat) (lnsC l) o) ∧ [Value.string s, Value.slice (some (Addr.mk (2 : Nat) (0 : Nat) none)) (aftI v s (bgI v s i).n).length (aftI v s (bgI v s i).n).length, Value.int IntKind.i64 ((bgI v s i).d + min (max p (0 : Int)) (↑s.size : Int))] = List.map (renT fun (j : Nat) => [some (2 : Nat)].getD j none) [Value.string s, Value.slice (some (Addr.mk (0 : Nat) (0 : Nat) none)) l.length l.length, Value.int IntKind.i64 ((bgI v s i).d + min (max p (0 : Int)) (↑s.size : Int))] ∧ (s.size ≤ (1000000 : Nat) ∧ (∀ (x : Ln), x ∈ l → lnOk s x) ∧ l.length ≤ (1000000 : Nat)) ∧ ∃ (l_1 : List Ln), ∃ (k : Nat), ∃ (o : Bool), Nat.blt (2 : Nat) ((2 : Nat) + (List.map (renB (sh (2 : Nat))) [Blk.mk (51 : TypeId) (3 : Nat) (lnsC (aftI v s (bgI v s i).n)) true]).length + (List.map (renB (tgt [some (2 : Nat)] ((2 : Nat) + (List.map (renB (sh (2 : Nat))) [Blk.mk (51 : TypeId) (3 : Nat) (lnsC (aftI v s (bgI v s i).n)) true]).length) (1 : Nat))) []).length) = true ∧ mrow (Heap.mk ((2 : Nat) + (List.map (renB (sh (2 : Nat))) [Blk.mk (51 : TypeId) (3 : Nat) (lnsC (aftI v s (bgI v s i).n)) true]).length + (List.map (renB (tgt [some (2 : Nat)] ((2 : Nat) + (List.map (renB (sh (2 : Nat))) [Blk.mk (51 : TypeId) (3 : Nat) (lnsC (aftI v s (bgI v s i).n)) true]).length) (1 : Nat))) []).length) [some (Blk.mk (30 : Nat) (2 : Nat) [Value.int IntKind.i64 (0 : Int), Value.int IntKind.i64 (0 : Int)] true), some (Blk.mk (56 : Nat) (6 : Nat) ([] ++ [Value.bool (bgI v s i).f, Value.int IntKind.i64 (bgI v s i).d, Value.int IntKind.u8 (bgI v s i).c, Value.int IntKind.i64 (bgI v s i).a, Value.int IntKind.i64 (bgI v s i).e, Value.int IntKind.i64 (bgI v s i).n] ++ []) true), some (Blk.mk (51 : TypeId) (3 : Nat) (List.map (ren (sh (2 : Nat))) (lnsC (aftI v s (bgI v s i).n))) true)]).l (2 : Nat) = some (Blk.mk (51 : TypeId) (3 : Nat) (lnsC l_1) o) ∧ [Value.string s, Value.slice (some (Addr.mk (2 : Nat) (0 : Nat) none)) (mineN s ((bgI v s i).d + min (max p (0 : Int)) (↑s.size : Int)) l) (mineN s ((bgI v s i).d + min (max p (0 : Int)) (↑s.size : Int)) l), Value.int IntKind.i64 ((bgI v s i).d + min (max p (0 : Int)) (↑s.size : Int))] = List.map (renT fun (j : Nat) => [some (2 : Nat)].getD j none) [Value.string s, Value.slice (some (Addr.mk (0 : Nat) (0 : Nat) none)) k k, Value.int IntKind.i64 ((bgI v s i).d + min (max p (0 : Int)) (↑s.size : Int))] ∧ (s.size ≤ (1000000 : Nat) ∧ (∀ (x : Ln), x ∈ l_1 → lnOk s x) ∧ k ≤ l_1.length ∧ l_1.length ≤ (900000 : Nat) ∧ (bgI v s i).d + min (max p (0 : Int)) (↑s.size : Int) ≤ (10000000 : Int)) ∧ ∃ (s_1 : ByteArray), ∃ (g : BHd), ∃ (l_2 : List Ln), ∃ (k_1 : Nat), ∃ (m : Int), ∃ (e : Int), ∃ (n : Int), ∃ (j : Nat), ((2 : Nat) + (List.map (renB (sh (2 : Nat))) [Blk.mk (51 : TypeId) (3 : Nat) (lnsC (aftI v s (bgI v s i).n)) true]).length + (List.map (renB (tgt [some (2 : Nat)] ((2 : Nat) + (List.map (renB (sh (2 : Nat))) [Blk.mk (51 : TypeId) (3 : Nat) (lnsC (aftI v s (bgI v s i).n)) true]).length) (1 : Nat))) []).length + (List.map (renB (tgt [some (2 : Nat)] ((2 : Nat) + (List.map (renB (sh (2 : Nat))) [Blk.mk (51 : TypeId) (3 : Nat) (lnsC (aftI v s (bgI v s i).n)) true]).length + (List.map (renB (tgt [some (2 : Nat)] ((2 : Nat) + (List.map (renB (sh (2 : Nat))) [Blk.mk (51 : TypeId) (3 : Nat) (lnsC (aftI v s (bgI v s i).n)) true]).length) (1 : Nat))) []).length) (1 : Nat))) [Blk.mk TRw (2 : Nat) (rwsC (List.map (toldR s ((bgI v s i).d + min (max p (0 : Int)) (↑s.size : Int))) (List.take k l_1))) true]).length = (4 : Nat) ∧ In (4 : Nat) (block_Read.N0 s_1 g l_2 k_1 m e n j) [Value.slice (some (Addr.mk ((2 : Nat) + (List.map (renB (sh (2 : Nat))) [Blk.mk (51 : TypeId) (3 : Nat) (lnsC (aftI v s (bgI v s i).n)) true]).length + (List.map (renB (tgt [some (2 : Nat)] ((2 : Nat) + (List.map (renB (sh (2 : Nat))) [Blk.mk (51 : TypeId) (3 : Nat) (lnsC (aftI v s (bgI v s i).n)) true]).length) (1 : Nat))) []).length + (0 : Nat)) (0 : Nat) none)) k k, Value.int IntKind.i64 (bgI v s i).e, Value.int IntKind.i64 (bgI v s i).n, Value.slice (some (Addr.mk (2 : Nat) (0 : Nat) none)) (mineN s ((bgI v s i).d + min (max p (0 : Int)) (↑s.size : Int)) l) (mineN s ((bgI v s i).d + min (max p (0 : Int)) (↑s.size : Int)) l), Value.int IntKind.i64 (↑(mineN s ((bgI v s i).d + min (max p (0 : Int)) (↑s.size : Int)) l) : Int), Value.int IntKind.i64 (0 : Int)] (Heap.mk ((2 : Nat) + (List.map (renB (sh (2 : Nat))) [Blk.mk (51 : TypeId) (3 : Nat) (lnsC (aftI v s (bgI v s i).n)) true]).length + (List.map (renB (tgt [some (2 : Nat)] ((2 : Nat) + (List.map (renB (sh (2 : Nat))) [Blk.mk (51 : TypeId) (3 : Nat) (lnsC (aftI v s (bgI v s i).n)) true]).length) (1 : Nat))) []).length + (List.map (renB (tgt [some (2 : Nat)] ((2 : Nat) + (List.map (renB (sh (2 : Nat))) [Blk.mk (51 : TypeId) (3 : Nat) (lnsC (aftI v s (bgI v s i).n)) true]).length + (List.map (renB (tgt [some (2 : Nat)] ((2 : Nat) + (List.map (renB (sh (2 : Nat))) [Blk.mk (51 : TypeId) (3 : Nat) (lnsC (aftI v s (bgI v s i).n)) true]).length) (1 : Nat))) []).length) (1 : Nat))) [Blk.mk TRw (2 : Nat) (rwsC (List.map (toldR s ((bgI v s i).d + min (max p (0 : Int)) (↑s.size : Int))) (List.take k l_1))) true]).length) [some (Blk.mk (30 : Nat) (2 : Nat) [Value.int IntKind.i64 (0 : Int), Value.int IntKind.i64 (0 : Int)] true), some (Blk.mk (56 : Nat) (6 : Nat) ([] ++ [Value.bool (bgI v s i).f, Value.int IntKind.i64 (bgI v s i).d, Value.int IntKind.u8 (bgI v s i).c, Value.int IntKind.i64 (bgI v s i).a, Value.int IntKind.i64 (bgI v s i).e, Value.int IntKind.i64 (bgI v s i).n] ++ []) true), some (Blk.mk (51 : TypeId) (3 : Nat) (List.map (ren (sh (2 : Nat))) (lnsC (aftI v s (bgI v s i).n))) true), some (Blk.mk TRw (2 : Nat) (List.map (ren (tgt [some (2 : Nat)] ((2 : Nat) + (List.map (renB (sh (2 : Nat))) [Blk.mk (51 : TypeId) (3 : Nat) (lnsC (aftI v s (bgI v s i).n)) true]).length + (List.map (renB (tgt [some (2 : Nat)] ((2 : Nat) + (List.map (renB (sh (2 : Nat))) [Blk.mk (51 : TypeId) (3 : Nat) (lnsC (aftI v s (bgI v s i).n)) true]).length) (1 : Nat))) []).length) (1 : Nat))) (rwsC (List.map (toldR s ((bgI v s i).d + min (max p (0 : Int)) (↑s.size : Int))) (List.take k l_1)))) true)]) ∧ j ≤ k_1 ∧ k_1 ≤ l_2.length ∧ l_2.length ≤ (900000 : Nat)) ∧ ∀ (x : Int), ∃ (X : List Rw), ∃ (q : Nat), ∃ (ρl : List (Option Nat)), [Value.slice (some (Addr.mk (3 : Nat) (0 : Nat) none)) k_1 k_1] = List.map (renT fun (j : Nat) => ρl.getD j none) [Value.slice (some (Addr.mk (0 : Nat) (q * (2 : Nat)) none)) (X.length - q) (X.length - q)] ∧ rowsSee (fun (j : Nat) => ρl.getD j none) (block_plain.H X q).length (Heap.mk (4 : Nat) [fltB, hdT g, lnsT l_2, rwsB (List.map (toldR s_1 m) (List.take k_1 l_2))]) (block_plain.H X q) ρl ∧ (q ≤ X.length ∧ X.length ≤ (900000 : Nat) ∧ (plnL (List.drop q X)).length ≤ (900000 : Nat)) ∧ br g.f (∃ (X : List Rw), Nat.blt (3 : Nat) (4 : Nat) = true ∧ mrow (Heap.mk (4 : Nat) [fltB, hdT g, lnsT l_2, rwsB (List.map (toldR s_1 m) (List.take k_1 l_2))]).l (3 : Nat) = some (Blk.mk TRw (2 : Nat) (rwsC X) true) ∧ [Value.slice (some (Addr.mk (3 : Nat) (0 : Nat) none)) k_1 k_1] = List.map (renT fun (j : Nat) => [some (3 : Nat)].getD j none) [Value.slice (some (Addr.mk (0 : Nat) (0 : Nat) none)) X.length X.length] ∧ (X.length ≤ (900000 : Nat) ∧ (plnL X).length ≤ (900000 : Nat) ∧ (fld none (0 : Nat) X).length ≤ (900000 : Nat) ∧ (plnL (List.drop (lastI X).toNat (foldX X))).length ≤ (900000 : Nat)) ∧ (strOf (foldT X)).size ≤ (1000000 : Nat) ∧ K (Value.tuple #[Value.string (strOf (endL (lst (strOf (foldT X))) g.c)), Value.int IntKind.i64 (lstE s_1 m e (List.drop j (List.take k_1 l_2))), Value.int IntKind.i64 (nxtE n (List.drop j (List.take k_1 l_2))), Value.agg #[Value.int IntKind.i64 (0 : Int), Value.int IntKind.i64 (0 : Int)]]) (Heap.mk (4 : Nat) [some (Blk.mk (30 : TypeId) (2 : Nat) ([] ++ [Value.int IntKind.i64 (0 : Int), Value.int IntKind.i64 (0 : Int)] ++ []) true), hdT g, lnsT l_2, some (Blk.mk TRw (2 : Nat) (rwsC (foldX X)) true)])) ((strOf (plnL (List.drop q X))).size ≤ (1000000 : Nat) ∧ K (Value.tuple #[Value.string (strOf (endL (lst (strOf (plnL (List.drop q X)))) g.c)), Value.int IntKind.i64 (lstE s_1 m e (List.drop j (List.take k_1 l_2))), Value.int IntKind.i64 (nxtE n (List.drop j (List.take k_1 l_2))), Value.agg #[Value.int IntKind.i64 (0 : Int), Value.int IntKind.i64 (0 : Int)]]) (Heap.mk (4 : Nat) [some (Blk.mk (30 : TypeId) (2 : Nat) ([] ++ [Value.int IntKind.i64 (0 : Int), Value.int IntKind.i64 (0 : Int)] ++ []) true), hdT g, lnsT l_2, rwsB (List.map (toldR s_1 m) (List.take k_1 l_2))]))))) := by kernel_rfl
theorem block_Read.c (v : Int) (s : ByteArray) (i p : Int) (h : Heap) (K : VK) (hp : s.size ≤ 100000 ∧ -10000000 ≤ i ∧ i ≤ 10000000 ∧ -1 ≤ p ∧ p ≤ 1000000) (hh : K (.tuple #[.string (strOf (rdT' (rdI v s i p))), .int .i64 (rdE' (rdI v s i p)), .int .i64 (rdN' (rdI v s i p)), .agg #[.int .i64 (rdC' (rdI v s i p)), .int .i64 (rdO' (rdI v s i p))]]) h) : ACalls Tryd.prog block_Read.n [.int .i64 v, .string s, .int .i64 i, .int .i64 p] h K := by
  refine ACalls.alone rfl (acalls_mk KI_ok block_Read.ok (LS := block_Read.LS) (by simp only [block_Read.m, LOk, and_true, true_and]; (repeat' apply And.intro) <;> first | trivial | exact block_Read.lo0) (Nat.le_of_ble_eq_true rfl) (Eq.mpr (block_Read.t v s i p (fun v _ => ck (cleanT v) (K v h))) ?_))
  obtain ⟨hs, hi0, hi1, hp0, hp1⟩ := hp
  by_cases hok' : (bgI v s i).ok = false
  · have e : rdI v s i p = .error (11, i) := by unfold rdI; rw [if_pos hok']
    rw [e] at hh
    rw [hok']
    exact ⟨by omega, ck_iff.2 ⟨rfl, hh⟩⟩
  have hok : (bgI v s i).ok = true := by simpa using hok'
  obtain ⟨b0, b1, b2, b3, b4, b5⟩ := bgI_bd hok
  have hln : ∀ x ∈ aftI v s (bgI v s i).n, lnOk s x := aftF_ln v s _ _ b4
  have hll : (aftI v s (bgI v s i).n).length ≤ 100000 := by
    have := aftF_len v s (s.size + 1) _ b4 b5
    unfold aftI; omega
  have hMb : (rdM v s i p).1 ≤ 10000000 := by
    unfold rdM
    split
    · have := bndI_bd s (rdL v s i) p; omega
    · dsimp only; omega
  have hC : cst (rdR v s i p) ≤ 200000 := by
    have := told_cst v s (rdM v s i p).1 (s.size + 1) (bgI v s i).n (mineN s (rdM v s i p).1 (rdL v s i)) b4 b5
    unfold rdR rdK rdL at *
    unfold aftI at *
    omega
  have hRl : (rdR v s i p).length = mineN s (rdM v s i p).1 (rdL v s i) := by
    unfold rdR rdK
    rw [List.length_map, List.length_take]
    have := mineN_le s (rdM v s i p).1 (rdL v s i)
    omega
  have hXl : (rdR v s i p).length ≤ 900000 := by have := cst_len (rdR v s i p); omega
  have hP1 : (plnL (rdR v s i p)).length ≤ 900000 := by have := plnL_cst (rdR v s i p); omega
  have hP0 : (plnL ((rdR v s i p).drop 0)).length ≤ 900000 := hP1
  have hP2 : (fld none 0 (rdR v s i p)).length ≤ 900000 := by have := fld_cst (rdR v s i p) none 0; omega
  have hP3 : (plnL ((foldX (rdR v s i p)).drop (lastI (rdR v s i p)).toNat)).length ≤ 900000 := by
    have h3 := plnL_cst ((foldX (rdR v s i p)).drop (lastI (rdR v s i p)).toNat)
    have h4 := cst_drop (lastI (rdR v s i p)).toNat (foldX (rdR v s i p))
    have h5 := foldX_cst (rdR v s i p)
    omega
  have hP4 := foldT_cst (rdR v s i p)
  rw [hok]
  simp only [Bool.not_true, br_f, map_ren_flat (lnsC_flat _), map_ren_flat (rwsC_flat _)]
  refine ⟨by omega, ⟨by omega, b4, b5⟩, by simp only [rng]; omega, ?_⟩
  have hneg : ¬ (bgI v s i).ok = false := by rw [hok]; decide
  by_cases hd : (bgI v s i).d = 0
  · have hM : rdM v s i p = bndI s (aftI v s (bgI v s i).n) p := by unfold rdM; rw [if_pos hd]; rfl
    rw [decide_eq_true hd, br_t]
    refine ⟨aftI v s (bgI v s i).n, true, rfl, rfl, by simp [renT, renA, ren], ⟨by omega, hln, by omega⟩, ?_⟩
    rw [← hM]
    by_cases hbad : 0 ≤ (rdM v s i p).2
    · have e : rdI v s i p = .error (12, (rdM v s i p).2) := by unfold rdI; rw [if_neg hneg, if_pos hbad]
      rw [e] at hh
      rw [decide_eq_true hbad, br_t]
      exact ck_iff.2 ⟨rfl, hh⟩
    have e : rdI v s i p = .ok (endL (rdT v s i p) (bgI v s i).c, lstE s (rdM v s i p).1 (bgI v s i).e (rdK v s i p), nxtE (bgI v s i).n (rdK v s i p)) := by unfold rdI; rw [if_neg hneg, if_neg hbad]
    rw [e] at hh
    rw [decide_eq_false hbad, br_f]
    refine ⟨aftI v s (bgI v s i).n, true, rfl, rfl, by simp [renT, renA, ren], ⟨by omega, hln, by omega⟩, ?_⟩
    refine ⟨aftI v s (bgI v s i).n, mineN s (rdM v s i p).1 (aftI v s (bgI v s i).n), true, rfl, rfl, by simp [renT, renA, ren], ⟨by omega, hln, mineN_le _ _ _, by omega, hMb⟩, ?_⟩
    refine ⟨s, bgI v s i, aftI v s (bgI v s i).n, mineN s (rdM v s i p).1 (aftI v s (bgI v s i).n), (rdM v s i p).1, (bgI v s i).e, (bgI v s i).n, 0, ⟨rfl, .inl ⟨rfl, rfl⟩, Nat.zero_le _, mineN_le _ _ _, by omega⟩, fun x => ?_⟩
    refine ⟨rdR v s i p, 0, [some 3], ?_, seeR (o := true) rfl rfl, ⟨Nat.zero_le _, hXl, hP0⟩, ?_⟩
    · rw [Nat.sub_zero, Nat.zero_mul, hRl]; simp [renT, renA, ren]; rfl
    by_cases hf : (bgI v s i).f = true
    · have eT : rdT v s i p = foldT (rdR v s i p) := by unfold rdT; rw [if_pos hf]
      rw [eT] at hh
      rw [hf, br_t]
      refine ⟨rdR v s i p, rfl, rfl, ?_, ⟨hXl, hP1, hP2, hP3⟩, by rw [strOf_size]; omega, ?_⟩
      · rw [hRl]; simp [renT, renA, ren]; rfl
      rw [lst_strOf]
      exact ck_iff.2 ⟨rfl, hh⟩
    · have eT : rdT v s i p = plnL (rdR v s i p) := by unfold rdT; rw [if_neg hf]
      rw [eT] at hh
      rw [show (bgI v s i).f = false by simpa using hf, br_f]
      refine ⟨by rw [strOf_size]; omega, ?_⟩
      rw [lst_strOf]
      exact ck_iff.2 ⟨rfl, hh⟩
  · have hM : (rdM v s i p).1 = (bgI v s i).d + min (max p 0) s.size := by unfold rdM; rw [if_neg hd]
    have hbad : ¬ 0 ≤ (rdM v s i p).2 := by unfold rdM; rw [if_neg hd]; dsimp only; omega
    have e : rdI v s i p = .ok (endL (rdT v s i p) (bgI v s i).c, lstE s (rdM v s i p).1 (bgI v s i).e (rdK v s i p), nxtE (bgI v s i).n (rdK v s i p)) := by unfold rdI; rw [if_neg hneg, if_neg hbad]
    rw [e] at hh
    rw [decide_eq_false hd, br_f, ← hM]
    refine ⟨aftI v s (bgI v s i).n, true, rfl, rfl, by simp [renT, renA, ren], ⟨by omega, hln, by omega⟩, ?_⟩
    refine ⟨aftI v s (bgI v s i).n, mineN s (rdM v s i p).1 (aftI v s (bgI v s i).n), true, rfl, rfl, by simp [renT, renA, ren], ⟨by omega, hln, mineN_le _ _ _, by omega, hMb⟩, ?_⟩
    refine ⟨s, bgI v s i, aftI v s (bgI v s i).n, mineN s (rdM v s i p).1 (aftI v s (bgI v s i).n), (rdM v s i p).1, (bgI v s i).e, (bgI v s i).n, 0, ⟨rfl, .inl ⟨rfl, rfl⟩, Nat.zero_le _, mineN_le _ _ _, by omega⟩, fun x => ?_⟩
    refine ⟨rdR v s i p, 0, [some 3], ?_, seeR (o := true) rfl rfl, ⟨Nat.zero_le _, hXl, hP0⟩, ?_⟩
    · rw [Nat.sub_zero, Nat.zero_mul, hRl]; simp [renT, renA, ren]; rfl
    by_cases hf : (bgI v s i).f = true
    · have eT : rdT v s i p = foldT (rdR v s i p) := by unfold rdT; rw [if_pos hf]
      rw [eT] at hh
      rw [hf, br_t]
      refine ⟨rdR v s i p, rfl, rfl, ?_, ⟨hXl, hP1, hP2, hP3⟩, by rw [strOf_size]; omega, ?_⟩
      · rw [hRl]; simp [renT, renA, ren]; rfl
      rw [lst_strOf]
      exact ck_iff.2 ⟨rfl, hh⟩
    · have eT : rdT v s i p = plnL (rdR v s i p) := by unfold rdT; rw [if_neg hf]
      rw [eT] at hh
      rw [show (bgI v s i).f = false by simpa using hf, br_f]
      refine ⟨by rw [strOf_size]; omega, ?_⟩
      rw [lst_strOf]
      exact ck_iff.2 ⟨rfl, hh⟩
theorem block_Read.sc : ∀ vs h K, block_Read.s vs h K → ACalls Tryd.prog block_Read.n vs h K := by
  intro vs h K hh; unfold block_Read.s at hh; split at hh
  · exact block_Read.c _ _ _ _ _ _ hh.1 hh.2
  · exact hh.elim
theorem block_Read.sm : SpecMono block_Read.s := by
  intro vs h K K' hk hh; unfold block_Read.s at hh ⊢; split at hh
  · exact ⟨hh.1, hk _ _ hh.2⟩
  · exact hh.elim
theorem block_Read.sd : SpecDet block_Read.s := by
  intro vs h K hh; unfold block_Read.s at hh; split at hh
  · exact ⟨_, hh.2, hh.1, rfl⟩
  · exact hh.elim

end Go.Mini
