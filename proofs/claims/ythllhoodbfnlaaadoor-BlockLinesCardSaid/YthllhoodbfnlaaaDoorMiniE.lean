/- Mini: what the operations on memory do; any operation. No condition. -/
import Derived.Test.YthllhoodbfnlaaaDoorMiniD
import Derived.Laws.BytesString
namespace Go.Mini
open Go Go.RowKit
set_option linter.unusedVariables false
set_option linter.unusedSimpArgs false

section
variable {P : Program} {nt : NT} {w0 : Org P} {w : World} {μ : Mu} {h : Heap} {e : Env} {a : Act} {o : Oper} {K : VK} {n : Nat} {C : CT}

theorem does_st {t : TypeId} {i : TypeInfo} {x y : Operand} {x' y' : MO} (hop : o.op = .store t x y) (hi : P.info? t = some i) (hx : cmo x = some x') (hy : cmo y = some y') (hr : Rep w0 μ h w) (he : ER nt μ h.n e a) (hK : vst i.size (x'.ev e) (y'.ev e) h K) : Does P o a w0 μ h.n w K := by
  unfold vst at hK
  split at hK
  · rename_i j p v h1 h2
    have hvj := cmo_ev hx he h1
    obtain ⟨hj, e1⟩ := hvj.ptr
    split at hK
    · rename_i b hb
      obtain ⟨hck, hK⟩ := ck_iff.1 hK
      simp only [Bool.and_eq_true, Nat.blt_eq, Nat.beq_eq] at hck
      obtain ⟨⟨ho, q0⟩, q1⟩ := hck
      obtain ⟨q2, hK⟩ := ck_le.1 hK
      have hcells := (cmo_ev hy he h2).cells (by omega)
      obtain ⟨hr0, cs, hcs, hn, hd⟩ := hr.owns j b hb ho hvj.ptrz
      have hl := hcells.length
      have hst := run_storeCells_at P (μ j).r ((μ j).d + p) b.ty (a.eval y).cells.toList 0 cs w hcs (by rw [← hl]; omega) (ones hcells)
      simp only [Nat.add_zero] at hst
      have hsz : (a.eval y).cells.size = i.size := by rw [← Array.length_toList, ← hl, q1]
      refine ⟨_, _, μ, w.setRow (μ j).r (cs.toList.take ((μ j).d + p) ++ (a.eval y).cells.toList ++ cs.toList.drop ((μ j).d + p + (a.eval y).cells.toList.length)).toArray, Go.undef, hK, .inr ⟨rfl, ?_⟩, Ext.refl _ _, ?_, VR.undef, fun hq => by rw [hop] at hq; cases hq⟩
      · simp [execOp, hop, e1, Instr.storeAt, Instr.sureAddr, storeVar, sizeOf, typeInfo, hi, hsz, hst]
      · have hcl : (cs.toList.take ((μ j).d + p)).length = (μ j).d + p := by rw [List.length_take, Array.length_toList]; omega
        refine hr.set hb ho hvj.ptrz hcs ?_ _ ?_ ?_
        · simp only [List.size_toArray, List.length_append, List.length_take, List.length_drop, Array.length_toList]
          rw [← hsz] at q1
          omega
        · simp only [List.length_append, List.length_take, List.length_drop]
          omega
        · intro k u hu
          rw [List.getElem?_toArray]
          by_cases hk1 : k < p
          · rw [List.append_assoc, List.getElem?_append_left (by rw [List.length_take]; omega), List.getElem?_take, if_pos hk1] at hu
            obtain ⟨u', h3, h4⟩ := hr.reads j b hb k u hu
            rw [cell_of_row w _ _ cs _ _ hcs] at h3
            refine ⟨u', ?_, h4⟩
            rw [List.append_assoc, List.getElem?_append_left (by rw [hcl]; omega), List.getElem?_take, if_pos (by omega)]
            simpa using h3
          · by_cases hk2 : k < p + i.size
            · rw [List.append_assoc, List.getElem?_append_right (by rw [List.length_take]; omega), List.getElem?_append_left (by rw [List.length_take]; omega)] at hu
              obtain ⟨u', h3, h4⟩ := hcells.get hu
              refine ⟨u', ?_, h4⟩
              rw [List.append_assoc, List.getElem?_append_right (by rw [hcl]; omega), List.getElem?_append_left (by rw [hcl, ← hl]; omega), hcl]
              rw [List.length_take, Nat.min_eq_left (by omega)] at h3
              rw [show (μ j).d + k - ((μ j).d + p) = k - p from by omega]
              exact h3
            · rw [List.append_assoc, List.getElem?_append_right (by rw [List.length_take]; omega), List.getElem?_append_right (by rw [List.length_take]; omega), List.getElem?_drop, List.length_take, Nat.min_eq_left (by omega), show p + i.size + (k - p - (vcells v).length) = k from by omega] at hu
              obtain ⟨u', h3, h4⟩ := hr.reads j b hb k u hu
              rw [cell_of_row w _ _ cs _ _ hcs] at h3
              refine ⟨u', ?_, h4⟩
              rw [List.append_assoc, List.getElem?_append_right (by rw [hcl]; omega), List.getElem?_append_right (by rw [hcl, ← hl]; omega), List.getElem?_drop, hcl, ← hl, show (μ j).d + p + (vcells v).length + ((μ j).d + k - ((μ j).d + p) - (vcells v).length) = (μ j).d + k from by omega]
              simpa using h3
    · exact hK.elim
  · exact hK.elim

/-- A new row at its first values. -/
theorem does_made (hnq : quietR o.op = false) {T sz : Nat} {cs cs' : List Value} {v' : Value} {run : (execOp a.eval o).run P w = .ok (.value v') (w.alloc (.cells cs'.toArray T))} (hr : Rep w0 μ h w) (hc : All2 (FR μ h.n) cs cs') {v : Value}
    (hv : ∀ μ', μ' h.n = ⟨w.heap.size, 0, cs'.length, sz⟩ → VR μ' (h.n + 1) v v') (hK : K v (h.add ⟨T, sz, cs, true⟩)) : Does P o a w0 μ h.n w K := by
  refine ⟨v, _, μ.put h.n ⟨w.heap.size, 0, cs'.length, sz⟩, _, v', hK, .inl run, Ext.put _ _ _, ?_, hv _ (Mu.put_self _ _ _), fun hq => by rw [hnq] at hq; cases hq⟩
  have := hr.add (b := ⟨T, sz, cs, true⟩) (below_alloc w (.cells cs'.toArray T)) (Nat.le_refl _) rfl (heap_alloc_new w _) (cs' := cs') (by simp) hc
  simpa using this

theorem zeroOf_some {t : TypeId} {z : List Value} (hz : zeroOf P t = some z) : ∃ i zv, P.info? t = some i ∧ i.zero = some zv ∧ zv.cells.toList = z ∧ All2 (FR μ n) z z := by
  unfold zeroOf at hz
  split at hz
  · rename_i i hi
    split at hz
    · rename_i zv hzv
      split at hz
      · rename_i hall
        obtain rfl := Option.some.inj hz
        exact ⟨i, zv, hi, hzv, rfl, All2.same fun x hx => .same (List.all_eq_true.1 hall x hx)⟩
      · cases hz
    · cases hz
  · cases hz

theorem vr_ptr0 {r m sz : Nat} (hm0 : m ≠ 0) : ∀ μ' : Mu, μ' n = ⟨r, 0, m, sz⟩ → VR μ' (n + 1) (.pointer (some ⟨n, 0, none⟩)) (.pointer (some ⟨r, 0, none⟩)) := fun μ' hm => by
  have := FR.ptr (μ := μ') (n := n + 1) (i := n) (o := 0) (Nat.lt_succ_self _) (by rw [hm]; exact hm0)
  rw [hm] at this
  exact .one (.one this)

theorem does_new {T sz : Nat} {z : List Value} (hop : o.op = .alloc T) (hz : zeroOf P T = some z) (hz0 : z ≠ []) (hr : Rep w0 μ h w) (hK : eop C e h K (.new T sz z)) : Does P o a w0 μ h.n w K := by
  simp only [eop] at hK
  obtain ⟨i, zv, h1, h2, rfl, hall⟩ := zeroOf_some (μ := μ) (n := h.n) hz
  refine does_made (by rw [hop]; rfl) (run := ?_) hr hall (vr_ptr0 fun h0 => hz0 (List.eq_nil_of_length_eq_zero h0)) hK
  simp [execOp, hop, Instr.alloc, zeroValue, typeInfo, h1, h2, newVar, newRow, newObj, Sem.run]

theorem does_box {T sz : Nat} {x : Operand} {x' : MO} (hop : o.op = .box T x) (hx : cmo x = some x') (hr : Rep w0 μ h w) (he : ER nt μ h.n e a) (hK : eop C e h K (.box T sz x')) : Does P o a w0 μ h.n w K := by
  simp only [eop] at hK
  split at hK
  · rename_i v hv
    rw [ck_iff, Nat.blt_eq] at hK
    have hc := (cmo_ev hx he hv).cells hK.1
    refine does_made (by rw [hop]; rfl) (run := ?_) hr hc (vr_ptr0 (by have := hc.length; have := hK.1; omega)) hK.2
    simp [execOp, hop, Instr.box, newVar, newRow, newObj, Sem.run]
  · exact hK.elim

theorem fold_place (off : Nat) : ∀ (vs : List Value) (k : Nat) (cs : Array Value), off + k + vs.length ≤ cs.size →
    (vs.zipIdx k).foldl (fun (cs : Array Value) (x : Value × Nat) => cs.setIfInBounds (off + x.2) x.1) cs = (cs.toList.take (off + k) ++ vs ++ cs.toList.drop (off + k + vs.length)).toArray
  | [], k, cs, _ => by simp
  | v :: vs, k, cs, h => by
    rw [List.zipIdx_cons, List.foldl_cons, fold_place off vs (k + 1) _ (by simp at h ⊢; omega)]
    have hs : off + k < cs.toList.length := by simp at h ⊢; omega
    congr 1
    simp only [Array.toList_setIfInBounds]
    have e1 : (cs.toList.set (off + k) v).take (off + (k + 1)) = cs.toList.take (off + k) ++ [v] := by
      rw [← Nat.add_assoc, List.take_add_one, List.take_set_of_le (Nat.le_refl _), List.getElem?_set_self hs]
      rfl
    have e2 : (cs.toList.set (off + k) v).drop (off + (k + 1) + vs.length) = cs.toList.drop (off + k + (v :: vs).length) := by
      rw [List.drop_set_of_lt (by omega)]
      congr 1
      simp only [List.length_cons]
      omega
    rw [e1, e2]
    simp

theorem cparts_fill {p : Nat → Option (Nat × Nat)} (he : ER nt μ n e a) : ∀ (parts : List (Nat × Operand)) (l : List (Nat × Nat × MO)) (cs cs' : List Value) (K : List Value → Prop), cparts P p parts = some l → vfill e cs l K → All2 (FR μ n) cs cs' →
    ∃ r r', K r ∧ Instr.fill p cs'.toArray (parts.map fun x => (x.1, a.eval x.2)) = some r'.toArray ∧ All2 (FR μ n) r r' ∧ r'.length = cs'.length
  | [], l, cs, cs', K, hc, hK, ha => by
    obtain rfl := Option.some.inj hc
    exact ⟨cs, cs', hK, rfl, ha, rfl⟩
  | (i, x) :: parts, l, cs, cs', K, hc, hK, ha => by
    simp only [cparts] at hc
    split at hc
    · rename_i off s y l' h1 h2 h3
      obtain rfl := Option.some.inj hc
      simp only [vfill] at hK
      split at hK
      · rename_i v hv
        obtain ⟨hck, hK⟩ := ck_iff.1 hK
        simp only [Bool.and_eq_true, Nat.blt_eq, Nat.beq_eq, Nat.ble_eq] at hck
        obtain ⟨⟨q0, q1⟩, q2⟩ := hck
        have hcells := (cmo_ev h2 he hv).cells (by omega)
        have hl := hcells.length
        have hal := ha.length
        have hp : All2 (FR μ n) (place cs off (vcells v)) (cs'.take off ++ (a.eval x).cells.toList ++ cs'.drop (off + (a.eval x).cells.toList.length)) := by
          unfold place
          rw [← hl]
          exact ((ha.take off).append hcells).append (ha.drop _)
        obtain ⟨r, r', hr1, hr2, hr3, hr4⟩ := cparts_fill he parts l' _ _ K h3 hK hp
        refine ⟨r, r', hr1, ?_, hr3, hr4.trans (by simp only [List.length_append, List.length_take, List.length_drop]; omega)⟩
        have hfold := fold_place off (a.eval x).cells.toList 0 cs'.toArray (by simp at hl ⊢; omega)
        simp only [List.map_cons, Instr.fill, h1]
        rw [if_neg (by simp at hl ⊢; omega)]
        rw [← hr2]
        congr 1
        rw [← Array.foldl_toList, Array.toList_zipIdx]
        simpa using hfold
      · exact hK.elim
    · cases hc

theorem fill_imp {p : Nat → Option (Nat × Nat)} {x y : Array Value} {l : List (Nat × Value)} (h : Instr.fill p x l = some y) : Instr.fill p x l = some y := h

theorem does_bldS {t : TypeId} {fs : Array Field} {pl : List (Nat × Nat)} {parts : Array (Nat × Operand)} {z : List Value} {l : List (Nat × Nat × MO)} (hop : o.op = .build t parts) (ht : P.underlying t = some (.struct fs)) (hz : zeroOf P t = some z)
    (hp : fs.toList.mapM (fun f => (P.info? f.type).map fun i => (f.offset, i.size)) = some pl) (hc : cparts P (fun k => pl.toArray[k]?) parts.toList = some l) (hr : Rep w0 μ h w) (he : ER nt μ h.n e a) (hK : eop C e h K (.bld z l)) : Does P o a w0 μ h.n w K := by
  simp only [eop] at hK
  obtain ⟨i, zv, h1, h2, rfl, hall⟩ := zeroOf_some (μ := μ) (n := h.n) hz
  obtain ⟨r, r', hr1, hr2, hr3, hr4⟩ := cparts_fill he parts.toList l _ _ _ hc hK hall
  have hrun := run_build (P := P) w t (parts.map fun (i, x) => (i, a.eval x)) r'.toArray (by
    unfold Program.built
    simp only [h1, ht, h2, hp]
    simpa using hr2)
  exact does_pure hr hr1 (v' := .agg r'.toArray) (by simp [execOp, hop, hrun]) (.one (.agg hr3))

theorem does_bldA {t el : TypeId} {k : Nat} {ie : TypeInfo} {parts : Array (Nat × Operand)} {z : List Value} {l : List (Nat × Nat × MO)} (hop : o.op = .build t parts) (ht : P.underlying t = some (.array k el)) (hz : zeroOf P t = some z) (hie : P.info? el = some ie)
    (hc : cparts P (fun k => some (k * ie.size, ie.size)) parts.toList = some l) (hr : Rep w0 μ h w) (he : ER nt μ h.n e a) (hK : eop C e h K (.bld z l)) : Does P o a w0 μ h.n w K := by
  simp only [eop] at hK
  obtain ⟨i, zv, h1, h2, rfl, hall⟩ := zeroOf_some (μ := μ) (n := h.n) hz
  obtain ⟨r, r', hr1, hr2, hr3, hr4⟩ := cparts_fill he parts.toList l _ _ _ hc hK hall
  have hrun := run_build (P := P) w t (parts.map fun (i, x) => (i, a.eval x)) r'.toArray (by
    unfold Program.built
    simp only [h1, ht, h2, hie]
    simpa using hr2)
  exact does_pure hr hr1 (v' := .agg r'.toArray) (by simp [execOp, hop, hrun]) (.one (.agg hr3))

theorem rep_len (z : List Value) : ∀ n, (rep n z).length = n * z.length
  | 0 => by simp [rep]
  | n + 1 => by simp [rep, rep_len z n, Nat.add_mul, Nat.add_comm]
theorem rep_get (z : List Value) (hz : 0 < z.length) : ∀ (n i : Nat), i < n * z.length → (rep n z)[i]? = z[i % z.length]?
  | 0, i, h => by simp at h
  | n + 1, i, h => by
    simp only [rep]
    by_cases hi : i < z.length
    · rw [List.getElem?_append_left hi, Nat.mod_eq_of_lt hi]
    · rw [List.getElem?_append_right (by omega), rep_get z hz n (i - z.length) (by rw [Nat.add_mul] at h; omega)]
      congr 1
      exact (Nat.mod_eq_sub_mod (by omega)).symm
theorem rep_arr (z : Array Value) (n : Nat) (hz : 0 < z.size) : ((Array.range (n * z.size)).map (z[· % z.size]!)) = (rep n z.toList).toArray := by
  apply Array.ext'
  apply List.ext_getElem?
  intro i
  simp only [Array.toList_map, Array.toList_range, List.getElem?_map]
  by_cases hi : i < n * z.size
  · rw [List.getElem?_range hi, rep_get z.toList (by simpa using hz) n i (by simpa using hi)]
    have : i % z.size < z.size := Nat.mod_lt _ hz
    simp [this]
  · rw [List.getElem?_eq_none (by simpa using Nat.le_of_not_lt hi), List.getElem?_eq_none (by rw [rep_len]; simpa using Nat.le_of_not_lt hi)]
    rfl
theorem rep_all {z : List Value} {R : Value → Value → Prop} (h : All2 R z z) : ∀ n, All2 R (rep n z) (rep n z)
  | 0 => .nil
  | n + 1 => h.append (rep_all h n)

theorem does_bsl {t el : TypeId} {len : Nat} {ie : TypeInfo} {parts : Array (Nat × Operand)} {z : List Value} {l : List (Nat × Nat × MO)} (hop : o.op = .buildSlice t len parts) (ht : P.underlying t = some (.slice el)) (hz : zeroOf P el = some z) (hie : P.info? el = some ie)
    (q1 : len * ie.size ≤ 16777216) (q2 : 0 < len * ie.size) (q3 : z.length = ie.size)
    (hc : cparts P (fun k => some (k * ie.size, ie.size)) parts.toList = some l) (hr : Rep w0 μ h w) (he : ER nt μ h.n e a) (hK : eop C e h K (.bsl el ie.size len z l)) : Does P o a w0 μ h.n w K := by
  simp only [eop] at hK
  obtain ⟨i, zv, h1, h2, rfl, hall⟩ := zeroOf_some (μ := μ) (n := h.n) hz
  obtain rfl := Option.some.inj (hie.symm.trans h1)
  have hpos : 0 < ie.size := Nat.pos_of_mul_pos_left q2 
  obtain ⟨r, r', hr1, hr2, hr3, hr4⟩ := cparts_fill he parts.toList l _ _ _ hc hK (rep_all hall len)
  have hlen : zv.cells.size = ie.size := by simpa using q3
  have hl2 : r'.length = len * ie.size := by rw [hr4, rep_len, q3]
  have hrun := run_buildSlice (P := P) w t el len (parts.map fun (i, x) => (i, a.eval x)) r'.toArray ie zv ht hie h2 (by omega) (by omega) (by
    rw [← hlen, rep_arr zv.cells len (by omega), hlen]
    simpa using hr2)
  refine does_made (by rw [hop]; rfl) (cs' := r') (v' := .slice (some ⟨w.heap.size, 0, none⟩) len len) (run := ?_) hr hr3 (fun μ' hm => ?_) hr1
  · simp [execOp, hop, hrun]
  · have := FR.slc (μ := μ') (n := h.n + 1) (i := h.n) (o := 0) (k := len) (c := len) (Nat.lt_succ_self _) (Nat.le_refl _) (by rw [hm]; show 0 + 0 + len * ie.size ≤ r'.length; omega) (by rw [hm]; show r'.length ≠ 0; omega)
    rw [hm] at this
    exact .one (.one this)

theorem slc_vr {i p k c l r sz : Nat} {v : Value} (hv : VR μ n (.slice (some ⟨i, p, none⟩) k c) v) (hsz : (μ i).sz = sz) (hl : l ≤ r) (hr : r ≤ k) :
    ∃ q cap, v = .slice q k cap ∧ k ≤ cap ∧ VR μ n (.slice (some ⟨i, p + l * sz, none⟩) (r - l) (r - l)) (.slice (if cap = l then q else q.map (·.add (l * sz))) (r - l) (cap - l)) := by
  obtain ⟨hi, hkc, hv⟩ := hv.slc
  rcases hv with ⟨cap, e1, h1, h2, hz⟩ | ⟨e0, hz, o', e1⟩ | ⟨e0, hz, e1⟩
  · refine ⟨_, cap, e1, h1, ?_⟩
    by_cases hc : cap = l
    · rw [if_pos hc, show r - l = 0 from by omega, show cap - l = 0 from by omega]
      exact .one (.one (.slc0 hi hz))
    · rw [if_neg hc, Option.map_some, add_lit0]
      have h3 : l * sz + (cap - l) * sz = cap * sz := by rw [← Nat.add_mul]; congr 1; omega
      rw [show (μ i).d + p + l * sz = (μ i).d + (p + l * sz) from by omega]
      refine .one (.one (.slc hi (by omega) ?_ hz))
      rw [hsz] at h2 ⊢
      omega
  · subst e0
    refine ⟨_, 0, e1, Nat.le_refl _, ?_⟩
    obtain rfl : r = 0 := by omega
    obtain rfl : l = 0 := by omega
    rw [if_pos rfl]
    exact .one (.one (.slc0 hi hz))
  · subst e0
    refine ⟨_, 0, e1, Nat.le_refl _, ?_⟩
    obtain rfl : r = 0 := by omega
    obtain rfl : l = 0 := by omega
    rw [if_pos rfl]
    exact .one (.one (.nil hi hz))

theorem does_slc {t el : TypeId} {ie : TypeInfo} {x : Operand} {lo hi : Option Operand} {x' : MO} {lo' hi' : Option MO} (hop : o.op = .slice t x lo hi none) (ht : P.underlying t = some (.slice el)) (hie : P.info? el = some ie) (hx : cmo x = some x') (hlo : copt lo = some lo') (hhi : copt hi = some hi') (hr : Rep w0 μ h w) (he : ER nt μ h.n e a)
    (hK : vslc ie.size (x'.ev e) (oev e lo') (oev e hi') h K) : Does P o a w0 μ h.n w K := by
  obtain ⟨l1, l2⟩ := copt_ev hlo he
  obtain ⟨r1, r2⟩ := copt_ev hhi he
  unfold vslc at hK
  split at hK
  · rename_i i p k c h1
    have hv := cmo_ev hx he h1
    split at hK
    · exact hK.elim
    · rename_i b hb
      obtain ⟨hbs, hK⟩ := ck_iff.1 hK
      rw [Nat.beq_eq] at hbs
      have hsz : (μ i).sz = ie.size := (hr.sz i b hb).trans hbs
      split at hK
      · rename_i h2 h3
        obtain rfl := l2 h2
        obtain rfl := r2 h3
        obtain ⟨q, cap, e1, q1, q2⟩ := slc_vr (l := 0) (r := k) hv hsz (Nat.zero_le _) (Nat.le_refl _)
        refine does_pure hr hK (v' := .slice (if cap = 0 then q else q.map (·.add (0 * ie.size))) (k - 0) (cap - 0)) ?_ (by simpa using q2)
        simp [execOp, hop, e1, Instr.sliceAt, Instr.slice, run_underlying ht, Instr.sliceBounds, sizeOf, typeInfo, hie]
      · rename_i kk l h2 h3
        obtain ⟨y, rfl, hy⟩ := l1 _ h2
        have e2 := hy.flat rfl
        obtain rfl := r2 h3
        obtain ⟨⟨b1, b2⟩, hK⟩ := hK
        obtain ⟨q, cap, e1, q1, q2⟩ := slc_vr (l := l.toNat) (r := k) hv hsz (by omega) (Nat.le_refl _)
        refine does_pure hr hK (v' := .slice (if cap = l.toNat then q else q.map (·.add (l.toNat * ie.size))) (k - l.toNat) (cap - l.toNat)) ?_ q2
        simp [execOp, hop, e1, e2, Instr.sliceAt, Instr.slice, run_underlying ht, Instr.sliceBounds, Instr.sliceBound, asIntOf, sizeOf, typeInfo, hie, b1, b2]
      · rename_i kk r h2 h3
        obtain rfl := l2 h2
        obtain ⟨y, rfl, hy⟩ := r1 _ h3
        have e2 := hy.flat rfl
        obtain ⟨⟨b1, b2⟩, hK⟩ := hK
        obtain ⟨q, cap, e1, q1, q2⟩ := slc_vr (l := 0) (r := r.toNat) hv hsz (by omega) (by omega)
        have b3 : r ≤ (cap : Int) := by omega
        refine does_pure hr hK (v' := .slice (if cap = 0 then q else q.map (·.add (0 * ie.size))) (r.toNat - 0) (cap - 0)) ?_ (by simpa using q2)
        simp [execOp, hop, e1, e2, Instr.sliceAt, Instr.slice, run_underlying ht, Instr.sliceBounds, Instr.sliceBound, asIntOf, sizeOf, typeInfo, hie, b1, b3]
      · rename_i kk l kk' r h2 h3
        obtain ⟨y, rfl, hy⟩ := l1 _ h2
        have e2 := hy.flat rfl
        obtain ⟨z, rfl, hz⟩ := r1 _ h3
        have e3 := hz.flat rfl
        obtain ⟨⟨b1, b2, b3⟩, hK⟩ := hK
        obtain ⟨q, cap, e1, q1, q2⟩ := slc_vr (l := l.toNat) (r := r.toNat) hv hsz (by omega) (by omega)
        have b4 : r ≤ (cap : Int) := by omega
        have b5 : 0 ≤ r := by omega
        have b6 : l ≤ max r 0 := by omega
        refine does_pure hr hK (v' := .slice (if cap = l.toNat then q else q.map (·.add (l.toNat * ie.size))) (r.toNat - l.toNat) (cap - l.toNat)) ?_ q2
        simp [execOp, hop, e1, e2, e3, Instr.sliceAt, Instr.slice, run_underlying ht, Instr.sliceBounds, Instr.sliceBound, asIntOf, sizeOf, typeInfo, hie, b1, b4, b5, b6]
      · exact hK.elim
  · rename_i h1
    have e1 := (cmo_ev hx he h1).flat rfl
    split at hK
    · rename_i h2 h3
      obtain rfl := l2 h2
      obtain rfl := r2 h3
      refine does_pure hr hK (v' := .slice none 0 0) ?_ (.same rfl)
      simp [execOp, hop, e1, Instr.sliceAt, Instr.slice, run_underlying ht, Instr.sliceBounds, Instr.sliceBound, asIntOf, sizeOf, typeInfo, hie]
    · rename_i kk l h2 h3
      obtain ⟨y, rfl, hy⟩ := l1 _ h2
      have e2 := hy.flat rfl
      obtain rfl := r2 h3
      obtain ⟨rfl, hK⟩ := hK
      refine does_pure hr hK (v' := .slice none 0 0) ?_ (.same rfl)
      simp [execOp, hop, e1, e2, Instr.sliceAt, Instr.slice, run_underlying ht, Instr.sliceBounds, Instr.sliceBound, asIntOf, sizeOf, typeInfo, hie]
    · rename_i kk r h2 h3
      obtain rfl := l2 h2
      obtain ⟨y, rfl, hy⟩ := r1 _ h3
      have e2 := hy.flat rfl
      obtain ⟨rfl, hK⟩ := hK
      refine does_pure hr hK (v' := .slice none 0 0) ?_ (.same rfl)
      simp [execOp, hop, e1, e2, Instr.sliceAt, Instr.slice, run_underlying ht, Instr.sliceBounds, Instr.sliceBound, asIntOf, sizeOf, typeInfo, hie]
    · rename_i kk l kk' r h2 h3
      obtain ⟨y, rfl, hy⟩ := l1 _ h2
      have e2 := hy.flat rfl
      obtain ⟨z, rfl, hz⟩ := r1 _ h3
      have e3 := hz.flat rfl
      obtain ⟨⟨rfl, rfl⟩, hK⟩ := hK
      refine does_pure hr hK (v' := .slice none 0 0) ?_ (.same rfl)
      simp [execOp, hop, e1, e2, e3, Instr.sliceAt, Instr.slice, run_underlying ht, Instr.sliceBounds, Instr.sliceBound, asIntOf, sizeOf, typeInfo, hie]
    · exact hK.elim
  · exact hK.elim

theorem does_app {t el : TypeId} {ie : TypeInfo} {x y : Operand} {x' y' : MO} {z : List Value} (hop : o.op = .call ⟨.builtin .append, #[x, y], #[t, t]⟩) (ht : P.underlying t = some (.slice el)) (hz : zeroOf P el = some z) (hie : P.info? el = some ie) (q3 : z.length = ie.size) (q4 : 0 < ie.size)
    (hx : cmo x = some x') (hy : cmo y = some y') (hr : Rep w0 μ h w) (he : ER nt μ h.n e a) (hK : vapp el ie.size ie.bytes (x'.ev e) (y'.ev e) h K) : Does P o a w0 μ h.n w K := by
  obtain ⟨i, zv, h1, h2, rfl, hall⟩ := zeroOf_some (μ := μ) (n := h.n) hz
  obtain rfl := Option.some.inj (hie.symm.trans h1)
  have hzs : zv.cells.size = ie.size := by simpa using q3
  have cap1 : ∀ {i1 p1 n1 : Nat} {v1 : Value}, VR μ h.n (.slice (some ⟨i1, p1, none⟩) n1 n1) v1 → ∃ base cap, v1 = .slice base n1 cap ∧ n1 ≤ cap := fun hv1 => by
    obtain ⟨_, _, hv'⟩ := hv1.slc
    rcases hv' with ⟨cap, rfl, hcap, _⟩ | ⟨rfl, _, o', rfl⟩ | ⟨rfl, _, rfl⟩
    · exact ⟨_, cap, rfl, hcap⟩
    · exact ⟨_, 0, rfl, Nat.le_refl _⟩
    · exact ⟨_, 0, rfl, Nat.le_refl _⟩
  unfold vapp at hK
  split at hK
  · rename_i j p m c hx1 hy1
    have e1 := (cmo_ev hx he hx1).flat rfl
    have hvy := cmo_ev hy he hy1
    obtain ⟨hj, rfl, hv⟩ := hvy.slc
    split at hK
    · rename_i b hb
      rw [ck_le, ck_le] at hK
      obtain ⟨b2, b3, b1, hK⟩ := hK
      replace b2 : m * ie.bytes ≤ 140737488355328 := Nat.le_trans (Nat.mul_le_mul b1 b2) (by decide)
      by_cases hm0 : m = 0
      · subst hm0
        obtain ⟨q, c', e2, _⟩ := cap1 hvy
        refine ⟨_, _, _, w, .slice none 0 0, hK, .inl ?_, Ext.put h.n μ ⟨0, 0, 0, ie.size⟩, ?_, .one (.one (.nil (Nat.lt_succ_self _) (by rw [Mu.put_self]))), fun hq => rfl⟩
        · have hrun := run_append_zero (ty := o.type) ht ht hie w none 0 0 (Nat.le_refl _) q c'
          simp [execOp, hop, e1, e2, resolve, invoke, builtin, hrun]
        · rw [Nat.zero_mul, List.take_zero]
          exact hr.pushGhost el ie.size
      · rcases hv with ⟨c', hv, _⟩ | ⟨h0, _⟩ | ⟨h0, _⟩
        · obtain ⟨μ', w', v', hrun, hx, hrep, hvr⟩ := append_nil (ty := o.type) (c := c') ht hie h2 hzs q4 hr hb (by omega) b1 b2 b3
          exact ⟨_, _, μ', w', v', hK, .inl (by simp [execOp, hop, e1, hv, resolve, invoke, builtin, hrun]), hx, hrep, hvr, fun hq => by rw [hop] at hq; cases hq⟩
        · omega
        · omega
    · exact hK.elim
  · rename_i i1 p1 n1 c1 j p m c hx1 hy1
    have hv1 := cmo_ev hx he hx1
    obtain ⟨_, rfl, _⟩ := hv1.slc
    have hvy := cmo_ev hy he hy1
    obtain ⟨hj, rfl, hv⟩ := hvy.slc
    split at hK
    · rename_i b1 b hb1 hb
      obtain ⟨hck, hK1⟩ := ck_iff.1 hK
      simp only [Bool.and_eq_true, Nat.beq_eq, Nat.ble_eq] at hck
      obtain ⟨⟨⟨⟨a5, a0⟩, a1⟩, a2⟩, a3⟩ := hck
      obtain ⟨a7, ⟨a4, a6⟩, hK2⟩ := ck_le.1 hK1
      clear hK hK1
      replace a5 : (n1 + m) * ie.bytes ≤ 140737488355328 := Nat.le_trans (Nat.mul_le_mul a4 a5) (by decide)
      subst a0
      by_cases hm0 : m = 0
      · subst hm0
        obtain ⟨q, c', e2, _⟩ := cap1 hvy
        obtain ⟨base, cap, e1, hcap⟩ := cap1 hv1
        obtain ⟨μ', x, hrep, hvr⟩ := append_keep hr hb1 hv1 a1 a3
        refine ⟨_, _, μ', w, .slice base n1 cap, hK2, .inl ?_, x, ?_, by rw [← e1]; exact hvr, fun hq => rfl⟩
        · have hrun := run_append_zero (ty := o.type) ht ht hie w base n1 cap hcap q c'
          simp [execOp, hop, e1, e2, resolve, invoke, builtin, hrun]
        · rw [Nat.zero_mul, List.take_zero, List.append_nil]
          rw [a2] at hrep
          exact hrep
      · rcases hv with ⟨c', hv, _⟩ | ⟨h0, _⟩ | ⟨h0, _⟩
        · obtain ⟨μ', w', v', hrun, hx, hrep, hvr⟩ := append_own (ty := o.type) (c := c') ht hie h2 hzs q4 hr hb1 hv1 rfl a1 a2 a3 (by omega) hb (by omega) a4 a5 a7
          rw [List.drop_zero] at hrep
          exact ⟨_, _, μ', w', v', hK2, .inl (by simp [execOp, hop, hv, resolve, invoke, builtin, hrun]), hx, hrep, hvr, fun hq => by rw [hop] at hq; cases hq⟩
        · omega
        · omega
    · exact hK.elim
  · rename_i v hn hn' hx1 hy1
    have e2 := (cmo_ev hy he hy1).flat rfl
    split at hK
    · have e1 := (cmo_ev hx he hx1).flat rfl
      refine does_pure hr hK (v' := .slice none 0 0) ?_ (.same rfl)
      simp [execOp, hop, e1, e2, resolve, invoke, builtin, Builtin.append_, run_underlying ht, sizeOf, typeInfo, hie, Builtin.lenOf, Builtin.firstCells]
    · have hv1 := cmo_ev hx he hx1
      obtain ⟨_, rfl, _⟩ := hv1.slc
      obtain ⟨base, cap, e1, hcap⟩ := cap1 hv1
      have hrun := run_append_zero (ty := o.type) ht ht hie w base _ cap hcap none 0
      exact does_pure hr hK (by simp [execOp, hop, e2, resolve, invoke, builtin]; rw [e1, hrun]; rfl) hv1
    · exact hK.elim
  · exact hK.elim

theorem does_apps {t u el : TypeId} {ie : TypeInfo} {x y : Operand} {x' y' : MO} (hop : o.op = .call ⟨.builtin .append, #[x, y], #[t, u]⟩) (ht : P.underlying t = some (.slice el)) (hu : P.underlying u = some .string) (hie : P.info? el = some ie) (hz : ie.zero = some (.int .u8 0)) (q4 : ie.size = 1) (q5 : ie.bytes = 1)
    (hx : cmo x = some x') (hy : cmo y = some y') (hr : Rep w0 μ h w) (he : ER nt μ h.n e a) (hK : vapps el (x'.ev e) (y'.ev e) h K) : Does P o a w0 μ h.n w K := by
  unfold vapps at hK
  split at hK
  · rename_i s hx1 hy1
    have e1 := (cmo_ev hx he hx1).flat rfl
    have e2 := (cmo_ev hy he hy1).flat rfl
    by_cases h0 : s.size = 0
    · rw [decide_eq_true h0] at hK
      have hK' : K (.slice none 0 0) h := hK
      refine does_pure hr hK' (v' := .slice none 0 0) ?_ (.same rfl)
      have hs : s = ByteArray.empty := by
        apply ByteArray.ext
        exact Array.eq_empty_of_size_eq_zero h0
      subst hs
      have hf := Lib.run_firstCells_string (P := P) w 1 ByteArray.empty
      simp only [ByteArray.size_empty] at hf
      simp [execOp, hop, e1, e2, resolve, invoke, builtin, Builtin.append_, run_underlying ht, run_underlying hu, sizeOf, typeInfo, hie, q4, Builtin.lenOf, hf]
    · rw [decide_eq_false h0] at hK
      have hK' : s.size ≤ 100000000000000 ∧ K (.slice (some ⟨h.n, 0, none⟩) s.size s.size) (h.add ⟨el, 1, strV s, true⟩) := hK
      have hrun := run_append_nil_string (P := P) w t u o.type el ie (.int .u8 0) ht hu hie hz s (by omega) (by omega) (by rw [q5]; omega)
      rw [show Array.map (fun b => Value.int IntKind.u8 b.toNat) s.data = (Lib.strCells s).toArray from by apply Array.ext'; simp [Lib.strCells]] at hrun
      have hge := grownCap_ge w s.size 0 el
      have hsz : ((Lib.strCells s).toArray ++ Builtin.zeroCells (Value.int .u8 0).cells (grownCap w s.size 0 el - s.size)).size = grownCap w s.size 0 el := by
        have hz1 : (Value.int IntKind.u8 0).cells.size = 1 := rfl
        have hl := strV_len s
        rw [strV_lib] at hl
        simp only [Array.size_append, List.size_toArray, size_zeroCells, hl, hz1]
        omega
      refine ⟨_, _, _, w.drew.alloc (.cells ((Lib.strCells s).toArray ++ Builtin.zeroCells (Value.int .u8 0).cells (grownCap w s.size 0 el - s.size)) el), .slice (some ⟨w.heap.size, 0, none⟩) s.size (grownCap w s.size 0 el), hK'.2, .inl (by simp [execOp, hop, e1, e2, resolve, invoke, builtin, hrun]), Ext.put _ _ _, hr.add (b := ⟨el, 1, strV s, true⟩) (r := w.heap.size) (cs := (Lib.strCells s).toArray ++ Builtin.zeroCells (Value.int .u8 0).cells (grownCap w s.size 0 el - s.size)) (cs' := strV s) (below_dalloc w _) (Nat.le_refl _) rfl (heap_alloc_new w.drew _) (by rw [Array.toList_append]; exact List.take_left) (strV_fr s), ?_, fun hq => by rw [hop] at hq; cases hq⟩
      show VR _ (h.n + 1) _ _
      refine .one (.one ?_)
      have := FR.slc (μ := μ.put h.n ⟨w.heap.size, 0, ((Lib.strCells s).toArray ++ Builtin.zeroCells (Value.int .u8 0).cells (grownCap w s.size 0 el - s.size)).size, 1⟩) (n := h.n + 1) (i := h.n) (o := 0) (k := s.size) (c := grownCap w s.size 0 el) (Nat.lt_succ_self _) hge (by simp [Mu.put, hsz]) (by rw [Mu.put_self]; show Array.size _ ≠ 0; rw [hsz]; omega)
      simpa [Mu.put] using this
  · rename_i i1 p1 n1 c1 s hx1 hy1
    have hv1 := cmo_ev hx he hx1
    obtain ⟨_, rfl, _⟩ := hv1.slc
    have e2 := (cmo_ev hy he hy1).flat rfl
    split at hK
    · rename_i b1 hb1
      obtain ⟨hck, ⟨a5, a6⟩, hK2⟩ := ck_iff.1 hK
      clear hK
      simp only [Bool.and_eq_true, Nat.beq_eq] at hck
      obtain ⟨⟨⟨rfl, a1⟩, a2⟩, a3⟩ := hck
      obtain ⟨μ', w', v', hrun, hx, hrep, hvr⟩ := apps_own (ty := o.type) ht hu hie hz q4 q5 hr hb1 hv1 a1 a2 a3 a6 a5
      exact ⟨_, _, μ', w', v', hK2, .inl (by simp [execOp, hop, e2, resolve, invoke, builtin, hrun]), hx, hrep, hvr, fun hq => by rw [hop] at hq; cases hq⟩
    · exact hK.elim
  · exact hK.elim

theorem all2_ints {ns : List Int} {l : List Value} (h : All2 (FR μ n) (ns.map (Value.int .u8)) l) : l = ns.map (Value.int .u8) := by
  induction ns generalizing l with
  | nil => cases h; rfl
  | cons x ns ih =>
    cases h with
    | cons h t => rw [h.of_flat rfl, ih t]; rfl
theorem push_fold (ns : List Int) : ∀ s : ByteArray, ns.foldl (fun r n => r.push (UInt8.ofNat n.toNat)) s = ⟨(s.data.toList ++ ns.map (fun n => UInt8.ofNat n.toNat)).toArray⟩ := by
  induction ns with
  | nil => intro s; simp
  | cons x ns ih =>
    intro s
    rw [List.foldl_cons, ih]
    simp [ByteArray.push]

theorem does_bts {src dst el : TypeId} {x : Operand} {x' : MO} (hop : o.op = .convert src dst x) (hs : P.underlying src = some (.slice el)) (hel : P.underlying el = some (.int .u8)) (hd : P.underlying dst = some .string) (hx : cmo x = some x') (hr : Rep w0 μ h w) (he : ER nt μ h.n e a)
    (hK : eop C e h K (.bts x')) : Does P o a w0 μ h.n w K := by
  simp only [eop] at hK
  split at hK
  · rename_i h1
    have e1 := (cmo_ev hx he h1).flat rfl
    refine does_pure hr hK (v' := .string ⟨#[]⟩) ?_ (.same rfl)
    simp [execOp, hop, e1, run_convert_bytes_string w src dst el none 0 0 hs hel hd, Conv.bytesToString]
    rfl
  · rename_i i p k c h1
    obtain ⟨_, _, hv⟩ := (cmo_ev hx he h1).slc
    split at hK
    · rename_i b hb
      obtain ⟨l, ⟨h2, hln⟩, hK⟩ := hK
      obtain ⟨ns, hns⟩ : ∃ ns : List Int, l.map (fun b => (b.toNat : Int)) = ns := ⟨_, rfl⟩
      have h2' : (b.cells.drop p).take k = ns.map (Value.int .u8) := by rw [h2, ← hns, List.map_map]; rfl
      have h3 : l = ns.map (fun n => UInt8.ofNat n.toNat) := by
        rw [← hns, List.map_map]
        exact (List.map_id l).symm.trans (List.map_congr_left fun x _ => by simp)
      have q1 : p + k ≤ b.cells.length ∨ k = 0 := by
        have := congrArg List.length h2
        rw [List.length_take, List.length_drop, List.length_map, hln] at this
        omega
      replace h2 := h2'
      clear h2'
      · have key : ∀ (q : Addr) (c' : Nat), (loadCells q k).run P w = .ok (ns.map (Value.int .u8)).toArray w → a.eval x = .slice (some q) k c' → Does P o a w0 μ h.n w K := by
          intro q c' hq hv
          refine does_pure hr hK (v' := .string ⟨l.toArray⟩) ?_ (.same rfl)
          have := run_bytesToString w q k c' ns hq
          rw [push_fold] at this
          simp [execOp, hop, hv, run_convert_bytes_string w src dst el (some q) k c' hs hel hd, this, h3]
        rcases q1 with q1 | rfl
        rotate_left
        · have hl0 : l = [] := List.eq_nil_of_length_eq_zero hln
          have hns0 : ns = [] := by rw [← hns, hl0]; rfl
          subst hns0
          have : ∃ q c, a.eval x = .slice q 0 c := by
            rcases hv with ⟨c', hv, _⟩ | ⟨_, _, o', hv⟩ | ⟨_, _, hv⟩
            · exact ⟨_, _, hv⟩
            · exact ⟨_, _, hv⟩
            · exact ⟨_, _, hv⟩
          obtain ⟨q, c', hv⟩ := this
          cases q with
          | some q => exact key q c' (by simp [loadCells, loadCellsFrom]) hv
          | none =>
            subst hl0
            refine does_pure hr hK (v' := .string ⟨#[]⟩) ?_ (.same rfl)
            simp [execOp, hop, hv, run_convert_bytes_string w src dst el none 0 c' hs hel hd, Conv.bytesToString]
            rfl
        obtain ⟨l', hl', hall, hcell⟩ := hr.part hb p k q1
        rw [h2] at hall
        obtain rfl := all2_ints hall
        rcases hv with ⟨c', hv, _⟩ | ⟨h0, _, o', hv⟩ | ⟨h0, _, hv⟩
        · have := run_loadCells_list (P := P) w _ _ hcell
          rw [hl'] at this
          exact key _ c' this hv
        · subst h0
          have hns : ns = [] := by simpa using hl'
          subst hns
          exact key _ 0 (by simp [loadCells, loadCellsFrom]) hv
        · subst h0
          have hns : ns = [] := by simpa using hl'
          subst hns
          have hl0 : l = [] := by rw [h3]; rfl
          subst hl0
          refine does_pure hr hK (v' := .string ⟨#[]⟩) ?_ (.same rfl)
          simp [execOp, hop, hv, run_convert_bytes_string w src dst el none 0 0 hs hel hd, Conv.bytesToString]
          rfl
    · exact hK.elim
  · exact hK.elim
end
end Go.Mini
