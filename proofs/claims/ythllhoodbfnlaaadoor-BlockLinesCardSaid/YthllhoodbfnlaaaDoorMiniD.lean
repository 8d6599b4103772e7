/- Mini: what each operation does. No condition. -/
import Derived.Test.YthllhoodbfnlaaaDoorMiniC
import Derived.Great.BuildSlice
import Derived.Laws.StructEq
import Derived.ChangeKeysEq
namespace Go.Mini
open Go Go.RowKit
set_option linter.unusedVariables false
set_option linter.unusedSimpArgs false

section
variable {P : Program} {nt : NT} {w0 : Org P} {w : World} {μ : Mu} {h : Heap} {e : Env} {a : Act} {o : Oper} {K : VK} {n : Nat} {C : CT}

theorem aggN_none {t : TypeId} (ht : aggN P t = some none) (w : World) : (isAgg t).run P w = .ok false w := by
  unfold aggN at ht
  split at ht <;> simp_all [isAgg, run_underlying]
theorem aggN_some {t : TypeId} {k : Nat} (ht : aggN P t = some (some k)) (w : World) : (isAgg t).run P w = .ok true w ∧ (sizeOf t).run P w = .ok k w := by
  unfold aggN at ht
  split at ht <;> simp_all [isAgg, run_underlying, sizeOf, typeInfo]

theorem does_mv {x : Operand} {y : MO} (hop : o.op = .move x ∨ o.op = .assign x) (hc : cmo x = some y) (hr : Rep w0 μ h w) (he : ER nt μ h.n e a) {v : Value} (hv : y.ev e = some v) (hK : K v h) : Does P o a w0 μ h.n w K := by
  refine does_pure hr hK ?_ (cmo_ev hc he hv)
  rcases hop with hop | hop <;> simp [execOp, hop]

theorem does_pick {c x y : Operand} {c' x' y' : MO} (hop : o.op = .pick c x y) (hc : cmo c = some c') (hx : cmo x = some x') (hy : cmo y = some y') (hr : Rep w0 μ h w) (he : ER nt μ h.n e a) (hK : vpick (c'.ev e) (x'.ev e) (y'.ev e) h K) : Does P o a w0 μ h.n w K := by
  unfold vpick at hK
  split at hK
  · rename_i t ht
    have hcv := (cmo_ev hc he ht).flat rfl
    cases t with
    | true =>
      have this : kv (x'.ev e) h K := hK
      unfold kv at this
      split at this
      · rename_i v hv
        exact does_pure hr this (by simp [execOp, hop, hcv, asBool]) (cmo_ev hx he hv)
      · exact this.elim
    | false =>
      have this : kv (y'.ev e) h K := hK
      unfold kv at this
      split at this
      · rename_i v hv
        exact does_pure hr this (by simp [execOp, hop, hcv, asBool]) (cmo_ev hy he hv)
      · exact this.elim
  · exact hK.elim

theorem does_bin {op : BinOp} {t ty : TypeId} {x y : Operand} {x' y' : MO} (hop : o.op = .binOp op t x y ty) (hx : cmo x = some x') (hy : cmo y = some y') (hr : Rep w0 μ h w) (he : ER nt μ h.n e a) (hK : vbin op (x'.ev e) (y'.ev e) h K) : Does P o a w0 μ h.n w K := by
  unfold vbin at hK
  split at hK
  · rename_i k i k' j hi hj
    cases hsh : isSh op with
    | true => rw [hsh] at hK; exact run_sh_int hop hr ((cmo_ev hx he hi).flat rfl) ((cmo_ev hy he hj).flat rfl) hK
    | false =>
    rw [hsh] at hK
    cases hkk : kindEq k k' with
    | false => dsimp only [cond] at hK; rw [hkk] at hK; exact hK.elim
    | true =>
    dsimp only [cond] at hK
    rw [hkk] at hK
    obtain rfl := kindEq_eq hkk
    exact run_bin_int hop hr ((cmo_ev hx he hi).flat rfl) ((cmo_ev hy he hj).flat rfl) hK
  · rename_i s s' hi hj
    have h1 := (cmo_ev hx he hi).flat rfl
    have h2 := (cmo_ev hy he hj).flat rfl
    have heq : (s.toList == s'.toList) = decide (s = s') := by
      rw [Bool.eq_iff_iff, ByteArray.toList_eq, ByteArray.toList_eq]
      simp only [beq_iff_eq, decide_eq_true_eq]
      constructor
      · intro hh; exact ByteArray.ext (Array.ext' hh)
      · intro hh; rw [hh]
    unfold sbin at hK
    split at hK
    · have : ¬ (9223372036854775807 : Int) < (s.size : Int) + (s'.size : Int) := by omega
      exact does_pure hr hK.2 (v' := .string (s ++ s')) (by simp [execOp, hop, h1, h2, eqGuard, binOp, Op.stringOp, IntKind.max, IntKind.signed, IntKind.bits, this]) (.same rfl)
    · exact does_pure hr hK (v' := .bool (decide (s = s'))) (by simp [execOp, hop, h1, h2, eqGuard, binOp, Op.stringOp, heq]) (.same rfl)
    · exact does_pure hr hK (v' := .bool (!decide (s = s'))) (by simp [execOp, hop, h1, h2, eqGuard, binOp, Op.stringOp, heq]) (.same rfl)
    · exact hK.elim
  · exact hK.elim

theorem does_bb {op : BinOp} {t ty : TypeId} {x y : Operand} {x' y' : MO} (hop : o.op = .binOp op t x y ty) (ht : P.underlying t = some .bool) (hx : cmo x = some x') (hy : cmo y = some y') (hr : Rep w0 μ h w) (he : ER nt μ h.n e a) (hK : vbb op (x'.ev e) (y'.ev e) h K) : Does P o a w0 μ h.n w K := by
  unfold vbb at hK
  split at hK
  · rename_i b b' hi hj
    have h1 := (cmo_ev hx he hi).flat rfl
    have h2 := (cmo_ev hy he hj).flat rfl
    unfold bbin at hK
    split at hK
    · exact does_pure hr hK (v' := .bool (b == b')) (by simp [execOp, hop, h1, h2, eqGuard, run_eql_bool w t b b' ht]) (.same rfl)
    · exact does_pure hr hK (v' := .bool !(b == b')) (by simp [execOp, hop, h1, h2, eqGuard, binOp, run_equal_bool w t b b' ht]) (.same rfl)
    · exact hK.elim
  · exact hK.elim

theorem vcell_flat {s : Sh} {x y : Value} {r : Bool} (h : vcell s x y = some r) : flatV x = true ∧ flatV y = true := by
  unfold vcell at h
  split at h <;> first | exact ⟨rfl, rfl⟩ | cases h
theorem veqs_cons {s : Sh} {l : List Sh} {xs ys : List Value} {r : Bool} (h : veqs (s :: l) xs ys = some r) : ∃ x xs' y ys' a, xs = x :: xs' ∧ ys = y :: ys' ∧ vcell s x y = some a ∧ ((l = [] ∧ xs' = [] ∧ ys' = [] ∧ r = a) ∨ ∃ b, veqs l xs' ys' = some b ∧ r = (a && b)) := by
  unfold veqs at h
  split at h
  · rename_i e; cases e
    exact ⟨_, _, _, _, _, rfl, rfl, h, .inl ⟨rfl, rfl, rfl, rfl⟩⟩
  · rename_i e; cases e
    split at h
    · rename_i a b ha hb
      exact ⟨_, _, _, _, a, rfl, rfl, ha, .inr ⟨b, hb, (Option.some.inj h).symm⟩⟩
    · cases h
  · cases h
theorem veqs_flat : ∀ {sh : List Sh} {xs ys : List Value} {r : Bool}, veqs sh xs ys = some r → xs.all flatV = true ∧ ys.all flatV = true
  | [], xs, ys, r, h => by unfold veqs at h; cases h
  | s :: l, xs, ys, r, h => by
    obtain ⟨x, xs', y, ys', a, rfl, rfl, ha, h | ⟨b, hb, _⟩⟩ := veqs_cons h
    · obtain ⟨_, rfl, rfl, _⟩ := h
      simp [vcell_flat ha]
    · have := veqs_flat hb
      simp [vcell_flat ha, this]
theorem run_cell {P : Program} {w : World} {d : Nat} {t : TypeId} {s : Sh} {x y : Value} {a : Bool} (hs : P.underlying t = some (match s with | .int k => .int k | .str => .string | _ => .bool)) (h : vcell s x y = some a) : (Op.equalIn (d + 1) t x y).run P w = .ok a w := by
  unfold vcell at h
  split at h
  · rename_i k k1 p k2 q
    cases hk : (kindEq k1 k && kindEq k2 k) with
    | false => rw [hk] at h; cases h
    | true =>
      rw [hk] at h
      obtain rfl := Option.some.inj h
      simp only [Bool.and_eq_true] at hk
      obtain rfl := kindEq_eq hk.1
      obtain rfl := kindEq_eq hk.2
      simp [Op.equalIn, run_underlying hs, Bool.beq_eq_decide_eq]
  · rename_i p q
    obtain rfl := Option.some.inj h
    have heq : (p == q) = decide (p = q) := by
      rw [beq_toListBytes, Bool.eq_iff_iff, ByteArray.toList_eq, ByteArray.toList_eq]
      simp only [beq_iff_eq, decide_eq_true_eq]
      constructor
      · intro hh; exact ByteArray.ext (Array.ext' hh)
      · intro hh; rw [hh]
    simp [Op.equalIn, run_underlying hs, heq]
  · obtain rfl := Option.some.inj h
    exact run_equalIn_bool w d t _ _ hs
  · cases h
theorem run_flds {P : Program} {w : World} {d : Nat} {xs ys : Array Value} : ∀ {fs : List Field} {i : Nat} {sh : List Sh} {r : Bool}, flds P i fs = some sh → veqs sh (xs.toList.drop i) (ys.toList.drop i) = some r → (Op.eqFields (d + 1) xs ys fs).run P w = .ok r w
  | [], i, sh, r, h, hv => by
    obtain rfl := Option.some.inj h
    unfold veqs at hv; cases hv
  | f :: fs, i, sh, r, h, hv => by
    unfold flds at h
    cases hn : (!(f.name == "_") && Nat.beq f.offset i) with
    | false => rw [hn] at h; cases h
    | true =>
    rw [hn] at h
    simp only [Bool.and_eq_true, Bool.not_eq_true', beq_eq_false_iff_ne] at hn
    have ho : f.offset = i := Nat.eq_of_beq_eq_true hn.2
    have key : ∃ s l, sh = s :: l ∧ flds P (i + 1) fs = some l ∧ P.underlying f.type = some (match s with | .int k => .int k | .str => .string | _ => .bool) ∧ P.plainKey f.type = true := by
      dsimp only [cond] at h
      split at h
      · rename_i k l h1 h2; exact ⟨.int k, l, (Option.some.inj h).symm, h2, h1, by unfold Program.plainKey; rw [h1]⟩
      · rename_i l h1 h2; exact ⟨.str, l, (Option.some.inj h).symm, h2, h1, by unfold Program.plainKey; rw [h1]⟩
      · rename_i l h1 h2; exact ⟨.bool, l, (Option.some.inj h).symm, h2, h1, by unfold Program.plainKey; rw [h1]⟩
      · cases h
    obtain ⟨s, l, rfl, hl, hu, hp⟩ := key
    obtain ⟨x, xs', y, ys', a, e1, e2, ha, hr⟩ := veqs_cons hv
    have g1 : xs[i]? = some x := by
      have := congrArg (fun z => z[0]?) e1
      simpa [List.getElem?_drop] using this
    have g2 : ys[i]? = some y := by
      have := congrArg (fun z => z[0]?) e2
      simpa [List.getElem?_drop] using this
    have t1 : xs.toList.drop (i + 1) = xs' := by rw [← List.drop_drop, e1]; rfl
    have t2 : ys.toList.drop (i + 1) = ys' := by rw [← List.drop_drop, e2]; rfl
    simp only [Op.eqFields, hn.1, ne_eq, not_false_eq_true, if_true, Sem.run_bind, ho, run_part_plain w hp g1, run_part_plain w hp g2, Result.andThen_ok, run_cell hu ha]
    cases a with
    | false =>
      have : r = false := by rcases hr with ⟨_, _, _, h⟩ | ⟨b, _, h⟩ <;> rw [h] <;> rfl
      subst this
      simp
    | true =>
      rcases hr with ⟨rfl, rfl, rfl, rfl⟩ | ⟨b, hb, rfl⟩
      · have : fs = [] := by
          cases fs with
          | nil => rfl
          | cons f fs =>
            unfold flds at hl
            cases hc : (!(f.name == "_") && Nat.beq f.offset (i + 1)) with
            | false => rw [hc] at hl; cases hl
            | true =>
              rw [hc] at hl
              dsimp only [cond] at hl
              split at hl <;> cases hl
        subst this
        simp [Op.eqFields]
      · have := run_flds (w := w) (d := d) (xs := xs) (ys := ys) hl (by rw [t1, t2]; exact hb)
        simpa using this
theorem run_flat {P : Program} {w : World} {t : TypeId} {fs : Array Field} {sh : List Sh} {xs ys : Array Value} {r : Bool} (ht : P.underlying t = some (.struct fs)) (hs : eqSh P t fs.toList = some sh) (hv : veqs sh xs.toList ys.toList = some r) :
    (Op.equalIn 10000 t (.agg xs) (.agg ys)).run P w = .ok r w ∧ P.eqGuardType P.depth t = false := by
  unfold eqSh at hs
  cases hc : (!P.stoodInHeld t && !P.eqGuardType P.depth t) with
  | false => rw [hc] at hs; cases hs
  | true =>
    rw [hc] at hs
    simp only [Bool.and_eq_true, Bool.not_eq_true'] at hc
    have hf : P.fieldsOf t = fs := by simp [Program.fieldsOf, ht]
    rw [run_equalIn_agg w 9999 t xs ys (by rw [hf]; exact ht) hc.1, hf]
    exact ⟨run_flds hs (by simpa using hv), hc.2⟩
theorem all2_flat {cs cs' : List Value} (h : All2 (FR μ n) cs cs') (hf : cs.all flatV = true) : cs' = cs := by
  induction h with
  | nil => rfl
  | cons h1 h2 ih =>
    simp only [List.all_cons, Bool.and_eq_true] at hf
    rw [h1.of_flat hf.1, ih hf.2]
theorem vr_agg {xs : Array Value} {v' : Value} (h : VR μ n (.agg xs) v') (hf : xs.toList.all flatV = true) : v' = .agg xs := by
  cases h with
  | one h => cases h with
    | one h => exact absurd rfl (h.flatness.1 xs)
    | @agg cs cs' h =>
      rw [all2_flat h (by simpa using hf)]
theorem does_eql {t ty : TypeId} {x y : Operand} {x' y' : MO} {fs : Array Field} {sh : List Sh} (hop : o.op = .binOp .eql t x y ty) (ht : P.underlying t = some (.struct fs)) (hs : eqSh P t fs.toList = some sh) (hx : cmo x = some x') (hy : cmo y = some y') (hr : Rep w0 μ h w) (he : ER nt μ h.n e a) (hK : veqa false sh (x'.ev e) (y'.ev e) h K) : Does P o a w0 μ h.n w K := by
  unfold veqa at hK
  split at hK
  · rename_i xs ys hi hj
    split at hK
    · rename_i r hv
      have h1 := vr_agg (cmo_ev hx he hi) (veqs_flat hv).1
      have h2 := vr_agg (cmo_ev hy he hj) (veqs_flat hv).2
      obtain ⟨g1, g2⟩ := run_flat (w := w) ht hs hv
      exact does_pure hr hK (v' := .bool r) (by simp [execOp, hop, h1, h2, run_eqGuard_agg w .eql t x y xs ys g2, run_eql_struct w t xs ys, g1]) (.same rfl)
    · exact hK.elim
  · exact hK.elim
theorem does_neq {t ty : TypeId} {x y : Operand} {x' y' : MO} {fs : Array Field} {sh : List Sh} (hop : o.op = .binOp .neq t x y ty) (ht : P.underlying t = some (.struct fs)) (hs : eqSh P t fs.toList = some sh) (hx : cmo x = some x') (hy : cmo y = some y') (hr : Rep w0 μ h w) (he : ER nt μ h.n e a) (hK : veqa true sh (x'.ev e) (y'.ev e) h K) : Does P o a w0 μ h.n w K := by
  unfold veqa at hK
  split at hK
  · rename_i xs ys hi hj
    split at hK
    · rename_i r hv
      have h1 := vr_agg (cmo_ev hx he hi) (veqs_flat hv).1
      have h2 := vr_agg (cmo_ev hy he hj) (veqs_flat hv).2
      obtain ⟨g1, g2⟩ := run_flat (w := w) ht hs hv
      exact does_pure hr hK (v' := .bool !r) (by simp [execOp, hop, h1, h2, run_eqGuard_agg w .neq t x y xs ys g2, run_neq_struct w t xs ys, g1]) (.same rfl)
    · exact hK.elim
  · exact hK.elim

theorem does_un {op : UnOp} {t : TypeId} {x : Operand} {x' : MO} (hop : o.op = .unOp op t x) (hx : cmo x = some x') (hr : Rep w0 μ h w) (he : ER nt μ h.n e a) (hK : vun op (x'.ev e) h K) : Does P o a w0 μ h.n w K := by
  unfold vun at hK
  split at hK
  · rename_i b hb
    have h1 := (cmo_ev hx he hb).flat rfl
    exact does_pure hr hK (v' := .bool !b) (by simp [execOp, hop, h1, Op.unary]) (.same rfl)
  · rename_i k i hb
    have h1 := (cmo_ev hx he hb).flat rfl
    exact does_pure hr hK.2 (v' := .int k (0 - i)) (by simp only [execOp, hop, h1, Op.unary, Op.intArith, Sem.run_bind, Sem.run_pure, Result.andThen_ok, wrap_rng hK.1]) (.same rfl)
  · exact hK.elim

theorem does_cint {src dst : TypeId} {k : IntKind} {sk : IntKind} {x : Operand} {x' : MO} (hop : o.op = .convert src dst x) (hs : P.underlying src = some (.int sk)) (hd : P.underlying dst = some (.int k)) (hx : cmo x = some x') (hr : Rep w0 μ h w) (he : ER nt μ h.n e a)
    (hK : eop C e h K (.cint k x')) : Does P o a w0 μ h.n w K := by
  simp only [eop] at hK
  split at hK
  · rename_i k' i hi
    have h1 := (cmo_ev hx he hi).flat rfl
    exact does_pure hr hK.2 (v' := .int k i) (by simp [execOp, hop, h1, convert, run_underlying hs, run_underlying hd, Conv.intToInt, wrap_rng hK.1]) (.same rfl)
  · exact hK.elim

theorem does_cid {src dst : TypeId} {x : Operand} {x' : MO} (hop : o.op = .convert src dst x) (hs : P.underlying src = some .string) (hd : P.underlying dst = some .string) (hx : cmo x = some x') (hr : Rep w0 μ h w) (he : ER nt μ h.n e a)
    (hK : eop C e h K (.cid x')) : Does P o a w0 μ h.n w K := by
  simp only [eop] at hK
  split at hK
  · rename_i s hi
    have h1 := (cmo_ev hx he hi).flat rfl
    exact does_pure hr hK (v' := .string s) (by simp [execOp, hop, h1, convert, run_underlying hs, run_underlying hd]) (.same rfl)
  · exact hK.elim

theorem copt_ev {lo : Option Operand} {lo' : Option MO} (hc : copt lo = some lo') (he : ER nt μ n e a) : (∀ v, oev e lo' = some (some v) → ∃ x, lo = some x ∧ VR μ n v (a.eval x)) ∧ (oev e lo' = none → lo = none) := by
  cases lo with
  | none =>
    simp only [copt, Option.some.injEq] at hc
    subst hc
    exact ⟨fun v hv => (by cases hv), fun _ => rfl⟩
  | some x =>
    simp only [copt, Option.map_eq_some_iff] at hc
    obtain ⟨y, hy, rfl⟩ := hc
    exact ⟨fun v hv => ⟨x, rfl, cmo_ev hy he (Option.some.inj hv)⟩, fun hv => by cases hv⟩

theorem does_sub {t : TypeId} {x : Operand} {lo hi : Option Operand} {x' : MO} {lo' hi' : Option MO} (hop : o.op = .slice t x lo hi none) (ht : P.underlying t = some .string) (hx : cmo x = some x') (hlo : copt lo = some lo') (hhi : copt hi = some hi') (hr : Rep w0 μ h w) (he : ER nt μ h.n e a)
    (hK : vsub (x'.ev e) (oev e lo') (oev e hi') h K) : Does P o a w0 μ h.n w K := by
  obtain ⟨l1, l2⟩ := copt_ev hlo he
  obtain ⟨r1, r2⟩ := copt_ev hhi he
  unfold vsub at hK
  split at hK
  · rename_i s h1 h2 h3
    have e1 := (cmo_ev hx he h1).flat rfl
    obtain rfl := l2 h2
    obtain rfl := r2 h3
    refine does_pure hr hK (v' := .string s) ?_ (.same rfl)
    simp [execOp, hop, e1, Instr.sliceAt, Instr.slice, run_underlying ht, Instr.sliceBounds]
  · rename_i s k l h1 h2 h3
    have e1 := (cmo_ev hx he h1).flat rfl
    obtain ⟨y, rfl, hy⟩ := l1 _ h2
    have e2 := hy.flat rfl
    obtain rfl := r2 h3
    refine does_pure hr hK.2 (v' := .string (s.extract l.toNat s.size)) ?_ (.same rfl)
    simp [execOp, hop, e1, e2, Instr.sliceAt, Instr.slice, run_underlying ht, Instr.sliceBounds, Instr.sliceBound, asIntOf, hK.1]
  · rename_i s k r h1 h2 h3
    have e1 := (cmo_ev hx he h1).flat rfl
    obtain ⟨y, rfl, hy⟩ := r1 _ h3
    have e2 := hy.flat rfl
    obtain rfl := l2 h2
    refine does_pure hr hK.2 (v' := .string (s.extract 0 r.toNat)) ?_ (.same rfl)
    simp [execOp, hop, e1, e2, Instr.sliceAt, Instr.slice, run_underlying ht, Instr.sliceBounds, Instr.sliceBound, asIntOf, hK.1]
  · rename_i s k l k' r h1 h2 h3
    have e1 := (cmo_ev hx he h1).flat rfl
    obtain ⟨y, rfl, hy⟩ := l1 _ h2
    have e2 := hy.flat rfl
    obtain ⟨z, rfl, hz⟩ := r1 _ h3
    have e3 := hz.flat rfl
    obtain ⟨⟨q1, q2, q3⟩, hK⟩ := hK
    have q4 : 0 ≤ r := by omega
    have q5 : l ≤ (r.toNat : Int) := by omega
    refine does_pure hr hK (v' := .string (s.extract l.toNat r.toNat)) ?_ (.same rfl)
    have q6 : l ≤ max r 0 := by omega
    simp [execOp, hop, e1, e2, e3, Instr.sliceAt, Instr.slice, run_underlying ht, Instr.sliceBounds, Instr.sliceBound, asIntOf, q1, q3, q4, q5, q6]
  · exact hK.elim

theorem does_fa {s : TypeId} {fs : Array Field} {f : Nat} {fd : Field} {i : TypeInfo} {x : Operand} {x' : MO} (hop : o.op = .fieldAddr s x f) (hs : P.underlying s = some (.struct fs)) (hf : fs[f]? = some fd) (hi : P.info? fd.type = some i) (hz : i.size ≠ 0) (hx : cmo x = some x') (hr : Rep w0 μ h w) (he : ER nt μ h.n e a)
    (hK : eop C e h K (.fa fd.offset x')) : Does P o a w0 μ h.n w K := by
  simp only [eop] at hK
  split at hK
  · rename_i j p hj
    have hvj := cmo_ev hx he hj
    obtain ⟨h1, h2⟩ := hvj.ptr
    refine does_pure hr hK (v' := .pointer (some ⟨(μ j).r, (μ j).d + (p + fd.offset), none⟩)) ?_ (.one (.one (.ptr h1 hvj.ptrz)))
    simp [execOp, hop, h2, Instr.fieldAt, run_underlying hs, hf, Instr.sureAddr, fieldPlace, sizeOf, typeInfo, hi, hz, add_lit0, Nat.add_assoc]
  · exact hK.elim

theorem run_part {t : TypeId} {k : Option Nat} (ht : aggN P t = some k) {cs cs' : List Value} (hc : All2 (FR μ n) cs cs') {off : Nat} {h : Heap} (hn : h.n = n) (hK : vpart cs off k h K) : ∃ v v', K v h ∧ (part t cs'.toArray off).run P w = .ok v' w ∧ VR μ n v v' := by
  unfold vpart kv at hK
  split at hK
  · split at hK
    · rename_i v hv
      obtain ⟨v', h1, h2⟩ := hc.get hv
      exact ⟨v, v', hK, by simp [part, aggN_none ht, h1], .one (.one h2)⟩
    · exact hK.elim
  · rename_i k
    refine ⟨_, .agg ((cs'.drop off).take k).toArray, (ck_le.1 hK).2, ?_, .one (.agg ((hc.drop off).take k))⟩
    simp only [part, Sem.run_bind, (aggN_some ht w).1, (aggN_some ht w).2, Result.andThen_ok, if_true, Sem.run_pure]
    simp [List.extract_eq_take_drop]

theorem does_fld {t : TypeId} {fs : Array Field} {f : Nat} {fd : Field} {k : Option Nat} {x : Operand} {x' : MO} (hop : o.op = .field t x f) (hs : P.underlying t = some (.struct fs)) (hf : fs[f]? = some fd) (ha : aggN P fd.type = some k) (hx : cmo x = some x') (hr : Rep w0 μ h w) (he : ER nt μ h.n e a)
    (hK : vfld fd.offset k (x'.ev e) h K) : Does P o a w0 μ h.n w K := by
  unfold vfld at hK
  split at hK
  · rename_i cs hcs
    obtain ⟨cs', h1, h2⟩ := (cmo_ev hx he hcs).agg
    obtain ⟨v, v', h3, h4, h5⟩ := run_part (w := w) ha h2 rfl hK
    exact does_pure hr h3 (by simp [execOp, hop, h1, Instr.field, run_underlying hs, hf, asAgg, h4]) h5
  · exact hK.elim

theorem does_ia {t el : TypeId} {i : TypeInfo} {x y : Operand} {x' y' : MO} (hop : o.op = .indexAddr t x y) (hs : P.underlying t = some (.slice el)) (hi : P.info? el = some i) (hx : cmo x = some x') (hy : cmo y = some y') (hr : Rep w0 μ h w) (he : ER nt μ h.n e a)
    (hK : via i.size (x'.ev e) (y'.ev e) h K) : Does P o a w0 μ h.n w K := by
  unfold via at hK
  split at hK
  · rename_i b p m c k j h1 h2
    have e2 := (cmo_ev hy he h2).flat rfl
    obtain ⟨hb, _, hv⟩ := (cmo_ev hx he h1).slc
    obtain ⟨⟨q1, q2⟩, hK⟩ := hK
    rcases hv with ⟨c', hv, _, _, hz⟩ | ⟨h0, _⟩ | ⟨h0, _⟩
    · refine does_pure hr hK (v' := .pointer (some ⟨(μ b).r, (μ b).d + (p + j.toNat * i.size), none⟩)) ?_ (.one (.one (.ptr hb hz)))
      simp [execOp, hop, hv, e2, Instr.indexAt, asIntOf, run_underlying hs, q1, q2, sizeOf, typeInfo, hi, add_lit0, Nat.add_assoc]
    · omega
    · omega
  · exact hK.elim

theorem does_iaA {t el : TypeId} {len : Nat} {i : TypeInfo} {x y : Operand} {x' y' : MO} (hop : o.op = .indexAddr t x y) (hs : P.underlying t = some (.array len el)) (hi : P.info? el = some i) (hx : cmo x = some x') (hy : cmo y = some y') (hr : Rep w0 μ h w) (he : ER nt μ h.n e a)
    (hK : viaA len i.size (x'.ev e) (y'.ev e) h K) : Does P o a w0 μ h.n w K := by
  unfold viaA at hK
  split at hK
  · rename_i b p k j h1 h2
    have e2 := (cmo_ev hy he h2).flat rfl
    have hvj := cmo_ev hx he h1
    obtain ⟨hb, hv⟩ := hvj.ptr
    obtain ⟨⟨q1, q2⟩, hK⟩ := hK
    refine does_pure hr hK (v' := .pointer (some ⟨(μ b).r, (μ b).d + (p + j.toNat * i.size), none⟩)) ?_ (.one (.one (.ptr hb hvj.ptrz)))
    simp [execOp, hop, hv, e2, Instr.indexAt, asIntOf, run_underlying hs, Instr.sureAddr, q1, q2, sizeOf, typeInfo, hi, add_lit0, Nat.add_assoc]
  · exact hK.elim

theorem does_ixs {t : TypeId} {x y : Operand} {x' y' : MO} (hop : o.op = .index t x y) (hs : P.underlying t = some .string) (hx : cmo x = some x') (hy : cmo y = some y') (hr : Rep w0 μ h w) (he : ER nt μ h.n e a)
    (hK : vixs (x'.ev e) (y'.ev e) h K) : Does P o a w0 μ h.n w K := by
  unfold vixs at hK
  split at hK
  · rename_i s k j h1 h2
    have e1 := (cmo_ev hx he h1).flat rfl
    have e2 := (cmo_ev hy he h2).flat rfl
    obtain ⟨⟨q1, q2⟩, hK⟩ := hK
    have q3 : j.toNat < s.size := by omega
    refine does_pure hr hK (v' := .int .u8 (byteAt s j.toNat).toNat) ?_ (.same rfl)
    have : s[j.toNat]? = some (byteAt s j.toNat) := by
      rw [getElem?_pos s j.toNat q3]
      congr 1
      simp only [byteAt, List.getD_eq_getElem?_getD, Array.getElem?_toList, ByteArray.getElem_eq_getElem_data]
      rw [Array.getElem?_eq_getElem (by exact q3)]
      rfl
    simp [execOp, hop, e1, e2, Instr.index, asIntOf, run_underlying hs, q1, this]
  · exact hK.elim

theorem does_ixA {t el : TypeId} {len : Nat} {i : TypeInfo} {k : Option Nat} {x y : Operand} {x' y' : MO} (hop : o.op = .index t x y) (hs : P.underlying t = some (.array len el)) (hi : P.info? el = some i) (ha : aggN P el = some k) (hx : cmo x = some x') (hy : cmo y = some y') (hr : Rep w0 μ h w) (he : ER nt μ h.n e a)
    (hK : vixA len i.size k (x'.ev e) (y'.ev e) h K) : Does P o a w0 μ h.n w K := by
  unfold vixA at hK
  split at hK
  · rename_i cs kk j h1 h2
    have e2 := (cmo_ev hy he h2).flat rfl
    obtain ⟨cs', e1, hc⟩ := (cmo_ev hx he h1).agg
    obtain ⟨⟨q1, q2⟩, hK⟩ := hK
    obtain ⟨v, v', h3, h4, h5⟩ := run_part (w := w) ha hc rfl hK
    exact does_pure hr h3 (by simp [execOp, hop, e1, e2, Instr.index, asIntOf, run_underlying hs, q1, q2, sizeOf, typeInfo, hi, h4]) h5
  · exact hK.elim

theorem ld_run {t : TypeId} {k : Option Nat} (ha : aggN P t = some k) (hr : Rep w0 μ h w) {x : Option Value} {y : Value} (hx : ∀ v, x = some v → VR μ h.n v y) (hK : vld k x h K) :
    ∃ p v v', y = .pointer (some p) ∧ K v h ∧ (loadVar t p).run P w = .ok v' w ∧ VR μ h.n v v' := by
  unfold vld at hK
  split at hK
  · rename_i i p
    obtain ⟨hi, e1⟩ := (hx _ rfl).ptr
    split at hK
    · rename_i b hb
      unfold vpart kv at hK
      split at hK
      · split at hK
        · rename_i v hv
          obtain ⟨v', hc, hf⟩ := hr.reads i b hb p v hv
          exact ⟨_, v, v', e1, hK, by simp [loadVar, aggN_none ha, load, Sem.run, hc], .one (.one hf)⟩
        · exact hK.elim
      · rename_i k
        replace hK := ck_le.1 hK
        obtain ⟨l, hl, hall, hcell⟩ := hr.part hb p k hK.1
        have hld := run_loadCells_list (P := P) w ⟨(μ i).r, (μ i).d + p, none⟩ l hcell
        rw [hl] at hld
        exact ⟨_, _, .agg l.toArray, e1, hK.2, by simp [loadVar, (aggN_some ha w).1, (aggN_some ha w).2, hld], .one (.agg hall)⟩
    · exact hK.elim
  · exact hK.elim

theorem does_ld {t : TypeId} {k : Option Nat} {x : Operand} {x' : MO} (hop : o.op = .load t x) (ha : aggN P t = some k) (hx : cmo x = some x') (hr : Rep w0 μ h w) (he : ER nt μ h.n e a) (hK : vld k (x'.ev e) h K) : Does P o a w0 μ h.n w K := by
  obtain ⟨p, v, v', h1, h2, h3, h4⟩ := ld_run ha hr (fun v hv => cmo_ev hx he hv) hK
  exact does_pure hr h2 (by simp [execOp, hop, h1, Instr.loadAt, Instr.sureAddr, h3]) h4

theorem does_nil {x : Operand} {x' : MO} (hop : o.op = .nilCheck x) (hx : cmo x = some x') (hr : Rep w0 μ h w) (he : ER nt μ h.n e a) (hK : vnil (x'.ev e) h K) : Does P o a w0 μ h.n w K := by
  unfold vnil at hK
  split at hK
  · rename_i p h1
    have hv := cmo_ev hx he h1
    have e1 := hv.ptr'
    obtain ⟨q, e1⟩ := e1
    rw [e1] at hv
    exact does_pure hr hK (v' := .pointer (some q)) (by simp [execOp, hop, e1]) hv
  · exact hK.elim

theorem does_lens {t : TypeId} {x : Operand} {x' : MO} (hop : o.op = .call ⟨.builtin .len, #[x], #[t]⟩) (hs : P.underlying t = some .string) (hx : cmo x = some x') (hr : Rep w0 μ h w) (he : ER nt μ h.n e a) (hK : vlens (x'.ev e) h K) : Does P o a w0 μ h.n w K := by
  unfold vlens at hK
  split at hK
  · rename_i s h1
    have e1 := (cmo_ev hx he h1).flat rfl
    exact does_pure hr hK (v' := .int .i64 s.size) (by simp [execOp, hop, e1, resolve, invoke, builtin, Builtin.len_, run_underlying hs, goInt]) (.same rfl)
  · exact hK.elim

theorem does_lenl {t el : TypeId} {x : Operand} {x' : MO} (hop : o.op = .call ⟨.builtin .len, #[x], #[t]⟩) (hs : P.underlying t = some (.slice el)) (hx : cmo x = some x') (hr : Rep w0 μ h w) (he : ER nt μ h.n e a) (hK : vlenl (x'.ev e) h K) : Does P o a w0 μ h.n w K := by
  unfold vlenl at hK
  split at hK
  · rename_i h1
    have e1 := (cmo_ev hx he h1).flat rfl
    exact does_pure hr hK (v' := .int .i64 0) (by simp [execOp, hop, e1, resolve, invoke, builtin, Builtin.len_, run_underlying hs, goInt]) (.same rfl)
  · rename_i i p k c h1
    obtain ⟨_, _, hv⟩ := (cmo_ev hx he h1).slc
    have e1 : ∃ q c, a.eval x = .slice q k c := by
      rcases hv with ⟨c', hv, _⟩ | ⟨h0, _, o', hv⟩ | ⟨h0, _, hv⟩
      · exact ⟨_, _, hv⟩
      · exact ⟨_, _, h0 ▸ hv⟩
      · exact ⟨_, _, h0 ▸ hv⟩
    obtain ⟨q, c, e1⟩ := e1
    exact does_pure hr hK (v' := .int .i64 k) (by simp [execOp, hop, e1, resolve, invoke, builtin, Builtin.len_, run_underlying hs, goInt]) (.same rfl)
  · exact hK.elim

theorem does_ext {x : Operand} {x' : MO} {i : Nat} (hop : o.op = .extract x i) (hx : cmo x = some x') (hr : Rep w0 μ h w) (he : ER nt μ h.n e a) (hK : vext i (x'.ev e) h K) : Does P o a w0 μ h.n w K := by
  unfold vext kv at hK
  split at hK
  · rename_i vs h1
    obtain ⟨vs', e1, hall⟩ := (cmo_ev hx he h1).tuple
    split at hK
    · rename_i v hv
      obtain ⟨v', h2, h3⟩ := hall.get hv
      exact does_pure hr hK (v' := v') (by simp [execOp, hop, e1, Instr.extract, h2]) (.one h3)
    · exact hK.elim
  · exact hK.elim

theorem does_mx {x y : Operand} {tys : Array TypeId} {x' y' : MO} (hop : o.op = .call ⟨.builtin .max, #[x, y], tys⟩) (hx : cmo x = some x') (hy : cmo y = some y') (hr : Rep w0 μ h w) (he : ER nt μ h.n e a) (hK : vmx (x'.ev e) (y'.ev e) h K) : Does P o a w0 μ h.n w K := by
  unfold vmx at hK
  split at hK
  · rename_i k i k' j h1 h2
    have e1 := (cmo_ev hx he h1).flat rfl
    have e2 := (cmo_ev hy he h2).flat rfl
    refine does_pure hr hK (v' := .int k (max i j)) ?_ (.same rfl)
    simp [execOp, hop, e1, e2, resolve, invoke, builtin, Builtin.max_, Builtin.max2]
    omega
  · exact hK.elim

theorem does_mn {x y : Operand} {tys : Array TypeId} {x' y' : MO} (hop : o.op = .call ⟨.builtin .min, #[x, y], tys⟩) (hx : cmo x = some x') (hy : cmo y = some y') (hr : Rep w0 μ h w) (he : ER nt μ h.n e a) (hK : vmn (x'.ev e) (y'.ev e) h K) : Does P o a w0 μ h.n w K := by
  unfold vmn at hK
  split at hK
  · rename_i k i k' j h1 h2
    have e1 := (cmo_ev hx he h1).flat rfl
    have e2 := (cmo_ev hy he h2).flat rfl
    refine does_pure hr hK (v' := .int k (min i j)) ?_ (.same rfl)
    simp [execOp, hop, e1, e2, resolve, invoke, builtin, Builtin.min_, Builtin.min2]
    omega
  · exact hK.elim
end
end Go.Mini
