/- Regions that draw their order, that read and make calls which make memory: one walk in the order of the text, in the worlds that hold all that stood there. No condition. -/
import Derived.Test.YtgbnbjajaaggkaaHoldQuiet
import Derived.StillTail
namespace Go.Proofs.Ytgbnbjajaaggkaa
open Go Go.RowKit
set_option linter.unusedVariables false
set_option linter.unusedSimpArgs false

section
variable {P : Program} {ops : Array Oper} {o : Oper} {rest : List Oper} {a : Act} {w w0 : World} {Q : Act → Prop}

theorem wp_region_quiet_B {id : Nat} {Q : Exit → Act → World → Prop} {l : List Oper} (hm : P.follows .mixedOrders = true) (hB : Region.lexB .any l.toArray = true)
    (h : wpQuiet P l.toArray (fun w' => Below w.heap.size w w') (fun a' => ∀ w', Below w.heap.size w w' → Q .normal a' w') l a) : (Code.region id l.toArray true).wp P Q a w :=
  wp_region_quiet (C := fun w' => Below w.heap.size w w') hm hB ⟨rfl, rfl, rfl, Nat.le_refl _, fun _ _ => rfl⟩ (by simpa using h)

theorem quiet_B (w : World) (p : Prop) : (∀ w', Below w.heap.size w w' → p) = p := propext ⟨fun h => h w (Below.refl _ _), fun h _ _ => h⟩

theorem wpQuiet_loads_B (hg : Region.wanted o (yielded ops a.tmps) = true) (T : TypeId) (x : Operand) (hop : o.op = .load T x) (hT : ∀ w, (isAgg T).run P w = .ok true w) (n : Nat) (hs : ∀ w, (sizeOf T).run P w = .ok n w) (b i : Nat) (hx : a.eval x = .pointer (some ⟨b, i, none⟩))
    {L : List (Nat × List Value × TypeId)} (H : Holds w0 L w) {cs : List Value} {T' : TypeId} (hm : (b, cs, T') ∈ L) (hn : i + n ≤ cs.length) (v : Array Value) (hv : ((cs.drop i).take n).toArray = v)
    (hK : wpQuiet P ops (fun w' => Below w.heap.size w w') Q rest (a.put o.dst (.agg v))) : wpQuiet P ops (fun w' => Below w.heap.size w w') Q (o :: rest) a := by
  refine BigFrame.wpQuiet_want hg fun K hK' => ⟨.agg v, fun w' hw' => ?_, hK' _ hK⟩
  subst hv
  unfold Oper.quietAt
  simp only [execOp, hop, hx, Instr.loadAt, Instr.sureAddr, Sem.run_bind, Sem.run_pure, Result.andThen_ok, run_loadVar_H (H.on hw') hm T hT n hs i hn]
  exact ⟨rfl, rfl⟩

theorem wpQuiet_load_B (hg : Region.wanted o (yielded ops a.tmps) = true) (T : TypeId) (x : Operand) (hop : o.op = .load T x) (hT : ∀ w, (isAgg T).run P w = .ok false w) (b i : Nat) (hx : a.eval x = .pointer (some ⟨b, i, none⟩))
    {L : List (Nat × List Value × TypeId)} (H : Holds w0 L w) {cs : List Value} {T' : TypeId} (hm : (b, cs, T') ∈ L) (v : Value) (hv : cs[i]? = some v)
    (hK : wpQuiet P ops (fun w' => Below w.heap.size w w') Q rest (a.put o.dst v)) : wpQuiet P ops (fun w' => Below w.heap.size w w') Q (o :: rest) a := by
  refine BigFrame.wpQuiet_want hg fun K hK' => ⟨v, fun w' hw' => ?_, hK' _ hK⟩
  have hc : w'.cell? ⟨b, i, none⟩ = some v := by rw [(H.on hw').cell hm]; exact hv
  have hrun : (loadVar T ⟨b, i, none⟩).run P w' = .ok v w' := by simp [loadVar, hT, load, Sem.run, hc]
  unfold Oper.quietAt
  simp only [execOp, hop, hx, Instr.loadAt, Instr.sureAddr, Sem.run_bind, Sem.run_pure, Result.andThen_ok, hrun]
  exact ⟨rfl, rfl⟩

/-- A callee that makes memory, in such a world. -/
theorem quiet_call {f : FuncId} {args : Array Value} {v : Value} {w' : World} (hb : Below w.heap.size w w') (h : Calls P f args w' fun e w'' => e = .returned v ∧ Below w'.heap.size w' w'') : Calls P f args w' fun e w'' => e = .returned v ∧ Below w.heap.size w w'' :=
  h.mono fun _ _ h => ⟨h.1, hb.trans (h.2.mono hb.size)⟩
end

/-! A quiet head, then what the text has behind it, in order. -/
section
variable {P : Program} {ops : Array Oper} {md : Region.Mode} {C : World → Prop}

/-- f quiet operations, whatever order is picked, all of the first n; then L. -/
def quietHead (P : Program) (md : Region.Mode) (ops : Array Oper) (C : World → Prop) (n : Nat) (L : Array Bool → Act → Prop) : Nat → Array Bool → Act → Prop
  | 0, t, a => L t a
  | f + 1, t, a => Region.ready md ops t ≠ [] ∧ ∀ i ∈ Region.ready md ops t, i < n ∧ qOp P ops C i (quietHead P md ops C n L f (t.setIfInBounds i true)) a

theorem quietHead_any {n g : Nat} {L : Array Bool → Act → Prop} {Q : Exit → Act → World → Prop} (hL : ∀ t a w, C w → L t a → wpAny P md ops Q g t a w) (f : Nat) :
    ∀ (t : Array Bool) (a : Act) (w : World), C w → quietHead P md ops C n L f t a → wpAny P md ops Q (f + g) t a w := by
  induction f with
  | zero => intro t a w hw h; rw [Nat.zero_add]; exact hL _ _ _ hw h
  | succ f ih =>
    intro t a w hw h
    rw [show f + 1 + g = (f + g) + 1 from by omega]
    exact ⟨fun e => absurd e h.1, fun i hi => wpOp_of_qOp hw (fun a' w' hw' h' => ih _ a' w' hw' h') (h.2 i hi).2⟩

theorem quietHead_take {n i : Nat} {oi : Oper} {v : Value} {L : Array Bool → Act → Prop} (hi : ops[i]? = some oi) (hsel : ∀ (j : Nat) (o : Oper) cs b, ops[j]? = some o → o.op ≠ .select cs b)
    (hs : Region.sinkB md ops n = true) (hc : Region.chainB md ops n = true) (hn : n < ops.size) (hin : i < n) (hdone : ∀ t a, L t a → ∀ j ∈ Region.ready md ops t, n ≤ j) (f : Nat) :
    ∀ (t : Array Bool) (a : Act), HeadInv md ops n t →
      (∀ j oj, ops[j]? = some oj → j ≠ i → t.getD j true = false → (∀ e ∈ oj.after, Region.binds md e = true → e.on ≠ i) → oi.apart ops oj = true) →
      i ∈ Region.ready md ops t → YieldsIn P ops C oi v a → quietHead P md ops C n L f (t.setIfInBounds i true) (a.put oi.dst v) → quietHead P md ops C n L (f + 1) t a := by
  induction f with
  | zero =>
    intro t a inv _ hr hy H
    have hun := (mem_ready.1 hr).1
    refine ⟨fun h => (by rw [h] at hr; cases hr), fun j hj => ?_⟩
    have hjn : j < n := Nat.lt_of_not_le fun h => absurd hj (tail_waits hs hc hn inv _ i rfl hin hun j h)
    refine ⟨hjn, ?_⟩
    by_cases e : j = i
    · subst e; exact hy.qOp hi H
    · have := hdone _ _ H j (ready_mono hj e); omega
  | succ f ih =>
    intro t a inv hfree hr hy H
    have hun := (mem_ready.1 hr).1
    refine ⟨fun h => (by rw [h] at hr; cases hr), fun j hj => ?_⟩
    have hjn : j < n := Nat.lt_of_not_le fun h => absurd hj (tail_waits hs hc hn inv _ i rfl hin hun j h)
    refine ⟨hjn, ?_⟩
    by_cases e : j = i
    · subst e; exact hy.qOp hi H
    · obtain ⟨hjun, oj, hoj, hall⟩ := mem_ready.1 hj
      have hnot : ∀ e ∈ oj.after, Region.binds md e = true → e.on ≠ i := fun e he hb heq => by
        have h1 := hall e he hb
        rw [heq, getD_both hun] at h1
        cases h1
      have h2 := qOp_put hoj (hfree j oj hoj e hjun hnot) (fun cs b => hsel i oi cs b hi) (fun cs b => hsel j oj cs b hoj) hy (H.2 j (ready_mono hj e)).2
      refine qOp_mono (fun a' h3 => ih (t.setIfInBounds j true) a' (inv.set hj hjn) (fun k ok hk hki hku hno => hfree k ok hk hki ?_ hno) (ready_mono hr (Ne.symm e)) h3.1 ?_) h2
      · by_cases hjk : j = k
        · subst hjk; exact hjun
        · rw [getD_set_ne true hjk] at hku; exact hku
      · rw [Array.setIfInBounds_comm _ _ e]
        exact h3.2

theorem quietHead_lex {n g : Nat} {K : Act → Prop} (hsel : Region.noSelect ops = true) (hs : Region.sinkB md ops n = true) (hc : Region.chainB md ops n = true) (hn : n < ops.size) :
    ∀ (l : List Oper) (k : Nat) (t : Array Bool) (a : Act), (∀ j, j < l.length → l[j]? = ops[k + j]?) → k + l.length = n → HeadInv md ops n t →
    Region.lexHead md ops g l.length k t = true → wpQuiet P ops C K l a → quietHead P md ops C n (fun t' a' => Region.seqB md ops g n t' = true ∧ K a') l.length t a := by
  intro l
  induction l with
  | nil =>
    intro k t a _ hk _ hB h
    obtain rfl : k = n := by simpa using hk
    exact ⟨by simpa [Region.lexHead] using hB, h⟩
  | cons o l ih =>
    intro k t a hl hk inv hB h
    have h0 : ops[k]? = some o := by simpa using (hl 0 (by simp)).symm
    simp only [List.length_cons, Region.lexHead, Bool.and_eq_true] at hB
    obtain ⟨⟨hr, hf⟩, hB'⟩ := hB
    have hkn : k < n := by simp only [List.length_cons] at hk; omega
    have hst : qOp P ops C k (wpQuiet P ops C K l) a := by unfold qOp; simp only [h0]; exact h
    obtain ⟨v, hy, hK⟩ := yieldsIn_of_qOp h0 hst
    have hr' : k ∈ Region.ready md ops t := by simpa using hr
    exact quietHead_take h0 (Region.noSelect_spec hsel) hs hc hn hkn (fun t' a' hL => seqB_ready hL.1) l.length t a inv (Region.free_spec h0 hf) hr' hy
      (ih (k + 1) _ _ (fun j hj => by have := hl (j + 1) (by simp; omega); simpa [Nat.add_assoc, Nat.add_comm 1 j] using this) (by simp only [List.length_cons] at hk; omega) (inv.set hr' hkn) hB' hK)

/-- A region whose first n operations are quiet, all of them waited for by what is behind them, and that goes on in order. -/
theorem wp_region_quiet_tail {id : Nat} {Q : Exit → Act → World → Prop} {a : Act} {w : World} {l : List Oper} (n : Nat) (hm : P.follows .mixedOrders = true) (hB : Region.lexTailB .any l.toArray n = true) (hC : C { w with drawn := w.drawn + 1 })
    (h : wpQuiet P l.toArray C (fun a' => ∀ w', C w' → wpList P l.toArray Q (l.drop n) a' w') (l.take n) a) : (Code.region id l.toArray true).wp P Q a w := by
  simp only [Region.lexTailB, Bool.and_eq_true, decide_eq_true_eq] at hB
  obtain ⟨⟨⟨⟨hsel, hn⟩, hs⟩, hc⟩, hlex⟩ := hB
  have hn' : n < l.length := by simpa using hn
  have htl : (l.take n).length = n := by simp; omega
  have hdl : (l.drop n).length = l.toArray.size - n := by simp
  have inv0 : HeadInv .any l.toArray n (Array.replicate l.toArray.size false) :=
    ⟨by simp, fun j oj _ hl => (by rw [getD_replicate_false] at hl; cases hl), fun t _ ht => getD_in (by simpa using ht) (getD_replicate_false _ _)⟩
  have H := quietHead_lex (md := .any) (C := C) (g := l.toArray.size - n) hsel hs hc hn (l.take n) 0 _ a (fun j hj => by
    have hj' : j < n := by rw [htl] at hj; exact hj
    simp [hj']) (by simpa using htl) inv0 (by rw [htl]; exact hlex) h
  refine wp_region_any hm ?_
  have := quietHead_any (Q := Q) (g := l.toArray.size - n) (fun t a' w' hw' hL => by
    have := wpAny_of_seq (P := P) (Q' := Q) (l.drop n) n t a' w' (fun j => by simp) (by rw [hdl]; exact hL.1) (hL.2 w' hw')
    rwa [hdl] at this) (l.take n).length _ a _ hC H
  rw [htl] at this
  rwa [show n + (l.toArray.size - n) = l.toArray.size from by simp; omega] at this

theorem wp_region_tail_B {id : Nat} {Q : Exit → Act → World → Prop} {a : Act} {w : World} {l : List Oper} (n : Nat) (hm : P.follows .mixedOrders = true) (hB : Region.lexTailB .any l.toArray n = true)
    (h : wpQuiet P l.toArray (fun w' => Below w.heap.size w w') (fun a' => ∀ w', Below w.heap.size w w' → wpList P l.toArray Q (l.drop n) a' w') (l.take n) a) : (Code.region id l.toArray true).wp P Q a w :=
  wp_region_quiet_tail (C := fun w' => Below w.heap.size w w') n hm hB ⟨rfl, rfl, rfl, Nat.le_refl _, fun _ _ => rfl⟩ h
end
end Go.Proofs.Ytgbnbjajaaggkaa
