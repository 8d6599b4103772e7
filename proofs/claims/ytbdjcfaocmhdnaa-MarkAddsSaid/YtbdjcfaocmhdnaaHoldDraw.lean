/- Regions that draw their order and store into blocks that the call holds: loads first, stores by the law. No condition. -/
import Derived.Test.YtbdjcfaocmhdnaaHoldRow
import Derived.OrdersHeld
namespace Go.Proofs.Ytbdjcfaocmhdnaa
open Go Go.RowKit
set_option linter.unusedVariables false
set_option linter.unusedSimpArgs false

section
variable {P : Program} {ops : Array Oper} {Q : Exit → Act → World → Prop} {o : Oper} {rest : List Oper} {a : Act} {w : World}
/-- Fails at once unless the next operation of the walk is a load of this type. -/
theorem at_load {d : Option Tmp} (T : TypeId) {x : Operand} {t : TypeId} {p : String} {af : Array Edge} {g : Option (Nat × Bool)}
    (h : wpList P ops Q ({ dst := d, op := .load T x, type := t, pos := p, after := af, guard := g } :: rest) a w) : wpList P ops Q ({ dst := d, op := .load T x, type := t, pos := p, after := af, guard := g } :: rest) a w := h
theorem at_store {d : Option Tmp} (T : TypeId) {x y : Operand} {t : TypeId} {p : String} {af : Array Edge} {g : Option (Nat × Bool)}
    (h : wpList P ops Q ({ dst := d, op := .store T x y, type := t, pos := p, after := af, guard := g } :: rest) a w) : wpList P ops Q ({ dst := d, op := .store T x y, type := t, pos := p, after := af, guard := g } :: rest) a w := h
theorem at_alloc {d : Option Tmp} (T : TypeId) {t : TypeId} {p : String} {af : Array Edge} {g : Option (Nat × Bool)}
    (h : wpList P ops Q ({ dst := d, op := .alloc T, type := t, pos := p, after := af, guard := g } :: rest) a w) : wpList P ops Q ({ dst := d, op := .alloc T, type := t, pos := p, after := af, guard := g } :: rest) a w := h
end

/-- Blocks that hold so much. -/
def Has (L : List (Nat × List Value × TypeId)) (w : World) : Prop := ∀ x ∈ L, w.heap[x.1]? = some (.cells x.2.1.toArray x.2.2 (0, 0))

theorem Holds.has {w0 w : World} {L : List (Nat × List Value × TypeId)} (H : Holds w0 L w) (L0 : List (Nat × List Value × TypeId)) (hs : ∀ x ∈ L0, x ∈ L) : Has L0 w := fun x hx => (H.blk x (hs x hx)).2

theorem Holds.drew1 {w0 w : World} {L : List (Nat × List Value × TypeId)} (H : Holds w0 L w) : Holds w0 L { w with drawn := w.drawn + 1 } := H.on ⟨rfl, rfl, rfl, Nat.le_refl _, fun _ _ => rfl⟩

section
variable {P : Program} {w0 : World} {w : World} {ops : Array Oper} {o : Oper} {a : Act} {Q : Exit → Act → World → Prop} {L0 : List (Nat × List Value × TypeId)}

theorem yields_any (v : Value) (hg : Region.wanted o (yielded ops a.tmps) = true) (h : ∀ w, (execOp a.eval o).run P w = .ok (.value v) w) : YieldsIf P ops (Has L0) o v a := .inl ⟨hg, fun w _ => h w⟩

theorem yields_loads (hg : Region.wanted o (yielded ops a.tmps) = true) (T : TypeId) (x : Operand) (hop : o.op = .load T x) (hT : ∀ w, (isAgg T).run P w = .ok true w) (n : Nat) (hs : ∀ w, (sizeOf T).run P w = .ok n w) (b : Nat) (hx : a.eval x = .pointer (some ⟨b, 0, none⟩))
    (cs : List Value) (T' : TypeId) (hm : (b, cs, T') ∈ L0) (hn : n = cs.length) : YieldsIf P ops (Has L0) o (.agg cs.toArray) a := by
  refine .inl ⟨hg, fun w hS => ?_⟩
  have hb := hS _ hm
  have h := run_loadCells_list (P := P) w ⟨b, 0, none⟩ cs (fun j v hv => by
    have hadd : (⟨b, 0, none⟩ : Addr).add j = ⟨b, j, none⟩ := by unfold Addr.add; split <;> simp_all
    rw [hadd, cell_of_row w b j _ T' (0, 0) hb]
    simpa using hv)
  have hrun : (loadVar T ⟨b, 0, none⟩).run P w = .ok (.agg cs.toArray) w := by
    subst hn
    simp [loadVar, hT, hs, h]
  simp only [execOp, hop, hx, Instr.loadAt, Instr.sureAddr, Sem.run_bind, Sem.run_pure, Result.andThen_ok, hrun]

theorem wpOp_store_H {i : Nat} (hi : ops[i]? = some o) (hg : Region.wanted o (yielded ops a.tmps) = true) (T : TypeId) (x y : Operand) (hop : o.op = .store T x y) (b j : Nat) (hx : a.eval x = .pointer (some ⟨b, j, none⟩)) (vs : List Value) (hy : (a.eval y).cells = vs.toArray)
    (hs : ∀ w, (sizeOf T).run P w = .ok vs.length w) (h1 : vs.all (·.oneCell') = true)
    {A B : List (Nat × List Value × TypeId)} {cs : List Value} {T' : TypeId} (H : Holds w0 (A ++ (b, cs, T') :: B) w) (hn : j + vs.length ≤ cs.length) (cs' : List Value) (hc : cs.take j ++ vs ++ cs.drop (j + vs.length) = cs')
    (hd : o.dst = none) {K : Act → World → Prop} (hK : ∀ w1, Holds w0 (A ++ (b, cs', T') :: B) w1 → K a w1) : wpOp P ops Q i K a w := by
  unfold wpOp
  simp only [hi, hg, if_true]
  refine .inl ?_
  unfold Oper.wp
  have hb := (H.blk (b, cs, T') (by simp)).2
  have hst := run_storeCells_at P b j T' vs 0 cs.toArray w hb (by simpa using hn) (fun v hv => by rw [List.all_eq_true] at h1; exact h1 v hv)
  simp only [Nat.add_zero] at hst
  have hrun : (storeVar T ⟨b, j, none⟩ (a.eval y)).run P w = .ok () (w.setRow b cs'.toArray) := by
    rw [← hc]
    simp [storeVar, hs, hy, hst, Result.andThen]
  simp only [execOp, hop, hx, Instr.storeAt, Instr.sureAddr, Sem.run_bind, Sem.run_pure, Result.andThen_ok, hrun]
  have hk := hK _ (H.set cs')
  show K (a.put o.dst undef) _
  rw [hd]
  exact hk

/-- 'wpAnyH_take' with the place said. -/
theorem wpAnyH_takeD {md : Region.Mode} {S : World → Prop} {i : Nat} {oi : Oper} {v : Value} {fuel : Nat} {listed : Array Bool} {d : Nat} (hi : ops[i]? = some oi) (hd : oi.dst = some d)
    (hs : Region.noSelect ops = true) (hf : Region.free md ops listed i = true) (hr : (Region.ready md ops listed).contains i = true)
    (hQ : ∀ c a w, Q (.panic c) (a.put oi.dst v) w → Q (.panic c) a w) (hy : YieldsIf P ops S oi v a) (hS : S w)
    (h : wpAnyH P md ops Q S fuel (listed.setIfInBounds i true) (a.put (some d) v) w) : wpAnyH P md ops Q S (fuel + 1) listed a w := by
  rw [← hd] at h
  exact wpAnyH_take hi hs hf hr hQ hy hS h
end
end Go.Proofs.Ytbdjcfaocmhdnaa
