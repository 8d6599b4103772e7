/- What a call knows of the memory that it made itself, as a list of blocks; and what an operation does to it, at the operation, for the walk: a new variable, a load, a store. No condition. -/
import Derived.WalkKit
import Derived.Below
import Derived.Laws.Rows
import Derived.Laws.CopyRow
import Derived.Laws.CopyOwn
import Derived.Laws.AppendOwn
import Derived.Deep.Draws
namespace Go.Proofs.Ytbdjcfaocmhdnaa
open Go.RowKit
set_option linter.unusedVariables false
set_option linter.unusedSimpArgs false

/-- Blocks that the call made: the number, the cells, the type. -/
structure Holds (w0 : World) (L : List (Nat × List Value × TypeId)) (w : World) : Prop where
  below : Below w0.heap.size w0 w
  blk : ∀ x ∈ L, w0.heap.size ≤ x.1 ∧ w.heap[x.1]? = some (.cells x.2.1.toArray x.2.2 (0, 0))
  apart : L.Pairwise (fun x y => x.1 ≠ y.1)

section
variable {w0 w w' : World} {L A B : List (Nat × List Value × TypeId)} {b : Nat} {cs : List Value} {T : TypeId}

theorem Holds.nil (w : World) : Holds w [] w := ⟨Below.refl _ _, (fun _ h => by cases h), List.Pairwise.nil⟩

theorem Holds.lt (H : Holds w0 L w) (h : (b, cs, T) ∈ L) : b < w.heap.size := (Array.getElem?_eq_some_iff.1 (H.blk _ h).2).1

theorem Holds.alloc (H : Holds w0 L w) (cs : List Value) (T : TypeId) : Holds w0 ((w.heap.size, cs, T) :: L) (w.alloc (.cells cs.toArray T)) := by
  refine ⟨H.below.alloc H.below.size _, fun x hx => ?_, List.pairwise_cons.2 ⟨fun x hx => ?_, H.apart⟩⟩
  · rcases List.mem_cons.1 hx with rfl | hx
    · exact ⟨H.below.size, heap_alloc_new w _⟩
    · have := H.blk x hx
      exact ⟨this.1, by rw [Below.heap_alloc w _ _ (H.lt (b := x.1) (cs := x.2.1) (T := x.2.2) hx)]; exact this.2⟩
  · exact Nat.ne_of_gt (H.lt (b := x.1) (cs := x.2.1) (T := x.2.2) hx)

/-- Behind what changes nothing that stood there. -/
theorem Holds.on (H : Holds w0 L w) (hb : Below w.heap.size w w') : Holds w0 L w' :=
  ⟨H.below.trans (hb.mono H.below.size), fun x hx => ⟨(H.blk x hx).1, by rw [hb.block _ (H.lt (b := x.1) (cs := x.2.1) (T := x.2.2) hx)]; exact (H.blk x hx).2⟩, H.apart⟩

theorem Holds.drewN (H : Holds w0 L w) (n : Nat) : Holds w0 L (w.drewN n) := H.on ⟨rfl, rfl, rfl, Nat.le_refl _, fun _ _ => rfl⟩

/-- A cell that stood there ahead of the call. -/
theorem Holds.old (H : Holds w0 L w) {p : Addr} {v : Value} (h : w0.cell? p = some v) : w.cell? p = some v := by
  have hlt := World.block_lt_of_cell? w0 p h
  rw [H.below.cell hlt]
  exact h

theorem Holds.cell (H : Holds w0 L w) (h : (b, cs, T) ∈ L) (i : Nat) : w.cell? ⟨b, i, none⟩ = cs[i]? := by
  rw [cell_of_row w b i _ T (0, 0) (H.blk _ h).2]
  simp

theorem Holds.set (H : Holds w0 (A ++ (b, cs, T) :: B) w) (cs' : List Value) : Holds w0 (A ++ (b, cs', T) :: B) (w.setRow b cs'.toArray) := by
  have hb := H.blk (b, cs, T) (by simp)
  have hp := H.apart
  rw [List.pairwise_append] at hp
  obtain ⟨hA, hB, hAB⟩ := hp
  rw [List.pairwise_cons] at hB
  refine ⟨below_setRow H.below hb.1 _, fun x hx => ?_, ?_⟩
  · have hne : ∀ x, x ∈ A ∨ x ∈ B → x.1 ≠ b := fun x hx => by
      rcases hx with hx | hx
      · exact hAB x hx _ (List.mem_cons_self ..)
      · exact (hB.1 x hx).symm
    rcases List.mem_append.1 hx with hx | hx
    · exact ⟨(H.blk x (by simp [hx])).1, by rw [setRow_other w b _ _ (hne x (.inl hx))]; exact (H.blk x (by simp [hx])).2⟩
    · rcases List.mem_cons.1 hx with rfl | hx
      · exact ⟨hb.1, setRow_heap w b _ _ T (0, 0) hb.2⟩
      · exact ⟨(H.blk x (by simp [hx])).1, by rw [setRow_other w b _ _ (hne x (.inr hx))]; exact (H.blk x (by simp [hx])).2⟩
  · rw [List.pairwise_append]
    refine ⟨hA, List.pairwise_cons.2 ⟨fun x hx => hB.1 x hx, hB.2⟩, fun x hx y hy => ?_⟩
    rcases List.mem_cons.1 hy with rfl | hy
    · exact hAB x hx (b, cs, T) (List.mem_cons_self ..)
    · exact hAB x hx y (List.mem_cons_of_mem _ hy)

theorem grown_setRow (w : World) (b : Nat) (cs : Array Value) : w.grownBy (w.setRow b cs) (some b) :=
  ⟨rfl, rfl, rfl, by simp, fun k _ hk => setRow_other w b k cs (fun e => hk (by rw [e]))⟩
end

section
variable {P : Program} {w0 : World} {w : World} {ops : Array Oper} {rest : List Oper} {o : Oper} {a : Act} {Q : Exit → Act → World → Prop}

theorem wpList_wanted (hw : Region.wanted o (yielded ops a.tmps) = true)
    (h : ∀ K : Act → World → Prop, (∀ a w, wpList P ops Q rest a w → K a w) → o.wp P a w K Q) : wpList P ops Q (o :: rest) a w :=
  wpList_step fun K hK => by simp only [hw, if_true]; exact h K hK

/-- A variable in memory, at its first value. -/
theorem wpList_box_H (hg : Region.wanted o (yielded ops a.tmps) = true) (T : TypeId) (x : Operand) (hop : o.op = .box T x) (cs : List Value) (hx : (a.eval x).cells = cs.toArray)
    {L : List (Nat × List Value × TypeId)} (H : Holds w0 L w)
    (hK : ∀ b w1, Holds w0 ((b, cs, T) :: L) w1 → Below w.heap.size w w1 → wpList P ops Q rest (a.put o.dst (.pointer (some ⟨b, 0, none⟩))) w1) : wpList P ops Q (o :: rest) a w := by
  refine wpList_wanted hg fun K' hK' => ?_
  unfold Oper.wp
  have hrun : (Instr.box T (a.eval x)).run P w = .ok (.pointer (some ⟨w.heap.size, 0, none⟩)) (w.alloc (.cells cs.toArray T)) := by
    simp [Instr.box, newVar, newRow, newObj, hx, Sem.run]
  simp only [execOp, hop, Sem.run_bind, hrun, Result.andThen_ok, Sem.run_pure]
  exact hK' _ _ (hK _ _ (H.alloc cs T) ((Below.refl _ w).alloc (Nat.le_refl _) _))

/-- A variable in memory, at its zero value. -/
theorem wpList_alloc_H (hg : Region.wanted o (yielded ops a.tmps) = true) (T : TypeId) (hop : o.op = .alloc T) (z : Value) (hz : ∀ w, (zeroValue T).run P w = .ok z w) (cs : List Value) (hx : z.cells = cs.toArray)
    {L : List (Nat × List Value × TypeId)} (H : Holds w0 L w)
    (hK : ∀ b w1, Holds w0 ((b, cs, T) :: L) w1 → Below w.heap.size w w1 → wpList P ops Q rest (a.put o.dst (.pointer (some ⟨b, 0, none⟩))) w1) : wpList P ops Q (o :: rest) a w := by
  refine wpList_wanted hg fun K' hK' => ?_
  unfold Oper.wp
  have hrun : (Instr.alloc T true (.tuple #[])).run P w = .ok (.pointer (some ⟨w.heap.size, 0, none⟩)) (w.alloc (.cells cs.toArray T)) := by
    simp [Instr.alloc, hz, newVar, newRow, newObj, hx, Sem.run, Result.andThen]
  simp only [execOp, hop, Sem.run_bind, hrun, Result.andThen_ok, Sem.run_pure]
  exact hK' _ _ (hK _ _ (H.alloc cs T) ((Below.refl _ w).alloc (Nat.le_refl _) _))

/-- One cell read. -/
theorem wpList_load_H (hg : Region.wanted o (yielded ops a.tmps) = true) (T : TypeId) (x : Operand) (hop : o.op = .load T x) (hT : ∀ w, (isAgg T).run P w = .ok false w) (b i : Nat) (hx : a.eval x = .pointer (some ⟨b, i, none⟩))
    {L : List (Nat × List Value × TypeId)} (H : Holds w0 L w) {cs : List Value} {T' : TypeId} (hm : (b, cs, T') ∈ L) (v : Value) (hv : cs[i]? = some v)
    (hK : wpList P ops Q rest (a.put o.dst v) w) : wpList P ops Q (o :: rest) a w := by
  refine wpList_wanted hg fun K' hK' => ?_
  unfold Oper.wp
  have hc : w.cell? ⟨b, i, none⟩ = some v := by rw [H.cell hm]; exact hv
  have hrun : (loadVar T ⟨b, i, none⟩).run P w = .ok v w := by simp [loadVar, hT, load, Sem.run, hc]
  simp only [execOp, hop, hx, Instr.loadAt, Instr.sureAddr, Sem.run_bind, Sem.run_pure, Result.andThen_ok, hrun]
  exact hK' _ _ hK

theorem run_loadCells_H {L : List (Nat × List Value × TypeId)} (H : Holds w0 L w) {b : Nat} {cs : List Value} {T' : TypeId} (hm : (b, cs, T') ∈ L) (i n : Nat) (hn : i + n ≤ cs.length) :
    (loadCells ⟨b, i, none⟩ n).run P w = .ok ((cs.drop i).take n).toArray w := by
  have hl : ((cs.drop i).take n).length = n := by simp; omega
  have h := run_loadCells_list (P := P) w ⟨b, i, none⟩ ((cs.drop i).take n) (fun j v hv => by
    have hadd : (⟨b, i, none⟩ : Addr).add j = ⟨b, i + j, none⟩ := by unfold Addr.add; split <;> simp_all
    rw [hadd, H.cell hm]
    rw [List.getElem?_take] at hv
    split at hv
    · rwa [List.getElem?_drop] at hv
    · cases hv)
  rw [hl] at h
  exact h

theorem run_loadVar_H {L : List (Nat × List Value × TypeId)} (H : Holds w0 L w) {b : Nat} {cs : List Value} {T' : TypeId} (hm : (b, cs, T') ∈ L) (T : TypeId) (hT : ∀ w, (isAgg T).run P w = .ok true w) (n : Nat) (hs : ∀ w, (sizeOf T).run P w = .ok n w) (i : Nat) (hn : i + n ≤ cs.length) :
    (loadVar T ⟨b, i, none⟩).run P w = .ok (.agg ((cs.drop i).take n).toArray) w := by
  simp [loadVar, hT, hs, run_loadCells_H H hm i n hn]

/-- A struct or an array read. -/
theorem wpList_loads_H (hg : Region.wanted o (yielded ops a.tmps) = true) (T : TypeId) (x : Operand) (hop : o.op = .load T x) (hT : ∀ w, (isAgg T).run P w = .ok true w) (n : Nat) (hs : ∀ w, (sizeOf T).run P w = .ok n w) (b i : Nat) (hx : a.eval x = .pointer (some ⟨b, i, none⟩))
    {L : List (Nat × List Value × TypeId)} (H : Holds w0 L w) {cs : List Value} {T' : TypeId} (hm : (b, cs, T') ∈ L) (hn : i + n ≤ cs.length) (v : Array Value) (hv : ((cs.drop i).take n).toArray = v)
    (hK : wpList P ops Q rest (a.put o.dst (.agg v)) w) : wpList P ops Q (o :: rest) a w := by
  refine wpList_wanted hg fun K' hK' => ?_
  unfold Oper.wp
  subst hv
  simp only [execOp, hop, hx, Instr.loadAt, Instr.sureAddr, Sem.run_bind, Sem.run_pure, Result.andThen_ok, run_loadVar_H H hm T hT n hs i hn]
  exact hK' _ _ hK

/-- A store: of one cell, of a struct or an array. -/
theorem wpList_store_H (hg : Region.wanted o (yielded ops a.tmps) = true) (T : TypeId) (x y : Operand) (hop : o.op = .store T x y) (b i : Nat) (hx : a.eval x = .pointer (some ⟨b, i, none⟩)) (vs : List Value) (hy : (a.eval y).cells = vs.toArray)
    (hs : ∀ w, (sizeOf T).run P w = .ok vs.length w) (h1 : vs.all (·.oneCell') = true)
    {A B : List (Nat × List Value × TypeId)} {cs : List Value} {T' : TypeId} (H : Holds w0 (A ++ (b, cs, T') :: B) w) (hn : i + vs.length ≤ cs.length) (cs' : List Value) (hc : cs.take i ++ vs ++ cs.drop (i + vs.length) = cs')
    (hK : ∀ w1, Holds w0 (A ++ (b, cs', T') :: B) w1 → w.grownBy w1 (some b) → wpList P ops Q rest (a.put o.dst undef) w1) : wpList P ops Q (o :: rest) a w := by
  refine wpList_wanted hg fun K' hK' => ?_
  unfold Oper.wp
  have hb := (H.blk (b, cs, T') (by simp)).2
  have hst := run_storeCells_at P b i T' vs 0 cs.toArray w hb (by simpa using hn) (fun v hv => by rw [List.all_eq_true] at h1; exact h1 v hv)
  simp only [Nat.add_zero] at hst
  have hrun : (storeVar T ⟨b, i, none⟩ (a.eval y)).run P w = .ok () (w.setRow b cs'.toArray) := by
    rw [← hc]
    simp [storeVar, hs, hy, hst, Result.andThen]
  simp only [execOp, hop, hx, Instr.storeAt, Instr.sureAddr, Sem.run_bind, Sem.run_pure, Result.andThen_ok, hrun]
  exact hK' _ _ (hK _ (H.set cs') (grown_setRow w b _))
end
end Go.Proofs.Ytbdjcfaocmhdnaa
