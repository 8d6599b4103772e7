/- Rows that a call made itself, among the blocks that it holds: a literal; one block less to be known. No condition. -/
import Derived.Test.YtbdjcfaocmhdnaaHold
namespace Go.Proofs.Ytbdjcfaocmhdnaa
open Go.RowKit
set_option linter.unusedVariables false
set_option linter.unusedSimpArgs false

theorem Holds.tail {w0 w : World} {x : Nat × List Value × TypeId} {L : List (Nat × List Value × TypeId)} (H : Holds w0 (x :: L) w) : Holds w0 L w :=
  ⟨H.below, fun y hy => H.blk y (List.mem_cons_of_mem _ hy), (List.pairwise_cons.1 H.apart).2⟩

section
variable {P : Program} {w0 : World} {w : World} {ops : Array Oper} {rest : List Oper} {o : Oper} {a : Act} {Q : Exit → Act → World → Prop}

/-- A row literal. -/
theorem wpList_buildSlice_H (hg : Region.wanted o (yielded ops a.tmps) = true) (T E : TypeId) (n : Nat) (ps : Array (Nat × Operand)) (hop : o.op = .buildSlice T n ps) (cs : List Value) (hT : P.underlying T = some (.slice E))
    (hrun : ∀ w, (Instr.buildSlice T n (ps.map fun (i, x) => (i, a.eval x))).run P w = .ok (.slice (some ⟨w.heap.size, 0, none⟩) n n) (w.alloc (.cells cs.toArray E)))
    {L : List (Nat × List Value × TypeId)} (H : Holds w0 L w)
    (hK : ∀ b w1, Holds w0 ((b, cs, E) :: L) w1 → Below w.heap.size w w1 → wpList P ops Q rest (a.put o.dst (.slice (some ⟨b, 0, none⟩) n n)) w1) : wpList P ops Q (o :: rest) a w := by
  refine wpList_wanted hg fun K' hK' => ?_
  unfold Oper.wp
  simp only [execOp, hop, Sem.run_bind, hrun, Result.andThen_ok, Sem.run_pure]
  exact hK' _ _ (hK _ _ (H.alloc cs E) ((Below.refl _ w).alloc (Nat.le_refl _) _))

/-- One cell of a row read. -/
theorem wpList_loadRow_H (hg : Region.wanted o (yielded ops a.tmps) = true) (T : TypeId) (x : Operand) (hop : o.op = .load T x) (hT : ∀ w, (isAgg T).run P w = .ok false w) (b : Nat) (i : Nat) (hx : a.eval x = .pointer (some ((⟨b, 0, none⟩ : Addr).add i)))
    {L : List (Nat × List Value × TypeId)} (H : Holds w0 L w) {cs : List Value} {T' : TypeId} (hm : (b, cs, T') ∈ L) (v : Value) (hv : cs[i]? = some v)
    (hK : wpList P ops Q rest (a.put o.dst v) w) : wpList P ops Q (o :: rest) a w := by
  refine wpList_load_H hg T x hop hT b i ?_ H hm v hv hK
  rw [hx]
  unfold Addr.add
  split <;> simp_all
end
end Go.Proofs.Ytbdjcfaocmhdnaa
