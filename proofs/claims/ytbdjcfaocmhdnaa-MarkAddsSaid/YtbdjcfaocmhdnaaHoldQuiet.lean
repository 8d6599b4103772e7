/- Regions that draw their order and only read: a struct or one cell read out of blocks that the call holds, at the lexical walk. No condition. -/
import Derived.Test.YtbdjcfaocmhdnaaHoldDraw
import Derived.Deep.QuietTactic
import Derived.BigQuiet
namespace Go.Proofs.Ytbdjcfaocmhdnaa
open Go Go.RowKit
set_option linter.unusedVariables false
set_option linter.unusedSimpArgs false

section
variable {P : Program} {ops : Array Oper} {o : Oper} {rest : List Oper} {a : Act} {w w0 : World} {Q : Act → Prop}
abbrev Drawn (w : World) : World → Prop := fun w' => ∃ n, w' = w.drewN n

/-- Fails at once unless the next operation of the quiet walk is a load of this type. -/
theorem at_qload {C : World → Prop} {d : Option Tmp} (T : TypeId) {x : Operand} {t : TypeId} {p : String} {af : Array Edge} {g : Option (Nat × Bool)}
    (h : wpQuiet P ops C Q ({ dst := d, op := .load T x, type := t, pos := p, after := af, guard := g } :: rest) a) : wpQuiet P ops C Q ({ dst := d, op := .load T x, type := t, pos := p, after := af, guard := g } :: rest) a := h

theorem wpQuiet_loads_H (hg : Region.wanted o (yielded ops a.tmps) = true) (T : TypeId) (x : Operand) (hop : o.op = .load T x) (hT : ∀ w, (isAgg T).run P w = .ok true w) (n : Nat) (hs : ∀ w, (sizeOf T).run P w = .ok n w) (b i : Nat) (hx : a.eval x = .pointer (some ⟨b, i, none⟩))
    {L : List (Nat × List Value × TypeId)} (H : Holds w0 L w) {cs : List Value} {T' : TypeId} (hm : (b, cs, T') ∈ L) (hn : i + n ≤ cs.length) (v : Array Value) (hv : ((cs.drop i).take n).toArray = v)
    (hK : wpQuiet P ops (fun w' => ∃ n, w' = w.drewN n) Q rest (a.put o.dst (.agg v))) : wpQuiet P ops (fun w' => ∃ n, w' = w.drewN n) Q (o :: rest) a := by
  refine BigFrame.wpQuiet_want hg fun K hK' => ⟨.agg v, fun w' hw' => ?_, hK' _ hK⟩
  obtain ⟨k, rfl⟩ := hw'
  subst hv
  unfold Oper.quietAt
  simp only [execOp, hop, hx, Instr.loadAt, Instr.sureAddr, Sem.run_bind, Sem.run_pure, Result.andThen_ok, run_loadVar_H (H.drewN k) hm T hT n hs i hn]
  exact ⟨rfl, rfl⟩

theorem wpQuiet_load_H (hg : Region.wanted o (yielded ops a.tmps) = true) (T : TypeId) (x : Operand) (hop : o.op = .load T x) (hT : ∀ w, (isAgg T).run P w = .ok false w) (b i : Nat) (hx : a.eval x = .pointer (some ⟨b, i, none⟩))
    {L : List (Nat × List Value × TypeId)} (H : Holds w0 L w) {cs : List Value} {T' : TypeId} (hm : (b, cs, T') ∈ L) (v : Value) (hv : cs[i]? = some v)
    (hK : wpQuiet P ops (fun w' => ∃ n, w' = w.drewN n) Q rest (a.put o.dst v)) : wpQuiet P ops (fun w' => ∃ n, w' = w.drewN n) Q (o :: rest) a := by
  refine BigFrame.wpQuiet_want hg fun K hK' => ⟨v, fun w' hw' => ?_, hK' _ hK⟩
  obtain ⟨k, rfl⟩ := hw'
  have hc : (w.drewN k).cell? ⟨b, i, none⟩ = some v := by rw [(H.drewN k).cell hm]; exact hv
  have hrun : (loadVar T ⟨b, i, none⟩).run P (w.drewN k) = .ok v (w.drewN k) := by simp [loadVar, hT, load, Sem.run, hc]
  unfold Oper.quietAt
  simp only [execOp, hop, hx, Instr.loadAt, Instr.sureAddr, Sem.run_bind, Sem.run_pure, Result.andThen_ok, hrun]
  exact ⟨rfl, rfl⟩
end
end Go.Proofs.Ytbdjcfaocmhdnaa
