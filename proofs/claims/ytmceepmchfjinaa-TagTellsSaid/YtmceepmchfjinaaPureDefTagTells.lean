/- Written by hookprint.py: the plain statement of a law. -/
import Derived.Test.YtmceepmchfjinaaOpens
import Derived.Test.YtmceepmchfjinaaQx6
import Derived.KernelRfl
namespace Go.Proofs.Ytmceepmchfjinaa.Q
open Go.RowKit Go.Proofs.YtmceepmchfjinaaW.PrintWords Go.Proofs.YtmceepmchfjinaaW.PrintLast Go.Proofs.YtmceepmchfjinaaW.PrintMore
set_option linter.unusedVariables false
def Z23 (x : S23) : Prop := True ∧ x.f1.size ≤ 140737488351232 ∧ x.f2.size ≤ 140737488351232
def Z39 (x : S39) : Prop := x.f0.size ≤ 140737488351232 ∧ x.f1.size ≤ 140737488351232
/-- The one plain statement of targumlaw12_TagTells. -/
def targumlaw12_TagTells.Pure : Prop := ∀ (x0 : ByteArray) (x1 : Int) (x2 : S23) (x3 : List (S39)), x0.size ≤ 140737488351232 → (Lit.int .i64 x1).wf = true → Z23 x2 → (∀ x ∈ x3, Z39 x) ∧ x3.length * 32 ≤ 140737488351232 → ∃ k, targumlaw12_TagTells.f k x0 x1 x2.f0 x2.f1 x2.f2 x3 = some true
end Go.Proofs.Ytmceepmchfjinaa.Q
