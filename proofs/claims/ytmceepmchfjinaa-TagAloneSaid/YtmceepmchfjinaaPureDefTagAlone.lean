/- Written by hookprint.py: the plain statement of a law. -/
import Derived.Test.YtmceepmchfjinaaOpens
import Derived.Test.YtmceepmchfjinaaAloneC
import Derived.KernelRfl
namespace Go.Proofs.Ytmceepmchfjinaa.Q
open Go.RowKit Go.Proofs.YtmceepmchfjinaaW.PrintWords Go.Proofs.YtmceepmchfjinaaW.PrintLast Go.Proofs.YtmceepmchfjinaaW.PrintMore
set_option linter.unusedVariables false
def Z39 (x : S39) : Prop := x.f0.size ≤ 140737488351232 ∧ x.f1.size ≤ 140737488351232
/-- The one plain statement of targumlaw12_TagAlone. -/
def targumlaw12_TagAlone.Pure : Prop := ∀ (x0 : ByteArray) (x1 : List (S39)) (x2 : ByteArray), x0.size ≤ 140737488351232 → (∀ x ∈ x1, Z39 x) ∧ x1.length * 32 ≤ 140737488351232 → x2.size ≤ 140737488351232 → ∃ k, targumlaw12_TagAlone.f k x0 x1 x2 = some true
end Go.Proofs.Ytmceepmchfjinaa.Q
