/- Written by hookprint.py: the plain statement of a law. -/
import Derived.Test.YtmceepmchfjinaaOpens
import Derived.Test.YtmceepmchfjinaaQx7
import Derived.KernelRfl
namespace Go.Proofs.Ytmceepmchfjinaa.Q
open Go.RowKit Go.Proofs.YtmceepmchfjinaaW.PrintWords Go.Proofs.YtmceepmchfjinaaW.PrintLast Go.Proofs.YtmceepmchfjinaaW.PrintMore
set_option linter.unusedVariables false
def Z39 (x : S39) : Prop := x.f0.size ≤ 140737488351232 ∧ x.f1.size ≤ 140737488351232
/-- The one plain statement of targumlaw12_TagBack. -/
def targumlaw12_TagBack.Pure : Prop := ∀ (x0 : ByteArray) (x1 : ByteArray) (x2 : List (S39)), x0.size ≤ 140737488351232 → x1.size ≤ 140737488351232 → (∀ x ∈ x2, Z39 x) ∧ x2.length * 32 ≤ 140737488351232 → ∃ k, targumlaw12_TagBack.f k x0 x1 x2 = some true
end Go.Proofs.Ytmceepmchfjinaa.Q
