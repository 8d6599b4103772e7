/- Written by hookprint.py: the plain statement of a law. -/
import Derived.Test.YtgbnbjajaaggkaaOpens
import Derived.Test.YtgbnbjajaaggkaaLEnds
import Derived.KernelRfl
namespace Go.Proofs.Ytgbnbjajaaggkaa.Q
open Go.RowKit Go.Proofs.YtgbnbjajaaggkaaW.PrintWords Go.Proofs.YtgbnbjajaaggkaaW.PrintLast Go.Proofs.YtgbnbjajaaggkaaW.PrintMore
set_option linter.unusedVariables false
/-- The one plain statement of targumlaw17_DquoteEnds. -/
def targumlaw17_DquoteEnds.Pure : Prop := ∀ (x0 : ByteArray) (x1 : Bool) (x2 : Bool) (x3 : ByteArray), x0.size ≤ 140737488351232 → x3.size ≤ 140737488351232 → ∃ k, targumlaw17_DquoteEnds.f k x0 x1 x2 x3 = some true
end Go.Proofs.Ytgbnbjajaaggkaa.Q
