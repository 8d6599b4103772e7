/- Written by hookprint.py: the plain statement of a law. -/
import Derived.Test.YtgbnbjajaaggkaaOpens
import Derived.Test.YtgbnbjajaaggkaaLBack
import Derived.KernelRfl
namespace Go.Proofs.Ytgbnbjajaaggkaa.Q
open Go.RowKit Go.Proofs.YtgbnbjajaaggkaaW.PrintWords Go.Proofs.YtgbnbjajaaggkaaW.PrintLast Go.Proofs.YtgbnbjajaaggkaaW.PrintMore
set_option linter.unusedVariables false
/-- The one plain statement of targumlaw17_DquoteBack. -/
def targumlaw17_DquoteBack.Pure : Prop := ∀ (x0 : ByteArray) (x1 : Int) (x2 : Bool), x0.size ≤ 140737488351232 → (Lit.int .u32 x1).wf = true → ∃ k, targumlaw17_DquoteBack.f k x0 x1 x2 = some true
end Go.Proofs.Ytgbnbjajaaggkaa.Q
