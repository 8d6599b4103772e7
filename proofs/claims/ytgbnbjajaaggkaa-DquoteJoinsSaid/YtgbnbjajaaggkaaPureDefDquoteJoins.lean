/- Written by hookprint.py: the plain statement of a law. -/
import Derived.Test.YtgbnbjajaaggkaaOpens
import Derived.Test.YtgbnbjajaaggkaaLJoins
import Derived.KernelRfl
namespace Go.Proofs.Ytgbnbjajaaggkaa.Q
open Go.RowKit Go.Proofs.YtgbnbjajaaggkaaW.PrintWords Go.Proofs.YtgbnbjajaaggkaaW.PrintLast Go.Proofs.YtgbnbjajaaggkaaW.PrintMore
set_option linter.unusedVariables false
/-- The one plain statement of targumlaw17_DquoteJoins. -/
def targumlaw17_DquoteJoins.Pure : Prop := ∀ (x0 : Int) (x1 : Int) (x2 : Int) (x3 : Bool), (Lit.int .u8 x0).wf = true → (Lit.int .u8 x1).wf = true → (Lit.int .u8 x2).wf = true → ∃ k, targumlaw17_DquoteJoins.f k x0 x1 x2 x3 = some true
end Go.Proofs.Ytgbnbjajaaggkaa.Q
