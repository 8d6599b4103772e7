/- Written by hookprint.py: the plain statement of a law. -/
import Derived.Test.YtgbnbjajaaggkaaOpens
import Derived.Test.YtgbnbjajaaggkaaLTells
import Derived.KernelRfl
namespace Go.Proofs.Ytgbnbjajaaggkaa.Q
open Go.RowKit Go.Proofs.YtgbnbjajaaggkaaW.PrintWords Go.Proofs.YtgbnbjajaaggkaaW.PrintLast Go.Proofs.YtgbnbjajaaggkaaW.PrintMore
set_option linter.unusedVariables false
/-- The one plain statement of targumlaw17_DquoteTells. -/
def targumlaw17_DquoteTells.Pure : Prop := ∀ (x0 : ByteArray) (x1 : List Int) (x2 : Int) (x3 : Bool), x0.size ≤ 140737488351232 → (∀ x ∈ x1, (Lit.int .u8 x).wf = true) ∧ x1.length * 1 ≤ 140737488351232 → (Lit.int .i64 x2).wf = true → ∃ k, targumlaw17_DquoteTells.f k x0 x1 x2 x3 = some true
end Go.Proofs.Ytgbnbjajaaggkaa.Q
