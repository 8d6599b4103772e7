/- Written by hookprint.py: the plain statement of a law. -/
import Derived.Test.YtgbnbjajaaggkaaOpens
import Derived.Test.YtgbnbjajaaggkaaHFoldsC
import Derived.KernelRfl
namespace Go.Proofs.Ytgbnbjajaaggkaa.Q
open Go.RowKit Go.Proofs.YtgbnbjajaaggkaaW.PrintWords Go.Proofs.YtgbnbjajaaggkaaW.PrintLast Go.Proofs.YtgbnbjajaaggkaaW.PrintMore
set_option linter.unusedVariables false
/-- The one plain statement of targumlaw17_DquoteFolds. -/
def targumlaw17_DquoteFolds.Pure : Prop := ∀ (x0 : List ByteArray) (x1 : List Int) (x2 : Int) (x3 : Bool), (∀ x ∈ x0, x.size ≤ 140737488351232) ∧ x0.length * 16 ≤ 140737488351232 → (∀ x ∈ x1, (Lit.int .u8 x).wf = true) ∧ x1.length * 1 ≤ 140737488351232 → (Lit.int .u8 x2).wf = true → ∃ k, targumlaw17_DquoteFolds.f k x0 x1 x2 x3 = some true
end Go.Proofs.Ytgbnbjajaaggkaa.Q
