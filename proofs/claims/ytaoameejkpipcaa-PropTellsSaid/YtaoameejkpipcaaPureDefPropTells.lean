/- Written by hookprint.py: the plain statement of a law. -/
import Derived.Test.YtaoameejkpipcaaOpens
import Derived.Test.YtaoameejkpipcaaHTells
import Derived.KernelRfl
namespace Go.Proofs.Ytaoameejkpipcaa.Q
open Go.RowKit Go.Proofs.YtaoameejkpipcaaW.PrintWords Go.Proofs.YtaoameejkpipcaaW.PrintLast Go.Proofs.YtaoameejkpipcaaW.PrintMore
set_option linter.unusedVariables false
/-- The one plain statement of targumlaw21_PropTells. -/
def targumlaw21_PropTells.Pure : Prop := ∀ (x0 : ByteArray) (x1 : List Int) (x2 : Int) (x3 : Bool) (x4 : Bool), x0.size ≤ 140737488351232 → (∀ x ∈ x1, (Lit.int .u8 x).wf = true) ∧ x1.length * 1 ≤ 140737488351232 → (Lit.int .i64 x2).wf = true → ∃ k, targumlaw21_PropTells.f k x0 x1 x2 x3 x4 = some true
end Go.Proofs.Ytaoameejkpipcaa.Q
