/- Written by hookprint.py: the plain statement of a law. -/
import Derived.Test.YtaoameejkpipcaaOpens
import Derived.Test.YtaoameejkpipcaaHAliasesC
import Derived.KernelRfl
namespace Go.Proofs.Ytaoameejkpipcaa.Q
open Go.RowKit Go.Proofs.YtaoameejkpipcaaW.PrintWords Go.Proofs.YtaoameejkpipcaaW.PrintLast Go.Proofs.YtaoameejkpipcaaW.PrintMore
set_option linter.unusedVariables false
/-- The one plain statement of targumlaw21_PropAliases. -/
def targumlaw21_PropAliases.Pure : Prop := ∀ (x0 : ByteArray) (x1 : Bool) (x2 : Int), x0.size ≤ 140737488351232 → (Lit.int .u8 x2).wf = true → ∃ k, targumlaw21_PropAliases.f k x0 x1 x2 = some true
end Go.Proofs.Ytaoameejkpipcaa.Q
