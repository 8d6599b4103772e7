/- Written by hookprint.py: the plain statement of a law. -/
import Derived.Test.YtaoameejkpipcaaOpens
import Derived.Test.YtaoameejkpipcaaHOrders
import Derived.KernelRfl
namespace Go.Proofs.Ytaoameejkpipcaa.Q
open Go.RowKit Go.Proofs.YtaoameejkpipcaaW.PrintWords Go.Proofs.YtaoameejkpipcaaW.PrintLast Go.Proofs.YtaoameejkpipcaaW.PrintMore
set_option linter.unusedVariables false
/-- The one plain statement of targumlaw21_PropOrders. -/
def targumlaw21_PropOrders.Pure : Prop := ∀ (x0 : ByteArray) (x1 : ByteArray) (x2 : Int) (x3 : Bool) (x4 : Bool) (x5 : ByteArray), x0.size ≤ 140737488351232 → x1.size ≤ 140737488351232 → (Lit.int .u8 x2).wf = true → x5.size ≤ 140737488351232 → ∃ k, targumlaw21_PropOrders.f k x0 x1 x2 x3 x4 x5 = some true
end Go.Proofs.Ytaoameejkpipcaa.Q
