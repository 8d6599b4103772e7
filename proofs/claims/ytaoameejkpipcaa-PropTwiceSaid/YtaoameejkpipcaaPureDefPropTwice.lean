/- Written by hookprint.py: the plain statement of a law. -/
import Derived.Test.YtaoameejkpipcaaOpens
import Derived.Test.YtaoameejkpipcaaHTwiceC
import Derived.KernelRfl
namespace Go.Proofs.Ytaoameejkpipcaa.Q
open Go.RowKit Go.Proofs.YtaoameejkpipcaaW.PrintWords Go.Proofs.YtaoameejkpipcaaW.PrintLast Go.Proofs.YtaoameejkpipcaaW.PrintMore
set_option linter.unusedVariables false
/-- The one plain statement of targumlaw21_PropTwice. -/
def targumlaw21_PropTwice.Pure : Prop := ∀ (x0 : ByteArray) (x1 : ByteArray) (x2 : Bool) (x3 : Bool) (x4 : Bool) (x5 : Int), x0.size ≤ 140737488351232 → x1.size ≤ 140737488351232 → (Lit.int .u8 x5).wf = true → ∃ k, targumlaw21_PropTwice.f k x0 x1 x2 x3 x4 x5 = some true
end Go.Proofs.Ytaoameejkpipcaa.Q
