/- Written by hookprint.py: the plain statement of a law. -/
import Derived.Test.YtbdjcfaocmhdnaaOpens
import Derived.Test.YtbdjcfaocmhdnaaHMAddsC
import Derived.KernelRfl
namespace Go.Proofs.Ytbdjcfaocmhdnaa.Q
open Go.RowKit Go.Proofs.YtbdjcfaocmhdnaaW.PrintWords Go.Proofs.YtbdjcfaocmhdnaaW.PrintLast Go.Proofs.YtbdjcfaocmhdnaaW.PrintMore
set_option linter.unusedVariables false
/-- The one plain statement of targumlaw3_MarkAdds. -/
def targumlaw3_MarkAdds.Pure : Prop := ∀ (x0 : ByteArray) (x1 : Bool) (x2 : Int) (x3 : Int), x0.size ≤ 140737488351232 → (Lit.int .i64 x2).wf = true → (Lit.int .i64 x3).wf = true → ∃ k, targumlaw3_MarkAdds.f k x0 x1 x2 x3 = some true
end Go.Proofs.Ytbdjcfaocmhdnaa.Q
