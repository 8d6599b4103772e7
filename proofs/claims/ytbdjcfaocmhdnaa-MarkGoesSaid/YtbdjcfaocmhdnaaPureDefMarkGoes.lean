/- Written by hookprint.py: the plain statement of a law. -/
import Derived.Test.YtbdjcfaocmhdnaaOpens
import Derived.Test.YtbdjcfaocmhdnaaHMGoesC
import Derived.KernelRfl
namespace Go.Proofs.Ytbdjcfaocmhdnaa.Q
open Go.RowKit Go.Proofs.YtbdjcfaocmhdnaaW.PrintWords Go.Proofs.YtbdjcfaocmhdnaaW.PrintLast Go.Proofs.YtbdjcfaocmhdnaaW.PrintMore
set_option linter.unusedVariables false
/-- The one plain statement of targumlaw3_MarkGoes. -/
def targumlaw3_MarkGoes.Pure : Prop := ∀ (x0 : ByteArray) (x1 : ByteArray) (x2 : Bool) (x3 : Int) (x4 : Int), x0.size ≤ 140737488351232 → x1.size ≤ 140737488351232 → (Lit.int .i16 x3).wf = true → (Lit.int .i16 x4).wf = true → ∃ k, targumlaw3_MarkGoes.f k x0 x1 x2 x3 x4 = some true
end Go.Proofs.Ytbdjcfaocmhdnaa.Q
