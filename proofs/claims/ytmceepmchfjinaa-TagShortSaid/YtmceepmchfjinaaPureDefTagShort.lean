/- Written by hookprint.py: the plain statement of a law. -/
import Derived.Test.YtmceepmchfjinaaOpens
import Derived.Test.YtmceepmchfjinaaHShort
import Derived.KernelRfl
namespace Go.Proofs.Ytmceepmchfjinaa.Q
open Go.RowKit Go.Proofs.YtmceepmchfjinaaW.PrintWords Go.Proofs.YtmceepmchfjinaaW.PrintLast Go.Proofs.YtmceepmchfjinaaW.PrintMore
set_option linter.unusedVariables false
/-- The one plain statement of targumlaw12_TagShort. -/
def targumlaw12_TagShort.Pure : Prop := ∀ (x0 : ByteArray) (x1 : ByteArray) (x2 : Int) (x3 : ByteArray) (x4 : ByteArray), x0.size ≤ 140737488351232 → x1.size ≤ 140737488351232 → (Lit.int .u8 x2).wf = true → x3.size ≤ 140737488351232 → x4.size ≤ 140737488351232 → ∃ k, targumlaw12_TagShort.f k x0 x1 x2 x3 x4 = some true
end Go.Proofs.Ytmceepmchfjinaa.Q
