/- The plain law of MarkAdds, joined. No condition but the row's bounds. -/
import Derived.Test.YtbdjcfaocmhdnaaHMAddsC
import Derived.Test.YtbdjcfaocmhdnaaPureDefMarkAdds
namespace Go.Proofs.Ytbdjcfaocmhdnaa.Q
open Go.RowKit Go.Proofs.YtbdjcfaocmhdnaaW.PrintWords Go.Proofs.YtbdjcfaocmhdnaaW.PrintLast Go.Proofs.YtbdjcfaocmhdnaaW.PrintMore
set_option linter.unusedVariables false

theorem Pure.MarkAdds : targumlaw3_MarkAdds.Pure := by
  intro x0 x1 x2 x3 h0 h2 h3
  refine ⟨0, ?_⟩
  unfold targumlaw3_MarkAdds.f
  exact if_pos ⟨h0, h2, h3⟩
end Go.Proofs.Ytbdjcfaocmhdnaa.Q
