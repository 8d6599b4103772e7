/- The plain law of MarkBack, joined. No condition but the row's bounds. -/
import Derived.Test.YtbdjcfaocmhdnaaHMBackC
import Derived.Test.YtbdjcfaocmhdnaaPureDefMarkBack
namespace Go.Proofs.Ytbdjcfaocmhdnaa.Q
open Go.RowKit Go.Proofs.YtbdjcfaocmhdnaaW.PrintWords Go.Proofs.YtbdjcfaocmhdnaaW.PrintLast Go.Proofs.YtbdjcfaocmhdnaaW.PrintMore
set_option linter.unusedVariables false

theorem Pure.MarkBack : targumlaw3_MarkBack.Pure := by
  intro x0 x1 x2 h0 h2
  refine ⟨0, ?_⟩
  unfold targumlaw3_MarkBack.f
  exact if_pos ⟨h0, h2⟩
end Go.Proofs.Ytbdjcfaocmhdnaa.Q
