/- The plain law of MarkGoes, joined. No condition but the row's bounds. -/
import Derived.Test.YtbdjcfaocmhdnaaHMGoesC
import Derived.Test.YtbdjcfaocmhdnaaPureDefMarkGoes
namespace Go.Proofs.Ytbdjcfaocmhdnaa.Q
open Go.RowKit Go.Proofs.YtbdjcfaocmhdnaaW.PrintWords Go.Proofs.YtbdjcfaocmhdnaaW.PrintLast Go.Proofs.YtbdjcfaocmhdnaaW.PrintMore
set_option linter.unusedVariables false

theorem Pure.MarkGoes : targumlaw3_MarkGoes.Pure := by
  intro x0 x1 x2 x3 x4 h0 h1 h3 h4
  refine ⟨0, ?_⟩
  unfold targumlaw3_MarkGoes.f
  exact if_pos ⟨h0, h1, h3, h4⟩
end Go.Proofs.Ytbdjcfaocmhdnaa.Q
