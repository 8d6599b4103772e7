/- The plain law of PropAliases, joined. -/
import Derived.Test.YtaoameejkpipcaaHAliasesC
import Derived.Test.YtaoameejkpipcaaPureDefPropAliases
namespace Go.Proofs.Ytaoameejkpipcaa.Q
open Go.RowKit Go.Proofs.YtaoameejkpipcaaW.PrintWords Go.Proofs.YtaoameejkpipcaaW.PrintLast Go.Proofs.YtaoameejkpipcaaW.PrintMore
set_option linter.unusedVariables false

theorem Pure.PropAliases : targumlaw21_PropAliases.Pure := by
  intro s old c hs hc
  refine ⟨0, ?_⟩
  unfold targumlaw21_PropAliases.f
  exact if_pos ⟨hs, hc⟩
end Go.Proofs.Ytaoameejkpipcaa.Q
