/- The plain law of PropTwice, joined. -/
import Derived.Test.YtaoameejkpipcaaHTwiceC
import Derived.Test.YtaoameejkpipcaaPureDefPropTwice
namespace Go.Proofs.Ytaoameejkpipcaa.Q
open Go.RowKit Go.Proofs.YtaoameejkpipcaaW.PrintWords Go.Proofs.YtaoameejkpipcaaW.PrintLast Go.Proofs.YtaoameejkpipcaaW.PrintMore
set_option linter.unusedVariables false

theorem Pure.PropTwice : targumlaw21_PropTwice.Pure := by
  intro a b o f t c h1 h2 h3
  refine ⟨0, ?_⟩
  unfold targumlaw21_PropTwice.f
  exact if_pos ⟨h1, h2, h3⟩
end Go.Proofs.Ytaoameejkpipcaa.Q
