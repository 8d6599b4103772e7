/- The plain law of PropOrders, joined. -/
import Derived.Test.YtaoameejkpipcaaHOrders
import Derived.Test.YtaoameejkpipcaaPureDefPropOrders
namespace Go.Proofs.Ytaoameejkpipcaa.Q
open Go.RowKit Go.Proofs.YtaoameejkpipcaaW.PrintWords Go.Proofs.YtaoameejkpipcaaW.PrintLast Go.Proofs.YtaoameejkpipcaaW.PrintMore
set_option linter.unusedVariables false

theorem Pure.PropOrders : targumlaw21_PropOrders.Pure := by
  intro a b c o f r h1 h2 h3 h4
  refine ⟨0, ?_⟩
  unfold targumlaw21_PropOrders.f
  exact if_pos ⟨h1, h2, h3, h4⟩
end Go.Proofs.Ytaoameejkpipcaa.Q
