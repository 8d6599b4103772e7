/- The plain law of PropTells, joined. -/
import Derived.Test.YtaoameejkpipcaaHTells
import Derived.Test.YtaoameejkpipcaaPureDefPropTells
namespace Go.Proofs.Ytaoameejkpipcaa.Q
open Go.RowKit Go.Proofs.YtaoameejkpipcaaW.PrintWords Go.Proofs.YtaoameejkpipcaaW.PrintLast Go.Proofs.YtaoameejkpipcaaW.PrintMore
set_option linter.unusedVariables false

theorem Pure.PropTells : targumlaw21_PropTells.Pure := by
  intro s l i old flow hs hl hi
  refine ⟨0, ?_⟩
  unfold targumlaw21_PropTells.f
  exact if_pos ⟨hs, List.all_eq_true.2 (fun x hx => hl.1 x hx), hi⟩
end Go.Proofs.Ytaoameejkpipcaa.Q
