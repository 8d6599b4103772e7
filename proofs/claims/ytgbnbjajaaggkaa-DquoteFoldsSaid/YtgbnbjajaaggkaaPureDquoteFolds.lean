/- The plain law of DquoteFolds, joined. No condition but the row's bounds. -/
import Derived.Test.YtgbnbjajaaggkaaHFoldsC
import Derived.Test.YtgbnbjajaaggkaaPureDefDquoteFolds
namespace Go.Proofs.Ytgbnbjajaaggkaa.Q
open Go.RowKit Go.Proofs.YtgbnbjajaaggkaaW.PrintWords Go.Proofs.YtgbnbjajaaggkaaW.PrintLast Go.Proofs.YtgbnbjajaaggkaaW.PrintMore
set_option linter.unusedVariables false

theorem Pure.DquoteFolds : targumlaw17_DquoteFolds.Pure := by
  intro x0 x1 x2 x3 h0 h1 h2
  refine ⟨0, ?_⟩
  unfold targumlaw17_DquoteFolds.f
  exact if_pos ⟨h0, h1, h2⟩
end Go.Proofs.Ytgbnbjajaaggkaa.Q
