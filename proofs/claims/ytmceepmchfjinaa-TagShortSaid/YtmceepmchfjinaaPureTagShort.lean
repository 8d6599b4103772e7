/- The plain law of TagShort, joined. -/
import Derived.Test.YtmceepmchfjinaaHShort
import Derived.Test.YtmceepmchfjinaaPureDefTagShort
namespace Go.Proofs.Ytmceepmchfjinaa.Q
open Go.RowKit Go.Proofs.YtmceepmchfjinaaW.PrintWords Go.Proofs.YtmceepmchfjinaaW.PrintLast Go.Proofs.YtmceepmchfjinaaW.PrintMore
set_option linter.unusedVariables false

theorem Pure.TagShort : targumlaw12_TagShort.Pure := by
  intro a b c d e h1 h2 h3 h4 h5
  refine ⟨0, ?_⟩
  unfold targumlaw12_TagShort.f
  exact if_pos ⟨h1, h2, h3, h4, h5⟩
end Go.Proofs.Ytmceepmchfjinaa.Q
