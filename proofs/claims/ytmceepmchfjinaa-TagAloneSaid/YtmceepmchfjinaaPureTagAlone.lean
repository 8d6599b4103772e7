/- The plain law of TagAlone, joined. -/
import Derived.Test.YtmceepmchfjinaaTagAlone
import Derived.Test.YtmceepmchfjinaaPureDefTagAlone
namespace Go.Proofs.Ytmceepmchfjinaa.Q
open Go.RowKit Go.Proofs.YtmceepmchfjinaaW.PrintWords Go.Proofs.YtmceepmchfjinaaW.PrintLast Go.Proofs.YtmceepmchfjinaaW.PrintMore
set_option linter.unusedVariables false
set_option linter.unusedSimpArgs false

theorem Pure.TagAlone : targumlaw12_TagAlone.Pure := by
  intro s l p hs hl hp
  refine Ev.rounds (r := true) ?_
  unfold targumlaw12_TagAlone.f
  refine ev_if_pos known_true ?_
  by_cases h1 : (s.size : Int) > 30 ∨ (l.length : Int) > 30
  · exact ev_if_pos h1 (Ev.now _)
  refine ev_if_neg h1 ?_
  obtain ⟨x, hx, hx1, hx2⟩ := tagged_some s ⟨#[95, 46, 126, 42, 39, 40, 41, 59, 47, 63, 58, 64, 38, 61, 43, 36, 35, 37]⟩ (by omega) (by decide) (by decide)
  refine Ev.bind hx (ev_if_pos (by omega) ?_)
  rw [alone_read x (by omega) hx2]
  refine Ev.bind (Ev.now _) (ev_if_pos ⟨rfl, rfl, rfl, rfl, rfl⟩ ?_)
  rw [alone_core x p l (by omega) hp (by omega) (fun y hy => (hl.1 y hy).2)]
  exact Ev.now _
end Go.Proofs.Ytmceepmchfjinaa.Q
