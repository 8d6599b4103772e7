/- The law SquoteDouble: for every input it answers true; each argument reads afterwards as it read before. The row lists library tables; the card ties them to the program's text. -/
import Derived.Test.YthllhoodbfnlaaaDoorL18e
import Derived.Test.YthllhoodbfnlaaaDoorMiniX
import Derived.Test.YthllhoodbfnlaaaDoorMiniZ
import Derived.Test.YthllhoodbfnlaaaDoorRows
import Derived.Test.YthllhoodbfnlaaaDoorShelf
import Derived.Test.YthllhoodbfnlaaaDoorCards
import Derived.Test.YthllhoodbfnlaaaDoorTie
import Derived.WalkKit
import Derived.ProofKit
import Derived.OpenShut
import Derived.ShutString
import Derived.ChangeOld
import Derived.ChangeSame
import Derived.Below
import Derived.SizedLaws
import Derived.Deep.Fields
import Derived.LaidMore
import Derived.Lay
import Derived.SevenTiedAt
import Derived.MakeChecks
import Derived.Stop.Joined
namespace Go.Proofs.YthllhoodbfnlaaaDoor.squoteDouble
open Go Go.ChangeShapes Go.WideShapes Go.ChangeAt Go.RowKit Go.Deep Go.Mini
open Go.ChangeMaps (open_string shut_string)
set_option linter.unusedVariables false
set_option linter.unusedSimpArgs false
theorem own : ownKnob Tryd.prog.godebug = none := by kernel_rfl
theorem laidOut : laidOutB Tryd.prog = true := by kernel_rfl
theorem ux : U8Extra Tryd.prog Tryd.lays260_ren := ⟨by kernel_rfl, by kernel_rfl, by kernel_rfl, by kernel_rfl, by kernel_rfl, by kernel_rfl, by kernel_rfl⟩
theorem gl (W : World) (hL : laidMetH Tryd.prog Rows.squoteDoubleRow.laid W) (hsh : W.ShapedOpen Tryd.prog) : Gl Tryd.prog W :=
  have hl : laidMet Tryd.prog Rows.squoteDoubleRow.laid W := by rwa [MakeChecks.laidMetH_plain _ _ _ (by kernel_rfl)] at hL
  Gl.mk (tabs_laid Tryd.lays260 ux hl (List.mem_of_getElem? (i := 1) (show Rows.squoteDoubleRow.laid[1]? = some ("unicode/utf8.first", Lib.firstData) from by kernel_rfl)) (List.mem_of_getElem? (i := 0) (show Rows.squoteDoubleRow.laid[0]? = some ("unicode/utf8.acceptRanges", Lib.acceptData) from by kernel_rfl)) (by kernel_rfl) (by kernel_rfl)) (maxLen_shaped (k := 2) (zero := #[.int .i64 0]) (t := 3) (by kernel_rfl) hsh (of_decide_eq_true (by kernel_rfl)) (by kernel_rfl) rfl (by kernel_rfl) (by kernel_rfl) Tryd.underlying3)
set_option maxRecDepth 100000 in
theorem lifted (os : Os) (started : os.Started) (H : Type) (enc : TypeId × Value → H) :
    ReturnsInHanded {} Tryd.checked os 9 .any (fun w args => (Rows.squoteDoubleSpec.pre enc Tryd.prog Tryd.f9 Rows.squoteDoubleRow.domain false w args ∧ laidMetH Tryd.prog Rows.squoteDoubleRow.laid w) ∧ sizedMet enc Tryd.prog Tryd.f9 (OpenSpec.ofChange Rows.squoteDoubleSpec) false w args)
      (Rows.squoteDoubleSpec.post enc Tryd.prog Tryd.f9 false true false false) := by
  refine returns_andS (C := Tryd.checked) (X := fun w _ => laidMetH Tryd.prog Rows.squoteDoubleRow.laid w) (fun _ _ _ hh h => h.of_heap hh) own started (by kernel_rfl) Tryd.func9
    (ChangeSpec.witness_shaped (enc := enc) (C := Tryd.checked) (os := os) (X := fun w _ => laidMetH Tryd.prog Rows.squoteDoubleRow.laid w) false (World.laidAll Tryd.prog os Rows.squoteDoubleRow.laid) #[.string ByteArray.empty, .bool false] 8 (World.laidAll_os _ _ _)
      (World.shaped_of_ZipB (by kernel_rfl) (by kernel_rfl)) (by kernel_rfl) (by kernel_rfl) (by kernel_rfl)
      (by rw [MakeChecks.laidMetH_plain _ _ _ (by kernel_rfl)]; exact laidMet_laidAll _ (by kernel_rfl) (by kernel_rfl))) ?_
  intro W base args ds gs before hval0 hW hcnd _ hL hsh _
  have hval : ∀ (j : Nat) t v, Tryd.f9.params[j]? = some t → args[j]? = some v → Value.okWide Tryd.prog W .any base t v := hval0
  have hW' := hW
  obtain ⟨p, q, hA0, hV, rfl, hfz, hnd⟩ := hW
  have hA : DataW.TrodAll enc Tryd.prog W 0 (fun _ => true) true Tryd.f9.params.toList args.toList ds p := hA0
  rw [Tryd.params9] at hA hval
  obtain ⟨v0, vs0, d0, ds0, p0, q0, hargs, rfl, rfl, h0, r0⟩ := trodAll_cons hA
  obtain ⟨v1, vs1, d1, ds1, p1, q1, rfl, rfl, rfl, h1, r1⟩ := trodAll_cons r0
  obtain ⟨rfl, rfl, rfl⟩ := trodAll_nil r1
  obtain rfl : args = #[v0, v1] := by cases args; simp_all
  obtain ⟨rfl, rfl⟩ := trodVars_none hV
  obtain ⟨x0, rfl, rfl, rfl, y0⟩ := open_string Tryd.underlying9 (hval 0 9 v0 rfl rfl) h0
  obtain ⟨x1, rfl, rfl, rfl⟩ := open_bool Tryd.underlying4 (hval 1 4 v1 rfl rfl) h1
  refine (ACalls.law (w := W) (gl W hL hsh) [] (fun x hx => by cases hx) (targumlaw18_SquoteDouble.law x0 x1) (.cons (VR.same rfl) (.cons (VR.same rfl) .nil))).mono fun e W' ⟨he, bel⟩ => ?_
  subst he
  exact ⟨_, rfl, _, _, _, [], _, [], hW', trodAll_mk1 (shut_bool Tryd.underlying4 _), (trodAll_cons_mk (shut_string Tryd.underlying9 y0) (trodAll_cons_mk (shut_bool Tryd.underlying4 _) trodAll_mk0)), rfl, bel.frame _, fun h => by cases h⟩
theorem over : Rows.squoteDoubleRow.holds Tryd.pinned (OpenSpec.ofChange Rows.squoteDoubleSpec) :=
  OpenClaim.holds_of_wide 9 Tryd.f9 rfl rfl rfl rfl rfl rfl rfl ⟨rfl, rfl, rfl, rfl, rfl⟩ rfl rfl rfl rfl rfl (by kernel_rfl) Tryd.func9 (by kernel_rfl)
    (of_decide_eq_true (by kernel_rfl)) (by unfold Func.isWrapper; first | (rw [if_pos (by decide +kernel)]; kernel_rfl) | (rw [if_neg (by decide +kernel)]; exact ⟨rfl, rfl⟩))
    (fun os started H enc _ => lifted os started H enc)
theorem proved : Rows.SquoteDoubleSaid := over
set_option maxRecDepth 100000 in
theorem card : Rows.SquoteDoubleCardSaid :=
  Claim7.holds_tied_plain_at .later [] [.data, .pinned] true (true, "f992edf4714122dfcd5b8ac929b7d6ec7200df75add4c19c908dc90280f2f757") false proved (fun _ h => by cases h) (by kernel_rfl) (fun _ h => by cases h) squoteDouble_row_tie rfl ⟨rfl, rfl⟩ (by kernel_rfl) rfl
    (fun f fn hf hfn => by
      obtain rfl : f = 9 := Option.some.inj ((show Tryd.prog.funcNamed "targum/targumlaw18.SquoteDouble" = some 9 by kernel_rfl).symm.trans hf) |>.symm
      obtain rfl : fn = Tryd.f9 := (Option.some.inj (Tryd.func9.symm.trans hfn)).symm
      exact ⟨by kernel_rfl, fun j t ht => by
        rw [Tryd.params9] at ht
        have hm : t ∈ [9, 4] := by simpa using Array.mem_of_getElem? ht
        have hall : ([9, 4].all fun u => !Tryd.prog.wantsStandIn u) = true := by kernel_rfl
        exact (show Tryd.prog.wantsStandIn t = false by simpa using List.all_eq_true.1 hall t hm)⟩)
    (by kernel_rfl)
#print axioms card
end Go.Proofs.YthllhoodbfnlaaaDoor.squoteDouble
namespace Go.Proofs.YthllhoodbfnlaaaDoor
/-- The statement, under a short name, for the claim. -/
theorem squoteDouble_holds : Rows.SquoteDoubleCardSaid := squoteDouble.card
end Go.Proofs.YthllhoodbfnlaaaDoor
