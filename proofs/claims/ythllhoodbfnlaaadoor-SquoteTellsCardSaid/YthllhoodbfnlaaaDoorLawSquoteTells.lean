/- The law SquoteTells: for every input it answers true; each argument reads afterwards as it read before. The row lists library tables; the card ties them to the program's text. -/
import Derived.Test.YthllhoodbfnlaaaDoorL18c
import Derived.Test.YthllhoodbfnlaaaDoorMiniX
import Derived.Test.YthllhoodbfnlaaaDoorMiniZ
import Derived.Test.YthllhoodbfnlaaaDoorRows
import Derived.Test.YthllhoodbfnlaaaDoorShelf
import Derived.Test.YthllhoodbfnlaaaDoorCards
import Derived.Test.YthllhoodbfnlaaaDoorTie
import Derived.WalkKit
import Derived.ProofKit
import Derived.OpenShut
import Derived.ShutString
import Derived.ChangeOld
import Derived.ChangeSame
import Derived.Below
import Derived.SizedLaws
import Derived.Deep.Fields
import Derived.LaidMore
import Derived.Lay
import Derived.SevenTiedAt
import Derived.MakeChecks
import Derived.Stop.Joined
namespace Go.Proofs.YthllhoodbfnlaaaDoor.squoteTells
open Go Go.ChangeShapes Go.WideShapes Go.ChangeAt Go.RowKit Go.Deep Go.Mini
open Go.ChangeMaps (open_string shut_string)
set_option linter.unusedVariables false
set_option linter.unusedSimpArgs false
theorem own : ownKnob Tryd.prog.godebug = none := by kernel_rfl
theorem laidOut : laidOutB Tryd.prog = true := by kernel_rfl
theorem ux : U8Extra Tryd.prog Tryd.lays260_ren := ⟨by kernel_rfl, by kernel_rfl, by kernel_rfl, by kernel_rfl, by kernel_rfl, by kernel_rfl, by kernel_rfl⟩
theorem gl (W : World) (hL : laidMetH Tryd.prog Rows.squoteTellsRow.laid W) (hsh : W.ShapedOpen Tryd.prog) : Gl Tryd.prog W :=
  have hl : laidMet Tryd.prog Rows.squoteTellsRow.laid W := by rwa [MakeChecks.laidMetH_plain _ _ _ (by kernel_rfl)] at hL
  Gl.mk (tabs_laid Tryd.lays260 ux hl (List.mem_of_getElem? (i := 1) (show Rows.squoteTellsRow.laid[1]? = some ("unicode/utf8.first", Lib.firstData) from by kernel_rfl)) (List.mem_of_getElem? (i := 0) (show Rows.squoteTellsRow.laid[0]? = some ("unicode/utf8.acceptRanges", Lib.acceptData) from by kernel_rfl)) (by kernel_rfl) (by kernel_rfl)) (maxLen_shaped (k := 2) (zero := #[.int .i64 0]) (t := 3) (by kernel_rfl) hsh (of_decide_eq_true (by kernel_rfl)) (by kernel_rfl) rfl (by kernel_rfl) (by kernel_rfl) Tryd.underlying3)
set_option maxRecDepth 100000 in
theorem lifted (os : Os) (started : os.Started) (H : Type) (enc : TypeId × Value → H) :
    ReturnsInHanded {} Tryd.checked os 7 .any (fun w args => (Rows.squoteTellsSpec.pre enc Tryd.prog Tryd.f7 Rows.squoteTellsRow.domain false w args ∧ laidMetH Tryd.prog Rows.squoteTellsRow.laid w) ∧ sizedMet enc Tryd.prog Tryd.f7 (OpenSpec.ofChange Rows.squoteTellsSpec) false w args)
      (Rows.squoteTellsSpec.post enc Tryd.prog Tryd.f7 false true false false) := by
  refine returns_andS (C := Tryd.checked) (X := fun w _ => laidMetH Tryd.prog Rows.squoteTellsRow.laid w) (fun _ _ _ hh h => h.of_heap hh) own started (by kernel_rfl) Tryd.func7
    (ChangeSpec.witness_shaped (enc := enc) (C := Tryd.checked) (os := os) (X := fun w _ => laidMetH Tryd.prog Rows.squoteTellsRow.laid w) false (World.laidAll Tryd.prog os Rows.squoteTellsRow.laid) #[.string ByteArray.empty, .slice none 0 0, .int .i64 0, .bool false] 8 (World.laidAll_os _ _ _)
      (World.shaped_of_ZipB (by kernel_rfl) (by kernel_rfl)) (by kernel_rfl) (by kernel_rfl) (by kernel_rfl)
      (by rw [MakeChecks.laidMetH_plain _ _ _ (by kernel_rfl)]; exact laidMet_laidAll _ (by kernel_rfl) (by kernel_rfl))) ?_
  intro W base args ds gs before hval0 hW hcnd _ hL hsh _
  have hval : ∀ (j : Nat) t v, Tryd.f7.params[j]? = some t → args[j]? = some v → Value.okWide Tryd.prog W .any base t v := hval0
  have hW' := hW
  obtain ⟨p, q, hA0, hV, rfl, hfz, hnd⟩ := hW
  have hA : DataW.TrodAll enc Tryd.prog W 0 (fun _ => true) true Tryd.f7.params.toList args.toList ds p := hA0
  rw [Tryd.params7] at hA hval
  obtain ⟨v0, vs0, d0, ds0, p0, q0, hargs, rfl, rfl, h0, r0⟩ := trodAll_cons hA
  obtain ⟨v1, vs1, d1, ds1, p1, q1, rfl, rfl, rfl, h1, r1⟩ := trodAll_cons r0
  obtain ⟨v2, vs2, d2, ds2, p2, q2, rfl, rfl, rfl, h2, r2⟩ := trodAll_cons r1
  obtain ⟨v3, vs3, d3, ds3, p3, q3, rfl, rfl, rfl, h3, r3⟩ := trodAll_cons r2
  obtain ⟨rfl, rfl, rfl⟩ := trodAll_nil r3
  obtain rfl : args = #[v0, v1, v2, v3] := by cases args; simp_all
  obtain ⟨rfl, rfl⟩ := trodVars_none hV
  obtain ⟨x0, rfl, rfl, rfl, y0⟩ := open_string Tryd.underlying9 (hval 0 9 v0 rfl rfl) h0
  have k1 := h1
  have lt1 : ∀ x ∈ p1, x.block < W.heap.size := by obtain ⟨m, hm⟩ := k1; exact DataW.trod_lt m _ _ _ hm
  obtain ⟨fuel1, hf1⟩ := h1
  have one1 : v1.cells.toList = [v1] := by obtain ⟨a, len, cap, e⟩ := okWide_slice Tryd.underlying23 (hval 1 23 v1 rfl rfl); rw [e]; rfl
  rw [one1] at hf1
  obtain ⟨x1, c1, hs1, hr1⟩ := seen_bytes Tryd.underlying23 Tryd.underlying5 (by kernel_rfl) (hval 1 23 v1 rfl rfl) hf1
  obtain ⟨x2, rfl, rfl, rfl, w2⟩ := open_int Tryd.underlying3 (hval 2 3 v2 rfl rfl) h2
  obtain ⟨x3, rfl, rfl, rfl⟩ := open_bool Tryd.underlying4 (hval 3 4 v3 rfl rfl) h3
  refine (ACalls.law (w := W) (gl W hL hsh) [(⟨5, 1, byV x1, false⟩, c1)] (fun x hx => by simp only [List.mem_cons, List.not_mem_nil, or_false] at hx; subst hx; exact hs1) (targumlaw18_SquoteTells.law x0 x1 x2 x3) (.cons (VR.same rfl) (.cons (hr1 _ _ 0 (Nat.lt_of_lt_of_le (Nat.lt_succ_self _) (Nat.le_of_ble_eq_true rfl)) rfl) (.cons (VR.same rfl) (.cons (VR.same rfl) .nil))))).mono fun e W' ⟨he, bel⟩ => ?_
  subst he
  exact ⟨_, rfl, _, _, _, [], _, [], hW', trodAll_mk1 (shut_bool Tryd.underlying4 _), (trodAll_cons_mk (shut_string Tryd.underlying9 y0) (trodAll_cons_mk (Below.trod laidOut (by kernel_rfl) (of_decide_eq_true (by kernel_rfl)) k1 bel lt1) (trodAll_cons_mk (shut_int Tryd.underlying3 w2) (trodAll_cons_mk (shut_bool Tryd.underlying4 _) trodAll_mk0)))), rfl, bel.frame _, fun h => by cases h⟩
theorem over : Rows.squoteTellsRow.holds Tryd.pinned (OpenSpec.ofChange Rows.squoteTellsSpec) :=
  OpenClaim.holds_of_wide 7 Tryd.f7 rfl rfl rfl rfl rfl rfl rfl ⟨rfl, rfl, rfl, rfl, rfl⟩ rfl rfl rfl rfl rfl (by kernel_rfl) Tryd.func7 (by kernel_rfl)
    (of_decide_eq_true (by kernel_rfl)) (by unfold Func.isWrapper; first | (rw [if_pos (by decide +kernel)]; kernel_rfl) | (rw [if_neg (by decide +kernel)]; exact ⟨rfl, rfl⟩))
    (fun os started H enc _ => lifted os started H enc)
theorem proved : Rows.SquoteTellsSaid := over
set_option maxRecDepth 100000 in
theorem card : Rows.SquoteTellsCardSaid :=
  Claim7.holds_tied_plain_at .later [] [.data, .pinned] true (true, "f992edf4714122dfcd5b8ac929b7d6ec7200df75add4c19c908dc90280f2f757") false proved (fun _ h => by cases h) (by kernel_rfl) (fun _ h => by cases h) squoteTells_row_tie rfl ⟨rfl, rfl⟩ (by kernel_rfl) rfl
    (fun f fn hf hfn => by
      obtain rfl : f = 7 := Option.some.inj ((show Tryd.prog.funcNamed "targum/targumlaw18.SquoteTells" = some 7 by kernel_rfl).symm.trans hf) |>.symm
      obtain rfl : fn = Tryd.f7 := (Option.some.inj (Tryd.func7.symm.trans hfn)).symm
      exact ⟨by kernel_rfl, fun j t ht => by
        rw [Tryd.params7] at ht
        have hm : t ∈ [9, 23, 3, 4] := by simpa using Array.mem_of_getElem? ht
        have hall : ([9, 23, 3, 4].all fun u => !Tryd.prog.wantsStandIn u) = true := by kernel_rfl
        exact (show Tryd.prog.wantsStandIn t = false by simpa using List.all_eq_true.1 hall t hm)⟩)
    (by kernel_rfl)
#print axioms card
end Go.Proofs.YthllhoodbfnlaaaDoor.squoteTells
namespace Go.Proofs.YthllhoodbfnlaaaDoor
/-- The statement, under a short name, for the claim. -/
theorem squoteTells_holds : Rows.SquoteTellsCardSaid := squoteTells.card
end Go.Proofs.YthllhoodbfnlaaaDoor
