/- The law BlockLines: for every input it answers true; each argument reads afterwards as it read before. The row lists library tables; the card ties them to the program's text. -/
import Derived.Test.YthllhoodbfnlaaaDoorL19d
import Derived.Test.YthllhoodbfnlaaaDoorMiniX
import Derived.Test.YthllhoodbfnlaaaDoorMiniZ
import Derived.Test.YthllhoodbfnlaaaDoorRows
import Derived.Test.YthllhoodbfnlaaaDoorShelf
import Derived.Test.YthllhoodbfnlaaaDoorCards
import Derived.Test.YthllhoodbfnlaaaDoorTie
import Derived.WalkKit
import Derived.ProofKit
import Derived.OpenShut
import Derived.ShutString
import Derived.ChangeOld
import Derived.ChangeSame
import Derived.Below
import Derived.SizedLaws
import Derived.Deep.Fields
import Derived.LaidMore
import Derived.Lay
import Derived.SevenTiedAt
import Derived.MakeChecks
import Derived.Stop.Joined
namespace Go.Proofs.YthllhoodbfnlaaaDoor.blockLines
open Go Go.ChangeShapes Go.WideShapes Go.ChangeAt Go.RowKit Go.Deep Go.Mini
open Go.ChangeMaps (open_string shut_string)
set_option linter.unusedVariables false
set_option linter.unusedSimpArgs false
theorem own : ownKnob Tryd.prog.godebug = none := by kernel_rfl
theorem laidOut : laidOutB Tryd.prog = true := by kernel_rfl
theorem ux : U8Extra Tryd.prog Tryd.lays260_ren := ⟨by kernel_rfl, by kernel_rfl, by kernel_rfl, by kernel_rfl, by kernel_rfl, by kernel_rfl, by kernel_rfl⟩
theorem gl (W : World) (hL : laidMetH Tryd.prog Rows.blockLinesRow.laid W) (hsh : W.ShapedOpen Tryd.prog) : Gl Tryd.prog W :=
  have hl : laidMet Tryd.prog Rows.blockLinesRow.laid W := by rwa [MakeChecks.laidMetH_plain _ _ _ (by kernel_rfl)] at hL
  Gl.mk (tabs_laid Tryd.lays260 ux hl (List.mem_of_getElem? (i := 1) (show Rows.blockLinesRow.laid[1]? = some ("unicode/utf8.first", Lib.firstData) from by kernel_rfl)) (List.mem_of_getElem? (i := 0) (show Rows.blockLinesRow.laid[0]? = some ("unicode/utf8.acceptRanges", Lib.acceptData) from by kernel_rfl)) (by kernel_rfl) (by kernel_rfl)) (maxLen_shaped (k := 2) (zero := #[.int .i64 0]) (t := 3) (by kernel_rfl) hsh (of_decide_eq_true (by kernel_rfl)) (by kernel_rfl) rfl (by kernel_rfl) (by kernel_rfl) Tryd.underlying3)
set_option maxRecDepth 100000 in
theorem lifted (os : Os) (started : os.Started) (H : Type) (enc : TypeId × Value → H) :
    ReturnsInHanded {} Tryd.checked os 3 .any (fun w args => (Rows.blockLinesSpec.pre enc Tryd.prog Tryd.f3 Rows.blockLinesRow.domain false w args ∧ laidMetH Tryd.prog Rows.blockLinesRow.laid w) ∧ sizedMet enc Tryd.prog Tryd.f3 (OpenSpec.ofChange Rows.blockLinesSpec) false w args)
      (Rows.blockLinesSpec.post enc Tryd.prog Tryd.f3 false true false false) := by
  refine returns_andS (C := Tryd.checked) (X := fun w _ => laidMetH Tryd.prog Rows.blockLinesRow.laid w) (fun _ _ _ hh h => h.of_heap hh) own started (by kernel_rfl) Tryd.func3
    (ChangeSpec.witness_shaped (enc := enc) (C := Tryd.checked) (os := os) (X := fun w _ => laidMetH Tryd.prog Rows.blockLinesRow.laid w) false (World.laidAll Tryd.prog os Rows.blockLinesRow.laid) #[.slice none 0 0, .slice none 0 0, .int .u8 0, .int .u8 0, .int .u8 0, .bool false, .bool false] 8 (World.laidAll_os _ _ _)
      (World.shaped_of_ZipB (by kernel_rfl) (by kernel_rfl)) (by kernel_rfl) (by kernel_rfl) (by kernel_rfl)
      (by rw [MakeChecks.laidMetH_plain _ _ _ (by kernel_rfl)]; exact laidMet_laidAll _ (by kernel_rfl) (by kernel_rfl))) ?_
  intro W base args ds gs before hval0 hW hcnd _ hL hsh _
  have hval : ∀ (j : Nat) t v, Tryd.f3.params[j]? = some t → args[j]? = some v → Value.okWide Tryd.prog W .any base t v := hval0
  have hW' := hW
  obtain ⟨p, q, hA0, hV, rfl, hfz, hnd⟩ := hW
  have hA : DataW.TrodAll enc Tryd.prog W 0 (fun _ => true) true Tryd.f3.params.toList args.toList ds p := hA0
  rw [Tryd.params3] at hA hval
  obtain ⟨v0, vs0, d0, ds0, p0, q0, hargs, rfl, rfl, h0, r0⟩ := trodAll_cons hA
  obtain ⟨v1, vs1, d1, ds1, p1, q1, rfl, rfl, rfl, h1, r1⟩ := trodAll_cons r0
  obtain ⟨v2, vs2, d2, ds2, p2, q2, rfl, rfl, rfl, h2, r2⟩ := trodAll_cons r1
  obtain ⟨v3, vs3, d3, ds3, p3, q3, rfl, rfl, rfl, h3, r3⟩ := trodAll_cons r2
  obtain ⟨v4, vs4, d4, ds4, p4, q4, rfl, rfl, rfl, h4, r4⟩ := trodAll_cons r3
  obtain ⟨v5, vs5, d5, ds5, p5, q5, rfl, rfl, rfl, h5, r5⟩ := trodAll_cons r4
  obtain ⟨v6, vs6, d6, ds6, p6, q6, rfl, rfl, rfl, h6, r6⟩ := trodAll_cons r5
  obtain ⟨rfl, rfl, rfl⟩ := trodAll_nil r6
  obtain rfl : args = #[v0, v1, v2, v3, v4, v5, v6] := by cases args; simp_all
  obtain ⟨rfl, rfl⟩ := trodVars_none hV
  have k0 := h0
  have lt0 : ∀ x ∈ p0, x.block < W.heap.size := by obtain ⟨m, hm⟩ := k0; exact DataW.trod_lt m _ _ _ hm
  obtain ⟨fuel0, hf0⟩ := h0
  have one0 : v0.cells.toList = [v0] := by obtain ⟨a, len, cap, e⟩ := okWide_slice Tryd.underlying22 (hval 0 22 v0 rfl rfl); rw [e]; rfl
  rw [one0] at hf0
  obtain ⟨x0, c0, hs0, hr0⟩ := seen_strings Tryd.underlying22 Tryd.underlying9 (by kernel_rfl) (hval 0 22 v0 rfl rfl) hf0
  have k1 := h1
  have lt1 : ∀ x ∈ p1, x.block < W.heap.size := by obtain ⟨m, hm⟩ := k1; exact DataW.trod_lt m _ _ _ hm
  obtain ⟨fuel1, hf1⟩ := h1
  have one1 : v1.cells.toList = [v1] := by obtain ⟨a, len, cap, e⟩ := okWide_slice Tryd.underlying23 (hval 1 23 v1 rfl rfl); rw [e]; rfl
  rw [one1] at hf1
  obtain ⟨x1, c1, hs1, hr1⟩ := seen_bytes Tryd.underlying23 Tryd.underlying5 (by kernel_rfl) (hval 1 23 v1 rfl rfl) hf1
  obtain ⟨z2, rfl, rfl, rfl, w2⟩ := open_int Tryd.underlying5 (hval 2 5 v2 rfl rfl) h2
  obtain ⟨x2, rfl⟩ := u8_of w2
  obtain ⟨z3, rfl, rfl, rfl, w3⟩ := open_int Tryd.underlying5 (hval 3 5 v3 rfl rfl) h3
  obtain ⟨x3, rfl⟩ := u8_of w3
  obtain ⟨z4, rfl, rfl, rfl, w4⟩ := open_int Tryd.underlying5 (hval 4 5 v4 rfl rfl) h4
  obtain ⟨x4, rfl⟩ := u8_of w4
  obtain ⟨x5, rfl, rfl, rfl⟩ := open_bool Tryd.underlying4 (hval 5 4 v5 rfl rfl) h5
  obtain ⟨x6, rfl, rfl, rfl⟩ := open_bool Tryd.underlying4 (hval 6 4 v6 rfl rfl) h6
  refine (ACalls.law (w := W) (gl W hL hsh) [(⟨9, 1, x0.map Value.string, false⟩, c0), (⟨5, 1, byV x1, false⟩, c1)] (fun x hx => by simp only [List.mem_cons, List.not_mem_nil, or_false] at hx; rcases hx with rfl | rfl <;> assumption) (targumlaw19_BlockLines.law x0 x1 x2 x3 x4 x5 x6) (.cons (hr0 _ _ 0 (Nat.lt_of_lt_of_le (Nat.lt_succ_self _) (Nat.le_of_ble_eq_true rfl)) rfl) (.cons (hr1 _ _ 1 (Nat.lt_of_lt_of_le (Nat.lt_succ_self _) (Nat.le_of_ble_eq_true rfl)) rfl) (.cons (VR.same rfl) (.cons (VR.same rfl) (.cons (VR.same rfl) (.cons (VR.same rfl) (.cons (VR.same rfl) .nil)))))))).mono fun e W' ⟨he, bel⟩ => ?_
  subst he
  exact ⟨_, rfl, _, _, _, [], _, [], hW', trodAll_mk1 (shut_bool Tryd.underlying4 _), (trodAll_cons_mk (Below.trod laidOut (by kernel_rfl) (of_decide_eq_true (by kernel_rfl)) k0 bel lt0) (trodAll_cons_mk (Below.trod laidOut (by kernel_rfl) (of_decide_eq_true (by kernel_rfl)) k1 bel lt1) (trodAll_cons_mk (shut_int Tryd.underlying5 w2) (trodAll_cons_mk (shut_int Tryd.underlying5 w3) (trodAll_cons_mk (shut_int Tryd.underlying5 w4) (trodAll_cons_mk (shut_bool Tryd.underlying4 _) (trodAll_cons_mk (shut_bool Tryd.underlying4 _) trodAll_mk0))))))), rfl, bel.frame _, fun h => by cases h⟩
theorem over : Rows.blockLinesRow.holds Tryd.pinned (OpenSpec.ofChange Rows.blockLinesSpec) :=
  OpenClaim.holds_of_wide 3 Tryd.f3 rfl rfl rfl rfl rfl rfl rfl ⟨rfl, rfl, rfl, rfl, rfl⟩ rfl rfl rfl rfl rfl (by kernel_rfl) Tryd.func3 (by kernel_rfl)
    (of_decide_eq_true (by kernel_rfl)) (by unfold Func.isWrapper; first | (rw [if_pos (by decide +kernel)]; kernel_rfl) | (rw [if_neg (by decide +kernel)]; exact ⟨rfl, rfl⟩))
    (fun os started H enc _ => lifted os started H enc)
theorem proved : Rows.BlockLinesSaid := over
set_option maxRecDepth 100000 in
theorem card : Rows.BlockLinesCardSaid :=
  Claim7.holds_tied_plain_at .later [] [.data, .pinned] true (true, "f992edf4714122dfcd5b8ac929b7d6ec7200df75add4c19c908dc90280f2f757") false proved (fun _ h => by cases h) (by kernel_rfl) (fun _ h => by cases h) blockLines_row_tie rfl ⟨rfl, rfl⟩ (by kernel_rfl) rfl
    (fun f fn hf hfn => by
      obtain rfl : f = 3 := Option.some.inj ((show Tryd.prog.funcNamed "targum/targumlaw19.BlockLines" = some 3 by kernel_rfl).symm.trans hf) |>.symm
      obtain rfl : fn = Tryd.f3 := (Option.some.inj (Tryd.func3.symm.trans hfn)).symm
      exact ⟨by kernel_rfl, fun j t ht => by
        rw [Tryd.params3] at ht
        have hm : t ∈ [22, 23, 5, 5, 5, 4, 4] := by simpa using Array.mem_of_getElem? ht
        have hall : ([22, 23, 5, 5, 5, 4, 4].all fun u => !Tryd.prog.wantsStandIn u) = true := by kernel_rfl
        exact (show Tryd.prog.wantsStandIn t = false by simpa using List.all_eq_true.1 hall t hm)⟩)
    (by kernel_rfl)
#print axioms card
end Go.Proofs.YthllhoodbfnlaaaDoor.blockLines
namespace Go.Proofs.YthllhoodbfnlaaaDoor
/-- The statement, under a short name, for the claim. -/
theorem blockLines_holds : Rows.BlockLinesCardSaid := blockLines.card
end Go.Proofs.YthllhoodbfnlaaaDoor
