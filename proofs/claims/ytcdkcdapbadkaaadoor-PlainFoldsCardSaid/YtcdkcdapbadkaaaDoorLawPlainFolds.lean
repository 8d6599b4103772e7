/- The law PlainFolds: for every input it answers true; each argument reads afterwards as it read before. The row lists library tables; the card ties them to the program's text. -/
import Derived.Test.YtcdkcdapbadkaaaDoorL20f
import Derived.Test.YtcdkcdapbadkaaaDoorMiniX
import Derived.Test.YtcdkcdapbadkaaaDoorRows
import Derived.Test.YtcdkcdapbadkaaaDoorCards
import Derived.Test.YtcdkcdapbadkaaaDoorTie
import Derived.WalkKit
import Derived.ProofKit
import Derived.OpenShut
import Derived.ShutString
import Derived.ChangeOld
import Derived.ChangeSame
import Derived.Below
import Derived.SizedLaws
import Derived.Deep.Fields
import Derived.LaidMore
import Derived.Lay
import Derived.SevenTiedAt
import Derived.MakeChecks
import Derived.Stop.Joined
namespace Go.Proofs.YtcdkcdapbadkaaaDoor.plainFolds
open Go Go.ChangeShapes Go.WideShapes Go.ChangeAt Go.RowKit Go.Deep Go.Mini
open Go.ChangeMaps (open_string shut_string)
set_option linter.unusedVariables false
set_option linter.unusedSimpArgs false
theorem own : ownKnob Tryd.prog.godebug = none := by kernel_rfl
theorem laidOut : laidOutB Tryd.prog = true := by kernel_rfl
set_option maxRecDepth 100000 in
theorem lifted (os : Os) (started : os.Started) (H : Type) (enc : TypeId × Value → H) :
    ReturnsInHanded {} Tryd.checked os 5 .any (fun w args => (Rows.plainFoldsSpec.pre enc Tryd.prog Tryd.f5 Rows.plainFoldsRow.domain false w args ∧ laidMetH Tryd.prog Rows.plainFoldsRow.laid w) ∧ sizedMet enc Tryd.prog Tryd.f5 (OpenSpec.ofChange Rows.plainFoldsSpec) false w args)
      (Rows.plainFoldsSpec.post enc Tryd.prog Tryd.f5 false true false false) := by
  refine returnsInHanded_of_change_and (C := Tryd.checked) (X := fun w _ => laidMetH Tryd.prog Rows.plainFoldsRow.laid w) (fun _ _ _ hh h => h.of_heap hh) own started (by kernel_rfl) Tryd.func5
    (ChangeSpec.witness_shaped (enc := enc) (C := Tryd.checked) (os := os) (X := fun w _ => laidMetH Tryd.prog Rows.plainFoldsRow.laid w) false (World.laidAll Tryd.prog os Rows.plainFoldsRow.laid) #[.slice none 0 0, .slice none 0 0, .slice none 0 0, .int .u8 0, .bool false] 8 (World.laidAll_os _ _ _)
      (World.shaped_of_ZipB (by kernel_rfl) (by kernel_rfl)) (by kernel_rfl) (by kernel_rfl) (by kernel_rfl)
      (by rw [MakeChecks.laidMetH_plain _ _ _ (by kernel_rfl)]; exact laidMet_laidAll _ (by kernel_rfl) (by kernel_rfl))) ?_
  intro W base args ds gs before hval0 hW hcnd _ hL _
  have hval : ∀ (j : Nat) t v, Tryd.f5.params[j]? = some t → args[j]? = some v → Value.okWide Tryd.prog W .any base t v := hval0
  have hW' := hW
  obtain ⟨p, q, hA0, hV, rfl, hfz, hnd⟩ := hW
  have hA : DataW.TrodAll enc Tryd.prog W 0 (fun _ => true) true Tryd.f5.params.toList args.toList ds p := hA0
  rw [Tryd.params5] at hA hval
  obtain ⟨v0, vs0, d0, ds0, p0, q0, hargs, rfl, rfl, h0, r0⟩ := trodAll_cons hA
  obtain ⟨v1, vs1, d1, ds1, p1, q1, rfl, rfl, rfl, h1, r1⟩ := trodAll_cons r0
  obtain ⟨v2, vs2, d2, ds2, p2, q2, rfl, rfl, rfl, h2, r2⟩ := trodAll_cons r1
  obtain ⟨v3, vs3, d3, ds3, p3, q3, rfl, rfl, rfl, h3, r3⟩ := trodAll_cons r2
  obtain ⟨v4, vs4, d4, ds4, p4, q4, rfl, rfl, rfl, h4, r4⟩ := trodAll_cons r3
  obtain ⟨rfl, rfl, rfl⟩ := trodAll_nil r4
  obtain rfl : args = #[v0, v1, v2, v3, v4] := by cases args; simp_all
  obtain ⟨rfl, rfl⟩ := trodVars_none hV
  have k0 := h0
  have lt0 : ∀ x ∈ p0, x.block < W.heap.size := by obtain ⟨m, hm⟩ := k0; exact DataW.trod_lt m _ _ _ hm
  obtain ⟨fuel0, hf0⟩ := h0
  have one0 : v0.cells.toList = [v0] := by obtain ⟨a, len, cap, e⟩ := okWide_slice Tryd.underlying27 (hval 0 27 v0 rfl rfl); rw [e]; rfl
  rw [one0] at hf0
  obtain ⟨x0, c0, hs0, hr0⟩ := seen_strings Tryd.underlying27 Tryd.underlying9 (by kernel_rfl) (hval 0 27 v0 rfl rfl) hf0
  have k1 := h1
  have lt1 : ∀ x ∈ p1, x.block < W.heap.size := by obtain ⟨m, hm⟩ := k1; exact DataW.trod_lt m _ _ _ hm
  obtain ⟨fuel1, hf1⟩ := h1
  have one1 : v1.cells.toList = [v1] := by obtain ⟨a, len, cap, e⟩ := okWide_slice Tryd.underlying22 (hval 1 22 v1 rfl rfl); rw [e]; rfl
  rw [one1] at hf1
  obtain ⟨x1, c1, hs1, hr1⟩ := seen_bytes Tryd.underlying22 Tryd.underlying5 (by kernel_rfl) (hval 1 22 v1 rfl rfl) hf1
  have k2 := h2
  have lt2 : ∀ x ∈ p2, x.block < W.heap.size := by obtain ⟨m, hm⟩ := k2; exact DataW.trod_lt m _ _ _ hm
  obtain ⟨fuel2, hf2⟩ := h2
  have one2 : v2.cells.toList = [v2] := by obtain ⟨a, len, cap, e⟩ := okWide_slice Tryd.underlying22 (hval 2 22 v2 rfl rfl); rw [e]; rfl
  rw [one2] at hf2
  obtain ⟨x2, c2, hs2, hr2⟩ := seen_bytes Tryd.underlying22 Tryd.underlying5 (by kernel_rfl) (hval 2 22 v2 rfl rfl) hf2
  obtain ⟨z3, rfl, rfl, rfl, w3⟩ := open_int Tryd.underlying5 (hval 3 5 v3 rfl rfl) h3
  obtain ⟨x3, rfl⟩ := u8_of w3
  obtain ⟨x4, rfl, rfl, rfl⟩ := open_bool Tryd.underlying4 (hval 4 4 v4 rfl rfl) h4
  refine (ACalls.law (w := W) [(⟨9, 1, x0.map Value.string, false⟩, c0), (⟨5, 1, byV x1, false⟩, c1), (⟨5, 1, byV x2, false⟩, c2)] (fun x hx => by simp only [List.mem_cons, List.not_mem_nil, or_false] at hx; rcases hx with rfl | rfl | rfl <;> assumption) (targumlaw20_PlainFolds.law x0 x1 x2 x3 x4) (.cons (hr0 _ _ 0 (Nat.lt_of_lt_of_le (Nat.lt_succ_self _) (Nat.le_of_ble_eq_true rfl)) rfl) (.cons (hr1 _ _ 1 (Nat.lt_of_lt_of_le (Nat.lt_succ_self _) (Nat.le_of_ble_eq_true rfl)) rfl) (.cons (hr2 _ _ 2 (Nat.lt_of_lt_of_le (Nat.lt_succ_self _) (Nat.le_of_ble_eq_true rfl)) rfl) (.cons (VR.same rfl) (.cons (VR.same rfl) .nil)))))).mono fun e W' ⟨he, bel⟩ => ?_
  subst he
  exact ⟨_, rfl, _, _, _, [], _, [], hW', trodAll_mk1 (shut_bool Tryd.underlying4 _), (trodAll_cons_mk (Below.trod laidOut (by kernel_rfl) (of_decide_eq_true (by kernel_rfl)) k0 bel lt0) (trodAll_cons_mk (Below.trod laidOut (by kernel_rfl) (of_decide_eq_true (by kernel_rfl)) k1 bel lt1) (trodAll_cons_mk (Below.trod laidOut (by kernel_rfl) (of_decide_eq_true (by kernel_rfl)) k2 bel lt2) (trodAll_cons_mk (shut_int Tryd.underlying5 w3) (trodAll_cons_mk (shut_bool Tryd.underlying4 _) trodAll_mk0))))), rfl, bel.frame _, fun h => by cases h⟩
theorem over : Rows.plainFoldsRow.holds Tryd.pinned (OpenSpec.ofChange Rows.plainFoldsSpec) :=
  OpenClaim.holds_of_wide 5 Tryd.f5 rfl rfl rfl rfl rfl rfl rfl ⟨rfl, rfl, rfl, rfl, rfl⟩ rfl rfl rfl rfl rfl (by kernel_rfl) Tryd.func5 (by kernel_rfl)
    (of_decide_eq_true (by kernel_rfl)) (by unfold Func.isWrapper; first | (rw [if_pos (by decide +kernel)]; kernel_rfl) | (rw [if_neg (by decide +kernel)]; exact ⟨rfl, rfl⟩))
    (fun os started H enc _ => lifted os started H enc)
theorem proved : Rows.PlainFoldsSaid := over
set_option maxRecDepth 100000 in
theorem card : Rows.PlainFoldsCardSaid :=
  Claim7.holds_tied_plain_at .later [] [.data, .pinned] true (true, "5394ce9d464050b6c181448d23789cbc9576c88bfb19649c0990188df132926f") false proved (fun _ h => by cases h) (by kernel_rfl) (fun _ h => by cases h) plainFolds_row_tie rfl ⟨rfl, rfl⟩ (by kernel_rfl) rfl
    (fun f fn hf hfn => by
      obtain rfl : f = 5 := Option.some.inj ((show Tryd.prog.funcNamed "targum/targumlaw20.PlainFolds" = some 5 by kernel_rfl).symm.trans hf) |>.symm
      obtain rfl : fn = Tryd.f5 := (Option.some.inj (Tryd.func5.symm.trans hfn)).symm
      exact ⟨by kernel_rfl, fun j t ht => by
        rw [Tryd.params5] at ht
        have hm : t ∈ [27, 22, 22, 5, 4] := by simpa using Array.mem_of_getElem? ht
        have hall : ([27, 22, 22, 5, 4].all fun u => !Tryd.prog.wantsStandIn u) = true := by kernel_rfl
        exact (show Tryd.prog.wantsStandIn t = false by simpa using List.all_eq_true.1 hall t hm)⟩)
    (by kernel_rfl)
#print axioms card
end Go.Proofs.YtcdkcdapbadkaaaDoor.plainFolds
namespace Go.Proofs.YtcdkcdapbadkaaaDoor
/-- The statement, under a short name, for the claim. -/
theorem plainFolds_holds : Rows.PlainFoldsCardSaid := plainFolds.card
end Go.Proofs.YtcdkcdapbadkaaaDoor
