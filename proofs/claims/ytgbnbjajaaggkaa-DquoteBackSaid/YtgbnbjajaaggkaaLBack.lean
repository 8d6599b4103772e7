/- Printed by hookprint.py (a program of this project, over the kit's printer): targumlaw17_DquoteBack. Not trusted: Lean checks it. No condition. -/
import Derived.Test.YtgbnbjajaaggkaaQx0
import Derived.Test.YtgbnbjajaaggkaaQx4
import Derived.Test.YtgbnbjajaaggkaaQx5
import Derived.Test.YtgbnbjajaaggkaaQx6
import Derived.Test.YtgbnbjajaaggkaaQx10
import Derived.Test.YtgbnbjajaaggkaaDqK
namespace Go.Proofs.Ytgbnbjajaaggkaa.Q
open Go.RowKit Go.Proofs.YtgbnbjajaaggkaaW.PrintWords Go.Proofs.YtgbnbjajaaggkaaW.PrintLast Go.Proofs.YtgbnbjajaaggkaaW.PrintMore
attribute [local go_sem] max2_int min2_int max_two min_two max_three min_three max_four min_four   -- for this text's walks alone
set_option linter.unusedVariables false
set_option linter.unusedSimpArgs false

theorem info9 : (Try.prog.info? 9).map (fun i => (i.zero, i.size, i.bytes)) = some (some (.string ⟨#[]⟩), 1, 16) := by kernel_rfl
/-! ### targumlaw17_DquoteBack: function 4 -/
mutual
def targumlaw17_DquoteBack.l0 : Nat → ByteArray → Int → Bool → Int → Option (Bool)
  | 0, _, _, _, _ => none
  | k + 1, x0, x1, x2, x7 => if x7 < (x0.size : Int) then (if 0 ≤ x7 then (if (bt x0 x7) = 34 then (some true) else (if (bt x0 x7) = 92 then (some true) else ((targumref1_IsBlank.f x0 x7).bind fun t278 => (if t278 = true then (some true) else ((targumref1_Break.f k 11 x0 x7).bind fun t279 => (if t279 > 0 then (some true) else (targumlaw17_DquoteBack.l0 k x0 x1 x2 (wrap64 (x7 + 1))))))))) else (none)) else ((targumhelp_Version.f x2).bind fun t280 => ((targumlaw17_hex.f k (wrap64 (Int.tmod x1 1114112)) 8).bind fun t281 => (if 2 + t281.size ≤ 9223372036854775807 then ((some (([(⟨#[92, 85]⟩ : ByteArray) ++ t281] : List ByteArray) : List ByteArray)).bind fun y282 => (if (wrap64 (Int.tmod x1 1114112)) < 65536 then ((targumlaw17_hex.f k (wrap64 (Int.tmod x1 1114112)) 4).bind fun t285 => (if 2 + t285.size ≤ 9223372036854775807 then (if y282.length < 8796093022208 then (targumlaw17_DquoteBack.j1 k x0 t280 (wrap64 (Int.tmod x1 1114112)) (y282 ++ [(⟨#[92, 117]⟩ : ByteArray) ++ t285])) else (none)) else (none))) else (targumlaw17_DquoteBack.j1 k x0 t280 (wrap64 (Int.tmod x1 1114112)) y282))) else (none))))
def targumlaw17_DquoteBack.j1 : Nat → ByteArray → Int → Int → List ByteArray → Option (Bool)
  | 0, _, _, _, _ => none
  | k + 1, x0, x8, x9, x10 => if x9 < 256 then ((targumlaw17_hex.f k x9 2).bind fun t289 => (if 2 + t289.size ≤ 9223372036854775807 then (if x10.length < 8796093022208 then (targumlaw17_DquoteBack.j2 k x0 x8 x9 (x10 ++ [(⟨#[92, 120]⟩ : ByteArray) ++ t289])) else (none)) else (none))) else (targumlaw17_DquoteBack.j2 k x0 x8 x9 x10)
def targumlaw17_DquoteBack.j2 : Nat → ByteArray → Int → Int → List ByteArray → Option (Bool)
  | 0, _, _, _, _ => none
  | k + 1, x0, x8, x9, x10 => targumlaw17_DquoteBack.l1 k x0 x8 x9 x10 (x10.length : Int) 0
def targumlaw17_DquoteBack.l1 : Nat → ByteArray → Int → Int → List ByteArray → Int → Int → Option (Bool)
  | 0, _, _, _, _, _, _ => none
  | k + 1, x0, x8, x9, x73, x74, x75 => if x75 < x74 then (if 0 ≤ x75 then (if x75 < (x73.length : Int) then (if 1 + x0.size ≤ 9223372036854775807 then (if ((⟨#[34]⟩ : ByteArray) ++ x0).size + (rdOf ByteArray.empty x73 x75).size ≤ 9223372036854775807 then (if (((⟨#[34]⟩ : ByteArray) ++ x0) ++ (rdOf ByteArray.empty x73 x75)).size + x0.size ≤ 9223372036854775807 then (if ((((⟨#[34]⟩ : ByteArray) ++ x0) ++ (rdOf ByteArray.empty x73 x75)) ++ x0).size + 3 ≤ 9223372036854775807 then ((dquote_Read.f x8 (((((⟨#[34]⟩ : ByteArray) ++ x0) ++ (rdOf ByteArray.empty x73 x75)) ++ x0) ++ (⟨#[34, 32, 58]⟩ : ByteArray)) 0).bind fun bt294 => ((targumref1_IsScalar.f x9).bind fun t299 => (if t299 = true then (if bt294.2.2.1 = 0 then ((targumref1_Utf8.f x9).bind fun t300 => (if x0.size + (strOfNums t300).size ≤ 9223372036854775807 then (if (x0 ++ (strOfNums t300)).size + x0.size ≤ 9223372036854775807 then (if bt294.1.toList = ((x0 ++ (strOfNums t300)) ++ x0).toList then (if bt294.2.1 = (wrap64 ((wrap64 (2 + (wrap64 (2 * (x0.size : Int))))) + ((rdOf ByteArray.empty x73 x75).size : Int))) then (targumlaw17_DquoteBack.l1 k x0 x8 x9 x73 x74 (wrap64 (x75 + 1))) else (some false)) else (some false)) else (none)) else (none))) else (some false)) else (if (!(bt294.2.2.1 == 14) || (!(bt294.2.2.2 == (wrap64 (1 + (x0.size : Int)))))) = true then (targumlaw17_DquoteBack.j4 k x0 x8 x9 x73 x74 x75 true) else (if bt294.1.toList = ([] : List UInt8) then (targumlaw17_DquoteBack.j4 k x0 x8 x9 x73 x74 x75 (bt294.2.1 != 0)) else (targumlaw17_DquoteBack.j4 k x0 x8 x9 x73 x74 x75 true)))))) else (none)) else (none)) else (none)) else (none)) else (none)) else (none)) else (some true)
def targumlaw17_DquoteBack.j4 : Nat → ByteArray → Int → Int → List ByteArray → Int → Int → Bool → Option (Bool)
  | 0, _, _, _, _, _, _, _ => none
  | k + 1, x0, x8, x9, x73, x74, x75, x108 => if x108 = true then (some false) else (targumlaw17_DquoteBack.l1 k x0 x8 x9 x73 x74 (wrap64 (x75 + 1)))
end
def targumlaw17_DquoteBack.f (k : Nat) (a0 : ByteArray) (a1 : Int) (a2 : Bool) : Option (Bool) := (targumlaw17_known.f).bind fun t276 => (if t276 = true then ((targumhelp_Few.f k a0 200).bind fun t277 => (if t277 = true then (targumlaw17_DquoteBack.l0 k a0 a1 a2 0) else (some true))) else (some false))
theorem targumlaw17_DquoteBack.mono_l : ∀ k, (∀ y0 y1 y2 y3, LeO (targumlaw17_DquoteBack.l0 k y0 y1 y2 y3) (targumlaw17_DquoteBack.l0 (k + 1) y0 y1 y2 y3)) ∧ (∀ y0 y1 y2 y3, LeO (targumlaw17_DquoteBack.j1 k y0 y1 y2 y3) (targumlaw17_DquoteBack.j1 (k + 1) y0 y1 y2 y3)) ∧ (∀ y0 y1 y2 y3, LeO (targumlaw17_DquoteBack.j2 k y0 y1 y2 y3) (targumlaw17_DquoteBack.j2 (k + 1) y0 y1 y2 y3)) ∧ (∀ y0 y1 y2 y3 y4 y5, LeO (targumlaw17_DquoteBack.l1 k y0 y1 y2 y3 y4 y5) (targumlaw17_DquoteBack.l1 (k + 1) y0 y1 y2 y3 y4 y5)) ∧ (∀ y0 y1 y2 y3 y4 y5 y6, LeO (targumlaw17_DquoteBack.j4 k y0 y1 y2 y3 y4 y5 y6) (targumlaw17_DquoteBack.j4 (k + 1) y0 y1 y2 y3 y4 y5 y6))
  | 0 => ⟨fun _ _ _ _ r h => by simp [targumlaw17_DquoteBack.l0] at h, fun _ _ _ _ r h => by simp [targumlaw17_DquoteBack.j1] at h, fun _ _ _ _ r h => by simp [targumlaw17_DquoteBack.j2] at h, fun _ _ _ _ _ _ r h => by simp [targumlaw17_DquoteBack.l1] at h, fun _ _ _ _ _ _ _ r h => by simp [targumlaw17_DquoteBack.j4] at h⟩
  | k + 1 => by
    obtain ⟨ih0, ih1, ih2, ih3, ih4⟩ := targumlaw17_DquoteBack.mono_l k
    refine ⟨?_, ?_, ?_, ?_, ?_⟩
    · intro y0 y1 y2 y3
      unfold targumlaw17_DquoteBack.l0
      repeat' first
      | (with_reducible exact ih0 _ _ _ _)
      | (with_reducible exact ih1 _ _ _ _)
      | (with_reducible exact ih2 _ _ _ _)
      | (with_reducible exact ih3 _ _ _ _ _ _)
      | (with_reducible exact ih4 _ _ _ _ _ _ _)
      | (with_reducible exact targumhelp_Few.mono _ _ _)
      | (with_reducible exact targumlaw17_hex.mono _ _ _)
      | (with_reducible exact targumref1_Break.mono _ _ _ _)
      | (with_reducible exact LeO.refl _)
      | (with_reducible exact LeO.none _)
      | (with_reducible refine LeO.ite ?_ ?_)
      | (with_reducible refine LeO.bind ?_ (fun _ => ?_))
      | exact ih0 _ _ _ _
      | exact ih1 _ _ _ _
      | exact ih2 _ _ _ _
      | exact ih3 _ _ _ _ _ _
      | exact ih4 _ _ _ _ _ _ _
      | exact targumhelp_Few.mono _ _ _
      | exact targumlaw17_hex.mono _ _ _
      | exact targumref1_Break.mono _ _ _ _
      | exact LeO.none _
      | refine LeO.ite ?_ ?_
      | refine LeO.bind ?_ (fun _ => ?_)
    · intro y0 y1 y2 y3
      unfold targumlaw17_DquoteBack.j1
      repeat' first
      | (with_reducible exact ih0 _ _ _ _)
      | (with_reducible exact ih1 _ _ _ _)
      | (with_reducible exact ih2 _ _ _ _)
      | (with_reducible exact ih3 _ _ _ _ _ _)
      | (with_reducible exact ih4 _ _ _ _ _ _ _)
      | (with_reducible exact targumhelp_Few.mono _ _ _)
      | (with_reducible exact targumlaw17_hex.mono _ _ _)
      | (with_reducible exact targumref1_Break.mono _ _ _ _)
      | (with_reducible exact LeO.refl _)
      | (with_reducible exact LeO.none _)
      | (with_reducible refine LeO.ite ?_ ?_)
      | (with_reducible refine LeO.bind ?_ (fun _ => ?_))
      | exact ih0 _ _ _ _
      | exact ih1 _ _ _ _
      | exact ih2 _ _ _ _
      | exact ih3 _ _ _ _ _ _
      | exact ih4 _ _ _ _ _ _ _
      | exact targumhelp_Few.mono _ _ _
      | exact targumlaw17_hex.mono _ _ _
      | exact targumref1_Break.mono _ _ _ _
      | exact LeO.none _
      | refine LeO.ite ?_ ?_
      | refine LeO.bind ?_ (fun _ => ?_)
    · intro y0 y1 y2 y3
      unfold targumlaw17_DquoteBack.j2
      repeat' first
      | (with_reducible exact ih0 _ _ _ _)
      | (with_reducible exact ih1 _ _ _ _)
      | (with_reducible exact ih2 _ _ _ _)
      | (with_reducible exact ih3 _ _ _ _ _ _)
      | (with_reducible exact ih4 _ _ _ _ _ _ _)
      | (with_reducible exact targumhelp_Few.mono _ _ _)
      | (with_reducible exact targumlaw17_hex.mono _ _ _)
      | (with_reducible exact targumref1_Break.mono _ _ _ _)
      | (with_reducible exact LeO.refl _)
      | (with_reducible exact LeO.none _)
      | (with_reducible refine LeO.ite ?_ ?_)
      | (with_reducible refine LeO.bind ?_ (fun _ => ?_))
      | exact ih0 _ _ _ _
      | exact ih1 _ _ _ _
      | exact ih2 _ _ _ _
      | exact ih3 _ _ _ _ _ _
      | exact ih4 _ _ _ _ _ _ _
      | exact targumhelp_Few.mono _ _ _
      | exact targumlaw17_hex.mono _ _ _
      | exact targumref1_Break.mono _ _ _ _
      | exact LeO.none _
      | refine LeO.ite ?_ ?_
      | refine LeO.bind ?_ (fun _ => ?_)
    · intro y0 y1 y2 y3 y4 y5
      unfold targumlaw17_DquoteBack.l1
      repeat' first
      | (with_reducible exact ih0 _ _ _ _)
      | (with_reducible exact ih1 _ _ _ _)
      | (with_reducible exact ih2 _ _ _ _)
      | (with_reducible exact ih3 _ _ _ _ _ _)
      | (with_reducible exact ih4 _ _ _ _ _ _ _)
      | (with_reducible exact targumhelp_Few.mono _ _ _)
      | (with_reducible exact targumlaw17_hex.mono _ _ _)
      | (with_reducible exact targumref1_Break.mono _ _ _ _)
      | (with_reducible exact LeO.refl _)
      | (with_reducible exact LeO.none _)
      | (with_reducible refine LeO.ite ?_ ?_)
      | (with_reducible refine LeO.bind ?_ (fun _ => ?_))
      | exact ih0 _ _ _ _
      | exact ih1 _ _ _ _
      | exact ih2 _ _ _ _
      | exact ih3 _ _ _ _ _ _
      | exact ih4 _ _ _ _ _ _ _
      | exact targumhelp_Few.mono _ _ _
      | exact targumlaw17_hex.mono _ _ _
      | exact targumref1_Break.mono _ _ _ _
      | exact LeO.none _
      | refine LeO.ite ?_ ?_
      | refine LeO.bind ?_ (fun _ => ?_)
    · intro y0 y1 y2 y3 y4 y5 y6
      unfold targumlaw17_DquoteBack.j4
      repeat' first
      | (with_reducible exact ih0 _ _ _ _)
      | (with_reducible exact ih1 _ _ _ _)
      | (with_reducible exact ih2 _ _ _ _)
      | (with_reducible exact ih3 _ _ _ _ _ _)
      | (with_reducible exact ih4 _ _ _ _ _ _ _)
      | (with_reducible exact targumhelp_Few.mono _ _ _)
      | (with_reducible exact targumlaw17_hex.mono _ _ _)
      | (with_reducible exact targumref1_Break.mono _ _ _ _)
      | (with_reducible exact LeO.refl _)
      | (with_reducible exact LeO.none _)
      | (with_reducible refine LeO.ite ?_ ?_)
      | (with_reducible refine LeO.bind ?_ (fun _ => ?_))
      | exact ih0 _ _ _ _
      | exact ih1 _ _ _ _
      | exact ih2 _ _ _ _
      | exact ih3 _ _ _ _ _ _
      | exact ih4 _ _ _ _ _ _ _
      | exact targumhelp_Few.mono _ _ _
      | exact targumlaw17_hex.mono _ _ _
      | exact targumref1_Break.mono _ _ _ _
      | exact LeO.none _
      | refine LeO.ite ?_ ?_
      | refine LeO.bind ?_ (fun _ => ?_)
theorem targumlaw17_DquoteBack.mono : ∀ a0 a1 a2 k, LeO (targumlaw17_DquoteBack.f k a0 a1 a2) (targumlaw17_DquoteBack.f (k + 1) a0 a1 a2) := by
  intro a0 a1 a2 k
  obtain ⟨ih0, ih1, ih2, ih3, ih4⟩ := targumlaw17_DquoteBack.mono_l k
  unfold targumlaw17_DquoteBack.f
  repeat' first
      | (with_reducible exact ih0 _ _ _ _)
      | (with_reducible exact ih1 _ _ _ _)
      | (with_reducible exact ih2 _ _ _ _)
      | (with_reducible exact ih3 _ _ _ _ _ _)
      | (with_reducible exact ih4 _ _ _ _ _ _ _)
      | (with_reducible exact targumhelp_Few.mono _ _ _)
      | (with_reducible exact targumlaw17_hex.mono _ _ _)
      | (with_reducible exact targumref1_Break.mono _ _ _ _)
      | (with_reducible exact LeO.refl _)
      | (with_reducible exact LeO.none _)
      | (with_reducible refine LeO.ite ?_ ?_)
      | (with_reducible refine LeO.bind ?_ (fun _ => ?_))
      | exact ih0 _ _ _ _
      | exact ih1 _ _ _ _
      | exact ih2 _ _ _ _
      | exact ih3 _ _ _ _ _ _
      | exact ih4 _ _ _ _ _ _ _
      | exact targumhelp_Few.mono _ _ _
      | exact targumlaw17_hex.mono _ _ _
      | exact targumref1_Break.mono _ _ _ _
      | exact LeO.none _
      | refine LeO.ite ?_ ?_
      | refine LeO.bind ?_ (fun _ => ?_)
theorem back_j4 : ∀ (k : Nat) (a : ByteArray) (b c : Int) (d : List ByteArray) (e f : Int), ¬ targumlaw17_DquoteBack.j4 k a b c d e f true = some true := by
  intro k a b c d e f
  cases k with
  | zero => rw [targumlaw17_DquoteBack.j4]; simp
  | succ k => rw [targumlaw17_DquoteBack.j4]; simp
set_option maxHeartbeats 8000000 in
set_option maxRecDepth 100000 in
theorem targumlaw17_DquoteBack.calls (k : Nat) (a0 : ByteArray) (a1 : Int) (a2 : Bool) (r : Bool) (w : World) (h : targumlaw17_DquoteBack.f k a0 a1 a2 = some r) (hrt : r = true := by rfl) :
    Calls Try.prog 4 #[.string a0, .int .u32 a1, .bool a2] w fun e w' => e = .returned (.bool r) ∧ Below w.heap.size w w' := by
  subst hrt
  have hu32 := Try.underlying32
  have HB := Aside0.mk (Below.refl w.heap.size w)
  have H : ((targumlaw17_known.f).bind fun t276 => (if t276 = true then ((targumhelp_Few.f k a0 200).bind fun t277 => (if t277 = true then (targumlaw17_DquoteBack.l0 k a0 a1 a2 0) else (some true))) else (some false))) = some true := h
  clear h
  replace H := Option.bind_eq_some_iff.mp H
  obtain ⟨t276, A40, H⟩ := H
  replace H : (if t276 = true then ((targumhelp_Few.f k a0 200).bind fun t277 => (if t277 = true then (targumlaw17_DquoteBack.l0 k a0 a1 a2 0) else (some true))) else (some false)) = some true := H
  have A4 := Aside0.mk A40
  clear A40
  by_cases c5 : t276 = true
  · subst c5
    have H1 : ((targumhelp_Few.f k a0 200).bind fun t277 => (if t277 = true then (targumlaw17_DquoteBack.l0 k a0 a1 a2 0) else (some true))) = some true := by rw [if_pos rfl] at H <;> exact H
    clear H
    have H := H1
    clear H1
    replace H := Option.bind_eq_some_iff.mp H
    obtain ⟨t277, A60, H⟩ := H
    replace H : (if t277 = true then (targumlaw17_DquoteBack.l0 k a0 a1 a2 0) else (some true)) = some true := H
    have A6 := Aside0.mk A60
    clear A60
    by_cases c7 : t277 = true
    · subst c7
      have H1 : (targumlaw17_DquoteBack.l0 k a0 a1 a2 0) = some true := by rw [if_pos rfl] at H <;> exact H
      clear H
      have H := H1
      clear H1
      have H' := Aside0.mk H
      clear H
      go_enter Try.func4, Try.ntmps4
      go_wp2_with (first | ((with_reducible refine gate_callee (f := 8) rfl ?_); refine goesL_ (some 16) rfl rfl Try.func8 (by kernel_rfl) rfl #[] rfl (by (try simp only [List.map_toArray, List.map_cons, List.map_nil]); first | done | rfl | (simp only [List.length_drop, List.length_take]; rfl)) ?_; (with_reducible refine (targumlaw17_known.calls  true _ A4.out).mono ?_); rintro e w8 ⟨rfl, hb⟩; refine ⟨_, rfl, ?_⟩; have n0_ := Aside0.mk (below_step (by repeat (first | (with_reducible first | exact HB.out | apply below_alloc | apply pw_below_drewN | apply below_drew1) | exact HB.out)) hb); clear HB; have HB := n0_; clear n0_; (try clear hb); (try clear hb2); (try clear hk); (try clear hi)) | ((with_reducible refine gate_callee (f := 9) rfl ?_); refine goesL_ (some 19) rfl rfl Try.func9 (by kernel_rfl) rfl #[.string a0, .int .i64 200] rfl (by (try simp only [List.map_toArray, List.map_cons, List.map_nil]); first | done | rfl | (simp only [List.length_drop, List.length_take]; rfl)) ?_; (with_reducible refine (targumhelp_Few.calls k a0 200 true _ A6.out).mono ?_); rintro e w' ⟨rfl, ⟨nd, rfl⟩⟩; refine ⟨_, rfl, ?_⟩))
      go_loopg [7] k (fun kq v7 w' => ∃ (x7_1 : Int), v7 = .int .i64 x7_1 ∧ Aside0 (targumlaw17_DquoteBack.l0 kq a0 a1 a2 x7_1 = some true) ∧ Aside0 (kq ≤ k) ∧ Aside0 (Below w.heap.size w w'))
      case atStart => exact ⟨(0), (by first | rfl | (simp; done) | (simp [*]; done)), H', ⟨Nat.le_refl _⟩, ⟨by repeat (first | (with_reducible first | exact HB.out | apply below_alloc | apply pw_below_drewN | apply below_drew1) | exact HB.out)⟩⟩
      case round =>
        clear H'
        (try clear p2); (try clear c4); (try clear c5); (try clear c7); (try clear c8)
        obtain ⟨x7_1, rfl, HA, HK1, HB⟩ := hrel
        cases gk with
        | zero => exact absurd HA.out (by simp [targumlaw17_DquoteBack.l0])
        | succ k1 =>
          have H := HA.out
          clear HA
          simp only [targumlaw17_DquoteBack.l0] at H
          by_cases c9 : x7_1 < (a0.size : Int)
          · rw [if_pos c9] at H
            have c9b0 : decide (x7_1 < (a0.size : Int)) = true := decide_eq_true c9
            clear c9
            by_cases c10 : 0 ≤ x7_1
            · rw [if_pos c10] at H
              have c10b0 : decide (0 ≤ x7_1) = true := decide_eq_true c10
              clear c10
              by_cases c12 : (bt a0 x7_1) = 34
              · rw [if_pos c12] at H
                have c12b0 : ((bt a0 x7_1) == 34) = true := beq_iff_eq.mpr c12
                have c12b1 : ((bt a0 x7_1) != 34) = false := bne_eq_false_iff_eq.mpr c12
                clear c12
                have hrt := Option.some.inj H
                first | (exact absurd hrt (by decide)) | (
                  try (have hp_ := hrt; simp only [Bool.and_eq_true] at hp_; simp (disch := omega) only [wrap_id] at hp_; have hp1_ := hp_.1; have hp2_ := hp_.2; have hp3_ := decide_eq_true (beq_iff_eq.mp hp1_); have hp4_ := decide_eq_true (beq_iff_eq.mp hp2_); clear hp_)
                  have p11 : 0 ≤ (x7_1 : Int) := of_decide_eq_true (by first | (with_reducible assumption) | assumption)
                  have q11 : x7_1 < (a0.size : Int) := of_decide_eq_true (by first | (with_reducible assumption) | assumption)
                  have hx11 := bt_at a0 x7_1
                  replace p11 := eq_true p11
                  replace q11 := eq_true q11
                  go_wp2
                  go_ret
                  exact ⟨by first | rfl | (have h1_ := hrt; simp (disch := omega) only [wrap_id] at h1_; exact congrArg (fun b => Ending.returned (Value.bool b)) h1_) | (exact congrArg (fun b => Ending.returned (Value.bool b)) hrt) | (simp [errW_none, errW_some] <;> rfl) | (simp [*, errW_none, errW_some] <;> rfl), by repeat (first | (with_reducible first | exact HB.out | apply below_alloc | apply pw_below_drewN | apply below_drew1) | exact HB.out)⟩)
              · rw [if_neg c12] at H
                have c12b0 : ((bt a0 x7_1) == 34) = false := beq_eq_false_iff_ne.mpr c12
                have c12b1 : ((bt a0 x7_1) != 34) = true := bne_iff_ne.mpr c12
                by_cases c14 : (bt a0 x7_1) = 92
                · rw [if_pos c14] at H
                  have c14b0 : ((bt a0 x7_1) == 92) = true := beq_iff_eq.mpr c14
                  have c14b1 : ((bt a0 x7_1) != 92) = false := bne_eq_false_iff_eq.mpr c14
                  clear c14
                  have hrt := Option.some.inj H
                  first | (exact absurd hrt (by decide)) | (
                    try (have hp_ := hrt; simp only [Bool.and_eq_true] at hp_; simp (disch := omega) only [wrap_id] at hp_; have hp1_ := hp_.1; have hp2_ := hp_.2; have hp3_ := decide_eq_true (beq_iff_eq.mp hp1_); have hp4_ := decide_eq_true (beq_iff_eq.mp hp2_); clear hp_)
                    have p11 : 0 ≤ (x7_1 : Int) := of_decide_eq_true (by first | (with_reducible assumption) | assumption)
                    have q11 : x7_1 < (a0.size : Int) := of_decide_eq_true (by first | (with_reducible assumption) | assumption)
                    have hx11 := bt_at a0 x7_1
                    replace p11 := eq_true p11
                    replace q11 := eq_true q11
                    have p13 : 0 ≤ (x7_1 : Int) := of_decide_eq_true (by first | (with_reducible assumption) | assumption)
                    have q13 : x7_1 < (a0.size : Int) := of_decide_eq_true (by first | (with_reducible assumption) | assumption)
                    have hx13 := bt_at a0 x7_1
                    replace p13 := eq_true p13
                    replace q13 := eq_true q13
                    go_wp2
                    go_ret
                    exact ⟨by first | rfl | (have h1_ := hrt; simp (disch := omega) only [wrap_id] at h1_; exact congrArg (fun b => Ending.returned (Value.bool b)) h1_) | (exact congrArg (fun b => Ending.returned (Value.bool b)) hrt) | (simp [errW_none, errW_some] <;> rfl) | (simp [*, errW_none, errW_some] <;> rfl), by repeat (first | (with_reducible first | exact HB.out | apply below_alloc | apply pw_below_drewN | apply below_drew1) | exact HB.out)⟩)
                · rw [if_neg c14] at H
                  have c14b0 : ((bt a0 x7_1) == 92) = false := beq_eq_false_iff_ne.mpr c14
                  have c14b1 : ((bt a0 x7_1) != 92) = true := bne_iff_ne.mpr c14
                  replace H := Option.bind_eq_some_iff.mp H
                  obtain ⟨t278, A150, H⟩ := H
                  replace H : (if t278 = true then (some true) else ((targumref1_Break.f k1 11 a0 x7_1).bind fun t279 => (if t279 > 0 then (some true) else (targumlaw17_DquoteBack.l0 k1 a0 a1 a2 (wrap64 (x7_1 + 1)))))) = some true := H
                  have A15 := Aside0.mk A150
                  clear A150
                  by_cases c16 : t278 = true
                  · subst c16
                    have H1 : (some true) = some true := by rw [if_pos rfl] at H <;> exact H
                    clear H
                    have H := H1
                    clear H1
                    have hrt := Option.some.inj H
                    first | (exact absurd hrt (by decide)) | (
                      try (have hp_ := hrt; simp only [Bool.and_eq_true] at hp_; simp (disch := omega) only [wrap_id] at hp_; have hp1_ := hp_.1; have hp2_ := hp_.2; have hp3_ := decide_eq_true (beq_iff_eq.mp hp1_); have hp4_ := decide_eq_true (beq_iff_eq.mp hp2_); clear hp_)
                      have p11 : 0 ≤ (x7_1 : Int) := of_decide_eq_true (by first | (with_reducible assumption) | assumption)
                      have q11 : x7_1 < (a0.size : Int) := of_decide_eq_true (by first | (with_reducible assumption) | assumption)
                      have hx11 := bt_at a0 x7_1
                      replace p11 := eq_true p11
                      replace q11 := eq_true q11
                      have p13 : 0 ≤ (x7_1 : Int) := of_decide_eq_true (by first | (with_reducible assumption) | assumption)
                      have q13 : x7_1 < (a0.size : Int) := of_decide_eq_true (by first | (with_reducible assumption) | assumption)
                      have hx13 := bt_at a0 x7_1
                      replace p13 := eq_true p13
                      replace q13 := eq_true q13
                      go_wp2_with (first | (go_at_call 16; (with_reducible refine (targumref1_IsBlank.calls a0 x7_1 true _ A15.out).mono ?_); rintro e w' ⟨rfl, ⟨nd, rfl⟩⟩))
                      go_ret
                      exact ⟨by first | rfl | (have h1_ := hrt; simp (disch := omega) only [wrap_id] at h1_; exact congrArg (fun b => Ending.returned (Value.bool b)) h1_) | (exact congrArg (fun b => Ending.returned (Value.bool b)) hrt) | (simp [errW_none, errW_some] <;> rfl) | (simp [*, errW_none, errW_some] <;> rfl), by repeat (first | (with_reducible first | exact HB.out | apply below_alloc | apply pw_below_drewN | apply below_drew1) | exact HB.out)⟩)
                  · replace c16 := Bool.eq_false_iff.mpr c16
                    subst c16
                    have H1 : ((targumref1_Break.f k1 11 a0 x7_1).bind fun t279 => (if t279 > 0 then (some true) else (targumlaw17_DquoteBack.l0 k1 a0 a1 a2 (wrap64 (x7_1 + 1))))) = some true := by rw [if_neg (show ¬ (false = true) by decide)] at H <;> exact H
                    clear H
                    have H := H1
                    clear H1
                    replace H := Option.bind_eq_some_iff.mp H
                    obtain ⟨t279, A170, H⟩ := H
                    replace H : (if t279 > 0 then (some true) else (targumlaw17_DquoteBack.l0 k1 a0 a1 a2 (wrap64 (x7_1 + 1)))) = some true := H
                    have A17 := Aside0.mk A170
                    clear A170
                    by_cases c18 : t279 > 0
                    · rw [if_pos c18] at H
                      have c18b0 : decide (0 < t279) = true := decide_eq_true c18
                      clear c18
                      have hrt := Option.some.inj H
                      first | (exact absurd hrt (by decide)) | (
                        try (have hp_ := hrt; simp only [Bool.and_eq_true] at hp_; simp (disch := omega) only [wrap_id] at hp_; have hp1_ := hp_.1; have hp2_ := hp_.2; have hp3_ := decide_eq_true (beq_iff_eq.mp hp1_); have hp4_ := decide_eq_true (beq_iff_eq.mp hp2_); clear hp_)
                        have p11 : 0 ≤ (x7_1 : Int) := of_decide_eq_true (by first | (with_reducible assumption) | assumption)
                        have q11 : x7_1 < (a0.size : Int) := of_decide_eq_true (by first | (with_reducible assumption) | assumption)
                        have hx11 := bt_at a0 x7_1
                        replace p11 := eq_true p11
                        replace q11 := eq_true q11
                        have p13 : 0 ≤ (x7_1 : Int) := of_decide_eq_true (by first | (with_reducible assumption) | assumption)
                        have q13 : x7_1 < (a0.size : Int) := of_decide_eq_true (by first | (with_reducible assumption) | assumption)
                        have hx13 := bt_at a0 x7_1
                        replace p13 := eq_true p13
                        replace q13 := eq_true q13
                        go_wp2_with (first | (go_at_call 16; (with_reducible refine (targumref1_IsBlank.calls a0 x7_1 false _ A15.out).mono ?_); rintro e w' ⟨rfl, ⟨nd, rfl⟩⟩) | (go_at_call 17; (with_reducible refine (targumref1_Break.calls k1 11 a0 x7_1 t279 _ A17.out).mono ?_); rintro e w' ⟨rfl, ⟨nd, rfl⟩⟩))
                        go_ret
                        exact ⟨by first | rfl | (have h1_ := hrt; simp (disch := omega) only [wrap_id] at h1_; exact congrArg (fun b => Ending.returned (Value.bool b)) h1_) | (exact congrArg (fun b => Ending.returned (Value.bool b)) hrt) | (simp [errW_none, errW_some] <;> rfl) | (simp [*, errW_none, errW_some] <;> rfl), by repeat (first | (with_reducible first | exact HB.out | apply below_alloc | apply pw_below_drewN | apply below_drew1) | exact HB.out)⟩)
                    · rw [if_neg c18] at H
                      have c18b0 : decide (0 < t279) = false := decide_eq_false c18
                      clear c18
                      have H' := Aside0.mk H
                      clear H
                      have p11 : 0 ≤ (x7_1 : Int) := of_decide_eq_true (by first | (with_reducible assumption) | assumption)
                      have q11 : x7_1 < (a0.size : Int) := of_decide_eq_true (by first | (with_reducible assumption) | assumption)
                      have hx11 := bt_at a0 x7_1
                      replace p11 := eq_true p11
                      replace q11 := eq_true q11
                      have p13 : 0 ≤ (x7_1 : Int) := of_decide_eq_true (by first | (with_reducible assumption) | assumption)
                      have q13 : x7_1 < (a0.size : Int) := of_decide_eq_true (by first | (with_reducible assumption) | assumption)
                      have hx13 := bt_at a0 x7_1
                      replace p13 := eq_true p13
                      replace q13 := eq_true q13
                      go_wp2_with (first | (go_at_call 16; (with_reducible refine (targumref1_IsBlank.calls a0 x7_1 false _ A15.out).mono ?_); rintro e w' ⟨rfl, ⟨nd, rfl⟩⟩) | (go_at_call 17; (with_reducible refine (targumref1_Break.calls k1 11 a0 x7_1 t279 _ A17.out).mono ?_); rintro e w' ⟨rfl, ⟨nd, rfl⟩⟩))
                      go_roundg k1
                      case measure => have := HK1.out; omega
                      case rel => exact ⟨(wrap64 (x7_1 + 1)), (by first | rfl | (simp; done) | (simp [*]; done)), H', ⟨by have := HK1.out; omega⟩, ⟨by repeat (first | (with_reducible first | exact HB.out | apply below_alloc | apply pw_below_drewN | apply below_drew1) | exact HB.out)⟩⟩
            · rw [if_neg c10] at H
              exact absurd H (by simp)
          · rw [if_neg c9] at H
            have c9b0 : decide (x7_1 < (a0.size : Int)) = false := decide_eq_false c9
            clear c9
            replace H := Option.bind_eq_some_iff.mp H
            obtain ⟨t280, A190, H⟩ := H
            replace H : ((targumlaw17_hex.f k1 (wrap64 (Int.tmod a1 1114112)) 8).bind fun t281 => (if 2 + t281.size ≤ 9223372036854775807 then ((some (([(⟨#[92, 85]⟩ : ByteArray) ++ t281] : List ByteArray) : List ByteArray)).bind fun y282 => (if (wrap64 (Int.tmod a1 1114112)) < 65536 then ((targumlaw17_hex.f k1 (wrap64 (Int.tmod a1 1114112)) 4).bind fun t285 => (if 2 + t285.size ≤ 9223372036854775807 then (if y282.length < 8796093022208 then (targumlaw17_DquoteBack.j1 k1 a0 t280 (wrap64 (Int.tmod a1 1114112)) (y282 ++ [(⟨#[92, 117]⟩ : ByteArray) ++ t285])) else (none)) else (none))) else (targumlaw17_DquoteBack.j1 k1 a0 t280 (wrap64 (Int.tmod a1 1114112)) y282))) else (none))) = some true := H
            have A19 := Aside0.mk A190
            clear A190
            replace H := Option.bind_eq_some_iff.mp H
            obtain ⟨t281, A200, H⟩ := H
            replace H : (if 2 + t281.size ≤ 9223372036854775807 then ((some (([(⟨#[92, 85]⟩ : ByteArray) ++ t281] : List ByteArray) : List ByteArray)).bind fun y282 => (if (wrap64 (Int.tmod a1 1114112)) < 65536 then ((targumlaw17_hex.f k1 (wrap64 (Int.tmod a1 1114112)) 4).bind fun t285 => (if 2 + t285.size ≤ 9223372036854775807 then (if y282.length < 8796093022208 then (targumlaw17_DquoteBack.j1 k1 a0 t280 (wrap64 (Int.tmod a1 1114112)) (y282 ++ [(⟨#[92, 117]⟩ : ByteArray) ++ t285])) else (none)) else (none))) else (targumlaw17_DquoteBack.j1 k1 a0 t280 (wrap64 (Int.tmod a1 1114112)) y282))) else (none)) = some true := H
            have A20 := Aside0.mk A200
            clear A200
            by_cases c21 : 2 + t281.size ≤ 9223372036854775807
            · rw [if_pos c21] at H
              have c21b0 := eq_true c21
              have c21b1 : decide (2 + t281.size ≤ 9223372036854775807) = true := decide_eq_true c21
              try have c21b2 : (9223372036854775807 < 2 + t281.size) = False := eq_false (Nat.not_lt.2 c21)
              obtain ⟨y282, hy282⟩ : ∃ y_ : List ByteArray, y_ = (([(⟨#[92, 85]⟩ : ByteArray) ++ t281] : List ByteArray)) := ⟨_, rfl⟩
              replace H : (if (wrap64 (Int.tmod a1 1114112)) < 65536 then ((targumlaw17_hex.f k1 (wrap64 (Int.tmod a1 1114112)) 4).bind fun t285 => (if 2 + t285.size ≤ 9223372036854775807 then (if y282.length < 8796093022208 then (targumlaw17_DquoteBack.j1 k1 a0 t280 (wrap64 (Int.tmod a1 1114112)) (y282 ++ [(⟨#[92, 117]⟩ : ByteArray) ++ t285])) else (none)) else (none))) else (targumlaw17_DquoteBack.j1 k1 a0 t280 (wrap64 (Int.tmod a1 1114112)) y282)) = some true := by first | (rw [hy282]; with_reducible exact H) | (have H2_ := (Option.bind_some _ _).symm.trans H; rw [hy282]; with_reducible exact H2_) | (have H2_ := (Option.bind_some _ _).symm.trans H; with_reducible exact H2_) | with_reducible exact H | (rw [hy282]; exact H) | exact H
              have Ny282 := Aside0.mk hy282
              clear hy282
              have HC22 := Aside0.mk H
              clear H
              go_upto_if 58 with (first | ((with_reducible refine gate_callee (f := 10) rfl ?_); refine goesL_ (some 49) rfl rfl Try.func10 (by kernel_rfl) rfl #[.bool a2] rfl (by (try simp only [List.map_toArray, List.map_cons, List.map_nil]); first | done | rfl | (simp only [List.length_drop, List.length_take]; rfl)) ?_; (with_reducible refine (targumhelp_Version.calls a2 t280 _ A19.out).mono ?_); rintro e w' ⟨rfl, ⟨nd, rfl⟩⟩; refine ⟨_, rfl, ?_⟩) | ((with_reducible refine gate_callee (f := 18) rfl ?_); refine goesL_ (some 54) rfl rfl Try.func18 (by kernel_rfl) rfl #[.int .i64 (wrap64 (Int.tmod a1 1114112)), .int .i64 8] rfl (by (try simp only [List.map_toArray, List.map_cons, List.map_nil]); first | done | rfl | (simp only [List.length_drop, List.length_take]; rfl)) ?_; (with_reducible refine (targumlaw17_hex.calls k1 (wrap64 (Int.tmod a1 1114112)) 8 t281 _ A20.out).mono ?_); rintro e w' ⟨rfl, ⟨nd, rfl⟩⟩; refine ⟨_, rfl, ?_⟩) | ((with_reducible refine gate_dst (N := 56) rfl ?_); (try (refine gate_guard (by rfl) ?_; dsimp only)); refine Kd.R_lit Kd.string _ 9 ?hg (N := 56) ?hd (xs := ([(⟨#[92, 85]⟩ : ByteArray) ++ t281] : List ByteArray)) (inner := [.string ((⟨#[92, 85]⟩ : ByteArray) ++ t281)]) (ok := fun _ => True) (okp := fun _ => True) ?hr ?hp (fun _ hk => hk) trivial (Below.refl _ _) (Nat.le_refl _) (by simp) ?_; (case hd => rfl); (case hg => rfl); (case hr => first | (go_simp; done) | (go_simp; rfl)); (case hp => exact (Reps.one (show Kd.M Kd.string _ _ _ ((⟨#[92, 85]⟩ : ByteArray) ++ t281) [.string ((⟨#[92, 85]⟩ : ByteArray) ++ t281)] from rfl) (Reps.none _ _))); intro v283 w23 ho24 hb hg_ hnew_; clear hg_ hnew_; (first | rw [← Ny282.out] at ho24 | (simp only [Int.reduceToNat] at ho24; rw [← Ny282.out] at ho24)); have n0_ := Aside0.mk (Kd.R_lower ho24 (below_size (by repeat (first | (with_reducible first | exact HB.out | apply below_alloc | apply pw_below_drewN | apply below_drew1) | exact HB.out)))); have n1_ := Aside0.mk (below_step (by repeat (first | (with_reducible first | exact HB.out | apply below_alloc | apply pw_below_drewN | apply below_drew1) | exact HB.out)) hb); clear HB; have HO284 := n0_; have HB := n1_; clear n0_ n1_; clear hb ho24))
              (try simp only [Act.put, List.setIfInBounds_toArray, List.set_cons_zero, List.set_cons_succ])
              go_cut [10] (fun v10 wc => ∃ (kq : Nat) (x10_21 : List ByteArray), Aside0 (targumlaw17_DquoteBack.j1 kq a0 t280 (wrap64 (Int.tmod a1 1114112)) x10_21 = some true) ∧ Aside0 (kq ≤ k1) ∧ Aside0 (Kd.R Kd.string 9 wc w.heap.size (fun _ => True) v10 x10_21) ∧ Aside0 (Below w.heap.size w wc))
              case first =>
                have H := HC22.out
                clear HC22
                by_cases c25 : (wrap64 (Int.tmod a1 1114112)) < 65536
                · rw [if_pos c25] at H
                  have c25b0 : decide ((wrap64 (Int.tmod a1 1114112)) < 65536) = true := decide_eq_true c25
                  (try (have c25b1 : decide (((Int.tmod a1 1114112)) < 65536) = true := (by have e_ : wrap64 (Int.tmod a1 1114112) = (Int.tmod a1 1114112) := (by unfold wrap64; omega); have h_ : decide ((wrap64 (Int.tmod a1 1114112)) < 65536) = true := decide_eq_true c25; rw [e_] at h_; exact h_)))
                  clear c25
                  (first | rw [c25b0] | (simp only [i64_w, i32_w]; rw [c25b0]) | skip)
                  replace H := Option.bind_eq_some_iff.mp H
                  obtain ⟨t285, A260, H⟩ := H
                  replace H : (if 2 + t285.size ≤ 9223372036854775807 then (if y282.length < 8796093022208 then (targumlaw17_DquoteBack.j1 k1 a0 t280 (wrap64 (Int.tmod a1 1114112)) (y282 ++ [(⟨#[92, 117]⟩ : ByteArray) ++ t285])) else (none)) else (none)) = some true := H
                  have A26 := Aside0.mk A260
                  clear A260
                  by_cases c27 : 2 + t285.size ≤ 9223372036854775807
                  · rw [if_pos c27] at H
                    have c27b0 := eq_true c27
                    have c27b1 : decide (2 + t285.size ≤ 9223372036854775807) = true := decide_eq_true c27
                    try have c27b2 : (9223372036854775807 < 2 + t285.size) = False := eq_false (Nat.not_lt.2 c27)
                    by_cases c28 : y282.length < 8796093022208
                    · rw [if_pos c28] at H
                      have LMc28 := Aside0.mk c28
                      clear c28
                      obtain ⟨y286, hy286⟩ : ∃ y_ : List ByteArray, y_ = (y282 ++ [(⟨#[92, 117]⟩ : ByteArray) ++ t285]) := ⟨_, rfl⟩
                      replace H : (targumlaw17_DquoteBack.j1 k1 a0 t280 (wrap64 (Int.tmod a1 1114112)) y286) = some true := by first | (rw [hy286]; with_reducible exact H) | (have H2_ := (Option.bind_some _ _).symm.trans H; rw [hy286]; with_reducible exact H2_) | (have H2_ := (Option.bind_some _ _).symm.trans H; with_reducible exact H2_) | with_reducible exact H | (rw [hy286]; exact H) | exact H
                      have Ny286 := Aside0.mk hy286
                      clear hy286
                      have H' := Aside0.mk H
                      clear H
                      go_wp2_with (first | ((with_reducible refine gate_callee (f := 18) rfl ?_); refine goesL_ (some 61) rfl rfl Try.func18 (by kernel_rfl) rfl #[.int .i64 (wrap64 (Int.tmod a1 1114112)), .int .i64 4] rfl (by (try simp only [List.map_toArray, List.map_cons, List.map_nil]); first | done | rfl | (simp only [List.length_drop, List.length_take]; rfl)) ?_; (with_reducible refine (targumlaw17_hex.calls k1 (wrap64 (Int.tmod a1 1114112)) 4 t285 _ A26.out).mono ?_); rintro e w' ⟨rfl, ⟨nd, rfl⟩⟩; refine ⟨_, rfl, ?_⟩) | ((with_reducible refine gate_builtin (b := .append) (xs := #[.tmp 59, .tmp 63]) rfl ?_); (try (refine gate_guard (by rfl) ?_; dsimp only)); at_builtin; refine Kd.R_append Kd.string (w0 := w) w.heap.size rfl (.tmp 59) (.tmp 63) 27 9 (.string ⟨#[]⟩) 16 rfl Try.underlying27 info9 rfl (by decide) (by omega) v283 y282 ((⟨#[92, 117]⟩ : ByteArray) ++ t285) [.string ((⟨#[92, 117]⟩ : ByteArray) ++ t285)] (fun _ => True) (fun _ => False) rfl rfl ?aP (fun _ hk => hk.elim) ?aF ?aO ?aB ?aS ?aL ?_; (case aP => exact rfl); (case aB => exact (by repeat (first | (with_reducible first | exact HB.out | apply below_alloc | apply pw_below_drewN | apply below_drew1) | exact HB.out))); (case aF => exact (fun _ _ => trivial)); (case aO => exact (by (with_reducible repeat (first | apply Kd.R_alloc | apply Kd.R_drewN | apply Kd.R_drew)); exact HO284.out)); (case aS => exact (below_size (by repeat (first | (with_reducible first | exact HB.out | apply below_alloc | apply pw_below_drewN | apply below_drew1) | exact HB.out)))); (case aL => have := LMc28.out; omega); intro v287 w29 ho hb hg hat; rw [← Ny286.out] at ho; have n0_ := Aside0.mk (hb); have n1_ := Aside0.mk (ho); clear HB; clear HO284; have HB := n0_; have HO288 := n1_; clear n0_ n1_; clear ho hb hg hat))
                      go_meet
                      case rel => exact ⟨_, (y286), H', ⟨by have := HK1.out; first | omega | exact Nat.le_refl _⟩, ⟨by (with_reducible repeat (first | apply Kd.R_alloc | apply Kd.R_drewN | apply Kd.R_drew)); exact HO288.out⟩, ⟨by repeat (first | (with_reducible first | exact HB.out | apply below_alloc | apply pw_below_drewN | apply below_drew1) | exact HB.out)⟩⟩
                    · rw [if_neg c28] at H
                      exact absurd H (by simp)
                  · rw [if_neg c27] at H
                    exact absurd H (by simp)
                · rw [if_neg c25] at H
                  have c25b0 : decide ((wrap64 (Int.tmod a1 1114112)) < 65536) = false := decide_eq_false c25
                  (try (have c25b1 : decide (((Int.tmod a1 1114112)) < 65536) = false := (by have e_ : wrap64 (Int.tmod a1 1114112) = (Int.tmod a1 1114112) := (by unfold wrap64; omega); have h_ : decide ((wrap64 (Int.tmod a1 1114112)) < 65536) = false := decide_eq_false c25; rw [e_] at h_; exact h_)))
                  clear c25
                  (first | rw [c25b0] | (simp only [i64_w, i32_w]; rw [c25b0]) | skip)
                  have H' := Aside0.mk H
                  clear H
                  go_wp2
                  go_meet
                  case rel => exact ⟨_, (y282), H', ⟨by have := HK1.out; first | omega | exact Nat.le_refl _⟩, ⟨by (with_reducible repeat (first | apply Kd.R_alloc | apply Kd.R_drewN | apply Kd.R_drew)); exact HO284.out⟩, ⟨by repeat (first | (with_reducible first | exact HB.out | apply below_alloc | apply pw_below_drewN | apply below_drew1) | exact HB.out)⟩⟩
              case rest =>
                clear HC22
                (try clear c1); (try clear p1); (try clear q1); (try clear hx1); (try clear c2); (try clear p2); (try clear c4); (try clear c5); (try clear p6); (try clear c7); (try clear c8); (try clear c9); (try clear c9b0); (try clear c10); (try clear c10b0); (try clear p11); (try clear q11); (try clear hx11); (try clear c12); (try clear c12b0); (try clear c12b1); (try clear p13); (try clear q13); (try clear hx13); (try clear c14); (try clear c14b0); (try clear c14b1); (try clear c16); (try clear c18); (try clear c18b0); (try clear c21); (try clear c21b0); (try clear c21b1); (try clear c21b2); (try clear c25); (try clear c25b0); (try clear c25b1); (try clear c27); (try clear c27b0); (try clear c27b1); (try clear c27b2); (try clear c28)
                obtain ⟨kq, x10_21, HA, HJ21, HO_10, HB⟩ := hcut
                cases kq with
                | zero => exact absurd HA.out (by simp [targumlaw17_DquoteBack.j1])
                | succ kj21 =>
                  have H := HA.out
                  clear HA
                  simp only [targumlaw17_DquoteBack.j1] at H
                  have HC30 := Aside0.mk H
                  clear H
                  go_upto_if 66 with (fail)
                  go_cut [10] (fun v10 wc => ∃ (kq : Nat) (x10_29 : List ByteArray), Aside0 (targumlaw17_DquoteBack.j2 kq a0 t280 (wrap64 (Int.tmod a1 1114112)) x10_29 = some true) ∧ Aside0 (kq ≤ kj21) ∧ Aside0 (Kd.R Kd.string 9 wc w.heap.size (fun _ => True) v10 x10_29) ∧ Aside0 (Below w.heap.size w wc))
                  case first =>
                    have H := HC30.out
                    clear HC30
                    by_cases c31 : (wrap64 (Int.tmod a1 1114112)) < 256
                    · rw [if_pos c31] at H
                      have c31b0 : decide ((wrap64 (Int.tmod a1 1114112)) < 256) = true := decide_eq_true c31
                      (try (have c31b1 : decide (((Int.tmod a1 1114112)) < 256) = true := (by have e_ : wrap64 (Int.tmod a1 1114112) = (Int.tmod a1 1114112) := (by unfold wrap64; omega); have h_ : decide ((wrap64 (Int.tmod a1 1114112)) < 256) = true := decide_eq_true c31; rw [e_] at h_; exact h_)))
                      clear c31
                      (first | rw [c31b0] | (simp only [i64_w, i32_w]; rw [c31b0]) | skip)
                      replace H := Option.bind_eq_some_iff.mp H
                      obtain ⟨t289, A320, H⟩ := H
                      replace H : (if 2 + t289.size ≤ 9223372036854775807 then (if x10_21.length < 8796093022208 then (targumlaw17_DquoteBack.j2 kj21 a0 t280 (wrap64 (Int.tmod a1 1114112)) (x10_21 ++ [(⟨#[92, 120]⟩ : ByteArray) ++ t289])) else (none)) else (none)) = some true := H
                      have A32 := Aside0.mk A320
                      clear A320
                      by_cases c33 : 2 + t289.size ≤ 9223372036854775807
                      · rw [if_pos c33] at H
                        have c33b0 := eq_true c33
                        have c33b1 : decide (2 + t289.size ≤ 9223372036854775807) = true := decide_eq_true c33
                        try have c33b2 : (9223372036854775807 < 2 + t289.size) = False := eq_false (Nat.not_lt.2 c33)
                        by_cases c34 : x10_21.length < 8796093022208
                        · rw [if_pos c34] at H
                          have LMc34 := Aside0.mk c34
                          clear c34
                          obtain ⟨y290, hy290⟩ : ∃ y_ : List ByteArray, y_ = (x10_21 ++ [(⟨#[92, 120]⟩ : ByteArray) ++ t289]) := ⟨_, rfl⟩
                          replace H : (targumlaw17_DquoteBack.j2 kj21 a0 t280 (wrap64 (Int.tmod a1 1114112)) y290) = some true := by first | (rw [hy290]; with_reducible exact H) | (have H2_ := (Option.bind_some _ _).symm.trans H; rw [hy290]; with_reducible exact H2_) | (have H2_ := (Option.bind_some _ _).symm.trans H; with_reducible exact H2_) | with_reducible exact H | (rw [hy290]; exact H) | exact H
                          have Ny290 := Aside0.mk hy290
                          clear hy290
                          have H' := Aside0.mk H
                          clear H
                          go_wp2_with (first | ((with_reducible refine gate_callee (f := 18) rfl ?_); refine goesL_ (some 69) rfl rfl Try.func18 (by kernel_rfl) rfl #[.int .i64 (wrap64 (Int.tmod a1 1114112)), .int .i64 2] rfl (by (try simp only [List.map_toArray, List.map_cons, List.map_nil]); first | done | rfl | (simp only [List.length_drop, List.length_take]; rfl)) ?_; (with_reducible refine (targumlaw17_hex.calls kj21 (wrap64 (Int.tmod a1 1114112)) 2 t289 _ A32.out).mono ?_); rintro e w' ⟨rfl, ⟨nd, rfl⟩⟩; refine ⟨_, rfl, ?_⟩) | ((with_reducible refine gate_builtin (b := .append) (xs := #[.tmp 67, .tmp 71]) rfl ?_); (try (refine gate_guard (by rfl) ?_; dsimp only)); at_builtin; refine Kd.R_append Kd.string (w0 := w) w.heap.size rfl (.tmp 67) (.tmp 71) 27 9 (.string ⟨#[]⟩) 16 rfl Try.underlying27 info9 rfl (by decide) (by omega) u10 x10_21 ((⟨#[92, 120]⟩ : ByteArray) ++ t289) [.string ((⟨#[92, 120]⟩ : ByteArray) ++ t289)] (fun _ => True) (fun _ => False) rfl rfl ?aP (fun _ hk => hk.elim) ?aF ?aO ?aB ?aS ?aL ?_; (case aP => exact rfl); (case aB => exact (by repeat (first | (with_reducible first | exact HB.out | apply below_alloc | apply pw_below_drewN | apply below_drew1) | exact HB.out))); (case aF => exact (fun _ _ => trivial)); (case aO => exact (by (with_reducible repeat (first | apply Kd.R_alloc | apply Kd.R_drewN | apply Kd.R_drew)); exact HO_10.out)); (case aS => exact (below_size (by repeat (first | (with_reducible first | exact HB.out | apply below_alloc | apply pw_below_drewN | apply below_drew1) | exact HB.out)))); (case aL => have := LMc34.out; omega); intro v291 w35 ho hb hg hat; rw [← Ny290.out] at ho; have n0_ := Aside0.mk (hb); have n1_ := Aside0.mk (ho); clear HB; clear HO_10; have HB := n0_; have HO292 := n1_; clear n0_ n1_; clear ho hb hg hat))
                          go_meet
                          case rel => exact ⟨_, (y290), H', ⟨by have := HK1.out; have := HJ21.out; first | omega | exact Nat.le_refl _⟩, ⟨by (with_reducible repeat (first | apply Kd.R_alloc | apply Kd.R_drewN | apply Kd.R_drew)); exact HO292.out⟩, ⟨by repeat (first | (with_reducible first | exact HB.out | apply below_alloc | apply pw_below_drewN | apply below_drew1) | exact HB.out)⟩⟩
                        · rw [if_neg c34] at H
                          exact absurd H (by simp)
                      · rw [if_neg c33] at H
                        exact absurd H (by simp)
                    · rw [if_neg c31] at H
                      have c31b0 : decide ((wrap64 (Int.tmod a1 1114112)) < 256) = false := decide_eq_false c31
                      (try (have c31b1 : decide (((Int.tmod a1 1114112)) < 256) = false := (by have e_ : wrap64 (Int.tmod a1 1114112) = (Int.tmod a1 1114112) := (by unfold wrap64; omega); have h_ : decide ((wrap64 (Int.tmod a1 1114112)) < 256) = false := decide_eq_false c31; rw [e_] at h_; exact h_)))
                      clear c31
                      (first | rw [c31b0] | (simp only [i64_w, i32_w]; rw [c31b0]) | skip)
                      have H' := Aside0.mk H
                      clear H
                      go_wp2
                      go_meet
                      case rel => exact ⟨_, (x10_21), H', ⟨by have := HK1.out; have := HJ21.out; first | omega | exact Nat.le_refl _⟩, ⟨by (with_reducible repeat (first | apply Kd.R_alloc | apply Kd.R_drewN | apply Kd.R_drew)); exact HO_10.out⟩, ⟨by repeat (first | (with_reducible first | exact HB.out | apply below_alloc | apply pw_below_drewN | apply below_drew1) | exact HB.out)⟩⟩
                  case rest =>
                    clear HC30
                    (try clear c1); (try clear p1); (try clear q1); (try clear hx1); (try clear c2); (try clear p2); (try clear c3); (try clear c4); (try clear c5); (try clear p6); (try clear c7); (try clear c8); (try clear c9); (try clear c9b0); (try clear c10); (try clear c10b0); (try clear p11); (try clear q11); (try clear hx11); (try clear c12); (try clear c12b0); (try clear c12b1); (try clear p13); (try clear q13); (try clear hx13); (try clear c14); (try clear c14b0); (try clear c14b1); (try clear c16); (try clear c18); (try clear c18b0); (try clear c21); (try clear c21b0); (try clear c21b1); (try clear c21b2); (try clear c25); (try clear c25b0); (try clear c25b1); (try clear c27); (try clear c27b0); (try clear c27b1); (try clear c27b2); (try clear c28); (try clear c31); (try clear c31b0); (try clear c31b1); (try clear c33); (try clear c33b0); (try clear c33b1); (try clear c33b2); (try clear c34)
                    obtain ⟨kq, x10_29, HA, HJ29, HO_10, HB⟩ := hcut
                    cases kq with
                    | zero => exact absurd HA.out (by simp [targumlaw17_DquoteBack.j2])
                    | succ kj29 =>
                      have H := HA.out
                      clear HA
                      simp only [targumlaw17_DquoteBack.j2] at H
                      have H' := Aside0.mk H
                      clear H
                      obtain ⟨Ao36, co36, eo36⟩ := Kd.R_slice HO_10.out
                      subst eo36
                      go_wp2
                      go_loopg [75] kj29 (fun kq v75 w' => ∃ (x75_4 : Int), v75 = .int .i64 x75_4 ∧ Aside0 (targumlaw17_DquoteBack.l1 kq a0 t280 (wrap64 (Int.tmod a1 1114112)) x10_29 (x10_29.length : Int) x75_4 = some true) ∧ Aside0 (kq ≤ kj29) ∧ Aside0 (Kd.R Kd.string 9 w' w.heap.size (fun _ => True) (.slice Ao36 x10_29.length co36) x10_29) ∧ Aside0 (Below w.heap.size w w'))
                      case atStart => exact ⟨(0), (by first | rfl | (simp; done) | (simp [*]; done)), H', ⟨Nat.le_refl _⟩, ⟨by (with_reducible repeat (first | apply Kd.R_alloc | apply Kd.R_drewN | apply Kd.R_drew)); exact HO_10.out⟩, ⟨by repeat (first | (with_reducible first | exact HB.out | apply below_alloc | apply pw_below_drewN | apply below_drew1) | exact HB.out)⟩⟩
                      case round =>
                        clear H'
                        (try clear c1); (try clear p1); (try clear q1); (try clear hx1); (try clear c2); (try clear p2); (try clear c3); (try clear c4); (try clear c5); (try clear p6); (try clear c7); (try clear c8); (try clear c9); (try clear c9b0); (try clear c10); (try clear c10b0); (try clear p11); (try clear q11); (try clear hx11); (try clear c12); (try clear c12b0); (try clear c12b1); (try clear p13); (try clear q13); (try clear hx13); (try clear c14); (try clear c14b0); (try clear c14b1); (try clear c16); (try clear c18); (try clear c18b0); (try clear c21); (try clear c21b0); (try clear c21b1); (try clear c21b2); (try clear c25); (try clear c25b0); (try clear c25b1); (try clear c27); (try clear c27b0); (try clear c27b1); (try clear c27b2); (try clear c28); (try clear c31); (try clear c31b0); (try clear c31b1); (try clear c33); (try clear c33b0); (try clear c33b1); (try clear c33b2); (try clear c34)
                        obtain ⟨x75_4, rfl, HA, HK4, HO_73, HB⟩ := hrel
                        cases gk with
                        | zero => exact absurd HA.out (by simp [targumlaw17_DquoteBack.l1])
                        | succ k4 =>
                          have H := HA.out
                          clear HA
                          simp only [targumlaw17_DquoteBack.l1] at H
                          by_cases c37 : x75_4 < (x10_29.length : Int)
                          · rw [if_pos c37] at H
                            have c37b0 : decide (x75_4 < (x10_29.length : Int)) = true := decide_eq_true c37
                            clear c37
                            by_cases c38 : 0 ≤ x75_4
                            · rw [if_pos c38] at H
                              have c38b0 : decide (0 ≤ x75_4) = true := decide_eq_true c38
                              clear c38
                              by_cases c39 : x75_4 < (x10_29.length : Int)
                              · rw [if_pos c39] at H
                                have c39b0 : decide (x75_4 < (x10_29.length : Int)) = true := decide_eq_true c39
                                clear c39
                                by_cases c40 : 1 + a0.size ≤ 9223372036854775807
                                · rw [if_pos c40] at H
                                  have c40b0 := eq_true c40
                                  have c40b1 : decide (1 + a0.size ≤ 9223372036854775807) = true := decide_eq_true c40
                                  try have c40b2 : (9223372036854775807 < 1 + a0.size) = False := eq_false (Nat.not_lt.2 c40)
                                  by_cases c41 : ((⟨#[34]⟩ : ByteArray) ++ a0).size + (rdOf ByteArray.empty x10_29 x75_4).size ≤ 9223372036854775807
                                  · rw [if_pos c41] at H
                                    have c41b0 := eq_true c41
                                    have c41b1 : decide (((⟨#[34]⟩ : ByteArray) ++ a0).size + (rdOf ByteArray.empty x10_29 x75_4).size ≤ 9223372036854775807) = true := decide_eq_true c41
                                    try (have c41b7 : 1 + a0.size + (rdOf ByteArray.empty x10_29 x75_4).size ≤ 9223372036854775807 := by have h_ := c41; (repeat rw [ByteArray.size_append] at h_); first | exact h_ | (simp at h_; omega)
                                         have c41b8 : decide (1 + a0.size + (rdOf ByteArray.empty x10_29 x75_4).size ≤ 9223372036854775807) = true := decide_eq_true c41b7
                                         have c41b9 : (9223372036854775807 < 1 + a0.size + (rdOf ByteArray.empty x10_29 x75_4).size) = False := eq_false (Nat.not_lt.2 c41b7))
                                    try have c41b2 : (9223372036854775807 < ((⟨#[34]⟩ : ByteArray) ++ a0).size + (rdOf ByteArray.empty x10_29 x75_4).size) = False := eq_false (Nat.not_lt.2 c41)
                                    by_cases c42 : (((⟨#[34]⟩ : ByteArray) ++ a0) ++ (rdOf ByteArray.empty x10_29 x75_4)).size + a0.size ≤ 9223372036854775807
                                    · rw [if_pos c42] at H
                                      have c42b0 := eq_true c42
                                      have c42b1 : decide ((((⟨#[34]⟩ : ByteArray) ++ a0) ++ (rdOf ByteArray.empty x10_29 x75_4)).size + a0.size ≤ 9223372036854775807) = true := decide_eq_true c42
                                      try (have c42b7 : 1 + a0.size + (rdOf ByteArray.empty x10_29 x75_4).size + a0.size ≤ 9223372036854775807 := by have h_ := c42; (repeat rw [ByteArray.size_append] at h_); first | exact h_ | (simp at h_; omega)
                                           have c42b8 : decide (1 + a0.size + (rdOf ByteArray.empty x10_29 x75_4).size + a0.size ≤ 9223372036854775807) = true := decide_eq_true c42b7
                                           have c42b9 : (9223372036854775807 < 1 + a0.size + (rdOf ByteArray.empty x10_29 x75_4).size + a0.size) = False := eq_false (Nat.not_lt.2 c42b7))
                                      try have c42b2 : (9223372036854775807 < (((⟨#[34]⟩ : ByteArray) ++ a0) ++ (rdOf ByteArray.empty x10_29 x75_4)).size + a0.size) = False := eq_false (Nat.not_lt.2 c42)
                                      by_cases c43 : ((((⟨#[34]⟩ : ByteArray) ++ a0) ++ (rdOf ByteArray.empty x10_29 x75_4)) ++ a0).size + 3 ≤ 9223372036854775807
                                      · rw [if_pos c43] at H
                                        have c43b0 := eq_true c43
                                        have c43b1 : decide (((((⟨#[34]⟩ : ByteArray) ++ a0) ++ (rdOf ByteArray.empty x10_29 x75_4)) ++ a0).size + 3 ≤ 9223372036854775807) = true := decide_eq_true c43
                                        try (have c43b7 : 1 + a0.size + (rdOf ByteArray.empty x10_29 x75_4).size + a0.size + 3 ≤ 9223372036854775807 := by have h_ := c43; (repeat rw [ByteArray.size_append] at h_); first | exact h_ | (simp at h_; omega)
                                             have c43b8 : decide (1 + a0.size + (rdOf ByteArray.empty x10_29 x75_4).size + a0.size + 3 ≤ 9223372036854775807) = true := decide_eq_true c43b7
                                             have c43b9 : (9223372036854775807 < 1 + a0.size + (rdOf ByteArray.empty x10_29 x75_4).size + a0.size + 3) = False := eq_false (Nat.not_lt.2 c43b7))
                                        try have c43b2 : (9223372036854775807 < ((((⟨#[34]⟩ : ByteArray) ++ a0) ++ (rdOf ByteArray.empty x10_29 x75_4)) ++ a0).size + 3) = False := eq_false (Nat.not_lt.2 c43)
                                        replace H := Option.bind_eq_some_iff.mp H
                                        obtain ⟨⟨t294, t295, t296, t297⟩, A440, H⟩ := H
                                        replace H : ((targumref1_IsScalar.f (wrap64 (Int.tmod a1 1114112))).bind fun t299 => (if t299 = true then (if t296 = 0 then ((targumref1_Utf8.f (wrap64 (Int.tmod a1 1114112))).bind fun t300 => (if a0.size + (strOfNums t300).size ≤ 9223372036854775807 then (if (a0 ++ (strOfNums t300)).size + a0.size ≤ 9223372036854775807 then (if t294.toList = ((a0 ++ (strOfNums t300)) ++ a0).toList then (if t295 = (wrap64 ((wrap64 (2 + (wrap64 (2 * (a0.size : Int))))) + ((rdOf ByteArray.empty x10_29 x75_4).size : Int))) then (targumlaw17_DquoteBack.l1 k4 a0 t280 (wrap64 (Int.tmod a1 1114112)) x10_29 (x10_29.length : Int) (wrap64 (x75_4 + 1))) else (some false)) else (some false)) else (none)) else (none))) else (some false)) else (if (!(t296 == 14) || (!(t297 == (wrap64 (1 + (a0.size : Int)))))) = true then (targumlaw17_DquoteBack.j4 k4 a0 t280 (wrap64 (Int.tmod a1 1114112)) x10_29 (x10_29.length : Int) x75_4 true) else (if t294.toList = ([] : List UInt8) then (targumlaw17_DquoteBack.j4 k4 a0 t280 (wrap64 (Int.tmod a1 1114112)) x10_29 (x10_29.length : Int) x75_4 (t295 != 0)) else (targumlaw17_DquoteBack.j4 k4 a0 t280 (wrap64 (Int.tmod a1 1114112)) x10_29 (x10_29.length : Int) x75_4 true))))) = some true := H
                                        have A44 := Aside0.mk A440
                                        clear A440
                                        replace H := Option.bind_eq_some_iff.mp H
                                        obtain ⟨t299, A450, H⟩ := H
                                        replace H : (if t299 = true then (if t296 = 0 then ((targumref1_Utf8.f (wrap64 (Int.tmod a1 1114112))).bind fun t300 => (if a0.size + (strOfNums t300).size ≤ 9223372036854775807 then (if (a0 ++ (strOfNums t300)).size + a0.size ≤ 9223372036854775807 then (if t294.toList = ((a0 ++ (strOfNums t300)) ++ a0).toList then (if t295 = (wrap64 ((wrap64 (2 + (wrap64 (2 * (a0.size : Int))))) + ((rdOf ByteArray.empty x10_29 x75_4).size : Int))) then (targumlaw17_DquoteBack.l1 k4 a0 t280 (wrap64 (Int.tmod a1 1114112)) x10_29 (x10_29.length : Int) (wrap64 (x75_4 + 1))) else (some false)) else (some false)) else (none)) else (none))) else (some false)) else (if (!(t296 == 14) || (!(t297 == (wrap64 (1 + (a0.size : Int)))))) = true then (targumlaw17_DquoteBack.j4 k4 a0 t280 (wrap64 (Int.tmod a1 1114112)) x10_29 (x10_29.length : Int) x75_4 true) else (if t294.toList = ([] : List UInt8) then (targumlaw17_DquoteBack.j4 k4 a0 t280 (wrap64 (Int.tmod a1 1114112)) x10_29 (x10_29.length : Int) x75_4 (t295 != 0)) else (targumlaw17_DquoteBack.j4 k4 a0 t280 (wrap64 (Int.tmod a1 1114112)) x10_29 (x10_29.length : Int) x75_4 true)))) = some true := H
                                        have A45 := Aside0.mk A450
                                        clear A450
                                        by_cases c46 : t299 = true
                                        · subst c46
                                          have H1 : (if t296 = 0 then ((targumref1_Utf8.f (wrap64 (Int.tmod a1 1114112))).bind fun t300 => (if a0.size + (strOfNums t300).size ≤ 9223372036854775807 then (if (a0 ++ (strOfNums t300)).size + a0.size ≤ 9223372036854775807 then (if t294.toList = ((a0 ++ (strOfNums t300)) ++ a0).toList then (if t295 = (wrap64 ((wrap64 (2 + (wrap64 (2 * (a0.size : Int))))) + ((rdOf ByteArray.empty x10_29 x75_4).size : Int))) then (targumlaw17_DquoteBack.l1 k4 a0 t280 (wrap64 (Int.tmod a1 1114112)) x10_29 (x10_29.length : Int) (wrap64 (x75_4 + 1))) else (some false)) else (some false)) else (none)) else (none))) else (some false)) = some true := by rw [if_pos rfl] at H <;> exact H
                                          clear H
                                          have H := H1
                                          clear H1
                                          by_cases c47 : t296 = 0
                                          · rw [if_pos c47] at H
                                            have c47b0 : (t296 == 0) = true := beq_iff_eq.mpr c47
                                            have c47b1 : (t296 != 0) = false := bne_eq_false_iff_eq.mpr c47
                                            clear c47
                                            replace H := Option.bind_eq_some_iff.mp H
                                            obtain ⟨t300, A480, H⟩ := H
                                            replace H : (if a0.size + (strOfNums t300).size ≤ 9223372036854775807 then (if (a0 ++ (strOfNums t300)).size + a0.size ≤ 9223372036854775807 then (if t294.toList = ((a0 ++ (strOfNums t300)) ++ a0).toList then (if t295 = (wrap64 ((wrap64 (2 + (wrap64 (2 * (a0.size : Int))))) + ((rdOf ByteArray.empty x10_29 x75_4).size : Int))) then (targumlaw17_DquoteBack.l1 k4 a0 t280 (wrap64 (Int.tmod a1 1114112)) x10_29 (x10_29.length : Int) (wrap64 (x75_4 + 1))) else (some false)) else (some false)) else (none)) else (none)) = some true := H
                                            have A48 := Aside0.mk A480
                                            clear A480
                                            by_cases c49 : a0.size + (strOfNums t300).size ≤ 9223372036854775807
                                            · rw [if_pos c49] at H
                                              have c49b0 := eq_true c49
                                              have c49b1 : decide (a0.size + (strOfNums t300).size ≤ 9223372036854775807) = true := decide_eq_true c49
                                              try have c49b2 : (9223372036854775807 < a0.size + (strOfNums t300).size) = False := eq_false (Nat.not_lt.2 c49)
                                              by_cases c50 : (a0 ++ (strOfNums t300)).size + a0.size ≤ 9223372036854775807
                                              · rw [if_pos c50] at H
                                                have c50b0 := eq_true c50
                                                have c50b1 : decide ((a0 ++ (strOfNums t300)).size + a0.size ≤ 9223372036854775807) = true := decide_eq_true c50
                                                try (have c50b7 : a0.size + (strOfNums t300).size + a0.size ≤ 9223372036854775807 := by have h_ := c50; (repeat rw [ByteArray.size_append] at h_); first | exact h_ | (simp at h_; omega)
                                                     have c50b8 : decide (a0.size + (strOfNums t300).size + a0.size ≤ 9223372036854775807) = true := decide_eq_true c50b7
                                                     have c50b9 : (9223372036854775807 < a0.size + (strOfNums t300).size + a0.size) = False := eq_false (Nat.not_lt.2 c50b7))
                                                try have c50b2 : (9223372036854775807 < (a0 ++ (strOfNums t300)).size + a0.size) = False := eq_false (Nat.not_lt.2 c50)
                                                by_cases c51 : t294.toList = ((a0 ++ (strOfNums t300)) ++ a0).toList
                                                · rw [if_pos c51] at H
                                                  have c51b0 : (t294.toList == ((a0 ++ (strOfNums t300)) ++ a0).toList) = true := beq_iff_eq.mpr c51
                                                  have c51b1 : (t294.toList != ((a0 ++ (strOfNums t300)) ++ a0).toList) = false := bne_eq_false_iff_eq.mpr c51
                                                  clear c51
                                                  by_cases c52 : t295 = (wrap64 ((wrap64 (2 + (wrap64 (2 * (a0.size : Int))))) + ((rdOf ByteArray.empty x10_29 x75_4).size : Int)))
                                                  · rw [if_pos c52] at H
                                                    have c52b0 : (t295 == (wrap64 ((wrap64 (2 + (wrap64 (2 * (a0.size : Int))))) + ((rdOf ByteArray.empty x10_29 x75_4).size : Int)))) = true := beq_iff_eq.mpr c52
                                                    try (have c52z := c52b0; simp (disch := omega) only [wrap_id] at c52z; have c52w := decide_eq_true (beq_iff_eq.mp c52z))
                                                    have c52b1 : (t295 != (wrap64 ((wrap64 (2 + (wrap64 (2 * (a0.size : Int))))) + ((rdOf ByteArray.empty x10_29 x75_4).size : Int)))) = false := bne_eq_false_iff_eq.mpr c52
                                                    clear c52
                                                    have H' := Aside0.mk H
                                                    clear H
                                                    have p293 : 0 ≤ (x75_4 : Int) := of_decide_eq_true (by first | (with_reducible assumption) | assumption)
                                                    have q293 : x75_4 < (x10_29.length : Int) := of_decide_eq_true (by first | (with_reducible assumption) | assumption)
                                                    obtain ⟨ad293, e293, hx293_0⟩ := Kd.at_string (Kd.R_reads' HO_73.out).2.2 x75_4 p293 q293
                                                    cases e293
                                                    replace p293 := eq_true p293
                                                    replace q293 := eq_true q293
                                                    go_wp2_with (first | ((with_reducible refine gate_callee (f := 14) rfl ?_); refine goesL_ (some 88) rfl rfl Try.func14 (by kernel_rfl) rfl #[.int .i64 t280, .string (((((⟨#[34]⟩ : ByteArray) ++ a0) ++ (rdOf ByteArray.empty x10_29 x75_4)) ++ a0) ++ (⟨#[34, 32, 58]⟩ : ByteArray)), .int .i64 0] rfl (by (try simp only [List.map_toArray, List.map_cons, List.map_nil]); first | done | rfl | (simp only [List.length_drop, List.length_take]; rfl)) ?_; (with_reducible refine (dquote_Read.calls t280 (((((⟨#[34]⟩ : ByteArray) ++ a0) ++ (rdOf ByteArray.empty x10_29 x75_4)) ++ a0) ++ (⟨#[34, 32, 58]⟩ : ByteArray)) 0 t294 t295 t296 t297 _ A44.out).mono ?_); rintro e w53 ⟨rfl, hb⟩; refine ⟨_, rfl, ?_⟩; have n0_ := Aside0.mk (Kd.R_below (by (with_reducible repeat (first | apply Kd.R_alloc | apply Kd.R_drewN | apply Kd.R_drew)); exact HO_73.out) hb); have n1_ := Aside0.mk (below_step (by repeat (first | (with_reducible first | exact HB.out | apply below_alloc | apply pw_below_drewN | apply below_drew1) | exact HB.out)) hb); clear HO_73; clear HB; have HO_73 := n0_; have HB := n1_; clear n0_ n1_; (try clear hb); (try clear hb2); (try clear hk); (try clear hi)) | ((with_reducible refine gate_dst (N := 15) rfl ?_); (try (refine gate_guard (by rfl) ?_; dsimp only)); refine box_event ?hg (N := 15) ?hd (cs := #[.int .i64 0, .int .i64 0]) (t := 32) ?hr ?_; (case hd => rfl); (case hg => rfl); (case hr => first | (go_simp; done) | (go_simp; rfl)); intro gb298 hg w54 hbox hb; have n0_ := Aside0.mk (Kd.R_below (by (with_reducible repeat (first | apply Kd.R_alloc | apply Kd.R_drewN | apply Kd.R_drew)); exact HO_73.out) hb); have n1_ := Aside0.mk (below_step (by repeat (first | (with_reducible first | exact HB.out | apply below_alloc | apply pw_below_drewN | apply below_drew1) | exact HB.out)) hb); have n2_ := Aside0.mk (hbox); have n3_ := Aside0.mk ((by rw [hg]; exact (below_size (by repeat (first | (with_reducible first | exact HB.out | apply below_alloc | apply pw_below_drewN | apply below_drew1) | exact HB.out))) : w.heap.size ≤ gb298)); have n4_ := Aside0.mk ((by rw [hg]; exact (below_size (by repeat (first | (with_reducible first | exact HB.out | apply below_alloc | apply pw_below_drewN | apply below_drew1) | exact HB.out))) : w.heap.size ≤ gb298)); clear HO_73; clear HB; have HO_73 := n0_; have HB := n1_; have BK298 := n2_; have GW298 := n3_; have GE298 := n4_; clear n0_ n1_ n2_ n3_ n4_; clear hb hbox hg; have hcz55_0 : w54.cell? ⟨gb298, 0, none⟩ = some (.int .i64 0) := (blk_cell BK298.out 0).trans rfl; have hcz55_1 : w54.cell? ⟨gb298, 1, none⟩ = some (.int .i64 0) := (blk_cell BK298.out 1).trans rfl; have hfz55_0 := blk_frozen BK298.out 0; have hfz55_1 := blk_frozen BK298.out 1) | ((with_reducible refine gate_callee (f := 19) rfl ?_); refine goesL_ (some 93) rfl rfl Try.func19 (by kernel_rfl) rfl #[.int .i64 (wrap64 (Int.tmod a1 1114112))] rfl (by (try simp only [List.map_toArray, List.map_cons, List.map_nil]); first | done | rfl | (simp only [List.length_drop, List.length_take]; rfl)) ?_; (with_reducible refine (targumref1_IsScalar.calls (wrap64 (Int.tmod a1 1114112)) true _ A45.out).mono ?_); rintro e w' ⟨rfl, ⟨nd, rfl⟩⟩; refine ⟨_, rfl, ?_⟩) | (go_at_call 20; (with_reducible refine (targumref1_Utf8.calls (wrap64 (Int.tmod a1 1114112)) t300 _ A48.out).mono ?_); rintro e w56 ⟨v301, rfl, ho0, hb⟩; have n0_ := Aside0.mk (Kd.R_below (by (with_reducible repeat (first | apply Kd.R_alloc | apply Kd.R_drewN | apply Kd.R_drew)); exact (Kd.R_mono (Kd.R_far (p := ⟨gb298, 1, none⟩) (Kd.R_far (p := ⟨gb298, 0, none⟩) (Kd.R_types HO_73.out BK298.out (by decide)) (fun _ hk => hk.2) (.int .i64 t296)) (fun _ hk => hk.2) (.int .i64 t297)) (fun _ h_ => h_.1))) hb); have n1_ := Aside0.mk (Kd.R_lower ho0 (below_size (by repeat (first | (with_reducible first | exact HB.out | apply below_alloc | apply pw_below_drewN | apply below_drew1 | refine below_set ?_ GE298.out) | exact HB.out)))); have n2_ := Aside0.mk (blk_below (g := gb298) (o := .cells #[.int .i64 t296, .int .i64 t297] 32 (0, 0)) (by (with_reducible repeat (first | refine blk_drewN ?_ _ | refine blk_drew ?_ | refine blk_alloc ?_ _)); refine blk_put (cs := #[.int .i64 t296, .int .i64 0]) ?_ 1 _ rfl; (with_reducible repeat (first | refine blk_drewN ?_ _ | refine blk_drew ?_ | refine blk_alloc ?_ _)); refine blk_put (cs := #[.int .i64 0, .int .i64 0]) ?_ 0 _ rfl; (with_reducible repeat (first | refine blk_drewN ?_ _ | refine blk_drew ?_ | refine blk_alloc ?_ _)); exact BK298.out) hb); have n3_ := Aside0.mk (below_step (by repeat (first | (with_reducible first | exact HB.out | apply below_alloc | apply pw_below_drewN | apply below_drew1 | refine below_set ?_ GE298.out) | exact HB.out)) hb); clear HO_73; clear BK298; clear HB; have HO_73 := n0_; have HO302 := n1_; have BK298 := n2_; have HB := n3_; clear n0_ n1_ n2_ n3_; (try clear hb); (try clear hb2); (try clear hk); (try clear hi); (try clear ho0); have hcv57 := own_string (P := Try.prog) Try.underlying22 Try.underlying5 Try.underlying9 (Kd.own_of_R HO302.out)))
                                                    go_roundg k4
                                                    case measure => have := HK1.out; have := HJ21.out; have := HJ29.out; have := HK4.out; omega
                                                    case rel => exact ⟨(wrap64 (x75_4 + 1)), (by first | rfl | (simp; done) | (simp [*]; done)), H', ⟨by have := HK1.out; have := HJ21.out; have := HJ29.out; have := HK4.out; omega⟩, ⟨by (with_reducible repeat (first | apply Kd.R_alloc | apply Kd.R_drewN | apply Kd.R_drew)); exact HO_73.out⟩, ⟨by repeat (first | (with_reducible first | exact HB.out | apply below_alloc | apply pw_below_drewN | apply below_drew1 | refine below_set ?_ GE298.out) | exact HB.out)⟩⟩
                                                  · rw [if_neg c52] at H
                                                    have c52b0 : (t295 == (wrap64 ((wrap64 (2 + (wrap64 (2 * (a0.size : Int))))) + ((rdOf ByteArray.empty x10_29 x75_4).size : Int)))) = false := beq_eq_false_iff_ne.mpr c52
                                                    have c52b1 : (t295 != (wrap64 ((wrap64 (2 + (wrap64 (2 * (a0.size : Int))))) + ((rdOf ByteArray.empty x10_29 x75_4).size : Int)))) = true := bne_iff_ne.mpr c52
                                                    have hrt := Option.some.inj H
                                                    first | (exact absurd hrt (by decide)) | (
                                                      try (have hp_ := hrt; simp only [Bool.and_eq_true] at hp_; simp (disch := omega) only [wrap_id] at hp_; have hp1_ := hp_.1; have hp2_ := hp_.2; have hp3_ := decide_eq_true (beq_iff_eq.mp hp1_); have hp4_ := decide_eq_true (beq_iff_eq.mp hp2_); clear hp_)
                                                      have p293 : 0 ≤ (x75_4 : Int) := of_decide_eq_true (by first | (with_reducible assumption) | assumption)
                                                      have q293 : x75_4 < (x10_29.length : Int) := of_decide_eq_true (by first | (with_reducible assumption) | assumption)
                                                      obtain ⟨ad293, e293, hx293_0⟩ := Kd.at_string (Kd.R_reads' HO_73.out).2.2 x75_4 p293 q293
                                                      cases e293
                                                      replace p293 := eq_true p293
                                                      replace q293 := eq_true q293
                                                      go_wp2_with (first | ((with_reducible refine gate_callee (f := 14) rfl ?_); refine goesL_ (some 88) rfl rfl Try.func14 (by kernel_rfl) rfl #[.int .i64 t280, .string (((((⟨#[34]⟩ : ByteArray) ++ a0) ++ (rdOf ByteArray.empty x10_29 x75_4)) ++ a0) ++ (⟨#[34, 32, 58]⟩ : ByteArray)), .int .i64 0] rfl (by (try simp only [List.map_toArray, List.map_cons, List.map_nil]); first | done | rfl | (simp only [List.length_drop, List.length_take]; rfl)) ?_; (with_reducible refine (dquote_Read.calls t280 (((((⟨#[34]⟩ : ByteArray) ++ a0) ++ (rdOf ByteArray.empty x10_29 x75_4)) ++ a0) ++ (⟨#[34, 32, 58]⟩ : ByteArray)) 0 t294 t295 t296 t297 _ A44.out).mono ?_); rintro e w58 ⟨rfl, hb⟩; refine ⟨_, rfl, ?_⟩; have n0_ := Aside0.mk (Kd.R_below (by (with_reducible repeat (first | apply Kd.R_alloc | apply Kd.R_drewN | apply Kd.R_drew)); exact HO_73.out) hb); have n1_ := Aside0.mk (below_step (by repeat (first | (with_reducible first | exact HB.out | apply below_alloc | apply pw_below_drewN | apply below_drew1) | exact HB.out)) hb); clear HO_73; clear HB; have HO_73 := n0_; have HB := n1_; clear n0_ n1_; (try clear hb); (try clear hb2); (try clear hk); (try clear hi)) | ((with_reducible refine gate_dst (N := 15) rfl ?_); (try (refine gate_guard (by rfl) ?_; dsimp only)); refine box_event ?hg (N := 15) ?hd (cs := #[.int .i64 0, .int .i64 0]) (t := 32) ?hr ?_; (case hd => rfl); (case hg => rfl); (case hr => first | (go_simp; done) | (go_simp; rfl)); intro gb298 hg w59 hbox hb; have n0_ := Aside0.mk (Kd.R_below (by (with_reducible repeat (first | apply Kd.R_alloc | apply Kd.R_drewN | apply Kd.R_drew)); exact HO_73.out) hb); have n1_ := Aside0.mk (below_step (by repeat (first | (with_reducible first | exact HB.out | apply below_alloc | apply pw_below_drewN | apply below_drew1) | exact HB.out)) hb); have n2_ := Aside0.mk (hbox); have n3_ := Aside0.mk ((by rw [hg]; exact (below_size (by repeat (first | (with_reducible first | exact HB.out | apply below_alloc | apply pw_below_drewN | apply below_drew1) | exact HB.out))) : w.heap.size ≤ gb298)); have n4_ := Aside0.mk ((by rw [hg]; exact (below_size (by repeat (first | (with_reducible first | exact HB.out | apply below_alloc | apply pw_below_drewN | apply below_drew1) | exact HB.out))) : w.heap.size ≤ gb298)); clear HO_73; clear HB; have HO_73 := n0_; have HB := n1_; have BK298 := n2_; have GW298 := n3_; have GE298 := n4_; clear n0_ n1_ n2_ n3_ n4_; clear hb hbox hg; have hcz60_0 : w59.cell? ⟨gb298, 0, none⟩ = some (.int .i64 0) := (blk_cell BK298.out 0).trans rfl; have hcz60_1 : w59.cell? ⟨gb298, 1, none⟩ = some (.int .i64 0) := (blk_cell BK298.out 1).trans rfl; have hfz60_0 := blk_frozen BK298.out 0; have hfz60_1 := blk_frozen BK298.out 1) | ((with_reducible refine gate_callee (f := 19) rfl ?_); refine goesL_ (some 93) rfl rfl Try.func19 (by kernel_rfl) rfl #[.int .i64 (wrap64 (Int.tmod a1 1114112))] rfl (by (try simp only [List.map_toArray, List.map_cons, List.map_nil]); first | done | rfl | (simp only [List.length_drop, List.length_take]; rfl)) ?_; (with_reducible refine (targumref1_IsScalar.calls (wrap64 (Int.tmod a1 1114112)) true _ A45.out).mono ?_); rintro e w' ⟨rfl, ⟨nd, rfl⟩⟩; refine ⟨_, rfl, ?_⟩) | (go_at_call 20; (with_reducible refine (targumref1_Utf8.calls (wrap64 (Int.tmod a1 1114112)) t300 _ A48.out).mono ?_); rintro e w61 ⟨v301, rfl, ho0, hb⟩; have n0_ := Aside0.mk (Kd.R_below (by (with_reducible repeat (first | apply Kd.R_alloc | apply Kd.R_drewN | apply Kd.R_drew)); exact (Kd.R_mono (Kd.R_far (p := ⟨gb298, 1, none⟩) (Kd.R_far (p := ⟨gb298, 0, none⟩) (Kd.R_types HO_73.out BK298.out (by decide)) (fun _ hk => hk.2) (.int .i64 t296)) (fun _ hk => hk.2) (.int .i64 t297)) (fun _ h_ => h_.1))) hb); have n1_ := Aside0.mk (Kd.R_lower ho0 (below_size (by repeat (first | (with_reducible first | exact HB.out | apply below_alloc | apply pw_below_drewN | apply below_drew1 | refine below_set ?_ GE298.out) | exact HB.out)))); have n2_ := Aside0.mk (blk_below (g := gb298) (o := .cells #[.int .i64 t296, .int .i64 t297] 32 (0, 0)) (by (with_reducible repeat (first | refine blk_drewN ?_ _ | refine blk_drew ?_ | refine blk_alloc ?_ _)); refine blk_put (cs := #[.int .i64 t296, .int .i64 0]) ?_ 1 _ rfl; (with_reducible repeat (first | refine blk_drewN ?_ _ | refine blk_drew ?_ | refine blk_alloc ?_ _)); refine blk_put (cs := #[.int .i64 0, .int .i64 0]) ?_ 0 _ rfl; (with_reducible repeat (first | refine blk_drewN ?_ _ | refine blk_drew ?_ | refine blk_alloc ?_ _)); exact BK298.out) hb); have n3_ := Aside0.mk (below_step (by repeat (first | (with_reducible first | exact HB.out | apply below_alloc | apply pw_below_drewN | apply below_drew1 | refine below_set ?_ GE298.out) | exact HB.out)) hb); clear HO_73; clear BK298; clear HB; have HO_73 := n0_; have HO302 := n1_; have BK298 := n2_; have HB := n3_; clear n0_ n1_ n2_ n3_; (try clear hb); (try clear hb2); (try clear hk); (try clear hi); (try clear ho0); have hcv62 := own_string (P := Try.prog) Try.underlying22 Try.underlying5 Try.underlying9 (Kd.own_of_R HO302.out)))
                                                      go_ret
                                                      exact ⟨by first | rfl | (have h1_ := hrt; simp (disch := omega) only [wrap_id] at h1_; exact congrArg (fun b => Ending.returned (Value.bool b)) h1_) | (exact congrArg (fun b => Ending.returned (Value.bool b)) hrt) | (simp [errW_none, errW_some] <;> rfl) | (simp [*, errW_none, errW_some] <;> rfl), by repeat (first | (with_reducible first | exact HB.out | apply below_alloc | apply pw_below_drewN | apply below_drew1 | refine below_set ?_ GE298.out) | exact HB.out)⟩)
                                                · rw [if_neg c51] at H
                                                  have c51b0 : (t294.toList == ((a0 ++ (strOfNums t300)) ++ a0).toList) = false := beq_eq_false_iff_ne.mpr c51
                                                  have c51b1 : (t294.toList != ((a0 ++ (strOfNums t300)) ++ a0).toList) = true := bne_iff_ne.mpr c51
                                                  have hrt := Option.some.inj H
                                                  first | (exact absurd hrt (by decide)) | (
                                                    try (have hp_ := hrt; simp only [Bool.and_eq_true] at hp_; simp (disch := omega) only [wrap_id] at hp_; have hp1_ := hp_.1; have hp2_ := hp_.2; have hp3_ := decide_eq_true (beq_iff_eq.mp hp1_); have hp4_ := decide_eq_true (beq_iff_eq.mp hp2_); clear hp_)
                                                    have p293 : 0 ≤ (x75_4 : Int) := of_decide_eq_true (by first | (with_reducible assumption) | assumption)
                                                    have q293 : x75_4 < (x10_29.length : Int) := of_decide_eq_true (by first | (with_reducible assumption) | assumption)
                                                    obtain ⟨ad293, e293, hx293_0⟩ := Kd.at_string (Kd.R_reads' HO_73.out).2.2 x75_4 p293 q293
                                                    cases e293
                                                    replace p293 := eq_true p293
                                                    replace q293 := eq_true q293
                                                    go_wp2_with (first | ((with_reducible refine gate_callee (f := 14) rfl ?_); refine goesL_ (some 88) rfl rfl Try.func14 (by kernel_rfl) rfl #[.int .i64 t280, .string (((((⟨#[34]⟩ : ByteArray) ++ a0) ++ (rdOf ByteArray.empty x10_29 x75_4)) ++ a0) ++ (⟨#[34, 32, 58]⟩ : ByteArray)), .int .i64 0] rfl (by (try simp only [List.map_toArray, List.map_cons, List.map_nil]); first | done | rfl | (simp only [List.length_drop, List.length_take]; rfl)) ?_; (with_reducible refine (dquote_Read.calls t280 (((((⟨#[34]⟩ : ByteArray) ++ a0) ++ (rdOf ByteArray.empty x10_29 x75_4)) ++ a0) ++ (⟨#[34, 32, 58]⟩ : ByteArray)) 0 t294 t295 t296 t297 _ A44.out).mono ?_); rintro e w63 ⟨rfl, hb⟩; refine ⟨_, rfl, ?_⟩; have n0_ := Aside0.mk (Kd.R_below (by (with_reducible repeat (first | apply Kd.R_alloc | apply Kd.R_drewN | apply Kd.R_drew)); exact HO_73.out) hb); have n1_ := Aside0.mk (below_step (by repeat (first | (with_reducible first | exact HB.out | apply below_alloc | apply pw_below_drewN | apply below_drew1) | exact HB.out)) hb); clear HO_73; clear HB; have HO_73 := n0_; have HB := n1_; clear n0_ n1_; (try clear hb); (try clear hb2); (try clear hk); (try clear hi)) | ((with_reducible refine gate_dst (N := 15) rfl ?_); (try (refine gate_guard (by rfl) ?_; dsimp only)); refine box_event ?hg (N := 15) ?hd (cs := #[.int .i64 0, .int .i64 0]) (t := 32) ?hr ?_; (case hd => rfl); (case hg => rfl); (case hr => first | (go_simp; done) | (go_simp; rfl)); intro gb298 hg w64 hbox hb; have n0_ := Aside0.mk (Kd.R_below (by (with_reducible repeat (first | apply Kd.R_alloc | apply Kd.R_drewN | apply Kd.R_drew)); exact HO_73.out) hb); have n1_ := Aside0.mk (below_step (by repeat (first | (with_reducible first | exact HB.out | apply below_alloc | apply pw_below_drewN | apply below_drew1) | exact HB.out)) hb); have n2_ := Aside0.mk (hbox); have n3_ := Aside0.mk ((by rw [hg]; exact (below_size (by repeat (first | (with_reducible first | exact HB.out | apply below_alloc | apply pw_below_drewN | apply below_drew1) | exact HB.out))) : w.heap.size ≤ gb298)); have n4_ := Aside0.mk ((by rw [hg]; exact (below_size (by repeat (first | (with_reducible first | exact HB.out | apply below_alloc | apply pw_below_drewN | apply below_drew1) | exact HB.out))) : w.heap.size ≤ gb298)); clear HO_73; clear HB; have HO_73 := n0_; have HB := n1_; have BK298 := n2_; have GW298 := n3_; have GE298 := n4_; clear n0_ n1_ n2_ n3_ n4_; clear hb hbox hg; have hcz65_0 : w64.cell? ⟨gb298, 0, none⟩ = some (.int .i64 0) := (blk_cell BK298.out 0).trans rfl; have hcz65_1 : w64.cell? ⟨gb298, 1, none⟩ = some (.int .i64 0) := (blk_cell BK298.out 1).trans rfl; have hfz65_0 := blk_frozen BK298.out 0; have hfz65_1 := blk_frozen BK298.out 1) | ((with_reducible refine gate_callee (f := 19) rfl ?_); refine goesL_ (some 93) rfl rfl Try.func19 (by kernel_rfl) rfl #[.int .i64 (wrap64 (Int.tmod a1 1114112))] rfl (by (try simp only [List.map_toArray, List.map_cons, List.map_nil]); first | done | rfl | (simp only [List.length_drop, List.length_take]; rfl)) ?_; (with_reducible refine (targumref1_IsScalar.calls (wrap64 (Int.tmod a1 1114112)) true _ A45.out).mono ?_); rintro e w' ⟨rfl, ⟨nd, rfl⟩⟩; refine ⟨_, rfl, ?_⟩) | (go_at_call 20; (with_reducible refine (targumref1_Utf8.calls (wrap64 (Int.tmod a1 1114112)) t300 _ A48.out).mono ?_); rintro e w66 ⟨v301, rfl, ho0, hb⟩; have n0_ := Aside0.mk (Kd.R_below (by (with_reducible repeat (first | apply Kd.R_alloc | apply Kd.R_drewN | apply Kd.R_drew)); exact (Kd.R_mono (Kd.R_far (p := ⟨gb298, 1, none⟩) (Kd.R_far (p := ⟨gb298, 0, none⟩) (Kd.R_types HO_73.out BK298.out (by decide)) (fun _ hk => hk.2) (.int .i64 t296)) (fun _ hk => hk.2) (.int .i64 t297)) (fun _ h_ => h_.1))) hb); have n1_ := Aside0.mk (Kd.R_lower ho0 (below_size (by repeat (first | (with_reducible first | exact HB.out | apply below_alloc | apply pw_below_drewN | apply below_drew1 | refine below_set ?_ GE298.out) | exact HB.out)))); have n2_ := Aside0.mk (blk_below (g := gb298) (o := .cells #[.int .i64 t296, .int .i64 t297] 32 (0, 0)) (by (with_reducible repeat (first | refine blk_drewN ?_ _ | refine blk_drew ?_ | refine blk_alloc ?_ _)); refine blk_put (cs := #[.int .i64 t296, .int .i64 0]) ?_ 1 _ rfl; (with_reducible repeat (first | refine blk_drewN ?_ _ | refine blk_drew ?_ | refine blk_alloc ?_ _)); refine blk_put (cs := #[.int .i64 0, .int .i64 0]) ?_ 0 _ rfl; (with_reducible repeat (first | refine blk_drewN ?_ _ | refine blk_drew ?_ | refine blk_alloc ?_ _)); exact BK298.out) hb); have n3_ := Aside0.mk (below_step (by repeat (first | (with_reducible first | exact HB.out | apply below_alloc | apply pw_below_drewN | apply below_drew1 | refine below_set ?_ GE298.out) | exact HB.out)) hb); clear HO_73; clear BK298; clear HB; have HO_73 := n0_; have HO302 := n1_; have BK298 := n2_; have HB := n3_; clear n0_ n1_ n2_ n3_; (try clear hb); (try clear hb2); (try clear hk); (try clear hi); (try clear ho0); have hcv67 := own_string (P := Try.prog) Try.underlying22 Try.underlying5 Try.underlying9 (Kd.own_of_R HO302.out)))
                                                    go_ret
                                                    exact ⟨by first | rfl | (have h1_ := hrt; simp (disch := omega) only [wrap_id] at h1_; exact congrArg (fun b => Ending.returned (Value.bool b)) h1_) | (exact congrArg (fun b => Ending.returned (Value.bool b)) hrt) | (simp [errW_none, errW_some] <;> rfl) | (simp [*, errW_none, errW_some] <;> rfl), by repeat (first | (with_reducible first | exact HB.out | apply below_alloc | apply pw_below_drewN | apply below_drew1 | refine below_set ?_ GE298.out) | exact HB.out)⟩)
                                              · rw [if_neg c50] at H
                                                exact absurd H (by simp)
                                            · rw [if_neg c49] at H
                                              exact absurd H (by simp)
                                          · rw [if_neg c47] at H
                                            have c47b0 : (t296 == 0) = false := beq_eq_false_iff_ne.mpr c47
                                            have c47b1 : (t296 != 0) = true := bne_iff_ne.mpr c47
                                            have hrt := Option.some.inj H
                                            first | (exact absurd hrt (by decide)) | (
                                              try (have hp_ := hrt; simp only [Bool.and_eq_true] at hp_; simp (disch := omega) only [wrap_id] at hp_; have hp1_ := hp_.1; have hp2_ := hp_.2; have hp3_ := decide_eq_true (beq_iff_eq.mp hp1_); have hp4_ := decide_eq_true (beq_iff_eq.mp hp2_); clear hp_)
                                              have p293 : 0 ≤ (x75_4 : Int) := of_decide_eq_true (by first | (with_reducible assumption) | assumption)
                                              have q293 : x75_4 < (x10_29.length : Int) := of_decide_eq_true (by first | (with_reducible assumption) | assumption)
                                              obtain ⟨ad293, e293, hx293_0⟩ := Kd.at_string (Kd.R_reads' HO_73.out).2.2 x75_4 p293 q293
                                              cases e293
                                              replace p293 := eq_true p293
                                              replace q293 := eq_true q293
                                              go_wp2_with (first | ((with_reducible refine gate_callee (f := 14) rfl ?_); refine goesL_ (some 88) rfl rfl Try.func14 (by kernel_rfl) rfl #[.int .i64 t280, .string (((((⟨#[34]⟩ : ByteArray) ++ a0) ++ (rdOf ByteArray.empty x10_29 x75_4)) ++ a0) ++ (⟨#[34, 32, 58]⟩ : ByteArray)), .int .i64 0] rfl (by (try simp only [List.map_toArray, List.map_cons, List.map_nil]); first | done | rfl | (simp only [List.length_drop, List.length_take]; rfl)) ?_; (with_reducible refine (dquote_Read.calls t280 (((((⟨#[34]⟩ : ByteArray) ++ a0) ++ (rdOf ByteArray.empty x10_29 x75_4)) ++ a0) ++ (⟨#[34, 32, 58]⟩ : ByteArray)) 0 t294 t295 t296 t297 _ A44.out).mono ?_); rintro e w68 ⟨rfl, hb⟩; refine ⟨_, rfl, ?_⟩; have n0_ := Aside0.mk (Kd.R_below (by (with_reducible repeat (first | apply Kd.R_alloc | apply Kd.R_drewN | apply Kd.R_drew)); exact HO_73.out) hb); have n1_ := Aside0.mk (below_step (by repeat (first | (with_reducible first | exact HB.out | apply below_alloc | apply pw_below_drewN | apply below_drew1) | exact HB.out)) hb); clear HO_73; clear HB; have HO_73 := n0_; have HB := n1_; clear n0_ n1_; (try clear hb); (try clear hb2); (try clear hk); (try clear hi)) | ((with_reducible refine gate_dst (N := 15) rfl ?_); (try (refine gate_guard (by rfl) ?_; dsimp only)); refine box_event ?hg (N := 15) ?hd (cs := #[.int .i64 0, .int .i64 0]) (t := 32) ?hr ?_; (case hd => rfl); (case hg => rfl); (case hr => first | (go_simp; done) | (go_simp; rfl)); intro gb298 hg w69 hbox hb; have n0_ := Aside0.mk (Kd.R_below (by (with_reducible repeat (first | apply Kd.R_alloc | apply Kd.R_drewN | apply Kd.R_drew)); exact HO_73.out) hb); have n1_ := Aside0.mk (below_step (by repeat (first | (with_reducible first | exact HB.out | apply below_alloc | apply pw_below_drewN | apply below_drew1) | exact HB.out)) hb); have n2_ := Aside0.mk (hbox); have n3_ := Aside0.mk ((by rw [hg]; exact (below_size (by repeat (first | (with_reducible first | exact HB.out | apply below_alloc | apply pw_below_drewN | apply below_drew1) | exact HB.out))) : w.heap.size ≤ gb298)); have n4_ := Aside0.mk ((by rw [hg]; exact (below_size (by repeat (first | (with_reducible first | exact HB.out | apply below_alloc | apply pw_below_drewN | apply below_drew1) | exact HB.out))) : w.heap.size ≤ gb298)); clear HO_73; clear HB; have HO_73 := n0_; have HB := n1_; have BK298 := n2_; have GW298 := n3_; have GE298 := n4_; clear n0_ n1_ n2_ n3_ n4_; clear hb hbox hg; have hcz70_0 : w69.cell? ⟨gb298, 0, none⟩ = some (.int .i64 0) := (blk_cell BK298.out 0).trans rfl; have hcz70_1 : w69.cell? ⟨gb298, 1, none⟩ = some (.int .i64 0) := (blk_cell BK298.out 1).trans rfl; have hfz70_0 := blk_frozen BK298.out 0; have hfz70_1 := blk_frozen BK298.out 1) | ((with_reducible refine gate_callee (f := 19) rfl ?_); refine goesL_ (some 93) rfl rfl Try.func19 (by kernel_rfl) rfl #[.int .i64 (wrap64 (Int.tmod a1 1114112))] rfl (by (try simp only [List.map_toArray, List.map_cons, List.map_nil]); first | done | rfl | (simp only [List.length_drop, List.length_take]; rfl)) ?_; (with_reducible refine (targumref1_IsScalar.calls (wrap64 (Int.tmod a1 1114112)) true _ A45.out).mono ?_); rintro e w' ⟨rfl, ⟨nd, rfl⟩⟩; refine ⟨_, rfl, ?_⟩))
                                              go_ret
                                              exact ⟨by first | rfl | (have h1_ := hrt; simp (disch := omega) only [wrap_id] at h1_; exact congrArg (fun b => Ending.returned (Value.bool b)) h1_) | (exact congrArg (fun b => Ending.returned (Value.bool b)) hrt) | (simp [errW_none, errW_some] <;> rfl) | (simp [*, errW_none, errW_some] <;> rfl), by repeat (first | (with_reducible first | exact HB.out | apply below_alloc | apply pw_below_drewN | apply below_drew1 | refine below_set ?_ GE298.out) | exact HB.out)⟩)
                                        · replace c46 := Bool.eq_false_iff.mpr c46
                                          subst c46
                                          have H1 : (if (!(t296 == 14) || (!(t297 == (wrap64 (1 + (a0.size : Int)))))) = true then (targumlaw17_DquoteBack.j4 k4 a0 t280 (wrap64 (Int.tmod a1 1114112)) x10_29 (x10_29.length : Int) x75_4 true) else (if t294.toList = ([] : List UInt8) then (targumlaw17_DquoteBack.j4 k4 a0 t280 (wrap64 (Int.tmod a1 1114112)) x10_29 (x10_29.length : Int) x75_4 (t295 != 0)) else (targumlaw17_DquoteBack.j4 k4 a0 t280 (wrap64 (Int.tmod a1 1114112)) x10_29 (x10_29.length : Int) x75_4 true))) = some true := by rw [if_neg (show ¬ (false = true) by decide)] at H <;> exact H
                                          clear H
                                          have H := H1
                                          clear H1
                                          have HC71 := Aside0.mk H
                                          clear H
                                          have p293 : 0 ≤ (x75_4 : Int) := of_decide_eq_true (by first | (with_reducible assumption) | assumption)
                                          have q293 : x75_4 < (x10_29.length : Int) := of_decide_eq_true (by first | (with_reducible assumption) | assumption)
                                          obtain ⟨ad293, e293, hx293_0⟩ := Kd.at_string (Kd.R_reads' HO_73.out).2.2 x75_4 p293 q293
                                          cases e293
                                          replace p293 := eq_true p293
                                          replace q293 := eq_true q293
                                          go_upto_region 22 with (first | ((with_reducible refine gate_callee (f := 14) rfl ?_); refine goesL_ (some 88) rfl rfl Try.func14 (by kernel_rfl) rfl #[.int .i64 t280, .string (((((⟨#[34]⟩ : ByteArray) ++ a0) ++ (rdOf ByteArray.empty x10_29 x75_4)) ++ a0) ++ (⟨#[34, 32, 58]⟩ : ByteArray)), .int .i64 0] rfl (by (try simp only [List.map_toArray, List.map_cons, List.map_nil]); first | done | rfl | (simp only [List.length_drop, List.length_take]; rfl)) ?_; (with_reducible refine (dquote_Read.calls t280 (((((⟨#[34]⟩ : ByteArray) ++ a0) ++ (rdOf ByteArray.empty x10_29 x75_4)) ++ a0) ++ (⟨#[34, 32, 58]⟩ : ByteArray)) 0 t294 t295 t296 t297 _ A44.out).mono ?_); rintro e w72 ⟨rfl, hb⟩; refine ⟨_, rfl, ?_⟩; have n0_ := Aside0.mk (Kd.R_below (by (with_reducible repeat (first | apply Kd.R_alloc | apply Kd.R_drewN | apply Kd.R_drew)); exact HO_73.out) hb); have n1_ := Aside0.mk (below_step (by repeat (first | (with_reducible first | exact HB.out | apply below_alloc | apply pw_below_drewN | apply below_drew1) | exact HB.out)) hb); clear HO_73; clear HB; have HO_73 := n0_; have HB := n1_; clear n0_ n1_; (try clear hb); (try clear hb2); (try clear hk); (try clear hi)) | ((with_reducible refine gate_dst (N := 15) rfl ?_); (try (refine gate_guard (by rfl) ?_; dsimp only)); refine box_event ?hg (N := 15) ?hd (cs := #[.int .i64 0, .int .i64 0]) (t := 32) ?hr ?_; (case hd => rfl); (case hg => rfl); (case hr => first | (go_simp; done) | (go_simp; rfl)); intro gb298 hg w73 hbox hb; have n0_ := Aside0.mk (Kd.R_below (by (with_reducible repeat (first | apply Kd.R_alloc | apply Kd.R_drewN | apply Kd.R_drew)); exact HO_73.out) hb); have n1_ := Aside0.mk (below_step (by repeat (first | (with_reducible first | exact HB.out | apply below_alloc | apply pw_below_drewN | apply below_drew1) | exact HB.out)) hb); have n2_ := Aside0.mk (hbox); have n3_ := Aside0.mk ((by rw [hg]; exact (below_size (by repeat (first | (with_reducible first | exact HB.out | apply below_alloc | apply pw_below_drewN | apply below_drew1) | exact HB.out))) : w.heap.size ≤ gb298)); have n4_ := Aside0.mk ((by rw [hg]; exact (below_size (by repeat (first | (with_reducible first | exact HB.out | apply below_alloc | apply pw_below_drewN | apply below_drew1) | exact HB.out))) : w.heap.size ≤ gb298)); clear HO_73; clear HB; have HO_73 := n0_; have HB := n1_; have BK298 := n2_; have GW298 := n3_; have GE298 := n4_; clear n0_ n1_ n2_ n3_ n4_; clear hb hbox hg; have hcz74_0 : w73.cell? ⟨gb298, 0, none⟩ = some (.int .i64 0) := (blk_cell BK298.out 0).trans rfl; have hcz74_1 : w73.cell? ⟨gb298, 1, none⟩ = some (.int .i64 0) := (blk_cell BK298.out 1).trans rfl; have hfz74_0 := blk_frozen BK298.out 0; have hfz74_1 := blk_frozen BK298.out 1) | ((with_reducible refine gate_callee (f := 19) rfl ?_); refine goesL_ (some 93) rfl rfl Try.func19 (by kernel_rfl) rfl #[.int .i64 (wrap64 (Int.tmod a1 1114112))] rfl (by (try simp only [List.map_toArray, List.map_cons, List.map_nil]); first | done | rfl | (simp only [List.length_drop, List.length_take]; rfl)) ?_; (with_reducible refine (targumref1_IsScalar.calls (wrap64 (Int.tmod a1 1114112)) false _ A45.out).mono ?_); rintro e w' ⟨rfl, ⟨nd, rfl⟩⟩; refine ⟨_, rfl, ?_⟩))
                                          (try simp only [Act.put, List.setIfInBounds_toArray, List.set_cons_zero, List.set_cons_succ])
                                          go_cut [108] (fun v108 wc => ∃ (kq : Nat) (x108_70 : Bool), v108 = .bool x108_70 ∧ Aside0 (targumlaw17_DquoteBack.j4 kq a0 t280 (wrap64 (Int.tmod a1 1114112)) x10_29 (x10_29.length : Int) x75_4 x108_70 = some true) ∧ Aside0 (kq ≤ k4) ∧ Aside0 (Kd.R Kd.string 9 wc w.heap.size (fun _ => True) (.slice (some ad293) x10_29.length co36) x10_29) ∧ Aside0 (wc.heap[gb298]? = some (.cells #[.int .i64 t296, .int .i64 t297] 32 (0, 0))) ∧ Aside0 (Below w.heap.size w wc))
                                          case first =>
                                            have H := HC71.out
                                            clear HC71
                                            by_cases c75 : (!(t296 == 14) || (!(t297 == (wrap64 (1 + (a0.size : Int)))))) = true
                                            · rw [if_pos c75] at H
                                              exact absurd H (back_j4 _ _ _ _ _ _ _)
                                            · rw [if_neg c75] at H
                                              have c75b0 : (!(t296 == 14) || (!(t297 == (wrap64 (1 + (a0.size : Int)))))) = false := by simpa using c75
                                              have c75p := c75b0
                                              simp only [Bool.or_eq_false_iff, Bool.not_eq_false'] at c75p
                                              have c75x0 : (t296 == 14) = true := c75p.1
                                              have c75y0 : decide (t296 = 14) = true := decide_eq_true (beq_iff_eq.mp c75x0)
                                              have c75x1 : (t297 == (wrap64 (1 + (a0.size : Int)))) = true := c75p.2
                                              have c75y1 : decide (t297 = (wrap64 (1 + (a0.size : Int)))) = true := decide_eq_true (beq_iff_eq.mp c75x1)
                                              try (have c75z1 := c75x1; simp (disch := omega) only [wrap_id] at c75z1; have c75w1 := decide_eq_true (beq_iff_eq.mp c75z1))
                                              clear c75p
                                              clear c75
                                              (first | rw [c75b0] | (simp only [i64_w, i32_w]; rw [c75b0]) | skip)
                                              by_cases c77 : t294.toList = ([] : List UInt8)
                                              · rw [if_pos c77] at H
                                                have c77b0 : (t294.toList == ([] : List UInt8)) = true := beq_iff_eq.mpr c77
                                                have c77b1 : (t294.toList != ([] : List UInt8)) = false := bne_eq_false_iff_eq.mpr c77
                                                clear c77
                                                have H' := Aside0.mk H
                                                clear H
                                                have hcz78_0 : w73.cell? ⟨gb298, 0, none⟩ = some (.int .i64 0) := (blk_cell BK298.out 0).trans rfl
                                                have hcz78_1 : w73.cell? ⟨gb298, 1, none⟩ = some (.int .i64 0) := (blk_cell BK298.out 1).trans rfl
                                                have hfz78_0 := blk_frozen BK298.out 0
                                                have hfz78_1 := blk_frozen BK298.out 1
                                                go_wp2
                                                go_meet
                                                case rel => exact ⟨_, ((t295 != 0)), (by first | rfl | (simp; done) | (simp [*]; done)), H', ⟨by have := HK1.out; have := HJ21.out; have := HJ29.out; have := HK4.out; first | omega | exact Nat.le_refl _⟩, ⟨by (with_reducible repeat (first | apply Kd.R_alloc | apply Kd.R_drewN | apply Kd.R_drew)); exact Kd.R_mono (Kd.R_far (p := ⟨gb298, 1, none⟩) (Kd.R_far (p := ⟨gb298, 0, none⟩) (Kd.R_types HO_73.out BK298.out (by decide)) (fun _ hk => hk.2) (.int .i64 t296)) (fun _ hk => hk.2) (.int .i64 t297)) (fun _ hk => trivial)⟩, ⟨by (with_reducible repeat (first | refine blk_drewN ?_ _ | refine blk_drew ?_ | refine blk_alloc ?_ _)); refine blk_put (cs := #[.int .i64 t296, .int .i64 0]) ?_ 1 _ rfl; (with_reducible repeat (first | refine blk_drewN ?_ _ | refine blk_drew ?_ | refine blk_alloc ?_ _)); refine blk_put (cs := #[.int .i64 0, .int .i64 0]) ?_ 0 _ rfl; (with_reducible repeat (first | refine blk_drewN ?_ _ | refine blk_drew ?_ | refine blk_alloc ?_ _)); exact BK298.out⟩, ⟨by repeat (first | (with_reducible first | exact HB.out | apply below_alloc | apply pw_below_drewN | apply below_drew1 | refine below_set ?_ GE298.out) | exact HB.out)⟩⟩
                                              · rw [if_neg c77] at H
                                                have c77b0 : (t294.toList == ([] : List UInt8)) = false := beq_eq_false_iff_ne.mpr c77
                                                have c77b1 : (t294.toList != ([] : List UInt8)) = true := bne_iff_ne.mpr c77
                                                have H' := Aside0.mk H
                                                clear H
                                                have hcz79_0 : w73.cell? ⟨gb298, 0, none⟩ = some (.int .i64 0) := (blk_cell BK298.out 0).trans rfl
                                                have hcz79_1 : w73.cell? ⟨gb298, 1, none⟩ = some (.int .i64 0) := (blk_cell BK298.out 1).trans rfl
                                                have hfz79_0 := blk_frozen BK298.out 0
                                                have hfz79_1 := blk_frozen BK298.out 1
                                                go_wp2
                                                go_meet
                                                case rel => exact ⟨_, (true), (by first | rfl | (simp; done) | (simp [*]; done)), H', ⟨by have := HK1.out; have := HJ21.out; have := HJ29.out; have := HK4.out; first | omega | exact Nat.le_refl _⟩, ⟨by (with_reducible repeat (first | apply Kd.R_alloc | apply Kd.R_drewN | apply Kd.R_drew)); exact Kd.R_mono (Kd.R_far (p := ⟨gb298, 1, none⟩) (Kd.R_far (p := ⟨gb298, 0, none⟩) (Kd.R_types HO_73.out BK298.out (by decide)) (fun _ hk => hk.2) (.int .i64 t296)) (fun _ hk => hk.2) (.int .i64 t297)) (fun _ hk => trivial)⟩, ⟨by (with_reducible repeat (first | refine blk_drewN ?_ _ | refine blk_drew ?_ | refine blk_alloc ?_ _)); refine blk_put (cs := #[.int .i64 t296, .int .i64 0]) ?_ 1 _ rfl; (with_reducible repeat (first | refine blk_drewN ?_ _ | refine blk_drew ?_ | refine blk_alloc ?_ _)); refine blk_put (cs := #[.int .i64 0, .int .i64 0]) ?_ 0 _ rfl; (with_reducible repeat (first | refine blk_drewN ?_ _ | refine blk_drew ?_ | refine blk_alloc ?_ _)); exact BK298.out⟩, ⟨by repeat (first | (with_reducible first | exact HB.out | apply below_alloc | apply pw_below_drewN | apply below_drew1 | refine below_set ?_ GE298.out) | exact HB.out)⟩⟩
                                          case rest =>
                                            clear HC71
                                            (try clear c1); (try clear p1); (try clear q1); (try clear hx1); (try clear c2); (try clear p2); (try clear q2); (try clear hx2); (try clear c3); (try clear c4); (try clear c5); (try clear hcv5); (try clear p6); (try clear hcv6); (try clear c7); (try clear c8); (try clear c9); (try clear c9b0); (try clear c10); (try clear c10b0); (try clear p11); (try clear q11); (try clear hx11); (try clear c12); (try clear c12b0); (try clear c12b1); (try clear p13); (try clear q13); (try clear hx13); (try clear c14); (try clear c14b0); (try clear c14b1); (try clear c16); (try clear c18); (try clear c18b0); (try clear c19); (try clear c21); (try clear c21b0); (try clear c21b1); (try clear c21b2); (try clear c25); (try clear c25b0); (try clear c25b1); (try clear c27); (try clear c27b0); (try clear c27b1); (try clear c27b2); (try clear c28); (try clear p29); (try clear q29); (try clear hx29); (try clear c31); (try clear c31b0); (try clear c31b1); (try clear c33); (try clear c33b0); (try clear c33b1); (try clear c33b2); (try clear c34); (try clear c37); (try clear c37b0); (try clear c38); (try clear c38b0); (try clear c39); (try clear c39b0); (try clear c40); (try clear c40b0); (try clear c40b1); (try clear c40b2); (try clear c41); (try clear c41b0); (try clear c41b1); (try clear c41b2); (try clear c42); (try clear c42b0); (try clear c42b1); (try clear c42b2); (try clear c43); (try clear c43b0); (try clear c43b1); (try clear c43b2); (try clear c46); (try clear c47); (try clear c47b0); (try clear c47b1); (try clear c49); (try clear c49b0); (try clear c49b1); (try clear c49b2); (try clear c50); (try clear c50b0); (try clear c50b1); (try clear c50b2); (try clear c51); (try clear c51b0); (try clear c51b1); (try clear c52); (try clear c52b0); (try clear c52b1); (try clear hcv57); (try clear hcv62); (try clear p64); (try clear hcv67); (try clear c75); (try clear c75b0); (try clear c75b1); (try clear c77); (try clear c77b0); (try clear c77b1); (try clear hcz55_0); (try clear hcz55_1); (try clear hcz60_0); (try clear hcz60_1); (try clear hcz65_0); (try clear hcz65_1); (try clear hcz70_0); (try clear hcz70_1); (try clear hcz74_0); (try clear hcz74_1); (try clear hcz76_0); (try clear hcz76_1); (try clear hcz78_0); (try clear hcz78_1); (try clear hcz79_0); (try clear hcz79_1); (try clear hfz55_0); (try clear hfz55_1); (try clear hfz60_0); (try clear hfz60_1); (try clear hfz65_0); (try clear hfz65_1); (try clear hfz70_0); (try clear hfz70_1); (try clear hfz74_0); (try clear hfz74_1); (try clear hfz76_0); (try clear hfz76_1); (try clear hfz78_0); (try clear hfz78_1); (try clear hfz79_0); (try clear hfz79_1); (try clear hx293_0); (try clear p293); (try clear q293)
                                            obtain ⟨kq, x108_70, rfl, HA, HJ70, HO_73, BK298, HB⟩ := hcut
                                            cases kq with
                                            | zero => exact absurd HA.out (by simp [targumlaw17_DquoteBack.j4])
                                            | succ kj70 =>
                                              have H := HA.out
                                              clear HA
                                              simp only [targumlaw17_DquoteBack.j4] at H
                                              by_cases c80 : x108_70 = true
                                              · subst c80
                                                have H1 : (some false) = some true := by rw [if_pos rfl] at H <;> exact H
                                                clear H
                                                have H := H1
                                                clear H1
                                                have hrt := Option.some.inj H
                                                first | (exact absurd hrt (by decide)) | (
                                                  try (have hp_ := hrt; simp only [Bool.and_eq_true] at hp_; simp (disch := omega) only [wrap_id] at hp_; have hp1_ := hp_.1; have hp2_ := hp_.2; have hp3_ := decide_eq_true (beq_iff_eq.mp hp1_); have hp4_ := decide_eq_true (beq_iff_eq.mp hp2_); clear hp_)
                                                  go_wp2
                                                  go_ret
                                                  exact ⟨by first | rfl | (have h1_ := hrt; simp (disch := omega) only [wrap_id] at h1_; exact congrArg (fun b => Ending.returned (Value.bool b)) h1_) | (exact congrArg (fun b => Ending.returned (Value.bool b)) hrt) | (simp [errW_none, errW_some] <;> rfl) | (simp [*, errW_none, errW_some] <;> rfl), by repeat (first | (with_reducible first | exact HB.out | apply below_alloc | apply pw_below_drewN | apply below_drew1 | refine below_set ?_ GE298.out) | exact HB.out)⟩)
                                              · replace c80 := Bool.eq_false_iff.mpr c80
                                                subst c80
                                                have H1 : (targumlaw17_DquoteBack.l1 kj70 a0 t280 (wrap64 (Int.tmod a1 1114112)) x10_29 (x10_29.length : Int) (wrap64 (x75_4 + 1))) = some true := by rw [if_neg (show ¬ (false = true) by decide)] at H <;> exact H
                                                clear H
                                                have H := H1
                                                clear H1
                                                have H' := Aside0.mk H
                                                clear H
                                                go_wp2
                                                go_roundg kj70
                                                case measure => have := HK1.out; have := HJ21.out; have := HJ29.out; have := HK4.out; have := HJ70.out; omega
                                                case rel => exact ⟨(wrap64 (x75_4 + 1)), (by first | rfl | (simp; done) | (simp [*]; done)), H', ⟨by have := HK1.out; have := HJ21.out; have := HJ29.out; have := HK4.out; have := HJ70.out; omega⟩, ⟨by (with_reducible repeat (first | apply Kd.R_alloc | apply Kd.R_drewN | apply Kd.R_drew)); exact HO_73.out⟩, ⟨by repeat (first | (with_reducible first | exact HB.out | apply below_alloc | apply pw_below_drewN | apply below_drew1 | refine below_set ?_ GE298.out) | exact HB.out)⟩⟩
                                      · rw [if_neg c43] at H
                                        exact absurd H (by simp)
                                    · rw [if_neg c42] at H
                                      exact absurd H (by simp)
                                  · rw [if_neg c41] at H
                                    exact absurd H (by simp)
                                · rw [if_neg c40] at H
                                  exact absurd H (by simp)
                              · rw [if_neg c39] at H
                                exact absurd H (by simp)
                            · rw [if_neg c38] at H
                              exact absurd H (by simp)
                          · rw [if_neg c37] at H
                            have c37b0 : decide (x75_4 < (x10_29.length : Int)) = false := decide_eq_false c37
                            clear c37
                            have hrt := Option.some.inj H
                            first | (exact absurd hrt (by decide)) | (
                              try (have hp_ := hrt; simp only [Bool.and_eq_true] at hp_; simp (disch := omega) only [wrap_id] at hp_; have hp1_ := hp_.1; have hp2_ := hp_.2; have hp3_ := decide_eq_true (beq_iff_eq.mp hp1_); have hp4_ := decide_eq_true (beq_iff_eq.mp hp2_); clear hp_)
                              go_wp2
                              go_ret
                              exact ⟨by first | rfl | (have h1_ := hrt; simp (disch := omega) only [wrap_id] at h1_; exact congrArg (fun b => Ending.returned (Value.bool b)) h1_) | (exact congrArg (fun b => Ending.returned (Value.bool b)) hrt) | (simp [errW_none, errW_some] <;> rfl) | (simp [*, errW_none, errW_some] <;> rfl), by repeat (first | (with_reducible first | exact HB.out | apply below_alloc | apply pw_below_drewN | apply below_drew1) | exact HB.out)⟩)
            · rw [if_neg c21] at H
              exact absurd H (by simp)
    · replace c7 := Bool.eq_false_iff.mpr c7
      subst c7
      have H1 : (some true) = some true := by rw [if_neg (show ¬ (false = true) by decide)] at H <;> exact H
      clear H
      have H := H1
      clear H1
      have hrt := Option.some.inj H
      first | (exact absurd hrt (by decide)) | (
        try (have hp_ := hrt; simp only [Bool.and_eq_true] at hp_; simp (disch := omega) only [wrap_id] at hp_; have hp1_ := hp_.1; have hp2_ := hp_.2; have hp3_ := decide_eq_true (beq_iff_eq.mp hp1_); have hp4_ := decide_eq_true (beq_iff_eq.mp hp2_); clear hp_)
        go_enter Try.func4, Try.ntmps4
        go_wp2_with (first | ((with_reducible refine gate_callee (f := 8) rfl ?_); refine goesL_ (some 16) rfl rfl Try.func8 (by kernel_rfl) rfl #[] rfl (by (try simp only [List.map_toArray, List.map_cons, List.map_nil]); first | done | rfl | (simp only [List.length_drop, List.length_take]; rfl)) ?_; (with_reducible refine (targumlaw17_known.calls  true _ A4.out).mono ?_); rintro e w81 ⟨rfl, hb⟩; refine ⟨_, rfl, ?_⟩; have n0_ := Aside0.mk (below_step (by repeat (first | (with_reducible first | exact HB.out | apply below_alloc | apply pw_below_drewN | apply below_drew1) | exact HB.out)) hb); clear HB; have HB := n0_; clear n0_; (try clear hb); (try clear hb2); (try clear hk); (try clear hi)) | ((with_reducible refine gate_callee (f := 9) rfl ?_); refine goesL_ (some 19) rfl rfl Try.func9 (by kernel_rfl) rfl #[.string a0, .int .i64 200] rfl (by (try simp only [List.map_toArray, List.map_cons, List.map_nil]); first | done | rfl | (simp only [List.length_drop, List.length_take]; rfl)) ?_; (with_reducible refine (targumhelp_Few.calls k a0 200 false _ A6.out).mono ?_); rintro e w' ⟨rfl, ⟨nd, rfl⟩⟩; refine ⟨_, rfl, ?_⟩))
        go_ret
        exact ⟨by first | rfl | (have h1_ := hrt; simp (disch := omega) only [wrap_id] at h1_; exact congrArg (fun b => Ending.returned (Value.bool b)) h1_) | (exact congrArg (fun b => Ending.returned (Value.bool b)) hrt) | (simp [errW_none, errW_some] <;> rfl) | (simp [*, errW_none, errW_some] <;> rfl), by repeat (first | (with_reducible first | exact HB.out | apply below_alloc | apply pw_below_drewN | apply below_drew1) | exact HB.out)⟩)
  · replace c5 := Bool.eq_false_iff.mpr c5
    subst c5
    have H1 : (some false) = some true := by rw [if_neg (show ¬ (false = true) by decide)] at H <;> exact H
    clear H
    have H := H1
    clear H1
    have hrt := Option.some.inj H
    first | (exact absurd hrt (by decide)) | (
      try (have hp_ := hrt; simp only [Bool.and_eq_true] at hp_; simp (disch := omega) only [wrap_id] at hp_; have hp1_ := hp_.1; have hp2_ := hp_.2; have hp3_ := decide_eq_true (beq_iff_eq.mp hp1_); have hp4_ := decide_eq_true (beq_iff_eq.mp hp2_); clear hp_)
      go_enter Try.func4, Try.ntmps4
      go_wp2_with (first | ((with_reducible refine gate_callee (f := 8) rfl ?_); refine goesL_ (some 16) rfl rfl Try.func8 (by kernel_rfl) rfl #[] rfl (by (try simp only [List.map_toArray, List.map_cons, List.map_nil]); first | done | rfl | (simp only [List.length_drop, List.length_take]; rfl)) ?_; (with_reducible refine (targumlaw17_known.calls  false _ A4.out).mono ?_); rintro e w82 ⟨rfl, hb⟩; refine ⟨_, rfl, ?_⟩; have n0_ := Aside0.mk (below_step (by repeat (first | (with_reducible first | exact HB.out | apply below_alloc | apply pw_below_drewN | apply below_drew1) | exact HB.out)) hb); clear HB; have HB := n0_; clear n0_; (try clear hb); (try clear hb2); (try clear hk); (try clear hi)))
      go_ret
      exact ⟨by first | rfl | (have h1_ := hrt; simp (disch := omega) only [wrap_id] at h1_; exact congrArg (fun b => Ending.returned (Value.bool b)) h1_) | (exact congrArg (fun b => Ending.returned (Value.bool b)) hrt) | (simp [errW_none, errW_some] <;> rfl) | (simp [*, errW_none, errW_some] <;> rfl), by repeat (first | (with_reducible first | exact HB.out | apply below_alloc | apply pw_below_drewN | apply below_drew1) | exact HB.out)⟩)
end Go.Proofs.Ytgbnbjajaaggkaa.Q
