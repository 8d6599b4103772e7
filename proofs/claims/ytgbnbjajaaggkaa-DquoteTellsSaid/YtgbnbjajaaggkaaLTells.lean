/- Printed by hookprint.py (a program of this project, over the kit's printer): targumlaw17_DquoteTells. Not trusted: Lean checks it. No condition. -/
import Derived.Test.YtgbnbjajaaggkaaQx0
import Derived.Test.YtgbnbjajaaggkaaQx5
import Derived.Test.YtgbnbjajaaggkaaQx9
import Derived.Test.YtgbnbjajaaggkaaDqK
namespace Go.Proofs.Ytgbnbjajaaggkaa.Q
open Go.RowKit Go.Proofs.YtgbnbjajaaggkaaW.PrintWords Go.Proofs.YtgbnbjajaaggkaaW.PrintLast Go.Proofs.YtgbnbjajaaggkaaW.PrintMore
attribute [local go_sem] max2_int min2_int max_two min_two max_three min_three max_four min_four   -- for this text's walks alone
set_option linter.unusedVariables false
set_option linter.unusedSimpArgs false

/-! ### targumlaw17_DquoteTells: function 3 -/
mutual
def targumlaw17_DquoteTells.j0 : Nat → ByteArray → List Int → Int → Bool → Bool → Option (Bool)
  | 0, _, _, _, _, _ => none
  | k + 1, x0, x1, x2, x3, x30 => if x30 = true then (some true) else ((targumhelp_Version.f x3).bind fun t254 => ((targumlaw17_text.f x1).bind fun t255 => (if 1 + x0.size ≤ 9223372036854775807 then (if 1 + t255.size ≤ 9223372036854775807 then (if ((⟨#[34]⟩ : ByteArray) ++ t255).size + 1 ≤ 9223372036854775807 then (if (((⟨#[34]⟩ : ByteArray) ++ t255) ++ (⟨#[34]⟩ : ByteArray)).size + x0.size ≤ 9223372036854775807 then ((some (([x0, (⟨#[34]⟩ : ByteArray) ++ x0, (⟨#[34]⟩ : ByteArray) ++ t255, (((⟨#[34]⟩ : ByteArray) ++ t255) ++ (⟨#[34]⟩ : ByteArray)) ++ x0] : List ByteArray) : List ByteArray)).bind fun y256 => (targumlaw17_DquoteTells.l0 k x2 t254 y256 (y256.length : Int) 0)) else (none)) else (none)) else (none)) else (none))))
def targumlaw17_DquoteTells.l0 : Nat → Int → Int → List ByteArray → Int → Int → Option (Bool)
  | 0, _, _, _, _, _ => none
  | k + 1, x2, x9, x45, x46, x47 => if x47 < x46 then (if 0 ≤ x47 then (if x47 < (x45.length : Int) then ((targumhelp_Within.f x2 (-1) (wrap64 (((rdOf ByteArray.empty x45 x47).size : Int) + 1))).bind fun t260 => ((some (([0, t260] : List Int) : List Int)).bind fun y261 => (targumlaw17_DquoteTells.l1 k x2 x9 (rdOf ByteArray.empty x45 x47) x45 x46 x47 y261 (y261.length : Int) 0))) else (none)) else (none)) else (some true)
def targumlaw17_DquoteTells.l1 : Nat → Int → Int → ByteArray → List ByteArray → Int → Int → List Int → Int → Int → Option (Bool)
  | 0, _, _, _, _, _, _, _, _, _ => none
  | k + 1, x2, x9, x12, x45, x46, x47, x56, x57, x58 => if x58 < x57 then (if 0 ≤ x58 then (if x58 < (x56.length : Int) then ((targumhelp_Cut.f x12 (rd x56 x58)).bind fun t265 => (if t265 = true then (targumlaw17_DquoteTells.l1 k x2 x9 x12 x45 x46 x47 x56 x57 (wrap64 (x58 + 1))) else ((dquote_Read.f x9 x12 (rd x56 x58)).bind fun bt266 => ((targumref17_Double.f k x9 x12 (rd x56 x58)).bind fun bt271 => (if bt266.1.toList = bt271.1.toList then (if bt266.2.1 = bt271.2.1 then (if (!(bt266.2.2.1 == bt271.2.2.1) || (!(bt266.2.2.2 == bt271.2.2.2))) = true then (some false) else (targumlaw17_DquoteTells.l1 k x2 x9 x12 x45 x46 x47 x56 x57 (wrap64 (x58 + 1)))) else (some false)) else (some false)))))) else (none)) else (none)) else (targumlaw17_DquoteTells.l0 k x2 x9 x45 x46 (wrap64 (x47 + 1)))
end
def targumlaw17_DquoteTells.f (k : Nat) (a0 : ByteArray) (l1 : List Int) (a2 : Int) (a3 : Bool) : Option (Bool) := (targumlaw17_known.f).bind fun t252 => (if t252 = true then ((targumhelp_Few.f k a0 200).bind fun t253 => (if t253 = true then (targumlaw17_DquoteTells.j0 k a0 l1 a2 a3 (decide ((l1.length : Int) > 60))) else (targumlaw17_DquoteTells.j0 k a0 l1 a2 a3 true))) else (some false))
theorem targumlaw17_DquoteTells.mono_l : ∀ k, (∀ y0 y1 y2 y3 y4, LeO (targumlaw17_DquoteTells.j0 k y0 y1 y2 y3 y4) (targumlaw17_DquoteTells.j0 (k + 1) y0 y1 y2 y3 y4)) ∧ (∀ y0 y1 y2 y3 y4, LeO (targumlaw17_DquoteTells.l0 k y0 y1 y2 y3 y4) (targumlaw17_DquoteTells.l0 (k + 1) y0 y1 y2 y3 y4)) ∧ (∀ y0 y1 y2 y3 y4 y5 y6 y7 y8, LeO (targumlaw17_DquoteTells.l1 k y0 y1 y2 y3 y4 y5 y6 y7 y8) (targumlaw17_DquoteTells.l1 (k + 1) y0 y1 y2 y3 y4 y5 y6 y7 y8))
  | 0 => ⟨fun _ _ _ _ _ r h => by simp [targumlaw17_DquoteTells.j0] at h, fun _ _ _ _ _ r h => by simp [targumlaw17_DquoteTells.l0] at h, fun _ _ _ _ _ _ _ _ _ r h => by simp [targumlaw17_DquoteTells.l1] at h⟩
  | k + 1 => by
    obtain ⟨ih0, ih1, ih2⟩ := targumlaw17_DquoteTells.mono_l k
    refine ⟨?_, ?_, ?_⟩
    · intro y0 y1 y2 y3 y4
      unfold targumlaw17_DquoteTells.j0
      repeat' first
      | (with_reducible exact ih0 _ _ _ _ _)
      | (with_reducible exact ih1 _ _ _ _ _)
      | (with_reducible exact ih2 _ _ _ _ _ _ _ _ _)
      | (with_reducible exact targumhelp_Few.mono _ _ _)
      | (with_reducible exact targumref17_Double.mono _ _ _ _)
      | (with_reducible exact LeO.refl _)
      | (with_reducible exact LeO.none _)
      | (with_reducible refine LeO.ite ?_ ?_)
      | (with_reducible refine LeO.bind ?_ (fun _ => ?_))
      | exact ih0 _ _ _ _ _
      | exact ih1 _ _ _ _ _
      | exact ih2 _ _ _ _ _ _ _ _ _
      | exact targumhelp_Few.mono _ _ _
      | exact targumref17_Double.mono _ _ _ _
      | exact LeO.none _
      | refine LeO.ite ?_ ?_
      | refine LeO.bind ?_ (fun _ => ?_)
    · intro y0 y1 y2 y3 y4
      unfold targumlaw17_DquoteTells.l0
      repeat' first
      | (with_reducible exact ih0 _ _ _ _ _)
      | (with_reducible exact ih1 _ _ _ _ _)
      | (with_reducible exact ih2 _ _ _ _ _ _ _ _ _)
      | (with_reducible exact targumhelp_Few.mono _ _ _)
      | (with_reducible exact targumref17_Double.mono _ _ _ _)
      | (with_reducible exact LeO.refl _)
      | (with_reducible exact LeO.none _)
      | (with_reducible refine LeO.ite ?_ ?_)
      | (with_reducible refine LeO.bind ?_ (fun _ => ?_))
      | exact ih0 _ _ _ _ _
      | exact ih1 _ _ _ _ _
      | exact ih2 _ _ _ _ _ _ _ _ _
      | exact targumhelp_Few.mono _ _ _
      | exact targumref17_Double.mono _ _ _ _
      | exact LeO.none _
      | refine LeO.ite ?_ ?_
      | refine LeO.bind ?_ (fun _ => ?_)
    · intro y0 y1 y2 y3 y4 y5 y6 y7 y8
      unfold targumlaw17_DquoteTells.l1
      repeat' first
      | (with_reducible exact ih0 _ _ _ _ _)
      | (with_reducible exact ih1 _ _ _ _ _)
      | (with_reducible exact ih2 _ _ _ _ _ _ _ _ _)
      | (with_reducible exact targumhelp_Few.mono _ _ _)
      | (with_reducible exact targumref17_Double.mono _ _ _ _)
      | (with_reducible exact LeO.refl _)
      | (with_reducible exact LeO.none _)
      | (with_reducible refine LeO.ite ?_ ?_)
      | (with_reducible refine LeO.bind ?_ (fun _ => ?_))
      | exact ih0 _ _ _ _ _
      | exact ih1 _ _ _ _ _
      | exact ih2 _ _ _ _ _ _ _ _ _
      | exact targumhelp_Few.mono _ _ _
      | exact targumref17_Double.mono _ _ _ _
      | exact LeO.none _
      | refine LeO.ite ?_ ?_
      | refine LeO.bind ?_ (fun _ => ?_)
theorem targumlaw17_DquoteTells.mono : ∀ a0 a1 a2 a3 k, LeO (targumlaw17_DquoteTells.f k a0 a1 a2 a3) (targumlaw17_DquoteTells.f (k + 1) a0 a1 a2 a3) := by
  intro a0 a1 a2 a3 k
  obtain ⟨ih0, ih1, ih2⟩ := targumlaw17_DquoteTells.mono_l k
  unfold targumlaw17_DquoteTells.f
  repeat' first
      | (with_reducible exact ih0 _ _ _ _ _)
      | (with_reducible exact ih1 _ _ _ _ _)
      | (with_reducible exact ih2 _ _ _ _ _ _ _ _ _)
      | (with_reducible exact targumhelp_Few.mono _ _ _)
      | (with_reducible exact targumref17_Double.mono _ _ _ _)
      | (with_reducible exact LeO.refl _)
      | (with_reducible exact LeO.none _)
      | (with_reducible refine LeO.ite ?_ ?_)
      | (with_reducible refine LeO.bind ?_ (fun _ => ?_))
      | exact ih0 _ _ _ _ _
      | exact ih1 _ _ _ _ _
      | exact ih2 _ _ _ _ _ _ _ _ _
      | exact targumhelp_Few.mono _ _ _
      | exact targumref17_Double.mono _ _ _ _
      | exact LeO.none _
      | refine LeO.ite ?_ ?_
      | refine LeO.bind ?_ (fun _ => ?_)
set_option maxHeartbeats 8000000 in
set_option maxRecDepth 100000 in
theorem targumlaw17_DquoteTells.calls (k : Nat) (a0 : ByteArray) (A1 : Option Addr) (c1 : Nat) (l1 : List Int) (a2 : Int) (a3 : Bool) (r : Bool) (w : World) (hr1 : Kd.C (Kd.int .u8) w A1 l1.length l1) (hc1 : l1.length ≤ c1) (h : targumlaw17_DquoteTells.f k a0 l1 a2 a3 = some r) (hrt : r = true := by rfl) :
    Calls Try.prog 3 #[.string a0, .slice A1 l1.length c1, .int .i64 a2, .bool a3] w fun e w' => e = .returned (.bool r) ∧ Below w.heap.size w w' := by
  subst hrt
  have hu32 := Try.underlying32
  have HR1 := Aside0.mk hr1
  have HC1 := Aside0.mk hc1
  clear hr1 hc1
  have HB := Aside0.mk (Below.refl w.heap.size w)
  have H : ((targumlaw17_known.f).bind fun t252 => (if t252 = true then ((targumhelp_Few.f k a0 200).bind fun t253 => (if t253 = true then (targumlaw17_DquoteTells.j0 k a0 l1 a2 a3 (decide ((l1.length : Int) > 60))) else (targumlaw17_DquoteTells.j0 k a0 l1 a2 a3 true))) else (some false))) = some true := h
  clear h
  replace H := Option.bind_eq_some_iff.mp H
  obtain ⟨t252, A50, H⟩ := H
  replace H : (if t252 = true then ((targumhelp_Few.f k a0 200).bind fun t253 => (if t253 = true then (targumlaw17_DquoteTells.j0 k a0 l1 a2 a3 (decide ((l1.length : Int) > 60))) else (targumlaw17_DquoteTells.j0 k a0 l1 a2 a3 true))) else (some false)) = some true := H
  have A5 := Aside0.mk A50
  clear A50
  by_cases c6 : t252 = true
  · subst c6
    have H1 : ((targumhelp_Few.f k a0 200).bind fun t253 => (if t253 = true then (targumlaw17_DquoteTells.j0 k a0 l1 a2 a3 (decide ((l1.length : Int) > 60))) else (targumlaw17_DquoteTells.j0 k a0 l1 a2 a3 true))) = some true := by rw [if_pos rfl] at H <;> exact H
    clear H
    have H := H1
    clear H1
    have HC7 := Aside0.mk H
    clear H
    go_enter Try.func3, Try.ntmps3
    go_upto_region 3 with (first | ((with_reducible refine gate_callee (f := 8) rfl ?_); refine goesL_ (some 21) rfl rfl Try.func8 (by kernel_rfl) rfl #[] rfl (by (try simp only [List.map_toArray, List.map_cons, List.map_nil]); first | done | rfl | (simp only [List.length_drop, List.length_take]; rfl)) ?_; (with_reducible refine (targumlaw17_known.calls  true _ A5.out).mono ?_); rintro e w8 ⟨rfl, hb⟩; refine ⟨_, rfl, ?_⟩; have n0_ := Aside0.mk (below_step (by repeat (first | (with_reducible first | exact HB.out | apply below_alloc | apply pw_below_drewN | apply below_drew1) | exact HB.out)) hb); clear HB; have HB := n0_; clear n0_; (try clear hb); (try clear hb2); (try clear hk); (try clear hi)))
    (try simp only [Act.put, List.setIfInBounds_toArray, List.set_cons_zero, List.set_cons_succ])
    go_cut [30] (fun v30 wc => ∃ (kq : Nat) (x30_6 : Bool), v30 = .bool x30_6 ∧ Aside0 (targumlaw17_DquoteTells.j0 kq a0 l1 a2 a3 x30_6 = some true) ∧ Aside0 (kq ≤ k) ∧ Aside0 (Below w.heap.size w wc))
    case first =>
      have H := HC7.out
      clear HC7
      replace H := Option.bind_eq_some_iff.mp H
      obtain ⟨t253, A90, H⟩ := H
      replace H : (if t253 = true then (targumlaw17_DquoteTells.j0 k a0 l1 a2 a3 (decide ((l1.length : Int) > 60))) else (targumlaw17_DquoteTells.j0 k a0 l1 a2 a3 true)) = some true := H
      have A9 := Aside0.mk A90
      clear A90
      by_cases c10 : t253 = true
      · subst c10
        have H1 : (targumlaw17_DquoteTells.j0 k a0 l1 a2 a3 (decide ((l1.length : Int) > 60))) = some true := by rw [if_pos rfl] at H <;> exact H
        clear H
        have H := H1
        clear H1
        have H' := Aside0.mk H
        clear H
        go_wp2_with (first | ((with_reducible refine gate_callee (f := 9) rfl ?_); refine goesL_ (some 24) rfl rfl Try.func9 (by kernel_rfl) rfl #[.string a0, .int .i64 200] rfl (by (try simp only [List.map_toArray, List.map_cons, List.map_nil]); first | done | rfl | (simp only [List.length_drop, List.length_take]; rfl)) ?_; (with_reducible refine (targumhelp_Few.calls k a0 200 true _ A9.out).mono ?_); rintro e w' ⟨rfl, ⟨nd, rfl⟩⟩; refine ⟨_, rfl, ?_⟩))
        go_meet
        case rel => exact ⟨_, (decide ((l1.length : Int) > 60)), (by first | rfl | (simp; done) | (simp [*]; done)), H', ⟨by first | omega | exact Nat.le_refl _⟩, ⟨by repeat (first | (with_reducible first | exact HB.out | apply below_alloc | apply pw_below_drewN | apply below_drew1) | exact HB.out)⟩⟩
      · replace c10 := Bool.eq_false_iff.mpr c10
        subst c10
        have H1 : (targumlaw17_DquoteTells.j0 k a0 l1 a2 a3 true) = some true := by rw [if_neg (show ¬ (false = true) by decide)] at H <;> exact H
        clear H
        have H := H1
        clear H1
        have H' := Aside0.mk H
        clear H
        go_wp2_with (first | ((with_reducible refine gate_callee (f := 9) rfl ?_); refine goesL_ (some 24) rfl rfl Try.func9 (by kernel_rfl) rfl #[.string a0, .int .i64 200] rfl (by (try simp only [List.map_toArray, List.map_cons, List.map_nil]); first | done | rfl | (simp only [List.length_drop, List.length_take]; rfl)) ?_; (with_reducible refine (targumhelp_Few.calls k a0 200 false _ A9.out).mono ?_); rintro e w' ⟨rfl, ⟨nd, rfl⟩⟩; refine ⟨_, rfl, ?_⟩))
        go_meet
        case rel => exact ⟨_, (true), (by first | rfl | (simp; done) | (simp [*]; done)), H', ⟨by first | omega | exact Nat.le_refl _⟩, ⟨by repeat (first | (with_reducible first | exact HB.out | apply below_alloc | apply pw_below_drewN | apply below_drew1) | exact HB.out)⟩⟩
    case rest =>
      clear HC7
      (try clear c1); (try clear p2); (try clear c3); (try clear c6); (try clear c8); (try clear c9); (try clear c10)
      obtain ⟨kq, x30_6, rfl, HA, HJ6, HB⟩ := hcut
      cases kq with
      | zero => exact absurd HA.out (by simp [targumlaw17_DquoteTells.j0])
      | succ kj6 =>
        have H := HA.out
        clear HA
        simp only [targumlaw17_DquoteTells.j0] at H
        by_cases c11 : x30_6 = true
        · subst c11
          have H1 : (some true) = some true := by rw [if_pos rfl] at H <;> exact H
          clear H
          have H := H1
          clear H1
          have hrt := Option.some.inj H
          first | (exact absurd hrt (by decide)) | (
            try (have hp_ := hrt; simp only [Bool.and_eq_true] at hp_; simp (disch := omega) only [wrap_id] at hp_; have hp1_ := hp_.1; have hp2_ := hp_.2; have hp3_ := decide_eq_true (beq_iff_eq.mp hp1_); have hp4_ := decide_eq_true (beq_iff_eq.mp hp2_); clear hp_)
            go_wp2
            go_ret
            exact ⟨by first | rfl | (have h1_ := hrt; simp (disch := omega) only [wrap_id] at h1_; exact congrArg (fun b => Ending.returned (Value.bool b)) h1_) | (exact congrArg (fun b => Ending.returned (Value.bool b)) hrt) | (simp [errW_none, errW_some] <;> rfl) | (simp [*, errW_none, errW_some] <;> rfl), by repeat (first | (with_reducible first | exact HB.out | apply below_alloc | apply pw_below_drewN | apply below_drew1) | exact HB.out)⟩)
        · replace c11 := Bool.eq_false_iff.mpr c11
          subst c11
          have H1 : ((targumhelp_Version.f a3).bind fun t254 => ((targumlaw17_text.f l1).bind fun t255 => (if 1 + a0.size ≤ 9223372036854775807 then (if 1 + t255.size ≤ 9223372036854775807 then (if ((⟨#[34]⟩ : ByteArray) ++ t255).size + 1 ≤ 9223372036854775807 then (if (((⟨#[34]⟩ : ByteArray) ++ t255) ++ (⟨#[34]⟩ : ByteArray)).size + a0.size ≤ 9223372036854775807 then ((some (([a0, (⟨#[34]⟩ : ByteArray) ++ a0, (⟨#[34]⟩ : ByteArray) ++ t255, (((⟨#[34]⟩ : ByteArray) ++ t255) ++ (⟨#[34]⟩ : ByteArray)) ++ a0] : List ByteArray) : List ByteArray)).bind fun y256 => (targumlaw17_DquoteTells.l0 kj6 a2 t254 y256 (y256.length : Int) 0)) else (none)) else (none)) else (none)) else (none)))) = some true := by rw [if_neg (show ¬ (false = true) by decide)] at H <;> exact H
          clear H
          have H := H1
          clear H1
          replace H := Option.bind_eq_some_iff.mp H
          obtain ⟨t254, A120, H⟩ := H
          replace H : ((targumlaw17_text.f l1).bind fun t255 => (if 1 + a0.size ≤ 9223372036854775807 then (if 1 + t255.size ≤ 9223372036854775807 then (if ((⟨#[34]⟩ : ByteArray) ++ t255).size + 1 ≤ 9223372036854775807 then (if (((⟨#[34]⟩ : ByteArray) ++ t255) ++ (⟨#[34]⟩ : ByteArray)).size + a0.size ≤ 9223372036854775807 then ((some (([a0, (⟨#[34]⟩ : ByteArray) ++ a0, (⟨#[34]⟩ : ByteArray) ++ t255, (((⟨#[34]⟩ : ByteArray) ++ t255) ++ (⟨#[34]⟩ : ByteArray)) ++ a0] : List ByteArray) : List ByteArray)).bind fun y256 => (targumlaw17_DquoteTells.l0 kj6 a2 t254 y256 (y256.length : Int) 0)) else (none)) else (none)) else (none)) else (none))) = some true := H
          have A12 := Aside0.mk A120
          clear A120
          replace H := Option.bind_eq_some_iff.mp H
          obtain ⟨t255, A130, H⟩ := H
          replace H : (if 1 + a0.size ≤ 9223372036854775807 then (if 1 + t255.size ≤ 9223372036854775807 then (if ((⟨#[34]⟩ : ByteArray) ++ t255).size + 1 ≤ 9223372036854775807 then (if (((⟨#[34]⟩ : ByteArray) ++ t255) ++ (⟨#[34]⟩ : ByteArray)).size + a0.size ≤ 9223372036854775807 then ((some (([a0, (⟨#[34]⟩ : ByteArray) ++ a0, (⟨#[34]⟩ : ByteArray) ++ t255, (((⟨#[34]⟩ : ByteArray) ++ t255) ++ (⟨#[34]⟩ : ByteArray)) ++ a0] : List ByteArray) : List ByteArray)).bind fun y256 => (targumlaw17_DquoteTells.l0 kj6 a2 t254 y256 (y256.length : Int) 0)) else (none)) else (none)) else (none)) else (none)) = some true := H
          have A13 := Aside0.mk A130
          clear A130
          by_cases c14 : 1 + a0.size ≤ 9223372036854775807
          · rw [if_pos c14] at H
            have c14b0 := eq_true c14
            have c14b1 : decide (1 + a0.size ≤ 9223372036854775807) = true := decide_eq_true c14
            try have c14b2 : (9223372036854775807 < 1 + a0.size) = False := eq_false (Nat.not_lt.2 c14)
            by_cases c15 : 1 + t255.size ≤ 9223372036854775807
            · rw [if_pos c15] at H
              have c15b0 := eq_true c15
              have c15b1 : decide (1 + t255.size ≤ 9223372036854775807) = true := decide_eq_true c15
              try have c15b2 : (9223372036854775807 < 1 + t255.size) = False := eq_false (Nat.not_lt.2 c15)
              by_cases c16 : ((⟨#[34]⟩ : ByteArray) ++ t255).size + 1 ≤ 9223372036854775807
              · rw [if_pos c16] at H
                have c16b0 := eq_true c16
                have c16b1 : decide (((⟨#[34]⟩ : ByteArray) ++ t255).size + 1 ≤ 9223372036854775807) = true := decide_eq_true c16
                try (have c16b7 : 1 + t255.size + 1 ≤ 9223372036854775807 := by have h_ := c16; (repeat rw [ByteArray.size_append] at h_); first | exact h_ | (simp at h_; omega)
                     have c16b8 : decide (1 + t255.size + 1 ≤ 9223372036854775807) = true := decide_eq_true c16b7
                     have c16b9 : (9223372036854775807 < 1 + t255.size + 1) = False := eq_false (Nat.not_lt.2 c16b7))
                try have c16b2 : (9223372036854775807 < ((⟨#[34]⟩ : ByteArray) ++ t255).size + 1) = False := eq_false (Nat.not_lt.2 c16)
                by_cases c17 : (((⟨#[34]⟩ : ByteArray) ++ t255) ++ (⟨#[34]⟩ : ByteArray)).size + a0.size ≤ 9223372036854775807
                · rw [if_pos c17] at H
                  have c17b0 := eq_true c17
                  have c17b1 : decide ((((⟨#[34]⟩ : ByteArray) ++ t255) ++ (⟨#[34]⟩ : ByteArray)).size + a0.size ≤ 9223372036854775807) = true := decide_eq_true c17
                  try (have c17b7 : 1 + t255.size + 1 + a0.size ≤ 9223372036854775807 := by have h_ := c17; (repeat rw [ByteArray.size_append] at h_); first | exact h_ | (simp at h_; omega)
                       have c17b8 : decide (1 + t255.size + 1 + a0.size ≤ 9223372036854775807) = true := decide_eq_true c17b7
                       have c17b9 : (9223372036854775807 < 1 + t255.size + 1 + a0.size) = False := eq_false (Nat.not_lt.2 c17b7))
                  try have c17b2 : (9223372036854775807 < (((⟨#[34]⟩ : ByteArray) ++ t255) ++ (⟨#[34]⟩ : ByteArray)).size + a0.size) = False := eq_false (Nat.not_lt.2 c17)
                  obtain ⟨y256, hy256⟩ : ∃ y_ : List ByteArray, y_ = (([a0, (⟨#[34]⟩ : ByteArray) ++ a0, (⟨#[34]⟩ : ByteArray) ++ t255, (((⟨#[34]⟩ : ByteArray) ++ t255) ++ (⟨#[34]⟩ : ByteArray)) ++ a0] : List ByteArray)) := ⟨_, rfl⟩
                  replace H : (targumlaw17_DquoteTells.l0 kj6 a2 t254 y256 (y256.length : Int) 0) = some true := by first | (rw [hy256]; with_reducible exact H) | (have H2_ := (Option.bind_some _ _).symm.trans H; rw [hy256]; with_reducible exact H2_) | (have H2_ := (Option.bind_some _ _).symm.trans H; with_reducible exact H2_) | with_reducible exact H | (rw [hy256]; exact H) | exact H
                  have Ny256 := Aside0.mk hy256
                  clear hy256
                  have H' := Aside0.mk H
                  clear H
                  go_wp2_with (first | ((with_reducible refine gate_callee (f := 10) rfl ?_); refine goesL_ (some 32) rfl rfl Try.func10 (by kernel_rfl) rfl #[.bool a3] rfl (by (try simp only [List.map_toArray, List.map_cons, List.map_nil]); first | done | rfl | (simp only [List.length_drop, List.length_take]; rfl)) ?_; (with_reducible refine (targumhelp_Version.calls a3 t254 _ A12.out).mono ?_); rintro e w' ⟨rfl, ⟨nd, rfl⟩⟩; refine ⟨_, rfl, ?_⟩) | ((with_reducible refine gate_callee (f := 11) rfl ?_); refine goesL_ (some 34) rfl rfl Try.func11 (by kernel_rfl) rfl #[.slice A1 l1.length c1] rfl (by (try simp only [List.map_toArray, List.map_cons, List.map_nil]); first | done | rfl | (simp only [List.length_drop, List.length_take]; rfl)) ?_; (with_reducible refine (targumlaw17_text.calls _ _ l1 t255 _ ?side1 ?side2 A13.out).mono ?_); (case side1 => repeat (first | exact (Kd.C_below HR1.out (by repeat (first | (with_reducible first | exact HB.out | apply below_alloc | apply pw_below_drewN | apply below_drew1) | exact HB.out))) | (with_reducible refine Kd.C_alloc ?_ _) | (with_reducible refine Kd.C_drewN ?_ _) | (with_reducible refine Kd.C_drew ?_))); (case side2 => exact HC1.out); rintro e w18 ⟨rfl, hb⟩; refine ⟨_, rfl, ?_⟩; have n0_ := Aside0.mk (below_step (by repeat (first | (with_reducible first | exact HB.out | apply below_alloc | apply pw_below_drewN | apply below_drew1) | exact HB.out)) hb); clear HB; have HB := n0_; clear n0_; (try clear hb); (try clear hb2); (try clear hk); (try clear hi)) | ((with_reducible refine gate_dst (N := 45) rfl ?_); (try (refine gate_guard (by rfl) ?_; dsimp only)); refine Kd.R_lit Kd.string _ 9 ?hg (N := 45) ?hd (xs := ([a0, (⟨#[34]⟩ : ByteArray) ++ a0, (⟨#[34]⟩ : ByteArray) ++ t255, (((⟨#[34]⟩ : ByteArray) ++ t255) ++ (⟨#[34]⟩ : ByteArray)) ++ a0] : List ByteArray)) (inner := [.string a0, .string ((⟨#[34]⟩ : ByteArray) ++ a0), .string ((⟨#[34]⟩ : ByteArray) ++ t255), .string ((((⟨#[34]⟩ : ByteArray) ++ t255) ++ (⟨#[34]⟩ : ByteArray)) ++ a0)]) (ok := fun _ => True) (okp := fun _ => True) ?hr ?hp (fun _ hk => hk) trivial (Below.refl _ _) (Nat.le_refl _) (by simp) ?_; (case hd => rfl); (case hg => rfl); (case hr => first | (go_simp; done) | (go_simp; rfl)); (case hp => exact (Reps.one (show Kd.M Kd.string _ _ _ a0 [.string a0] from rfl) (Reps.one (show Kd.M Kd.string _ _ _ ((⟨#[34]⟩ : ByteArray) ++ a0) [.string ((⟨#[34]⟩ : ByteArray) ++ a0)] from rfl) (Reps.one (show Kd.M Kd.string _ _ _ ((⟨#[34]⟩ : ByteArray) ++ t255) [.string ((⟨#[34]⟩ : ByteArray) ++ t255)] from rfl) (Reps.one (show Kd.M Kd.string _ _ _ ((((⟨#[34]⟩ : ByteArray) ++ t255) ++ (⟨#[34]⟩ : ByteArray)) ++ a0) [.string ((((⟨#[34]⟩ : ByteArray) ++ t255) ++ (⟨#[34]⟩ : ByteArray)) ++ a0)] from rfl) (Reps.none _ _)))))); intro v257 w19 ho20 hb hg_ hnew_; clear hg_ hnew_; (first | rw [← Ny256.out] at ho20 | (simp only [Int.reduceToNat] at ho20; rw [← Ny256.out] at ho20)); have n0_ := Aside0.mk (Kd.R_lower ho20 (below_size (by repeat (first | (with_reducible first | exact HB.out | apply below_alloc | apply pw_below_drewN | apply below_drew1) | exact HB.out)))); have n1_ := Aside0.mk (below_step (by repeat (first | (with_reducible first | exact HB.out | apply below_alloc | apply pw_below_drewN | apply below_drew1) | exact HB.out)) hb); clear HB; have HO258 := n0_; have HB := n1_; clear n0_ n1_; clear hb ho20; obtain ⟨Ao21, co21, eo21⟩ := Kd.R_slice HO258.out; subst eo21))
                  go_loopg [47] kj6 (fun kq v47 w' => ∃ (x47_2 : Int), v47 = .int .i64 x47_2 ∧ Aside0 (targumlaw17_DquoteTells.l0 kq a2 t254 y256 (y256.length : Int) x47_2 = some true) ∧ Aside0 (kq ≤ kj6) ∧ Aside0 (Kd.R Kd.string 9 w' w.heap.size (fun _ => True) (.slice Ao21 y256.length co21) y256) ∧ Aside0 (Below w.heap.size w w'))
                  case atStart => exact ⟨(0), (by first | rfl | (simp; done) | (simp [*]; done)), H', ⟨Nat.le_refl _⟩, ⟨by (with_reducible repeat (first | apply Kd.R_alloc | apply Kd.R_drewN | apply Kd.R_drew)); exact HO258.out⟩, ⟨by repeat (first | (with_reducible first | exact HB.out | apply below_alloc | apply pw_below_drewN | apply below_drew1) | exact HB.out)⟩⟩
                  case round =>
                    clear H'
                    (try clear c1); (try clear p2); (try clear c3); (try clear c6); (try clear c8); (try clear c9); (try clear c10); (try clear c11); (try clear c14); (try clear c14b0); (try clear c14b1); (try clear c14b2); (try clear c15); (try clear c15b0); (try clear c15b1); (try clear c15b2); (try clear c16); (try clear c16b0); (try clear c16b1); (try clear c16b2); (try clear c17); (try clear c17b0); (try clear c17b1); (try clear c17b2)
                    obtain ⟨x47_2, rfl, HA, HK2, HO_45, HB⟩ := hrel
                    cases gk with
                    | zero => exact absurd HA.out (by simp [targumlaw17_DquoteTells.l0])
                    | succ k2 =>
                      have H := HA.out
                      clear HA
                      simp only [targumlaw17_DquoteTells.l0] at H
                      by_cases c22 : x47_2 < (y256.length : Int)
                      · rw [if_pos c22] at H
                        have c22b0 : decide (x47_2 < (y256.length : Int)) = true := decide_eq_true c22
                        clear c22
                        by_cases c23 : 0 ≤ x47_2
                        · rw [if_pos c23] at H
                          have c23b0 : decide (0 ≤ x47_2) = true := decide_eq_true c23
                          clear c23
                          by_cases c24 : x47_2 < (y256.length : Int)
                          · rw [if_pos c24] at H
                            have c24b0 : decide (x47_2 < (y256.length : Int)) = true := decide_eq_true c24
                            clear c24
                            replace H := Option.bind_eq_some_iff.mp H
                            obtain ⟨t260, A250, H⟩ := H
                            replace H : ((some (([0, t260] : List Int) : List Int)).bind fun y261 => (targumlaw17_DquoteTells.l1 k2 a2 t254 (rdOf ByteArray.empty y256 x47_2) y256 (y256.length : Int) x47_2 y261 (y261.length : Int) 0)) = some true := H
                            have A25 := Aside0.mk A250
                            clear A250
                            obtain ⟨y261, hy261⟩ : ∃ y_ : List Int, y_ = (([0, t260] : List Int)) := ⟨_, rfl⟩
                            replace H : (targumlaw17_DquoteTells.l1 k2 a2 t254 (rdOf ByteArray.empty y256 x47_2) y256 (y256.length : Int) x47_2 y261 (y261.length : Int) 0) = some true := by first | (rw [hy261]; with_reducible exact H) | (have H2_ := (Option.bind_some _ _).symm.trans H; rw [hy261]; with_reducible exact H2_) | (have H2_ := (Option.bind_some _ _).symm.trans H; with_reducible exact H2_) | with_reducible exact H | (rw [hy261]; exact H) | exact H
                            have Ny261 := Aside0.mk hy261
                            clear hy261
                            have H' := Aside0.mk H
                            clear H
                            have p259 : 0 ≤ (x47_2 : Int) := of_decide_eq_true (by first | (with_reducible assumption) | assumption)
                            have q259 : x47_2 < (y256.length : Int) := of_decide_eq_true (by first | (with_reducible assumption) | assumption)
                            obtain ⟨ad259, e259, hx259_0⟩ := Kd.at_string (Kd.R_reads' HO_45.out).2.2 x47_2 p259 q259
                            cases e259
                            replace p259 := eq_true p259
                            replace q259 := eq_true q259
                            go_wp2_with (first | ((with_reducible refine gate_callee (f := 12) rfl ?_); refine goesL_ (some 55) rfl rfl Try.func12 (by kernel_rfl) rfl #[.int .i64 a2, .int .i64 (-1), .int .i64 (wrap64 (((rdOf ByteArray.empty y256 x47_2).size : Int) + 1))] rfl (by (try simp only [List.map_toArray, List.map_cons, List.map_nil]); first | done | rfl | (simp only [List.length_drop, List.length_take]; rfl)) ?_; (with_reducible refine (targumhelp_Within.calls a2 (-1) (wrap64 (((rdOf ByteArray.empty y256 x47_2).size : Int) + 1)) t260 _ A25.out).mono ?_); rintro e w' ⟨rfl, ⟨nd, rfl⟩⟩; refine ⟨_, rfl, ?_⟩) | ((with_reducible refine gate_dst (N := 56) rfl ?_); (try (refine gate_guard (by rfl) ?_; dsimp only)); refine Kd.R_lit (Kd.int .i64) _ 3 ?hg (N := 56) ?hd (xs := ([0, t260] : List Int)) (inner := [.int .i64 0, .int .i64 t260]) (ok := fun _ => True) (okp := fun _ => True) ?hr ?hp (fun _ hk => hk) trivial (Below.refl _ _) (Nat.le_refl _) (by simp) ?_; (case hd => rfl); (case hg => rfl); (case hr => first | (go_simp; done) | (go_simp; rfl)); (case hp => exact (Reps.one (show Kd.M (Kd.int .i64) _ _ _ 0 [.int .i64 0] from rfl) (Reps.one (show Kd.M (Kd.int .i64) _ _ _ t260 [.int .i64 t260] from rfl) (Reps.none _ _)))); intro v262 w26 ho27 hb hg_ hnew_; clear hg_ hnew_; (first | rw [← Ny261.out] at ho27 | (simp only [Int.reduceToNat] at ho27; rw [← Ny261.out] at ho27)); have n0_ := Aside0.mk (Kd.R_below (by (with_reducible repeat (first | apply Kd.R_alloc | apply Kd.R_drewN | apply Kd.R_drew)); exact HO_45.out) hb); have n1_ := Aside0.mk (Kd.R_lower ho27 (below_size (by repeat (first | (with_reducible first | exact HB.out | apply below_alloc | apply pw_below_drewN | apply below_drew1) | exact HB.out)))); have n2_ := Aside0.mk (below_step (by repeat (first | (with_reducible first | exact HB.out | apply below_alloc | apply pw_below_drewN | apply below_drew1) | exact HB.out)) hb); clear HO_45; clear HB; have HO_45 := n0_; have HO263 := n1_; have HB := n2_; clear n0_ n1_ n2_; clear hb ho27; obtain ⟨Ao28, co28, eo28⟩ := Kd.R_slice HO263.out; subst eo28))
                            go_loopg [58] k2 (fun kq v58 w' => ∃ (x58_3 : Int), v58 = .int .i64 x58_3 ∧ Aside0 (targumlaw17_DquoteTells.l1 kq a2 t254 (rdOf ByteArray.empty y256 x47_2) y256 (y256.length : Int) x47_2 y261 (y261.length : Int) x58_3 = some true) ∧ Aside0 (kq ≤ k2) ∧ Aside0 (Kd.R Kd.string 9 w' w.heap.size (fun _ => True) (.slice (some ad259) y256.length co21) y256) ∧ Aside0 (Kd.R (Kd.int .i64) 3 w' w.heap.size (fun _ => True) (.slice Ao28 y261.length co28) y261) ∧ Aside0 (Below w.heap.size w w'))
                            case atStart => exact ⟨(0), (by first | rfl | (simp; done) | (simp [*]; done)), H', ⟨Nat.le_refl _⟩, ⟨by (with_reducible repeat (first | apply Kd.R_alloc | apply Kd.R_drewN | apply Kd.R_drew)); exact HO_45.out⟩, ⟨by (with_reducible repeat (first | apply Kd.R_alloc | apply Kd.R_drewN | apply Kd.R_drew)); exact HO263.out⟩, ⟨by repeat (first | (with_reducible first | exact HB.out | apply below_alloc | apply pw_below_drewN | apply below_drew1) | exact HB.out)⟩⟩
                            case round =>
                              clear H'
                              (try clear c1); (try clear c2); (try clear p2); (try clear q2); (try clear hx2); (try clear c3); (try clear c6); (try clear p6); (try clear c8); (try clear c9); (try clear c10); (try clear c11); (try clear c12); (try clear c14); (try clear c14b0); (try clear c14b1); (try clear c14b2); (try clear c15); (try clear c15b0); (try clear c15b1); (try clear c15b2); (try clear c16); (try clear c16b0); (try clear c16b1); (try clear c16b2); (try clear c17); (try clear c17b0); (try clear c17b1); (try clear c17b2); (try clear c22); (try clear c22b0); (try clear c23); (try clear c23b0); (try clear c24); (try clear c24b0); (try clear p25); (try clear q25); (try clear hx25); (try clear hx259_0); (try clear p259); (try clear q259)
                              obtain ⟨x58_3, rfl, HA, HK3, HO_45, HO_56, HB⟩ := hrel
                              cases gk with
                              | zero => exact absurd HA.out (by simp [targumlaw17_DquoteTells.l1])
                              | succ k3 =>
                                have H := HA.out
                                clear HA
                                simp only [targumlaw17_DquoteTells.l1] at H
                                by_cases c29 : x58_3 < (y261.length : Int)
                                · rw [if_pos c29] at H
                                  have c29b0 : decide (x58_3 < (y261.length : Int)) = true := decide_eq_true c29
                                  clear c29
                                  by_cases c30 : 0 ≤ x58_3
                                  · rw [if_pos c30] at H
                                    have c30b0 : decide (0 ≤ x58_3) = true := decide_eq_true c30
                                    clear c30
                                    by_cases c31 : x58_3 < (y261.length : Int)
                                    · rw [if_pos c31] at H
                                      have c31b0 : decide (x58_3 < (y261.length : Int)) = true := decide_eq_true c31
                                      clear c31
                                      replace H := Option.bind_eq_some_iff.mp H
                                      obtain ⟨t265, A320, H⟩ := H
                                      replace H : (if t265 = true then (targumlaw17_DquoteTells.l1 k3 a2 t254 (rdOf ByteArray.empty y256 x47_2) y256 (y256.length : Int) x47_2 y261 (y261.length : Int) (wrap64 (x58_3 + 1))) else ((dquote_Read.f t254 (rdOf ByteArray.empty y256 x47_2) (rd y261 x58_3)).bind fun bt266 => ((targumref17_Double.f k3 t254 (rdOf ByteArray.empty y256 x47_2) (rd y261 x58_3)).bind fun bt271 => (if bt266.1.toList = bt271.1.toList then (if bt266.2.1 = bt271.2.1 then (if (!(bt266.2.2.1 == bt271.2.2.1) || (!(bt266.2.2.2 == bt271.2.2.2))) = true then (some false) else (targumlaw17_DquoteTells.l1 k3 a2 t254 (rdOf ByteArray.empty y256 x47_2) y256 (y256.length : Int) x47_2 y261 (y261.length : Int) (wrap64 (x58_3 + 1)))) else (some false)) else (some false))))) = some true := H
                                      have A32 := Aside0.mk A320
                                      clear A320
                                      by_cases c33 : t265 = true
                                      · subst c33
                                        have H1 : (targumlaw17_DquoteTells.l1 k3 a2 t254 (rdOf ByteArray.empty y256 x47_2) y256 (y256.length : Int) x47_2 y261 (y261.length : Int) (wrap64 (x58_3 + 1))) = some true := by rw [if_pos rfl] at H <;> exact H
                                        clear H
                                        have H := H1
                                        clear H1
                                        have H' := Aside0.mk H
                                        clear H
                                        have p264 : 0 ≤ (x58_3 : Int) := of_decide_eq_true (by first | (with_reducible assumption) | assumption)
                                        have q264 : x58_3 < (y261.length : Int) := of_decide_eq_true (by first | (with_reducible assumption) | assumption)
                                        obtain ⟨ad264, e264, hx264_0⟩ := Kd.at_int (Kd.R_reads' HO_56.out).2.2 x58_3 p264 q264
                                        cases e264
                                        replace p264 := eq_true p264
                                        replace q264 := eq_true q264
                                        go_wp2_with (first | ((with_reducible refine gate_callee (f := 13) rfl ?_); refine goesL_ (some 64) rfl rfl Try.func13 (by kernel_rfl) rfl #[.string (rdOf ByteArray.empty y256 x47_2), .int .i64 (rd y261 x58_3)] rfl (by (try simp only [List.map_toArray, List.map_cons, List.map_nil]); first | done | rfl | (simp only [List.length_drop, List.length_take]; rfl)) ?_; (with_reducible refine (targumhelp_Cut.calls (rdOf ByteArray.empty y256 x47_2) (rd y261 x58_3) true _ A32.out).mono ?_); rintro e w' ⟨rfl, ⟨nd, rfl⟩⟩; refine ⟨_, rfl, ?_⟩))
                                        go_roundg k3
                                        case measure => have := HJ6.out; have := HK2.out; have := HK3.out; omega
                                        case rel => exact ⟨(wrap64 (x58_3 + 1)), (by first | rfl | (simp; done) | (simp [*]; done)), H', ⟨by have := HJ6.out; have := HK2.out; have := HK3.out; omega⟩, ⟨by (with_reducible repeat (first | apply Kd.R_alloc | apply Kd.R_drewN | apply Kd.R_drew)); exact HO_45.out⟩, ⟨by (with_reducible repeat (first | apply Kd.R_alloc | apply Kd.R_drewN | apply Kd.R_drew)); exact HO_56.out⟩, ⟨by repeat (first | (with_reducible first | exact HB.out | apply below_alloc | apply pw_below_drewN | apply below_drew1) | exact HB.out)⟩⟩
                                      · replace c33 := Bool.eq_false_iff.mpr c33
                                        subst c33
                                        have H1 : ((dquote_Read.f t254 (rdOf ByteArray.empty y256 x47_2) (rd y261 x58_3)).bind fun bt266 => ((targumref17_Double.f k3 t254 (rdOf ByteArray.empty y256 x47_2) (rd y261 x58_3)).bind fun bt271 => (if bt266.1.toList = bt271.1.toList then (if bt266.2.1 = bt271.2.1 then (if (!(bt266.2.2.1 == bt271.2.2.1) || (!(bt266.2.2.2 == bt271.2.2.2))) = true then (some false) else (targumlaw17_DquoteTells.l1 k3 a2 t254 (rdOf ByteArray.empty y256 x47_2) y256 (y256.length : Int) x47_2 y261 (y261.length : Int) (wrap64 (x58_3 + 1)))) else (some false)) else (some false)))) = some true := by rw [if_neg (show ¬ (false = true) by decide)] at H <;> exact H
                                        clear H
                                        have H := H1
                                        clear H1
                                        replace H := Option.bind_eq_some_iff.mp H
                                        obtain ⟨⟨t266, t267, t268, t269⟩, A340, H⟩ := H
                                        replace H : ((targumref17_Double.f k3 t254 (rdOf ByteArray.empty y256 x47_2) (rd y261 x58_3)).bind fun bt271 => (if t266.toList = bt271.1.toList then (if t267 = bt271.2.1 then (if (!(t268 == bt271.2.2.1) || (!(t269 == bt271.2.2.2))) = true then (some false) else (targumlaw17_DquoteTells.l1 k3 a2 t254 (rdOf ByteArray.empty y256 x47_2) y256 (y256.length : Int) x47_2 y261 (y261.length : Int) (wrap64 (x58_3 + 1)))) else (some false)) else (some false))) = some true := H
                                        have A34 := Aside0.mk A340
                                        clear A340
                                        replace H := Option.bind_eq_some_iff.mp H
                                        obtain ⟨⟨t271, t272, t273, t274⟩, A350, H⟩ := H
                                        replace H : (if t266.toList = t271.toList then (if t267 = t272 then (if (!(t268 == t273) || (!(t269 == t274))) = true then (some false) else (targumlaw17_DquoteTells.l1 k3 a2 t254 (rdOf ByteArray.empty y256 x47_2) y256 (y256.length : Int) x47_2 y261 (y261.length : Int) (wrap64 (x58_3 + 1)))) else (some false)) else (some false)) = some true := H
                                        have A35 := Aside0.mk A350
                                        clear A350
                                        by_cases c36 : t266.toList = t271.toList
                                        · rw [if_pos c36] at H
                                          have c36b0 : (t266.toList == t271.toList) = true := beq_iff_eq.mpr c36
                                          have c36b1 : (t266.toList != t271.toList) = false := bne_eq_false_iff_eq.mpr c36
                                          clear c36
                                          by_cases c37 : t267 = t272
                                          · rw [if_pos c37] at H
                                            have c37b0 : (t267 == t272) = true := beq_iff_eq.mpr c37
                                            have c37b1 : (t267 != t272) = false := bne_eq_false_iff_eq.mpr c37
                                            clear c37
                                            by_cases c38 : (!(t268 == t273) || (!(t269 == t274))) = true
                                            · rw [if_pos c38] at H
                                              have c38b0 : (!(t268 == t273) || (!(t269 == t274))) = true := c38
                                              clear c38
                                              have hrt := Option.some.inj H
                                              first | (exact absurd hrt (by decide)) | (
                                                try (have hp_ := hrt; simp only [Bool.and_eq_true] at hp_; simp (disch := omega) only [wrap_id] at hp_; have hp1_ := hp_.1; have hp2_ := hp_.2; have hp3_ := decide_eq_true (beq_iff_eq.mp hp1_); have hp4_ := decide_eq_true (beq_iff_eq.mp hp2_); clear hp_)
                                                have p264 : 0 ≤ (x58_3 : Int) := of_decide_eq_true (by first | (with_reducible assumption) | assumption)
                                                have q264 : x58_3 < (y261.length : Int) := of_decide_eq_true (by first | (with_reducible assumption) | assumption)
                                                obtain ⟨ad264, e264, hx264_0⟩ := Kd.at_int (Kd.R_reads' HO_56.out).2.2 x58_3 p264 q264
                                                cases e264
                                                replace p264 := eq_true p264
                                                replace q264 := eq_true q264
                                                go_wp2_with (first | ((with_reducible refine gate_callee (f := 13) rfl ?_); refine goesL_ (some 64) rfl rfl Try.func13 (by kernel_rfl) rfl #[.string (rdOf ByteArray.empty y256 x47_2), .int .i64 (rd y261 x58_3)] rfl (by (try simp only [List.map_toArray, List.map_cons, List.map_nil]); first | done | rfl | (simp only [List.length_drop, List.length_take]; rfl)) ?_; (with_reducible refine (targumhelp_Cut.calls (rdOf ByteArray.empty y256 x47_2) (rd y261 x58_3) false _ A32.out).mono ?_); rintro e w' ⟨rfl, ⟨nd, rfl⟩⟩; refine ⟨_, rfl, ?_⟩; (try (rw [drewN_self wr]; generalize hq_ : World.drewN wr _ = wr; have n0_ : Aside0 (Kd.R Kd.string 9 wr w.heap.size (fun _ => True) (.slice (some ad259) y256.length co21) y256) := ⟨by rw [← hq_]; exact (by (with_reducible repeat (first | apply Kd.R_alloc | apply Kd.R_drewN | apply Kd.R_drew)); exact HO_45.out)⟩; have n1_ : Aside0 (Kd.R (Kd.int .i64) 3 wr w.heap.size (fun _ => True) (.slice (some ad264) y261.length co28) y261) := ⟨by rw [← hq_]; exact (by (with_reducible repeat (first | apply Kd.R_alloc | apply Kd.R_drewN | apply Kd.R_drew)); exact HO_56.out)⟩; have n2_ : Aside0 (Below w.heap.size w wr) := ⟨by rw [← hq_]; exact (by repeat (first | (with_reducible first | exact HB.out | apply below_alloc | apply pw_below_drewN | apply below_drew1) | exact HB.out))⟩; clear HO_45 HO_56 HB hq_; have HO_45 := n0_; have HO_56 := n1_; have HB := n2_; clear n0_ n1_ n2_))) | ((with_reducible refine gate_callee (f := 14) rfl ?_); refine goesL_ (some 69) rfl rfl Try.func14 (by kernel_rfl) rfl #[.int .i64 t254, .string (rdOf ByteArray.empty y256 x47_2), .int .i64 (rd y261 x58_3)] rfl (by (try simp only [List.map_toArray, List.map_cons, List.map_nil]); first | done | rfl | (simp only [List.length_drop, List.length_take]; rfl)) ?_; (with_reducible refine (dquote_Read.calls t254 (rdOf ByteArray.empty y256 x47_2) (rd y261 x58_3) t266 t267 t268 t269 _ A34.out).mono ?_); rintro e w39 ⟨rfl, hb⟩; refine ⟨_, rfl, ?_⟩; have n0_ := Aside0.mk (Kd.R_below (by (with_reducible repeat (first | apply Kd.R_alloc | apply Kd.R_drewN | apply Kd.R_drew)); exact HO_45.out) hb); have n1_ := Aside0.mk (Kd.R_below (by (with_reducible repeat (first | apply Kd.R_alloc | apply Kd.R_drewN | apply Kd.R_drew)); exact HO_56.out) hb); have n2_ := Aside0.mk (below_step (by repeat (first | (with_reducible first | exact HB.out | apply below_alloc | apply pw_below_drewN | apply below_drew1) | exact HB.out)) hb); clear HO_45; clear HO_56; clear HB; have HO_45 := n0_; have HO_56 := n1_; have HB := n2_; clear n0_ n1_ n2_; (try clear hb); (try clear hb2); (try clear hk); (try clear hi)) | ((with_reducible refine gate_dst (N := 17) rfl ?_); (try (refine gate_guard (by rfl) ?_; dsimp only)); refine box_event ?hg (N := 17) ?hd (cs := #[.int .i64 0, .int .i64 0]) (t := 32) ?hr ?_; (case hd => rfl); (case hg => rfl); (case hr => first | (go_simp; done) | (go_simp; rfl)); intro gb270 hg w40 hbox hb; have n0_ := Aside0.mk (Kd.R_below (by (with_reducible repeat (first | apply Kd.R_alloc | apply Kd.R_drewN | apply Kd.R_drew)); exact HO_45.out) hb); have n1_ := Aside0.mk (Kd.R_below (by (with_reducible repeat (first | apply Kd.R_alloc | apply Kd.R_drewN | apply Kd.R_drew)); exact HO_56.out) hb); have n2_ := Aside0.mk (below_step (by repeat (first | (with_reducible first | exact HB.out | apply below_alloc | apply pw_below_drewN | apply below_drew1) | exact HB.out)) hb); have n3_ := Aside0.mk (hbox); have n4_ := Aside0.mk ((by rw [hg]; exact (below_size (by repeat (first | (with_reducible first | exact HB.out | apply below_alloc | apply pw_below_drewN | apply below_drew1) | exact HB.out))) : w.heap.size ≤ gb270)); have n5_ := Aside0.mk ((by rw [hg]; exact (below_size (by repeat (first | (with_reducible first | exact HB.out | apply below_alloc | apply pw_below_drewN | apply below_drew1) | exact HB.out))) : w.heap.size ≤ gb270)); clear HO_45; clear HO_56; clear HB; have HO_45 := n0_; have HO_56 := n1_; have HB := n2_; have BK270 := n3_; have GW270 := n4_; have GE270 := n5_; clear n0_ n1_ n2_ n3_ n4_ n5_; clear hb hbox hg; have hcz41_0 : w40.cell? ⟨gb270, 0, none⟩ = some (.int .i64 0) := (blk_cell BK270.out 0).trans rfl; have hcz41_1 : w40.cell? ⟨gb270, 1, none⟩ = some (.int .i64 0) := (blk_cell BK270.out 1).trans rfl; have hfz41_0 := blk_frozen BK270.out 0; have hfz41_1 := blk_frozen BK270.out 1) | ((with_reducible refine gate_callee (f := 15) rfl ?_); refine goesL_ (some 77) rfl rfl Try.func15 (by kernel_rfl) rfl #[.int .i64 t254, .string (rdOf ByteArray.empty y256 x47_2), .int .i64 (rd y261 x58_3)] rfl (by (try simp only [List.map_toArray, List.map_cons, List.map_nil]); first | done | rfl | (simp only [List.length_drop, List.length_take]; rfl)) ?_; (with_reducible refine (targumref17_Double.calls k3 t254 (rdOf ByteArray.empty y256 x47_2) (rd y261 x58_3) t271 t272 t273 t274 _ A35.out).mono ?_); rintro e w42 ⟨rfl, hb⟩; refine ⟨_, rfl, ?_⟩; have n0_ := Aside0.mk (Kd.R_below (by (with_reducible repeat (first | apply Kd.R_alloc | apply Kd.R_drewN | apply Kd.R_drew)); exact (Kd.R_mono (Kd.R_far (p := ⟨gb270, 1, none⟩) (Kd.R_far (p := ⟨gb270, 0, none⟩) (Kd.R_types HO_45.out BK270.out (by decide)) (fun _ hk => hk.2) (.int .i64 t268)) (fun _ hk => hk.2) (.int .i64 t269)) (fun _ h_ => h_.1))) hb); have n1_ := Aside0.mk (Kd.R_below (by (with_reducible repeat (first | apply Kd.R_alloc | apply Kd.R_drewN | apply Kd.R_drew)); exact (Kd.R_mono (Kd.R_far (p := ⟨gb270, 1, none⟩) (Kd.R_far (p := ⟨gb270, 0, none⟩) (Kd.R_types HO_56.out BK270.out (by decide)) (fun _ hk => hk.2) (.int .i64 t268)) (fun _ hk => hk.2) (.int .i64 t269)) (fun _ h_ => h_.1))) hb); have n2_ := Aside0.mk (blk_below (g := gb270) (o := .cells #[.int .i64 t268, .int .i64 t269] 32 (0, 0)) (by (with_reducible repeat (first | refine blk_drewN ?_ _ | refine blk_drew ?_ | refine blk_alloc ?_ _)); refine blk_put (cs := #[.int .i64 t268, .int .i64 0]) ?_ 1 _ rfl; (with_reducible repeat (first | refine blk_drewN ?_ _ | refine blk_drew ?_ | refine blk_alloc ?_ _)); refine blk_put (cs := #[.int .i64 0, .int .i64 0]) ?_ 0 _ rfl; (with_reducible repeat (first | refine blk_drewN ?_ _ | refine blk_drew ?_ | refine blk_alloc ?_ _)); exact BK270.out) hb); have n3_ := Aside0.mk (below_step (by repeat (first | (with_reducible first | exact HB.out | apply below_alloc | apply pw_below_drewN | apply below_drew1 | refine below_set ?_ GE270.out) | exact HB.out)) hb); clear HO_45; clear HO_56; clear BK270; clear HB; have HO_45 := n0_; have HO_56 := n1_; have BK270 := n2_; have HB := n3_; clear n0_ n1_ n2_ n3_; (try clear hb); (try clear hb2); (try clear hk); (try clear hi)) | ((with_reducible refine gate_dst (N := 20) rfl ?_); (try (refine gate_guard (by rfl) ?_; dsimp only)); refine box_event ?hg (N := 20) ?hd (cs := #[.int .i64 0, .int .i64 0]) (t := 32) ?hr ?_; (case hd => rfl); (case hg => rfl); (case hr => first | (go_simp; done) | (go_simp; rfl)); intro gb275 hg w43 hbox hb; have n0_ := Aside0.mk (Kd.R_below (by (with_reducible repeat (first | apply Kd.R_alloc | apply Kd.R_drewN | apply Kd.R_drew)); exact HO_45.out) hb); have n1_ := Aside0.mk (Kd.R_below (by (with_reducible repeat (first | apply Kd.R_alloc | apply Kd.R_drewN | apply Kd.R_drew)); exact HO_56.out) hb); have n2_ := Aside0.mk (blk_below (g := gb270) (o := .cells #[.int .i64 t268, .int .i64 t269] 32 (0, 0)) (by (with_reducible repeat (first | refine blk_drewN ?_ _ | refine blk_drew ?_ | refine blk_alloc ?_ _)); exact BK270.out) hb); have n3_ := Aside0.mk (below_step (by repeat (first | (with_reducible first | exact HB.out | apply below_alloc | apply pw_below_drewN | apply below_drew1 | refine below_set ?_ GE270.out) | exact HB.out)) hb); have n4_ := Aside0.mk (hbox); have n5_ := Aside0.mk ((by rw [hg]; exact (below_size (by repeat (first | (with_reducible first | exact HB.out | apply below_alloc | apply pw_below_drewN | apply below_drew1 | refine below_set ?_ GE270.out) | exact HB.out))) : w.heap.size ≤ gb275)); have n6_ := Aside0.mk ((by rw [hg]; exact (below_size (by repeat (first | (with_reducible first | exact HB.out | apply below_alloc | apply pw_below_drewN | apply below_drew1 | refine below_set ?_ GE270.out) | exact HB.out))) : w.heap.size ≤ gb275)); have n7_ := Aside0.mk ((by rw [hg]; exact Nat.ne_of_lt (blk_lt (g := gb270) (o := .cells #[.int .i64 t268, .int .i64 t269] 32 (0, 0)) (by (with_reducible repeat (first | refine blk_drewN ?_ _ | refine blk_drew ?_ | refine blk_alloc ?_ _)); exact BK270.out)) : gb270 ≠ gb275)); have n8_ := Aside0.mk ((by rw [hg]; exact Nat.ne_of_gt (blk_lt (g := gb270) (o := .cells #[.int .i64 t268, .int .i64 t269] 32 (0, 0)) (by (with_reducible repeat (first | refine blk_drewN ?_ _ | refine blk_drew ?_ | refine blk_alloc ?_ _)); exact BK270.out)) : gb275 ≠ gb270)); clear HO_45; clear HO_56; clear BK270; clear HB; have HO_45 := n0_; have HO_56 := n1_; have BK270 := n2_; have HB := n3_; have BK275 := n4_; have GW275 := n5_; have GE275 := n6_; have NB270_275 := n7_; have NB275_270 := n8_; clear n0_ n1_ n2_ n3_ n4_ n5_ n6_ n7_ n8_; clear hb hbox hg; have hnb44 := NB275_270.out; have hnc44 := NB270_275.out; have hcz45_0 : w43.cell? ⟨gb275, 0, none⟩ = some (.int .i64 0) := (blk_cell BK275.out 0).trans rfl; have hcz45_1 : w43.cell? ⟨gb275, 1, none⟩ = some (.int .i64 0) := (blk_cell BK275.out 1).trans rfl; have hfz45_0 := blk_frozen BK275.out 0; have hfz45_1 := blk_frozen BK275.out 1; have hcz46_0 : w43.cell? ⟨gb270, 0, none⟩ = some (.int .i64 t268) := (blk_cell BK270.out 0).trans rfl; have hcz46_1 : w43.cell? ⟨gb270, 1, none⟩ = some (.int .i64 t269) := (blk_cell BK270.out 1).trans rfl; have hfz46_0 := blk_frozen BK270.out 0; have hfz46_1 := blk_frozen BK270.out 1))
                                                go_ret
                                                exact ⟨by first | rfl | (have h1_ := hrt; simp (disch := omega) only [wrap_id] at h1_; exact congrArg (fun b => Ending.returned (Value.bool b)) h1_) | (exact congrArg (fun b => Ending.returned (Value.bool b)) hrt) | (simp [errW_none, errW_some] <;> rfl) | (simp [*, errW_none, errW_some] <;> rfl), by repeat (first | (with_reducible first | exact HB.out | apply below_alloc | apply pw_below_drewN | apply below_drew1 | refine below_set ?_ GE270.out | refine below_set ?_ GE275.out) | exact HB.out)⟩)
                                            · rw [if_neg c38] at H
                                              have c38b0 : (!(t268 == t273) || (!(t269 == t274))) = false := by simpa using c38
                                              have c38p : t268 = t273 ∧ t269 = t274 := by simpa using c38b0
                                              have c38x : (t268 == t273) = true := beq_iff_eq.mpr c38p.1
                                              have c38x2 : decide (t268 = t273) = true := decide_eq_true c38p.1
                                              have c38y : (t269 == t274) = true := beq_iff_eq.mpr c38p.2
                                              have c38y2 : decide (t269 = t274) = true := decide_eq_true c38p.2
                                              clear c38p
                                              clear c38
                                              have H' := Aside0.mk H
                                              clear H
                                              have p264 : 0 ≤ (x58_3 : Int) := of_decide_eq_true (by first | (with_reducible assumption) | assumption)
                                              have q264 : x58_3 < (y261.length : Int) := of_decide_eq_true (by first | (with_reducible assumption) | assumption)
                                              obtain ⟨ad264, e264, hx264_0⟩ := Kd.at_int (Kd.R_reads' HO_56.out).2.2 x58_3 p264 q264
                                              cases e264
                                              replace p264 := eq_true p264
                                              replace q264 := eq_true q264
                                              go_wp2_with (first | ((with_reducible refine gate_callee (f := 13) rfl ?_); refine goesL_ (some 64) rfl rfl Try.func13 (by kernel_rfl) rfl #[.string (rdOf ByteArray.empty y256 x47_2), .int .i64 (rd y261 x58_3)] rfl (by (try simp only [List.map_toArray, List.map_cons, List.map_nil]); first | done | rfl | (simp only [List.length_drop, List.length_take]; rfl)) ?_; (with_reducible refine (targumhelp_Cut.calls (rdOf ByteArray.empty y256 x47_2) (rd y261 x58_3) false _ A32.out).mono ?_); rintro e w' ⟨rfl, ⟨nd, rfl⟩⟩; refine ⟨_, rfl, ?_⟩; (try (rw [drewN_self wr]; generalize hq_ : World.drewN wr _ = wr; have n0_ : Aside0 (Kd.R Kd.string 9 wr w.heap.size (fun _ => True) (.slice (some ad259) y256.length co21) y256) := ⟨by rw [← hq_]; exact (by (with_reducible repeat (first | apply Kd.R_alloc | apply Kd.R_drewN | apply Kd.R_drew)); exact HO_45.out)⟩; have n1_ : Aside0 (Kd.R (Kd.int .i64) 3 wr w.heap.size (fun _ => True) (.slice (some ad264) y261.length co28) y261) := ⟨by rw [← hq_]; exact (by (with_reducible repeat (first | apply Kd.R_alloc | apply Kd.R_drewN | apply Kd.R_drew)); exact HO_56.out)⟩; have n2_ : Aside0 (Below w.heap.size w wr) := ⟨by rw [← hq_]; exact (by repeat (first | (with_reducible first | exact HB.out | apply below_alloc | apply pw_below_drewN | apply below_drew1) | exact HB.out))⟩; clear HO_45 HO_56 HB hq_; have HO_45 := n0_; have HO_56 := n1_; have HB := n2_; clear n0_ n1_ n2_))) | ((with_reducible refine gate_callee (f := 14) rfl ?_); refine goesL_ (some 69) rfl rfl Try.func14 (by kernel_rfl) rfl #[.int .i64 t254, .string (rdOf ByteArray.empty y256 x47_2), .int .i64 (rd y261 x58_3)] rfl (by (try simp only [List.map_toArray, List.map_cons, List.map_nil]); first | done | rfl | (simp only [List.length_drop, List.length_take]; rfl)) ?_; (with_reducible refine (dquote_Read.calls t254 (rdOf ByteArray.empty y256 x47_2) (rd y261 x58_3) t266 t267 t268 t269 _ A34.out).mono ?_); rintro e w47 ⟨rfl, hb⟩; refine ⟨_, rfl, ?_⟩; have n0_ := Aside0.mk (Kd.R_below (by (with_reducible repeat (first | apply Kd.R_alloc | apply Kd.R_drewN | apply Kd.R_drew)); exact HO_45.out) hb); have n1_ := Aside0.mk (Kd.R_below (by (with_reducible repeat (first | apply Kd.R_alloc | apply Kd.R_drewN | apply Kd.R_drew)); exact HO_56.out) hb); have n2_ := Aside0.mk (below_step (by repeat (first | (with_reducible first | exact HB.out | apply below_alloc | apply pw_below_drewN | apply below_drew1) | exact HB.out)) hb); clear HO_45; clear HO_56; clear HB; have HO_45 := n0_; have HO_56 := n1_; have HB := n2_; clear n0_ n1_ n2_; (try clear hb); (try clear hb2); (try clear hk); (try clear hi)) | ((with_reducible refine gate_dst (N := 17) rfl ?_); (try (refine gate_guard (by rfl) ?_; dsimp only)); refine box_event ?hg (N := 17) ?hd (cs := #[.int .i64 0, .int .i64 0]) (t := 32) ?hr ?_; (case hd => rfl); (case hg => rfl); (case hr => first | (go_simp; done) | (go_simp; rfl)); intro gb270 hg w48 hbox hb; have n0_ := Aside0.mk (Kd.R_below (by (with_reducible repeat (first | apply Kd.R_alloc | apply Kd.R_drewN | apply Kd.R_drew)); exact HO_45.out) hb); have n1_ := Aside0.mk (Kd.R_below (by (with_reducible repeat (first | apply Kd.R_alloc | apply Kd.R_drewN | apply Kd.R_drew)); exact HO_56.out) hb); have n2_ := Aside0.mk (below_step (by repeat (first | (with_reducible first | exact HB.out | apply below_alloc | apply pw_below_drewN | apply below_drew1) | exact HB.out)) hb); have n3_ := Aside0.mk (hbox); have n4_ := Aside0.mk ((by rw [hg]; exact (below_size (by repeat (first | (with_reducible first | exact HB.out | apply below_alloc | apply pw_below_drewN | apply below_drew1) | exact HB.out))) : w.heap.size ≤ gb270)); have n5_ := Aside0.mk ((by rw [hg]; exact (below_size (by repeat (first | (with_reducible first | exact HB.out | apply below_alloc | apply pw_below_drewN | apply below_drew1) | exact HB.out))) : w.heap.size ≤ gb270)); clear HO_45; clear HO_56; clear HB; have HO_45 := n0_; have HO_56 := n1_; have HB := n2_; have BK270 := n3_; have GW270 := n4_; have GE270 := n5_; clear n0_ n1_ n2_ n3_ n4_ n5_; clear hb hbox hg; have hcz49_0 : w48.cell? ⟨gb270, 0, none⟩ = some (.int .i64 0) := (blk_cell BK270.out 0).trans rfl; have hcz49_1 : w48.cell? ⟨gb270, 1, none⟩ = some (.int .i64 0) := (blk_cell BK270.out 1).trans rfl; have hfz49_0 := blk_frozen BK270.out 0; have hfz49_1 := blk_frozen BK270.out 1) | ((with_reducible refine gate_callee (f := 15) rfl ?_); refine goesL_ (some 77) rfl rfl Try.func15 (by kernel_rfl) rfl #[.int .i64 t254, .string (rdOf ByteArray.empty y256 x47_2), .int .i64 (rd y261 x58_3)] rfl (by (try simp only [List.map_toArray, List.map_cons, List.map_nil]); first | done | rfl | (simp only [List.length_drop, List.length_take]; rfl)) ?_; (with_reducible refine (targumref17_Double.calls k3 t254 (rdOf ByteArray.empty y256 x47_2) (rd y261 x58_3) t271 t272 t273 t274 _ A35.out).mono ?_); rintro e w50 ⟨rfl, hb⟩; refine ⟨_, rfl, ?_⟩; have n0_ := Aside0.mk (Kd.R_below (by (with_reducible repeat (first | apply Kd.R_alloc | apply Kd.R_drewN | apply Kd.R_drew)); exact (Kd.R_mono (Kd.R_far (p := ⟨gb270, 1, none⟩) (Kd.R_far (p := ⟨gb270, 0, none⟩) (Kd.R_types HO_45.out BK270.out (by decide)) (fun _ hk => hk.2) (.int .i64 t268)) (fun _ hk => hk.2) (.int .i64 t269)) (fun _ h_ => h_.1))) hb); have n1_ := Aside0.mk (Kd.R_below (by (with_reducible repeat (first | apply Kd.R_alloc | apply Kd.R_drewN | apply Kd.R_drew)); exact (Kd.R_mono (Kd.R_far (p := ⟨gb270, 1, none⟩) (Kd.R_far (p := ⟨gb270, 0, none⟩) (Kd.R_types HO_56.out BK270.out (by decide)) (fun _ hk => hk.2) (.int .i64 t268)) (fun _ hk => hk.2) (.int .i64 t269)) (fun _ h_ => h_.1))) hb); have n2_ := Aside0.mk (blk_below (g := gb270) (o := .cells #[.int .i64 t268, .int .i64 t269] 32 (0, 0)) (by (with_reducible repeat (first | refine blk_drewN ?_ _ | refine blk_drew ?_ | refine blk_alloc ?_ _)); refine blk_put (cs := #[.int .i64 t268, .int .i64 0]) ?_ 1 _ rfl; (with_reducible repeat (first | refine blk_drewN ?_ _ | refine blk_drew ?_ | refine blk_alloc ?_ _)); refine blk_put (cs := #[.int .i64 0, .int .i64 0]) ?_ 0 _ rfl; (with_reducible repeat (first | refine blk_drewN ?_ _ | refine blk_drew ?_ | refine blk_alloc ?_ _)); exact BK270.out) hb); have n3_ := Aside0.mk (below_step (by repeat (first | (with_reducible first | exact HB.out | apply below_alloc | apply pw_below_drewN | apply below_drew1 | refine below_set ?_ GE270.out) | exact HB.out)) hb); clear HO_45; clear HO_56; clear BK270; clear HB; have HO_45 := n0_; have HO_56 := n1_; have BK270 := n2_; have HB := n3_; clear n0_ n1_ n2_ n3_; (try clear hb); (try clear hb2); (try clear hk); (try clear hi)) | ((with_reducible refine gate_dst (N := 20) rfl ?_); (try (refine gate_guard (by rfl) ?_; dsimp only)); refine box_event ?hg (N := 20) ?hd (cs := #[.int .i64 0, .int .i64 0]) (t := 32) ?hr ?_; (case hd => rfl); (case hg => rfl); (case hr => first | (go_simp; done) | (go_simp; rfl)); intro gb275 hg w51 hbox hb; have n0_ := Aside0.mk (Kd.R_below (by (with_reducible repeat (first | apply Kd.R_alloc | apply Kd.R_drewN | apply Kd.R_drew)); exact HO_45.out) hb); have n1_ := Aside0.mk (Kd.R_below (by (with_reducible repeat (first | apply Kd.R_alloc | apply Kd.R_drewN | apply Kd.R_drew)); exact HO_56.out) hb); have n2_ := Aside0.mk (blk_below (g := gb270) (o := .cells #[.int .i64 t268, .int .i64 t269] 32 (0, 0)) (by (with_reducible repeat (first | refine blk_drewN ?_ _ | refine blk_drew ?_ | refine blk_alloc ?_ _)); exact BK270.out) hb); have n3_ := Aside0.mk (below_step (by repeat (first | (with_reducible first | exact HB.out | apply below_alloc | apply pw_below_drewN | apply below_drew1 | refine below_set ?_ GE270.out) | exact HB.out)) hb); have n4_ := Aside0.mk (hbox); have n5_ := Aside0.mk ((by rw [hg]; exact (below_size (by repeat (first | (with_reducible first | exact HB.out | apply below_alloc | apply pw_below_drewN | apply below_drew1 | refine below_set ?_ GE270.out) | exact HB.out))) : w.heap.size ≤ gb275)); have n6_ := Aside0.mk ((by rw [hg]; exact (below_size (by repeat (first | (with_reducible first | exact HB.out | apply below_alloc | apply pw_below_drewN | apply below_drew1 | refine below_set ?_ GE270.out) | exact HB.out))) : w.heap.size ≤ gb275)); have n7_ := Aside0.mk ((by rw [hg]; exact Nat.ne_of_lt (blk_lt (g := gb270) (o := .cells #[.int .i64 t268, .int .i64 t269] 32 (0, 0)) (by (with_reducible repeat (first | refine blk_drewN ?_ _ | refine blk_drew ?_ | refine blk_alloc ?_ _)); exact BK270.out)) : gb270 ≠ gb275)); have n8_ := Aside0.mk ((by rw [hg]; exact Nat.ne_of_gt (blk_lt (g := gb270) (o := .cells #[.int .i64 t268, .int .i64 t269] 32 (0, 0)) (by (with_reducible repeat (first | refine blk_drewN ?_ _ | refine blk_drew ?_ | refine blk_alloc ?_ _)); exact BK270.out)) : gb275 ≠ gb270)); clear HO_45; clear HO_56; clear BK270; clear HB; have HO_45 := n0_; have HO_56 := n1_; have BK270 := n2_; have HB := n3_; have BK275 := n4_; have GW275 := n5_; have GE275 := n6_; have NB270_275 := n7_; have NB275_270 := n8_; clear n0_ n1_ n2_ n3_ n4_ n5_ n6_ n7_ n8_; clear hb hbox hg; have hnb52 := NB275_270.out; have hnc52 := NB270_275.out; have hcz53_0 : w51.cell? ⟨gb275, 0, none⟩ = some (.int .i64 0) := (blk_cell BK275.out 0).trans rfl; have hcz53_1 : w51.cell? ⟨gb275, 1, none⟩ = some (.int .i64 0) := (blk_cell BK275.out 1).trans rfl; have hfz53_0 := blk_frozen BK275.out 0; have hfz53_1 := blk_frozen BK275.out 1; have hcz54_0 : w51.cell? ⟨gb270, 0, none⟩ = some (.int .i64 t268) := (blk_cell BK270.out 0).trans rfl; have hcz54_1 : w51.cell? ⟨gb270, 1, none⟩ = some (.int .i64 t269) := (blk_cell BK270.out 1).trans rfl; have hfz54_0 := blk_frozen BK270.out 0; have hfz54_1 := blk_frozen BK270.out 1))
                                              go_roundg k3
                                              case measure => have := HJ6.out; have := HK2.out; have := HK3.out; omega
                                              case rel => exact ⟨(wrap64 (x58_3 + 1)), (by first | rfl | (simp; done) | (simp [*]; done)), H', ⟨by have := HJ6.out; have := HK2.out; have := HK3.out; omega⟩, ⟨by (with_reducible repeat (first | apply Kd.R_alloc | apply Kd.R_drewN | apply Kd.R_drew)); exact Kd.R_mono (Kd.R_far (p := ⟨gb275, 1, none⟩) (Kd.R_far (p := ⟨gb275, 0, none⟩) (Kd.R_types HO_45.out BK275.out (by decide)) (fun _ hk => hk.2) (.int .i64 t273)) (fun _ hk => hk.2) (.int .i64 t274)) (fun _ hk => trivial)⟩, ⟨by (with_reducible repeat (first | apply Kd.R_alloc | apply Kd.R_drewN | apply Kd.R_drew)); exact Kd.R_mono (Kd.R_far (p := ⟨gb275, 1, none⟩) (Kd.R_far (p := ⟨gb275, 0, none⟩) (Kd.R_types HO_56.out BK275.out (by decide)) (fun _ hk => hk.2) (.int .i64 t273)) (fun _ hk => hk.2) (.int .i64 t274)) (fun _ hk => trivial)⟩, ⟨by repeat (first | (with_reducible first | exact HB.out | apply below_alloc | apply pw_below_drewN | apply below_drew1 | refine below_set ?_ GE270.out | refine below_set ?_ GE275.out) | exact HB.out)⟩⟩
                                          · rw [if_neg c37] at H
                                            have c37b0 : (t267 == t272) = false := beq_eq_false_iff_ne.mpr c37
                                            have c37b1 : (t267 != t272) = true := bne_iff_ne.mpr c37
                                            have hrt := Option.some.inj H
                                            first | (exact absurd hrt (by decide)) | (
                                              try (have hp_ := hrt; simp only [Bool.and_eq_true] at hp_; simp (disch := omega) only [wrap_id] at hp_; have hp1_ := hp_.1; have hp2_ := hp_.2; have hp3_ := decide_eq_true (beq_iff_eq.mp hp1_); have hp4_ := decide_eq_true (beq_iff_eq.mp hp2_); clear hp_)
                                              have p264 : 0 ≤ (x58_3 : Int) := of_decide_eq_true (by first | (with_reducible assumption) | assumption)
                                              have q264 : x58_3 < (y261.length : Int) := of_decide_eq_true (by first | (with_reducible assumption) | assumption)
                                              obtain ⟨ad264, e264, hx264_0⟩ := Kd.at_int (Kd.R_reads' HO_56.out).2.2 x58_3 p264 q264
                                              cases e264
                                              replace p264 := eq_true p264
                                              replace q264 := eq_true q264
                                              go_wp2_with (first | ((with_reducible refine gate_callee (f := 13) rfl ?_); refine goesL_ (some 64) rfl rfl Try.func13 (by kernel_rfl) rfl #[.string (rdOf ByteArray.empty y256 x47_2), .int .i64 (rd y261 x58_3)] rfl (by (try simp only [List.map_toArray, List.map_cons, List.map_nil]); first | done | rfl | (simp only [List.length_drop, List.length_take]; rfl)) ?_; (with_reducible refine (targumhelp_Cut.calls (rdOf ByteArray.empty y256 x47_2) (rd y261 x58_3) false _ A32.out).mono ?_); rintro e w' ⟨rfl, ⟨nd, rfl⟩⟩; refine ⟨_, rfl, ?_⟩; (try (rw [drewN_self wr]; generalize hq_ : World.drewN wr _ = wr; have n0_ : Aside0 (Kd.R Kd.string 9 wr w.heap.size (fun _ => True) (.slice (some ad259) y256.length co21) y256) := ⟨by rw [← hq_]; exact (by (with_reducible repeat (first | apply Kd.R_alloc | apply Kd.R_drewN | apply Kd.R_drew)); exact HO_45.out)⟩; have n1_ : Aside0 (Kd.R (Kd.int .i64) 3 wr w.heap.size (fun _ => True) (.slice (some ad264) y261.length co28) y261) := ⟨by rw [← hq_]; exact (by (with_reducible repeat (first | apply Kd.R_alloc | apply Kd.R_drewN | apply Kd.R_drew)); exact HO_56.out)⟩; have n2_ : Aside0 (Below w.heap.size w wr) := ⟨by rw [← hq_]; exact (by repeat (first | (with_reducible first | exact HB.out | apply below_alloc | apply pw_below_drewN | apply below_drew1) | exact HB.out))⟩; clear HO_45 HO_56 HB hq_; have HO_45 := n0_; have HO_56 := n1_; have HB := n2_; clear n0_ n1_ n2_))) | ((with_reducible refine gate_callee (f := 14) rfl ?_); refine goesL_ (some 69) rfl rfl Try.func14 (by kernel_rfl) rfl #[.int .i64 t254, .string (rdOf ByteArray.empty y256 x47_2), .int .i64 (rd y261 x58_3)] rfl (by (try simp only [List.map_toArray, List.map_cons, List.map_nil]); first | done | rfl | (simp only [List.length_drop, List.length_take]; rfl)) ?_; (with_reducible refine (dquote_Read.calls t254 (rdOf ByteArray.empty y256 x47_2) (rd y261 x58_3) t266 t267 t268 t269 _ A34.out).mono ?_); rintro e w55 ⟨rfl, hb⟩; refine ⟨_, rfl, ?_⟩; have n0_ := Aside0.mk (Kd.R_below (by (with_reducible repeat (first | apply Kd.R_alloc | apply Kd.R_drewN | apply Kd.R_drew)); exact HO_45.out) hb); have n1_ := Aside0.mk (Kd.R_below (by (with_reducible repeat (first | apply Kd.R_alloc | apply Kd.R_drewN | apply Kd.R_drew)); exact HO_56.out) hb); have n2_ := Aside0.mk (below_step (by repeat (first | (with_reducible first | exact HB.out | apply below_alloc | apply pw_below_drewN | apply below_drew1) | exact HB.out)) hb); clear HO_45; clear HO_56; clear HB; have HO_45 := n0_; have HO_56 := n1_; have HB := n2_; clear n0_ n1_ n2_; (try clear hb); (try clear hb2); (try clear hk); (try clear hi)) | ((with_reducible refine gate_dst (N := 17) rfl ?_); (try (refine gate_guard (by rfl) ?_; dsimp only)); refine box_event ?hg (N := 17) ?hd (cs := #[.int .i64 0, .int .i64 0]) (t := 32) ?hr ?_; (case hd => rfl); (case hg => rfl); (case hr => first | (go_simp; done) | (go_simp; rfl)); intro gb270 hg w56 hbox hb; have n0_ := Aside0.mk (Kd.R_below (by (with_reducible repeat (first | apply Kd.R_alloc | apply Kd.R_drewN | apply Kd.R_drew)); exact HO_45.out) hb); have n1_ := Aside0.mk (Kd.R_below (by (with_reducible repeat (first | apply Kd.R_alloc | apply Kd.R_drewN | apply Kd.R_drew)); exact HO_56.out) hb); have n2_ := Aside0.mk (below_step (by repeat (first | (with_reducible first | exact HB.out | apply below_alloc | apply pw_below_drewN | apply below_drew1) | exact HB.out)) hb); have n3_ := Aside0.mk (hbox); have n4_ := Aside0.mk ((by rw [hg]; exact (below_size (by repeat (first | (with_reducible first | exact HB.out | apply below_alloc | apply pw_below_drewN | apply below_drew1) | exact HB.out))) : w.heap.size ≤ gb270)); have n5_ := Aside0.mk ((by rw [hg]; exact (below_size (by repeat (first | (with_reducible first | exact HB.out | apply below_alloc | apply pw_below_drewN | apply below_drew1) | exact HB.out))) : w.heap.size ≤ gb270)); clear HO_45; clear HO_56; clear HB; have HO_45 := n0_; have HO_56 := n1_; have HB := n2_; have BK270 := n3_; have GW270 := n4_; have GE270 := n5_; clear n0_ n1_ n2_ n3_ n4_ n5_; clear hb hbox hg; have hcz57_0 : w56.cell? ⟨gb270, 0, none⟩ = some (.int .i64 0) := (blk_cell BK270.out 0).trans rfl; have hcz57_1 : w56.cell? ⟨gb270, 1, none⟩ = some (.int .i64 0) := (blk_cell BK270.out 1).trans rfl; have hfz57_0 := blk_frozen BK270.out 0; have hfz57_1 := blk_frozen BK270.out 1) | ((with_reducible refine gate_callee (f := 15) rfl ?_); refine goesL_ (some 77) rfl rfl Try.func15 (by kernel_rfl) rfl #[.int .i64 t254, .string (rdOf ByteArray.empty y256 x47_2), .int .i64 (rd y261 x58_3)] rfl (by (try simp only [List.map_toArray, List.map_cons, List.map_nil]); first | done | rfl | (simp only [List.length_drop, List.length_take]; rfl)) ?_; (with_reducible refine (targumref17_Double.calls k3 t254 (rdOf ByteArray.empty y256 x47_2) (rd y261 x58_3) t271 t272 t273 t274 _ A35.out).mono ?_); rintro e w58 ⟨rfl, hb⟩; refine ⟨_, rfl, ?_⟩; have n0_ := Aside0.mk (Kd.R_below (by (with_reducible repeat (first | apply Kd.R_alloc | apply Kd.R_drewN | apply Kd.R_drew)); exact (Kd.R_mono (Kd.R_far (p := ⟨gb270, 1, none⟩) (Kd.R_far (p := ⟨gb270, 0, none⟩) (Kd.R_types HO_45.out BK270.out (by decide)) (fun _ hk => hk.2) (.int .i64 t268)) (fun _ hk => hk.2) (.int .i64 t269)) (fun _ h_ => h_.1))) hb); have n1_ := Aside0.mk (Kd.R_below (by (with_reducible repeat (first | apply Kd.R_alloc | apply Kd.R_drewN | apply Kd.R_drew)); exact (Kd.R_mono (Kd.R_far (p := ⟨gb270, 1, none⟩) (Kd.R_far (p := ⟨gb270, 0, none⟩) (Kd.R_types HO_56.out BK270.out (by decide)) (fun _ hk => hk.2) (.int .i64 t268)) (fun _ hk => hk.2) (.int .i64 t269)) (fun _ h_ => h_.1))) hb); have n2_ := Aside0.mk (blk_below (g := gb270) (o := .cells #[.int .i64 t268, .int .i64 t269] 32 (0, 0)) (by (with_reducible repeat (first | refine blk_drewN ?_ _ | refine blk_drew ?_ | refine blk_alloc ?_ _)); refine blk_put (cs := #[.int .i64 t268, .int .i64 0]) ?_ 1 _ rfl; (with_reducible repeat (first | refine blk_drewN ?_ _ | refine blk_drew ?_ | refine blk_alloc ?_ _)); refine blk_put (cs := #[.int .i64 0, .int .i64 0]) ?_ 0 _ rfl; (with_reducible repeat (first | refine blk_drewN ?_ _ | refine blk_drew ?_ | refine blk_alloc ?_ _)); exact BK270.out) hb); have n3_ := Aside0.mk (below_step (by repeat (first | (with_reducible first | exact HB.out | apply below_alloc | apply pw_below_drewN | apply below_drew1 | refine below_set ?_ GE270.out) | exact HB.out)) hb); clear HO_45; clear HO_56; clear BK270; clear HB; have HO_45 := n0_; have HO_56 := n1_; have BK270 := n2_; have HB := n3_; clear n0_ n1_ n2_ n3_; (try clear hb); (try clear hb2); (try clear hk); (try clear hi)) | ((with_reducible refine gate_dst (N := 20) rfl ?_); (try (refine gate_guard (by rfl) ?_; dsimp only)); refine box_event ?hg (N := 20) ?hd (cs := #[.int .i64 0, .int .i64 0]) (t := 32) ?hr ?_; (case hd => rfl); (case hg => rfl); (case hr => first | (go_simp; done) | (go_simp; rfl)); intro gb275 hg w59 hbox hb; have n0_ := Aside0.mk (Kd.R_below (by (with_reducible repeat (first | apply Kd.R_alloc | apply Kd.R_drewN | apply Kd.R_drew)); exact HO_45.out) hb); have n1_ := Aside0.mk (Kd.R_below (by (with_reducible repeat (first | apply Kd.R_alloc | apply Kd.R_drewN | apply Kd.R_drew)); exact HO_56.out) hb); have n2_ := Aside0.mk (blk_below (g := gb270) (o := .cells #[.int .i64 t268, .int .i64 t269] 32 (0, 0)) (by (with_reducible repeat (first | refine blk_drewN ?_ _ | refine blk_drew ?_ | refine blk_alloc ?_ _)); exact BK270.out) hb); have n3_ := Aside0.mk (below_step (by repeat (first | (with_reducible first | exact HB.out | apply below_alloc | apply pw_below_drewN | apply below_drew1 | refine below_set ?_ GE270.out) | exact HB.out)) hb); have n4_ := Aside0.mk (hbox); have n5_ := Aside0.mk ((by rw [hg]; exact (below_size (by repeat (first | (with_reducible first | exact HB.out | apply below_alloc | apply pw_below_drewN | apply below_drew1 | refine below_set ?_ GE270.out) | exact HB.out))) : w.heap.size ≤ gb275)); have n6_ := Aside0.mk ((by rw [hg]; exact (below_size (by repeat (first | (with_reducible first | exact HB.out | apply below_alloc | apply pw_below_drewN | apply below_drew1 | refine below_set ?_ GE270.out) | exact HB.out))) : w.heap.size ≤ gb275)); have n7_ := Aside0.mk ((by rw [hg]; exact Nat.ne_of_lt (blk_lt (g := gb270) (o := .cells #[.int .i64 t268, .int .i64 t269] 32 (0, 0)) (by (with_reducible repeat (first | refine blk_drewN ?_ _ | refine blk_drew ?_ | refine blk_alloc ?_ _)); exact BK270.out)) : gb270 ≠ gb275)); have n8_ := Aside0.mk ((by rw [hg]; exact Nat.ne_of_gt (blk_lt (g := gb270) (o := .cells #[.int .i64 t268, .int .i64 t269] 32 (0, 0)) (by (with_reducible repeat (first | refine blk_drewN ?_ _ | refine blk_drew ?_ | refine blk_alloc ?_ _)); exact BK270.out)) : gb275 ≠ gb270)); clear HO_45; clear HO_56; clear BK270; clear HB; have HO_45 := n0_; have HO_56 := n1_; have BK270 := n2_; have HB := n3_; have BK275 := n4_; have GW275 := n5_; have GE275 := n6_; have NB270_275 := n7_; have NB275_270 := n8_; clear n0_ n1_ n2_ n3_ n4_ n5_ n6_ n7_ n8_; clear hb hbox hg; have hnb60 := NB275_270.out; have hnc60 := NB270_275.out; have hcz61_0 : w59.cell? ⟨gb275, 0, none⟩ = some (.int .i64 0) := (blk_cell BK275.out 0).trans rfl; have hcz61_1 : w59.cell? ⟨gb275, 1, none⟩ = some (.int .i64 0) := (blk_cell BK275.out 1).trans rfl; have hfz61_0 := blk_frozen BK275.out 0; have hfz61_1 := blk_frozen BK275.out 1))
                                              go_ret
                                              exact ⟨by first | rfl | (have h1_ := hrt; simp (disch := omega) only [wrap_id] at h1_; exact congrArg (fun b => Ending.returned (Value.bool b)) h1_) | (exact congrArg (fun b => Ending.returned (Value.bool b)) hrt) | (simp [errW_none, errW_some] <;> rfl) | (simp [*, errW_none, errW_some] <;> rfl), by repeat (first | (with_reducible first | exact HB.out | apply below_alloc | apply pw_below_drewN | apply below_drew1 | refine below_set ?_ GE270.out | refine below_set ?_ GE275.out) | exact HB.out)⟩)
                                        · rw [if_neg c36] at H
                                          have c36b0 : (t266.toList == t271.toList) = false := beq_eq_false_iff_ne.mpr c36
                                          have c36b1 : (t266.toList != t271.toList) = true := bne_iff_ne.mpr c36
                                          have hrt := Option.some.inj H
                                          first | (exact absurd hrt (by decide)) | (
                                            try (have hp_ := hrt; simp only [Bool.and_eq_true] at hp_; simp (disch := omega) only [wrap_id] at hp_; have hp1_ := hp_.1; have hp2_ := hp_.2; have hp3_ := decide_eq_true (beq_iff_eq.mp hp1_); have hp4_ := decide_eq_true (beq_iff_eq.mp hp2_); clear hp_)
                                            have p264 : 0 ≤ (x58_3 : Int) := of_decide_eq_true (by first | (with_reducible assumption) | assumption)
                                            have q264 : x58_3 < (y261.length : Int) := of_decide_eq_true (by first | (with_reducible assumption) | assumption)
                                            obtain ⟨ad264, e264, hx264_0⟩ := Kd.at_int (Kd.R_reads' HO_56.out).2.2 x58_3 p264 q264
                                            cases e264
                                            replace p264 := eq_true p264
                                            replace q264 := eq_true q264
                                            go_wp2_with (first | ((with_reducible refine gate_callee (f := 13) rfl ?_); refine goesL_ (some 64) rfl rfl Try.func13 (by kernel_rfl) rfl #[.string (rdOf ByteArray.empty y256 x47_2), .int .i64 (rd y261 x58_3)] rfl (by (try simp only [List.map_toArray, List.map_cons, List.map_nil]); first | done | rfl | (simp only [List.length_drop, List.length_take]; rfl)) ?_; (with_reducible refine (targumhelp_Cut.calls (rdOf ByteArray.empty y256 x47_2) (rd y261 x58_3) false _ A32.out).mono ?_); rintro e w' ⟨rfl, ⟨nd, rfl⟩⟩; refine ⟨_, rfl, ?_⟩; (try (rw [drewN_self wr]; generalize hq_ : World.drewN wr _ = wr; have n0_ : Aside0 (Kd.R Kd.string 9 wr w.heap.size (fun _ => True) (.slice (some ad259) y256.length co21) y256) := ⟨by rw [← hq_]; exact (by (with_reducible repeat (first | apply Kd.R_alloc | apply Kd.R_drewN | apply Kd.R_drew)); exact HO_45.out)⟩; have n1_ : Aside0 (Kd.R (Kd.int .i64) 3 wr w.heap.size (fun _ => True) (.slice (some ad264) y261.length co28) y261) := ⟨by rw [← hq_]; exact (by (with_reducible repeat (first | apply Kd.R_alloc | apply Kd.R_drewN | apply Kd.R_drew)); exact HO_56.out)⟩; have n2_ : Aside0 (Below w.heap.size w wr) := ⟨by rw [← hq_]; exact (by repeat (first | (with_reducible first | exact HB.out | apply below_alloc | apply pw_below_drewN | apply below_drew1) | exact HB.out))⟩; clear HO_45 HO_56 HB hq_; have HO_45 := n0_; have HO_56 := n1_; have HB := n2_; clear n0_ n1_ n2_))) | ((with_reducible refine gate_callee (f := 14) rfl ?_); refine goesL_ (some 69) rfl rfl Try.func14 (by kernel_rfl) rfl #[.int .i64 t254, .string (rdOf ByteArray.empty y256 x47_2), .int .i64 (rd y261 x58_3)] rfl (by (try simp only [List.map_toArray, List.map_cons, List.map_nil]); first | done | rfl | (simp only [List.length_drop, List.length_take]; rfl)) ?_; (with_reducible refine (dquote_Read.calls t254 (rdOf ByteArray.empty y256 x47_2) (rd y261 x58_3) t266 t267 t268 t269 _ A34.out).mono ?_); rintro e w62 ⟨rfl, hb⟩; refine ⟨_, rfl, ?_⟩; have n0_ := Aside0.mk (Kd.R_below (by (with_reducible repeat (first | apply Kd.R_alloc | apply Kd.R_drewN | apply Kd.R_drew)); exact HO_45.out) hb); have n1_ := Aside0.mk (Kd.R_below (by (with_reducible repeat (first | apply Kd.R_alloc | apply Kd.R_drewN | apply Kd.R_drew)); exact HO_56.out) hb); have n2_ := Aside0.mk (below_step (by repeat (first | (with_reducible first | exact HB.out | apply below_alloc | apply pw_below_drewN | apply below_drew1) | exact HB.out)) hb); clear HO_45; clear HO_56; clear HB; have HO_45 := n0_; have HO_56 := n1_; have HB := n2_; clear n0_ n1_ n2_; (try clear hb); (try clear hb2); (try clear hk); (try clear hi)) | ((with_reducible refine gate_dst (N := 17) rfl ?_); (try (refine gate_guard (by rfl) ?_; dsimp only)); refine box_event ?hg (N := 17) ?hd (cs := #[.int .i64 0, .int .i64 0]) (t := 32) ?hr ?_; (case hd => rfl); (case hg => rfl); (case hr => first | (go_simp; done) | (go_simp; rfl)); intro gb270 hg w63 hbox hb; have n0_ := Aside0.mk (Kd.R_below (by (with_reducible repeat (first | apply Kd.R_alloc | apply Kd.R_drewN | apply Kd.R_drew)); exact HO_45.out) hb); have n1_ := Aside0.mk (Kd.R_below (by (with_reducible repeat (first | apply Kd.R_alloc | apply Kd.R_drewN | apply Kd.R_drew)); exact HO_56.out) hb); have n2_ := Aside0.mk (below_step (by repeat (first | (with_reducible first | exact HB.out | apply below_alloc | apply pw_below_drewN | apply below_drew1) | exact HB.out)) hb); have n3_ := Aside0.mk (hbox); have n4_ := Aside0.mk ((by rw [hg]; exact (below_size (by repeat (first | (with_reducible first | exact HB.out | apply below_alloc | apply pw_below_drewN | apply below_drew1) | exact HB.out))) : w.heap.size ≤ gb270)); have n5_ := Aside0.mk ((by rw [hg]; exact (below_size (by repeat (first | (with_reducible first | exact HB.out | apply below_alloc | apply pw_below_drewN | apply below_drew1) | exact HB.out))) : w.heap.size ≤ gb270)); clear HO_45; clear HO_56; clear HB; have HO_45 := n0_; have HO_56 := n1_; have HB := n2_; have BK270 := n3_; have GW270 := n4_; have GE270 := n5_; clear n0_ n1_ n2_ n3_ n4_ n5_; clear hb hbox hg; have hcz64_0 : w63.cell? ⟨gb270, 0, none⟩ = some (.int .i64 0) := (blk_cell BK270.out 0).trans rfl; have hcz64_1 : w63.cell? ⟨gb270, 1, none⟩ = some (.int .i64 0) := (blk_cell BK270.out 1).trans rfl; have hfz64_0 := blk_frozen BK270.out 0; have hfz64_1 := blk_frozen BK270.out 1) | ((with_reducible refine gate_callee (f := 15) rfl ?_); refine goesL_ (some 77) rfl rfl Try.func15 (by kernel_rfl) rfl #[.int .i64 t254, .string (rdOf ByteArray.empty y256 x47_2), .int .i64 (rd y261 x58_3)] rfl (by (try simp only [List.map_toArray, List.map_cons, List.map_nil]); first | done | rfl | (simp only [List.length_drop, List.length_take]; rfl)) ?_; (with_reducible refine (targumref17_Double.calls k3 t254 (rdOf ByteArray.empty y256 x47_2) (rd y261 x58_3) t271 t272 t273 t274 _ A35.out).mono ?_); rintro e w65 ⟨rfl, hb⟩; refine ⟨_, rfl, ?_⟩; have n0_ := Aside0.mk (Kd.R_below (by (with_reducible repeat (first | apply Kd.R_alloc | apply Kd.R_drewN | apply Kd.R_drew)); exact (Kd.R_mono (Kd.R_far (p := ⟨gb270, 1, none⟩) (Kd.R_far (p := ⟨gb270, 0, none⟩) (Kd.R_types HO_45.out BK270.out (by decide)) (fun _ hk => hk.2) (.int .i64 t268)) (fun _ hk => hk.2) (.int .i64 t269)) (fun _ h_ => h_.1))) hb); have n1_ := Aside0.mk (Kd.R_below (by (with_reducible repeat (first | apply Kd.R_alloc | apply Kd.R_drewN | apply Kd.R_drew)); exact (Kd.R_mono (Kd.R_far (p := ⟨gb270, 1, none⟩) (Kd.R_far (p := ⟨gb270, 0, none⟩) (Kd.R_types HO_56.out BK270.out (by decide)) (fun _ hk => hk.2) (.int .i64 t268)) (fun _ hk => hk.2) (.int .i64 t269)) (fun _ h_ => h_.1))) hb); have n2_ := Aside0.mk (blk_below (g := gb270) (o := .cells #[.int .i64 t268, .int .i64 t269] 32 (0, 0)) (by (with_reducible repeat (first | refine blk_drewN ?_ _ | refine blk_drew ?_ | refine blk_alloc ?_ _)); refine blk_put (cs := #[.int .i64 t268, .int .i64 0]) ?_ 1 _ rfl; (with_reducible repeat (first | refine blk_drewN ?_ _ | refine blk_drew ?_ | refine blk_alloc ?_ _)); refine blk_put (cs := #[.int .i64 0, .int .i64 0]) ?_ 0 _ rfl; (with_reducible repeat (first | refine blk_drewN ?_ _ | refine blk_drew ?_ | refine blk_alloc ?_ _)); exact BK270.out) hb); have n3_ := Aside0.mk (below_step (by repeat (first | (with_reducible first | exact HB.out | apply below_alloc | apply pw_below_drewN | apply below_drew1 | refine below_set ?_ GE270.out) | exact HB.out)) hb); clear HO_45; clear HO_56; clear BK270; clear HB; have HO_45 := n0_; have HO_56 := n1_; have BK270 := n2_; have HB := n3_; clear n0_ n1_ n2_ n3_; (try clear hb); (try clear hb2); (try clear hk); (try clear hi)) | ((with_reducible refine gate_dst (N := 20) rfl ?_); (try (refine gate_guard (by rfl) ?_; dsimp only)); refine box_event ?hg (N := 20) ?hd (cs := #[.int .i64 0, .int .i64 0]) (t := 32) ?hr ?_; (case hd => rfl); (case hg => rfl); (case hr => first | (go_simp; done) | (go_simp; rfl)); intro gb275 hg w66 hbox hb; have n0_ := Aside0.mk (Kd.R_below (by (with_reducible repeat (first | apply Kd.R_alloc | apply Kd.R_drewN | apply Kd.R_drew)); exact HO_45.out) hb); have n1_ := Aside0.mk (Kd.R_below (by (with_reducible repeat (first | apply Kd.R_alloc | apply Kd.R_drewN | apply Kd.R_drew)); exact HO_56.out) hb); have n2_ := Aside0.mk (blk_below (g := gb270) (o := .cells #[.int .i64 t268, .int .i64 t269] 32 (0, 0)) (by (with_reducible repeat (first | refine blk_drewN ?_ _ | refine blk_drew ?_ | refine blk_alloc ?_ _)); exact BK270.out) hb); have n3_ := Aside0.mk (below_step (by repeat (first | (with_reducible first | exact HB.out | apply below_alloc | apply pw_below_drewN | apply below_drew1 | refine below_set ?_ GE270.out) | exact HB.out)) hb); have n4_ := Aside0.mk (hbox); have n5_ := Aside0.mk ((by rw [hg]; exact (below_size (by repeat (first | (with_reducible first | exact HB.out | apply below_alloc | apply pw_below_drewN | apply below_drew1 | refine below_set ?_ GE270.out) | exact HB.out))) : w.heap.size ≤ gb275)); have n6_ := Aside0.mk ((by rw [hg]; exact (below_size (by repeat (first | (with_reducible first | exact HB.out | apply below_alloc | apply pw_below_drewN | apply below_drew1 | refine below_set ?_ GE270.out) | exact HB.out))) : w.heap.size ≤ gb275)); have n7_ := Aside0.mk ((by rw [hg]; exact Nat.ne_of_lt (blk_lt (g := gb270) (o := .cells #[.int .i64 t268, .int .i64 t269] 32 (0, 0)) (by (with_reducible repeat (first | refine blk_drewN ?_ _ | refine blk_drew ?_ | refine blk_alloc ?_ _)); exact BK270.out)) : gb270 ≠ gb275)); have n8_ := Aside0.mk ((by rw [hg]; exact Nat.ne_of_gt (blk_lt (g := gb270) (o := .cells #[.int .i64 t268, .int .i64 t269] 32 (0, 0)) (by (with_reducible repeat (first | refine blk_drewN ?_ _ | refine blk_drew ?_ | refine blk_alloc ?_ _)); exact BK270.out)) : gb275 ≠ gb270)); clear HO_45; clear HO_56; clear BK270; clear HB; have HO_45 := n0_; have HO_56 := n1_; have BK270 := n2_; have HB := n3_; have BK275 := n4_; have GW275 := n5_; have GE275 := n6_; have NB270_275 := n7_; have NB275_270 := n8_; clear n0_ n1_ n2_ n3_ n4_ n5_ n6_ n7_ n8_; clear hb hbox hg; have hnb67 := NB275_270.out; have hnc67 := NB270_275.out; have hcz68_0 : w66.cell? ⟨gb275, 0, none⟩ = some (.int .i64 0) := (blk_cell BK275.out 0).trans rfl; have hcz68_1 : w66.cell? ⟨gb275, 1, none⟩ = some (.int .i64 0) := (blk_cell BK275.out 1).trans rfl; have hfz68_0 := blk_frozen BK275.out 0; have hfz68_1 := blk_frozen BK275.out 1))
                                            go_ret
                                            exact ⟨by first | rfl | (have h1_ := hrt; simp (disch := omega) only [wrap_id] at h1_; exact congrArg (fun b => Ending.returned (Value.bool b)) h1_) | (exact congrArg (fun b => Ending.returned (Value.bool b)) hrt) | (simp [errW_none, errW_some] <;> rfl) | (simp [*, errW_none, errW_some] <;> rfl), by repeat (first | (with_reducible first | exact HB.out | apply below_alloc | apply pw_below_drewN | apply below_drew1 | refine below_set ?_ GE270.out | refine below_set ?_ GE275.out) | exact HB.out)⟩)
                                    · rw [if_neg c31] at H
                                      exact absurd H (by simp)
                                  · rw [if_neg c30] at H
                                    exact absurd H (by simp)
                                · rw [if_neg c29] at H
                                  have c29b0 : decide (x58_3 < (y261.length : Int)) = false := decide_eq_false c29
                                  clear c29
                                  have H' := Aside0.mk H
                                  clear H
                                  go_wp2
                                  go_roundg k3
                                  case measure => have := HJ6.out; have := HK2.out; have := HK3.out; omega
                                  case rel => exact ⟨(wrap64 (x47_2 + 1)), (by first | rfl | (simp; done) | (simp [*]; done)), H', ⟨by have := HJ6.out; have := HK2.out; have := HK3.out; omega⟩, ⟨by (with_reducible repeat (first | apply Kd.R_alloc | apply Kd.R_drewN | apply Kd.R_drew)); exact HO_45.out⟩, ⟨by repeat (first | (with_reducible first | exact HB.out | apply below_alloc | apply pw_below_drewN | apply below_drew1) | exact HB.out)⟩⟩
                          · rw [if_neg c24] at H
                            exact absurd H (by simp)
                        · rw [if_neg c23] at H
                          exact absurd H (by simp)
                      · rw [if_neg c22] at H
                        have c22b0 : decide (x47_2 < (y256.length : Int)) = false := decide_eq_false c22
                        clear c22
                        have hrt := Option.some.inj H
                        first | (exact absurd hrt (by decide)) | (
                          try (have hp_ := hrt; simp only [Bool.and_eq_true] at hp_; simp (disch := omega) only [wrap_id] at hp_; have hp1_ := hp_.1; have hp2_ := hp_.2; have hp3_ := decide_eq_true (beq_iff_eq.mp hp1_); have hp4_ := decide_eq_true (beq_iff_eq.mp hp2_); clear hp_)
                          go_wp2
                          go_ret
                          exact ⟨by first | rfl | (have h1_ := hrt; simp (disch := omega) only [wrap_id] at h1_; exact congrArg (fun b => Ending.returned (Value.bool b)) h1_) | (exact congrArg (fun b => Ending.returned (Value.bool b)) hrt) | (simp [errW_none, errW_some] <;> rfl) | (simp [*, errW_none, errW_some] <;> rfl), by repeat (first | (with_reducible first | exact HB.out | apply below_alloc | apply pw_below_drewN | apply below_drew1) | exact HB.out)⟩)
                · rw [if_neg c17] at H
                  exact absurd H (by simp)
              · rw [if_neg c16] at H
                exact absurd H (by simp)
            · rw [if_neg c15] at H
              exact absurd H (by simp)
          · rw [if_neg c14] at H
            exact absurd H (by simp)
  · replace c6 := Bool.eq_false_iff.mpr c6
    subst c6
    have H1 : (some false) = some true := by rw [if_neg (show ¬ (false = true) by decide)] at H <;> exact H
    clear H
    have H := H1
    clear H1
    have hrt := Option.some.inj H
    first | (exact absurd hrt (by decide)) | (
      try (have hp_ := hrt; simp only [Bool.and_eq_true] at hp_; simp (disch := omega) only [wrap_id] at hp_; have hp1_ := hp_.1; have hp2_ := hp_.2; have hp3_ := decide_eq_true (beq_iff_eq.mp hp1_); have hp4_ := decide_eq_true (beq_iff_eq.mp hp2_); clear hp_)
      go_enter Try.func3, Try.ntmps3
      go_wp2_with (first | ((with_reducible refine gate_callee (f := 8) rfl ?_); refine goesL_ (some 21) rfl rfl Try.func8 (by kernel_rfl) rfl #[] rfl (by (try simp only [List.map_toArray, List.map_cons, List.map_nil]); first | done | rfl | (simp only [List.length_drop, List.length_take]; rfl)) ?_; (with_reducible refine (targumlaw17_known.calls  false _ A5.out).mono ?_); rintro e w69 ⟨rfl, hb⟩; refine ⟨_, rfl, ?_⟩; have n0_ := Aside0.mk (below_step (by repeat (first | (with_reducible first | exact HB.out | apply below_alloc | apply pw_below_drewN | apply below_drew1) | exact HB.out)) hb); clear HB; have HB := n0_; clear n0_; (try clear hb); (try clear hb2); (try clear hk); (try clear hi)))
      go_ret
      exact ⟨by first | rfl | (have h1_ := hrt; simp (disch := omega) only [wrap_id] at h1_; exact congrArg (fun b => Ending.returned (Value.bool b)) h1_) | (exact congrArg (fun b => Ending.returned (Value.bool b)) hrt) | (simp [errW_none, errW_some] <;> rfl) | (simp [*, errW_none, errW_some] <;> rfl), by repeat (first | (with_reducible first | exact HB.out | apply below_alloc | apply pw_below_drewN | apply below_drew1) | exact HB.out)⟩)
end Go.Proofs.Ytgbnbjajaaggkaa.Q
