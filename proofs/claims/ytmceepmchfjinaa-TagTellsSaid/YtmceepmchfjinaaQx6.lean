-- Written by hookprint.py (a program of this project, over the kit's printer). Not trusted: Lean checks it.
import Derived.Test.YtmceepmchfjinaaQx0
import Derived.Test.YtmceepmchfjinaaQx1
import Derived.Test.YtmceepmchfjinaaQx2
import Derived.Test.YtmceepmchfjinaaQx3
import Derived.Test.YtmceepmchfjinaaQx4
import Derived.Test.YtmceepmchfjinaaQx5
namespace Go.Proofs.Ytmceepmchfjinaa.Q
open Go.RowKit Go.Proofs.YtmceepmchfjinaaW.PrintWords Go.Proofs.YtmceepmchfjinaaW.PrintLast Go.Proofs.YtmceepmchfjinaaW.PrintMore
attribute [local go_sem] max2_int min2_int max_two min_two max_three min_three max_four min_four   -- for this text's walks alone
set_option linter.unusedVariables false
set_option linter.unusedSimpArgs false

attribute [local go_sem high] eqA23
/-! ### targumlaw12_TagTells: function 3 -/
mutual
def targumlaw12_TagTells.j0 : Nat → ByteArray → Int → List (S39) → Bool → Bool → ByteArray → ByteArray → Option (Bool)
  | 0, _, _, _, _, _, _, _ => none
  | k + 1, x0, x1, x3, x34, x149000, x149001, x149002 => if x34 = true then (some true) else ((targumhelp_Within.f x1 0 20).bind fun t150 => ((some (([x1, 0, t150] : List Int) : List Int)).bind fun y151 => (targumlaw12_TagTells.l0 k x0 x3 y151 (y151.length : Int) 0 x149000 x149001 x149002)))
def targumlaw12_TagTells.l0 : Nat → ByteArray → List (S39) → List Int → Int → Int → Bool → ByteArray → ByteArray → Option (Bool)
  | 0, _, _, _, _, _, _, _, _ => none
  | k + 1, x0, x3, x38, x39, x40, x149000, x149001, x149002 => if x40 < x39 then (if 0 ≤ x40 then (if x40 < (x38.length : Int) then ((tagname_Read.f x0 (rd x38 x40)).bind fun bt155 => ((targumref12_Read.f k x0 (rd x38 x40)).bind fun bt161 => (if (!(bt155.1 == bt161.1) || (!(bt155.2.1.toList == bt161.2.1.toList) || (!(bt155.2.2.1.toList == bt161.2.2.1.toList)))) = true then (targumlaw12_TagTells.j2 k x0 x3 x38 x39 x40 true x149000 x149001 x149002 bt155.1 bt155.2.1 bt155.2.2.1 bt161.1 bt161.2.1 bt161.2.2.1) else (if bt155.2.2.2.1 = bt161.2.2.2.1 then (targumlaw12_TagTells.j2 k x0 x3 x38 x39 x40 (bt155.2.2.2.2 != bt161.2.2.2.2) x149000 x149001 x149002 bt155.1 bt155.2.1 bt155.2.2.1 bt161.1 bt161.2.1 bt161.2.2.1) else (targumlaw12_TagTells.j2 k x0 x3 x38 x39 x40 true x149000 x149001 x149002 bt155.1 bt155.2.1 bt155.2.2.1 bt161.1 bt161.2.1 bt161.2.2.1))))) else (none)) else (none)) else ((tagname_Expand.f x149000 x149001 x149002 x3).bind fun bt171 => ((targumref12_Expand.f k x149000 x149001 x149002 x3).bind fun bt173 => (if bt171.1.toList = bt173.1.toList then (if (bt171.2 == bt173.2) = true then ((tagname_Good.f x0).bind fun t175 => ((targumref12_Good.f k x0).bind fun t176 => (if (t175 == t176) = true then ((tagname_Write.f x0).bind fun t177 => ((targumref12_Write.f k x0).bind fun t178 => (some (t177.toList == t178.toList)))) else (some false)))) else (some false)) else (some false))))
def targumlaw12_TagTells.j2 : Nat → ByteArray → List (S39) → List Int → Int → Int → Bool → Bool → ByteArray → ByteArray → Bool → ByteArray → ByteArray → Bool → ByteArray → ByteArray → Option (Bool)
  | 0, _, _, _, _, _, _, _, _, _, _, _, _, _, _, _ => none
  | k + 1, x0, x3, x38, x39, x40, x70, x149000, x149001, x149002, x161000, x161001, x161002, x167000, x167001, x167002 => if x70 = true then (some false) else ((tagname_Expand.f x161000 x161001 x161002 x3).bind fun bt167 => ((targumref12_Expand.f k x167000 x167001 x167002 x3).bind fun bt169 => (if bt167.1.toList = bt169.1.toList then (if (bt167.2 != bt169.2) = true then (some false) else (targumlaw12_TagTells.l0 k x0 x3 x38 x39 (wrap64 (x40 + 1)) x149000 x149001 x149002)) else (some false))))
end
def targumlaw12_TagTells.f (k : Nat) (a0 : ByteArray) (a1 : Int) (a2_0 : Bool) (a2_1 : ByteArray) (a2_2 : ByteArray) (l3 : List (S39)) : Option (Bool) := (targumlaw12_known.f).bind fun t149 => (if t149 = true then (if (a0.size : Int) > 200 then (targumlaw12_TagTells.j0 k a0 a1 l3 true a2_0 a2_1 a2_2) else (targumlaw12_TagTells.j0 k a0 a1 l3 (decide ((l3.length : Int) > 30)) a2_0 a2_1 a2_2)) else (some false))
theorem targumlaw12_TagTells.mono_l : ∀ k, (∀ y0 y1 y2 y3 y4 y5 y6, LeO (targumlaw12_TagTells.j0 k y0 y1 y2 y3 y4 y5 y6) (targumlaw12_TagTells.j0 (k + 1) y0 y1 y2 y3 y4 y5 y6)) ∧ (∀ y0 y1 y2 y3 y4 y5 y6 y7, LeO (targumlaw12_TagTells.l0 k y0 y1 y2 y3 y4 y5 y6 y7) (targumlaw12_TagTells.l0 (k + 1) y0 y1 y2 y3 y4 y5 y6 y7)) ∧ (∀ y0 y1 y2 y3 y4 y5 y6 y7 y8 y9 y10 y11 y12 y13 y14, LeO (targumlaw12_TagTells.j2 k y0 y1 y2 y3 y4 y5 y6 y7 y8 y9 y10 y11 y12 y13 y14) (targumlaw12_TagTells.j2 (k + 1) y0 y1 y2 y3 y4 y5 y6 y7 y8 y9 y10 y11 y12 y13 y14))
  | 0 => ⟨fun _ _ _ _ _ _ _ r h => by simp [targumlaw12_TagTells.j0] at h, fun _ _ _ _ _ _ _ _ r h => by simp [targumlaw12_TagTells.l0] at h, fun _ _ _ _ _ _ _ _ _ _ _ _ _ _ _ r h => by simp [targumlaw12_TagTells.j2] at h⟩
  | k + 1 => by
    obtain ⟨ih0, ih1, ih2⟩ := targumlaw12_TagTells.mono_l k
    refine ⟨?_, ?_, ?_⟩
    · intro y0 y1 y2 y3 y4 y5 y6
      unfold targumlaw12_TagTells.j0
      repeat' first
      | (with_reducible exact ih0 _ _ _ _ _ _ _)
      | (with_reducible exact ih1 _ _ _ _ _ _ _ _)
      | (with_reducible exact ih2 _ _ _ _ _ _ _ _ _ _ _ _ _ _ _)
      | (with_reducible exact targumref12_Expand.mono _ _ _ _ _)
      | (with_reducible exact targumref12_Good.mono _ _)
      | (with_reducible exact targumref12_Read.mono _ _ _)
      | (with_reducible exact targumref12_Write.mono _ _)
      | (with_reducible exact LeO.refl _)
      | (with_reducible exact LeO.none _)
      | (with_reducible refine LeO.ite ?_ ?_)
      | (with_reducible refine LeO.bind ?_ (fun _ => ?_))
      | exact ih0 _ _ _ _ _ _ _
      | exact ih1 _ _ _ _ _ _ _ _
      | exact ih2 _ _ _ _ _ _ _ _ _ _ _ _ _ _ _
      | exact targumref12_Expand.mono _ _ _ _ _
      | exact targumref12_Good.mono _ _
      | exact targumref12_Read.mono _ _ _
      | exact targumref12_Write.mono _ _
      | exact LeO.none _
      | refine LeO.ite ?_ ?_
      | refine LeO.bind ?_ (fun _ => ?_)
    · intro y0 y1 y2 y3 y4 y5 y6 y7
      unfold targumlaw12_TagTells.l0
      repeat' first
      | (with_reducible exact ih0 _ _ _ _ _ _ _)
      | (with_reducible exact ih1 _ _ _ _ _ _ _ _)
      | (with_reducible exact ih2 _ _ _ _ _ _ _ _ _ _ _ _ _ _ _)
      | (with_reducible exact targumref12_Expand.mono _ _ _ _ _)
      | (with_reducible exact targumref12_Good.mono _ _)
      | (with_reducible exact targumref12_Read.mono _ _ _)
      | (with_reducible exact targumref12_Write.mono _ _)
      | (with_reducible exact LeO.refl _)
      | (with_reducible exact LeO.none _)
      | (with_reducible refine LeO.ite ?_ ?_)
      | (with_reducible refine LeO.bind ?_ (fun _ => ?_))
      | exact ih0 _ _ _ _ _ _ _
      | exact ih1 _ _ _ _ _ _ _ _
      | exact ih2 _ _ _ _ _ _ _ _ _ _ _ _ _ _ _
      | exact targumref12_Expand.mono _ _ _ _ _
      | exact targumref12_Good.mono _ _
      | exact targumref12_Read.mono _ _ _
      | exact targumref12_Write.mono _ _
      | exact LeO.none _
      | refine LeO.ite ?_ ?_
      | refine LeO.bind ?_ (fun _ => ?_)
    · intro y0 y1 y2 y3 y4 y5 y6 y7 y8 y9 y10 y11 y12 y13 y14
      unfold targumlaw12_TagTells.j2
      repeat' first
      | (with_reducible exact ih0 _ _ _ _ _ _ _)
      | (with_reducible exact ih1 _ _ _ _ _ _ _ _)
      | (with_reducible exact ih2 _ _ _ _ _ _ _ _ _ _ _ _ _ _ _)
      | (with_reducible exact targumref12_Expand.mono _ _ _ _ _)
      | (with_reducible exact targumref12_Good.mono _ _)
      | (with_reducible exact targumref12_Read.mono _ _ _)
      | (with_reducible exact targumref12_Write.mono _ _)
      | (with_reducible exact LeO.refl _)
      | (with_reducible exact LeO.none _)
      | (with_reducible refine LeO.ite ?_ ?_)
      | (with_reducible refine LeO.bind ?_ (fun _ => ?_))
      | exact ih0 _ _ _ _ _ _ _
      | exact ih1 _ _ _ _ _ _ _ _
      | exact ih2 _ _ _ _ _ _ _ _ _ _ _ _ _ _ _
      | exact targumref12_Expand.mono _ _ _ _ _
      | exact targumref12_Good.mono _ _
      | exact targumref12_Read.mono _ _ _
      | exact targumref12_Write.mono _ _
      | exact LeO.none _
      | refine LeO.ite ?_ ?_
      | refine LeO.bind ?_ (fun _ => ?_)
theorem targumlaw12_TagTells.mono : ∀ a0 a1 a2 a3 a4 a5 k, LeO (targumlaw12_TagTells.f k a0 a1 a2 a3 a4 a5) (targumlaw12_TagTells.f (k + 1) a0 a1 a2 a3 a4 a5) := by
  intro a0 a1 a2 a3 a4 a5 k
  obtain ⟨ih0, ih1, ih2⟩ := targumlaw12_TagTells.mono_l k
  unfold targumlaw12_TagTells.f
  repeat' first
      | (with_reducible exact ih0 _ _ _ _ _ _ _)
      | (with_reducible exact ih1 _ _ _ _ _ _ _ _)
      | (with_reducible exact ih2 _ _ _ _ _ _ _ _ _ _ _ _ _ _ _)
      | (with_reducible exact targumref12_Expand.mono _ _ _ _ _)
      | (with_reducible exact targumref12_Good.mono _ _)
      | (with_reducible exact targumref12_Read.mono _ _ _)
      | (with_reducible exact targumref12_Write.mono _ _)
      | (with_reducible exact LeO.refl _)
      | (with_reducible exact LeO.none _)
      | (with_reducible refine LeO.ite ?_ ?_)
      | (with_reducible refine LeO.bind ?_ (fun _ => ?_))
      | exact ih0 _ _ _ _ _ _ _
      | exact ih1 _ _ _ _ _ _ _ _
      | exact ih2 _ _ _ _ _ _ _ _ _ _ _ _ _ _ _
      | exact targumref12_Expand.mono _ _ _ _ _
      | exact targumref12_Good.mono _ _
      | exact targumref12_Read.mono _ _ _
      | exact targumref12_Write.mono _ _
      | exact LeO.none _
      | refine LeO.ite ?_ ?_
      | refine LeO.bind ?_ (fun _ => ?_)
set_option maxHeartbeats 8000000 in
set_option maxRecDepth 100000 in
theorem targumlaw12_TagTells.calls (k : Nat) (a0 : ByteArray) (a1 : Int) (a2_0 : Bool) (a2_1 : ByteArray) (a2_2 : ByteArray) (A3 : Option Addr) (c3 : Nat) (l3 : List (S39)) (r : Bool) (w : World) (hr3 : Kd.C k39 w A3 l3.length l3) (hc3 : l3.length ≤ c3) (h : targumlaw12_TagTells.f k a0 a1 a2_0 a2_1 a2_2 l3 = some r) :
    Calls Try.prog 3 #[.string a0, .int .i64 a1, .agg #[.bool a2_0, .string a2_1, .string a2_2], .slice A3 l3.length c3] w fun e w' => e = .returned (.bool r) ∧ Below w.heap.size w w' := by
  have hu23 := Try.underlying23
  have HR3 := Aside0.mk hr3
  have HC3 := Aside0.mk hc3
  clear hr3 hc3
  have HB := Aside0.mk (Below.refl w.heap.size w)
  have H : ((targumlaw12_known.f).bind fun t149 => (if t149 = true then (if (a0.size : Int) > 200 then (targumlaw12_TagTells.j0 k a0 a1 l3 true a2_0 a2_1 a2_2) else (targumlaw12_TagTells.j0 k a0 a1 l3 (decide ((l3.length : Int) > 30)) a2_0 a2_1 a2_2)) else (some false))) = some r := h
  clear h
  replace H := Option.bind_eq_some_iff.mp H
  obtain ⟨t149, A50, H⟩ := H
  replace H : (if t149 = true then (if (a0.size : Int) > 200 then (targumlaw12_TagTells.j0 k a0 a1 l3 true a2_0 a2_1 a2_2) else (targumlaw12_TagTells.j0 k a0 a1 l3 (decide ((l3.length : Int) > 30)) a2_0 a2_1 a2_2)) else (some false)) = some r := H
  have A5 := Aside0.mk A50
  clear A50
  by_cases c6 : t149 = true
  · subst c6
    have H1 : (if (a0.size : Int) > 200 then (targumlaw12_TagTells.j0 k a0 a1 l3 true a2_0 a2_1 a2_2) else (targumlaw12_TagTells.j0 k a0 a1 l3 (decide ((l3.length : Int) > 30)) a2_0 a2_1 a2_2)) = some r := by rw [if_pos rfl] at H; exact H
    clear H
    have H := H1
    clear H1
    have HC7 := Aside0.mk H
    clear H
    go_enter Try.func3, Try.ntmps3
    go_upto_region 3 with (first | ((with_reducible refine gate_dst (N := 6) rfl ?_); (try (refine gate_guard (by rfl) ?_; dsimp only)); refine box_event ?hg (N := 6) ?hd (cs := #[.bool a2_0, .string a2_1, .string a2_2]) (t := 23) ?hr ?_; (case hd => rfl); (case hg => rfl); (case hr => first | (go_simp; done) | (go_simp; rfl)); intro gb148 hg w8 hbox hb; have n0_ := Aside0.mk (below_step (by repeat (first | (with_reducible first | exact HB.out | apply below_alloc | apply pw_below_drewN | apply below_drew1) | exact HB.out)) hb); have n1_ := Aside0.mk (hbox); have n2_ := Aside0.mk ((by rw [hg]; exact (below_size (by repeat (first | (with_reducible first | exact HB.out | apply below_alloc | apply pw_below_drewN | apply below_drew1) | exact HB.out))) : w.heap.size ≤ gb148)); have n3_ := Aside0.mk ((by rw [hg]; exact (below_size (by repeat (first | (with_reducible first | exact HB.out | apply below_alloc | apply pw_below_drewN | apply below_drew1) | exact HB.out))) : w.heap.size ≤ gb148)); clear HB; have HB := n0_; have BK148 := n1_; have GW148 := n2_; have GE148 := n3_; clear n0_ n1_ n2_ n3_; clear hb hbox hg) | ((with_reducible refine gate_callee (f := 7) rfl ?_); refine goesL_ (some 25) rfl rfl Try.func7 (by kernel_rfl) rfl #[] rfl (by (try simp only [List.map_toArray, List.map_cons, List.map_nil]); first | done | rfl | (simp only [List.length_drop, List.length_take]; rfl)) ?_; (with_reducible refine (targumlaw12_known.calls  true _ A5.out).mono ?_); rintro e w9 ⟨rfl, hb⟩; refine ⟨_, rfl, ?_⟩; have n0_ := Aside0.mk (blk_below (g := gb148) (o := .cells #[.bool a2_0, .string a2_1, .string a2_2] 23 (0, 0)) (by (with_reducible repeat (first | refine blk_drewN ?_ _ | refine blk_drew ?_ | refine blk_alloc ?_ _)); exact BK148.out) hb); have n1_ := Aside0.mk (below_step (by repeat (first | (with_reducible first | exact HB.out | apply below_alloc | apply pw_below_drewN | apply below_drew1 | refine below_set ?_ GE148.out) | exact HB.out)) hb); clear BK148; clear HB; have BK148 := n0_; have HB := n1_; clear n0_ n1_; (try clear hb); (try clear hb2); (try clear hk); (try clear hi)))
    (try simp only [Act.put, List.setIfInBounds_toArray, List.set_cons_zero, List.set_cons_succ])
    go_cut [34] (fun v34 wc => ∃ (kq : Nat) (x34_6 : Bool), v34 = .bool x34_6 ∧ Aside0 (targumlaw12_TagTells.j0 kq a0 a1 l3 x34_6 a2_0 a2_1 a2_2 = some r) ∧ Aside0 (kq ≤ k) ∧ Aside0 (wc.heap[gb148]? = some (.cells #[.bool a2_0, .string a2_1, .string a2_2] 23 (0, 0))) ∧ Aside0 (Below w.heap.size w wc))
    case first =>
      have H := HC7.out
      clear HC7
      by_cases c10 : (a0.size : Int) > 200
      · rw [if_pos c10] at H
        have c10b0 : decide (200 < (a0.size : Int)) = true := decide_eq_true c10
        have c10b1 : decide (200 < a0.size) = true := decide_eq_true (by omega)
        clear c10
        (first | rw [c10b0] | (simp only [i64_w, i32_w]; rw [c10b0]) | skip)
        have H' := Aside0.mk H
        clear H
        go_wp2
        go_meet
        case rel => exact ⟨_, (true), (by first | rfl | (simp; done) | (simp [*]; done)), H', ⟨by first | omega | exact Nat.le_refl _⟩, ⟨by (with_reducible repeat (first | refine blk_drewN ?_ _ | refine blk_drew ?_ | refine blk_alloc ?_ _)); exact BK148.out⟩, ⟨by repeat (first | (with_reducible first | exact HB.out | apply below_alloc | apply pw_below_drewN | apply below_drew1 | refine below_set ?_ GE148.out) | exact HB.out)⟩⟩
      · rw [if_neg c10] at H
        have c10b0 : decide (200 < (a0.size : Int)) = false := decide_eq_false c10
        have c10b1 : decide (200 < a0.size) = false := decide_eq_false (by omega)
        clear c10
        (first | rw [c10b0] | (simp only [i64_w, i32_w]; rw [c10b0]) | skip)
        have H' := Aside0.mk H
        clear H
        go_wp2
        go_meet
        case rel => exact ⟨_, (decide ((l3.length : Int) > 30)), (by first | rfl | (simp; done) | (simp [*]; done)), H', ⟨by first | omega | exact Nat.le_refl _⟩, ⟨by (with_reducible repeat (first | refine blk_drewN ?_ _ | refine blk_drew ?_ | refine blk_alloc ?_ _)); exact BK148.out⟩, ⟨by repeat (first | (with_reducible first | exact HB.out | apply below_alloc | apply pw_below_drewN | apply below_drew1 | refine below_set ?_ GE148.out) | exact HB.out)⟩⟩
    case rest =>
      clear HC7
      try clear c1
      try clear p2
      try clear c3
      try clear c6
      try clear c7
      try clear c10
      try clear c10b0
      try clear c10b1
      obtain ⟨kq, x34_6, rfl, HA, HJ6, BK148, HB⟩ := hcut
      cases kq with
      | zero => exact absurd HA.out (by simp [targumlaw12_TagTells.j0])
      | succ kj6 =>
        have H := HA.out
        clear HA
        simp only [targumlaw12_TagTells.j0] at H
        by_cases c11 : x34_6 = true
        · subst c11
          have H1 : (some true) = some r := by rw [if_pos rfl] at H; exact H
          clear H
          have H := H1
          clear H1
          obtain rfl := Option.some.inj H
          go_wp2
          go_ret
          exact ⟨by first | rfl | (simp [errW_none, errW_some] <;> rfl) | (simp [*, errW_none, errW_some] <;> rfl), by repeat (first | (with_reducible first | exact HB.out | apply below_alloc | apply pw_below_drewN | apply below_drew1 | refine below_set ?_ GE148.out) | exact HB.out)⟩
        · replace c11 := Bool.eq_false_iff.mpr c11
          subst c11
          have H1 : ((targumhelp_Within.f a1 0 20).bind fun t150 => ((some (([a1, 0, t150] : List Int) : List Int)).bind fun y151 => (targumlaw12_TagTells.l0 kj6 a0 l3 y151 (y151.length : Int) 0 a2_0 a2_1 a2_2))) = some r := by rw [if_neg (show ¬ (false = true) by decide)] at H; exact H
          clear H
          have H := H1
          clear H1
          replace H := Option.bind_eq_some_iff.mp H
          obtain ⟨t150, A120, H⟩ := H
          replace H : ((some (([a1, 0, t150] : List Int) : List Int)).bind fun y151 => (targumlaw12_TagTells.l0 kj6 a0 l3 y151 (y151.length : Int) 0 a2_0 a2_1 a2_2)) = some r := H
          have A12 := Aside0.mk A120
          clear A120
          obtain ⟨y151, hy151⟩ : ∃ y_ : List Int, y_ = (([a1, 0, t150] : List Int)) := ⟨_, rfl⟩
          replace H : (targumlaw12_TagTells.l0 kj6 a0 l3 y151 (y151.length : Int) 0 a2_0 a2_1 a2_2) = some r := by first | (rw [hy151]; with_reducible exact H) | (have H2_ := (Option.bind_some _ _).symm.trans H; rw [hy151]; with_reducible exact H2_) | (have H2_ := (Option.bind_some _ _).symm.trans H; with_reducible exact H2_) | with_reducible exact H | (rw [hy151]; exact H) | exact H
          have Ny151 := Aside0.mk hy151
          clear hy151
          have H' := Aside0.mk H
          clear H
          go_wp2_with (first | ((with_reducible refine gate_callee (f := 8) rfl ?_); refine goesL_ (some 37) rfl rfl Try.func8 (by kernel_rfl) rfl #[.int .i64 a1, .int .i64 0, .int .i64 20] rfl (by (try simp only [List.map_toArray, List.map_cons, List.map_nil]); first | done | rfl | (simp only [List.length_drop, List.length_take]; rfl)) ?_; (with_reducible refine (targumhelp_Within.calls a1 0 20 t150 _ A12.out).mono ?_); rintro e w' ⟨rfl, ⟨nd, rfl⟩⟩; refine ⟨_, rfl, ?_⟩) | ((with_reducible refine gate_dst (N := 38) rfl ?_); (try (refine gate_guard (by rfl) ?_; dsimp only)); refine Kd.R_lit (Kd.int .i64) _ 3 ?hg (N := 38) ?hd (xs := ([a1, 0, t150] : List Int)) (inner := [.int .i64 a1, .int .i64 0, .int .i64 t150]) (ok := fun _ => True) (okp := fun _ => True) ?hr ?hp (fun _ hk => hk) trivial (Below.refl _ _) (Nat.le_refl _) (by simp) ?_; (case hd => rfl); (case hg => rfl); (case hr => first | (go_simp; done) | (go_simp; rfl)); (case hp => exact (Reps.one (show Kd.M (Kd.int .i64) _ _ _ a1 [.int .i64 a1] from rfl) (Reps.one (show Kd.M (Kd.int .i64) _ _ _ 0 [.int .i64 0] from rfl) (Reps.one (show Kd.M (Kd.int .i64) _ _ _ t150 [.int .i64 t150] from rfl) (Reps.none _ _))))); intro v152 w13 ho14 hb hg_ hnew_; clear hg_ hnew_; (first | rw [← Ny151.out] at ho14 | (simp only [Int.reduceToNat] at ho14; rw [← Ny151.out] at ho14)); have n0_ := Aside0.mk (Kd.R_lower ho14 (below_size (by repeat (first | (with_reducible first | exact HB.out | apply below_alloc | apply pw_below_drewN | apply below_drew1 | refine below_set ?_ GE148.out) | exact HB.out)))); have n1_ := Aside0.mk (blk_below (g := gb148) (o := .cells #[.bool a2_0, .string a2_1, .string a2_2] 23 (0, 0)) (by (with_reducible repeat (first | refine blk_drewN ?_ _ | refine blk_drew ?_ | refine blk_alloc ?_ _)); exact BK148.out) hb); have n2_ := Aside0.mk (below_step (by repeat (first | (with_reducible first | exact HB.out | apply below_alloc | apply pw_below_drewN | apply below_drew1 | refine below_set ?_ GE148.out) | exact HB.out)) hb); clear BK148; clear HB; have HO153 := n0_; have BK148 := n1_; have HB := n2_; clear n0_ n1_ n2_; clear hb ho14; obtain ⟨Ao15, co15, eo15⟩ := Kd.R_slice HO153.out; subst eo15))
          go_loopg [40] kj6 (fun kq v40 w' => ∃ (x40_2 : Int), v40 = .int .i64 x40_2 ∧ Aside0 (targumlaw12_TagTells.l0 kq a0 l3 y151 (y151.length : Int) x40_2 a2_0 a2_1 a2_2 = some r) ∧ Aside0 (kq ≤ kj6) ∧ Aside0 (Kd.R (Kd.int .i64) 3 w' w.heap.size (fun _ => True) (.slice Ao15 y151.length co15) y151) ∧ Aside0 (w'.heap[gb148]? = some (.cells #[.bool a2_0, .string a2_1, .string a2_2] 23 (0, 0))) ∧ Aside0 (Below w.heap.size w w'))
          case atStart => exact ⟨(0), (by first | rfl | (simp; done) | (simp [*]; done)), H', ⟨Nat.le_refl _⟩, ⟨by (with_reducible repeat (first | apply Kd.R_alloc | apply Kd.R_drewN | apply Kd.R_drew)); exact HO153.out⟩, ⟨by (with_reducible repeat (first | refine blk_drewN ?_ _ | refine blk_drew ?_ | refine blk_alloc ?_ _)); exact BK148.out⟩, ⟨by repeat (first | (with_reducible first | exact HB.out | apply below_alloc | apply pw_below_drewN | apply below_drew1 | refine below_set ?_ GE148.out) | exact HB.out)⟩⟩
          case round =>
            clear H'
            try clear c1
            try clear p2
            try clear c3
            try clear c6
            try clear c7
            try clear c8
            try clear c10
            try clear c10b0
            try clear c10b1
            try clear c11
            try clear p2
            obtain ⟨x40_2, rfl, HA, HK2, HO_38, BK148, HB⟩ := hrel
            cases gk with
            | zero => exact absurd HA.out (by simp [targumlaw12_TagTells.l0])
            | succ k2 =>
              have H := HA.out
              clear HA
              simp only [targumlaw12_TagTells.l0] at H
              by_cases c16 : x40_2 < (y151.length : Int)
              · rw [if_pos c16] at H
                have c16b0 : decide (x40_2 < (y151.length : Int)) = true := decide_eq_true c16
                clear c16
                by_cases c17 : 0 ≤ x40_2
                · rw [if_pos c17] at H
                  have c17b0 : decide (0 ≤ x40_2) = true := decide_eq_true c17
                  clear c17
                  by_cases c18 : x40_2 < (y151.length : Int)
                  · rw [if_pos c18] at H
                    have c18b0 : decide (x40_2 < (y151.length : Int)) = true := decide_eq_true c18
                    clear c18
                    replace H := Option.bind_eq_some_iff.mp H
                    obtain ⟨⟨t155, t156, t157, t158, t159⟩, A190, H⟩ := H
                    replace H : ((targumref12_Read.f k2 a0 (rd y151 x40_2)).bind fun bt161 => (if (!(t155 == bt161.1) || (!(t156.toList == bt161.2.1.toList) || (!(t157.toList == bt161.2.2.1.toList)))) = true then (targumlaw12_TagTells.j2 k2 a0 l3 y151 (y151.length : Int) x40_2 true a2_0 a2_1 a2_2 t155 t156 t157 bt161.1 bt161.2.1 bt161.2.2.1) else (if t158 = bt161.2.2.2.1 then (targumlaw12_TagTells.j2 k2 a0 l3 y151 (y151.length : Int) x40_2 (t159 != bt161.2.2.2.2) a2_0 a2_1 a2_2 t155 t156 t157 bt161.1 bt161.2.1 bt161.2.2.1) else (targumlaw12_TagTells.j2 k2 a0 l3 y151 (y151.length : Int) x40_2 true a2_0 a2_1 a2_2 t155 t156 t157 bt161.1 bt161.2.1 bt161.2.2.1)))) = some r := H
                    have A19 := Aside0.mk A190
                    clear A190
                    replace H := Option.bind_eq_some_iff.mp H
                    obtain ⟨⟨t161, t162, t163, t164, t165⟩, A200, H⟩ := H
                    replace H : (if (!(t155 == t161) || (!(t156.toList == t162.toList) || (!(t157.toList == t163.toList)))) = true then (targumlaw12_TagTells.j2 k2 a0 l3 y151 (y151.length : Int) x40_2 true a2_0 a2_1 a2_2 t155 t156 t157 t161 t162 t163) else (if t158 = t164 then (targumlaw12_TagTells.j2 k2 a0 l3 y151 (y151.length : Int) x40_2 (t159 != t165) a2_0 a2_1 a2_2 t155 t156 t157 t161 t162 t163) else (targumlaw12_TagTells.j2 k2 a0 l3 y151 (y151.length : Int) x40_2 true a2_0 a2_1 a2_2 t155 t156 t157 t161 t162 t163))) = some r := H
                    have A20 := Aside0.mk A200
                    clear A200
                    have HC21 := Aside0.mk H
                    clear H
                    have p154 : 0 ≤ (x40_2 : Int) := of_decide_eq_true (by first | (with_reducible assumption) | assumption)
                    have q154 : x40_2 < (y151.length : Int) := of_decide_eq_true (by first | (with_reducible assumption) | assumption)
                    obtain ⟨ad154, e154, hx154_0⟩ := Kd.at_int (Kd.R_reads' HO_38.out).2.2 x40_2 p154 q154
                    cases e154
                    replace p154 := eq_true p154
                    replace q154 := eq_true q154
                    go_upto_region 10 with (first | ((with_reducible refine gate_callee (f := 9) rfl ?_); refine goesL_ (some 47) rfl rfl Try.func9 (by kernel_rfl) rfl #[.string a0, .int .i64 (rd y151 x40_2)] rfl (by (try simp only [List.map_toArray, List.map_cons, List.map_nil]); first | done | rfl | (simp only [List.length_drop, List.length_take]; rfl)) ?_; (with_reducible refine (tagname_Read.calls a0 (rd y151 x40_2) t155 t156 t157 t158 t159 _ A19.out).mono ?_); rintro e w22 ⟨rfl, hb⟩; refine ⟨_, rfl, ?_⟩; have n0_ := Aside0.mk (Kd.R_below (by (with_reducible repeat (first | apply Kd.R_alloc | apply Kd.R_drewN | apply Kd.R_drew)); exact HO_38.out) hb); have n1_ := Aside0.mk (blk_below (g := gb148) (o := .cells #[.bool a2_0, .string a2_1, .string a2_2] 23 (0, 0)) (by (with_reducible repeat (first | refine blk_drewN ?_ _ | refine blk_drew ?_ | refine blk_alloc ?_ _)); exact BK148.out) hb); have n2_ := Aside0.mk (below_step (by repeat (first | (with_reducible first | exact HB.out | apply below_alloc | apply pw_below_drewN | apply below_drew1 | refine below_set ?_ GE148.out) | exact HB.out)) hb); clear HO_38; clear BK148; clear HB; have HO_38 := n0_; have BK148 := n1_; have HB := n2_; clear n0_ n1_ n2_; (try clear hb); (try clear hb2); (try clear hk); (try clear hi)) | ((with_reducible refine gate_dst (N := 11) rfl ?_); (try (refine gate_guard (by rfl) ?_; dsimp only)); refine box_event ?hg (N := 11) ?hd (cs := #[.bool false, .string (⟨#[]⟩ : ByteArray), .string (⟨#[]⟩ : ByteArray)]) (t := 23) ?hr ?_; (case hd => rfl); (case hg => rfl); (case hr => first | (go_simp; done) | (go_simp; rfl)); intro gb160 hg w23 hbox hb; have n0_ := Aside0.mk (Kd.R_below (by (with_reducible repeat (first | apply Kd.R_alloc | apply Kd.R_drewN | apply Kd.R_drew)); exact HO_38.out) hb); have n1_ := Aside0.mk (blk_below (g := gb148) (o := .cells #[.bool a2_0, .string a2_1, .string a2_2] 23 (0, 0)) (by (with_reducible repeat (first | refine blk_drewN ?_ _ | refine blk_drew ?_ | refine blk_alloc ?_ _)); exact BK148.out) hb); have n2_ := Aside0.mk (below_step (by repeat (first | (with_reducible first | exact HB.out | apply below_alloc | apply pw_below_drewN | apply below_drew1 | refine below_set ?_ GE148.out) | exact HB.out)) hb); have n3_ := Aside0.mk (hbox); have n4_ := Aside0.mk ((by rw [hg]; exact (below_size (by repeat (first | (with_reducible first | exact HB.out | apply below_alloc | apply pw_below_drewN | apply below_drew1 | refine below_set ?_ GE148.out) | exact HB.out))) : w.heap.size ≤ gb160)); have n5_ := Aside0.mk ((by rw [hg]; exact (below_size (by repeat (first | (with_reducible first | exact HB.out | apply below_alloc | apply pw_below_drewN | apply below_drew1 | refine below_set ?_ GE148.out) | exact HB.out))) : w.heap.size ≤ gb160)); have n6_ := Aside0.mk ((by rw [hg]; exact Nat.ne_of_lt (blk_lt (g := gb148) (o := .cells #[.bool a2_0, .string a2_1, .string a2_2] 23 (0, 0)) (by (with_reducible repeat (first | refine blk_drewN ?_ _ | refine blk_drew ?_ | refine blk_alloc ?_ _)); exact BK148.out)) : gb148 ≠ gb160)); have n7_ := Aside0.mk ((by rw [hg]; exact Nat.ne_of_gt (blk_lt (g := gb148) (o := .cells #[.bool a2_0, .string a2_1, .string a2_2] 23 (0, 0)) (by (with_reducible repeat (first | refine blk_drewN ?_ _ | refine blk_drew ?_ | refine blk_alloc ?_ _)); exact BK148.out)) : gb160 ≠ gb148)); clear HO_38; clear BK148; clear HB; have HO_38 := n0_; have BK148 := n1_; have HB := n2_; have BK160 := n3_; have GW160 := n4_; have GE160 := n5_; have NB148_160 := n6_; have NB160_148 := n7_; clear n0_ n1_ n2_ n3_ n4_ n5_ n6_ n7_; clear hb hbox hg; have hnb24 := NB160_148.out; have hnc24 := NB148_160.out; have hcz25_0 : w23.cell? ⟨gb160, 0, none⟩ = some (.bool false) := (blk_cell BK160.out 0).trans rfl; have hcz25_1 : w23.cell? ⟨gb160, 1, none⟩ = some (.string (⟨#[]⟩ : ByteArray)) := (blk_cell BK160.out 1).trans rfl; have hcz25_2 : w23.cell? ⟨gb160, 2, none⟩ = some (.string (⟨#[]⟩ : ByteArray)) := (blk_cell BK160.out 2).trans rfl; have hfz25_0 := blk_frozen BK160.out 0; have hfz25_1 := blk_frozen BK160.out 1; have hfz25_2 := blk_frozen BK160.out 2) | ((with_reducible refine gate_callee (f := 10) rfl ?_); refine goesL_ (some 54) rfl rfl Try.func10 (by kernel_rfl) rfl #[.string a0, .int .i64 (rd y151 x40_2)] rfl (by (try simp only [List.map_toArray, List.map_cons, List.map_nil]); first | done | rfl | (simp only [List.length_drop, List.length_take]; rfl)) ?_; (with_reducible refine (targumref12_Read.calls k2 a0 (rd y151 x40_2) t161 t162 t163 t164 t165 _ A20.out).mono ?_); rintro e w26 ⟨rfl, hb⟩; refine ⟨_, rfl, ?_⟩; have n0_ := Aside0.mk (Kd.R_below (by (with_reducible repeat (first | apply Kd.R_alloc | apply Kd.R_drewN | apply Kd.R_drew)); exact (Kd.R_mono (Kd.R_far (p := ⟨gb160, 2, none⟩) (Kd.R_far (p := ⟨gb160, 1, none⟩) (Kd.R_far (p := ⟨gb160, 0, none⟩) (Kd.R_types HO_38.out BK160.out (by decide)) (fun _ hk => hk.2) (.bool t155)) (fun _ hk => hk.2) (.string t156)) (fun _ hk => hk.2) (.string t157)) (fun _ h_ => h_.1))) hb); have n1_ := Aside0.mk (blk_below (g := gb148) (o := .cells #[.bool a2_0, .string a2_1, .string a2_2] 23 (0, 0)) (by (with_reducible repeat (first | refine blk_drewN ?_ _ | refine blk_drew ?_ | refine blk_alloc ?_ _)); refine blk_far ?_ NB148_160.out _; (with_reducible repeat (first | refine blk_drewN ?_ _ | refine blk_drew ?_ | refine blk_alloc ?_ _)); refine blk_far ?_ NB148_160.out _; (with_reducible repeat (first | refine blk_drewN ?_ _ | refine blk_drew ?_ | refine blk_alloc ?_ _)); refine blk_far ?_ NB148_160.out _; (with_reducible repeat (first | refine blk_drewN ?_ _ | refine blk_drew ?_ | refine blk_alloc ?_ _)); exact BK148.out) hb); have n2_ := Aside0.mk (blk_below (g := gb160) (o := .cells #[.bool t155, .string t156, .string t157] 23 (0, 0)) (by (with_reducible repeat (first | refine blk_drewN ?_ _ | refine blk_drew ?_ | refine blk_alloc ?_ _)); refine blk_put (cs := #[.bool t155, .string t156, .string (⟨#[]⟩ : ByteArray)]) ?_ 2 _ rfl; (with_reducible repeat (first | refine blk_drewN ?_ _ | refine blk_drew ?_ | refine blk_alloc ?_ _)); refine blk_put (cs := #[.bool t155, .string (⟨#[]⟩ : ByteArray), .string (⟨#[]⟩ : ByteArray)]) ?_ 1 _ rfl; (with_reducible repeat (first | refine blk_drewN ?_ _ | refine blk_drew ?_ | refine blk_alloc ?_ _)); refine blk_put (cs := #[.bool false, .string (⟨#[]⟩ : ByteArray), .string (⟨#[]⟩ : ByteArray)]) ?_ 0 _ rfl; (with_reducible repeat (first | refine blk_drewN ?_ _ | refine blk_drew ?_ | refine blk_alloc ?_ _)); exact BK160.out) hb); have n3_ := Aside0.mk (below_step (by repeat (first | (with_reducible first | exact HB.out | apply below_alloc | apply pw_below_drewN | apply below_drew1 | refine below_set ?_ GE148.out | refine below_set ?_ GE160.out) | exact HB.out)) hb); clear HO_38; clear BK148; clear BK160; clear HB; have HO_38 := n0_; have BK148 := n1_; have BK160 := n2_; have HB := n3_; clear n0_ n1_ n2_ n3_; (try clear hb); (try clear hb2); (try clear hk); (try clear hi)) | ((with_reducible refine gate_dst (N := 14) rfl ?_); (try (refine gate_guard (by rfl) ?_; dsimp only)); refine box_event ?hg (N := 14) ?hd (cs := #[.bool false, .string (⟨#[]⟩ : ByteArray), .string (⟨#[]⟩ : ByteArray)]) (t := 23) ?hr ?_; (case hd => rfl); (case hg => rfl); (case hr => first | (go_simp; done) | (go_simp; rfl)); intro gb166 hg w27 hbox hb; have n0_ := Aside0.mk (Kd.R_below (by (with_reducible repeat (first | apply Kd.R_alloc | apply Kd.R_drewN | apply Kd.R_drew)); exact HO_38.out) hb); have n1_ := Aside0.mk (blk_below (g := gb148) (o := .cells #[.bool a2_0, .string a2_1, .string a2_2] 23 (0, 0)) (by (with_reducible repeat (first | refine blk_drewN ?_ _ | refine blk_drew ?_ | refine blk_alloc ?_ _)); exact BK148.out) hb); have n2_ := Aside0.mk (blk_below (g := gb160) (o := .cells #[.bool t155, .string t156, .string t157] 23 (0, 0)) (by (with_reducible repeat (first | refine blk_drewN ?_ _ | refine blk_drew ?_ | refine blk_alloc ?_ _)); exact BK160.out) hb); have n3_ := Aside0.mk (below_step (by repeat (first | (with_reducible first | exact HB.out | apply below_alloc | apply pw_below_drewN | apply below_drew1 | refine below_set ?_ GE148.out | refine below_set ?_ GE160.out) | exact HB.out)) hb); have n4_ := Aside0.mk (hbox); have n5_ := Aside0.mk ((by rw [hg]; exact (below_size (by repeat (first | (with_reducible first | exact HB.out | apply below_alloc | apply pw_below_drewN | apply below_drew1 | refine below_set ?_ GE148.out | refine below_set ?_ GE160.out) | exact HB.out))) : w.heap.size ≤ gb166)); have n6_ := Aside0.mk ((by rw [hg]; exact (below_size (by repeat (first | (with_reducible first | exact HB.out | apply below_alloc | apply pw_below_drewN | apply below_drew1 | refine below_set ?_ GE148.out | refine below_set ?_ GE160.out) | exact HB.out))) : w.heap.size ≤ gb166)); have n7_ := Aside0.mk ((by rw [hg]; exact Nat.ne_of_lt (blk_lt (g := gb148) (o := .cells #[.bool a2_0, .string a2_1, .string a2_2] 23 (0, 0)) (by (with_reducible repeat (first | refine blk_drewN ?_ _ | refine blk_drew ?_ | refine blk_alloc ?_ _)); exact BK148.out)) : gb148 ≠ gb166)); have n8_ := Aside0.mk ((by rw [hg]; exact Nat.ne_of_gt (blk_lt (g := gb148) (o := .cells #[.bool a2_0, .string a2_1, .string a2_2] 23 (0, 0)) (by (with_reducible repeat (first | refine blk_drewN ?_ _ | refine blk_drew ?_ | refine blk_alloc ?_ _)); exact BK148.out)) : gb166 ≠ gb148)); have n9_ := Aside0.mk ((by rw [hg]; exact Nat.ne_of_lt (blk_lt (g := gb160) (o := .cells #[.bool t155, .string t156, .string t157] 23 (0, 0)) (by (with_reducible repeat (first | refine blk_drewN ?_ _ | refine blk_drew ?_ | refine blk_alloc ?_ _)); exact BK160.out)) : gb160 ≠ gb166)); have n10_ := Aside0.mk ((by rw [hg]; exact Nat.ne_of_gt (blk_lt (g := gb160) (o := .cells #[.bool t155, .string t156, .string t157] 23 (0, 0)) (by (with_reducible repeat (first | refine blk_drewN ?_ _ | refine blk_drew ?_ | refine blk_alloc ?_ _)); exact BK160.out)) : gb166 ≠ gb160)); clear HO_38; clear BK148; clear BK160; clear HB; have HO_38 := n0_; have BK148 := n1_; have BK160 := n2_; have HB := n3_; have BK166 := n4_; have GW166 := n5_; have GE166 := n6_; have NB148_166 := n7_; have NB166_148 := n8_; have NB160_166 := n9_; have NB166_160 := n10_; clear n0_ n1_ n2_ n3_ n4_ n5_ n6_ n7_ n8_ n9_ n10_; clear hb hbox hg; have hnb28 := NB166_148.out; have hnc28 := NB148_166.out; have hnb29 := NB166_160.out; have hnc29 := NB160_166.out; have hcz30_0 : w27.cell? ⟨gb166, 0, none⟩ = some (.bool false) := (blk_cell BK166.out 0).trans rfl; have hcz30_1 : w27.cell? ⟨gb166, 1, none⟩ = some (.string (⟨#[]⟩ : ByteArray)) := (blk_cell BK166.out 1).trans rfl; have hcz30_2 : w27.cell? ⟨gb166, 2, none⟩ = some (.string (⟨#[]⟩ : ByteArray)) := (blk_cell BK166.out 2).trans rfl; have hfz30_0 := blk_frozen BK166.out 0; have hfz30_1 := blk_frozen BK166.out 1; have hfz30_2 := blk_frozen BK166.out 2))
                    (try simp only [Act.put, List.setIfInBounds_toArray, List.set_cons_zero, List.set_cons_succ])
                    go_cut [70] (fun v70 wc => ∃ (kq : Nat) (x70_20 : Bool), v70 = .bool x70_20 ∧ Aside0 (targumlaw12_TagTells.j2 kq a0 l3 y151 (y151.length : Int) x40_2 x70_20 a2_0 a2_1 a2_2 t155 t156 t157 t161 t162 t163 = some r) ∧ Aside0 (kq ≤ k2) ∧ Aside0 (Kd.R (Kd.int .i64) 3 wc w.heap.size (fun _ => True) (.slice (some ad154) y151.length co15) y151) ∧ Aside0 (wc.heap[gb148]? = some (.cells #[.bool a2_0, .string a2_1, .string a2_2] 23 (0, 0))) ∧ Aside0 (wc.heap[gb160]? = some (.cells #[.bool t155, .string t156, .string t157] 23 (0, 0))) ∧ Aside0 (wc.heap[gb166]? = some (.cells #[.bool t161, .string t162, .string t163] 23 (0, 0))) ∧ Aside0 (Below w.heap.size w wc))
                    case first =>
                      have H := HC21.out
                      clear HC21
                      by_cases c31 : (!(t155 == t161) || (!(t156.toList == t162.toList) || (!(t157.toList == t163.toList)))) = true
                      · rw [if_pos c31] at H
                        have c31b0 : (!(t155 == t161) || (!(t156.toList == t162.toList) || (!(t157.toList == t163.toList)))) = true := c31
                        clear c31
                        (first | rw [c31b0] | (simp only [i64_w, i32_w]; rw [c31b0]) | skip)
                        have H' := Aside0.mk H
                        clear H
                        have hnb32 := NB160_148.out
                        have hnc32 := NB148_160.out
                        have hnb33 := NB160_166.out
                        have hnc33 := NB166_160.out
                        have hcz34_0 : w27.cell? ⟨gb160, 0, none⟩ = some (.bool t155) := (blk_cell BK160.out 0).trans rfl
                        have hcz34_1 : w27.cell? ⟨gb160, 1, none⟩ = some (.string t156) := (blk_cell BK160.out 1).trans rfl
                        have hcz34_2 : w27.cell? ⟨gb160, 2, none⟩ = some (.string t157) := (blk_cell BK160.out 2).trans rfl
                        have hfz34_0 := blk_frozen BK160.out 0
                        have hfz34_1 := blk_frozen BK160.out 1
                        have hfz34_2 := blk_frozen BK160.out 2
                        have hnb35 := NB166_148.out
                        have hnc35 := NB148_166.out
                        have hcz36_0 : w27.cell? ⟨gb166, 0, none⟩ = some (.bool false) := (blk_cell BK166.out 0).trans rfl
                        have hcz36_1 : w27.cell? ⟨gb166, 1, none⟩ = some (.string (⟨#[]⟩ : ByteArray)) := (blk_cell BK166.out 1).trans rfl
                        have hcz36_2 : w27.cell? ⟨gb166, 2, none⟩ = some (.string (⟨#[]⟩ : ByteArray)) := (blk_cell BK166.out 2).trans rfl
                        have hfz36_0 := blk_frozen BK166.out 0
                        have hfz36_1 := blk_frozen BK166.out 1
                        have hfz36_2 := blk_frozen BK166.out 2
                        go_wp2
                        go_meet
                        case rel => exact ⟨_, (true), (by first | rfl | (simp; done) | (simp [*]; done)), H', ⟨by have := HJ6.out; have := HK2.out; first | omega | exact Nat.le_refl _⟩, ⟨by (with_reducible repeat (first | apply Kd.R_alloc | apply Kd.R_drewN | apply Kd.R_drew)); exact Kd.R_mono (Kd.R_far (p := ⟨gb166, 2, none⟩) (Kd.R_far (p := ⟨gb166, 1, none⟩) (Kd.R_far (p := ⟨gb166, 0, none⟩) (Kd.R_types HO_38.out BK166.out (by decide)) (fun _ hk => hk.2) (.bool t161)) (fun _ hk => hk.2) (.string t162)) (fun _ hk => hk.2) (.string t163)) (fun _ hk => trivial)⟩, ⟨by (with_reducible repeat (first | refine blk_drewN ?_ _ | refine blk_drew ?_ | refine blk_alloc ?_ _)); refine blk_far ?_ NB148_166.out _; (with_reducible repeat (first | refine blk_drewN ?_ _ | refine blk_drew ?_ | refine blk_alloc ?_ _)); refine blk_far ?_ NB148_166.out _; (with_reducible repeat (first | refine blk_drewN ?_ _ | refine blk_drew ?_ | refine blk_alloc ?_ _)); refine blk_far ?_ NB148_166.out _; (with_reducible repeat (first | refine blk_drewN ?_ _ | refine blk_drew ?_ | refine blk_alloc ?_ _)); exact BK148.out⟩, ⟨by (with_reducible repeat (first | refine blk_drewN ?_ _ | refine blk_drew ?_ | refine blk_alloc ?_ _)); refine blk_far ?_ NB160_166.out _; (with_reducible repeat (first | refine blk_drewN ?_ _ | refine blk_drew ?_ | refine blk_alloc ?_ _)); refine blk_far ?_ NB160_166.out _; (with_reducible repeat (first | refine blk_drewN ?_ _ | refine blk_drew ?_ | refine blk_alloc ?_ _)); refine blk_far ?_ NB160_166.out _; (with_reducible repeat (first | refine blk_drewN ?_ _ | refine blk_drew ?_ | refine blk_alloc ?_ _)); exact BK160.out⟩, ⟨by (with_reducible repeat (first | refine blk_drewN ?_ _ | refine blk_drew ?_ | refine blk_alloc ?_ _)); refine blk_put (cs := #[.bool t161, .string t162, .string (⟨#[]⟩ : ByteArray)]) ?_ 2 _ rfl; (with_reducible repeat (first | refine blk_drewN ?_ _ | refine blk_drew ?_ | refine blk_alloc ?_ _)); refine blk_put (cs := #[.bool t161, .string (⟨#[]⟩ : ByteArray), .string (⟨#[]⟩ : ByteArray)]) ?_ 1 _ rfl; (with_reducible repeat (first | refine blk_drewN ?_ _ | refine blk_drew ?_ | refine blk_alloc ?_ _)); refine blk_put (cs := #[.bool false, .string (⟨#[]⟩ : ByteArray), .string (⟨#[]⟩ : ByteArray)]) ?_ 0 _ rfl; (with_reducible repeat (first | refine blk_drewN ?_ _ | refine blk_drew ?_ | refine blk_alloc ?_ _)); exact BK166.out⟩, ⟨by repeat (first | (with_reducible first | exact HB.out | apply below_alloc | apply pw_below_drewN | apply below_drew1 | refine below_set ?_ GE148.out | refine below_set ?_ GE160.out | refine below_set ?_ GE166.out) | exact HB.out)⟩⟩
                      · rw [if_neg c31] at H
                        have c31b0 : (!(t155 == t161) || (!(t156.toList == t162.toList) || (!(t157.toList == t163.toList)))) = false := by simpa using c31
                        clear c31
                        (first | rw [c31b0] | (simp only [i64_w, i32_w]; rw [c31b0]) | skip)
                        by_cases c37 : t158 = t164
                        · rw [if_pos c37] at H
                          have c37b0 : (t158 == t164) = true := beq_iff_eq.mpr c37
                          have c37b1 : (t158 != t164) = false := bne_eq_false_iff_eq.mpr c37
                          clear c37
                          have H' := Aside0.mk H
                          clear H
                          have hnb38 := NB160_148.out
                          have hnc38 := NB148_160.out
                          have hnb39 := NB160_166.out
                          have hnc39 := NB166_160.out
                          have hcz40_0 : w27.cell? ⟨gb160, 0, none⟩ = some (.bool t155) := (blk_cell BK160.out 0).trans rfl
                          have hcz40_1 : w27.cell? ⟨gb160, 1, none⟩ = some (.string t156) := (blk_cell BK160.out 1).trans rfl
                          have hcz40_2 : w27.cell? ⟨gb160, 2, none⟩ = some (.string t157) := (blk_cell BK160.out 2).trans rfl
                          have hfz40_0 := blk_frozen BK160.out 0
                          have hfz40_1 := blk_frozen BK160.out 1
                          have hfz40_2 := blk_frozen BK160.out 2
                          have hnb41 := NB166_148.out
                          have hnc41 := NB148_166.out
                          have hcz42_0 : w27.cell? ⟨gb166, 0, none⟩ = some (.bool false) := (blk_cell BK166.out 0).trans rfl
                          have hcz42_1 : w27.cell? ⟨gb166, 1, none⟩ = some (.string (⟨#[]⟩ : ByteArray)) := (blk_cell BK166.out 1).trans rfl
                          have hcz42_2 : w27.cell? ⟨gb166, 2, none⟩ = some (.string (⟨#[]⟩ : ByteArray)) := (blk_cell BK166.out 2).trans rfl
                          have hfz42_0 := blk_frozen BK166.out 0
                          have hfz42_1 := blk_frozen BK166.out 1
                          have hfz42_2 := blk_frozen BK166.out 2
                          go_wp2
                          go_meet
                          case rel => exact ⟨_, ((t159 != t165)), (by first | rfl | (simp; done) | (simp [*]; done)), H', ⟨by have := HJ6.out; have := HK2.out; first | omega | exact Nat.le_refl _⟩, ⟨by (with_reducible repeat (first | apply Kd.R_alloc | apply Kd.R_drewN | apply Kd.R_drew)); exact Kd.R_mono (Kd.R_far (p := ⟨gb166, 2, none⟩) (Kd.R_far (p := ⟨gb166, 1, none⟩) (Kd.R_far (p := ⟨gb166, 0, none⟩) (Kd.R_types HO_38.out BK166.out (by decide)) (fun _ hk => hk.2) (.bool t161)) (fun _ hk => hk.2) (.string t162)) (fun _ hk => hk.2) (.string t163)) (fun _ hk => trivial)⟩, ⟨by (with_reducible repeat (first | refine blk_drewN ?_ _ | refine blk_drew ?_ | refine blk_alloc ?_ _)); refine blk_far ?_ NB148_166.out _; (with_reducible repeat (first | refine blk_drewN ?_ _ | refine blk_drew ?_ | refine blk_alloc ?_ _)); refine blk_far ?_ NB148_166.out _; (with_reducible repeat (first | refine blk_drewN ?_ _ | refine blk_drew ?_ | refine blk_alloc ?_ _)); refine blk_far ?_ NB148_166.out _; (with_reducible repeat (first | refine blk_drewN ?_ _ | refine blk_drew ?_ | refine blk_alloc ?_ _)); exact BK148.out⟩, ⟨by (with_reducible repeat (first | refine blk_drewN ?_ _ | refine blk_drew ?_ | refine blk_alloc ?_ _)); refine blk_far ?_ NB160_166.out _; (with_reducible repeat (first | refine blk_drewN ?_ _ | refine blk_drew ?_ | refine blk_alloc ?_ _)); refine blk_far ?_ NB160_166.out _; (with_reducible repeat (first | refine blk_drewN ?_ _ | refine blk_drew ?_ | refine blk_alloc ?_ _)); refine blk_far ?_ NB160_166.out _; (with_reducible repeat (first | refine blk_drewN ?_ _ | refine blk_drew ?_ | refine blk_alloc ?_ _)); exact BK160.out⟩, ⟨by (with_reducible repeat (first | refine blk_drewN ?_ _ | refine blk_drew ?_ | refine blk_alloc ?_ _)); refine blk_put (cs := #[.bool t161, .string t162, .string (⟨#[]⟩ : ByteArray)]) ?_ 2 _ rfl; (with_reducible repeat (first | refine blk_drewN ?_ _ | refine blk_drew ?_ | refine blk_alloc ?_ _)); refine blk_put (cs := #[.bool t161, .string (⟨#[]⟩ : ByteArray), .string (⟨#[]⟩ : ByteArray)]) ?_ 1 _ rfl; (with_reducible repeat (first | refine blk_drewN ?_ _ | refine blk_drew ?_ | refine blk_alloc ?_ _)); refine blk_put (cs := #[.bool false, .string (⟨#[]⟩ : ByteArray), .string (⟨#[]⟩ : ByteArray)]) ?_ 0 _ rfl; (with_reducible repeat (first | refine blk_drewN ?_ _ | refine blk_drew ?_ | refine blk_alloc ?_ _)); exact BK166.out⟩, ⟨by repeat (first | (with_reducible first | exact HB.out | apply below_alloc | apply pw_below_drewN | apply below_drew1 | refine below_set ?_ GE148.out | refine below_set ?_ GE160.out | refine below_set ?_ GE166.out) | exact HB.out)⟩⟩
                        · rw [if_neg c37] at H
                          have c37b0 : (t158 == t164) = false := beq_eq_false_iff_ne.mpr c37
                          have c37b1 : (t158 != t164) = true := bne_iff_ne.mpr c37
                          have H' := Aside0.mk H
                          clear H
                          have hnb43 := NB160_148.out
                          have hnc43 := NB148_160.out
                          have hnb44 := NB160_166.out
                          have hnc44 := NB166_160.out
                          have hcz45_0 : w27.cell? ⟨gb160, 0, none⟩ = some (.bool t155) := (blk_cell BK160.out 0).trans rfl
                          have hcz45_1 : w27.cell? ⟨gb160, 1, none⟩ = some (.string t156) := (blk_cell BK160.out 1).trans rfl
                          have hcz45_2 : w27.cell? ⟨gb160, 2, none⟩ = some (.string t157) := (blk_cell BK160.out 2).trans rfl
                          have hfz45_0 := blk_frozen BK160.out 0
                          have hfz45_1 := blk_frozen BK160.out 1
                          have hfz45_2 := blk_frozen BK160.out 2
                          have hnb46 := NB166_148.out
                          have hnc46 := NB148_166.out
                          have hcz47_0 : w27.cell? ⟨gb166, 0, none⟩ = some (.bool false) := (blk_cell BK166.out 0).trans rfl
                          have hcz47_1 : w27.cell? ⟨gb166, 1, none⟩ = some (.string (⟨#[]⟩ : ByteArray)) := (blk_cell BK166.out 1).trans rfl
                          have hcz47_2 : w27.cell? ⟨gb166, 2, none⟩ = some (.string (⟨#[]⟩ : ByteArray)) := (blk_cell BK166.out 2).trans rfl
                          have hfz47_0 := blk_frozen BK166.out 0
                          have hfz47_1 := blk_frozen BK166.out 1
                          have hfz47_2 := blk_frozen BK166.out 2
                          go_wp2
                          go_meet
                          case rel => exact ⟨_, (true), (by first | rfl | (simp; done) | (simp [*]; done)), H', ⟨by have := HJ6.out; have := HK2.out; first | omega | exact Nat.le_refl _⟩, ⟨by (with_reducible repeat (first | apply Kd.R_alloc | apply Kd.R_drewN | apply Kd.R_drew)); exact Kd.R_mono (Kd.R_far (p := ⟨gb166, 2, none⟩) (Kd.R_far (p := ⟨gb166, 1, none⟩) (Kd.R_far (p := ⟨gb166, 0, none⟩) (Kd.R_types HO_38.out BK166.out (by decide)) (fun _ hk => hk.2) (.bool t161)) (fun _ hk => hk.2) (.string t162)) (fun _ hk => hk.2) (.string t163)) (fun _ hk => trivial)⟩, ⟨by (with_reducible repeat (first | refine blk_drewN ?_ _ | refine blk_drew ?_ | refine blk_alloc ?_ _)); refine blk_far ?_ NB148_166.out _; (with_reducible repeat (first | refine blk_drewN ?_ _ | refine blk_drew ?_ | refine blk_alloc ?_ _)); refine blk_far ?_ NB148_166.out _; (with_reducible repeat (first | refine blk_drewN ?_ _ | refine blk_drew ?_ | refine blk_alloc ?_ _)); refine blk_far ?_ NB148_166.out _; (with_reducible repeat (first | refine blk_drewN ?_ _ | refine blk_drew ?_ | refine blk_alloc ?_ _)); exact BK148.out⟩, ⟨by (with_reducible repeat (first | refine blk_drewN ?_ _ | refine blk_drew ?_ | refine blk_alloc ?_ _)); refine blk_far ?_ NB160_166.out _; (with_reducible repeat (first | refine blk_drewN ?_ _ | refine blk_drew ?_ | refine blk_alloc ?_ _)); refine blk_far ?_ NB160_166.out _; (with_reducible repeat (first | refine blk_drewN ?_ _ | refine blk_drew ?_ | refine blk_alloc ?_ _)); refine blk_far ?_ NB160_166.out _; (with_reducible repeat (first | refine blk_drewN ?_ _ | refine blk_drew ?_ | refine blk_alloc ?_ _)); exact BK160.out⟩, ⟨by (with_reducible repeat (first | refine blk_drewN ?_ _ | refine blk_drew ?_ | refine blk_alloc ?_ _)); refine blk_put (cs := #[.bool t161, .string t162, .string (⟨#[]⟩ : ByteArray)]) ?_ 2 _ rfl; (with_reducible repeat (first | refine blk_drewN ?_ _ | refine blk_drew ?_ | refine blk_alloc ?_ _)); refine blk_put (cs := #[.bool t161, .string (⟨#[]⟩ : ByteArray), .string (⟨#[]⟩ : ByteArray)]) ?_ 1 _ rfl; (with_reducible repeat (first | refine blk_drewN ?_ _ | refine blk_drew ?_ | refine blk_alloc ?_ _)); refine blk_put (cs := #[.bool false, .string (⟨#[]⟩ : ByteArray), .string (⟨#[]⟩ : ByteArray)]) ?_ 0 _ rfl; (with_reducible repeat (first | refine blk_drewN ?_ _ | refine blk_drew ?_ | refine blk_alloc ?_ _)); exact BK166.out⟩, ⟨by repeat (first | (with_reducible first | exact HB.out | apply below_alloc | apply pw_below_drewN | apply below_drew1 | refine below_set ?_ GE148.out | refine below_set ?_ GE160.out | refine below_set ?_ GE166.out) | exact HB.out)⟩⟩
                    case rest =>
                      clear HC21
                      try clear c1
                      try clear p1
                      try clear q1
                      try clear hx1
                      try clear c2
                      try clear p2
                      try clear c3
                      try clear c4
                      try clear c6
                      try clear c7
                      try clear c8
                      try clear c9
                      try clear c10
                      try clear c10b0
                      try clear c10b1
                      try clear c11
                      try clear p15
                      try clear q15
                      try clear hx15
                      try clear c16
                      try clear c16b0
                      try clear c17
                      try clear c17b0
                      try clear c18
                      try clear c18b0
                      try clear c24
                      try clear c28
                      try clear c29
                      try clear c31
                      try clear c31b0
                      try clear c32
                      try clear c33
                      try clear c35
                      try clear c37
                      try clear c37b0
                      try clear c37b1
                      try clear c38
                      try clear c39
                      try clear c41
                      try clear c43
                      try clear c44
                      try clear c46
                      try clear hcz25_0
                      try clear hcz25_1
                      try clear hcz25_2
                      try clear hcz30_0
                      try clear hcz30_1
                      try clear hcz30_2
                      try clear hcz34_0
                      try clear hcz34_1
                      try clear hcz34_2
                      try clear hcz36_0
                      try clear hcz36_1
                      try clear hcz36_2
                      try clear hcz40_0
                      try clear hcz40_1
                      try clear hcz40_2
                      try clear hcz42_0
                      try clear hcz42_1
                      try clear hcz42_2
                      try clear hcz45_0
                      try clear hcz45_1
                      try clear hcz45_2
                      try clear hcz47_0
                      try clear hcz47_1
                      try clear hcz47_2
                      try clear hfz25_0
                      try clear hfz25_1
                      try clear hfz25_2
                      try clear hfz30_0
                      try clear hfz30_1
                      try clear hfz30_2
                      try clear hfz34_0
                      try clear hfz34_1
                      try clear hfz34_2
                      try clear hfz36_0
                      try clear hfz36_1
                      try clear hfz36_2
                      try clear hfz40_0
                      try clear hfz40_1
                      try clear hfz40_2
                      try clear hfz42_0
                      try clear hfz42_1
                      try clear hfz42_2
                      try clear hfz45_0
                      try clear hfz45_1
                      try clear hfz45_2
                      try clear hfz47_0
                      try clear hfz47_1
                      try clear hfz47_2
                      try clear hx154_0
                      try clear p154
                      try clear p2
                      try clear q154
                      obtain ⟨kq, x70_20, rfl, HA, HJ20, HO_38, BK148, BK160, BK166, HB⟩ := hcut
                      cases kq with
                      | zero => exact absurd HA.out (by simp [targumlaw12_TagTells.j2])
                      | succ kj20 =>
                        have H := HA.out
                        clear HA
                        simp only [targumlaw12_TagTells.j2] at H
                        by_cases c48 : x70_20 = true
                        · subst c48
                          have H1 : (some false) = some r := by rw [if_pos rfl] at H; exact H
                          clear H
                          have H := H1
                          clear H1
                          obtain rfl := Option.some.inj H
                          go_wp2
                          go_ret
                          exact ⟨by first | rfl | (simp [errW_none, errW_some] <;> rfl) | (simp [*, errW_none, errW_some] <;> rfl), by repeat (first | (with_reducible first | exact HB.out | apply below_alloc | apply pw_below_drewN | apply below_drew1 | refine below_set ?_ GE148.out | refine below_set ?_ GE160.out | refine below_set ?_ GE166.out) | exact HB.out)⟩
                        · replace c48 := Bool.eq_false_iff.mpr c48
                          subst c48
                          have H1 : ((tagname_Expand.f t155 t156 t157 l3).bind fun bt167 => ((targumref12_Expand.f kj20 t161 t162 t163 l3).bind fun bt169 => (if bt167.1.toList = bt169.1.toList then (if (bt167.2 != bt169.2) = true then (some false) else (targumlaw12_TagTells.l0 kj20 a0 l3 y151 (y151.length : Int) (wrap64 (x40_2 + 1)) a2_0 a2_1 a2_2)) else (some false)))) = some r := by rw [if_neg (show ¬ (false = true) by decide)] at H; exact H
                          clear H
                          have H := H1
                          clear H1
                          replace H := Option.bind_eq_some_iff.mp H
                          obtain ⟨⟨t167, t168⟩, A490, H⟩ := H
                          replace H : ((targumref12_Expand.f kj20 t161 t162 t163 l3).bind fun bt169 => (if t167.toList = bt169.1.toList then (if (t168 != bt169.2) = true then (some false) else (targumlaw12_TagTells.l0 kj20 a0 l3 y151 (y151.length : Int) (wrap64 (x40_2 + 1)) a2_0 a2_1 a2_2)) else (some false))) = some r := H
                          have A49 := Aside0.mk A490
                          clear A490
                          replace H := Option.bind_eq_some_iff.mp H
                          obtain ⟨⟨t169, t170⟩, A500, H⟩ := H
                          replace H : (if t167.toList = t169.toList then (if (t168 != t170) = true then (some false) else (targumlaw12_TagTells.l0 kj20 a0 l3 y151 (y151.length : Int) (wrap64 (x40_2 + 1)) a2_0 a2_1 a2_2)) else (some false)) = some r := H
                          have A50 := Aside0.mk A500
                          clear A500
                          by_cases c51 : t167.toList = t169.toList
                          · rw [if_pos c51] at H
                            have c51b0 : (t167.toList == t169.toList) = true := beq_iff_eq.mpr c51
                            have c51b1 : (t167.toList != t169.toList) = false := bne_eq_false_iff_eq.mpr c51
                            clear c51
                            by_cases c52 : (t168 != t170) = true
                            · rw [if_pos c52] at H
                              have c52b0 : (t168 != t170) = true := c52
                              (try (have c52b1 : decide (t168 = t170) = false := by simpa using c52))
                              (try (have c52b2 : (t168 == t170) = false := by simpa using c52))
                              (try (have c52b3 : ¬ (t168 = t170) := by simpa using c52))
                              clear c52
                              obtain rfl := Option.some.inj H
                              have hnb53 := NB160_148.out
                              have hnc53 := NB148_160.out
                              have hnb54 := NB160_166.out
                              have hnc54 := NB166_160.out
                              have hcz55_0 : wc.cell? ⟨gb160, 0, none⟩ = some (.bool t155) := (blk_cell BK160.out 0).trans rfl
                              have hcz55_1 : wc.cell? ⟨gb160, 1, none⟩ = some (.string t156) := (blk_cell BK160.out 1).trans rfl
                              have hcz55_2 : wc.cell? ⟨gb160, 2, none⟩ = some (.string t157) := (blk_cell BK160.out 2).trans rfl
                              have hfz55_0 := blk_frozen BK160.out 0
                              have hfz55_1 := blk_frozen BK160.out 1
                              have hfz55_2 := blk_frozen BK160.out 2
                              go_wp2_with (first | ((with_reducible refine gate_callee (f := 11) rfl ?_); refine goesL_ (some 74) rfl rfl Try.func11 (by kernel_rfl) rfl #[.agg #[.bool t155, .string t156, .string t157], .slice A3 l3.length c3] rfl (by (try simp only [List.map_toArray, List.map_cons, List.map_nil]); first | done | rfl | (simp only [List.length_drop, List.length_take]; rfl)) ?_; (with_reducible refine (tagname_Expand.calls t155 t156 t157 _ _ l3 t167 t168 _ ?side1 ?side2 A49.out).mono ?_); (case side1 => repeat (first | exact (Kd.C_below HR3.out HB.out) | (with_reducible refine Kd.C_alloc ?_ _) | (with_reducible refine Kd.C_drewN ?_ _) | (with_reducible refine Kd.C_drew ?_))); (case side2 => exact HC3.out); rintro e w56 ⟨rfl, hb⟩; refine ⟨_, rfl, ?_⟩; have n0_ := Aside0.mk (Kd.R_below (by (with_reducible repeat (first | apply Kd.R_alloc | apply Kd.R_drewN | apply Kd.R_drew)); exact HO_38.out) hb); have n1_ := Aside0.mk (blk_below (g := gb148) (o := .cells #[.bool a2_0, .string a2_1, .string a2_2] 23 (0, 0)) (by (with_reducible repeat (first | refine blk_drewN ?_ _ | refine blk_drew ?_ | refine blk_alloc ?_ _)); exact BK148.out) hb); have n2_ := Aside0.mk (blk_below (g := gb160) (o := .cells #[.bool t155, .string t156, .string t157] 23 (0, 0)) (by (with_reducible repeat (first | refine blk_drewN ?_ _ | refine blk_drew ?_ | refine blk_alloc ?_ _)); exact BK160.out) hb); have n3_ := Aside0.mk (blk_below (g := gb166) (o := .cells #[.bool t161, .string t162, .string t163] 23 (0, 0)) (by (with_reducible repeat (first | refine blk_drewN ?_ _ | refine blk_drew ?_ | refine blk_alloc ?_ _)); exact BK166.out) hb); have n4_ := Aside0.mk (below_step (by repeat (first | (with_reducible first | exact HB.out | apply below_alloc | apply pw_below_drewN | apply below_drew1 | refine below_set ?_ GE148.out | refine below_set ?_ GE160.out | refine below_set ?_ GE166.out) | exact HB.out)) hb); clear HO_38; clear BK148; clear BK160; clear BK166; clear HB; have HO_38 := n0_; have BK148 := n1_; have BK160 := n2_; have BK166 := n3_; have HB := n4_; clear n0_ n1_ n2_ n3_ n4_; (try clear hb); (try clear hb2); (try clear hk); (try clear hi); have hnb57 := NB166_148.out; have hnc57 := NB148_166.out; have hcz58_0 : w56.cell? ⟨gb166, 0, none⟩ = some (.bool t161) := (blk_cell BK166.out 0).trans rfl; have hcz58_1 : w56.cell? ⟨gb166, 1, none⟩ = some (.string t162) := (blk_cell BK166.out 1).trans rfl; have hcz58_2 : w56.cell? ⟨gb166, 2, none⟩ = some (.string t163) := (blk_cell BK166.out 2).trans rfl; have hfz58_0 := blk_frozen BK166.out 0; have hfz58_1 := blk_frozen BK166.out 1; have hfz58_2 := blk_frozen BK166.out 2) | ((with_reducible refine gate_callee (f := 12) rfl ?_); refine goesL_ (some 80) rfl rfl Try.func12 (by kernel_rfl) rfl #[.agg #[.bool t161, .string t162, .string t163], .slice A3 l3.length c3] rfl (by (try simp only [List.map_toArray, List.map_cons, List.map_nil]); first | done | rfl | (simp only [List.length_drop, List.length_take]; rfl)) ?_; (with_reducible refine (targumref12_Expand.calls kj20 t161 t162 t163 _ _ l3 t169 t170 _ ?side1 ?side2 A50.out).mono ?_); (case side1 => repeat (first | exact (Kd.C_below HR3.out HB.out) | (with_reducible refine Kd.C_alloc ?_ _) | (with_reducible refine Kd.C_drewN ?_ _) | (with_reducible refine Kd.C_drew ?_))); (case side2 => exact HC3.out); rintro e w59 ⟨rfl, hb⟩; refine ⟨_, rfl, ?_⟩; have n0_ := Aside0.mk (Kd.R_below (by (with_reducible repeat (first | apply Kd.R_alloc | apply Kd.R_drewN | apply Kd.R_drew)); exact HO_38.out) hb); have n1_ := Aside0.mk (blk_below (g := gb148) (o := .cells #[.bool a2_0, .string a2_1, .string a2_2] 23 (0, 0)) (by (with_reducible repeat (first | refine blk_drewN ?_ _ | refine blk_drew ?_ | refine blk_alloc ?_ _)); exact BK148.out) hb); have n2_ := Aside0.mk (blk_below (g := gb160) (o := .cells #[.bool t155, .string t156, .string t157] 23 (0, 0)) (by (with_reducible repeat (first | refine blk_drewN ?_ _ | refine blk_drew ?_ | refine blk_alloc ?_ _)); exact BK160.out) hb); have n3_ := Aside0.mk (blk_below (g := gb166) (o := .cells #[.bool t161, .string t162, .string t163] 23 (0, 0)) (by (with_reducible repeat (first | refine blk_drewN ?_ _ | refine blk_drew ?_ | refine blk_alloc ?_ _)); exact BK166.out) hb); have n4_ := Aside0.mk (below_step (by repeat (first | (with_reducible first | exact HB.out | apply below_alloc | apply pw_below_drewN | apply below_drew1 | refine below_set ?_ GE148.out | refine below_set ?_ GE160.out | refine below_set ?_ GE166.out) | exact HB.out)) hb); clear HO_38; clear BK148; clear BK160; clear BK166; clear HB; have HO_38 := n0_; have BK148 := n1_; have BK160 := n2_; have BK166 := n3_; have HB := n4_; clear n0_ n1_ n2_ n3_ n4_; (try clear hb); (try clear hb2); (try clear hk); (try clear hi)))
                              go_ret
                              exact ⟨by first | rfl | (simp [errW_none, errW_some] <;> rfl) | (simp [*, errW_none, errW_some] <;> rfl), by repeat (first | (with_reducible first | exact HB.out | apply below_alloc | apply pw_below_drewN | apply below_drew1 | refine below_set ?_ GE148.out | refine below_set ?_ GE160.out | refine below_set ?_ GE166.out) | exact HB.out)⟩
                            · rw [if_neg c52] at H
                              have c52b0 : (t168 != t170) = false := by simpa using c52
                              (try (have c52b1 : decide (t168 = t170) = true := by simpa using c52))
                              (try (have c52b2 : (t168 == t170) = true := by simpa using c52))
                              clear c52
                              have H' := Aside0.mk H
                              clear H
                              have hnb60 := NB160_148.out
                              have hnc60 := NB148_160.out
                              have hnb61 := NB160_166.out
                              have hnc61 := NB166_160.out
                              have hcz62_0 : wc.cell? ⟨gb160, 0, none⟩ = some (.bool t155) := (blk_cell BK160.out 0).trans rfl
                              have hcz62_1 : wc.cell? ⟨gb160, 1, none⟩ = some (.string t156) := (blk_cell BK160.out 1).trans rfl
                              have hcz62_2 : wc.cell? ⟨gb160, 2, none⟩ = some (.string t157) := (blk_cell BK160.out 2).trans rfl
                              have hfz62_0 := blk_frozen BK160.out 0
                              have hfz62_1 := blk_frozen BK160.out 1
                              have hfz62_2 := blk_frozen BK160.out 2
                              go_wp2_with (first | ((with_reducible refine gate_callee (f := 11) rfl ?_); refine goesL_ (some 74) rfl rfl Try.func11 (by kernel_rfl) rfl #[.agg #[.bool t155, .string t156, .string t157], .slice A3 l3.length c3] rfl (by (try simp only [List.map_toArray, List.map_cons, List.map_nil]); first | done | rfl | (simp only [List.length_drop, List.length_take]; rfl)) ?_; (with_reducible refine (tagname_Expand.calls t155 t156 t157 _ _ l3 t167 t168 _ ?side1 ?side2 A49.out).mono ?_); (case side1 => repeat (first | exact (Kd.C_below HR3.out HB.out) | (with_reducible refine Kd.C_alloc ?_ _) | (with_reducible refine Kd.C_drewN ?_ _) | (with_reducible refine Kd.C_drew ?_))); (case side2 => exact HC3.out); rintro e w63 ⟨rfl, hb⟩; refine ⟨_, rfl, ?_⟩; have n0_ := Aside0.mk (Kd.R_below (by (with_reducible repeat (first | apply Kd.R_alloc | apply Kd.R_drewN | apply Kd.R_drew)); exact HO_38.out) hb); have n1_ := Aside0.mk (blk_below (g := gb148) (o := .cells #[.bool a2_0, .string a2_1, .string a2_2] 23 (0, 0)) (by (with_reducible repeat (first | refine blk_drewN ?_ _ | refine blk_drew ?_ | refine blk_alloc ?_ _)); exact BK148.out) hb); have n2_ := Aside0.mk (blk_below (g := gb160) (o := .cells #[.bool t155, .string t156, .string t157] 23 (0, 0)) (by (with_reducible repeat (first | refine blk_drewN ?_ _ | refine blk_drew ?_ | refine blk_alloc ?_ _)); exact BK160.out) hb); have n3_ := Aside0.mk (blk_below (g := gb166) (o := .cells #[.bool t161, .string t162, .string t163] 23 (0, 0)) (by (with_reducible repeat (first | refine blk_drewN ?_ _ | refine blk_drew ?_ | refine blk_alloc ?_ _)); exact BK166.out) hb); have n4_ := Aside0.mk (below_step (by repeat (first | (with_reducible first | exact HB.out | apply below_alloc | apply pw_below_drewN | apply below_drew1 | refine below_set ?_ GE148.out | refine below_set ?_ GE160.out | refine below_set ?_ GE166.out) | exact HB.out)) hb); clear HO_38; clear BK148; clear BK160; clear BK166; clear HB; have HO_38 := n0_; have BK148 := n1_; have BK160 := n2_; have BK166 := n3_; have HB := n4_; clear n0_ n1_ n2_ n3_ n4_; (try clear hb); (try clear hb2); (try clear hk); (try clear hi); have hnb64 := NB166_148.out; have hnc64 := NB148_166.out; have hcz65_0 : w63.cell? ⟨gb166, 0, none⟩ = some (.bool t161) := (blk_cell BK166.out 0).trans rfl; have hcz65_1 : w63.cell? ⟨gb166, 1, none⟩ = some (.string t162) := (blk_cell BK166.out 1).trans rfl; have hcz65_2 : w63.cell? ⟨gb166, 2, none⟩ = some (.string t163) := (blk_cell BK166.out 2).trans rfl; have hfz65_0 := blk_frozen BK166.out 0; have hfz65_1 := blk_frozen BK166.out 1; have hfz65_2 := blk_frozen BK166.out 2) | ((with_reducible refine gate_callee (f := 12) rfl ?_); refine goesL_ (some 80) rfl rfl Try.func12 (by kernel_rfl) rfl #[.agg #[.bool t161, .string t162, .string t163], .slice A3 l3.length c3] rfl (by (try simp only [List.map_toArray, List.map_cons, List.map_nil]); first | done | rfl | (simp only [List.length_drop, List.length_take]; rfl)) ?_; (with_reducible refine (targumref12_Expand.calls kj20 t161 t162 t163 _ _ l3 t169 t170 _ ?side1 ?side2 A50.out).mono ?_); (case side1 => repeat (first | exact (Kd.C_below HR3.out HB.out) | (with_reducible refine Kd.C_alloc ?_ _) | (with_reducible refine Kd.C_drewN ?_ _) | (with_reducible refine Kd.C_drew ?_))); (case side2 => exact HC3.out); rintro e w66 ⟨rfl, hb⟩; refine ⟨_, rfl, ?_⟩; have n0_ := Aside0.mk (Kd.R_below (by (with_reducible repeat (first | apply Kd.R_alloc | apply Kd.R_drewN | apply Kd.R_drew)); exact HO_38.out) hb); have n1_ := Aside0.mk (blk_below (g := gb148) (o := .cells #[.bool a2_0, .string a2_1, .string a2_2] 23 (0, 0)) (by (with_reducible repeat (first | refine blk_drewN ?_ _ | refine blk_drew ?_ | refine blk_alloc ?_ _)); exact BK148.out) hb); have n2_ := Aside0.mk (blk_below (g := gb160) (o := .cells #[.bool t155, .string t156, .string t157] 23 (0, 0)) (by (with_reducible repeat (first | refine blk_drewN ?_ _ | refine blk_drew ?_ | refine blk_alloc ?_ _)); exact BK160.out) hb); have n3_ := Aside0.mk (blk_below (g := gb166) (o := .cells #[.bool t161, .string t162, .string t163] 23 (0, 0)) (by (with_reducible repeat (first | refine blk_drewN ?_ _ | refine blk_drew ?_ | refine blk_alloc ?_ _)); exact BK166.out) hb); have n4_ := Aside0.mk (below_step (by repeat (first | (with_reducible first | exact HB.out | apply below_alloc | apply pw_below_drewN | apply below_drew1 | refine below_set ?_ GE148.out | refine below_set ?_ GE160.out | refine below_set ?_ GE166.out) | exact HB.out)) hb); clear HO_38; clear BK148; clear BK160; clear BK166; clear HB; have HO_38 := n0_; have BK148 := n1_; have BK160 := n2_; have BK166 := n3_; have HB := n4_; clear n0_ n1_ n2_ n3_ n4_; (try clear hb); (try clear hb2); (try clear hk); (try clear hi)))
                              go_roundg kj20
                              case measure => have := HJ6.out; have := HK2.out; have := HJ20.out; omega
                              case rel => exact ⟨(wrap64 (x40_2 + 1)), (by first | rfl | (simp; done) | (simp [*]; done)), H', ⟨by have := HJ6.out; have := HK2.out; have := HJ20.out; omega⟩, ⟨by (with_reducible repeat (first | apply Kd.R_alloc | apply Kd.R_drewN | apply Kd.R_drew)); exact HO_38.out⟩, ⟨by (with_reducible repeat (first | refine blk_drewN ?_ _ | refine blk_drew ?_ | refine blk_alloc ?_ _)); exact BK148.out⟩, ⟨by repeat (first | (with_reducible first | exact HB.out | apply below_alloc | apply pw_below_drewN | apply below_drew1 | refine below_set ?_ GE148.out | refine below_set ?_ GE160.out | refine below_set ?_ GE166.out) | exact HB.out)⟩⟩
                          · rw [if_neg c51] at H
                            have c51b0 : (t167.toList == t169.toList) = false := beq_eq_false_iff_ne.mpr c51
                            have c51b1 : (t167.toList != t169.toList) = true := bne_iff_ne.mpr c51
                            obtain rfl := Option.some.inj H
                            have hnb67 := NB160_148.out
                            have hnc67 := NB148_160.out
                            have hnb68 := NB160_166.out
                            have hnc68 := NB166_160.out
                            have hcz69_0 : wc.cell? ⟨gb160, 0, none⟩ = some (.bool t155) := (blk_cell BK160.out 0).trans rfl
                            have hcz69_1 : wc.cell? ⟨gb160, 1, none⟩ = some (.string t156) := (blk_cell BK160.out 1).trans rfl
                            have hcz69_2 : wc.cell? ⟨gb160, 2, none⟩ = some (.string t157) := (blk_cell BK160.out 2).trans rfl
                            have hfz69_0 := blk_frozen BK160.out 0
                            have hfz69_1 := blk_frozen BK160.out 1
                            have hfz69_2 := blk_frozen BK160.out 2
                            go_wp2_with (first | ((with_reducible refine gate_callee (f := 11) rfl ?_); refine goesL_ (some 74) rfl rfl Try.func11 (by kernel_rfl) rfl #[.agg #[.bool t155, .string t156, .string t157], .slice A3 l3.length c3] rfl (by (try simp only [List.map_toArray, List.map_cons, List.map_nil]); first | done | rfl | (simp only [List.length_drop, List.length_take]; rfl)) ?_; (with_reducible refine (tagname_Expand.calls t155 t156 t157 _ _ l3 t167 t168 _ ?side1 ?side2 A49.out).mono ?_); (case side1 => repeat (first | exact (Kd.C_below HR3.out HB.out) | (with_reducible refine Kd.C_alloc ?_ _) | (with_reducible refine Kd.C_drewN ?_ _) | (with_reducible refine Kd.C_drew ?_))); (case side2 => exact HC3.out); rintro e w70 ⟨rfl, hb⟩; refine ⟨_, rfl, ?_⟩; have n0_ := Aside0.mk (Kd.R_below (by (with_reducible repeat (first | apply Kd.R_alloc | apply Kd.R_drewN | apply Kd.R_drew)); exact HO_38.out) hb); have n1_ := Aside0.mk (blk_below (g := gb148) (o := .cells #[.bool a2_0, .string a2_1, .string a2_2] 23 (0, 0)) (by (with_reducible repeat (first | refine blk_drewN ?_ _ | refine blk_drew ?_ | refine blk_alloc ?_ _)); exact BK148.out) hb); have n2_ := Aside0.mk (blk_below (g := gb160) (o := .cells #[.bool t155, .string t156, .string t157] 23 (0, 0)) (by (with_reducible repeat (first | refine blk_drewN ?_ _ | refine blk_drew ?_ | refine blk_alloc ?_ _)); exact BK160.out) hb); have n3_ := Aside0.mk (blk_below (g := gb166) (o := .cells #[.bool t161, .string t162, .string t163] 23 (0, 0)) (by (with_reducible repeat (first | refine blk_drewN ?_ _ | refine blk_drew ?_ | refine blk_alloc ?_ _)); exact BK166.out) hb); have n4_ := Aside0.mk (below_step (by repeat (first | (with_reducible first | exact HB.out | apply below_alloc | apply pw_below_drewN | apply below_drew1 | refine below_set ?_ GE148.out | refine below_set ?_ GE160.out | refine below_set ?_ GE166.out) | exact HB.out)) hb); clear HO_38; clear BK148; clear BK160; clear BK166; clear HB; have HO_38 := n0_; have BK148 := n1_; have BK160 := n2_; have BK166 := n3_; have HB := n4_; clear n0_ n1_ n2_ n3_ n4_; (try clear hb); (try clear hb2); (try clear hk); (try clear hi); have hnb71 := NB166_148.out; have hnc71 := NB148_166.out; have hcz72_0 : w70.cell? ⟨gb166, 0, none⟩ = some (.bool t161) := (blk_cell BK166.out 0).trans rfl; have hcz72_1 : w70.cell? ⟨gb166, 1, none⟩ = some (.string t162) := (blk_cell BK166.out 1).trans rfl; have hcz72_2 : w70.cell? ⟨gb166, 2, none⟩ = some (.string t163) := (blk_cell BK166.out 2).trans rfl; have hfz72_0 := blk_frozen BK166.out 0; have hfz72_1 := blk_frozen BK166.out 1; have hfz72_2 := blk_frozen BK166.out 2) | ((with_reducible refine gate_callee (f := 12) rfl ?_); refine goesL_ (some 80) rfl rfl Try.func12 (by kernel_rfl) rfl #[.agg #[.bool t161, .string t162, .string t163], .slice A3 l3.length c3] rfl (by (try simp only [List.map_toArray, List.map_cons, List.map_nil]); first | done | rfl | (simp only [List.length_drop, List.length_take]; rfl)) ?_; (with_reducible refine (targumref12_Expand.calls kj20 t161 t162 t163 _ _ l3 t169 t170 _ ?side1 ?side2 A50.out).mono ?_); (case side1 => repeat (first | exact (Kd.C_below HR3.out HB.out) | (with_reducible refine Kd.C_alloc ?_ _) | (with_reducible refine Kd.C_drewN ?_ _) | (with_reducible refine Kd.C_drew ?_))); (case side2 => exact HC3.out); rintro e w73 ⟨rfl, hb⟩; refine ⟨_, rfl, ?_⟩; have n0_ := Aside0.mk (Kd.R_below (by (with_reducible repeat (first | apply Kd.R_alloc | apply Kd.R_drewN | apply Kd.R_drew)); exact HO_38.out) hb); have n1_ := Aside0.mk (blk_below (g := gb148) (o := .cells #[.bool a2_0, .string a2_1, .string a2_2] 23 (0, 0)) (by (with_reducible repeat (first | refine blk_drewN ?_ _ | refine blk_drew ?_ | refine blk_alloc ?_ _)); exact BK148.out) hb); have n2_ := Aside0.mk (blk_below (g := gb160) (o := .cells #[.bool t155, .string t156, .string t157] 23 (0, 0)) (by (with_reducible repeat (first | refine blk_drewN ?_ _ | refine blk_drew ?_ | refine blk_alloc ?_ _)); exact BK160.out) hb); have n3_ := Aside0.mk (blk_below (g := gb166) (o := .cells #[.bool t161, .string t162, .string t163] 23 (0, 0)) (by (with_reducible repeat (first | refine blk_drewN ?_ _ | refine blk_drew ?_ | refine blk_alloc ?_ _)); exact BK166.out) hb); have n4_ := Aside0.mk (below_step (by repeat (first | (with_reducible first | exact HB.out | apply below_alloc | apply pw_below_drewN | apply below_drew1 | refine below_set ?_ GE148.out | refine below_set ?_ GE160.out | refine below_set ?_ GE166.out) | exact HB.out)) hb); clear HO_38; clear BK148; clear BK160; clear BK166; clear HB; have HO_38 := n0_; have BK148 := n1_; have BK160 := n2_; have BK166 := n3_; have HB := n4_; clear n0_ n1_ n2_ n3_ n4_; (try clear hb); (try clear hb2); (try clear hk); (try clear hi)))
                            go_ret
                            exact ⟨by first | rfl | (simp [errW_none, errW_some] <;> rfl) | (simp [*, errW_none, errW_some] <;> rfl), by repeat (first | (with_reducible first | exact HB.out | apply below_alloc | apply pw_below_drewN | apply below_drew1 | refine below_set ?_ GE148.out | refine below_set ?_ GE160.out | refine below_set ?_ GE166.out) | exact HB.out)⟩
                  · rw [if_neg c18] at H
                    exact absurd H (by simp)
                · rw [if_neg c17] at H
                  exact absurd H (by simp)
              · rw [if_neg c16] at H
                have c16b0 : decide (x40_2 < (y151.length : Int)) = false := decide_eq_false c16
                clear c16
                replace H := Option.bind_eq_some_iff.mp H
                obtain ⟨⟨t171, t172⟩, A740, H⟩ := H
                replace H : ((targumref12_Expand.f k2 a2_0 a2_1 a2_2 l3).bind fun bt173 => (if t171.toList = bt173.1.toList then (if (t172 == bt173.2) = true then ((tagname_Good.f a0).bind fun t175 => ((targumref12_Good.f k2 a0).bind fun t176 => (if (t175 == t176) = true then ((tagname_Write.f a0).bind fun t177 => ((targumref12_Write.f k2 a0).bind fun t178 => (some (t177.toList == t178.toList)))) else (some false)))) else (some false)) else (some false))) = some r := H
                have A74 := Aside0.mk A740
                clear A740
                replace H := Option.bind_eq_some_iff.mp H
                obtain ⟨⟨t173, t174⟩, A750, H⟩ := H
                replace H : (if t171.toList = t173.toList then (if (t172 == t174) = true then ((tagname_Good.f a0).bind fun t175 => ((targumref12_Good.f k2 a0).bind fun t176 => (if (t175 == t176) = true then ((tagname_Write.f a0).bind fun t177 => ((targumref12_Write.f k2 a0).bind fun t178 => (some (t177.toList == t178.toList)))) else (some false)))) else (some false)) else (some false)) = some r := H
                have A75 := Aside0.mk A750
                clear A750
                by_cases c76 : t171.toList = t173.toList
                · rw [if_pos c76] at H
                  have c76b0 : (t171.toList == t173.toList) = true := beq_iff_eq.mpr c76
                  have c76b1 : (t171.toList != t173.toList) = false := bne_eq_false_iff_eq.mpr c76
                  clear c76
                  by_cases c77 : (t172 == t174) = true
                  · rw [if_pos c77] at H
                    have c77b0 : (t172 == t174) = true := c77
                    (try (have c77b1 : decide (t172 = t174) = true := by simpa using c77))
                    (try (have c77b2 : (t172 == t174) = true := by simpa using c77))
                    clear c77
                    replace H := Option.bind_eq_some_iff.mp H
                    obtain ⟨t175, A780, H⟩ := H
                    replace H : ((targumref12_Good.f k2 a0).bind fun t176 => (if (t175 == t176) = true then ((tagname_Write.f a0).bind fun t177 => ((targumref12_Write.f k2 a0).bind fun t178 => (some (t177.toList == t178.toList)))) else (some false))) = some r := H
                    have A78 := Aside0.mk A780
                    clear A780
                    replace H := Option.bind_eq_some_iff.mp H
                    obtain ⟨t176, A790, H⟩ := H
                    replace H : (if (t175 == t176) = true then ((tagname_Write.f a0).bind fun t177 => ((targumref12_Write.f k2 a0).bind fun t178 => (some (t177.toList == t178.toList)))) else (some false)) = some r := H
                    have A79 := Aside0.mk A790
                    clear A790
                    by_cases c80 : (t175 == t176) = true
                    · rw [if_pos c80] at H
                      have c80b0 : (t175 == t176) = true := c80
                      (try (have c80b1 : decide (t175 = t176) = true := by simpa using c80))
                      (try (have c80b2 : (t175 == t176) = true := by simpa using c80))
                      clear c80
                      replace H := Option.bind_eq_some_iff.mp H
                      obtain ⟨t177, A810, H⟩ := H
                      replace H : ((targumref12_Write.f k2 a0).bind fun t178 => (some (t177.toList == t178.toList))) = some r := H
                      have A81 := Aside0.mk A810
                      clear A810
                      replace H := Option.bind_eq_some_iff.mp H
                      obtain ⟨t178, A820, H⟩ := H
                      replace H : (some (t177.toList == t178.toList)) = some r := H
                      have A82 := Aside0.mk A820
                      clear A820
                      obtain rfl := Option.some.inj H
                      have hcz83_0 : wr.cell? ⟨gb148, 0, none⟩ = some (.bool a2_0) := (blk_cell BK148.out 0).trans rfl
                      have hcz83_1 : wr.cell? ⟨gb148, 1, none⟩ = some (.string a2_1) := (blk_cell BK148.out 1).trans rfl
                      have hcz83_2 : wr.cell? ⟨gb148, 2, none⟩ = some (.string a2_2) := (blk_cell BK148.out 2).trans rfl
                      have hfz83_0 := blk_frozen BK148.out 0
                      have hfz83_1 := blk_frozen BK148.out 1
                      have hfz83_2 := blk_frozen BK148.out 2
                      go_wp2_with (first | ((with_reducible refine gate_callee (f := 11) rfl ?_); refine goesL_ (some 95) rfl rfl Try.func11 (by kernel_rfl) rfl #[.agg #[.bool a2_0, .string a2_1, .string a2_2], .slice A3 l3.length c3] rfl (by (try simp only [List.map_toArray, List.map_cons, List.map_nil]); first | done | rfl | (simp only [List.length_drop, List.length_take]; rfl)) ?_; (with_reducible refine (tagname_Expand.calls a2_0 a2_1 a2_2 _ _ l3 t171 t172 _ ?side1 ?side2 A74.out).mono ?_); (case side1 => repeat (first | exact (Kd.C_below HR3.out HB.out) | (with_reducible refine Kd.C_alloc ?_ _) | (with_reducible refine Kd.C_drewN ?_ _) | (with_reducible refine Kd.C_drew ?_))); (case side2 => exact HC3.out); rintro e w84 ⟨rfl, hb⟩; refine ⟨_, rfl, ?_⟩; have n0_ := Aside0.mk (Kd.R_below (by (with_reducible repeat (first | apply Kd.R_alloc | apply Kd.R_drewN | apply Kd.R_drew)); exact HO_38.out) hb); have n1_ := Aside0.mk (blk_below (g := gb148) (o := .cells #[.bool a2_0, .string a2_1, .string a2_2] 23 (0, 0)) (by (with_reducible repeat (first | refine blk_drewN ?_ _ | refine blk_drew ?_ | refine blk_alloc ?_ _)); exact BK148.out) hb); have n2_ := Aside0.mk (below_step (by repeat (first | (with_reducible first | exact HB.out | apply below_alloc | apply pw_below_drewN | apply below_drew1 | refine below_set ?_ GE148.out) | exact HB.out)) hb); clear HO_38; clear BK148; clear HB; have HO_38 := n0_; have BK148 := n1_; have HB := n2_; clear n0_ n1_ n2_; (try clear hb); (try clear hb2); (try clear hk); (try clear hi); have hcz85_0 : w84.cell? ⟨gb148, 0, none⟩ = some (.bool a2_0) := (blk_cell BK148.out 0).trans rfl; have hcz85_1 : w84.cell? ⟨gb148, 1, none⟩ = some (.string a2_1) := (blk_cell BK148.out 1).trans rfl; have hcz85_2 : w84.cell? ⟨gb148, 2, none⟩ = some (.string a2_2) := (blk_cell BK148.out 2).trans rfl; have hfz85_0 := blk_frozen BK148.out 0; have hfz85_1 := blk_frozen BK148.out 1; have hfz85_2 := blk_frozen BK148.out 2) | ((with_reducible refine gate_callee (f := 12) rfl ?_); refine goesL_ (some 101) rfl rfl Try.func12 (by kernel_rfl) rfl #[.agg #[.bool a2_0, .string a2_1, .string a2_2], .slice A3 l3.length c3] rfl (by (try simp only [List.map_toArray, List.map_cons, List.map_nil]); first | done | rfl | (simp only [List.length_drop, List.length_take]; rfl)) ?_; (with_reducible refine (targumref12_Expand.calls k2 a2_0 a2_1 a2_2 _ _ l3 t173 t174 _ ?side1 ?side2 A75.out).mono ?_); (case side1 => repeat (first | exact (Kd.C_below HR3.out HB.out) | (with_reducible refine Kd.C_alloc ?_ _) | (with_reducible refine Kd.C_drewN ?_ _) | (with_reducible refine Kd.C_drew ?_))); (case side2 => exact HC3.out); rintro e w86 ⟨rfl, hb⟩; refine ⟨_, rfl, ?_⟩; have n0_ := Aside0.mk (Kd.R_below (by (with_reducible repeat (first | apply Kd.R_alloc | apply Kd.R_drewN | apply Kd.R_drew)); exact HO_38.out) hb); have n1_ := Aside0.mk (blk_below (g := gb148) (o := .cells #[.bool a2_0, .string a2_1, .string a2_2] 23 (0, 0)) (by (with_reducible repeat (first | refine blk_drewN ?_ _ | refine blk_drew ?_ | refine blk_alloc ?_ _)); exact BK148.out) hb); have n2_ := Aside0.mk (below_step (by repeat (first | (with_reducible first | exact HB.out | apply below_alloc | apply pw_below_drewN | apply below_drew1 | refine below_set ?_ GE148.out) | exact HB.out)) hb); clear HO_38; clear BK148; clear HB; have HO_38 := n0_; have BK148 := n1_; have HB := n2_; clear n0_ n1_ n2_; (try clear hb); (try clear hb2); (try clear hk); (try clear hi)) | (go_at_call 13; (with_reducible refine (tagname_Good.calls a0 t175 _ A78.out).mono ?_); rintro e w' ⟨rfl, ⟨nd, rfl⟩⟩) | (go_at_call 14; (with_reducible refine (targumref12_Good.calls k2 a0 t176 _ A79.out).mono ?_); rintro e w' ⟨rfl, ⟨nd, rfl⟩⟩) | (go_at_call 15; (with_reducible refine (tagname_Write.calls a0 t177 _ A81.out).mono ?_); rintro e w' ⟨rfl, ⟨nd, rfl⟩⟩) | (go_at_call 16; (with_reducible refine (targumref12_Write.calls k2 a0 t178 _ A82.out).mono ?_); rintro e w' ⟨rfl, ⟨nd, rfl⟩⟩))
                      go_ret
                      exact ⟨by first | rfl | (simp [errW_none, errW_some] <;> rfl) | (simp [*, errW_none, errW_some] <;> rfl), by repeat (first | (with_reducible first | exact HB.out | apply below_alloc | apply pw_below_drewN | apply below_drew1 | refine below_set ?_ GE148.out) | exact HB.out)⟩
                    · rw [if_neg c80] at H
                      have c80b0 : (t175 == t176) = false := by simpa using c80
                      (try (have c80b1 : decide (t175 = t176) = false := by simpa using c80))
                      (try (have c80b2 : (t175 == t176) = false := by simpa using c80))
                      (try (have c80b3 : ¬ (t175 = t176) := by simpa using c80))
                      clear c80
                      obtain rfl := Option.some.inj H
                      have hcz87_0 : wr.cell? ⟨gb148, 0, none⟩ = some (.bool a2_0) := (blk_cell BK148.out 0).trans rfl
                      have hcz87_1 : wr.cell? ⟨gb148, 1, none⟩ = some (.string a2_1) := (blk_cell BK148.out 1).trans rfl
                      have hcz87_2 : wr.cell? ⟨gb148, 2, none⟩ = some (.string a2_2) := (blk_cell BK148.out 2).trans rfl
                      have hfz87_0 := blk_frozen BK148.out 0
                      have hfz87_1 := blk_frozen BK148.out 1
                      have hfz87_2 := blk_frozen BK148.out 2
                      go_wp2_with (first | ((with_reducible refine gate_callee (f := 11) rfl ?_); refine goesL_ (some 95) rfl rfl Try.func11 (by kernel_rfl) rfl #[.agg #[.bool a2_0, .string a2_1, .string a2_2], .slice A3 l3.length c3] rfl (by (try simp only [List.map_toArray, List.map_cons, List.map_nil]); first | done | rfl | (simp only [List.length_drop, List.length_take]; rfl)) ?_; (with_reducible refine (tagname_Expand.calls a2_0 a2_1 a2_2 _ _ l3 t171 t172 _ ?side1 ?side2 A74.out).mono ?_); (case side1 => repeat (first | exact (Kd.C_below HR3.out HB.out) | (with_reducible refine Kd.C_alloc ?_ _) | (with_reducible refine Kd.C_drewN ?_ _) | (with_reducible refine Kd.C_drew ?_))); (case side2 => exact HC3.out); rintro e w88 ⟨rfl, hb⟩; refine ⟨_, rfl, ?_⟩; have n0_ := Aside0.mk (Kd.R_below (by (with_reducible repeat (first | apply Kd.R_alloc | apply Kd.R_drewN | apply Kd.R_drew)); exact HO_38.out) hb); have n1_ := Aside0.mk (blk_below (g := gb148) (o := .cells #[.bool a2_0, .string a2_1, .string a2_2] 23 (0, 0)) (by (with_reducible repeat (first | refine blk_drewN ?_ _ | refine blk_drew ?_ | refine blk_alloc ?_ _)); exact BK148.out) hb); have n2_ := Aside0.mk (below_step (by repeat (first | (with_reducible first | exact HB.out | apply below_alloc | apply pw_below_drewN | apply below_drew1 | refine below_set ?_ GE148.out) | exact HB.out)) hb); clear HO_38; clear BK148; clear HB; have HO_38 := n0_; have BK148 := n1_; have HB := n2_; clear n0_ n1_ n2_; (try clear hb); (try clear hb2); (try clear hk); (try clear hi); have hcz89_0 : w88.cell? ⟨gb148, 0, none⟩ = some (.bool a2_0) := (blk_cell BK148.out 0).trans rfl; have hcz89_1 : w88.cell? ⟨gb148, 1, none⟩ = some (.string a2_1) := (blk_cell BK148.out 1).trans rfl; have hcz89_2 : w88.cell? ⟨gb148, 2, none⟩ = some (.string a2_2) := (blk_cell BK148.out 2).trans rfl; have hfz89_0 := blk_frozen BK148.out 0; have hfz89_1 := blk_frozen BK148.out 1; have hfz89_2 := blk_frozen BK148.out 2) | ((with_reducible refine gate_callee (f := 12) rfl ?_); refine goesL_ (some 101) rfl rfl Try.func12 (by kernel_rfl) rfl #[.agg #[.bool a2_0, .string a2_1, .string a2_2], .slice A3 l3.length c3] rfl (by (try simp only [List.map_toArray, List.map_cons, List.map_nil]); first | done | rfl | (simp only [List.length_drop, List.length_take]; rfl)) ?_; (with_reducible refine (targumref12_Expand.calls k2 a2_0 a2_1 a2_2 _ _ l3 t173 t174 _ ?side1 ?side2 A75.out).mono ?_); (case side1 => repeat (first | exact (Kd.C_below HR3.out HB.out) | (with_reducible refine Kd.C_alloc ?_ _) | (with_reducible refine Kd.C_drewN ?_ _) | (with_reducible refine Kd.C_drew ?_))); (case side2 => exact HC3.out); rintro e w90 ⟨rfl, hb⟩; refine ⟨_, rfl, ?_⟩; have n0_ := Aside0.mk (Kd.R_below (by (with_reducible repeat (first | apply Kd.R_alloc | apply Kd.R_drewN | apply Kd.R_drew)); exact HO_38.out) hb); have n1_ := Aside0.mk (blk_below (g := gb148) (o := .cells #[.bool a2_0, .string a2_1, .string a2_2] 23 (0, 0)) (by (with_reducible repeat (first | refine blk_drewN ?_ _ | refine blk_drew ?_ | refine blk_alloc ?_ _)); exact BK148.out) hb); have n2_ := Aside0.mk (below_step (by repeat (first | (with_reducible first | exact HB.out | apply below_alloc | apply pw_below_drewN | apply below_drew1 | refine below_set ?_ GE148.out) | exact HB.out)) hb); clear HO_38; clear BK148; clear HB; have HO_38 := n0_; have BK148 := n1_; have HB := n2_; clear n0_ n1_ n2_; (try clear hb); (try clear hb2); (try clear hk); (try clear hi)) | (go_at_call 13; (with_reducible refine (tagname_Good.calls a0 t175 _ A78.out).mono ?_); rintro e w' ⟨rfl, ⟨nd, rfl⟩⟩) | (go_at_call 14; (with_reducible refine (targumref12_Good.calls k2 a0 t176 _ A79.out).mono ?_); rintro e w' ⟨rfl, ⟨nd, rfl⟩⟩))
                      go_ret
                      exact ⟨by first | rfl | (simp [errW_none, errW_some] <;> rfl) | (simp [*, errW_none, errW_some] <;> rfl), by repeat (first | (with_reducible first | exact HB.out | apply below_alloc | apply pw_below_drewN | apply below_drew1 | refine below_set ?_ GE148.out) | exact HB.out)⟩
                  · rw [if_neg c77] at H
                    have c77b0 : (t172 == t174) = false := by simpa using c77
                    (try (have c77b1 : decide (t172 = t174) = false := by simpa using c77))
                    (try (have c77b2 : (t172 == t174) = false := by simpa using c77))
                    (try (have c77b3 : ¬ (t172 = t174) := by simpa using c77))
                    clear c77
                    obtain rfl := Option.some.inj H
                    have hcz91_0 : wr.cell? ⟨gb148, 0, none⟩ = some (.bool a2_0) := (blk_cell BK148.out 0).trans rfl
                    have hcz91_1 : wr.cell? ⟨gb148, 1, none⟩ = some (.string a2_1) := (blk_cell BK148.out 1).trans rfl
                    have hcz91_2 : wr.cell? ⟨gb148, 2, none⟩ = some (.string a2_2) := (blk_cell BK148.out 2).trans rfl
                    have hfz91_0 := blk_frozen BK148.out 0
                    have hfz91_1 := blk_frozen BK148.out 1
                    have hfz91_2 := blk_frozen BK148.out 2
                    go_wp2_with (first | ((with_reducible refine gate_callee (f := 11) rfl ?_); refine goesL_ (some 95) rfl rfl Try.func11 (by kernel_rfl) rfl #[.agg #[.bool a2_0, .string a2_1, .string a2_2], .slice A3 l3.length c3] rfl (by (try simp only [List.map_toArray, List.map_cons, List.map_nil]); first | done | rfl | (simp only [List.length_drop, List.length_take]; rfl)) ?_; (with_reducible refine (tagname_Expand.calls a2_0 a2_1 a2_2 _ _ l3 t171 t172 _ ?side1 ?side2 A74.out).mono ?_); (case side1 => repeat (first | exact (Kd.C_below HR3.out HB.out) | (with_reducible refine Kd.C_alloc ?_ _) | (with_reducible refine Kd.C_drewN ?_ _) | (with_reducible refine Kd.C_drew ?_))); (case side2 => exact HC3.out); rintro e w92 ⟨rfl, hb⟩; refine ⟨_, rfl, ?_⟩; have n0_ := Aside0.mk (Kd.R_below (by (with_reducible repeat (first | apply Kd.R_alloc | apply Kd.R_drewN | apply Kd.R_drew)); exact HO_38.out) hb); have n1_ := Aside0.mk (blk_below (g := gb148) (o := .cells #[.bool a2_0, .string a2_1, .string a2_2] 23 (0, 0)) (by (with_reducible repeat (first | refine blk_drewN ?_ _ | refine blk_drew ?_ | refine blk_alloc ?_ _)); exact BK148.out) hb); have n2_ := Aside0.mk (below_step (by repeat (first | (with_reducible first | exact HB.out | apply below_alloc | apply pw_below_drewN | apply below_drew1 | refine below_set ?_ GE148.out) | exact HB.out)) hb); clear HO_38; clear BK148; clear HB; have HO_38 := n0_; have BK148 := n1_; have HB := n2_; clear n0_ n1_ n2_; (try clear hb); (try clear hb2); (try clear hk); (try clear hi); have hcz93_0 : w92.cell? ⟨gb148, 0, none⟩ = some (.bool a2_0) := (blk_cell BK148.out 0).trans rfl; have hcz93_1 : w92.cell? ⟨gb148, 1, none⟩ = some (.string a2_1) := (blk_cell BK148.out 1).trans rfl; have hcz93_2 : w92.cell? ⟨gb148, 2, none⟩ = some (.string a2_2) := (blk_cell BK148.out 2).trans rfl; have hfz93_0 := blk_frozen BK148.out 0; have hfz93_1 := blk_frozen BK148.out 1; have hfz93_2 := blk_frozen BK148.out 2) | ((with_reducible refine gate_callee (f := 12) rfl ?_); refine goesL_ (some 101) rfl rfl Try.func12 (by kernel_rfl) rfl #[.agg #[.bool a2_0, .string a2_1, .string a2_2], .slice A3 l3.length c3] rfl (by (try simp only [List.map_toArray, List.map_cons, List.map_nil]); first | done | rfl | (simp only [List.length_drop, List.length_take]; rfl)) ?_; (with_reducible refine (targumref12_Expand.calls k2 a2_0 a2_1 a2_2 _ _ l3 t173 t174 _ ?side1 ?side2 A75.out).mono ?_); (case side1 => repeat (first | exact (Kd.C_below HR3.out HB.out) | (with_reducible refine Kd.C_alloc ?_ _) | (with_reducible refine Kd.C_drewN ?_ _) | (with_reducible refine Kd.C_drew ?_))); (case side2 => exact HC3.out); rintro e w94 ⟨rfl, hb⟩; refine ⟨_, rfl, ?_⟩; have n0_ := Aside0.mk (Kd.R_below (by (with_reducible repeat (first | apply Kd.R_alloc | apply Kd.R_drewN | apply Kd.R_drew)); exact HO_38.out) hb); have n1_ := Aside0.mk (blk_below (g := gb148) (o := .cells #[.bool a2_0, .string a2_1, .string a2_2] 23 (0, 0)) (by (with_reducible repeat (first | refine blk_drewN ?_ _ | refine blk_drew ?_ | refine blk_alloc ?_ _)); exact BK148.out) hb); have n2_ := Aside0.mk (below_step (by repeat (first | (with_reducible first | exact HB.out | apply below_alloc | apply pw_below_drewN | apply below_drew1 | refine below_set ?_ GE148.out) | exact HB.out)) hb); clear HO_38; clear BK148; clear HB; have HO_38 := n0_; have BK148 := n1_; have HB := n2_; clear n0_ n1_ n2_; (try clear hb); (try clear hb2); (try clear hk); (try clear hi)))
                    go_ret
                    exact ⟨by first | rfl | (simp [errW_none, errW_some] <;> rfl) | (simp [*, errW_none, errW_some] <;> rfl), by repeat (first | (with_reducible first | exact HB.out | apply below_alloc | apply pw_below_drewN | apply below_drew1 | refine below_set ?_ GE148.out) | exact HB.out)⟩
                · rw [if_neg c76] at H
                  have c76b0 : (t171.toList == t173.toList) = false := beq_eq_false_iff_ne.mpr c76
                  have c76b1 : (t171.toList != t173.toList) = true := bne_iff_ne.mpr c76
                  obtain rfl := Option.some.inj H
                  have hcz95_0 : wr.cell? ⟨gb148, 0, none⟩ = some (.bool a2_0) := (blk_cell BK148.out 0).trans rfl
                  have hcz95_1 : wr.cell? ⟨gb148, 1, none⟩ = some (.string a2_1) := (blk_cell BK148.out 1).trans rfl
                  have hcz95_2 : wr.cell? ⟨gb148, 2, none⟩ = some (.string a2_2) := (blk_cell BK148.out 2).trans rfl
                  have hfz95_0 := blk_frozen BK148.out 0
                  have hfz95_1 := blk_frozen BK148.out 1
                  have hfz95_2 := blk_frozen BK148.out 2
                  go_wp2_with (first | ((with_reducible refine gate_callee (f := 11) rfl ?_); refine goesL_ (some 95) rfl rfl Try.func11 (by kernel_rfl) rfl #[.agg #[.bool a2_0, .string a2_1, .string a2_2], .slice A3 l3.length c3] rfl (by (try simp only [List.map_toArray, List.map_cons, List.map_nil]); first | done | rfl | (simp only [List.length_drop, List.length_take]; rfl)) ?_; (with_reducible refine (tagname_Expand.calls a2_0 a2_1 a2_2 _ _ l3 t171 t172 _ ?side1 ?side2 A74.out).mono ?_); (case side1 => repeat (first | exact (Kd.C_below HR3.out HB.out) | (with_reducible refine Kd.C_alloc ?_ _) | (with_reducible refine Kd.C_drewN ?_ _) | (with_reducible refine Kd.C_drew ?_))); (case side2 => exact HC3.out); rintro e w96 ⟨rfl, hb⟩; refine ⟨_, rfl, ?_⟩; have n0_ := Aside0.mk (Kd.R_below (by (with_reducible repeat (first | apply Kd.R_alloc | apply Kd.R_drewN | apply Kd.R_drew)); exact HO_38.out) hb); have n1_ := Aside0.mk (blk_below (g := gb148) (o := .cells #[.bool a2_0, .string a2_1, .string a2_2] 23 (0, 0)) (by (with_reducible repeat (first | refine blk_drewN ?_ _ | refine blk_drew ?_ | refine blk_alloc ?_ _)); exact BK148.out) hb); have n2_ := Aside0.mk (below_step (by repeat (first | (with_reducible first | exact HB.out | apply below_alloc | apply pw_below_drewN | apply below_drew1 | refine below_set ?_ GE148.out) | exact HB.out)) hb); clear HO_38; clear BK148; clear HB; have HO_38 := n0_; have BK148 := n1_; have HB := n2_; clear n0_ n1_ n2_; (try clear hb); (try clear hb2); (try clear hk); (try clear hi); have hcz97_0 : w96.cell? ⟨gb148, 0, none⟩ = some (.bool a2_0) := (blk_cell BK148.out 0).trans rfl; have hcz97_1 : w96.cell? ⟨gb148, 1, none⟩ = some (.string a2_1) := (blk_cell BK148.out 1).trans rfl; have hcz97_2 : w96.cell? ⟨gb148, 2, none⟩ = some (.string a2_2) := (blk_cell BK148.out 2).trans rfl; have hfz97_0 := blk_frozen BK148.out 0; have hfz97_1 := blk_frozen BK148.out 1; have hfz97_2 := blk_frozen BK148.out 2) | ((with_reducible refine gate_callee (f := 12) rfl ?_); refine goesL_ (some 101) rfl rfl Try.func12 (by kernel_rfl) rfl #[.agg #[.bool a2_0, .string a2_1, .string a2_2], .slice A3 l3.length c3] rfl (by (try simp only [List.map_toArray, List.map_cons, List.map_nil]); first | done | rfl | (simp only [List.length_drop, List.length_take]; rfl)) ?_; (with_reducible refine (targumref12_Expand.calls k2 a2_0 a2_1 a2_2 _ _ l3 t173 t174 _ ?side1 ?side2 A75.out).mono ?_); (case side1 => repeat (first | exact (Kd.C_below HR3.out HB.out) | (with_reducible refine Kd.C_alloc ?_ _) | (with_reducible refine Kd.C_drewN ?_ _) | (with_reducible refine Kd.C_drew ?_))); (case side2 => exact HC3.out); rintro e w98 ⟨rfl, hb⟩; refine ⟨_, rfl, ?_⟩; have n0_ := Aside0.mk (Kd.R_below (by (with_reducible repeat (first | apply Kd.R_alloc | apply Kd.R_drewN | apply Kd.R_drew)); exact HO_38.out) hb); have n1_ := Aside0.mk (blk_below (g := gb148) (o := .cells #[.bool a2_0, .string a2_1, .string a2_2] 23 (0, 0)) (by (with_reducible repeat (first | refine blk_drewN ?_ _ | refine blk_drew ?_ | refine blk_alloc ?_ _)); exact BK148.out) hb); have n2_ := Aside0.mk (below_step (by repeat (first | (with_reducible first | exact HB.out | apply below_alloc | apply pw_below_drewN | apply below_drew1 | refine below_set ?_ GE148.out) | exact HB.out)) hb); clear HO_38; clear BK148; clear HB; have HO_38 := n0_; have BK148 := n1_; have HB := n2_; clear n0_ n1_ n2_; (try clear hb); (try clear hb2); (try clear hk); (try clear hi)))
                  go_ret
                  exact ⟨by first | rfl | (simp [errW_none, errW_some] <;> rfl) | (simp [*, errW_none, errW_some] <;> rfl), by repeat (first | (with_reducible first | exact HB.out | apply below_alloc | apply pw_below_drewN | apply below_drew1 | refine below_set ?_ GE148.out) | exact HB.out)⟩
  · replace c6 := Bool.eq_false_iff.mpr c6
    subst c6
    have H1 : (some false) = some r := by rw [if_neg (show ¬ (false = true) by decide)] at H; exact H
    clear H
    have H := H1
    clear H1
    obtain rfl := Option.some.inj H
    go_enter Try.func3, Try.ntmps3
    go_wp2_with (first | ((with_reducible refine gate_dst (N := 6) rfl ?_); (try (refine gate_guard (by rfl) ?_; dsimp only)); refine box_event ?hg (N := 6) ?hd (cs := #[.bool a2_0, .string a2_1, .string a2_2]) (t := 23) ?hr ?_; (case hd => rfl); (case hg => rfl); (case hr => first | (go_simp; done) | (go_simp; rfl)); intro gb148 hg w99 hbox hb; have n0_ := Aside0.mk (below_step (by repeat (first | (with_reducible first | exact HB.out | apply below_alloc | apply pw_below_drewN | apply below_drew1) | exact HB.out)) hb); have n1_ := Aside0.mk (hbox); have n2_ := Aside0.mk ((by rw [hg]; exact (below_size (by repeat (first | (with_reducible first | exact HB.out | apply below_alloc | apply pw_below_drewN | apply below_drew1) | exact HB.out))) : w.heap.size ≤ gb148)); have n3_ := Aside0.mk ((by rw [hg]; exact (below_size (by repeat (first | (with_reducible first | exact HB.out | apply below_alloc | apply pw_below_drewN | apply below_drew1) | exact HB.out))) : w.heap.size ≤ gb148)); clear HB; have HB := n0_; have BK148 := n1_; have GW148 := n2_; have GE148 := n3_; clear n0_ n1_ n2_ n3_; clear hb hbox hg) | ((with_reducible refine gate_callee (f := 7) rfl ?_); refine goesL_ (some 25) rfl rfl Try.func7 (by kernel_rfl) rfl #[] rfl (by (try simp only [List.map_toArray, List.map_cons, List.map_nil]); first | done | rfl | (simp only [List.length_drop, List.length_take]; rfl)) ?_; (with_reducible refine (targumlaw12_known.calls  false _ A5.out).mono ?_); rintro e w100 ⟨rfl, hb⟩; refine ⟨_, rfl, ?_⟩; have n0_ := Aside0.mk (blk_below (g := gb148) (o := .cells #[.bool a2_0, .string a2_1, .string a2_2] 23 (0, 0)) (by (with_reducible repeat (first | refine blk_drewN ?_ _ | refine blk_drew ?_ | refine blk_alloc ?_ _)); exact BK148.out) hb); have n1_ := Aside0.mk (below_step (by repeat (first | (with_reducible first | exact HB.out | apply below_alloc | apply pw_below_drewN | apply below_drew1 | refine below_set ?_ GE148.out) | exact HB.out)) hb); clear BK148; clear HB; have BK148 := n0_; have HB := n1_; clear n0_ n1_; (try clear hb); (try clear hb2); (try clear hk); (try clear hi)))
    go_ret
    exact ⟨by first | rfl | (simp [errW_none, errW_some] <;> rfl) | (simp [*, errW_none, errW_some] <;> rfl), by repeat (first | (with_reducible first | exact HB.out | apply below_alloc | apply pw_below_drewN | apply below_drew1 | refine below_set ?_ GE148.out) | exact HB.out)⟩

end Go.Proofs.Ytmceepmchfjinaa.Q
