-- Written by hookprint.py (a program of this project, over the kit's printer). Not trusted: Lean checks it.
import Derived.Test.YtgbnbjajaaggkaaQx0
import Derived.Test.YtgbnbjajaaggkaaQx5
import Derived.Test.YtgbnbjajaaggkaaQx6
namespace Go.Proofs.Ytgbnbjajaaggkaa.Q
open Go.RowKit Go.Proofs.YtgbnbjajaaggkaaW.PrintWords Go.Proofs.YtgbnbjajaaggkaaW.PrintLast Go.Proofs.YtgbnbjajaaggkaaW.PrintMore
attribute [local go_sem] max2_int min2_int max_two min_two max_three min_three max_four min_four   -- for this text's walks alone
set_option linter.unusedVariables false
set_option linter.unusedSimpArgs false

/-! ### targumref17_marked: function 36 -/
def targumref17_marked.l0 : Nat → Int → ByteArray → Int → Int → Option (Bool)
  | 0, _, _, _, _ => none
  | k + 1, x0, x1, x2, x7 => if x7 < (x1.size : Int) then ((targumref1_Break.f k x0 x1 x7).bind fun t189 => (if t189 = 0 then (targumref17_marked.l0 k x0 x1 x2 (wrap64 (x7 + 1))) else (if x2 < (x1.size : Int) then ((targumref1_Marker.f k x1 x2 x7 x7).bind fun t190 => (some (decide (t190 > 0)))) else (some false)))) else (if x2 < (x1.size : Int) then ((targumref1_Marker.f k x1 x2 x7 x7).bind fun t191 => (some (decide (t191 > 0)))) else (some false))
def targumref17_marked.f (k : Nat) (a0 : Int) (a1 : ByteArray) (a2 : Int) : Option (Bool) := targumref17_marked.l0 k a0 a1 a2 a2
theorem targumref17_marked.mono_l : ∀ k, (∀ y0 y1 y2 y3, LeO (targumref17_marked.l0 k y0 y1 y2 y3) (targumref17_marked.l0 (k + 1) y0 y1 y2 y3))
  | 0 => fun _ _ _ _ r h => by simp [targumref17_marked.l0] at h
  | k + 1 => by
    have ih0 := targumref17_marked.mono_l k
    · intro y0 y1 y2 y3
      unfold targumref17_marked.l0
      repeat' first
      | (with_reducible exact ih0 _ _ _ _)
      | (with_reducible exact targumref1_Break.mono _ _ _ _)
      | (with_reducible exact targumref1_Marker.mono _ _ _ _ _)
      | (with_reducible exact LeO.refl _)
      | (with_reducible exact LeO.none _)
      | (with_reducible refine LeO.ite ?_ ?_)
      | (with_reducible refine LeO.bind ?_ (fun _ => ?_))
      | exact ih0 _ _ _ _
      | exact targumref1_Break.mono _ _ _ _
      | exact targumref1_Marker.mono _ _ _ _ _
      | exact LeO.none _
      | refine LeO.ite ?_ ?_
      | refine LeO.bind ?_ (fun _ => ?_)
theorem targumref17_marked.mono : ∀ a0 a1 a2 k, LeO (targumref17_marked.f k a0 a1 a2) (targumref17_marked.f (k + 1) a0 a1 a2) := by
  intro a0 a1 a2 k
  have ih0 := targumref17_marked.mono_l k
  unfold targumref17_marked.f
  repeat' first
      | (with_reducible exact ih0 _ _ _ _)
      | (with_reducible exact targumref1_Break.mono _ _ _ _)
      | (with_reducible exact targumref1_Marker.mono _ _ _ _ _)
      | (with_reducible exact LeO.refl _)
      | (with_reducible exact LeO.none _)
      | (with_reducible refine LeO.ite ?_ ?_)
      | (with_reducible refine LeO.bind ?_ (fun _ => ?_))
      | exact ih0 _ _ _ _
      | exact targumref1_Break.mono _ _ _ _
      | exact targumref1_Marker.mono _ _ _ _ _
      | exact LeO.none _
      | refine LeO.ite ?_ ?_
      | refine LeO.bind ?_ (fun _ => ?_)
set_option maxHeartbeats 8000000 in
set_option maxRecDepth 100000 in
theorem targumref17_marked.calls (k : Nat) (a0 : Int) (a1 : ByteArray) (a2 : Int) (r : Bool) (w : World) (h : targumref17_marked.f k a0 a1 a2 = some r) :
    Calls Try.prog 36 #[.int .i64 a0, .string a1, .int .i64 a2] w fun e w' => e = .returned (.bool r) ∧ Below w.heap.size w w' := by
  have hu83 := Try.underlying83
  have HB := Aside0.mk (Below.refl w.heap.size w)
  have H : (targumref17_marked.l0 k a0 a1 a2 a2) = some r := h
  clear h
  have H' := Aside0.mk H
  clear H
  go_enter Try.func36, Try.ntmps36
  go_wp2
  go_loopg [7] k (fun kq v7 w' => ∃ (x7_1 : Int), v7 = .int .i64 x7_1 ∧ Aside0 (targumref17_marked.l0 kq a0 a1 a2 x7_1 = some r) ∧ Aside0 (kq ≤ k) ∧ Aside0 (Below w.heap.size w w'))
  case atStart => exact ⟨(a2), (by first | rfl | (simp; done) | (simp [*]; done)), H', ⟨Nat.le_refl _⟩, ⟨by repeat (first | (with_reducible first | exact HB.out | apply below_alloc | apply pw_below_drewN | apply below_drew1) | exact HB.out)⟩⟩
  case round =>
    clear H'
    (try clear p2); (try clear c3)
    obtain ⟨x7_1, rfl, HA, HK1, HB⟩ := hrel
    cases gk with
    | zero => exact absurd HA.out (by simp [targumref17_marked.l0])
    | succ k1 =>
      have H := HA.out
      clear HA
      simp only [targumref17_marked.l0] at H
      by_cases c4 : x7_1 < (a1.size : Int)
      · rw [if_pos c4] at H
        have c4b0 : decide (x7_1 < (a1.size : Int)) = true := decide_eq_true c4
        clear c4
        replace H := Option.bind_eq_some_iff.mp H
        obtain ⟨t189, A50, H⟩ := H
        replace H : (if t189 = 0 then (targumref17_marked.l0 k1 a0 a1 a2 (wrap64 (x7_1 + 1))) else (if a2 < (a1.size : Int) then ((targumref1_Marker.f k1 a1 a2 x7_1 x7_1).bind fun t190 => (some (decide (t190 > 0)))) else (some false))) = some r := H
        have A5 := Aside0.mk A50
        clear A50
        by_cases c6 : t189 = 0
        · rw [if_pos c6] at H
          have c6b0 : (t189 == 0) = true := beq_iff_eq.mpr c6
          have c6b1 : (t189 != 0) = false := bne_eq_false_iff_eq.mpr c6
          clear c6
          have H' := Aside0.mk H
          clear H
          go_wp2_with (first | (go_at_call 17; (with_reducible refine (targumref1_Break.calls k1 a0 a1 x7_1 t189 _ A5.out).mono ?_); rintro e w' ⟨rfl, ⟨nd, rfl⟩⟩))
          go_roundg k1
          case measure => have := HK1.out; omega
          case rel => exact ⟨(wrap64 (x7_1 + 1)), (by first | rfl | (simp; done) | (simp [*]; done)), H', ⟨by have := HK1.out; omega⟩, ⟨by repeat (first | (with_reducible first | exact HB.out | apply below_alloc | apply pw_below_drewN | apply below_drew1) | exact HB.out)⟩⟩
        · rw [if_neg c6] at H
          have c6b0 : (t189 == 0) = false := beq_eq_false_iff_ne.mpr c6
          have c6b1 : (t189 != 0) = true := bne_iff_ne.mpr c6
          by_cases c7 : a2 < (a1.size : Int)
          · rw [if_pos c7] at H
            have c7b0 : decide (a2 < (a1.size : Int)) = true := decide_eq_true c7
            clear c7
            replace H := Option.bind_eq_some_iff.mp H
            obtain ⟨t190, A80, H⟩ := H
            replace H : (some (decide (t190 > 0))) = some r := H
            have A8 := Aside0.mk A80
            clear A80
            obtain rfl := Option.some.inj H
            go_wp2_with (first | (go_at_call 17; (with_reducible refine (targumref1_Break.calls k1 a0 a1 x7_1 t189 _ A5.out).mono ?_); rintro e w' ⟨rfl, ⟨nd, rfl⟩⟩) | (go_at_call 51; (with_reducible refine (targumref1_Marker.calls k1 a1 a2 x7_1 x7_1 t190 _ A8.out).mono ?_); rintro e w9 ⟨rfl, hb⟩; have n0_ := Aside0.mk (below_step (by repeat (first | (with_reducible first | exact HB.out | apply below_alloc | apply pw_below_drewN | apply below_drew1) | exact HB.out)) hb); clear HB; have HB := n0_; clear n0_; (try clear hb); (try clear hb2); (try clear hk); (try clear hi)))
            go_ret
            exact ⟨by first | rfl | (simp [errW_none, errW_some] <;> rfl) | (simp [*, errW_none, errW_some] <;> rfl), by repeat (first | (with_reducible first | exact HB.out | apply below_alloc | apply pw_below_drewN | apply below_drew1) | exact HB.out)⟩
          · rw [if_neg c7] at H
            have c7b0 : decide (a2 < (a1.size : Int)) = false := decide_eq_false c7
            clear c7
            obtain rfl := Option.some.inj H
            go_wp2_with (first | (go_at_call 17; (with_reducible refine (targumref1_Break.calls k1 a0 a1 x7_1 t189 _ A5.out).mono ?_); rintro e w' ⟨rfl, ⟨nd, rfl⟩⟩))
            go_ret
            exact ⟨by first | rfl | (simp [errW_none, errW_some] <;> rfl) | (simp [*, errW_none, errW_some] <;> rfl), by repeat (first | (with_reducible first | exact HB.out | apply below_alloc | apply pw_below_drewN | apply below_drew1) | exact HB.out)⟩
      · rw [if_neg c4] at H
        have c4b0 : decide (x7_1 < (a1.size : Int)) = false := decide_eq_false c4
        clear c4
        by_cases c10 : a2 < (a1.size : Int)
        · rw [if_pos c10] at H
          have c10b0 : decide (a2 < (a1.size : Int)) = true := decide_eq_true c10
          clear c10
          replace H := Option.bind_eq_some_iff.mp H
          obtain ⟨t191, A110, H⟩ := H
          replace H : (some (decide (t191 > 0))) = some r := H
          have A11 := Aside0.mk A110
          clear A110
          obtain rfl := Option.some.inj H
          go_wp2_with (first | (go_at_call 51; (with_reducible refine (targumref1_Marker.calls k1 a1 a2 x7_1 x7_1 t191 _ A11.out).mono ?_); rintro e w12 ⟨rfl, hb⟩; have n0_ := Aside0.mk (below_step (by repeat (first | (with_reducible first | exact HB.out | apply below_alloc | apply pw_below_drewN | apply below_drew1) | exact HB.out)) hb); clear HB; have HB := n0_; clear n0_; (try clear hb); (try clear hb2); (try clear hk); (try clear hi)))
          go_ret
          exact ⟨by first | rfl | (simp [errW_none, errW_some] <;> rfl) | (simp [*, errW_none, errW_some] <;> rfl), by repeat (first | (with_reducible first | exact HB.out | apply below_alloc | apply pw_below_drewN | apply below_drew1) | exact HB.out)⟩
        · rw [if_neg c10] at H
          have c10b0 : decide (a2 < (a1.size : Int)) = false := decide_eq_false c10
          clear c10
          obtain rfl := Option.some.inj H
          go_wp2
          go_ret
          exact ⟨by first | rfl | (simp [errW_none, errW_some] <;> rfl) | (simp [*, errW_none, errW_some] <;> rfl), by repeat (first | (with_reducible first | exact HB.out | apply below_alloc | apply pw_below_drewN | apply below_drew1) | exact HB.out)⟩

/-! ### targumref17_row: function 24 -/
def targumref17_row.l0 : Nat → Int → ByteArray → Int → Int → Option (Int × Int × Int × Int)
  | 0, _, _, _, _ => none
  | k + 1, x0, x1, x2, x9 => if x2 < (x1.size : Int) then ((targumref1_IsBlank.f x1 x2).bind fun t193 => (if t193 = true then (targumref17_row.l0 k x0 x1 (wrap64 (x2 + 1)) x9) else ((targumref1_Break.f k x0 x1 x2).bind fun t194 => (if t194 = 0 then (some (x2, x9, 0, 0)) else ((targumref17_marked.f k x0 x1 (wrap64 (x2 + t194))).bind fun t195 => (if t195 = true then (some (0, 0, 11, wrap64 (x2 + t194))) else (targumref17_row.l0 k x0 x1 (wrap64 (x2 + t194)) (wrap64 (x9 + 1))))))))) else (some (x2, x9, 0, 0))
def targumref17_row.f (k : Nat) (a0 : Int) (a1 : ByteArray) (a2 : Int) : Option (Int × Int × Int × Int) := targumref17_row.l0 k a0 a1 a2 0
theorem targumref17_row.mono_l : ∀ k, (∀ y0 y1 y2 y3, LeO (targumref17_row.l0 k y0 y1 y2 y3) (targumref17_row.l0 (k + 1) y0 y1 y2 y3))
  | 0 => fun _ _ _ _ r h => by simp [targumref17_row.l0] at h
  | k + 1 => by
    have ih0 := targumref17_row.mono_l k
    · intro y0 y1 y2 y3
      unfold targumref17_row.l0
      repeat' first
      | (with_reducible exact ih0 _ _ _ _)
      | (with_reducible exact targumref17_marked.mono _ _ _ _)
      | (with_reducible exact targumref1_Break.mono _ _ _ _)
      | (with_reducible exact LeO.refl _)
      | (with_reducible exact LeO.none _)
      | (with_reducible refine LeO.ite ?_ ?_)
      | (with_reducible refine LeO.bind ?_ (fun _ => ?_))
      | exact ih0 _ _ _ _
      | exact targumref17_marked.mono _ _ _ _
      | exact targumref1_Break.mono _ _ _ _
      | exact LeO.none _
      | refine LeO.ite ?_ ?_
      | refine LeO.bind ?_ (fun _ => ?_)
theorem targumref17_row.mono : ∀ a0 a1 a2 k, LeO (targumref17_row.f k a0 a1 a2) (targumref17_row.f (k + 1) a0 a1 a2) := by
  intro a0 a1 a2 k
  have ih0 := targumref17_row.mono_l k
  unfold targumref17_row.f
  repeat' first
      | (with_reducible exact ih0 _ _ _ _)
      | (with_reducible exact targumref17_marked.mono _ _ _ _)
      | (with_reducible exact targumref1_Break.mono _ _ _ _)
      | (with_reducible exact LeO.refl _)
      | (with_reducible exact LeO.none _)
      | (with_reducible refine LeO.ite ?_ ?_)
      | (with_reducible refine LeO.bind ?_ (fun _ => ?_))
      | exact ih0 _ _ _ _
      | exact targumref17_marked.mono _ _ _ _
      | exact targumref1_Break.mono _ _ _ _
      | exact LeO.none _
      | refine LeO.ite ?_ ?_
      | refine LeO.bind ?_ (fun _ => ?_)
set_option maxHeartbeats 8000000 in
set_option maxRecDepth 100000 in
theorem targumref17_row.calls (k : Nat) (a0 : Int) (a1 : ByteArray) (a2 : Int) (r1 : Int) (r2 : Int) (r3 : Int) (r4 : Int) (w : World) (h : targumref17_row.f k a0 a1 a2 = some (r1, r2, r3, r4)) :
    Calls Try.prog 24 #[.int .i64 a0, .string a1, .int .i64 a2] w fun e w' => e = .returned (.tuple #[.int .i64 r1, .int .i64 r2, .agg #[.int .i64 r3, .int .i64 r4]]) ∧ Below w.heap.size w w' := by
  have hu32 := Try.underlying32
  have HB := Aside0.mk (Below.refl w.heap.size w)
  have H : (targumref17_row.l0 k a0 a1 a2 0) = some (r1, r2, r3, r4) := h
  clear h
  have H' := Aside0.mk H
  clear H
  go_enter Try.func24, Try.ntmps24
  go_wp2_with (first | ((with_reducible refine gate_dst (N := 8) rfl ?_); refine box_event ?hg (N := 8) ?hd (cs := #[.int .i64 0, .int .i64 0]) (t := 32) ?hr ?_; (case hd => rfl); (case hg => rfl); (case hr => first | (go_simp; done) | (go_simp; rfl)); intro gb192 hg w4 hbox hb; have n0_ := Aside0.mk (below_step (by repeat (first | (with_reducible first | exact HB.out | apply below_alloc | apply pw_below_drewN | apply below_drew1) | exact HB.out)) hb); have n1_ := Aside0.mk (hbox); have n2_ := Aside0.mk ((by rw [hg]; exact (below_size (by repeat (first | (with_reducible first | exact HB.out | apply below_alloc | apply pw_below_drewN | apply below_drew1) | exact HB.out))) : w.heap.size ≤ gb192)); have n3_ := Aside0.mk ((by rw [hg]; exact (below_size (by repeat (first | (with_reducible first | exact HB.out | apply below_alloc | apply pw_below_drewN | apply below_drew1) | exact HB.out))) : w.heap.size ≤ gb192)); clear HB; have HB := n0_; have BK192 := n1_; have GW192 := n2_; have GE192 := n3_; clear n0_ n1_ n2_ n3_; clear hb hbox hg))
  go_loopg [2, 9] k (fun kq v2 v9 w' => ∃ (x2_1 : Int) (x9_1 : Int) (x193000_1 : Int) (x193001_1 : Int), v2 = .int .i64 x2_1 ∧ v9 = .int .i64 x9_1 ∧ Aside0 (targumref17_row.l0 kq a0 a1 x2_1 x9_1 = some (r1, r2, r3, r4)) ∧ Aside0 (kq ≤ k) ∧ Aside0 (w'.heap[gb192]? = some (.cells #[.int .i64 x193000_1, .int .i64 x193001_1] 32 (0, 0))) ∧ Aside0 (Below w.heap.size w w'))
  case atStart => exact ⟨(a2), (0), (0), (0), (by first | rfl | (simp; done) | (simp [*]; done)), (by first | rfl | (simp; done) | (simp [*]; done)), H', ⟨Nat.le_refl _⟩, ⟨by (with_reducible repeat (first | refine blk_drewN ?_ _ | refine blk_drew ?_ | refine blk_alloc ?_ _)); exact BK192.out⟩, ⟨by repeat (first | (with_reducible first | exact HB.out | apply below_alloc | apply pw_below_drewN | apply below_drew1 | refine below_set ?_ GE192.out) | exact HB.out)⟩⟩
  case round =>
    clear H'
    (try clear c2); (try clear p2)
    obtain ⟨x2_1, x9_1, x193000_1, x193001_1, rfl, rfl, HA, HK1, BK192, HB⟩ := hrel
    cases gk with
    | zero => exact absurd HA.out (by simp [targumref17_row.l0])
    | succ k1 =>
      have H := HA.out
      clear HA
      simp only [targumref17_row.l0] at H
      by_cases c5 : x2_1 < (a1.size : Int)
      · rw [if_pos c5] at H
        have c5b0 : decide (x2_1 < (a1.size : Int)) = true := decide_eq_true c5
        clear c5
        replace H := Option.bind_eq_some_iff.mp H
        obtain ⟨t193, A60, H⟩ := H
        replace H : (if t193 = true then (targumref17_row.l0 k1 a0 a1 (wrap64 (x2_1 + 1)) x9_1) else ((targumref1_Break.f k1 a0 a1 x2_1).bind fun t194 => (if t194 = 0 then (some (x2_1, x9_1, 0, 0)) else ((targumref17_marked.f k1 a0 a1 (wrap64 (x2_1 + t194))).bind fun t195 => (if t195 = true then (some (0, 0, 11, wrap64 (x2_1 + t194))) else (targumref17_row.l0 k1 a0 a1 (wrap64 (x2_1 + t194)) (wrap64 (x9_1 + 1)))))))) = some (r1, r2, r3, r4) := H
        have A6 := Aside0.mk A60
        clear A60
        by_cases c7 : t193 = true
        · subst c7
          have H1 : (targumref17_row.l0 k1 a0 a1 (wrap64 (x2_1 + 1)) x9_1) = some (r1, r2, r3, r4) := by rw [if_pos rfl] at H; exact H
          clear H
          have H := H1
          clear H1
          have H' := Aside0.mk H
          clear H
          go_wp2_with (first | ((with_reducible refine gate_callee (f := 16) rfl ?_); refine goesL_ (some 17) rfl rfl Try.func16 (by kernel_rfl) rfl #[.string a1, .int .i64 x2_1] rfl (by (try simp only [List.map_toArray, List.map_cons, List.map_nil]); first | done | rfl | (simp only [List.length_drop, List.length_take]; rfl)) ?_; (with_reducible refine (targumref1_IsBlank.calls a1 x2_1 true _ A6.out).mono ?_); rintro e w' ⟨rfl, ⟨nd, rfl⟩⟩; refine ⟨_, rfl, ?_⟩))
          go_roundg k1
          case measure => have := HK1.out; omega
          case rel => exact ⟨(wrap64 (x2_1 + 1)), (x9_1), (x193000_1), (x193001_1), (by first | rfl | (simp; done) | (simp [*]; done)), (by first | rfl | (simp; done) | (simp [*]; done)), H', ⟨by have := HK1.out; omega⟩, ⟨by (with_reducible repeat (first | refine blk_drewN ?_ _ | refine blk_drew ?_ | refine blk_alloc ?_ _)); exact BK192.out⟩, ⟨by repeat (first | (with_reducible first | exact HB.out | apply below_alloc | apply pw_below_drewN | apply below_drew1 | refine below_set ?_ GE192.out) | exact HB.out)⟩⟩
        · replace c7 := Bool.eq_false_iff.mpr c7
          subst c7
          have H1 : ((targumref1_Break.f k1 a0 a1 x2_1).bind fun t194 => (if t194 = 0 then (some (x2_1, x9_1, 0, 0)) else ((targumref17_marked.f k1 a0 a1 (wrap64 (x2_1 + t194))).bind fun t195 => (if t195 = true then (some (0, 0, 11, wrap64 (x2_1 + t194))) else (targumref17_row.l0 k1 a0 a1 (wrap64 (x2_1 + t194)) (wrap64 (x9_1 + 1))))))) = some (r1, r2, r3, r4) := by rw [if_neg (show ¬ (false = true) by decide)] at H; exact H
          clear H
          have H := H1
          clear H1
          replace H := Option.bind_eq_some_iff.mp H
          obtain ⟨t194, A80, H⟩ := H
          replace H : (if t194 = 0 then (some (x2_1, x9_1, 0, 0)) else ((targumref17_marked.f k1 a0 a1 (wrap64 (x2_1 + t194))).bind fun t195 => (if t195 = true then (some (0, 0, 11, wrap64 (x2_1 + t194))) else (targumref17_row.l0 k1 a0 a1 (wrap64 (x2_1 + t194)) (wrap64 (x9_1 + 1)))))) = some (r1, r2, r3, r4) := H
          have A8 := Aside0.mk A80
          clear A80
          by_cases c9 : t194 = 0
          · rw [if_pos c9] at H
            have c9b0 : (t194 == 0) = true := beq_iff_eq.mpr c9
            have c9b1 : (t194 != 0) = false := bne_eq_false_iff_eq.mpr c9
            clear c9
            simp only [Option.some.injEq, Prod.mk.injEq] at H
            obtain ⟨rfl, rfl, rfl, rfl⟩ := H
            go_wp2_with (first | ((with_reducible refine gate_callee (f := 16) rfl ?_); refine goesL_ (some 17) rfl rfl Try.func16 (by kernel_rfl) rfl #[.string a1, .int .i64 x2_1] rfl (by (try simp only [List.map_toArray, List.map_cons, List.map_nil]); first | done | rfl | (simp only [List.length_drop, List.length_take]; rfl)) ?_; (with_reducible refine (targumref1_IsBlank.calls a1 x2_1 false _ A6.out).mono ?_); rintro e w' ⟨rfl, ⟨nd, rfl⟩⟩; refine ⟨_, rfl, ?_⟩; (try (rw [drewN_self wr]; generalize hq_ : World.drewN wr _ = wr; have n0_ : Aside0 (wr.heap[gb192]? = some (.cells #[.int .i64 x193000_1, .int .i64 x193001_1] 32 (0, 0))) := ⟨by rw [← hq_]; exact (by (with_reducible repeat (first | refine blk_drewN ?_ _ | refine blk_drew ?_ | refine blk_alloc ?_ _)); exact BK192.out)⟩; have n1_ : Aside0 (Below w.heap.size w wr) := ⟨by rw [← hq_]; exact (by repeat (first | (with_reducible first | exact HB.out | apply below_alloc | apply pw_below_drewN | apply below_drew1 | refine below_set ?_ GE192.out) | exact HB.out))⟩; clear BK192 HB hq_; have BK192 := n0_; have HB := n1_; clear n0_ n1_))) | ((with_reducible refine gate_callee (f := 17) rfl ?_); refine goesL_ (some 23) rfl rfl Try.func17 (by kernel_rfl) rfl #[.int .i64 a0, .string a1, .int .i64 x2_1] rfl (by (try simp only [List.map_toArray, List.map_cons, List.map_nil]); first | done | rfl | (simp only [List.length_drop, List.length_take]; rfl)) ?_; (with_reducible refine (targumref1_Break.calls k1 a0 a1 x2_1 t194 _ A8.out).mono ?_); rintro e w' ⟨rfl, ⟨nd, rfl⟩⟩; refine ⟨_, rfl, ?_⟩; (try (rw [drewN_self wr]; generalize hq_ : World.drewN wr _ = wr; have n0_ : Aside0 (wr.heap[gb192]? = some (.cells #[.int .i64 x193000_1, .int .i64 x193001_1] 32 (0, 0))) := ⟨by rw [← hq_]; exact (by (with_reducible repeat (first | refine blk_drewN ?_ _ | refine blk_drew ?_ | refine blk_alloc ?_ _)); exact BK192.out)⟩; have n1_ : Aside0 (Below w.heap.size w wr) := ⟨by rw [← hq_]; exact (by repeat (first | (with_reducible first | exact HB.out | apply below_alloc | apply pw_below_drewN | apply below_drew1 | refine below_set ?_ GE192.out) | exact HB.out))⟩; clear BK192 HB hq_; have BK192 := n0_; have HB := n1_; clear n0_ n1_)); have hcz10_0 : wr.cell? ⟨gb192, 0, none⟩ = some (.int .i64 x193000_1) := (blk_cell BK192.out 0).trans rfl; have hcz10_1 : wr.cell? ⟨gb192, 1, none⟩ = some (.int .i64 x193001_1) := (blk_cell BK192.out 1).trans rfl; have hfz10_0 := blk_frozen BK192.out 0; have hfz10_1 := blk_frozen BK192.out 1))
            refine bodyPost_ret (results_list (rs := [.tmp 6, .tmp 7, .cell 8 32]) rfl (by simp) (.tmp (.tmp (.cell gb192 32 #[.int .i64 0, .int .i64 0] (0, 0) _ rfl (by (with_reducible repeat (first | refine blk_drewN ?_ _ | refine blk_drew ?_ | refine blk_alloc ?_ _)); refine blk_put (cs := #[.int .i64 0, .int .i64 x193001_1]) ?_ 1 _ rfl; (with_reducible repeat (first | refine blk_drewN ?_ _ | refine blk_drew ?_ | refine blk_alloc ?_ _)); refine blk_put (cs := #[.int .i64 x193000_1, .int .i64 x193001_1]) ?_ 0 _ rfl; (with_reducible repeat (first | refine blk_drewN ?_ _ | refine blk_drew ?_ | refine blk_alloc ?_ _)); exact BK192.out) Try.underlying32 rfl (by kernel_rfl) .nil)))) rfl ?_
            exact ⟨by first | rfl | (simp [errW_none, errW_some] <;> rfl) | (simp [*, errW_none, errW_some] <;> rfl), by repeat (first | (with_reducible first | exact HB.out | apply below_alloc | apply pw_below_drewN | apply below_drew1 | refine below_set ?_ GE192.out) | exact HB.out)⟩
          · rw [if_neg c9] at H
            have c9b0 : (t194 == 0) = false := beq_eq_false_iff_ne.mpr c9
            have c9b1 : (t194 != 0) = true := bne_iff_ne.mpr c9
            replace H := Option.bind_eq_some_iff.mp H
            obtain ⟨t195, A110, H⟩ := H
            replace H : (if t195 = true then (some (0, 0, 11, wrap64 (x2_1 + t194))) else (targumref17_row.l0 k1 a0 a1 (wrap64 (x2_1 + t194)) (wrap64 (x9_1 + 1)))) = some (r1, r2, r3, r4) := H
            have A11 := Aside0.mk A110
            clear A110
            by_cases c12 : t195 = true
            · subst c12
              have H1 : (some (0, 0, 11, wrap64 (x2_1 + t194))) = some (r1, r2, r3, r4) := by rw [if_pos rfl] at H; exact H
              clear H
              have H := H1
              clear H1
              simp only [Option.some.injEq, Prod.mk.injEq] at H
              obtain ⟨rfl, rfl, rfl, rfl⟩ := H
              go_wp2_with (first | ((with_reducible refine gate_callee (f := 16) rfl ?_); refine goesL_ (some 17) rfl rfl Try.func16 (by kernel_rfl) rfl #[.string a1, .int .i64 x2_1] rfl (by (try simp only [List.map_toArray, List.map_cons, List.map_nil]); first | done | rfl | (simp only [List.length_drop, List.length_take]; rfl)) ?_; (with_reducible refine (targumref1_IsBlank.calls a1 x2_1 false _ A6.out).mono ?_); rintro e w' ⟨rfl, ⟨nd, rfl⟩⟩; refine ⟨_, rfl, ?_⟩; (try (rw [drewN_self wr]; generalize hq_ : World.drewN wr _ = wr; have n0_ : Aside0 (wr.heap[gb192]? = some (.cells #[.int .i64 x193000_1, .int .i64 x193001_1] 32 (0, 0))) := ⟨by rw [← hq_]; exact (by (with_reducible repeat (first | refine blk_drewN ?_ _ | refine blk_drew ?_ | refine blk_alloc ?_ _)); exact BK192.out)⟩; have n1_ : Aside0 (Below w.heap.size w wr) := ⟨by rw [← hq_]; exact (by repeat (first | (with_reducible first | exact HB.out | apply below_alloc | apply pw_below_drewN | apply below_drew1 | refine below_set ?_ GE192.out) | exact HB.out))⟩; clear BK192 HB hq_; have BK192 := n0_; have HB := n1_; clear n0_ n1_))) | ((with_reducible refine gate_callee (f := 17) rfl ?_); refine goesL_ (some 23) rfl rfl Try.func17 (by kernel_rfl) rfl #[.int .i64 a0, .string a1, .int .i64 x2_1] rfl (by (try simp only [List.map_toArray, List.map_cons, List.map_nil]); first | done | rfl | (simp only [List.length_drop, List.length_take]; rfl)) ?_; (with_reducible refine (targumref1_Break.calls k1 a0 a1 x2_1 t194 _ A8.out).mono ?_); rintro e w' ⟨rfl, ⟨nd, rfl⟩⟩; refine ⟨_, rfl, ?_⟩; (try (rw [drewN_self wr]; generalize hq_ : World.drewN wr _ = wr; have n0_ : Aside0 (wr.heap[gb192]? = some (.cells #[.int .i64 x193000_1, .int .i64 x193001_1] 32 (0, 0))) := ⟨by rw [← hq_]; exact (by (with_reducible repeat (first | refine blk_drewN ?_ _ | refine blk_drew ?_ | refine blk_alloc ?_ _)); exact BK192.out)⟩; have n1_ : Aside0 (Below w.heap.size w wr) := ⟨by rw [← hq_]; exact (by repeat (first | (with_reducible first | exact HB.out | apply below_alloc | apply pw_below_drewN | apply below_drew1 | refine below_set ?_ GE192.out) | exact HB.out))⟩; clear BK192 HB hq_; have BK192 := n0_; have HB := n1_; clear n0_ n1_))) | ((with_reducible refine gate_callee (f := 36) rfl ?_); refine goesL_ (some 34) rfl rfl Try.func36 (by kernel_rfl) rfl #[.int .i64 a0, .string a1, .int .i64 (wrap64 (x2_1 + t194))] rfl (by (try simp only [List.map_toArray, List.map_cons, List.map_nil]); first | done | rfl | (simp only [List.length_drop, List.length_take]; rfl)) ?_; (with_reducible refine (targumref17_marked.calls k1 a0 a1 (wrap64 (x2_1 + t194)) true _ A11.out).mono ?_); rintro e w13 ⟨rfl, hb⟩; refine ⟨_, rfl, ?_⟩; have n0_ := Aside0.mk (blk_below (g := gb192) (o := .cells #[.int .i64 x193000_1, .int .i64 x193001_1] 32 (0, 0)) (by (with_reducible repeat (first | refine blk_drewN ?_ _ | refine blk_drew ?_ | refine blk_alloc ?_ _)); exact BK192.out) hb); have n1_ := Aside0.mk (below_step (by repeat (first | (with_reducible first | exact HB.out | apply below_alloc | apply pw_below_drewN | apply below_drew1 | refine below_set ?_ GE192.out) | exact HB.out)) hb); clear BK192; clear HB; have BK192 := n0_; have HB := n1_; clear n0_ n1_; (try clear hb); (try clear hb2); (try clear hk); (try clear hi); have hcz14_0 : w13.cell? ⟨gb192, 0, none⟩ = some (.int .i64 x193000_1) := (blk_cell BK192.out 0).trans rfl; have hcz14_1 : w13.cell? ⟨gb192, 1, none⟩ = some (.int .i64 x193001_1) := (blk_cell BK192.out 1).trans rfl; have hfz14_0 := blk_frozen BK192.out 0; have hfz14_1 := blk_frozen BK192.out 1))
              refine bodyPost_ret (results_list (rs := [.tmp 6, .tmp 7, .cell 8 32]) rfl (by simp) (.tmp (.tmp (.cell gb192 32 #[.int .i64 11, .int .i64 (wrap64 (x2_1 + t194))] (0, 0) _ rfl (by (with_reducible repeat (first | refine blk_drewN ?_ _ | refine blk_drew ?_ | refine blk_alloc ?_ _)); refine blk_put (cs := #[.int .i64 11, .int .i64 x193001_1]) ?_ 1 _ rfl; (with_reducible repeat (first | refine blk_drewN ?_ _ | refine blk_drew ?_ | refine blk_alloc ?_ _)); refine blk_put (cs := #[.int .i64 x193000_1, .int .i64 x193001_1]) ?_ 0 _ rfl; (with_reducible repeat (first | refine blk_drewN ?_ _ | refine blk_drew ?_ | refine blk_alloc ?_ _)); exact BK192.out) Try.underlying32 rfl (by kernel_rfl) .nil)))) rfl ?_
              exact ⟨by first | rfl | (simp [errW_none, errW_some] <;> rfl) | (simp [*, errW_none, errW_some] <;> rfl), by repeat (first | (with_reducible first | exact HB.out | apply below_alloc | apply pw_below_drewN | apply below_drew1 | refine below_set ?_ GE192.out) | exact HB.out)⟩
            · replace c12 := Bool.eq_false_iff.mpr c12
              subst c12
              have H1 : (targumref17_row.l0 k1 a0 a1 (wrap64 (x2_1 + t194)) (wrap64 (x9_1 + 1))) = some (r1, r2, r3, r4) := by rw [if_neg (show ¬ (false = true) by decide)] at H; exact H
              clear H
              have H := H1
              clear H1
              have H' := Aside0.mk H
              clear H
              go_wp2_with (first | ((with_reducible refine gate_callee (f := 16) rfl ?_); refine goesL_ (some 17) rfl rfl Try.func16 (by kernel_rfl) rfl #[.string a1, .int .i64 x2_1] rfl (by (try simp only [List.map_toArray, List.map_cons, List.map_nil]); first | done | rfl | (simp only [List.length_drop, List.length_take]; rfl)) ?_; (with_reducible refine (targumref1_IsBlank.calls a1 x2_1 false _ A6.out).mono ?_); rintro e w' ⟨rfl, ⟨nd, rfl⟩⟩; refine ⟨_, rfl, ?_⟩) | ((with_reducible refine gate_callee (f := 17) rfl ?_); refine goesL_ (some 23) rfl rfl Try.func17 (by kernel_rfl) rfl #[.int .i64 a0, .string a1, .int .i64 x2_1] rfl (by (try simp only [List.map_toArray, List.map_cons, List.map_nil]); first | done | rfl | (simp only [List.length_drop, List.length_take]; rfl)) ?_; (with_reducible refine (targumref1_Break.calls k1 a0 a1 x2_1 t194 _ A8.out).mono ?_); rintro e w' ⟨rfl, ⟨nd, rfl⟩⟩; refine ⟨_, rfl, ?_⟩) | ((with_reducible refine gate_callee (f := 36) rfl ?_); refine goesL_ (some 34) rfl rfl Try.func36 (by kernel_rfl) rfl #[.int .i64 a0, .string a1, .int .i64 (wrap64 (x2_1 + t194))] rfl (by (try simp only [List.map_toArray, List.map_cons, List.map_nil]); first | done | rfl | (simp only [List.length_drop, List.length_take]; rfl)) ?_; (with_reducible refine (targumref17_marked.calls k1 a0 a1 (wrap64 (x2_1 + t194)) false _ A11.out).mono ?_); rintro e w15 ⟨rfl, hb⟩; refine ⟨_, rfl, ?_⟩; have n0_ := Aside0.mk (blk_below (g := gb192) (o := .cells #[.int .i64 x193000_1, .int .i64 x193001_1] 32 (0, 0)) (by (with_reducible repeat (first | refine blk_drewN ?_ _ | refine blk_drew ?_ | refine blk_alloc ?_ _)); exact BK192.out) hb); have n1_ := Aside0.mk (below_step (by repeat (first | (with_reducible first | exact HB.out | apply below_alloc | apply pw_below_drewN | apply below_drew1 | refine below_set ?_ GE192.out) | exact HB.out)) hb); clear BK192; clear HB; have BK192 := n0_; have HB := n1_; clear n0_ n1_; (try clear hb); (try clear hb2); (try clear hk); (try clear hi)))
              go_roundg k1
              case measure => have := HK1.out; omega
              case rel => exact ⟨(wrap64 (x2_1 + t194)), (wrap64 (x9_1 + 1)), (x193000_1), (x193001_1), (by first | rfl | (simp; done) | (simp [*]; done)), (by first | rfl | (simp; done) | (simp [*]; done)), H', ⟨by have := HK1.out; omega⟩, ⟨by (with_reducible repeat (first | refine blk_drewN ?_ _ | refine blk_drew ?_ | refine blk_alloc ?_ _)); exact BK192.out⟩, ⟨by repeat (first | (with_reducible first | exact HB.out | apply below_alloc | apply pw_below_drewN | apply below_drew1 | refine below_set ?_ GE192.out) | exact HB.out)⟩⟩
      · rw [if_neg c5] at H
        have c5b0 : decide (x2_1 < (a1.size : Int)) = false := decide_eq_false c5
        clear c5
        simp only [Option.some.injEq, Prod.mk.injEq] at H
        obtain ⟨rfl, rfl, rfl, rfl⟩ := H
        have hcz16_0 : wr.cell? ⟨gb192, 0, none⟩ = some (.int .i64 x193000_1) := (blk_cell BK192.out 0).trans rfl
        have hcz16_1 : wr.cell? ⟨gb192, 1, none⟩ = some (.int .i64 x193001_1) := (blk_cell BK192.out 1).trans rfl
        have hfz16_0 := blk_frozen BK192.out 0
        have hfz16_1 := blk_frozen BK192.out 1
        go_wp2
        refine bodyPost_ret (results_list (rs := [.tmp 6, .tmp 7, .cell 8 32]) rfl (by simp) (.tmp (.tmp (.cell gb192 32 #[.int .i64 0, .int .i64 0] (0, 0) _ rfl (by (with_reducible repeat (first | refine blk_drewN ?_ _ | refine blk_drew ?_ | refine blk_alloc ?_ _)); refine blk_put (cs := #[.int .i64 0, .int .i64 x193001_1]) ?_ 1 _ rfl; (with_reducible repeat (first | refine blk_drewN ?_ _ | refine blk_drew ?_ | refine blk_alloc ?_ _)); refine blk_put (cs := #[.int .i64 x193000_1, .int .i64 x193001_1]) ?_ 0 _ rfl; (with_reducible repeat (first | refine blk_drewN ?_ _ | refine blk_drew ?_ | refine blk_alloc ?_ _)); exact BK192.out) Try.underlying32 rfl (by kernel_rfl) .nil)))) rfl ?_
        exact ⟨by first | rfl | (simp [errW_none, errW_some] <;> rfl) | (simp [*, errW_none, errW_some] <;> rfl), by repeat (first | (with_reducible first | exact HB.out | apply below_alloc | apply pw_below_drewN | apply below_drew1 | refine below_set ?_ GE192.out) | exact HB.out)⟩

/-! ### targumref17_feeds: function 25 -/
def targumref17_feeds.l0 : Nat → Int → ByteArray → Int → Option (ByteArray)
  | 0, _, _, _ => none
  | k + 1, x0, x3, x4 => if x4 < x0 then (if x3.size + 1 ≤ 9223372036854775807 then (targumref17_feeds.l0 k x0 (x3 ++ (⟨#[10]⟩ : ByteArray)) (wrap64 (x4 + 1))) else (none)) else (some x3)
def targumref17_feeds.f (k : Nat) (a0 : Int) : Option (ByteArray) := targumref17_feeds.l0 k a0 (⟨#[]⟩ : ByteArray) 0
theorem targumref17_feeds.mono_l : ∀ k, (∀ y0 y1 y2, LeO (targumref17_feeds.l0 k y0 y1 y2) (targumref17_feeds.l0 (k + 1) y0 y1 y2))
  | 0 => fun _ _ _ r h => by simp [targumref17_feeds.l0] at h
  | k + 1 => by
    have ih0 := targumref17_feeds.mono_l k
    · intro y0 y1 y2
      unfold targumref17_feeds.l0
      repeat' first
      | (with_reducible exact ih0 _ _ _)
      | (with_reducible exact LeO.refl _)
      | (with_reducible exact LeO.none _)
      | (with_reducible refine LeO.ite ?_ ?_)
      | (with_reducible refine LeO.bind ?_ (fun _ => ?_))
      | exact ih0 _ _ _
      | exact LeO.none _
      | refine LeO.ite ?_ ?_
      | refine LeO.bind ?_ (fun _ => ?_)
theorem targumref17_feeds.mono : ∀ a0 k, LeO (targumref17_feeds.f k a0) (targumref17_feeds.f (k + 1) a0) := by
  intro a0 k
  have ih0 := targumref17_feeds.mono_l k
  unfold targumref17_feeds.f
  repeat' first
      | (with_reducible exact ih0 _ _ _)
      | (with_reducible exact LeO.refl _)
      | (with_reducible exact LeO.none _)
      | (with_reducible refine LeO.ite ?_ ?_)
      | (with_reducible refine LeO.bind ?_ (fun _ => ?_))
      | exact ih0 _ _ _
      | exact LeO.none _
      | refine LeO.ite ?_ ?_
      | refine LeO.bind ?_ (fun _ => ?_)
set_option maxHeartbeats 8000000 in
set_option maxRecDepth 100000 in
theorem targumref17_feeds.calls (k : Nat) (a0 : Int) (r : ByteArray) (w : World) (h : targumref17_feeds.f k a0 = some r) :
    Calls Try.prog 25 #[.int .i64 a0] w fun e w' => e = .returned (.string r) ∧ Drawn0 w w' := by
  have H : (targumref17_feeds.l0 k a0 (⟨#[]⟩ : ByteArray) 0) = some r := h
  clear h
  have H' := Aside0.mk H
  clear H
  go_enter Try.func25, Try.ntmps25
  go_wp2
  go_loopg [3, 4] k (fun kq v3 v4 w' => ∃ (x3_1 : ByteArray) (x4_1 : Int), v3 = .string x3_1 ∧ v4 = .int .i64 x4_1 ∧ Aside0 (targumref17_feeds.l0 kq a0 x3_1 x4_1 = some r) ∧ Aside0 (kq ≤ k) ∧ Drawn0 w w')
  case atStart => exact ⟨((⟨#[]⟩ : ByteArray)), (0), (by first | rfl | (simp; done) | (simp [*]; done)), (by first | rfl | (simp; done) | (simp [*]; done)), H', ⟨Nat.le_refl _⟩, by repeat (first | exact Drawn0.refl _ | apply Drawn0.step)⟩
  case round =>
    clear H'
    obtain ⟨x3_1, x4_1, rfl, rfl, HA, HK1, ⟨m1, rfl⟩⟩ := hrel
    cases gk with
    | zero => exact absurd HA.out (by simp [targumref17_feeds.l0])
    | succ k1 =>
      have H := HA.out
      clear HA
      simp only [targumref17_feeds.l0] at H
      by_cases c2 : x4_1 < a0
      · rw [if_pos c2] at H
        have c2b0 : decide (x4_1 < a0) = true := decide_eq_true c2
        clear c2
        by_cases c3 : x3_1.size + 1 ≤ 9223372036854775807
        · rw [if_pos c3] at H
          have c3b0 := eq_true c3
          have c3b1 : decide (x3_1.size + 1 ≤ 9223372036854775807) = true := decide_eq_true c3
          try have c3b2 : (9223372036854775807 < x3_1.size + 1) = False := eq_false (Nat.not_lt.2 c3)
          have H' := Aside0.mk H
          clear H
          go_wp2
          go_roundg k1
          case measure => have := HK1.out; omega
          case rel => exact ⟨(x3_1 ++ (⟨#[10]⟩ : ByteArray)), (wrap64 (x4_1 + 1)), (by first | rfl | (simp; done) | (simp [*]; done)), (by first | rfl | (simp; done) | (simp [*]; done)), H', ⟨by have := HK1.out; omega⟩, by repeat (first | exact Drawn0.refl _ | apply Drawn0.step)⟩
        · rw [if_neg c3] at H
          exact absurd H (by simp)
      · rw [if_neg c2] at H
        have c2b0 : decide (x4_1 < a0) = false := decide_eq_false c2
        clear c2
        obtain rfl := Option.some.inj H
        go_wp2
        go_ret
        exact ⟨by first | rfl | (simp; done) | (simp [*]; done), by repeat (first | exact Drawn0.refl _ | apply Drawn0.step)⟩

/-! ### targumref17_simple: function 37 -/
mutual
def targumref17_simple.j0 : Nat → Int → Int → Int → Bool → Option (Int)
  | 0, _, _, _, _ => none
  | k + 1, x0, x1, x5, x12 => if x12 = true then (some 9) else (if x5 = 110 then (some 10) else (if x5 = 118 then (some 11) else (if x5 = 102 then (some 12) else (if x5 = 114 then (some 13) else (if x5 = 101 then (some 27) else (if x5 = 32 then (targumref17_simple.j1 k x0 x1 x5 (x5 == 32)) else (if x5 = 34 then (targumref17_simple.j1 k x0 x1 x5 (x5 == 34)) else (targumref17_simple.j1 k x0 x1 x5 (x5 == 92)))))))))
def targumref17_simple.j1 : Nat → Int → Int → Int → Bool → Option (Int)
  | 0, _, _, _, _ => none
  | k + 1, x0, x1, x5, x25 => if x25 = true then (some (wrap64 (x1))) else (if x5 = 78 then (some 133) else (if x5 = 95 then (some 160) else (if x5 = 76 then (some 8232) else (if x5 = 80 then (some 8233) else (if x5 = 47 then (if x0 = 11 then (some (-1)) else (some 47)) else (some (-1)))))))
end
def targumref17_simple.f (k : Nat) (a0 : Int) (a1 : Int) : Option (Int) := if a1 = 48 then (some 0) else (if a1 = 97 then (some 7) else (if a1 = 98 then (some 8) else (if a1 = 116 then (targumref17_simple.j0 k a0 a1 a1 (a1 == 116)) else (targumref17_simple.j0 k a0 a1 a1 (a1 == 9)))))
theorem targumref17_simple.mono_l : ∀ k, (∀ y0 y1 y2 y3, LeO (targumref17_simple.j0 k y0 y1 y2 y3) (targumref17_simple.j0 (k + 1) y0 y1 y2 y3)) ∧ (∀ y0 y1 y2 y3, LeO (targumref17_simple.j1 k y0 y1 y2 y3) (targumref17_simple.j1 (k + 1) y0 y1 y2 y3))
  | 0 => ⟨fun _ _ _ _ r h => by simp [targumref17_simple.j0] at h, fun _ _ _ _ r h => by simp [targumref17_simple.j1] at h⟩
  | k + 1 => by
    obtain ⟨ih0, ih1⟩ := targumref17_simple.mono_l k
    refine ⟨?_, ?_⟩
    · intro y0 y1 y2 y3
      unfold targumref17_simple.j0
      repeat' first
      | (with_reducible exact ih0 _ _ _ _)
      | (with_reducible exact ih1 _ _ _ _)
      | (with_reducible exact LeO.refl _)
      | (with_reducible exact LeO.none _)
      | (with_reducible refine LeO.ite ?_ ?_)
      | (with_reducible refine LeO.bind ?_ (fun _ => ?_))
      | exact ih0 _ _ _ _
      | exact ih1 _ _ _ _
      | exact LeO.none _
      | refine LeO.ite ?_ ?_
      | refine LeO.bind ?_ (fun _ => ?_)
    · intro y0 y1 y2 y3
      unfold targumref17_simple.j1
      repeat' first
      | (with_reducible exact ih0 _ _ _ _)
      | (with_reducible exact ih1 _ _ _ _)
      | (with_reducible exact LeO.refl _)
      | (with_reducible exact LeO.none _)
      | (with_reducible refine LeO.ite ?_ ?_)
      | (with_reducible refine LeO.bind ?_ (fun _ => ?_))
      | exact ih0 _ _ _ _
      | exact ih1 _ _ _ _
      | exact LeO.none _
      | refine LeO.ite ?_ ?_
      | refine LeO.bind ?_ (fun _ => ?_)
theorem targumref17_simple.mono : ∀ a0 a1 k, LeO (targumref17_simple.f k a0 a1) (targumref17_simple.f (k + 1) a0 a1) := by
  intro a0 a1 k
  obtain ⟨ih0, ih1⟩ := targumref17_simple.mono_l k
  unfold targumref17_simple.f
  repeat' first
      | (with_reducible exact ih0 _ _ _ _)
      | (with_reducible exact ih1 _ _ _ _)
      | (with_reducible exact LeO.refl _)
      | (with_reducible exact LeO.none _)
      | (with_reducible refine LeO.ite ?_ ?_)
      | (with_reducible refine LeO.bind ?_ (fun _ => ?_))
      | exact ih0 _ _ _ _
      | exact ih1 _ _ _ _
      | exact LeO.none _
      | refine LeO.ite ?_ ?_
      | refine LeO.bind ?_ (fun _ => ?_)
set_option maxHeartbeats 8000000 in
set_option maxRecDepth 100000 in
theorem targumref17_simple.calls (k : Nat) (a0 : Int) (a1 : Int) (r : Int) (w : World) (h : targumref17_simple.f k a0 a1 = some r) :
    Calls Try.prog 37 #[.int .i64 a0, .int .u8 a1] w fun e w' => e = .returned (.int .i64 r) ∧ Drawn0 w w' := by
  have H : (if a1 = 48 then (some 0) else (if a1 = 97 then (some 7) else (if a1 = 98 then (some 8) else (if a1 = 116 then (targumref17_simple.j0 k a0 a1 a1 (a1 == 116)) else (targumref17_simple.j0 k a0 a1 a1 (a1 == 9)))))) = some r := h
  clear h
  by_cases c3 : a1 = 48
  · rw [if_pos c3] at H
    have c3b0 : (a1 == 48) = true := beq_iff_eq.mpr c3
    have c3b1 : (a1 != 48) = false := bne_eq_false_iff_eq.mpr c3
    clear c3
    obtain rfl := Option.some.inj H
    go_enter Try.func37, Try.ntmps37
    go_wp2
    go_ret
    exact ⟨by first | rfl | (simp; done) | (simp [*]; done), by repeat (first | exact Drawn0.refl _ | apply Drawn0.step)⟩
  · rw [if_neg c3] at H
    have c3b0 : (a1 == 48) = false := beq_eq_false_iff_ne.mpr c3
    have c3b1 : (a1 != 48) = true := bne_iff_ne.mpr c3
    by_cases c4 : a1 = 97
    · rw [if_pos c4] at H
      have c4b0 : (a1 == 97) = true := beq_iff_eq.mpr c4
      have c4b1 : (a1 != 97) = false := bne_eq_false_iff_eq.mpr c4
      clear c4
      obtain rfl := Option.some.inj H
      go_enter Try.func37, Try.ntmps37
      go_wp2
      go_ret
      exact ⟨by first | rfl | (simp; done) | (simp [*]; done), by repeat (first | exact Drawn0.refl _ | apply Drawn0.step)⟩
    · rw [if_neg c4] at H
      have c4b0 : (a1 == 97) = false := beq_eq_false_iff_ne.mpr c4
      have c4b1 : (a1 != 97) = true := bne_iff_ne.mpr c4
      by_cases c5 : a1 = 98
      · rw [if_pos c5] at H
        have c5b0 : (a1 == 98) = true := beq_iff_eq.mpr c5
        have c5b1 : (a1 != 98) = false := bne_eq_false_iff_eq.mpr c5
        clear c5
        obtain rfl := Option.some.inj H
        go_enter Try.func37, Try.ntmps37
        go_wp2
        go_ret
        exact ⟨by first | rfl | (simp; done) | (simp [*]; done), by repeat (first | exact Drawn0.refl _ | apply Drawn0.step)⟩
      · rw [if_neg c5] at H
        have c5b0 : (a1 == 98) = false := beq_eq_false_iff_ne.mpr c5
        have c5b1 : (a1 != 98) = true := bne_iff_ne.mpr c5
        have HC6 := Aside0.mk H
        clear H
        go_enter Try.func37, Try.ntmps37
        go_upto_if 12 with (fail)
        go_cut [12] (fun v12 wc => ∃ (kq : Nat) (x12_5 : Bool), v12 = .bool x12_5 ∧ Aside0 (targumref17_simple.j0 kq a0 a1 a1 x12_5 = some r) ∧ Aside0 (kq ≤ k) ∧ Drawn0 w wc)
        case first =>
          have H := HC6.out
          clear HC6
          by_cases c7 : a1 = 116
          · rw [if_pos c7] at H
            have c7b0 : (a1 == 116) = true := beq_iff_eq.mpr c7
            have c7b1 : (a1 != 116) = false := bne_eq_false_iff_eq.mpr c7
            clear c7
            (first | rw [c7b0] | (simp only [i64_w, i32_w]; rw [c7b0]) | skip)
            have H' := Aside0.mk H
            clear H
            go_wp2
            go_meet
            case rel => exact ⟨_, ((a1 == 116)), (by first | rfl | (simp; done) | (simp [*]; done)), H', ⟨by first | omega | exact Nat.le_refl _⟩, by repeat (first | exact Drawn0.refl _ | apply Drawn0.step)⟩
          · rw [if_neg c7] at H
            have c7b0 : (a1 == 116) = false := beq_eq_false_iff_ne.mpr c7
            have c7b1 : (a1 != 116) = true := bne_iff_ne.mpr c7
            (first | rw [c7b0] | (simp only [i64_w, i32_w]; rw [c7b0]) | skip)
            have H' := Aside0.mk H
            clear H
            go_wp2
            go_meet
            case rel => exact ⟨_, ((a1 == 9)), (by first | rfl | (simp; done) | (simp [*]; done)), H', ⟨by first | omega | exact Nat.le_refl _⟩, by repeat (first | exact Drawn0.refl _ | apply Drawn0.step)⟩
        case rest =>
          clear HC6
          (try clear p2); (try clear c3); (try clear c3b0); (try clear c3b1); (try clear c4); (try clear c4b0); (try clear c4b1); (try clear c5); (try clear c5b0); (try clear c5b1); (try clear c7); (try clear c7b0); (try clear c7b1)
          obtain ⟨kq, x12_5, rfl, HA, HJ5, ⟨mc5, rfl⟩⟩ := hcut
          cases kq with
          | zero => exact absurd HA.out (by simp [targumref17_simple.j0])
          | succ kj5 =>
            have H := HA.out
            clear HA
            simp only [targumref17_simple.j0] at H
            by_cases c8 : x12_5 = true
            · subst c8
              have H1 : (some 9) = some r := by rw [if_pos rfl] at H; exact H
              clear H
              have H := H1
              clear H1
              obtain rfl := Option.some.inj H
              go_wp2
              go_ret
              exact ⟨by first | rfl | (simp; done) | (simp [*]; done), by repeat (first | exact Drawn0.refl _ | apply Drawn0.step)⟩
            · replace c8 := Bool.eq_false_iff.mpr c8
              subst c8
              have H1 : (if a1 = 110 then (some 10) else (if a1 = 118 then (some 11) else (if a1 = 102 then (some 12) else (if a1 = 114 then (some 13) else (if a1 = 101 then (some 27) else (if a1 = 32 then (targumref17_simple.j1 kj5 a0 a1 a1 (a1 == 32)) else (if a1 = 34 then (targumref17_simple.j1 kj5 a0 a1 a1 (a1 == 34)) else (targumref17_simple.j1 kj5 a0 a1 a1 (a1 == 92))))))))) = some r := by rw [if_neg (show ¬ (false = true) by decide)] at H; exact H
              clear H
              have H := H1
              clear H1
              by_cases c9 : a1 = 110
              · rw [if_pos c9] at H
                have c9b0 : (a1 == 110) = true := beq_iff_eq.mpr c9
                have c9b1 : (a1 != 110) = false := bne_eq_false_iff_eq.mpr c9
                clear c9
                obtain rfl := Option.some.inj H
                go_wp2
                go_ret
                exact ⟨by first | rfl | (simp; done) | (simp [*]; done), by repeat (first | exact Drawn0.refl _ | apply Drawn0.step)⟩
              · rw [if_neg c9] at H
                have c9b0 : (a1 == 110) = false := beq_eq_false_iff_ne.mpr c9
                have c9b1 : (a1 != 110) = true := bne_iff_ne.mpr c9
                by_cases c10 : a1 = 118
                · rw [if_pos c10] at H
                  have c10b0 : (a1 == 118) = true := beq_iff_eq.mpr c10
                  have c10b1 : (a1 != 118) = false := bne_eq_false_iff_eq.mpr c10
                  clear c10
                  obtain rfl := Option.some.inj H
                  go_wp2
                  go_ret
                  exact ⟨by first | rfl | (simp; done) | (simp [*]; done), by repeat (first | exact Drawn0.refl _ | apply Drawn0.step)⟩
                · rw [if_neg c10] at H
                  have c10b0 : (a1 == 118) = false := beq_eq_false_iff_ne.mpr c10
                  have c10b1 : (a1 != 118) = true := bne_iff_ne.mpr c10
                  by_cases c11 : a1 = 102
                  · rw [if_pos c11] at H
                    have c11b0 : (a1 == 102) = true := beq_iff_eq.mpr c11
                    have c11b1 : (a1 != 102) = false := bne_eq_false_iff_eq.mpr c11
                    clear c11
                    obtain rfl := Option.some.inj H
                    go_wp2
                    go_ret
                    exact ⟨by first | rfl | (simp; done) | (simp [*]; done), by repeat (first | exact Drawn0.refl _ | apply Drawn0.step)⟩
                  · rw [if_neg c11] at H
                    have c11b0 : (a1 == 102) = false := beq_eq_false_iff_ne.mpr c11
                    have c11b1 : (a1 != 102) = true := bne_iff_ne.mpr c11
                    by_cases c12 : a1 = 114
                    · rw [if_pos c12] at H
                      have c12b0 : (a1 == 114) = true := beq_iff_eq.mpr c12
                      have c12b1 : (a1 != 114) = false := bne_eq_false_iff_eq.mpr c12
                      clear c12
                      obtain rfl := Option.some.inj H
                      go_wp2
                      go_ret
                      exact ⟨by first | rfl | (simp; done) | (simp [*]; done), by repeat (first | exact Drawn0.refl _ | apply Drawn0.step)⟩
                    · rw [if_neg c12] at H
                      have c12b0 : (a1 == 114) = false := beq_eq_false_iff_ne.mpr c12
                      have c12b1 : (a1 != 114) = true := bne_iff_ne.mpr c12
                      by_cases c13 : a1 = 101
                      · rw [if_pos c13] at H
                        have c13b0 : (a1 == 101) = true := beq_iff_eq.mpr c13
                        have c13b1 : (a1 != 101) = false := bne_eq_false_iff_eq.mpr c13
                        clear c13
                        obtain rfl := Option.some.inj H
                        go_wp2
                        go_ret
                        exact ⟨by first | rfl | (simp; done) | (simp [*]; done), by repeat (first | exact Drawn0.refl _ | apply Drawn0.step)⟩
                      · rw [if_neg c13] at H
                        have c13b0 : (a1 == 101) = false := beq_eq_false_iff_ne.mpr c13
                        have c13b1 : (a1 != 101) = true := bne_iff_ne.mpr c13
                        have HC14 := Aside0.mk H
                        clear H
                        go_upto_if 25 with (fail)
                        go_cut [25] (fun v25 wc => ∃ (kq : Nat) (x25_13 : Bool), v25 = .bool x25_13 ∧ Aside0 (targumref17_simple.j1 kq a0 a1 a1 x25_13 = some r) ∧ Aside0 (kq ≤ kj5) ∧ Drawn0 w wc)
                        case first =>
                          have H := HC14.out
                          clear HC14
                          by_cases c15 : a1 = 32
                          · rw [if_pos c15] at H
                            have c15b0 : (a1 == 32) = true := beq_iff_eq.mpr c15
                            have c15b1 : (a1 != 32) = false := bne_eq_false_iff_eq.mpr c15
                            clear c15
                            (first | rw [c15b0] | (simp only [i64_w, i32_w]; rw [c15b0]) | skip)
                            have H' := Aside0.mk H
                            clear H
                            go_wp2
                            go_meet
                            case rel => exact ⟨_, ((a1 == 32)), (by first | rfl | (simp; done) | (simp [*]; done)), H', ⟨by have := HJ5.out; first | omega | exact Nat.le_refl _⟩, by repeat (first | exact Drawn0.refl _ | apply Drawn0.step)⟩
                          · rw [if_neg c15] at H
                            have c15b0 : (a1 == 32) = false := beq_eq_false_iff_ne.mpr c15
                            have c15b1 : (a1 != 32) = true := bne_iff_ne.mpr c15
                            (first | rw [c15b0] | (simp only [i64_w, i32_w]; rw [c15b0]) | skip)
                            by_cases c16 : a1 = 34
                            · rw [if_pos c16] at H
                              have c16b0 : (a1 == 34) = true := beq_iff_eq.mpr c16
                              have c16b1 : (a1 != 34) = false := bne_eq_false_iff_eq.mpr c16
                              clear c16
                              have H' := Aside0.mk H
                              clear H
                              go_wp2
                              go_meet
                              case rel => exact ⟨_, ((a1 == 34)), (by first | rfl | (simp; done) | (simp [*]; done)), H', ⟨by have := HJ5.out; first | omega | exact Nat.le_refl _⟩, by repeat (first | exact Drawn0.refl _ | apply Drawn0.step)⟩
                            · rw [if_neg c16] at H
                              have c16b0 : (a1 == 34) = false := beq_eq_false_iff_ne.mpr c16
                              have c16b1 : (a1 != 34) = true := bne_iff_ne.mpr c16
                              have H' := Aside0.mk H
                              clear H
                              go_wp2
                              go_meet
                              case rel => exact ⟨_, ((a1 == 92)), (by first | rfl | (simp; done) | (simp [*]; done)), H', ⟨by have := HJ5.out; first | omega | exact Nat.le_refl _⟩, by repeat (first | exact Drawn0.refl _ | apply Drawn0.step)⟩
                        case rest =>
                          clear HC14
                          (try clear c1); (try clear p2); (try clear c3); (try clear c3b0); (try clear c3b1); (try clear c4); (try clear c4b0); (try clear c4b1); (try clear c5); (try clear c5b0); (try clear c5b1); (try clear c7); (try clear c7b0); (try clear c7b1); (try clear c8); (try clear c9); (try clear c9b0); (try clear c9b1); (try clear c10); (try clear c10b0); (try clear c10b1); (try clear c11); (try clear c11b0); (try clear c11b1); (try clear c12); (try clear c12b0); (try clear c12b1); (try clear c13); (try clear c13b0); (try clear c13b1); (try clear c15); (try clear c15b0); (try clear c15b1); (try clear c16); (try clear c16b0); (try clear c16b1)
                          obtain ⟨kq, x25_13, rfl, HA, HJ13, ⟨mc13, rfl⟩⟩ := hcut
                          cases kq with
                          | zero => exact absurd HA.out (by simp [targumref17_simple.j1])
                          | succ kj13 =>
                            have H := HA.out
                            clear HA
                            simp only [targumref17_simple.j1] at H
                            by_cases c17 : x25_13 = true
                            · subst c17
                              have H1 : (some (wrap64 (a1))) = some r := by rw [if_pos rfl] at H; exact H
                              clear H
                              have H := H1
                              clear H1
                              obtain rfl := Option.some.inj H
                              go_wp2
                              go_ret
                              exact ⟨by first | rfl | (simp; done) | (simp [*]; done), by repeat (first | exact Drawn0.refl _ | apply Drawn0.step)⟩
                            · replace c17 := Bool.eq_false_iff.mpr c17
                              subst c17
                              have H1 : (if a1 = 78 then (some 133) else (if a1 = 95 then (some 160) else (if a1 = 76 then (some 8232) else (if a1 = 80 then (some 8233) else (if a1 = 47 then (if a0 = 11 then (some (-1)) else (some 47)) else (some (-1))))))) = some r := by rw [if_neg (show ¬ (false = true) by decide)] at H; exact H
                              clear H
                              have H := H1
                              clear H1
                              by_cases c18 : a1 = 78
                              · rw [if_pos c18] at H
                                have c18b0 : (a1 == 78) = true := beq_iff_eq.mpr c18
                                have c18b1 : (a1 != 78) = false := bne_eq_false_iff_eq.mpr c18
                                clear c18
                                obtain rfl := Option.some.inj H
                                go_wp2
                                go_ret
                                exact ⟨by first | rfl | (simp; done) | (simp [*]; done), by repeat (first | exact Drawn0.refl _ | apply Drawn0.step)⟩
                              · rw [if_neg c18] at H
                                have c18b0 : (a1 == 78) = false := beq_eq_false_iff_ne.mpr c18
                                have c18b1 : (a1 != 78) = true := bne_iff_ne.mpr c18
                                by_cases c19 : a1 = 95
                                · rw [if_pos c19] at H
                                  have c19b0 : (a1 == 95) = true := beq_iff_eq.mpr c19
                                  have c19b1 : (a1 != 95) = false := bne_eq_false_iff_eq.mpr c19
                                  clear c19
                                  obtain rfl := Option.some.inj H
                                  go_wp2
                                  go_ret
                                  exact ⟨by first | rfl | (simp; done) | (simp [*]; done), by repeat (first | exact Drawn0.refl _ | apply Drawn0.step)⟩
                                · rw [if_neg c19] at H
                                  have c19b0 : (a1 == 95) = false := beq_eq_false_iff_ne.mpr c19
                                  have c19b1 : (a1 != 95) = true := bne_iff_ne.mpr c19
                                  by_cases c20 : a1 = 76
                                  · rw [if_pos c20] at H
                                    have c20b0 : (a1 == 76) = true := beq_iff_eq.mpr c20
                                    have c20b1 : (a1 != 76) = false := bne_eq_false_iff_eq.mpr c20
                                    clear c20
                                    obtain rfl := Option.some.inj H
                                    go_wp2
                                    go_ret
                                    exact ⟨by first | rfl | (simp; done) | (simp [*]; done), by repeat (first | exact Drawn0.refl _ | apply Drawn0.step)⟩
                                  · rw [if_neg c20] at H
                                    have c20b0 : (a1 == 76) = false := beq_eq_false_iff_ne.mpr c20
                                    have c20b1 : (a1 != 76) = true := bne_iff_ne.mpr c20
                                    by_cases c21 : a1 = 80
                                    · rw [if_pos c21] at H
                                      have c21b0 : (a1 == 80) = true := beq_iff_eq.mpr c21
                                      have c21b1 : (a1 != 80) = false := bne_eq_false_iff_eq.mpr c21
                                      clear c21
                                      obtain rfl := Option.some.inj H
                                      go_wp2
                                      go_ret
                                      exact ⟨by first | rfl | (simp; done) | (simp [*]; done), by repeat (first | exact Drawn0.refl _ | apply Drawn0.step)⟩
                                    · rw [if_neg c21] at H
                                      have c21b0 : (a1 == 80) = false := beq_eq_false_iff_ne.mpr c21
                                      have c21b1 : (a1 != 80) = true := bne_iff_ne.mpr c21
                                      by_cases c22 : a1 = 47
                                      · rw [if_pos c22] at H
                                        have c22b0 : (a1 == 47) = true := beq_iff_eq.mpr c22
                                        have c22b1 : (a1 != 47) = false := bne_eq_false_iff_eq.mpr c22
                                        clear c22
                                        by_cases c23 : a0 = 11
                                        · rw [if_pos c23] at H
                                          have c23b0 : (a0 == 11) = true := beq_iff_eq.mpr c23
                                          have c23b1 : (a0 != 11) = false := bne_eq_false_iff_eq.mpr c23
                                          clear c23
                                          obtain rfl := Option.some.inj H
                                          go_wp2
                                          go_ret
                                          exact ⟨by first | rfl | (simp; done) | (simp [*]; done), by repeat (first | exact Drawn0.refl _ | apply Drawn0.step)⟩
                                        · rw [if_neg c23] at H
                                          have c23b0 : (a0 == 11) = false := beq_eq_false_iff_ne.mpr c23
                                          have c23b1 : (a0 != 11) = true := bne_iff_ne.mpr c23
                                          obtain rfl := Option.some.inj H
                                          go_wp2
                                          go_ret
                                          exact ⟨by first | rfl | (simp; done) | (simp [*]; done), by repeat (first | exact Drawn0.refl _ | apply Drawn0.step)⟩
                                      · rw [if_neg c22] at H
                                        have c22b0 : (a1 == 47) = false := beq_eq_false_iff_ne.mpr c22
                                        have c22b1 : (a1 != 47) = true := bne_iff_ne.mpr c22
                                        obtain rfl := Option.some.inj H
                                        go_wp2
                                        go_ret
                                        exact ⟨by first | rfl | (simp; done) | (simp [*]; done), by repeat (first | exact Drawn0.refl _ | apply Drawn0.step)⟩

end Go.Proofs.Ytgbnbjajaaggkaa.Q
