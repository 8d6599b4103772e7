-- Written by hookprint.py (a program of this project, over the kit's printer). Not trusted: Lean checks it.
import Derived.Test.YtgbnbjajaaggkaaQx0
import Derived.Test.YtgbnbjajaaggkaaQx5
import Derived.Test.YtgbnbjajaaggkaaQx6
import Derived.Test.YtgbnbjajaaggkaaQx7
import Derived.Test.YtgbnbjajaaggkaaQx8
namespace Go.Proofs.Ytgbnbjajaaggkaa.Q
open Go.RowKit Go.Proofs.YtgbnbjajaaggkaaW.PrintWords Go.Proofs.YtgbnbjajaaggkaaW.PrintLast Go.Proofs.YtgbnbjajaaggkaaW.PrintMore
attribute [local go_sem] max2_int min2_int max_two min_two max_three min_three max_four min_four   -- for this text's walks alone
set_option linter.unusedVariables false
set_option linter.unusedSimpArgs false

/-! ### targumref17_Double: function 15 -/
mutual
def targumref17_Double.j0 : Nat → Int → ByteArray → Int → Bool → Option (ByteArray × Int × Int × Int)
  | 0, _, _, _, _ => none
  | k + 1, x0, x1, x2, x32 => if x32 = true then (some ((⟨#[]⟩ : ByteArray), 0, 11, x2)) else (targumref17_Double.l0 k x0 x1 x2 ([] : List Int) (wrap64 (x2 + 1)))
def targumref17_Double.l0 : Nat → Int → ByteArray → Int → List Int → Int → Option (ByteArray × Int × Int × Int)
  | 0, _, _, _, _, _ => none
  | k + 1, x0, x1, x2, x9, x10 => if x10 < (x1.size : Int) then (if 0 ≤ x10 then (if (bt x1 x10) = 34 then (some (strOfNums x9, wrap64 (x10 + 1), 0, 0)) else (if (bt x1 x10) = 92 then ((targumref1_Break.f k x0 x1 (wrap64 (x10 + 1))).bind fun t202 => (targumref17_Double.j2 k x0 x1 x2 x9 x10 (decide (t202 > 0)))) else (targumref17_Double.j2 k x0 x1 x2 x9 x10 false))) else (none)) else (some ((⟨#[]⟩ : ByteArray), 0, 11, x2))
def targumref17_Double.j2 : Nat → Int → ByteArray → Int → List Int → Int → Bool → Option (ByteArray × Int × Int × Int)
  | 0, _, _, _, _, _, _ => none
  | k + 1, x0, x1, x2, x9, x10, x59 => if x59 = true then ((targumref17_row.f k x0 x1 (wrap64 (x10 + 1))).bind fun bt203 => (if bt203.2.2.1 = 0 then ((targumref17_feeds.f k (wrap64 (bt203.2.1 - 1))).bind fun t208 => (if x9.length + t208.size < 140737488355328 then (targumref17_Double.l0 k x0 x1 x2 (x9 ++ bytesOf t208) bt203.1) else (none))) else (some ((⟨#[]⟩ : ByteArray), 0, bt203.2.2.1, bt203.2.2.2)))) else (if 0 ≤ x10 then (if x10 < (x1.size : Int) then (if (bt x1 x10) = 92 then ((targumref17_escape.f k x0 x1 x10).bind fun bt212 => (if bt212.1 < 0 then (some ((⟨#[]⟩ : ByteArray), 0, 14, x10)) else ((targumref1_Utf8.f bt212.1).bind fun t214 => (if x9.length + t214.length < 140737488355328 then (targumref17_Double.l0 k x0 x1 x2 (x9 ++ t214) bt212.2) else (none))))) else ((targumref1_IsBlank.f x1 x10).bind fun t220 => (if t220 = true then (targumref17_Double.j3 k x0 x1 x2 x9 x10 true) else ((targumref1_Break.f k x0 x1 x10).bind fun t221 => (targumref17_Double.j3 k x0 x1 x2 x9 x10 (decide (t221 > 0))))))) else (none)) else (none))
def targumref17_Double.j3 : Nat → Int → ByteArray → Int → List Int → Int → Bool → Option (ByteArray × Int × Int × Int)
  | 0, _, _, _, _, _, _ => none
  | k + 1, x0, x1, x2, x9, x10, x112 => if x112 = true then ((targumref17_row.f k x0 x1 x10).bind fun bt222 => (if bt222.2.2.1 = 0 then ((targumref17_folded.f k x1 x10 bt222.1 bt222.2.1).bind fun t227 => (if x9.length + t227.size < 140737488355328 then (targumref17_Double.l0 k x0 x1 x2 (x9 ++ bytesOf t227) bt222.1) else (none))) else (some ((⟨#[]⟩ : ByteArray), 0, bt222.2.2.1, bt222.2.2.2)))) else (if 0 ≤ x10 then (if x10 < (x1.size : Int) then (if x9.length < 140737488355328 then (targumref17_Double.l0 k x0 x1 x2 (x9 ++ [bt x1 x10]) (wrap64 (x10 + 1))) else (none)) else (none)) else (none))
end
def targumref17_Double.f (k : Nat) (a0 : Int) (a1 : ByteArray) (a2 : Int) : Option (ByteArray × Int × Int × Int) := if a2 < 0 then (targumref17_Double.j0 k a0 a1 a2 true) else (if a2 ≥ (a1.size : Int) then (targumref17_Double.j0 k a0 a1 a2 true) else (if 0 ≤ a2 then (if a2 < (a1.size : Int) then (targumref17_Double.j0 k a0 a1 a2 ((bt a1 a2) != 34)) else (none)) else (none)))
theorem targumref17_Double.mono_l : ∀ k, (∀ y0 y1 y2 y3, LeO (targumref17_Double.j0 k y0 y1 y2 y3) (targumref17_Double.j0 (k + 1) y0 y1 y2 y3)) ∧ (∀ y0 y1 y2 y3 y4, LeO (targumref17_Double.l0 k y0 y1 y2 y3 y4) (targumref17_Double.l0 (k + 1) y0 y1 y2 y3 y4)) ∧ (∀ y0 y1 y2 y3 y4 y5, LeO (targumref17_Double.j2 k y0 y1 y2 y3 y4 y5) (targumref17_Double.j2 (k + 1) y0 y1 y2 y3 y4 y5)) ∧ (∀ y0 y1 y2 y3 y4 y5, LeO (targumref17_Double.j3 k y0 y1 y2 y3 y4 y5) (targumref17_Double.j3 (k + 1) y0 y1 y2 y3 y4 y5))
  | 0 => ⟨fun _ _ _ _ r h => by simp [targumref17_Double.j0] at h, fun _ _ _ _ _ r h => by simp [targumref17_Double.l0] at h, fun _ _ _ _ _ _ r h => by simp [targumref17_Double.j2] at h, fun _ _ _ _ _ _ r h => by simp [targumref17_Double.j3] at h⟩
  | k + 1 => by
    obtain ⟨ih0, ih1, ih2, ih3⟩ := targumref17_Double.mono_l k
    refine ⟨?_, ?_, ?_, ?_⟩
    · intro y0 y1 y2 y3
      unfold targumref17_Double.j0
      repeat' first
      | (with_reducible exact ih0 _ _ _ _)
      | (with_reducible exact ih1 _ _ _ _ _)
      | (with_reducible exact ih2 _ _ _ _ _ _)
      | (with_reducible exact ih3 _ _ _ _ _ _)
      | (with_reducible exact targumref17_escape.mono _ _ _ _)
      | (with_reducible exact targumref17_feeds.mono _ _)
      | (with_reducible exact targumref17_folded.mono _ _ _ _ _)
      | (with_reducible exact targumref17_row.mono _ _ _ _)
      | (with_reducible exact targumref1_Break.mono _ _ _ _)
      | (with_reducible exact LeO.refl _)
      | (with_reducible exact LeO.none _)
      | (with_reducible refine LeO.ite ?_ ?_)
      | (with_reducible refine LeO.bind ?_ (fun _ => ?_))
      | exact ih0 _ _ _ _
      | exact ih1 _ _ _ _ _
      | exact ih2 _ _ _ _ _ _
      | exact ih3 _ _ _ _ _ _
      | exact targumref17_escape.mono _ _ _ _
      | exact targumref17_feeds.mono _ _
      | exact targumref17_folded.mono _ _ _ _ _
      | exact targumref17_row.mono _ _ _ _
      | exact targumref1_Break.mono _ _ _ _
      | exact LeO.none _
      | refine LeO.ite ?_ ?_
      | refine LeO.bind ?_ (fun _ => ?_)
    · intro y0 y1 y2 y3 y4
      unfold targumref17_Double.l0
      repeat' first
      | (with_reducible exact ih0 _ _ _ _)
      | (with_reducible exact ih1 _ _ _ _ _)
      | (with_reducible exact ih2 _ _ _ _ _ _)
      | (with_reducible exact ih3 _ _ _ _ _ _)
      | (with_reducible exact targumref17_escape.mono _ _ _ _)
      | (with_reducible exact targumref17_feeds.mono _ _)
      | (with_reducible exact targumref17_folded.mono _ _ _ _ _)
      | (with_reducible exact targumref17_row.mono _ _ _ _)
      | (with_reducible exact targumref1_Break.mono _ _ _ _)
      | (with_reducible exact LeO.refl _)
      | (with_reducible exact LeO.none _)
      | (with_reducible refine LeO.ite ?_ ?_)
      | (with_reducible refine LeO.bind ?_ (fun _ => ?_))
      | exact ih0 _ _ _ _
      | exact ih1 _ _ _ _ _
      | exact ih2 _ _ _ _ _ _
      | exact ih3 _ _ _ _ _ _
      | exact targumref17_escape.mono _ _ _ _
      | exact targumref17_feeds.mono _ _
      | exact targumref17_folded.mono _ _ _ _ _
      | exact targumref17_row.mono _ _ _ _
      | exact targumref1_Break.mono _ _ _ _
      | exact LeO.none _
      | refine LeO.ite ?_ ?_
      | refine LeO.bind ?_ (fun _ => ?_)
    · intro y0 y1 y2 y3 y4 y5
      unfold targumref17_Double.j2
      repeat' first
      | (with_reducible exact ih0 _ _ _ _)
      | (with_reducible exact ih1 _ _ _ _ _)
      | (with_reducible exact ih2 _ _ _ _ _ _)
      | (with_reducible exact ih3 _ _ _ _ _ _)
      | (with_reducible exact targumref17_escape.mono _ _ _ _)
      | (with_reducible exact targumref17_feeds.mono _ _)
      | (with_reducible exact targumref17_folded.mono _ _ _ _ _)
      | (with_reducible exact targumref17_row.mono _ _ _ _)
      | (with_reducible exact targumref1_Break.mono _ _ _ _)
      | (with_reducible exact LeO.refl _)
      | (with_reducible exact LeO.none _)
      | (with_reducible refine LeO.ite ?_ ?_)
      | (with_reducible refine LeO.bind ?_ (fun _ => ?_))
      | exact ih0 _ _ _ _
      | exact ih1 _ _ _ _ _
      | exact ih2 _ _ _ _ _ _
      | exact ih3 _ _ _ _ _ _
      | exact targumref17_escape.mono _ _ _ _
      | exact targumref17_feeds.mono _ _
      | exact targumref17_folded.mono _ _ _ _ _
      | exact targumref17_row.mono _ _ _ _
      | exact targumref1_Break.mono _ _ _ _
      | exact LeO.none _
      | refine LeO.ite ?_ ?_
      | refine LeO.bind ?_ (fun _ => ?_)
    · intro y0 y1 y2 y3 y4 y5
      unfold targumref17_Double.j3
      repeat' first
      | (with_reducible exact ih0 _ _ _ _)
      | (with_reducible exact ih1 _ _ _ _ _)
      | (with_reducible exact ih2 _ _ _ _ _ _)
      | (with_reducible exact ih3 _ _ _ _ _ _)
      | (with_reducible exact targumref17_escape.mono _ _ _ _)
      | (with_reducible exact targumref17_feeds.mono _ _)
      | (with_reducible exact targumref17_folded.mono _ _ _ _ _)
      | (with_reducible exact targumref17_row.mono _ _ _ _)
      | (with_reducible exact targumref1_Break.mono _ _ _ _)
      | (with_reducible exact LeO.refl _)
      | (with_reducible exact LeO.none _)
      | (with_reducible refine LeO.ite ?_ ?_)
      | (with_reducible refine LeO.bind ?_ (fun _ => ?_))
      | exact ih0 _ _ _ _
      | exact ih1 _ _ _ _ _
      | exact ih2 _ _ _ _ _ _
      | exact ih3 _ _ _ _ _ _
      | exact targumref17_escape.mono _ _ _ _
      | exact targumref17_feeds.mono _ _
      | exact targumref17_folded.mono _ _ _ _ _
      | exact targumref17_row.mono _ _ _ _
      | exact targumref1_Break.mono _ _ _ _
      | exact LeO.none _
      | refine LeO.ite ?_ ?_
      | refine LeO.bind ?_ (fun _ => ?_)
theorem targumref17_Double.mono : ∀ a0 a1 a2 k, LeO (targumref17_Double.f k a0 a1 a2) (targumref17_Double.f (k + 1) a0 a1 a2) := by
  intro a0 a1 a2 k
  obtain ⟨ih0, ih1, ih2, ih3⟩ := targumref17_Double.mono_l k
  unfold targumref17_Double.f
  repeat' first
      | (with_reducible exact ih0 _ _ _ _)
      | (with_reducible exact ih1 _ _ _ _ _)
      | (with_reducible exact ih2 _ _ _ _ _ _)
      | (with_reducible exact ih3 _ _ _ _ _ _)
      | (with_reducible exact targumref17_escape.mono _ _ _ _)
      | (with_reducible exact targumref17_feeds.mono _ _)
      | (with_reducible exact targumref17_folded.mono _ _ _ _ _)
      | (with_reducible exact targumref17_row.mono _ _ _ _)
      | (with_reducible exact targumref1_Break.mono _ _ _ _)
      | (with_reducible exact LeO.refl _)
      | (with_reducible exact LeO.none _)
      | (with_reducible refine LeO.ite ?_ ?_)
      | (with_reducible refine LeO.bind ?_ (fun _ => ?_))
      | exact ih0 _ _ _ _
      | exact ih1 _ _ _ _ _
      | exact ih2 _ _ _ _ _ _
      | exact ih3 _ _ _ _ _ _
      | exact targumref17_escape.mono _ _ _ _
      | exact targumref17_feeds.mono _ _
      | exact targumref17_folded.mono _ _ _ _ _
      | exact targumref17_row.mono _ _ _ _
      | exact targumref1_Break.mono _ _ _ _
      | exact LeO.none _
      | refine LeO.ite ?_ ?_
      | refine LeO.bind ?_ (fun _ => ?_)
set_option maxHeartbeats 8000000 in
set_option maxRecDepth 100000 in
theorem targumref17_Double.calls (k : Nat) (a0 : Int) (a1 : ByteArray) (a2 : Int) (r1 : ByteArray) (r2 : Int) (r3 : Int) (r4 : Int) (w : World) (h : targumref17_Double.f k a0 a1 a2 = some (r1, r2, r3, r4)) :
    Calls Try.prog 15 #[.int .i64 a0, .string a1, .int .i64 a2] w fun e w' => e = .returned (.tuple #[.string r1, .int .i64 r2, .agg #[.int .i64 r3, .int .i64 r4]]) ∧ Below w.heap.size w w' := by
  have hu32 := Try.underlying32
  have HB := Aside0.mk (Below.refl w.heap.size w)
  have H : (if a2 < 0 then (targumref17_Double.j0 k a0 a1 a2 true) else (if a2 ≥ (a1.size : Int) then (targumref17_Double.j0 k a0 a1 a2 true) else (if 0 ≤ a2 then (if a2 < (a1.size : Int) then (targumref17_Double.j0 k a0 a1 a2 ((bt a1 a2) != 34)) else (none)) else (none)))) = some (r1, r2, r3, r4) := h
  clear h
  have HC4 := Aside0.mk H
  clear H
  go_enter Try.func15, Try.ntmps15
  go_upto_region 1 with (first | ((with_reducible refine gate_dst (N := 8) rfl ?_); (try (refine gate_guard (by rfl) ?_; dsimp only)); refine box_event ?hg (N := 8) ?hd (cs := #[.int .i64 0, .int .i64 0]) (t := 32) ?hr ?_; (case hd => rfl); (case hg => rfl); (case hr => first | (go_simp; done) | (go_simp; rfl)); intro gb201 hg w5 hbox hb; have n0_ := Aside0.mk (below_step (by repeat (first | (with_reducible first | exact HB.out | apply below_alloc | apply pw_below_drewN | apply below_drew1) | exact HB.out)) hb); have n1_ := Aside0.mk (hbox); have n2_ := Aside0.mk ((by rw [hg]; exact (below_size (by repeat (first | (with_reducible first | exact HB.out | apply below_alloc | apply pw_below_drewN | apply below_drew1) | exact HB.out))) : w.heap.size ≤ gb201)); have n3_ := Aside0.mk ((by rw [hg]; exact (below_size (by repeat (first | (with_reducible first | exact HB.out | apply below_alloc | apply pw_below_drewN | apply below_drew1) | exact HB.out))) : w.heap.size ≤ gb201)); clear HB; have HB := n0_; have BK201 := n1_; have GW201 := n2_; have GE201 := n3_; clear n0_ n1_ n2_ n3_; clear hb hbox hg))
  (try simp only [Act.put, List.setIfInBounds_toArray, List.set_cons_zero, List.set_cons_succ])
  go_cut [32] (fun v32 wc => ∃ (kq : Nat) (x32_3 : Bool), v32 = .bool x32_3 ∧ Aside0 (targumref17_Double.j0 kq a0 a1 a2 x32_3 = some (r1, r2, r3, r4)) ∧ Aside0 (kq ≤ k) ∧ Aside0 (wc.heap[gb201]? = some (.cells #[.int .i64 0, .int .i64 0] 32 (0, 0))) ∧ Aside0 (Below w.heap.size w wc))
  case first =>
    have H := HC4.out
    clear HC4
    by_cases c6 : a2 < 0
    · rw [if_pos c6] at H
      have c6b0 : decide (a2 < 0) = true := decide_eq_true c6
      clear c6
      (first | rw [c6b0] | (simp only [i64_w, i32_w]; rw [c6b0]) | skip)
      have H' := Aside0.mk H
      clear H
      go_wp2
      go_meet
      case rel => exact ⟨_, (true), (by first | rfl | (simp; done) | (simp [*]; done)), H', ⟨by first | omega | exact Nat.le_refl _⟩, ⟨by (with_reducible repeat (first | refine blk_drewN ?_ _ | refine blk_drew ?_ | refine blk_alloc ?_ _)); exact BK201.out⟩, ⟨by repeat (first | (with_reducible first | exact HB.out | apply below_alloc | apply pw_below_drewN | apply below_drew1 | refine below_set ?_ GE201.out) | exact HB.out)⟩⟩
    · rw [if_neg c6] at H
      have c6b0 : decide (a2 < 0) = false := decide_eq_false c6
      clear c6
      (first | rw [c6b0] | (simp only [i64_w, i32_w]; rw [c6b0]) | skip)
      by_cases c7 : a2 ≥ (a1.size : Int)
      · rw [if_pos c7] at H
        have c7b0 : decide ((a1.size : Int) ≤ a2) = true := decide_eq_true c7
        clear c7
        have H' := Aside0.mk H
        clear H
        go_wp2
        go_meet
        case rel => exact ⟨_, (true), (by first | rfl | (simp; done) | (simp [*]; done)), H', ⟨by first | omega | exact Nat.le_refl _⟩, ⟨by (with_reducible repeat (first | refine blk_drewN ?_ _ | refine blk_drew ?_ | refine blk_alloc ?_ _)); exact BK201.out⟩, ⟨by repeat (first | (with_reducible first | exact HB.out | apply below_alloc | apply pw_below_drewN | apply below_drew1 | refine below_set ?_ GE201.out) | exact HB.out)⟩⟩
      · rw [if_neg c7] at H
        have c7b0 : decide ((a1.size : Int) ≤ a2) = false := decide_eq_false c7
        clear c7
        by_cases c8 : 0 ≤ a2
        · rw [if_pos c8] at H
          have c8b0 : decide (0 ≤ a2) = true := decide_eq_true c8
          clear c8
          by_cases c9 : a2 < (a1.size : Int)
          · rw [if_pos c9] at H
            have c9b0 : decide (a2 < (a1.size : Int)) = true := decide_eq_true c9
            clear c9
            have H' := Aside0.mk H
            clear H
            have p10 : 0 ≤ (a2 : Int) := of_decide_eq_true (by first | (with_reducible assumption) | assumption)
            have q10 : a2 < (a1.size : Int) := of_decide_eq_true (by first | (with_reducible assumption) | assumption)
            have hx10 := bt_at a1 a2
            replace p10 := eq_true p10
            replace q10 := eq_true q10
            go_wp2
            go_meet
            case rel => exact ⟨_, (((bt a1 a2) != 34)), (by first | rfl | (simp; done) | (simp [*]; done)), H', ⟨by first | omega | exact Nat.le_refl _⟩, ⟨by (with_reducible repeat (first | refine blk_drewN ?_ _ | refine blk_drew ?_ | refine blk_alloc ?_ _)); exact BK201.out⟩, ⟨by repeat (first | (with_reducible first | exact HB.out | apply below_alloc | apply pw_below_drewN | apply below_drew1 | refine below_set ?_ GE201.out) | exact HB.out)⟩⟩
          · rw [if_neg c9] at H
            exact absurd H (by simp)
        · rw [if_neg c8] at H
          exact absurd H (by simp)
  case rest =>
    clear HC4
    (try clear c1); (try clear p1); (try clear q1); (try clear hx1); (try clear p2); (try clear c6); (try clear c6b0); (try clear c7); (try clear c7b0); (try clear c8); (try clear c8b0); (try clear c9); (try clear c9b0); (try clear p10); (try clear q10); (try clear hx10)
    obtain ⟨kq, x32_3, rfl, HA, HJ3, BK201, HB⟩ := hcut
    cases kq with
    | zero => exact absurd HA.out (by simp [targumref17_Double.j0])
    | succ kj3 =>
      have H := HA.out
      clear HA
      simp only [targumref17_Double.j0] at H
      by_cases c11 : x32_3 = true
      · subst c11
        have H1 : (some ((⟨#[]⟩ : ByteArray), 0, 11, a2)) = some (r1, r2, r3, r4) := by rw [if_pos rfl] at H; exact H
        clear H
        have H := H1
        clear H1
        simp only [Option.some.injEq, Prod.mk.injEq] at H
        obtain ⟨rfl, rfl, rfl, rfl⟩ := H
        have hcz12_0 : wc.cell? ⟨gb201, 0, none⟩ = some (.int .i64 0) := (blk_cell BK201.out 0).trans rfl
        have hcz12_1 : wc.cell? ⟨gb201, 1, none⟩ = some (.int .i64 0) := (blk_cell BK201.out 1).trans rfl
        have hfz12_0 := blk_frozen BK201.out 0
        have hfz12_1 := blk_frozen BK201.out 1
        go_wp2
        refine bodyPost_ret (results_list (rs := [.tmp 6, .tmp 7, .cell 8 32]) rfl (by simp) (.tmp (.tmp (.cell gb201 32 #[.int .i64 11, .int .i64 a2] (0, 0) _ rfl (by (with_reducible repeat (first | refine blk_drewN ?_ _ | refine blk_drew ?_ | refine blk_alloc ?_ _)); refine blk_put (cs := #[.int .i64 11, .int .i64 0]) ?_ 1 _ rfl; (with_reducible repeat (first | refine blk_drewN ?_ _ | refine blk_drew ?_ | refine blk_alloc ?_ _)); refine blk_put (cs := #[.int .i64 0, .int .i64 0]) ?_ 0 _ rfl; (with_reducible repeat (first | refine blk_drewN ?_ _ | refine blk_drew ?_ | refine blk_alloc ?_ _)); exact BK201.out) Try.underlying32 rfl (by kernel_rfl) .nil)))) rfl ?_
        exact ⟨by first | rfl | (simp [errW_none, errW_some] <;> rfl) | (simp [*, errW_none, errW_some] <;> rfl), by repeat (first | (with_reducible first | exact HB.out | apply below_alloc | apply pw_below_drewN | apply below_drew1 | refine below_set ?_ GE201.out) | exact HB.out)⟩
      · replace c11 := Bool.eq_false_iff.mpr c11
        subst c11
        have H1 : (targumref17_Double.l0 kj3 a0 a1 a2 ([] : List Int) (wrap64 (a2 + 1))) = some (r1, r2, r3, r4) := by rw [if_neg (show ¬ (false = true) by decide)] at H; exact H
        clear H
        have H := H1
        clear H1
        have H' := Aside0.mk H
        clear H
        go_wp2
        go_loopg [9, 10] kj3 (fun kq v9 v10 w' => ∃ (x9_2 : List Int) (x10_2 : Int) (x202000_2 : Int) (x202001_2 : Int), v10 = .int .i64 x10_2 ∧ Aside0 (targumref17_Double.l0 kq a0 a1 a2 x9_2 x10_2 = some (r1, r2, r3, r4)) ∧ Aside0 (kq ≤ kj3) ∧ Aside0 (Kd.R (Kd.int .u8) 5 w' w.heap.size (fun _ => True) v9 x9_2) ∧ Aside0 (w'.heap[gb201]? = some (.cells #[.int .i64 x202000_2, .int .i64 x202001_2] 32 (0, 0))) ∧ Aside0 (Below w.heap.size w w'))
        case atStart => exact ⟨(([] : List Int)), (wrap64 (a2 + 1)), (0), (0), (by first | rfl | (simp; done) | (simp [*]; done)), H', ⟨Nat.le_refl _⟩, ⟨by first | exact Kd.R_nil _ _ _ _ _ | exact Kd.N_nil _ _ _ _ _ | exact Kd.V_nil _ _ _ _ _ | exact Kd.Q_nil _ _ _ _ _ | exact Kd.S_nil _ _ _ _ _⟩, ⟨by (with_reducible repeat (first | refine blk_drewN ?_ _ | refine blk_drew ?_ | refine blk_alloc ?_ _)); exact BK201.out⟩, ⟨by repeat (first | (with_reducible first | exact HB.out | apply below_alloc | apply pw_below_drewN | apply below_drew1 | refine below_set ?_ GE201.out) | exact HB.out)⟩⟩
        case round =>
          clear H'
          (try clear c1); (try clear p1); (try clear q1); (try clear hx1); (try clear p2); (try clear c6); (try clear c6b0); (try clear p6); (try clear c7); (try clear c7b0); (try clear c8); (try clear c8b0); (try clear c9); (try clear c9b0); (try clear p10); (try clear q10); (try clear hx10); (try clear c11); (try clear hcz12_0); (try clear hcz12_1); (try clear hfz12_0); (try clear hfz12_1)
          obtain ⟨x9_2, x10_2, x202000_2, x202001_2, rfl, HA, HK2, HO_9, BK201, HB⟩ := hrel
          cases gk with
          | zero => exact absurd HA.out (by simp [targumref17_Double.l0])
          | succ k2 =>
            have H := HA.out
            clear HA
            simp only [targumref17_Double.l0] at H
            by_cases c13 : x10_2 < (a1.size : Int)
            · rw [if_pos c13] at H
              have c13b0 : decide (x10_2 < (a1.size : Int)) = true := decide_eq_true c13
              clear c13
              by_cases c14 : 0 ≤ x10_2
              · rw [if_pos c14] at H
                have c14b0 : decide (0 ≤ x10_2) = true := decide_eq_true c14
                clear c14
                by_cases c16 : (bt a1 x10_2) = 34
                · rw [if_pos c16] at H
                  have c16b0 : ((bt a1 x10_2) == 34) = true := beq_iff_eq.mpr c16
                  have c16b1 : ((bt a1 x10_2) != 34) = false := bne_eq_false_iff_eq.mpr c16
                  clear c16
                  simp only [Option.some.injEq, Prod.mk.injEq] at H
                  obtain ⟨rfl, rfl, rfl, rfl⟩ := H
                  have p15 : 0 ≤ (x10_2 : Int) := of_decide_eq_true (by first | (with_reducible assumption) | assumption)
                  have q15 : x10_2 < (a1.size : Int) := of_decide_eq_true (by first | (with_reducible assumption) | assumption)
                  have hx15 := bt_at a1 x10_2
                  replace p15 := eq_true p15
                  replace q15 := eq_true q15
                  have hcv17 := own_string (P := Try.prog) Try.underlying22 Try.underlying5 Try.underlying9 (Kd.own_of_R HO_9.out)
                  have hcz18_0 : wr.cell? ⟨gb201, 0, none⟩ = some (.int .i64 x202000_2) := (blk_cell BK201.out 0).trans rfl
                  have hcz18_1 : wr.cell? ⟨gb201, 1, none⟩ = some (.int .i64 x202001_2) := (blk_cell BK201.out 1).trans rfl
                  have hfz18_0 := blk_frozen BK201.out 0
                  have hfz18_1 := blk_frozen BK201.out 1
                  go_wp2
                  refine bodyPost_ret (results_list (rs := [.tmp 6, .tmp 7, .cell 8 32]) rfl (by simp) (.tmp (.tmp (.cell gb201 32 #[.int .i64 0, .int .i64 0] (0, 0) _ rfl (by (with_reducible repeat (first | refine blk_drewN ?_ _ | refine blk_drew ?_ | refine blk_alloc ?_ _)); refine blk_put (cs := #[.int .i64 0, .int .i64 x202001_2]) ?_ 1 _ rfl; (with_reducible repeat (first | refine blk_drewN ?_ _ | refine blk_drew ?_ | refine blk_alloc ?_ _)); refine blk_put (cs := #[.int .i64 x202000_2, .int .i64 x202001_2]) ?_ 0 _ rfl; (with_reducible repeat (first | refine blk_drewN ?_ _ | refine blk_drew ?_ | refine blk_alloc ?_ _)); exact BK201.out) Try.underlying32 rfl (by kernel_rfl) .nil)))) rfl ?_
                  exact ⟨by first | rfl | (simp [errW_none, errW_some] <;> rfl) | (simp [*, errW_none, errW_some] <;> rfl), by repeat (first | (with_reducible first | exact HB.out | apply below_alloc | apply pw_below_drewN | apply below_drew1 | refine below_set ?_ GE201.out) | exact HB.out)⟩
                · rw [if_neg c16] at H
                  have c16b0 : ((bt a1 x10_2) == 34) = false := beq_eq_false_iff_ne.mpr c16
                  have c16b1 : ((bt a1 x10_2) != 34) = true := bne_iff_ne.mpr c16
                  have HC19 := Aside0.mk H
                  clear H
                  have p15 : 0 ≤ (x10_2 : Int) := of_decide_eq_true (by first | (with_reducible assumption) | assumption)
                  have q15 : x10_2 < (a1.size : Int) := of_decide_eq_true (by first | (with_reducible assumption) | assumption)
                  have hx15 := bt_at a1 x10_2
                  replace p15 := eq_true p15
                  replace q15 := eq_true q15
                  go_upto_region 10 with (fail)
                  go_cut [59] (fun v59 wc => ∃ (kq : Nat) (x59_18 : Bool), v59 = .bool x59_18 ∧ Aside0 (targumref17_Double.j2 kq a0 a1 a2 x9_2 x10_2 x59_18 = some (r1, r2, r3, r4)) ∧ Aside0 (kq ≤ k2) ∧ Aside0 (Kd.R (Kd.int .u8) 5 wc w.heap.size (fun _ => True) u9 x9_2) ∧ Aside0 (wc.heap[gb201]? = some (.cells #[.int .i64 x202000_2, .int .i64 x202001_2] 32 (0, 0))) ∧ Aside0 (Below w.heap.size w wc))
                  case first =>
                    have H := HC19.out
                    clear HC19
                    by_cases c21 : (bt a1 x10_2) = 92
                    · rw [if_pos c21] at H
                      have c21b0 : ((bt a1 x10_2) == 92) = true := beq_iff_eq.mpr c21
                      have c21b1 : ((bt a1 x10_2) != 92) = false := bne_eq_false_iff_eq.mpr c21
                      clear c21
                      (first | rw [c21b0] | (simp only [i64_w, i32_w]; rw [c21b0]) | skip)
                      replace H := Option.bind_eq_some_iff.mp H
                      obtain ⟨t202, A220, H⟩ := H
                      replace H : (targumref17_Double.j2 k2 a0 a1 a2 x9_2 x10_2 (decide (t202 > 0))) = some (r1, r2, r3, r4) := H
                      have A22 := Aside0.mk A220
                      clear A220
                      have H' := Aside0.mk H
                      clear H
                      have p20 : 0 ≤ (x10_2 : Int) := of_decide_eq_true (by first | (with_reducible assumption) | assumption)
                      have q20 : x10_2 < (a1.size : Int) := of_decide_eq_true (by first | (with_reducible assumption) | assumption)
                      have hx20 := bt_at a1 x10_2
                      replace p20 := eq_true p20
                      replace q20 := eq_true q20
                      go_wp2_with (first | (go_at_call 17; (with_reducible refine (targumref1_Break.calls k2 a0 a1 (wrap64 (x10_2 + 1)) t202 _ A22.out).mono ?_); rintro e w' ⟨rfl, ⟨nd, rfl⟩⟩))
                      go_meet
                      case rel => exact ⟨_, (decide (t202 > 0)), (by first | rfl | (simp; done) | (simp [*]; done)), H', ⟨by have := HJ3.out; have := HK2.out; first | omega | exact Nat.le_refl _⟩, ⟨by (with_reducible repeat (first | apply Kd.R_alloc | apply Kd.R_drewN | apply Kd.R_drew)); exact HO_9.out⟩, ⟨by (with_reducible repeat (first | refine blk_drewN ?_ _ | refine blk_drew ?_ | refine blk_alloc ?_ _)); exact BK201.out⟩, ⟨by repeat (first | (with_reducible first | exact HB.out | apply below_alloc | apply pw_below_drewN | apply below_drew1 | refine below_set ?_ GE201.out) | exact HB.out)⟩⟩
                    · rw [if_neg c21] at H
                      have c21b0 : ((bt a1 x10_2) == 92) = false := beq_eq_false_iff_ne.mpr c21
                      have c21b1 : ((bt a1 x10_2) != 92) = true := bne_iff_ne.mpr c21
                      (first | rw [c21b0] | (simp only [i64_w, i32_w]; rw [c21b0]) | skip)
                      have H' := Aside0.mk H
                      clear H
                      have p20 : 0 ≤ (x10_2 : Int) := of_decide_eq_true (by first | (with_reducible assumption) | assumption)
                      have q20 : x10_2 < (a1.size : Int) := of_decide_eq_true (by first | (with_reducible assumption) | assumption)
                      have hx20 := bt_at a1 x10_2
                      replace p20 := eq_true p20
                      replace q20 := eq_true q20
                      go_wp2
                      go_meet
                      case rel => exact ⟨_, (false), (by first | rfl | (simp; done) | (simp [*]; done)), H', ⟨by have := HJ3.out; have := HK2.out; first | omega | exact Nat.le_refl _⟩, ⟨by (with_reducible repeat (first | apply Kd.R_alloc | apply Kd.R_drewN | apply Kd.R_drew)); exact HO_9.out⟩, ⟨by (with_reducible repeat (first | refine blk_drewN ?_ _ | refine blk_drew ?_ | refine blk_alloc ?_ _)); exact BK201.out⟩, ⟨by repeat (first | (with_reducible first | exact HB.out | apply below_alloc | apply pw_below_drewN | apply below_drew1 | refine below_set ?_ GE201.out) | exact HB.out)⟩⟩
                  case rest =>
                    clear HC19
                    (try clear c1); (try clear p1); (try clear q1); (try clear hx1); (try clear hcv1); (try clear c2); (try clear p2); (try clear q2); (try clear hx2); (try clear c6); (try clear c6b0); (try clear p6); (try clear c7); (try clear c7b0); (try clear c8); (try clear c8b0); (try clear c9); (try clear c9b0); (try clear p10); (try clear q10); (try clear hx10); (try clear c11); (try clear c13); (try clear c13b0); (try clear c14); (try clear c14b0); (try clear c15); (try clear p15); (try clear q15); (try clear hx15); (try clear c16); (try clear c16b0); (try clear c16b1); (try clear hcv17); (try clear p20); (try clear q20); (try clear hx20); (try clear c21); (try clear c21b0); (try clear c21b1); (try clear hcz12_0); (try clear hcz12_1); (try clear hcz18_0); (try clear hcz18_1); (try clear hfz12_0); (try clear hfz12_1); (try clear hfz18_0); (try clear hfz18_1)
                    obtain ⟨kq, x59_18, rfl, HA, HJ18, HO_9, BK201, HB⟩ := hcut
                    cases kq with
                    | zero => exact absurd HA.out (by simp [targumref17_Double.j2])
                    | succ kj18 =>
                      have H := HA.out
                      clear HA
                      simp only [targumref17_Double.j2] at H
                      by_cases c23 : x59_18 = true
                      · subst c23
                        have H1 : ((targumref17_row.f kj18 a0 a1 (wrap64 (x10_2 + 1))).bind fun bt203 => (if bt203.2.2.1 = 0 then ((targumref17_feeds.f kj18 (wrap64 (bt203.2.1 - 1))).bind fun t208 => (if x9_2.length + t208.size < 140737488355328 then (targumref17_Double.l0 kj18 a0 a1 a2 (x9_2 ++ bytesOf t208) bt203.1) else (none))) else (some ((⟨#[]⟩ : ByteArray), 0, bt203.2.2.1, bt203.2.2.2)))) = some (r1, r2, r3, r4) := by rw [if_pos rfl] at H; exact H
                        clear H
                        have H := H1
                        clear H1
                        replace H := Option.bind_eq_some_iff.mp H
                        obtain ⟨⟨t203, t204, t205, t206⟩, A240, H⟩ := H
                        replace H : (if t205 = 0 then ((targumref17_feeds.f kj18 (wrap64 (t204 - 1))).bind fun t208 => (if x9_2.length + t208.size < 140737488355328 then (targumref17_Double.l0 kj18 a0 a1 a2 (x9_2 ++ bytesOf t208) t203) else (none))) else (some ((⟨#[]⟩ : ByteArray), 0, t205, t206))) = some (r1, r2, r3, r4) := H
                        have A24 := Aside0.mk A240
                        clear A240
                        by_cases c25 : t205 = 0
                        · rw [if_pos c25] at H
                          have c25b0 : (t205 == 0) = true := beq_iff_eq.mpr c25
                          have c25b1 : (t205 != 0) = false := bne_eq_false_iff_eq.mpr c25
                          clear c25
                          replace H := Option.bind_eq_some_iff.mp H
                          obtain ⟨t208, A260, H⟩ := H
                          replace H : (if x9_2.length + t208.size < 140737488355328 then (targumref17_Double.l0 kj18 a0 a1 a2 (x9_2 ++ bytesOf t208) t203) else (none)) = some (r1, r2, r3, r4) := H
                          have A26 := Aside0.mk A260
                          clear A260
                          by_cases c27 : x9_2.length + t208.size < 140737488355328
                          · rw [if_pos c27] at H
                            have LMc27 := Aside0.mk c27
                            clear c27
                            obtain ⟨y209, hy209⟩ : ∃ y_ : List Int, y_ = (x9_2 ++ bytesOf t208) := ⟨_, rfl⟩
                            replace H : (targumref17_Double.l0 kj18 a0 a1 a2 y209 t203) = some (r1, r2, r3, r4) := by first | (rw [hy209]; with_reducible exact H) | (have H2_ := (Option.bind_some _ _).symm.trans H; rw [hy209]; with_reducible exact H2_) | (have H2_ := (Option.bind_some _ _).symm.trans H; with_reducible exact H2_) | with_reducible exact H | (rw [hy209]; exact H) | exact H
                            have Ny209 := Aside0.mk hy209
                            clear hy209
                            have H' := Aside0.mk H
                            clear H
                            go_wp2_with (first | ((with_reducible refine gate_callee (f := 24) rfl ?_); refine goesL_ (some 77) rfl rfl Try.func24 (by kernel_rfl) rfl #[.int .i64 a0, .string a1, .int .i64 (wrap64 (x10_2 + 1))] rfl (by (try simp only [List.map_toArray, List.map_cons, List.map_nil]); first | done | rfl | (simp only [List.length_drop, List.length_take]; rfl)) ?_; (with_reducible refine (targumref17_row.calls kj18 a0 a1 (wrap64 (x10_2 + 1)) t203 t204 t205 t206 _ A24.out).mono ?_); rintro e w28 ⟨rfl, hb⟩; refine ⟨_, rfl, ?_⟩; have n0_ := Aside0.mk (Kd.R_below (by (with_reducible repeat (first | apply Kd.R_alloc | apply Kd.R_drewN | apply Kd.R_drew)); exact HO_9.out) hb); have n1_ := Aside0.mk (blk_below (g := gb201) (o := .cells #[.int .i64 x202000_2, .int .i64 x202001_2] 32 (0, 0)) (by (with_reducible repeat (first | refine blk_drewN ?_ _ | refine blk_drew ?_ | refine blk_alloc ?_ _)); exact BK201.out) hb); have n2_ := Aside0.mk (below_step (by repeat (first | (with_reducible first | exact HB.out | apply below_alloc | apply pw_below_drewN | apply below_drew1 | refine below_set ?_ GE201.out) | exact HB.out)) hb); clear HO_9; clear BK201; clear HB; have HO_9 := n0_; have BK201 := n1_; have HB := n2_; clear n0_ n1_ n2_; (try clear hb); (try clear hb2); (try clear hk); (try clear hi)) | ((with_reducible refine gate_dst (N := 13) rfl ?_); (try (refine gate_guard (by rfl) ?_; dsimp only)); refine box_event ?hg (N := 13) ?hd (cs := #[.int .i64 0, .int .i64 0]) (t := 32) ?hr ?_; (case hd => rfl); (case hg => rfl); (case hr => first | (go_simp; done) | (go_simp; rfl)); intro gb207 hg w29 hbox hb; have n0_ := Aside0.mk (Kd.R_below (by (with_reducible repeat (first | apply Kd.R_alloc | apply Kd.R_drewN | apply Kd.R_drew)); exact HO_9.out) hb); have n1_ := Aside0.mk (blk_below (g := gb201) (o := .cells #[.int .i64 x202000_2, .int .i64 x202001_2] 32 (0, 0)) (by (with_reducible repeat (first | refine blk_drewN ?_ _ | refine blk_drew ?_ | refine blk_alloc ?_ _)); exact BK201.out) hb); have n2_ := Aside0.mk (below_step (by repeat (first | (with_reducible first | exact HB.out | apply below_alloc | apply pw_below_drewN | apply below_drew1 | refine below_set ?_ GE201.out) | exact HB.out)) hb); have n3_ := Aside0.mk (hbox); have n4_ := Aside0.mk ((by rw [hg]; exact (below_size (by repeat (first | (with_reducible first | exact HB.out | apply below_alloc | apply pw_below_drewN | apply below_drew1 | refine below_set ?_ GE201.out) | exact HB.out))) : w.heap.size ≤ gb207)); have n5_ := Aside0.mk ((by rw [hg]; exact (below_size (by repeat (first | (with_reducible first | exact HB.out | apply below_alloc | apply pw_below_drewN | apply below_drew1 | refine below_set ?_ GE201.out) | exact HB.out))) : w.heap.size ≤ gb207)); have n6_ := Aside0.mk ((by rw [hg]; exact Nat.ne_of_lt (blk_lt (g := gb201) (o := .cells #[.int .i64 x202000_2, .int .i64 x202001_2] 32 (0, 0)) (by (with_reducible repeat (first | refine blk_drewN ?_ _ | refine blk_drew ?_ | refine blk_alloc ?_ _)); exact BK201.out)) : gb201 ≠ gb207)); have n7_ := Aside0.mk ((by rw [hg]; exact Nat.ne_of_gt (blk_lt (g := gb201) (o := .cells #[.int .i64 x202000_2, .int .i64 x202001_2] 32 (0, 0)) (by (with_reducible repeat (first | refine blk_drewN ?_ _ | refine blk_drew ?_ | refine blk_alloc ?_ _)); exact BK201.out)) : gb207 ≠ gb201)); clear HO_9; clear BK201; clear HB; have HO_9 := n0_; have BK201 := n1_; have HB := n2_; have BK207 := n3_; have GW207 := n4_; have GE207 := n5_; have NB201_207 := n6_; have NB207_201 := n7_; clear n0_ n1_ n2_ n3_ n4_ n5_ n6_ n7_; clear hb hbox hg; have hnb30 := NB207_201.out; have hnc30 := NB201_207.out; have hcz31_0 : w29.cell? ⟨gb207, 0, none⟩ = some (.int .i64 0) := (blk_cell BK207.out 0).trans rfl; have hcz31_1 : w29.cell? ⟨gb207, 1, none⟩ = some (.int .i64 0) := (blk_cell BK207.out 1).trans rfl; have hfz31_0 := blk_frozen BK207.out 0; have hfz31_1 := blk_frozen BK207.out 1) | ((with_reducible refine gate_callee (f := 25) rfl ?_); refine goesL_ (some 88) rfl rfl Try.func25 (by kernel_rfl) rfl #[.int .i64 (wrap64 (t204 - 1))] rfl (by (try simp only [List.map_toArray, List.map_cons, List.map_nil]); first | done | rfl | (simp only [List.length_drop, List.length_take]; rfl)) ?_; (with_reducible refine (targumref17_feeds.calls kj18 (wrap64 (t204 - 1)) t208 _ A26.out).mono ?_); rintro e w' ⟨rfl, ⟨nd, rfl⟩⟩; refine ⟨_, rfl, ?_⟩) | (at_builtin; refine print_append_str (w0 := w) w.heap.size rfl (.tmp 85) _ 22 9 5 rfl Try.underlying22 Try.underlying9 info5 u9 x9_2 t208 rfl rfl ?aO ?aB ?aS ?aL ?_; (case aB => exact (by repeat (first | (with_reducible first | exact HB.out | apply below_alloc | apply pw_below_drewN | apply below_drew1 | refine below_set ?_ GE201.out | refine below_set ?_ GE207.out) | exact HB.out))); (case aO => exact (Kd.own_of_R (by (with_reducible repeat (first | apply Kd.R_alloc | apply Kd.R_drewN | apply Kd.R_drew)); exact Kd.R_mono (Kd.R_far (p := ⟨gb207, 1, none⟩) (Kd.R_far (p := ⟨gb207, 0, none⟩) (Kd.R_types HO_9.out BK207.out (by decide)) (fun _ hk => hk.2) (.int .i64 t205)) (fun _ hk => hk.2) (.int .i64 t206)) (fun _ hk => trivial)))); (case aS => exact (below_size (by repeat (first | (with_reducible first | exact HB.out | apply below_alloc | apply pw_below_drewN | apply below_drew1 | refine below_set ?_ GE201.out | refine below_set ?_ GE207.out) | exact HB.out)))); (case aL => have := LMc27.out; omega); intro v210 w32 ho0 hb hg; have ho := Kd.R_of_own (h1 := fun _ => rfl) (ok := fun _ => True) ho0 (fun _ _ => trivial); clear ho0; have hat := True.intro; rw [← Ny209.out] at ho; change Kd.R (Kd.int .u8) 5 w32 w.heap.size (fun _ => True) v210 y209 at ho; have n0_ := Aside0.mk (blk_grown (g := gb201) (o := .cells #[.int .i64 x202000_2, .int .i64 x202001_2] 32 (0, 0)) (by (with_reducible repeat (first | refine blk_drewN ?_ _ | refine blk_drew ?_ | refine blk_alloc ?_ _)); refine blk_far ?_ NB201_207.out _; (with_reducible repeat (first | refine blk_drewN ?_ _ | refine blk_drew ?_ | refine blk_alloc ?_ _)); refine blk_far ?_ NB201_207.out _; (with_reducible repeat (first | refine blk_drewN ?_ _ | refine blk_drew ?_ | refine blk_alloc ?_ _)); exact BK201.out) hg (Kd.R_ne HO_9.out BK201.out (by decide))); have n1_ := Aside0.mk (blk_grown (g := gb207) (o := .cells #[.int .i64 t205, .int .i64 t206] 32 (0, 0)) (by (with_reducible repeat (first | refine blk_drewN ?_ _ | refine blk_drew ?_ | refine blk_alloc ?_ _)); refine blk_put (cs := #[.int .i64 t205, .int .i64 0]) ?_ 1 _ rfl; (with_reducible repeat (first | refine blk_drewN ?_ _ | refine blk_drew ?_ | refine blk_alloc ?_ _)); refine blk_put (cs := #[.int .i64 0, .int .i64 0]) ?_ 0 _ rfl; (with_reducible repeat (first | refine blk_drewN ?_ _ | refine blk_drew ?_ | refine blk_alloc ?_ _)); exact BK207.out) hg (Kd.R_ne HO_9.out BK207.out (by decide))); have n2_ := Aside0.mk (hb); have n3_ := Aside0.mk (ho); clear BK201; clear BK207; clear HB; clear HO_9; have BK201 := n0_; have BK207 := n1_; have HB := n2_; have HO211 := n3_; clear n0_ n1_ n2_ n3_; clear ho hb hg hat))
                            go_roundg kj18
                            case measure => have := HJ3.out; have := HK2.out; have := HJ18.out; omega
                            case rel => exact ⟨(y209), (t203), (x202000_2), (x202001_2), (by first | rfl | (simp; done) | (simp [*]; done)), H', ⟨by have := HJ3.out; have := HK2.out; have := HJ18.out; omega⟩, ⟨by (with_reducible repeat (first | apply Kd.R_alloc | apply Kd.R_drewN | apply Kd.R_drew)); exact HO211.out⟩, ⟨by (with_reducible repeat (first | refine blk_drewN ?_ _ | refine blk_drew ?_ | refine blk_alloc ?_ _)); exact BK201.out⟩, ⟨by repeat (first | (with_reducible first | exact HB.out | apply below_alloc | apply pw_below_drewN | apply below_drew1 | refine below_set ?_ GE201.out | refine below_set ?_ GE207.out) | exact HB.out)⟩⟩
                          · rw [if_neg c27] at H
                            exact absurd H (by simp)
                        · rw [if_neg c25] at H
                          have c25b0 : (t205 == 0) = false := beq_eq_false_iff_ne.mpr c25
                          have c25b1 : (t205 != 0) = true := bne_iff_ne.mpr c25
                          simp only [Option.some.injEq, Prod.mk.injEq] at H
                          obtain ⟨rfl, rfl, rfl, rfl⟩ := H
                          try go_wp2_with (first | ((with_reducible refine gate_callee (f := 24) rfl ?_); refine goesL_ (some 77) rfl rfl Try.func24 (by kernel_rfl) rfl #[.int .i64 a0, .string a1, .int .i64 (wrap64 (x10_2 + 1))] rfl (by (try simp only [List.map_toArray, List.map_cons, List.map_nil]); first | done | rfl | (simp only [List.length_drop, List.length_take]; rfl)) ?_; (with_reducible refine (targumref17_row.calls kj18 a0 a1 (wrap64 (x10_2 + 1)) t203 t204 t205 t206 _ A24.out).mono ?_); rintro e w33 ⟨rfl, hb⟩; refine ⟨_, rfl, ?_⟩; have n0_ := Aside0.mk (Kd.R_below (by (with_reducible repeat (first | apply Kd.R_alloc | apply Kd.R_drewN | apply Kd.R_drew)); exact HO_9.out) hb); have n1_ := Aside0.mk (blk_below (g := gb201) (o := .cells #[.int .i64 x202000_2, .int .i64 x202001_2] 32 (0, 0)) (by (with_reducible repeat (first | refine blk_drewN ?_ _ | refine blk_drew ?_ | refine blk_alloc ?_ _)); exact BK201.out) hb); have n2_ := Aside0.mk (below_step (by repeat (first | (with_reducible first | exact HB.out | apply below_alloc | apply pw_below_drewN | apply below_drew1 | refine below_set ?_ GE201.out) | exact HB.out)) hb); clear HO_9; clear BK201; clear HB; have HO_9 := n0_; have BK201 := n1_; have HB := n2_; clear n0_ n1_ n2_; (try clear hb); (try clear hb2); (try clear hk); (try clear hi)) | ((with_reducible refine gate_dst (N := 13) rfl ?_); (try (refine gate_guard (by rfl) ?_; dsimp only)); refine box_event ?hg (N := 13) ?hd (cs := #[.int .i64 0, .int .i64 0]) (t := 32) ?hr ?_; (case hd => rfl); (case hg => rfl); (case hr => first | (go_simp; done) | (go_simp; rfl)); intro gb207 hg w34 hbox hb; have n0_ := Aside0.mk (Kd.R_below (by (with_reducible repeat (first | apply Kd.R_alloc | apply Kd.R_drewN | apply Kd.R_drew)); exact HO_9.out) hb); have n1_ := Aside0.mk (blk_below (g := gb201) (o := .cells #[.int .i64 x202000_2, .int .i64 x202001_2] 32 (0, 0)) (by (with_reducible repeat (first | refine blk_drewN ?_ _ | refine blk_drew ?_ | refine blk_alloc ?_ _)); exact BK201.out) hb); have n2_ := Aside0.mk (below_step (by repeat (first | (with_reducible first | exact HB.out | apply below_alloc | apply pw_below_drewN | apply below_drew1 | refine below_set ?_ GE201.out) | exact HB.out)) hb); have n3_ := Aside0.mk (hbox); have n4_ := Aside0.mk ((by rw [hg]; exact (below_size (by repeat (first | (with_reducible first | exact HB.out | apply below_alloc | apply pw_below_drewN | apply below_drew1 | refine below_set ?_ GE201.out) | exact HB.out))) : w.heap.size ≤ gb207)); have n5_ := Aside0.mk ((by rw [hg]; exact (below_size (by repeat (first | (with_reducible first | exact HB.out | apply below_alloc | apply pw_below_drewN | apply below_drew1 | refine below_set ?_ GE201.out) | exact HB.out))) : w.heap.size ≤ gb207)); have n6_ := Aside0.mk ((by rw [hg]; exact Nat.ne_of_lt (blk_lt (g := gb201) (o := .cells #[.int .i64 x202000_2, .int .i64 x202001_2] 32 (0, 0)) (by (with_reducible repeat (first | refine blk_drewN ?_ _ | refine blk_drew ?_ | refine blk_alloc ?_ _)); exact BK201.out)) : gb201 ≠ gb207)); have n7_ := Aside0.mk ((by rw [hg]; exact Nat.ne_of_gt (blk_lt (g := gb201) (o := .cells #[.int .i64 x202000_2, .int .i64 x202001_2] 32 (0, 0)) (by (with_reducible repeat (first | refine blk_drewN ?_ _ | refine blk_drew ?_ | refine blk_alloc ?_ _)); exact BK201.out)) : gb207 ≠ gb201)); clear HO_9; clear BK201; clear HB; have HO_9 := n0_; have BK201 := n1_; have HB := n2_; have BK207 := n3_; have GW207 := n4_; have GE207 := n5_; have NB201_207 := n6_; have NB207_201 := n7_; clear n0_ n1_ n2_ n3_ n4_ n5_ n6_ n7_; clear hb hbox hg; have hnb35 := NB207_201.out; have hnc35 := NB201_207.out; have hcz36_0 : w34.cell? ⟨gb207, 0, none⟩ = some (.int .i64 0) := (blk_cell BK207.out 0).trans rfl; have hcz36_1 : w34.cell? ⟨gb207, 1, none⟩ = some (.int .i64 0) := (blk_cell BK207.out 1).trans rfl; have hfz36_0 := blk_frozen BK207.out 0; have hfz36_1 := blk_frozen BK207.out 1))
                          have n0_ : Aside0 (Kd.R (Kd.int .u8) 5 ((w34.setCell ⟨gb207, 0, none⟩ (.int .i64 t205)).setCell ⟨gb207, 1, none⟩ (.int .i64 t206)) w.heap.size (fun _ => True) u9 x9_2) := ⟨by (with_reducible repeat (first | apply Kd.R_alloc | apply Kd.R_drewN | apply Kd.R_drew)); exact Kd.R_mono (Kd.R_far (p := ⟨gb207, 1, none⟩) (Kd.R_far (p := ⟨gb207, 0, none⟩) (Kd.R_types HO_9.out BK207.out (by decide)) (fun _ hk => hk.2) (.int .i64 t205)) (fun _ hk => hk.2) (.int .i64 t206)) (fun _ hk => trivial)⟩
                          have n1_ : Aside0 (((w34.setCell ⟨gb207, 0, none⟩ (.int .i64 t205)).setCell ⟨gb207, 1, none⟩ (.int .i64 t206)).heap[gb201]? = some (.cells #[.int .i64 x202000_2, .int .i64 x202001_2] 32 (0, 0))) := ⟨by (with_reducible repeat (first | refine blk_drewN ?_ _ | refine blk_drew ?_ | refine blk_alloc ?_ _)); refine blk_far ?_ NB201_207.out _; (with_reducible repeat (first | refine blk_drewN ?_ _ | refine blk_drew ?_ | refine blk_alloc ?_ _)); refine blk_far ?_ NB201_207.out _; (with_reducible repeat (first | refine blk_drewN ?_ _ | refine blk_drew ?_ | refine blk_alloc ?_ _)); exact BK201.out⟩
                          have n2_ : Aside0 (((w34.setCell ⟨gb207, 0, none⟩ (.int .i64 t205)).setCell ⟨gb207, 1, none⟩ (.int .i64 t206)).heap[gb207]? = some (.cells #[.int .i64 t205, .int .i64 t206] 32 (0, 0))) := ⟨by (with_reducible repeat (first | refine blk_drewN ?_ _ | refine blk_drew ?_ | refine blk_alloc ?_ _)); refine blk_put (cs := #[.int .i64 t205, .int .i64 0]) ?_ 1 _ rfl; (with_reducible repeat (first | refine blk_drewN ?_ _ | refine blk_drew ?_ | refine blk_alloc ?_ _)); refine blk_put (cs := #[.int .i64 0, .int .i64 0]) ?_ 0 _ rfl; (with_reducible repeat (first | refine blk_drewN ?_ _ | refine blk_drew ?_ | refine blk_alloc ?_ _)); exact BK207.out⟩
                          have n3_ : Aside0 (Below w.heap.size w ((w34.setCell ⟨gb207, 0, none⟩ (.int .i64 t205)).setCell ⟨gb207, 1, none⟩ (.int .i64 t206))) := ⟨by repeat (first | (with_reducible first | exact HB.out | apply below_alloc | apply pw_below_drewN | apply below_drew1 | refine below_set ?_ GE201.out | refine below_set ?_ GE207.out) | exact HB.out)⟩
                          (try clear HO_9)
                          (try clear BK201)
                          (try clear BK207)
                          (try clear HB)
                          generalize ((w34.setCell ⟨gb207, 0, none⟩ (.int .i64 t205)).setCell ⟨gb207, 1, none⟩ (.int .i64 t206)) = w37 at n0_ n1_ n2_ n3_ ⊢
                          have HO_9 := n0_
                          have BK201 := n1_
                          have BK207 := n2_
                          have HB := n3_
                          clear n0_ n1_ n2_ n3_
                          have n0_ := Aside0.mk (Kd.R_drew HO_9.out)
                          have n1_ := Aside0.mk (blk_drew BK201.out)
                          have n2_ := Aside0.mk (blk_drew BK207.out)
                          have n3_ := Aside0.mk (below_drew1 HB.out)
                          clear HO_9
                          clear BK201
                          clear BK207
                          clear HB
                          have HO_9 := n0_
                          have BK201 := n1_
                          have BK207 := n2_
                          have HB := n3_
                          clear n0_ n1_ n2_ n3_
                          refine start_ (n := 4) (S := fun w' => w'.cell? ⟨gb207, 0, none⟩ = some (.int .i64 t205) ∧ w'.cell? ⟨gb207, 1, none⟩ = some (.int .i64 t206)) (ds := []) #[false, false, false, false] (by kernel_rfl) rfl rfl ⟨(blk_cell BK207.out 0).trans rfl, (blk_cell BK207.out 1).trans rfl⟩ (fun hHeld => ?_)
                          generalize w37.drew = w38 at HO_9 BK201 BK207 HB hHeld ⊢
                          refine pure_ (i := 1) (N := some 6) (v := ?_) (a' := ?_) #[false, true, false, false] rfl rfl (by kernel_rfl) (fun _ _ _ h => h) (Or.inl ⟨by rfl, ?_⟩) ?_ ?_
                          rotate_left
                          · intro w'
                            go_simp
                            with_reducible rfl
                          rotate_left
                          · simp only [Act.put, List.setIfInBounds_toArray, List.set_cons_zero, List.set_cons_succ, i64_w, i32_w]
                            rfl
                          refine pure_ (i := 2) (N := some 7) (v := ?_) (a' := ?_) #[false, true, true, false] rfl rfl (by kernel_rfl) (fun _ _ _ h => h) (Or.inl ⟨by rfl, ?_⟩) ?_ ?_
                          rotate_left
                          · intro w'
                            go_simp
                            with_reducible rfl
                          rotate_left
                          · simp only [Act.put, List.setIfInBounds_toArray, List.set_cons_zero, List.set_cons_succ, i64_w, i32_w]
                            rfl
                          refine take_ (i := 0) (N := some 84) (v := ?_) (a' := ?_) #[true, true, true, false] rfl rfl (by kernel_rfl) (fun _ _ _ h => h) (Or.inl ⟨by rfl, ?_⟩) hHeld ?_ ?_
                          rotate_left
                          · rintro w' ⟨s0, s1⟩
                            go_simp
                            with_reducible rfl
                          rotate_left
                          · simp only [Act.put, List.setIfInBounds_toArray, List.set_cons_zero, List.set_cons_succ, i64_w, i32_w]
                            rfl
                          refine one_ (i := 3) (N := none) #[true, true, true, true] rfl rfl (by kernel_rfl) (by decide) (fun K hK => ?_)
                          have hs39 : w38.cell? ⟨gb201, 0, none⟩ = some (.int .i64 x202000_2) := (blk_cell BK201.out 0).trans rfl
                          have hfs39 := blk_frozen BK201.out 0
                          have hns39_1 := NB207_201.out
                          have hms39_1 := NB201_207.out
                          have hs40 : w38.cell? ⟨gb201, 1, none⟩ = some (.int .i64 x202001_2) := (blk_cell BK201.out 1).trans rfl
                          have hfs40 := blk_frozen BK201.out 1
                          have hns40_1 := NB207_201.out
                          have hms40_1 := NB201_207.out
                          refine skip_ (w1 := ?_) (by rfl) rfl ?_ ?_
                          rotate_left
                          · go_simp
                            rfl
                          refine hK.out _ _ ⟨((cell_far (p := ⟨gb201, _, none⟩) NB207_201.out _).trans (((cell_far (p := ⟨gb201, _, none⟩) NB207_201.out _).trans (hHeld.1)))), ((cell_far (p := ⟨gb201, _, none⟩) NB207_201.out _).trans (((cell_far (p := ⟨gb201, _, none⟩) NB207_201.out _).trans (hHeld.2))))⟩ (fun hHeld => ?_)
                          clear hK K
                          refine done_ (by kernel_rfl) ?_
                          try go_wp2
                          refine bodyPost_ret (results_list (rs := [.tmp 6, .tmp 7, .cell 8 32]) rfl (by simp) (.tmp (.tmp (.cell gb201 32 #[.int .i64 t205, .int .i64 t206] (0, 0) _ rfl (by (with_reducible repeat (first | refine blk_drewN ?_ _ | refine blk_drew ?_ | refine blk_alloc ?_ _)); refine blk_put (cs := #[.int .i64 t205, .int .i64 x202001_2]) ?_ 1 _ rfl; (with_reducible repeat (first | refine blk_drewN ?_ _ | refine blk_drew ?_ | refine blk_alloc ?_ _)); refine blk_put (cs := #[.int .i64 x202000_2, .int .i64 x202001_2]) ?_ 0 _ rfl; (with_reducible repeat (first | refine blk_drewN ?_ _ | refine blk_drew ?_ | refine blk_alloc ?_ _)); exact BK201.out) Try.underlying32 rfl (by kernel_rfl) .nil)))) rfl ?_
                          exact ⟨by first | rfl | (simp [errW_none, errW_some] <;> rfl) | (simp [*, errW_none, errW_some] <;> rfl), by repeat (first | (with_reducible first | exact HB.out | apply below_alloc | apply pw_below_drewN | apply below_drew1 | refine below_set ?_ GE201.out | refine below_set ?_ GE207.out) | exact HB.out)⟩
                      · replace c23 := Bool.eq_false_iff.mpr c23
                        subst c23
                        have H1 : (if 0 ≤ x10_2 then (if x10_2 < (a1.size : Int) then (if (bt a1 x10_2) = 92 then ((targumref17_escape.f kj18 a0 a1 x10_2).bind fun bt212 => (if bt212.1 < 0 then (some ((⟨#[]⟩ : ByteArray), 0, 14, x10_2)) else ((targumref1_Utf8.f bt212.1).bind fun t214 => (if x9_2.length + t214.length < 140737488355328 then (targumref17_Double.l0 kj18 a0 a1 a2 (x9_2 ++ t214) bt212.2) else (none))))) else ((targumref1_IsBlank.f a1 x10_2).bind fun t220 => (if t220 = true then (targumref17_Double.j3 kj18 a0 a1 a2 x9_2 x10_2 true) else ((targumref1_Break.f kj18 a0 a1 x10_2).bind fun t221 => (targumref17_Double.j3 kj18 a0 a1 a2 x9_2 x10_2 (decide (t221 > 0))))))) else (none)) else (none)) = some (r1, r2, r3, r4) := by rw [if_neg (show ¬ (false = true) by decide)] at H; exact H
                        clear H
                        have H := H1
                        clear H1
                        by_cases c41 : 0 ≤ x10_2
                        · rw [if_pos c41] at H
                          have c41b0 : decide (0 ≤ x10_2) = true := decide_eq_true c41
                          clear c41
                          by_cases c42 : x10_2 < (a1.size : Int)
                          · rw [if_pos c42] at H
                            have c42b0 : decide (x10_2 < (a1.size : Int)) = true := decide_eq_true c42
                            clear c42
                            by_cases c44 : (bt a1 x10_2) = 92
                            · rw [if_pos c44] at H
                              have c44b0 : ((bt a1 x10_2) == 92) = true := beq_iff_eq.mpr c44
                              have c44b1 : ((bt a1 x10_2) != 92) = false := bne_eq_false_iff_eq.mpr c44
                              clear c44
                              replace H := Option.bind_eq_some_iff.mp H
                              obtain ⟨⟨t212, t213⟩, A450, H⟩ := H
                              replace H : (if t212 < 0 then (some ((⟨#[]⟩ : ByteArray), 0, 14, x10_2)) else ((targumref1_Utf8.f t212).bind fun t214 => (if x9_2.length + t214.length < 140737488355328 then (targumref17_Double.l0 kj18 a0 a1 a2 (x9_2 ++ t214) t213) else (none)))) = some (r1, r2, r3, r4) := H
                              have A45 := Aside0.mk A450
                              clear A450
                              by_cases c46 : t212 < 0
                              · rw [if_pos c46] at H
                                have c46b0 : decide (t212 < 0) = true := decide_eq_true c46
                                clear c46
                                simp only [Option.some.injEq, Prod.mk.injEq] at H
                                obtain ⟨rfl, rfl, rfl, rfl⟩ := H
                                have p43 : 0 ≤ (x10_2 : Int) := of_decide_eq_true (by first | (with_reducible assumption) | assumption)
                                have q43 : x10_2 < (a1.size : Int) := of_decide_eq_true (by first | (with_reducible assumption) | assumption)
                                have hx43 := bt_at a1 x10_2
                                replace p43 := eq_true p43
                                replace q43 := eq_true q43
                                go_wp2_with (first | ((with_reducible refine gate_callee (f := 26) rfl ?_); refine goesL_ (some 100) rfl rfl Try.func26 (by kernel_rfl) rfl #[.int .i64 a0, .string a1, .int .i64 x10_2] rfl (by (try simp only [List.map_toArray, List.map_cons, List.map_nil]); first | done | rfl | (simp only [List.length_drop, List.length_take]; rfl)) ?_; (with_reducible refine (targumref17_escape.calls kj18 a0 a1 x10_2 t212 t213 _ A45.out).mono ?_); rintro e w' ⟨rfl, ⟨nd, rfl⟩⟩; refine ⟨_, rfl, ?_⟩; (try (rw [drewN_self wc]; generalize hq_ : World.drewN wc _ = wc; have n0_ : Aside0 (Kd.R (Kd.int .u8) 5 wc w.heap.size (fun _ => True) u9 x9_2) := ⟨by rw [← hq_]; exact (by (with_reducible repeat (first | apply Kd.R_alloc | apply Kd.R_drewN | apply Kd.R_drew)); exact HO_9.out)⟩; have n1_ : Aside0 (wc.heap[gb201]? = some (.cells #[.int .i64 x202000_2, .int .i64 x202001_2] 32 (0, 0))) := ⟨by rw [← hq_]; exact (by (with_reducible repeat (first | refine blk_drewN ?_ _ | refine blk_drew ?_ | refine blk_alloc ?_ _)); exact BK201.out)⟩; have n2_ : Aside0 (Below w.heap.size w wc) := ⟨by rw [← hq_]; exact (by repeat (first | (with_reducible first | exact HB.out | apply below_alloc | apply pw_below_drewN | apply below_drew1 | refine below_set ?_ GE201.out) | exact HB.out))⟩; clear HO_9 BK201 HB hq_; have HO_9 := n0_; have BK201 := n1_; have HB := n2_; clear n0_ n1_ n2_)); have hcz47_0 : wc.cell? ⟨gb201, 0, none⟩ = some (.int .i64 x202000_2) := (blk_cell BK201.out 0).trans rfl; have hcz47_1 : wc.cell? ⟨gb201, 1, none⟩ = some (.int .i64 x202001_2) := (blk_cell BK201.out 1).trans rfl; have hfz47_0 := blk_frozen BK201.out 0; have hfz47_1 := blk_frozen BK201.out 1))
                                refine bodyPost_ret (results_list (rs := [.tmp 6, .tmp 7, .cell 8 32]) rfl (by simp) (.tmp (.tmp (.cell gb201 32 #[.int .i64 14, .int .i64 x10_2] (0, 0) _ rfl (by (with_reducible repeat (first | refine blk_drewN ?_ _ | refine blk_drew ?_ | refine blk_alloc ?_ _)); refine blk_put (cs := #[.int .i64 14, .int .i64 x202001_2]) ?_ 1 _ rfl; (with_reducible repeat (first | refine blk_drewN ?_ _ | refine blk_drew ?_ | refine blk_alloc ?_ _)); refine blk_put (cs := #[.int .i64 x202000_2, .int .i64 x202001_2]) ?_ 0 _ rfl; (with_reducible repeat (first | refine blk_drewN ?_ _ | refine blk_drew ?_ | refine blk_alloc ?_ _)); exact BK201.out) Try.underlying32 rfl (by kernel_rfl) .nil)))) rfl ?_
                                exact ⟨by first | rfl | (simp [errW_none, errW_some] <;> rfl) | (simp [*, errW_none, errW_some] <;> rfl), by repeat (first | (with_reducible first | exact HB.out | apply below_alloc | apply pw_below_drewN | apply below_drew1 | refine below_set ?_ GE201.out) | exact HB.out)⟩
                              · rw [if_neg c46] at H
                                have c46b0 : decide (t212 < 0) = false := decide_eq_false c46
                                clear c46
                                replace H := Option.bind_eq_some_iff.mp H
                                obtain ⟨t214, A480, H⟩ := H
                                replace H : (if x9_2.length + t214.length < 140737488355328 then (targumref17_Double.l0 kj18 a0 a1 a2 (x9_2 ++ t214) t213) else (none)) = some (r1, r2, r3, r4) := H
                                have A48 := Aside0.mk A480
                                clear A480
                                by_cases c49 : x9_2.length + t214.length < 140737488355328
                                · rw [if_pos c49] at H
                                  have LMc49 := Aside0.mk c49
                                  clear c49
                                  obtain ⟨y217, hy217⟩ : ∃ y_ : List Int, y_ = (x9_2 ++ t214) := ⟨_, rfl⟩
                                  replace H : (targumref17_Double.l0 kj18 a0 a1 a2 y217 t213) = some (r1, r2, r3, r4) := by first | (rw [hy217]; with_reducible exact H) | (have H2_ := (Option.bind_some _ _).symm.trans H; rw [hy217]; with_reducible exact H2_) | (have H2_ := (Option.bind_some _ _).symm.trans H; with_reducible exact H2_) | with_reducible exact H | (rw [hy217]; exact H) | exact H
                                  have Ny217 := Aside0.mk hy217
                                  clear hy217
                                  have H' := Aside0.mk H
                                  clear H
                                  have p43 : 0 ≤ (x10_2 : Int) := of_decide_eq_true (by first | (with_reducible assumption) | assumption)
                                  have q43 : x10_2 < (a1.size : Int) := of_decide_eq_true (by first | (with_reducible assumption) | assumption)
                                  have hx43 := bt_at a1 x10_2
                                  replace p43 := eq_true p43
                                  replace q43 := eq_true q43
                                  go_wp2_with (first | ((with_reducible refine gate_callee (f := 26) rfl ?_); refine goesL_ (some 100) rfl rfl Try.func26 (by kernel_rfl) rfl #[.int .i64 a0, .string a1, .int .i64 x10_2] rfl (by (try simp only [List.map_toArray, List.map_cons, List.map_nil]); first | done | rfl | (simp only [List.length_drop, List.length_take]; rfl)) ?_; (with_reducible refine (targumref17_escape.calls kj18 a0 a1 x10_2 t212 t213 _ A45.out).mono ?_); rintro e w' ⟨rfl, ⟨nd, rfl⟩⟩; refine ⟨_, rfl, ?_⟩) | ((with_reducible refine gate_callee (f := 20) rfl ?_); refine goesL_ (some 109) rfl rfl Try.func20 (by kernel_rfl) rfl #[.int .i64 t212] rfl (by (try simp only [List.map_toArray, List.map_cons, List.map_nil]); first | done | rfl | (simp only [List.length_drop, List.length_take]; rfl)) ?_; (with_reducible refine (targumref1_Utf8.calls t212 t214 _ A48.out).mono ?_); rintro e w50 ⟨v215, rfl, ho0, hb⟩; refine ⟨_, rfl, ?_⟩; have n0_ := Aside0.mk (Kd.R_elder' (by (with_reducible repeat (first | apply Kd.R_alloc | apply Kd.R_drewN | apply Kd.R_drew)); exact HO_9.out) (Kd.R_base ho0) hb); have n1_ := Aside0.mk (Kd.R_lower (Kd.R_new' ho0 (Kd.R_lt (by (with_reducible repeat (first | apply Kd.R_alloc | apply Kd.R_drewN | apply Kd.R_drew)); exact HO_9.out))) (below_size (by repeat (first | (with_reducible first | exact HB.out | apply below_alloc | apply pw_below_drewN | apply below_drew1 | refine below_set ?_ GE201.out) | exact HB.out)))); have n2_ := Aside0.mk (blk_below (g := gb201) (o := .cells #[.int .i64 x202000_2, .int .i64 x202001_2] 32 (0, 0)) (by (with_reducible repeat (first | refine blk_drewN ?_ _ | refine blk_drew ?_ | refine blk_alloc ?_ _)); exact BK201.out) hb); have n3_ := Aside0.mk (below_step (by repeat (first | (with_reducible first | exact HB.out | apply below_alloc | apply pw_below_drewN | apply below_drew1 | refine below_set ?_ GE201.out) | exact HB.out)) hb); clear HO_9; clear BK201; clear HB; have HO_9 := n0_; have HO216 := n1_; have BK201 := n2_; have HB := n3_; clear n0_ n1_ n2_ n3_; (try clear hb); (try clear hb2); (try clear hk); (try clear hi); (try clear ho0); obtain ⟨Ao52, co52, eo52⟩ := Kd.R_slice HO216.out; subst eo52) | ((with_reducible refine gate_builtin (b := .append) (xs := #[.tmp 107, .tmp 109]) rfl ?_); (try (refine gate_guard (by rfl) ?_; dsimp only)); at_builtin; refine Kd.R_append_rows (Kd.int .u8) (w0 := w) w.heap.size rfl (.tmp 107) (.tmp 109) 22 5 (.int .u8 0) 1 rfl Try.underlying22 info5 rfl (by decide) (by omega) u9 x9_2 t214 _ _ _ (fun k_ => some k_ ≠ (.slice Ao52 t214.length co52 : Value).ownBlock) (fun _ => False) rfl rfl ?aO ?aR (fun _ _ h => h) (fun _ h => h.elim) ?aF ?aB ?aS ?aL ?_; (case aR => repeat (first | exact (Kd.R_reads' HO216.out).2.2 | (with_reducible refine Kd.C_alloc ?_ _) | (with_reducible refine Kd.C_drewN ?_ _) | (with_reducible refine Kd.C_drew ?_))); (case aB => exact (by repeat (first | (with_reducible first | exact HB.out | apply below_alloc | apply pw_below_drewN | apply below_drew1 | refine below_set ?_ GE201.out) | exact HB.out))); (case aF => exact (fun k_ hk => Kd.fresh' (Kd.R_lt (by (with_reducible repeat (first | apply Kd.R_alloc | apply Kd.R_drewN | apply Kd.R_drew)); exact HO216.out)) k_ hk)); (case aO => exact (by (with_reducible repeat (first | apply Kd.R_alloc | apply Kd.R_drewN | apply Kd.R_drew)); exact Kd.R_mono HO_9.out (fun _ hk => hk.2))); (case aS => exact (below_size (by repeat (first | (with_reducible first | exact HB.out | apply below_alloc | apply pw_below_drewN | apply below_drew1 | refine below_set ?_ GE201.out) | exact HB.out)))); (case aL => have := LMc49.out; omega); intro v218 w51 ho hb hg hat; rw [← Ny217.out] at ho; have n0_ := Aside0.mk (blk_grown (g := gb201) (o := .cells #[.int .i64 x202000_2, .int .i64 x202001_2] 32 (0, 0)) (by (with_reducible repeat (first | refine blk_drewN ?_ _ | refine blk_drew ?_ | refine blk_alloc ?_ _)); exact BK201.out) hg (Kd.R_ne HO_9.out BK201.out (by decide))); have n1_ := Aside0.mk (Kd.R_after (ok := (fun _ => True)) (by (with_reducible repeat (first | apply Kd.R_alloc | apply Kd.R_drewN | apply Kd.R_drew)); exact HO216.out) hg hat); have n2_ := Aside0.mk (hb); have n3_ := Aside0.mk (ho); clear BK201; clear HO216; clear HB; clear HO_9; have BK201 := n0_; have HO216 := n1_; have HB := n2_; have HO219 := n3_; clear n0_ n1_ n2_ n3_; clear ho hb hg hat))
                                  go_roundg kj18
                                  case measure => have := HJ3.out; have := HK2.out; have := HJ18.out; omega
                                  case rel => exact ⟨(y217), (t213), (x202000_2), (x202001_2), (by first | rfl | (simp; done) | (simp [*]; done)), H', ⟨by have := HJ3.out; have := HK2.out; have := HJ18.out; omega⟩, ⟨by (with_reducible repeat (first | apply Kd.R_alloc | apply Kd.R_drewN | apply Kd.R_drew)); exact Kd.R_mono HO219.out (fun _ hk => trivial)⟩, ⟨by (with_reducible repeat (first | refine blk_drewN ?_ _ | refine blk_drew ?_ | refine blk_alloc ?_ _)); exact BK201.out⟩, ⟨by repeat (first | (with_reducible first | exact HB.out | apply below_alloc | apply pw_below_drewN | apply below_drew1 | refine below_set ?_ GE201.out) | exact HB.out)⟩⟩
                                · rw [if_neg c49] at H
                                  exact absurd H (by simp)
                            · rw [if_neg c44] at H
                              have c44b0 : ((bt a1 x10_2) == 92) = false := beq_eq_false_iff_ne.mpr c44
                              have c44b1 : ((bt a1 x10_2) != 92) = true := bne_iff_ne.mpr c44
                              have HC53 := Aside0.mk H
                              clear H
                              have p43 : 0 ≤ (x10_2 : Int) := of_decide_eq_true (by first | (with_reducible assumption) | assumption)
                              have q43 : x10_2 < (a1.size : Int) := of_decide_eq_true (by first | (with_reducible assumption) | assumption)
                              have hx43 := bt_at a1 x10_2
                              replace p43 := eq_true p43
                              replace q43 := eq_true q43
                              go_upto_region 22 with (fail)
                              go_cut [112] (fun v112 wc => ∃ (kq : Nat) (x112_52 : Bool), v112 = .bool x112_52 ∧ Aside0 (targumref17_Double.j3 kq a0 a1 a2 x9_2 x10_2 x112_52 = some (r1, r2, r3, r4)) ∧ Aside0 (kq ≤ kj18) ∧ Aside0 (Kd.R (Kd.int .u8) 5 wc w.heap.size (fun _ => True) u9 x9_2) ∧ Aside0 (wc.heap[gb201]? = some (.cells #[.int .i64 x202000_2, .int .i64 x202001_2] 32 (0, 0))) ∧ Aside0 (Below w.heap.size w wc))
                              case first =>
                                have H := HC53.out
                                clear HC53
                                replace H := Option.bind_eq_some_iff.mp H
                                obtain ⟨t220, A540, H⟩ := H
                                replace H : (if t220 = true then (targumref17_Double.j3 kj18 a0 a1 a2 x9_2 x10_2 true) else ((targumref1_Break.f kj18 a0 a1 x10_2).bind fun t221 => (targumref17_Double.j3 kj18 a0 a1 a2 x9_2 x10_2 (decide (t221 > 0))))) = some (r1, r2, r3, r4) := H
                                have A54 := Aside0.mk A540
                                clear A540
                                by_cases c55 : t220 = true
                                · subst c55
                                  have H1 : (targumref17_Double.j3 kj18 a0 a1 a2 x9_2 x10_2 true) = some (r1, r2, r3, r4) := by rw [if_pos rfl] at H; exact H
                                  clear H
                                  have H := H1
                                  clear H1
                                  have H' := Aside0.mk H
                                  clear H
                                  go_wp2_with (first | ((with_reducible refine gate_callee (f := 16) rfl ?_); refine goesL_ (some 115) rfl rfl Try.func16 (by kernel_rfl) rfl #[.string a1, .int .i64 x10_2] rfl (by (try simp only [List.map_toArray, List.map_cons, List.map_nil]); first | done | rfl | (simp only [List.length_drop, List.length_take]; rfl)) ?_; (with_reducible refine (targumref1_IsBlank.calls a1 x10_2 true _ A54.out).mono ?_); rintro e w' ⟨rfl, ⟨nd, rfl⟩⟩; refine ⟨_, rfl, ?_⟩))
                                  go_meet
                                  case rel => exact ⟨_, (true), (by first | rfl | (simp; done) | (simp [*]; done)), H', ⟨by have := HJ3.out; have := HK2.out; have := HJ18.out; first | omega | exact Nat.le_refl _⟩, ⟨by (with_reducible repeat (first | apply Kd.R_alloc | apply Kd.R_drewN | apply Kd.R_drew)); exact HO_9.out⟩, ⟨by (with_reducible repeat (first | refine blk_drewN ?_ _ | refine blk_drew ?_ | refine blk_alloc ?_ _)); exact BK201.out⟩, ⟨by repeat (first | (with_reducible first | exact HB.out | apply below_alloc | apply pw_below_drewN | apply below_drew1 | refine below_set ?_ GE201.out) | exact HB.out)⟩⟩
                                · replace c55 := Bool.eq_false_iff.mpr c55
                                  subst c55
                                  have H1 : ((targumref1_Break.f kj18 a0 a1 x10_2).bind fun t221 => (targumref17_Double.j3 kj18 a0 a1 a2 x9_2 x10_2 (decide (t221 > 0)))) = some (r1, r2, r3, r4) := by rw [if_neg (show ¬ (false = true) by decide)] at H; exact H
                                  clear H
                                  have H := H1
                                  clear H1
                                  replace H := Option.bind_eq_some_iff.mp H
                                  obtain ⟨t221, A560, H⟩ := H
                                  replace H : (targumref17_Double.j3 kj18 a0 a1 a2 x9_2 x10_2 (decide (t221 > 0))) = some (r1, r2, r3, r4) := H
                                  have A56 := Aside0.mk A560
                                  clear A560
                                  have H' := Aside0.mk H
                                  clear H
                                  go_wp2_with (first | ((with_reducible refine gate_callee (f := 16) rfl ?_); refine goesL_ (some 115) rfl rfl Try.func16 (by kernel_rfl) rfl #[.string a1, .int .i64 x10_2] rfl (by (try simp only [List.map_toArray, List.map_cons, List.map_nil]); first | done | rfl | (simp only [List.length_drop, List.length_take]; rfl)) ?_; (with_reducible refine (targumref1_IsBlank.calls a1 x10_2 false _ A54.out).mono ?_); rintro e w' ⟨rfl, ⟨nd, rfl⟩⟩; refine ⟨_, rfl, ?_⟩) | (go_at_call 17; (with_reducible refine (targumref1_Break.calls kj18 a0 a1 x10_2 t221 _ A56.out).mono ?_); rintro e w' ⟨rfl, ⟨nd, rfl⟩⟩))
                                  go_meet
                                  case rel => exact ⟨_, (decide (t221 > 0)), (by first | rfl | (simp; done) | (simp [*]; done)), H', ⟨by have := HJ3.out; have := HK2.out; have := HJ18.out; first | omega | exact Nat.le_refl _⟩, ⟨by (with_reducible repeat (first | apply Kd.R_alloc | apply Kd.R_drewN | apply Kd.R_drew)); exact HO_9.out⟩, ⟨by (with_reducible repeat (first | refine blk_drewN ?_ _ | refine blk_drew ?_ | refine blk_alloc ?_ _)); exact BK201.out⟩, ⟨by repeat (first | (with_reducible first | exact HB.out | apply below_alloc | apply pw_below_drewN | apply below_drew1 | refine below_set ?_ GE201.out) | exact HB.out)⟩⟩
                              case rest =>
                                clear HC53
                                (try clear c1); (try clear p1); (try clear q1); (try clear hx1); (try clear hcv1); (try clear c2); (try clear p2); (try clear q2); (try clear hx2); (try clear c3); (try clear c4); (try clear p4); (try clear q4); (try clear hx4); (try clear c5); (try clear c6); (try clear c6b0); (try clear p6); (try clear c7); (try clear c7b0); (try clear c8); (try clear c8b0); (try clear c9); (try clear c9b0); (try clear p10); (try clear q10); (try clear hx10); (try clear c11); (try clear c13); (try clear c13b0); (try clear c14); (try clear c14b0); (try clear c15); (try clear p15); (try clear q15); (try clear hx15); (try clear c16); (try clear c16b0); (try clear c16b1); (try clear hcv17); (try clear c20); (try clear p20); (try clear q20); (try clear hx20); (try clear c21); (try clear c21b0); (try clear c21b1); (try clear c23); (try clear c24); (try clear c25); (try clear c25b0); (try clear c25b1); (try clear c26); (try clear c27); (try clear c30); (try clear c35); (try clear c41); (try clear c41b0); (try clear c42); (try clear c42b0); (try clear p43); (try clear q43); (try clear hx43); (try clear c44); (try clear c44b0); (try clear c44b1); (try clear c46); (try clear c46b0); (try clear c49); (try clear c55); (try clear hcz12_0); (try clear hcz12_1); (try clear hcz18_0); (try clear hcz18_1); (try clear hcz31_0); (try clear hcz31_1); (try clear hcz36_0); (try clear hcz36_1); (try clear hcz47_0); (try clear hcz47_1); (try clear hfz12_0); (try clear hfz12_1); (try clear hfz18_0); (try clear hfz18_1); (try clear hfz31_0); (try clear hfz31_1); (try clear hfz36_0); (try clear hfz36_1); (try clear hfz47_0); (try clear hfz47_1)
                                obtain ⟨kq, x112_52, rfl, HA, HJ52, HO_9, BK201, HB⟩ := hcut
                                cases kq with
                                | zero => exact absurd HA.out (by simp [targumref17_Double.j3])
                                | succ kj52 =>
                                  have H := HA.out
                                  clear HA
                                  simp only [targumref17_Double.j3] at H
                                  by_cases c57 : x112_52 = true
                                  · subst c57
                                    have H1 : ((targumref17_row.f kj52 a0 a1 x10_2).bind fun bt222 => (if bt222.2.2.1 = 0 then ((targumref17_folded.f kj52 a1 x10_2 bt222.1 bt222.2.1).bind fun t227 => (if x9_2.length + t227.size < 140737488355328 then (targumref17_Double.l0 kj52 a0 a1 a2 (x9_2 ++ bytesOf t227) bt222.1) else (none))) else (some ((⟨#[]⟩ : ByteArray), 0, bt222.2.2.1, bt222.2.2.2)))) = some (r1, r2, r3, r4) := by rw [if_pos rfl] at H; exact H
                                    clear H
                                    have H := H1
                                    clear H1
                                    replace H := Option.bind_eq_some_iff.mp H
                                    obtain ⟨⟨t222, t223, t224, t225⟩, A580, H⟩ := H
                                    replace H : (if t224 = 0 then ((targumref17_folded.f kj52 a1 x10_2 t222 t223).bind fun t227 => (if x9_2.length + t227.size < 140737488355328 then (targumref17_Double.l0 kj52 a0 a1 a2 (x9_2 ++ bytesOf t227) t222) else (none))) else (some ((⟨#[]⟩ : ByteArray), 0, t224, t225))) = some (r1, r2, r3, r4) := H
                                    have A58 := Aside0.mk A580
                                    clear A580
                                    by_cases c59 : t224 = 0
                                    · rw [if_pos c59] at H
                                      have c59b0 : (t224 == 0) = true := beq_iff_eq.mpr c59
                                      have c59b1 : (t224 != 0) = false := bne_eq_false_iff_eq.mpr c59
                                      clear c59
                                      replace H := Option.bind_eq_some_iff.mp H
                                      obtain ⟨t227, A600, H⟩ := H
                                      replace H : (if x9_2.length + t227.size < 140737488355328 then (targumref17_Double.l0 kj52 a0 a1 a2 (x9_2 ++ bytesOf t227) t222) else (none)) = some (r1, r2, r3, r4) := H
                                      have A60 := Aside0.mk A600
                                      clear A600
                                      by_cases c61 : x9_2.length + t227.size < 140737488355328
                                      · rw [if_pos c61] at H
                                        have LMc61 := Aside0.mk c61
                                        clear c61
                                        obtain ⟨y228, hy228⟩ : ∃ y_ : List Int, y_ = (x9_2 ++ bytesOf t227) := ⟨_, rfl⟩
                                        replace H : (targumref17_Double.l0 kj52 a0 a1 a2 y228 t222) = some (r1, r2, r3, r4) := by first | (rw [hy228]; with_reducible exact H) | (have H2_ := (Option.bind_some _ _).symm.trans H; rw [hy228]; with_reducible exact H2_) | (have H2_ := (Option.bind_some _ _).symm.trans H; with_reducible exact H2_) | with_reducible exact H | (rw [hy228]; exact H) | exact H
                                        have Ny228 := Aside0.mk hy228
                                        clear hy228
                                        have H' := Aside0.mk H
                                        clear H
                                        go_wp2_with (first | ((with_reducible refine gate_callee (f := 24) rfl ?_); refine goesL_ (some 127) rfl rfl Try.func24 (by kernel_rfl) rfl #[.int .i64 a0, .string a1, .int .i64 x10_2] rfl (by (try simp only [List.map_toArray, List.map_cons, List.map_nil]); first | done | rfl | (simp only [List.length_drop, List.length_take]; rfl)) ?_; (with_reducible refine (targumref17_row.calls kj52 a0 a1 x10_2 t222 t223 t224 t225 _ A58.out).mono ?_); rintro e w62 ⟨rfl, hb⟩; refine ⟨_, rfl, ?_⟩; have n0_ := Aside0.mk (Kd.R_below (by (with_reducible repeat (first | apply Kd.R_alloc | apply Kd.R_drewN | apply Kd.R_drew)); exact HO_9.out) hb); have n1_ := Aside0.mk (blk_below (g := gb201) (o := .cells #[.int .i64 x202000_2, .int .i64 x202001_2] 32 (0, 0)) (by (with_reducible repeat (first | refine blk_drewN ?_ _ | refine blk_drew ?_ | refine blk_alloc ?_ _)); exact BK201.out) hb); have n2_ := Aside0.mk (below_step (by repeat (first | (with_reducible first | exact HB.out | apply below_alloc | apply pw_below_drewN | apply below_drew1 | refine below_set ?_ GE201.out) | exact HB.out)) hb); clear HO_9; clear BK201; clear HB; have HO_9 := n0_; have BK201 := n1_; have HB := n2_; clear n0_ n1_ n2_; (try clear hb); (try clear hb2); (try clear hk); (try clear hi)) | ((with_reducible refine gate_dst (N := 18) rfl ?_); (try (refine gate_guard (by rfl) ?_; dsimp only)); refine box_event ?hg (N := 18) ?hd (cs := #[.int .i64 0, .int .i64 0]) (t := 32) ?hr ?_; (case hd => rfl); (case hg => rfl); (case hr => first | (go_simp; done) | (go_simp; rfl)); intro gb226 hg w63 hbox hb; have n0_ := Aside0.mk (Kd.R_below (by (with_reducible repeat (first | apply Kd.R_alloc | apply Kd.R_drewN | apply Kd.R_drew)); exact HO_9.out) hb); have n1_ := Aside0.mk (blk_below (g := gb201) (o := .cells #[.int .i64 x202000_2, .int .i64 x202001_2] 32 (0, 0)) (by (with_reducible repeat (first | refine blk_drewN ?_ _ | refine blk_drew ?_ | refine blk_alloc ?_ _)); exact BK201.out) hb); have n2_ := Aside0.mk (below_step (by repeat (first | (with_reducible first | exact HB.out | apply below_alloc | apply pw_below_drewN | apply below_drew1 | refine below_set ?_ GE201.out) | exact HB.out)) hb); have n3_ := Aside0.mk (hbox); have n4_ := Aside0.mk ((by rw [hg]; exact (below_size (by repeat (first | (with_reducible first | exact HB.out | apply below_alloc | apply pw_below_drewN | apply below_drew1 | refine below_set ?_ GE201.out) | exact HB.out))) : w.heap.size ≤ gb226)); have n5_ := Aside0.mk ((by rw [hg]; exact (below_size (by repeat (first | (with_reducible first | exact HB.out | apply below_alloc | apply pw_below_drewN | apply below_drew1 | refine below_set ?_ GE201.out) | exact HB.out))) : w.heap.size ≤ gb226)); have n6_ := Aside0.mk ((by rw [hg]; exact Nat.ne_of_lt (blk_lt (g := gb201) (o := .cells #[.int .i64 x202000_2, .int .i64 x202001_2] 32 (0, 0)) (by (with_reducible repeat (first | refine blk_drewN ?_ _ | refine blk_drew ?_ | refine blk_alloc ?_ _)); exact BK201.out)) : gb201 ≠ gb226)); have n7_ := Aside0.mk ((by rw [hg]; exact Nat.ne_of_gt (blk_lt (g := gb201) (o := .cells #[.int .i64 x202000_2, .int .i64 x202001_2] 32 (0, 0)) (by (with_reducible repeat (first | refine blk_drewN ?_ _ | refine blk_drew ?_ | refine blk_alloc ?_ _)); exact BK201.out)) : gb226 ≠ gb201)); clear HO_9; clear BK201; clear HB; have HO_9 := n0_; have BK201 := n1_; have HB := n2_; have BK226 := n3_; have GW226 := n4_; have GE226 := n5_; have NB201_226 := n6_; have NB226_201 := n7_; clear n0_ n1_ n2_ n3_ n4_ n5_ n6_ n7_; clear hb hbox hg; have hnb64 := NB226_201.out; have hnc64 := NB201_226.out; have hcz65_0 : w63.cell? ⟨gb226, 0, none⟩ = some (.int .i64 0) := (blk_cell BK226.out 0).trans rfl; have hcz65_1 : w63.cell? ⟨gb226, 1, none⟩ = some (.int .i64 0) := (blk_cell BK226.out 1).trans rfl; have hfz65_0 := blk_frozen BK226.out 0; have hfz65_1 := blk_frozen BK226.out 1) | ((with_reducible refine gate_callee (f := 27) rfl ?_); refine goesL_ (some 140) rfl rfl Try.func27 (by kernel_rfl) rfl #[.string a1, .int .i64 x10_2, .int .i64 t222, .int .i64 t223] rfl (by (try simp only [List.map_toArray, List.map_cons, List.map_nil]); first | done | rfl | (simp only [List.length_drop, List.length_take]; rfl)) ?_; (with_reducible refine (targumref17_folded.calls kj52 a1 x10_2 t222 t223 t227 _ A60.out).mono ?_); rintro e w' ⟨rfl, ⟨nd, rfl⟩⟩; refine ⟨_, rfl, ?_⟩) | (at_builtin; refine print_append_str (w0 := w) w.heap.size rfl (.tmp 135) _ 22 9 5 rfl Try.underlying22 Try.underlying9 info5 u9 x9_2 t227 rfl rfl ?aO ?aB ?aS ?aL ?_; (case aB => exact (by repeat (first | (with_reducible first | exact HB.out | apply below_alloc | apply pw_below_drewN | apply below_drew1 | refine below_set ?_ GE201.out | refine below_set ?_ GE226.out) | exact HB.out))); (case aO => exact (Kd.own_of_R (by (with_reducible repeat (first | apply Kd.R_alloc | apply Kd.R_drewN | apply Kd.R_drew)); exact Kd.R_mono (Kd.R_far (p := ⟨gb226, 1, none⟩) (Kd.R_far (p := ⟨gb226, 0, none⟩) (Kd.R_types HO_9.out BK226.out (by decide)) (fun _ hk => hk.2) (.int .i64 t224)) (fun _ hk => hk.2) (.int .i64 t225)) (fun _ hk => trivial)))); (case aS => exact (below_size (by repeat (first | (with_reducible first | exact HB.out | apply below_alloc | apply pw_below_drewN | apply below_drew1 | refine below_set ?_ GE201.out | refine below_set ?_ GE226.out) | exact HB.out)))); (case aL => have := LMc61.out; omega); intro v229 w66 ho0 hb hg; have ho := Kd.R_of_own (h1 := fun _ => rfl) (ok := fun _ => True) ho0 (fun _ _ => trivial); clear ho0; have hat := True.intro; rw [← Ny228.out] at ho; change Kd.R (Kd.int .u8) 5 w66 w.heap.size (fun _ => True) v229 y228 at ho; have n0_ := Aside0.mk (blk_grown (g := gb201) (o := .cells #[.int .i64 x202000_2, .int .i64 x202001_2] 32 (0, 0)) (by (with_reducible repeat (first | refine blk_drewN ?_ _ | refine blk_drew ?_ | refine blk_alloc ?_ _)); refine blk_far ?_ NB201_226.out _; (with_reducible repeat (first | refine blk_drewN ?_ _ | refine blk_drew ?_ | refine blk_alloc ?_ _)); refine blk_far ?_ NB201_226.out _; (with_reducible repeat (first | refine blk_drewN ?_ _ | refine blk_drew ?_ | refine blk_alloc ?_ _)); exact BK201.out) hg (Kd.R_ne HO_9.out BK201.out (by decide))); have n1_ := Aside0.mk (blk_grown (g := gb226) (o := .cells #[.int .i64 t224, .int .i64 t225] 32 (0, 0)) (by (with_reducible repeat (first | refine blk_drewN ?_ _ | refine blk_drew ?_ | refine blk_alloc ?_ _)); refine blk_put (cs := #[.int .i64 t224, .int .i64 0]) ?_ 1 _ rfl; (with_reducible repeat (first | refine blk_drewN ?_ _ | refine blk_drew ?_ | refine blk_alloc ?_ _)); refine blk_put (cs := #[.int .i64 0, .int .i64 0]) ?_ 0 _ rfl; (with_reducible repeat (first | refine blk_drewN ?_ _ | refine blk_drew ?_ | refine blk_alloc ?_ _)); exact BK226.out) hg (Kd.R_ne HO_9.out BK226.out (by decide))); have n2_ := Aside0.mk (hb); have n3_ := Aside0.mk (ho); clear BK201; clear BK226; clear HB; clear HO_9; have BK201 := n0_; have BK226 := n1_; have HB := n2_; have HO230 := n3_; clear n0_ n1_ n2_ n3_; clear ho hb hg hat))
                                        go_roundg kj52
                                        case measure => have := HJ3.out; have := HK2.out; have := HJ18.out; have := HJ52.out; omega
                                        case rel => exact ⟨(y228), (t222), (x202000_2), (x202001_2), (by first | rfl | (simp; done) | (simp [*]; done)), H', ⟨by have := HJ3.out; have := HK2.out; have := HJ18.out; have := HJ52.out; omega⟩, ⟨by (with_reducible repeat (first | apply Kd.R_alloc | apply Kd.R_drewN | apply Kd.R_drew)); exact HO230.out⟩, ⟨by (with_reducible repeat (first | refine blk_drewN ?_ _ | refine blk_drew ?_ | refine blk_alloc ?_ _)); exact BK201.out⟩, ⟨by repeat (first | (with_reducible first | exact HB.out | apply below_alloc | apply pw_below_drewN | apply below_drew1 | refine below_set ?_ GE201.out | refine below_set ?_ GE226.out) | exact HB.out)⟩⟩
                                      · rw [if_neg c61] at H
                                        exact absurd H (by simp)
                                    · rw [if_neg c59] at H
                                      have c59b0 : (t224 == 0) = false := beq_eq_false_iff_ne.mpr c59
                                      have c59b1 : (t224 != 0) = true := bne_iff_ne.mpr c59
                                      simp only [Option.some.injEq, Prod.mk.injEq] at H
                                      obtain ⟨rfl, rfl, rfl, rfl⟩ := H
                                      try go_wp2_with (first | ((with_reducible refine gate_callee (f := 24) rfl ?_); refine goesL_ (some 127) rfl rfl Try.func24 (by kernel_rfl) rfl #[.int .i64 a0, .string a1, .int .i64 x10_2] rfl (by (try simp only [List.map_toArray, List.map_cons, List.map_nil]); first | done | rfl | (simp only [List.length_drop, List.length_take]; rfl)) ?_; (with_reducible refine (targumref17_row.calls kj52 a0 a1 x10_2 t222 t223 t224 t225 _ A58.out).mono ?_); rintro e w67 ⟨rfl, hb⟩; refine ⟨_, rfl, ?_⟩; have n0_ := Aside0.mk (Kd.R_below (by (with_reducible repeat (first | apply Kd.R_alloc | apply Kd.R_drewN | apply Kd.R_drew)); exact HO_9.out) hb); have n1_ := Aside0.mk (blk_below (g := gb201) (o := .cells #[.int .i64 x202000_2, .int .i64 x202001_2] 32 (0, 0)) (by (with_reducible repeat (first | refine blk_drewN ?_ _ | refine blk_drew ?_ | refine blk_alloc ?_ _)); exact BK201.out) hb); have n2_ := Aside0.mk (below_step (by repeat (first | (with_reducible first | exact HB.out | apply below_alloc | apply pw_below_drewN | apply below_drew1 | refine below_set ?_ GE201.out) | exact HB.out)) hb); clear HO_9; clear BK201; clear HB; have HO_9 := n0_; have BK201 := n1_; have HB := n2_; clear n0_ n1_ n2_; (try clear hb); (try clear hb2); (try clear hk); (try clear hi)) | ((with_reducible refine gate_dst (N := 18) rfl ?_); (try (refine gate_guard (by rfl) ?_; dsimp only)); refine box_event ?hg (N := 18) ?hd (cs := #[.int .i64 0, .int .i64 0]) (t := 32) ?hr ?_; (case hd => rfl); (case hg => rfl); (case hr => first | (go_simp; done) | (go_simp; rfl)); intro gb226 hg w68 hbox hb; have n0_ := Aside0.mk (Kd.R_below (by (with_reducible repeat (first | apply Kd.R_alloc | apply Kd.R_drewN | apply Kd.R_drew)); exact HO_9.out) hb); have n1_ := Aside0.mk (blk_below (g := gb201) (o := .cells #[.int .i64 x202000_2, .int .i64 x202001_2] 32 (0, 0)) (by (with_reducible repeat (first | refine blk_drewN ?_ _ | refine blk_drew ?_ | refine blk_alloc ?_ _)); exact BK201.out) hb); have n2_ := Aside0.mk (below_step (by repeat (first | (with_reducible first | exact HB.out | apply below_alloc | apply pw_below_drewN | apply below_drew1 | refine below_set ?_ GE201.out) | exact HB.out)) hb); have n3_ := Aside0.mk (hbox); have n4_ := Aside0.mk ((by rw [hg]; exact (below_size (by repeat (first | (with_reducible first | exact HB.out | apply below_alloc | apply pw_below_drewN | apply below_drew1 | refine below_set ?_ GE201.out) | exact HB.out))) : w.heap.size ≤ gb226)); have n5_ := Aside0.mk ((by rw [hg]; exact (below_size (by repeat (first | (with_reducible first | exact HB.out | apply below_alloc | apply pw_below_drewN | apply below_drew1 | refine below_set ?_ GE201.out) | exact HB.out))) : w.heap.size ≤ gb226)); have n6_ := Aside0.mk ((by rw [hg]; exact Nat.ne_of_lt (blk_lt (g := gb201) (o := .cells #[.int .i64 x202000_2, .int .i64 x202001_2] 32 (0, 0)) (by (with_reducible repeat (first | refine blk_drewN ?_ _ | refine blk_drew ?_ | refine blk_alloc ?_ _)); exact BK201.out)) : gb201 ≠ gb226)); have n7_ := Aside0.mk ((by rw [hg]; exact Nat.ne_of_gt (blk_lt (g := gb201) (o := .cells #[.int .i64 x202000_2, .int .i64 x202001_2] 32 (0, 0)) (by (with_reducible repeat (first | refine blk_drewN ?_ _ | refine blk_drew ?_ | refine blk_alloc ?_ _)); exact BK201.out)) : gb226 ≠ gb201)); clear HO_9; clear BK201; clear HB; have HO_9 := n0_; have BK201 := n1_; have HB := n2_; have BK226 := n3_; have GW226 := n4_; have GE226 := n5_; have NB201_226 := n6_; have NB226_201 := n7_; clear n0_ n1_ n2_ n3_ n4_ n5_ n6_ n7_; clear hb hbox hg; have hnb69 := NB226_201.out; have hnc69 := NB201_226.out; have hcz70_0 : w68.cell? ⟨gb226, 0, none⟩ = some (.int .i64 0) := (blk_cell BK226.out 0).trans rfl; have hcz70_1 : w68.cell? ⟨gb226, 1, none⟩ = some (.int .i64 0) := (blk_cell BK226.out 1).trans rfl; have hfz70_0 := blk_frozen BK226.out 0; have hfz70_1 := blk_frozen BK226.out 1))
                                      have n0_ : Aside0 (Kd.R (Kd.int .u8) 5 ((w68.setCell ⟨gb226, 0, none⟩ (.int .i64 t224)).setCell ⟨gb226, 1, none⟩ (.int .i64 t225)) w.heap.size (fun _ => True) u9 x9_2) := ⟨by (with_reducible repeat (first | apply Kd.R_alloc | apply Kd.R_drewN | apply Kd.R_drew)); exact Kd.R_mono (Kd.R_far (p := ⟨gb226, 1, none⟩) (Kd.R_far (p := ⟨gb226, 0, none⟩) (Kd.R_types HO_9.out BK226.out (by decide)) (fun _ hk => hk.2) (.int .i64 t224)) (fun _ hk => hk.2) (.int .i64 t225)) (fun _ hk => trivial)⟩
                                      have n1_ : Aside0 (((w68.setCell ⟨gb226, 0, none⟩ (.int .i64 t224)).setCell ⟨gb226, 1, none⟩ (.int .i64 t225)).heap[gb201]? = some (.cells #[.int .i64 x202000_2, .int .i64 x202001_2] 32 (0, 0))) := ⟨by (with_reducible repeat (first | refine blk_drewN ?_ _ | refine blk_drew ?_ | refine blk_alloc ?_ _)); refine blk_far ?_ NB201_226.out _; (with_reducible repeat (first | refine blk_drewN ?_ _ | refine blk_drew ?_ | refine blk_alloc ?_ _)); refine blk_far ?_ NB201_226.out _; (with_reducible repeat (first | refine blk_drewN ?_ _ | refine blk_drew ?_ | refine blk_alloc ?_ _)); exact BK201.out⟩
                                      have n2_ : Aside0 (((w68.setCell ⟨gb226, 0, none⟩ (.int .i64 t224)).setCell ⟨gb226, 1, none⟩ (.int .i64 t225)).heap[gb226]? = some (.cells #[.int .i64 t224, .int .i64 t225] 32 (0, 0))) := ⟨by (with_reducible repeat (first | refine blk_drewN ?_ _ | refine blk_drew ?_ | refine blk_alloc ?_ _)); refine blk_put (cs := #[.int .i64 t224, .int .i64 0]) ?_ 1 _ rfl; (with_reducible repeat (first | refine blk_drewN ?_ _ | refine blk_drew ?_ | refine blk_alloc ?_ _)); refine blk_put (cs := #[.int .i64 0, .int .i64 0]) ?_ 0 _ rfl; (with_reducible repeat (first | refine blk_drewN ?_ _ | refine blk_drew ?_ | refine blk_alloc ?_ _)); exact BK226.out⟩
                                      have n3_ : Aside0 (Below w.heap.size w ((w68.setCell ⟨gb226, 0, none⟩ (.int .i64 t224)).setCell ⟨gb226, 1, none⟩ (.int .i64 t225))) := ⟨by repeat (first | (with_reducible first | exact HB.out | apply below_alloc | apply pw_below_drewN | apply below_drew1 | refine below_set ?_ GE201.out | refine below_set ?_ GE226.out) | exact HB.out)⟩
                                      (try clear HO_9)
                                      (try clear BK201)
                                      (try clear BK226)
                                      (try clear HB)
                                      generalize ((w68.setCell ⟨gb226, 0, none⟩ (.int .i64 t224)).setCell ⟨gb226, 1, none⟩ (.int .i64 t225)) = w71 at n0_ n1_ n2_ n3_ ⊢
                                      have HO_9 := n0_
                                      have BK201 := n1_
                                      have BK226 := n2_
                                      have HB := n3_
                                      clear n0_ n1_ n2_ n3_
                                      have n0_ := Aside0.mk (Kd.R_drew HO_9.out)
                                      have n1_ := Aside0.mk (blk_drew BK201.out)
                                      have n2_ := Aside0.mk (blk_drew BK226.out)
                                      have n3_ := Aside0.mk (below_drew1 HB.out)
                                      clear HO_9
                                      clear BK201
                                      clear BK226
                                      clear HB
                                      have HO_9 := n0_
                                      have BK201 := n1_
                                      have BK226 := n2_
                                      have HB := n3_
                                      clear n0_ n1_ n2_ n3_
                                      refine start_ (n := 4) (S := fun w' => w'.cell? ⟨gb226, 0, none⟩ = some (.int .i64 t224) ∧ w'.cell? ⟨gb226, 1, none⟩ = some (.int .i64 t225)) (ds := []) #[false, false, false, false] (by kernel_rfl) rfl rfl ⟨(blk_cell BK226.out 0).trans rfl, (blk_cell BK226.out 1).trans rfl⟩ (fun hHeld => ?_)
                                      generalize w71.drew = w72 at HO_9 BK201 BK226 HB hHeld ⊢
                                      refine pure_ (i := 1) (N := some 6) (v := ?_) (a' := ?_) #[false, true, false, false] rfl rfl (by kernel_rfl) (fun _ _ _ h => h) (Or.inl ⟨by rfl, ?_⟩) ?_ ?_
                                      rotate_left
                                      · intro w'
                                        go_simp
                                        with_reducible rfl
                                      rotate_left
                                      · simp only [Act.put, List.setIfInBounds_toArray, List.set_cons_zero, List.set_cons_succ, i64_w, i32_w]
                                        rfl
                                      refine pure_ (i := 2) (N := some 7) (v := ?_) (a' := ?_) #[false, true, true, false] rfl rfl (by kernel_rfl) (fun _ _ _ h => h) (Or.inl ⟨by rfl, ?_⟩) ?_ ?_
                                      rotate_left
                                      · intro w'
                                        go_simp
                                        with_reducible rfl
                                      rotate_left
                                      · simp only [Act.put, List.setIfInBounds_toArray, List.set_cons_zero, List.set_cons_succ, i64_w, i32_w]
                                        rfl
                                      refine take_ (i := 0) (N := some 134) (v := ?_) (a' := ?_) #[true, true, true, false] rfl rfl (by kernel_rfl) (fun _ _ _ h => h) (Or.inl ⟨by rfl, ?_⟩) hHeld ?_ ?_
                                      rotate_left
                                      · rintro w' ⟨s0, s1⟩
                                        go_simp
                                        with_reducible rfl
                                      rotate_left
                                      · simp only [Act.put, List.setIfInBounds_toArray, List.set_cons_zero, List.set_cons_succ, i64_w, i32_w]
                                        rfl
                                      refine one_ (i := 3) (N := none) #[true, true, true, true] rfl rfl (by kernel_rfl) (by decide) (fun K hK => ?_)
                                      have hs73 : w72.cell? ⟨gb201, 0, none⟩ = some (.int .i64 x202000_2) := (blk_cell BK201.out 0).trans rfl
                                      have hfs73 := blk_frozen BK201.out 0
                                      have hns73_1 := NB226_201.out
                                      have hms73_1 := NB201_226.out
                                      have hs74 : w72.cell? ⟨gb201, 1, none⟩ = some (.int .i64 x202001_2) := (blk_cell BK201.out 1).trans rfl
                                      have hfs74 := blk_frozen BK201.out 1
                                      have hns74_1 := NB226_201.out
                                      have hms74_1 := NB201_226.out
                                      refine skip_ (w1 := ?_) (by rfl) rfl ?_ ?_
                                      rotate_left
                                      · go_simp
                                        rfl
                                      refine hK.out _ _ ⟨((cell_far (p := ⟨gb201, _, none⟩) NB226_201.out _).trans (((cell_far (p := ⟨gb201, _, none⟩) NB226_201.out _).trans (hHeld.1)))), ((cell_far (p := ⟨gb201, _, none⟩) NB226_201.out _).trans (((cell_far (p := ⟨gb201, _, none⟩) NB226_201.out _).trans (hHeld.2))))⟩ (fun hHeld => ?_)
                                      clear hK K
                                      refine done_ (by kernel_rfl) ?_
                                      try go_wp2
                                      refine bodyPost_ret (results_list (rs := [.tmp 6, .tmp 7, .cell 8 32]) rfl (by simp) (.tmp (.tmp (.cell gb201 32 #[.int .i64 t224, .int .i64 t225] (0, 0) _ rfl (by (with_reducible repeat (first | refine blk_drewN ?_ _ | refine blk_drew ?_ | refine blk_alloc ?_ _)); refine blk_put (cs := #[.int .i64 t224, .int .i64 x202001_2]) ?_ 1 _ rfl; (with_reducible repeat (first | refine blk_drewN ?_ _ | refine blk_drew ?_ | refine blk_alloc ?_ _)); refine blk_put (cs := #[.int .i64 x202000_2, .int .i64 x202001_2]) ?_ 0 _ rfl; (with_reducible repeat (first | refine blk_drewN ?_ _ | refine blk_drew ?_ | refine blk_alloc ?_ _)); exact BK201.out) Try.underlying32 rfl (by kernel_rfl) .nil)))) rfl ?_
                                      exact ⟨by first | rfl | (simp [errW_none, errW_some] <;> rfl) | (simp [*, errW_none, errW_some] <;> rfl), by repeat (first | (with_reducible first | exact HB.out | apply below_alloc | apply pw_below_drewN | apply below_drew1 | refine below_set ?_ GE201.out | refine below_set ?_ GE226.out) | exact HB.out)⟩
                                  · replace c57 := Bool.eq_false_iff.mpr c57
                                    subst c57
                                    have H1 : (if 0 ≤ x10_2 then (if x10_2 < (a1.size : Int) then (if x9_2.length < 140737488355328 then (targumref17_Double.l0 kj52 a0 a1 a2 (x9_2 ++ [bt a1 x10_2]) (wrap64 (x10_2 + 1))) else (none)) else (none)) else (none)) = some (r1, r2, r3, r4) := by rw [if_neg (show ¬ (false = true) by decide)] at H; exact H
                                    clear H
                                    have H := H1
                                    clear H1
                                    by_cases c75 : 0 ≤ x10_2
                                    · rw [if_pos c75] at H
                                      have c75b0 : decide (0 ≤ x10_2) = true := decide_eq_true c75
                                      clear c75
                                      by_cases c76 : x10_2 < (a1.size : Int)
                                      · rw [if_pos c76] at H
                                        have c76b0 : decide (x10_2 < (a1.size : Int)) = true := decide_eq_true c76
                                        clear c76
                                        by_cases c78 : x9_2.length < 140737488355328
                                        · rw [if_pos c78] at H
                                          have LMc78 := Aside0.mk c78
                                          clear c78
                                          obtain ⟨y231, hy231⟩ : ∃ y_ : List Int, y_ = (x9_2 ++ [bt a1 x10_2]) := ⟨_, rfl⟩
                                          replace H : (targumref17_Double.l0 kj52 a0 a1 a2 y231 (wrap64 (x10_2 + 1))) = some (r1, r2, r3, r4) := by first | (rw [hy231]; with_reducible exact H) | (have H2_ := (Option.bind_some _ _).symm.trans H; rw [hy231]; with_reducible exact H2_) | (have H2_ := (Option.bind_some _ _).symm.trans H; with_reducible exact H2_) | with_reducible exact H | (rw [hy231]; exact H) | exact H
                                          have Ny231 := Aside0.mk hy231
                                          clear hy231
                                          have H' := Aside0.mk H
                                          clear H
                                          have p77 : 0 ≤ (x10_2 : Int) := of_decide_eq_true (by first | (with_reducible assumption) | assumption)
                                          have q77 : x10_2 < (a1.size : Int) := of_decide_eq_true (by first | (with_reducible assumption) | assumption)
                                          have hx77 := bt_at a1 x10_2
                                          replace p77 := eq_true p77
                                          replace q77 := eq_true q77
                                          go_wp2_with (first | ((with_reducible refine gate_builtin (b := .append) (xs := #[.tmp 41, .tmp 45]) rfl ?_); (try (refine gate_guard (by rfl) ?_; dsimp only)); at_builtin; refine Kd.R_append (Kd.int .u8) (w0 := w) w.heap.size rfl (.tmp 41) (.tmp 45) 22 5 (.int .u8 0) 1 rfl Try.underlying22 info5 rfl (by decide) (by omega) u9 x9_2 (bt a1 x10_2) [.int .u8 (bt a1 x10_2)] (fun _ => True) (fun _ => False) rfl rfl ?aP (fun _ hk => hk.elim) ?aF ?aO ?aB ?aS ?aL ?_; (case aP => exact rfl); (case aB => exact (by repeat (first | (with_reducible first | exact HB.out | apply below_alloc | apply pw_below_drewN | apply below_drew1 | refine below_set ?_ GE201.out) | exact HB.out))); (case aF => exact (fun _ _ => trivial)); (case aO => exact (by (with_reducible repeat (first | apply Kd.R_alloc | apply Kd.R_drewN | apply Kd.R_drew)); exact HO_9.out)); (case aS => exact (below_size (by repeat (first | (with_reducible first | exact HB.out | apply below_alloc | apply pw_below_drewN | apply below_drew1 | refine below_set ?_ GE201.out) | exact HB.out)))); (case aL => have := LMc78.out; omega); intro v232 w79 ho hb hg hat; rw [← Ny231.out] at ho; have n0_ := Aside0.mk (blk_grown (g := gb201) (o := .cells #[.int .i64 x202000_2, .int .i64 x202001_2] 32 (0, 0)) (by (with_reducible repeat (first | refine blk_drewN ?_ _ | refine blk_drew ?_ | refine blk_alloc ?_ _)); exact BK201.out) hg (Kd.R_ne HO_9.out BK201.out (by decide))); have n1_ := Aside0.mk (hb); have n2_ := Aside0.mk (ho); clear BK201; clear HB; clear HO_9; have BK201 := n0_; have HB := n1_; have HO233 := n2_; clear n0_ n1_ n2_; clear ho hb hg hat))
                                          go_roundg kj52
                                          case measure => have := HJ3.out; have := HK2.out; have := HJ18.out; have := HJ52.out; omega
                                          case rel => exact ⟨(y231), (wrap64 (x10_2 + 1)), (x202000_2), (x202001_2), (by first | rfl | (simp; done) | (simp [*]; done)), H', ⟨by have := HJ3.out; have := HK2.out; have := HJ18.out; have := HJ52.out; omega⟩, ⟨by (with_reducible repeat (first | apply Kd.R_alloc | apply Kd.R_drewN | apply Kd.R_drew)); exact HO233.out⟩, ⟨by (with_reducible repeat (first | refine blk_drewN ?_ _ | refine blk_drew ?_ | refine blk_alloc ?_ _)); exact BK201.out⟩, ⟨by repeat (first | (with_reducible first | exact HB.out | apply below_alloc | apply pw_below_drewN | apply below_drew1 | refine below_set ?_ GE201.out) | exact HB.out)⟩⟩
                                        · rw [if_neg c78] at H
                                          exact absurd H (by simp)
                                      · rw [if_neg c76] at H
                                        exact absurd H (by simp)
                                    · rw [if_neg c75] at H
                                      exact absurd H (by simp)
                          · rw [if_neg c42] at H
                            exact absurd H (by simp)
                        · rw [if_neg c41] at H
                          exact absurd H (by simp)
              · rw [if_neg c14] at H
                exact absurd H (by simp)
            · rw [if_neg c13] at H
              have c13b0 : decide (x10_2 < (a1.size : Int)) = false := decide_eq_false c13
              clear c13
              simp only [Option.some.injEq, Prod.mk.injEq] at H
              obtain ⟨rfl, rfl, rfl, rfl⟩ := H
              have hcz80_0 : wr.cell? ⟨gb201, 0, none⟩ = some (.int .i64 x202000_2) := (blk_cell BK201.out 0).trans rfl
              have hcz80_1 : wr.cell? ⟨gb201, 1, none⟩ = some (.int .i64 x202001_2) := (blk_cell BK201.out 1).trans rfl
              have hfz80_0 := blk_frozen BK201.out 0
              have hfz80_1 := blk_frozen BK201.out 1
              go_wp2
              refine bodyPost_ret (results_list (rs := [.tmp 6, .tmp 7, .cell 8 32]) rfl (by simp) (.tmp (.tmp (.cell gb201 32 #[.int .i64 11, .int .i64 a2] (0, 0) _ rfl (by (with_reducible repeat (first | refine blk_drewN ?_ _ | refine blk_drew ?_ | refine blk_alloc ?_ _)); refine blk_put (cs := #[.int .i64 11, .int .i64 x202001_2]) ?_ 1 _ rfl; (with_reducible repeat (first | refine blk_drewN ?_ _ | refine blk_drew ?_ | refine blk_alloc ?_ _)); refine blk_put (cs := #[.int .i64 x202000_2, .int .i64 x202001_2]) ?_ 0 _ rfl; (with_reducible repeat (first | refine blk_drewN ?_ _ | refine blk_drew ?_ | refine blk_alloc ?_ _)); exact BK201.out) Try.underlying32 rfl (by kernel_rfl) .nil)))) rfl ?_
              exact ⟨by first | rfl | (simp [errW_none, errW_some] <;> rfl) | (simp [*, errW_none, errW_some] <;> rfl), by repeat (first | (with_reducible first | exact HB.out | apply below_alloc | apply pw_below_drewN | apply below_drew1 | refine below_set ?_ GE201.out) | exact HB.out)⟩

end Go.Proofs.Ytgbnbjajaaggkaa.Q
