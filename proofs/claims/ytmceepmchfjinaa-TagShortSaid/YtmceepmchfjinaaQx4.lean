-- Written by hookprint.py (a program of this project, over the kit's printer). Not trusted: Lean checks it.
import Derived.Test.YtmceepmchfjinaaQx0
import Derived.Test.YtmceepmchfjinaaQx3
namespace Go.Proofs.Ytmceepmchfjinaa.Q
open Go.RowKit Go.Proofs.YtmceepmchfjinaaW.PrintWords Go.Proofs.YtmceepmchfjinaaW.PrintLast Go.Proofs.YtmceepmchfjinaaW.PrintMore
attribute [local go_sem] max2_int min2_int max_two min_two max_three min_three max_four min_four   -- for this text's walks alone
set_option linter.unusedVariables false
set_option linter.unusedSimpArgs false

/-! ### targumref12_Read: function 10 -/
mutual
def targumref12_Read.j0 : Nat → ByteArray → Int → Bool → Option (Bool × ByteArray × ByteArray × Int × Bool)
  | 0, _, _, _ => none
  | k + 1, x0, x1, x25 => if x25 = true then (some (false, (⟨#[]⟩ : ByteArray), (⟨#[]⟩ : ByteArray), 0, false)) else (if (wrap64 (x1 + 1)) < (x0.size : Int) then (if 0 ≤ (wrap64 (x1 + 1)) then (targumref12_Read.j1 k x0 x1 (wrap64 (x1 + 1)) ((bt x0 (wrap64 (x1 + 1))) == 60)) else (none)) else (targumref12_Read.j1 k x0 x1 (wrap64 (x1 + 1)) false))
def targumref12_Read.j1 : Nat → ByteArray → Int → Int → Bool → Option (Bool × ByteArray × ByteArray × Int × Bool)
  | 0, _, _, _, _ => none
  | k + 1, x0, x1, x7, x38 => if x38 = true then (targumref12_Read.l0 k x0 x7 (wrap64 (x7 + 1))) else ((targumref12_Word.f k x0 x7).bind fun t141 => (if (wrap64 (x7 + t141)) < (x0.size : Int) then (if 0 ≤ (wrap64 (x7 + t141)) then (targumref12_Read.j3 k x0 x1 x7 x7 t141 ((bt x0 (wrap64 (x7 + t141))) == 33)) else (none)) else (targumref12_Read.j3 k x0 x1 x7 x7 t141 false)))
def targumref12_Read.l0 : Nat → ByteArray → Int → Int → Option (Bool × ByteArray × ByteArray × Int × Bool)
  | 0, _, _, _ => none
  | k + 1, x0, x7, x8 => if x8 < (x0.size : Int) then (if 0 ≤ x8 then ((targumref12_Sign.f k (bt x0 x8)).bind fun t140 => (if t140 = true then (targumref12_Read.l0 k x0 x7 (wrap64 (x8 + 1))) else (if x8 = (wrap64 (x7 + 1)) then (some (false, (⟨#[]⟩ : ByteArray), (⟨#[]⟩ : ByteArray), 0, false)) else (if x8 = (x0.size : Int) then (some (false, (⟨#[]⟩ : ByteArray), (⟨#[]⟩ : ByteArray), 0, false)) else (if (bt x0 x8) = 62 then (if 0 ≤ (wrap64 (x7 + 1)) then (if (wrap64 (x7 + 1)) ≤ x8 then (if x8 ≤ (x0.size : Int) then (some (true, (⟨#[]⟩ : ByteArray), x0.extract ((wrap64 (x7 + 1)) : Int).toNat (x8 : Int).toNat, wrap64 (x8 + 1), true)) else (none)) else (none)) else (none)) else (some (false, (⟨#[]⟩ : ByteArray), (⟨#[]⟩ : ByteArray), 0, false))))))) else (none)) else (if x8 = (wrap64 (x7 + 1)) then (some (false, (⟨#[]⟩ : ByteArray), (⟨#[]⟩ : ByteArray), 0, false)) else (if x8 = (x0.size : Int) then (some (false, (⟨#[]⟩ : ByteArray), (⟨#[]⟩ : ByteArray), 0, false)) else (if 0 ≤ x8 then (none) else (none))))
def targumref12_Read.j3 : Nat → ByteArray → Int → Int → Int → Int → Bool → Option (Bool × ByteArray × ByteArray × Int × Bool)
  | 0, _, _, _, _, _, _ => none
  | k + 1, x0, x1, x7, x9, x10, x95 => if x95 = true then (targumref12_Read.j4 k x0 x1 x7 (wrap64 ((wrap64 (x7 + x10)) + 1))) else (targumref12_Read.j4 k x0 x1 x7 x9)
def targumref12_Read.j4 : Nat → ByteArray → Int → Int → Int → Option (Bool × ByteArray × ByteArray × Int × Bool)
  | 0, _, _, _, _ => none
  | k + 1, x0, x1, x7, x9 => targumref12_Read.l1 k x0 x1 x7 x9 x9
def targumref12_Read.l1 : Nat → ByteArray → Int → Int → Int → Int → Option (Bool × ByteArray × ByteArray × Int × Bool)
  | 0, _, _, _, _, _ => none
  | k + 1, x0, x1, x7, x9, x11 => if x11 < (x0.size : Int) then (if 0 ≤ x11 then ((targumref12_Short.f k (bt x0 x11)).bind fun t142 => (if t142 = true then (targumref12_Read.l1 k x0 x1 x7 x9 (wrap64 (x11 + 1))) else (if x9 > x7 then (if x11 = x9 then (some (false, (⟨#[]⟩ : ByteArray), (⟨#[]⟩ : ByteArray), 0, false)) else (if 0 ≤ x1 then (if x1 ≤ x9 then (if x9 ≤ (x0.size : Int) then (if 0 ≤ x9 then (if x9 ≤ x11 then (if x11 ≤ (x0.size : Int) then (some (false, x0.extract (x1 : Int).toNat (x9 : Int).toNat, x0.extract (x9 : Int).toNat (x11 : Int).toNat, x11, true)) else (none)) else (none)) else (none)) else (none)) else (none)) else (none))) else (if 0 ≤ x1 then (if x1 ≤ x9 then (if x9 ≤ (x0.size : Int) then (if 0 ≤ x9 then (if x9 ≤ x11 then (if x11 ≤ (x0.size : Int) then (some (false, x0.extract (x1 : Int).toNat (x9 : Int).toNat, x0.extract (x9 : Int).toNat (x11 : Int).toNat, x11, true)) else (none)) else (none)) else (none)) else (none)) else (none)) else (none))))) else (none)) else (if x9 > x7 then (if x11 = x9 then (some (false, (⟨#[]⟩ : ByteArray), (⟨#[]⟩ : ByteArray), 0, false)) else (if 0 ≤ x1 then (if x1 ≤ x9 then (if x9 ≤ (x0.size : Int) then (if 0 ≤ x9 then (if x9 ≤ x11 then (if x11 ≤ (x0.size : Int) then (some (false, x0.extract (x1 : Int).toNat (x9 : Int).toNat, x0.extract (x9 : Int).toNat (x11 : Int).toNat, x11, true)) else (none)) else (none)) else (none)) else (none)) else (none)) else (none))) else (if 0 ≤ x1 then (if x1 ≤ x9 then (if x9 ≤ (x0.size : Int) then (if 0 ≤ x9 then (if x9 ≤ x11 then (if x11 ≤ (x0.size : Int) then (some (false, x0.extract (x1 : Int).toNat (x9 : Int).toNat, x0.extract (x9 : Int).toNat (x11 : Int).toNat, x11, true)) else (none)) else (none)) else (none)) else (none)) else (none)) else (none)))
end
def targumref12_Read.f (k : Nat) (a0 : ByteArray) (a1 : Int) : Option (Bool × ByteArray × ByteArray × Int × Bool) := if a1 < 0 then (targumref12_Read.j0 k a0 a1 true) else (if a1 ≥ (a0.size : Int) then (targumref12_Read.j0 k a0 a1 true) else (if 0 ≤ a1 then (if a1 < (a0.size : Int) then (targumref12_Read.j0 k a0 a1 ((bt a0 a1) != 33)) else (none)) else (none)))
theorem targumref12_Read.mono_l : ∀ k, (∀ y0 y1 y2, LeO (targumref12_Read.j0 k y0 y1 y2) (targumref12_Read.j0 (k + 1) y0 y1 y2)) ∧ (∀ y0 y1 y2 y3, LeO (targumref12_Read.j1 k y0 y1 y2 y3) (targumref12_Read.j1 (k + 1) y0 y1 y2 y3)) ∧ (∀ y0 y1 y2, LeO (targumref12_Read.l0 k y0 y1 y2) (targumref12_Read.l0 (k + 1) y0 y1 y2)) ∧ (∀ y0 y1 y2 y3 y4 y5, LeO (targumref12_Read.j3 k y0 y1 y2 y3 y4 y5) (targumref12_Read.j3 (k + 1) y0 y1 y2 y3 y4 y5)) ∧ (∀ y0 y1 y2 y3, LeO (targumref12_Read.j4 k y0 y1 y2 y3) (targumref12_Read.j4 (k + 1) y0 y1 y2 y3)) ∧ (∀ y0 y1 y2 y3 y4, LeO (targumref12_Read.l1 k y0 y1 y2 y3 y4) (targumref12_Read.l1 (k + 1) y0 y1 y2 y3 y4))
  | 0 => ⟨fun _ _ _ r h => by simp [targumref12_Read.j0] at h, fun _ _ _ _ r h => by simp [targumref12_Read.j1] at h, fun _ _ _ r h => by simp [targumref12_Read.l0] at h, fun _ _ _ _ _ _ r h => by simp [targumref12_Read.j3] at h, fun _ _ _ _ r h => by simp [targumref12_Read.j4] at h, fun _ _ _ _ _ r h => by simp [targumref12_Read.l1] at h⟩
  | k + 1 => by
    obtain ⟨ih0, ih1, ih2, ih3, ih4, ih5⟩ := targumref12_Read.mono_l k
    refine ⟨?_, ?_, ?_, ?_, ?_, ?_⟩
    · intro y0 y1 y2
      unfold targumref12_Read.j0
      repeat' first
      | (with_reducible exact ih0 _ _ _)
      | (with_reducible exact ih1 _ _ _ _)
      | (with_reducible exact ih2 _ _ _)
      | (with_reducible exact ih3 _ _ _ _ _ _)
      | (with_reducible exact ih4 _ _ _ _)
      | (with_reducible exact ih5 _ _ _ _ _)
      | (with_reducible exact targumref12_Short.mono _ _)
      | (with_reducible exact targumref12_Sign.mono _ _)
      | (with_reducible exact targumref12_Word.mono _ _ _)
      | (with_reducible exact LeO.refl _)
      | (with_reducible exact LeO.none _)
      | (with_reducible refine LeO.ite ?_ ?_)
      | (with_reducible refine LeO.bind ?_ (fun _ => ?_))
      | exact ih0 _ _ _
      | exact ih1 _ _ _ _
      | exact ih2 _ _ _
      | exact ih3 _ _ _ _ _ _
      | exact ih4 _ _ _ _
      | exact ih5 _ _ _ _ _
      | exact targumref12_Short.mono _ _
      | exact targumref12_Sign.mono _ _
      | exact targumref12_Word.mono _ _ _
      | exact LeO.none _
      | refine LeO.ite ?_ ?_
      | refine LeO.bind ?_ (fun _ => ?_)
    · intro y0 y1 y2 y3
      unfold targumref12_Read.j1
      repeat' first
      | (with_reducible exact ih0 _ _ _)
      | (with_reducible exact ih1 _ _ _ _)
      | (with_reducible exact ih2 _ _ _)
      | (with_reducible exact ih3 _ _ _ _ _ _)
      | (with_reducible exact ih4 _ _ _ _)
      | (with_reducible exact ih5 _ _ _ _ _)
      | (with_reducible exact targumref12_Short.mono _ _)
      | (with_reducible exact targumref12_Sign.mono _ _)
      | (with_reducible exact targumref12_Word.mono _ _ _)
      | (with_reducible exact LeO.refl _)
      | (with_reducible exact LeO.none _)
      | (with_reducible refine LeO.ite ?_ ?_)
      | (with_reducible refine LeO.bind ?_ (fun _ => ?_))
      | exact ih0 _ _ _
      | exact ih1 _ _ _ _
      | exact ih2 _ _ _
      | exact ih3 _ _ _ _ _ _
      | exact ih4 _ _ _ _
      | exact ih5 _ _ _ _ _
      | exact targumref12_Short.mono _ _
      | exact targumref12_Sign.mono _ _
      | exact targumref12_Word.mono _ _ _
      | exact LeO.none _
      | refine LeO.ite ?_ ?_
      | refine LeO.bind ?_ (fun _ => ?_)
    · intro y0 y1 y2
      unfold targumref12_Read.l0
      repeat' first
      | (with_reducible exact ih0 _ _ _)
      | (with_reducible exact ih1 _ _ _ _)
      | (with_reducible exact ih2 _ _ _)
      | (with_reducible exact ih3 _ _ _ _ _ _)
      | (with_reducible exact ih4 _ _ _ _)
      | (with_reducible exact ih5 _ _ _ _ _)
      | (with_reducible exact targumref12_Short.mono _ _)
      | (with_reducible exact targumref12_Sign.mono _ _)
      | (with_reducible exact targumref12_Word.mono _ _ _)
      | (with_reducible exact LeO.refl _)
      | (with_reducible exact LeO.none _)
      | (with_reducible refine LeO.ite ?_ ?_)
      | (with_reducible refine LeO.bind ?_ (fun _ => ?_))
      | exact ih0 _ _ _
      | exact ih1 _ _ _ _
      | exact ih2 _ _ _
      | exact ih3 _ _ _ _ _ _
      | exact ih4 _ _ _ _
      | exact ih5 _ _ _ _ _
      | exact targumref12_Short.mono _ _
      | exact targumref12_Sign.mono _ _
      | exact targumref12_Word.mono _ _ _
      | exact LeO.none _
      | refine LeO.ite ?_ ?_
      | refine LeO.bind ?_ (fun _ => ?_)
    · intro y0 y1 y2 y3 y4 y5
      unfold targumref12_Read.j3
      repeat' first
      | (with_reducible exact ih0 _ _ _)
      | (with_reducible exact ih1 _ _ _ _)
      | (with_reducible exact ih2 _ _ _)
      | (with_reducible exact ih3 _ _ _ _ _ _)
      | (with_reducible exact ih4 _ _ _ _)
      | (with_reducible exact ih5 _ _ _ _ _)
      | (with_reducible exact targumref12_Short.mono _ _)
      | (with_reducible exact targumref12_Sign.mono _ _)
      | (with_reducible exact targumref12_Word.mono _ _ _)
      | (with_reducible exact LeO.refl _)
      | (with_reducible exact LeO.none _)
      | (with_reducible refine LeO.ite ?_ ?_)
      | (with_reducible refine LeO.bind ?_ (fun _ => ?_))
      | exact ih0 _ _ _
      | exact ih1 _ _ _ _
      | exact ih2 _ _ _
      | exact ih3 _ _ _ _ _ _
      | exact ih4 _ _ _ _
      | exact ih5 _ _ _ _ _
      | exact targumref12_Short.mono _ _
      | exact targumref12_Sign.mono _ _
      | exact targumref12_Word.mono _ _ _
      | exact LeO.none _
      | refine LeO.ite ?_ ?_
      | refine LeO.bind ?_ (fun _ => ?_)
    · intro y0 y1 y2 y3
      unfold targumref12_Read.j4
      repeat' first
      | (with_reducible exact ih0 _ _ _)
      | (with_reducible exact ih1 _ _ _ _)
      | (with_reducible exact ih2 _ _ _)
      | (with_reducible exact ih3 _ _ _ _ _ _)
      | (with_reducible exact ih4 _ _ _ _)
      | (with_reducible exact ih5 _ _ _ _ _)
      | (with_reducible exact targumref12_Short.mono _ _)
      | (with_reducible exact targumref12_Sign.mono _ _)
      | (with_reducible exact targumref12_Word.mono _ _ _)
      | (with_reducible exact LeO.refl _)
      | (with_reducible exact LeO.none _)
      | (with_reducible refine LeO.ite ?_ ?_)
      | (with_reducible refine LeO.bind ?_ (fun _ => ?_))
      | exact ih0 _ _ _
      | exact ih1 _ _ _ _
      | exact ih2 _ _ _
      | exact ih3 _ _ _ _ _ _
      | exact ih4 _ _ _ _
      | exact ih5 _ _ _ _ _
      | exact targumref12_Short.mono _ _
      | exact targumref12_Sign.mono _ _
      | exact targumref12_Word.mono _ _ _
      | exact LeO.none _
      | refine LeO.ite ?_ ?_
      | refine LeO.bind ?_ (fun _ => ?_)
    · intro y0 y1 y2 y3 y4
      unfold targumref12_Read.l1
      repeat' first
      | (with_reducible exact ih0 _ _ _)
      | (with_reducible exact ih1 _ _ _ _)
      | (with_reducible exact ih2 _ _ _)
      | (with_reducible exact ih3 _ _ _ _ _ _)
      | (with_reducible exact ih4 _ _ _ _)
      | (with_reducible exact ih5 _ _ _ _ _)
      | (with_reducible exact targumref12_Short.mono _ _)
      | (with_reducible exact targumref12_Sign.mono _ _)
      | (with_reducible exact targumref12_Word.mono _ _ _)
      | (with_reducible exact LeO.refl _)
      | (with_reducible exact LeO.none _)
      | (with_reducible refine LeO.ite ?_ ?_)
      | (with_reducible refine LeO.bind ?_ (fun _ => ?_))
      | exact ih0 _ _ _
      | exact ih1 _ _ _ _
      | exact ih2 _ _ _
      | exact ih3 _ _ _ _ _ _
      | exact ih4 _ _ _ _
      | exact ih5 _ _ _ _ _
      | exact targumref12_Short.mono _ _
      | exact targumref12_Sign.mono _ _
      | exact targumref12_Word.mono _ _ _
      | exact LeO.none _
      | refine LeO.ite ?_ ?_
      | refine LeO.bind ?_ (fun _ => ?_)
theorem targumref12_Read.mono : ∀ a0 a1 k, LeO (targumref12_Read.f k a0 a1) (targumref12_Read.f (k + 1) a0 a1) := by
  intro a0 a1 k
  obtain ⟨ih0, ih1, ih2, ih3, ih4, ih5⟩ := targumref12_Read.mono_l k
  unfold targumref12_Read.f
  repeat' first
      | (with_reducible exact ih0 _ _ _)
      | (with_reducible exact ih1 _ _ _ _)
      | (with_reducible exact ih2 _ _ _)
      | (with_reducible exact ih3 _ _ _ _ _ _)
      | (with_reducible exact ih4 _ _ _ _)
      | (with_reducible exact ih5 _ _ _ _ _)
      | (with_reducible exact targumref12_Short.mono _ _)
      | (with_reducible exact targumref12_Sign.mono _ _)
      | (with_reducible exact targumref12_Word.mono _ _ _)
      | (with_reducible exact LeO.refl _)
      | (with_reducible exact LeO.none _)
      | (with_reducible refine LeO.ite ?_ ?_)
      | (with_reducible refine LeO.bind ?_ (fun _ => ?_))
      | exact ih0 _ _ _
      | exact ih1 _ _ _ _
      | exact ih2 _ _ _
      | exact ih3 _ _ _ _ _ _
      | exact ih4 _ _ _ _
      | exact ih5 _ _ _ _ _
      | exact targumref12_Short.mono _ _
      | exact targumref12_Sign.mono _ _
      | exact targumref12_Word.mono _ _ _
      | exact LeO.none _
      | refine LeO.ite ?_ ?_
      | refine LeO.bind ?_ (fun _ => ?_)
def targumref12_Read.T20 : Bool × List (List Nat × List Nat) := (true, [([], []), ([], []), ([], []), ([0, 1, 2], [0, 1, 2]), ([], []), ([], []), ([], []), ([4, 5, 6], [4, 5, 6]), ([3, 7], [3, 7]), ([], []), ([8, 0, 1, 2, 3, 4, 5, 6, 7, 8], [8]), ([9, 10, 0, 1, 2, 3, 4, 5, 6, 7, 8, 9, 10], [9]), ([11, 0, 1, 2, 3, 4, 5, 6, 7, 8, 9, 10, 11], [])])
def targumref12_Read.B20 : List Nat := [0, 0, 0, 7, 0, 0, 0, 112, 255, 0, 511, 2047, 4095]
theorem targumref12_Read.tab20 : rtab .any (opsOf Try.f10 20) = targumref12_Read.T20 := by kernel_rfl
theorem targumref12_Read.bits20 : waitsOk targumref12_Read.T20.2 targumref12_Read.B20 = true := by kernel_rfl
set_option maxHeartbeats 8000000 in
set_option maxRecDepth 100000 in
theorem targumref12_Read.calls (k : Nat) (a0 : ByteArray) (a1 : Int) (r1 : Bool) (r2 : ByteArray) (r3 : ByteArray) (r4 : Int) (r5 : Bool) (w : World) (h : targumref12_Read.f k a0 a1 = some (r1, r2, r3, r4, r5)) :
    Calls Try.prog 10 #[.string a0, .int .i64 a1] w fun e w' => e = .returned (.tuple #[.agg #[.bool r1, .string r2, .string r3], .int .i64 r4, .bool r5]) ∧ Below w.heap.size w w' := by
  have hu23 := Try.underlying23
  have HB := Aside0.mk (Below.refl w.heap.size w)
  have H : (if a1 < 0 then (targumref12_Read.j0 k a0 a1 true) else (if a1 ≥ (a0.size : Int) then (targumref12_Read.j0 k a0 a1 true) else (if 0 ≤ a1 then (if a1 < (a0.size : Int) then (targumref12_Read.j0 k a0 a1 ((bt a0 a1) != 33)) else (none)) else (none)))) = some (r1, r2, r3, r4, r5) := h
  clear h
  have HC3 := Aside0.mk H
  clear H
  go_enter Try.func10, Try.ntmps10
  go_upto_region 1 with (first | ((with_reducible refine gate_dst (N := 4) rfl ?_); (try (refine gate_guard (by rfl) ?_; dsimp only)); refine box_event ?hg (N := 4) ?hd (cs := #[.bool false, .string (⟨#[]⟩ : ByteArray), .string (⟨#[]⟩ : ByteArray)]) (t := 23) ?hr ?_; (case hd => rfl); (case hg => rfl); (case hr => first | (go_simp; done) | (go_simp; rfl)); intro gb139 hg w4 hbox hb; have n0_ := Aside0.mk (below_step (by repeat (first | (with_reducible first | exact HB.out | apply below_alloc | apply pw_below_drewN | apply below_drew1) | exact HB.out)) hb); have n1_ := Aside0.mk (hbox); have n2_ := Aside0.mk ((by rw [hg]; exact (below_size (by repeat (first | (with_reducible first | exact HB.out | apply below_alloc | apply pw_below_drewN | apply below_drew1) | exact HB.out))) : w.heap.size ≤ gb139)); have n3_ := Aside0.mk ((by rw [hg]; exact (below_size (by repeat (first | (with_reducible first | exact HB.out | apply below_alloc | apply pw_below_drewN | apply below_drew1) | exact HB.out))) : w.heap.size ≤ gb139)); clear HB; have HB := n0_; have BK139 := n1_; have GW139 := n2_; have GE139 := n3_; clear n0_ n1_ n2_ n3_; clear hb hbox hg))
  (try simp only [Act.put, List.setIfInBounds_toArray, List.set_cons_zero, List.set_cons_succ])
  go_cut [25] (fun v25 wc => ∃ (kq : Nat) (x25_2 : Bool), v25 = .bool x25_2 ∧ Aside0 (targumref12_Read.j0 kq a0 a1 x25_2 = some (r1, r2, r3, r4, r5)) ∧ Aside0 (kq ≤ k) ∧ Aside0 (wc.heap[gb139]? = some (.cells #[.bool false, .string (⟨#[]⟩ : ByteArray), .string (⟨#[]⟩ : ByteArray)] 23 (0, 0))) ∧ Aside0 (Below w.heap.size w wc))
  case first =>
    have H := HC3.out
    clear HC3
    by_cases c5 : a1 < 0
    · rw [if_pos c5] at H
      have c5b0 : decide (a1 < 0) = true := decide_eq_true c5
      clear c5
      (first | rw [c5b0] | (simp only [i64_w, i32_w]; rw [c5b0]) | skip)
      have H' := Aside0.mk H
      clear H
      go_wp2
      go_meet
      case rel => exact ⟨_, (true), (by first | rfl | (simp; done) | (simp [*]; done)), H', ⟨by first | omega | exact Nat.le_refl _⟩, ⟨by (with_reducible repeat (first | refine blk_drewN ?_ _ | refine blk_drew ?_ | refine blk_alloc ?_ _)); exact BK139.out⟩, ⟨by repeat (first | (with_reducible first | exact HB.out | apply below_alloc | apply pw_below_drewN | apply below_drew1 | refine below_set ?_ GE139.out) | exact HB.out)⟩⟩
    · rw [if_neg c5] at H
      have c5b0 : decide (a1 < 0) = false := decide_eq_false c5
      clear c5
      (first | rw [c5b0] | (simp only [i64_w, i32_w]; rw [c5b0]) | skip)
      by_cases c6 : a1 ≥ (a0.size : Int)
      · rw [if_pos c6] at H
        have c6b0 : decide ((a0.size : Int) ≤ a1) = true := decide_eq_true c6
        clear c6
        have H' := Aside0.mk H
        clear H
        go_wp2
        go_meet
        case rel => exact ⟨_, (true), (by first | rfl | (simp; done) | (simp [*]; done)), H', ⟨by first | omega | exact Nat.le_refl _⟩, ⟨by (with_reducible repeat (first | refine blk_drewN ?_ _ | refine blk_drew ?_ | refine blk_alloc ?_ _)); exact BK139.out⟩, ⟨by repeat (first | (with_reducible first | exact HB.out | apply below_alloc | apply pw_below_drewN | apply below_drew1 | refine below_set ?_ GE139.out) | exact HB.out)⟩⟩
      · rw [if_neg c6] at H
        have c6b0 : decide ((a0.size : Int) ≤ a1) = false := decide_eq_false c6
        clear c6
        by_cases c7 : 0 ≤ a1
        · rw [if_pos c7] at H
          have c7b0 : decide (0 ≤ a1) = true := decide_eq_true c7
          clear c7
          by_cases c8 : a1 < (a0.size : Int)
          · rw [if_pos c8] at H
            have c8b0 : decide (a1 < (a0.size : Int)) = true := decide_eq_true c8
            clear c8
            have H' := Aside0.mk H
            clear H
            have p9 : 0 ≤ (a1 : Int) := of_decide_eq_true (by first | (with_reducible assumption) | assumption)
            have q9 : a1 < (a0.size : Int) := of_decide_eq_true (by first | (with_reducible assumption) | assumption)
            have hx9 := bt_at a0 a1
            replace p9 := eq_true p9
            replace q9 := eq_true q9
            go_wp2
            go_meet
            case rel => exact ⟨_, (((bt a0 a1) != 33)), (by first | rfl | (simp; done) | (simp [*]; done)), H', ⟨by first | omega | exact Nat.le_refl _⟩, ⟨by (with_reducible repeat (first | refine blk_drewN ?_ _ | refine blk_drew ?_ | refine blk_alloc ?_ _)); exact BK139.out⟩, ⟨by repeat (first | (with_reducible first | exact HB.out | apply below_alloc | apply pw_below_drewN | apply below_drew1 | refine below_set ?_ GE139.out) | exact HB.out)⟩⟩
          · rw [if_neg c8] at H
            exact absurd H (by simp)
        · rw [if_neg c7] at H
          exact absurd H (by simp)
  case rest =>
    clear HC3
    try clear c1
    try clear p2
    try clear c5
    try clear c5b0
    try clear c6
    try clear c6b0
    try clear c7
    try clear c7b0
    try clear c8
    try clear c8b0
    try clear p9
    try clear q9
    try clear hx9
    try clear p9
    try clear q9
    obtain ⟨kq, x25_2, rfl, HA, HJ2, BK139, HB⟩ := hcut
    cases kq with
    | zero => exact absurd HA.out (by simp [targumref12_Read.j0])
    | succ kj2 =>
      have H := HA.out
      clear HA
      simp only [targumref12_Read.j0] at H
      by_cases c10 : x25_2 = true
      · subst c10
        have H1 : (some (false, (⟨#[]⟩ : ByteArray), (⟨#[]⟩ : ByteArray), 0, false)) = some (r1, r2, r3, r4, r5) := by rw [if_pos rfl] at H; exact H
        clear H
        have H := H1
        clear H1
        simp only [Option.some.injEq, Prod.mk.injEq] at H
        obtain ⟨rfl, rfl, rfl, rfl, rfl⟩ := H
        have hcz11_0 : wc.cell? ⟨gb139, 0, none⟩ = some (.bool false) := (blk_cell BK139.out 0).trans rfl
        have hcz11_1 : wc.cell? ⟨gb139, 1, none⟩ = some (.string (⟨#[]⟩ : ByteArray)) := (blk_cell BK139.out 1).trans rfl
        have hcz11_2 : wc.cell? ⟨gb139, 2, none⟩ = some (.string (⟨#[]⟩ : ByteArray)) := (blk_cell BK139.out 2).trans rfl
        have hfz11_0 := blk_frozen BK139.out 0
        have hfz11_1 := blk_frozen BK139.out 1
        have hfz11_2 := blk_frozen BK139.out 2
        go_wp2
        refine bodyPost_ret (results_ctt rfl _ _ gb139 23 #[.bool false, .string (⟨#[]⟩ : ByteArray), .string (⟨#[]⟩ : ByteArray)] (0, 0) _ rfl (by (with_reducible repeat (first | refine blk_drewN ?_ _ | refine blk_drew ?_ | refine blk_alloc ?_ _)); refine blk_put (cs := #[.bool false, .string (⟨#[]⟩ : ByteArray), .string (⟨#[]⟩ : ByteArray)]) ?_ 2 _ rfl; (with_reducible repeat (first | refine blk_drewN ?_ _ | refine blk_drew ?_ | refine blk_alloc ?_ _)); refine blk_put (cs := #[.bool false, .string (⟨#[]⟩ : ByteArray), .string (⟨#[]⟩ : ByteArray)]) ?_ 1 _ rfl; (with_reducible repeat (first | refine blk_drewN ?_ _ | refine blk_drew ?_ | refine blk_alloc ?_ _)); refine blk_put (cs := #[.bool false, .string (⟨#[]⟩ : ByteArray), .string (⟨#[]⟩ : ByteArray)]) ?_ 0 _ rfl; (with_reducible repeat (first | refine blk_drewN ?_ _ | refine blk_drew ?_ | refine blk_alloc ?_ _)); exact BK139.out) Try.underlying23 rfl (by kernel_rfl)) rfl ?_
        exact ⟨by first | rfl | (simp [errW_none, errW_some] <;> rfl) | (simp [*, errW_none, errW_some] <;> rfl), by repeat (first | (with_reducible first | exact HB.out | apply below_alloc | apply pw_below_drewN | apply below_drew1 | refine below_set ?_ GE139.out) | exact HB.out)⟩
      · replace c10 := Bool.eq_false_iff.mpr c10
        subst c10
        have H1 : (if (wrap64 (a1 + 1)) < (a0.size : Int) then (if 0 ≤ (wrap64 (a1 + 1)) then (targumref12_Read.j1 kj2 a0 a1 (wrap64 (a1 + 1)) ((bt a0 (wrap64 (a1 + 1))) == 60)) else (none)) else (targumref12_Read.j1 kj2 a0 a1 (wrap64 (a1 + 1)) false)) = some (r1, r2, r3, r4, r5) := by rw [if_neg (show ¬ (false = true) by decide)] at H; exact H
        clear H
        have H := H1
        clear H1
        have HC12 := Aside0.mk H
        clear H
        go_upto_region 4 with (fail)
        go_cut [38] (fun v38 wc => ∃ (kq : Nat) (x38_11 : Bool), v38 = .bool x38_11 ∧ Aside0 (targumref12_Read.j1 kq a0 a1 (wrap64 (a1 + 1)) x38_11 = some (r1, r2, r3, r4, r5)) ∧ Aside0 (kq ≤ kj2) ∧ Aside0 (wc.heap[gb139]? = some (.cells #[.bool false, .string (⟨#[]⟩ : ByteArray), .string (⟨#[]⟩ : ByteArray)] 23 (0, 0))) ∧ Aside0 (Below w.heap.size w wc))
        case first =>
          have H := HC12.out
          clear HC12
          by_cases c13 : (wrap64 (a1 + 1)) < (a0.size : Int)
          · rw [if_pos c13] at H
            have c13b0 : decide ((wrap64 (a1 + 1)) < (a0.size : Int)) = true := decide_eq_true c13
            (try (have c13b1 : decide (((a1 + 1)) < (a0.size : Int)) = true := (by have e_ : wrap64 (a1 + 1) = (a1 + 1) := (by unfold wrap64; omega); have h_ : decide ((wrap64 (a1 + 1)) < (a0.size : Int)) = true := decide_eq_true c13; rw [e_] at h_; exact h_)))
            clear c13
            (first | rw [c13b0] | (simp only [i64_w, i32_w]; rw [c13b0]) | skip)
            obtain ⟨ji14, hji14⟩ : ∃ j_ : Int, (wrap64 (a1 + 1)) = j_ := ⟨_, rfl⟩
            replace H : (if 0 ≤ (ji14) then (targumref12_Read.j1 kj2 a0 a1 ji14 ((bt a0 (ji14)) == 60)) else (none)) = some (r1, r2, r3, r4, r5) := by first | (rw [hji14] at H; exact H) | (simp only [hji14] at H ⊢; exact H)
            (try rw [hji14] at c13b0)
            (try rw [hji14] at c13b1)
            have hji14w : (IntKind.i64.wrap (a1 + 1)) = ji14 := (i64_w _).trans hji14
            by_cases c15 : 0 ≤ (ji14)
            · rw [if_pos c15] at H
              have c15b0 : decide (0 ≤ (ji14)) = true := decide_eq_true c15
              clear c15
              have H' := Aside0.mk H
              clear H
              have p16 : 0 ≤ ((ji14) : Int) := of_decide_eq_true (by first | (with_reducible assumption) | assumption)
              have q16 : (ji14) < (a0.size : Int) := of_decide_eq_true (by first | (with_reducible assumption) | assumption)
              have hx16 := bt_at a0 (ji14)
              replace p16 := eq_true p16
              replace q16 := eq_true q16
              go_wp2
              go_meet
              case rel => exact ⟨_, (((bt a0 (ji14)) == 60)), (by first | rfl | (simp; done) | (simp only [← hji14] <;> (first | rfl | simp)) | (simp [*]; done)), (by first | exact H' | (rw [hji14] at H'; exact H') | (rw [← hji14] at H'; exact H') | (rw [hji14]; exact H') | (rw [hji14] at H'; exact H')), ⟨by have := HJ2.out; first | omega | exact Nat.le_refl _⟩, ⟨by (with_reducible repeat (first | refine blk_drewN ?_ _ | refine blk_drew ?_ | refine blk_alloc ?_ _)); exact BK139.out⟩, ⟨by repeat (first | (with_reducible first | exact HB.out | apply below_alloc | apply pw_below_drewN | apply below_drew1 | refine below_set ?_ GE139.out) | exact HB.out)⟩⟩
            · rw [if_neg c15] at H
              exact absurd H (by simp)
          · rw [if_neg c13] at H
            have c13b0 : decide ((wrap64 (a1 + 1)) < (a0.size : Int)) = false := decide_eq_false c13
            (try (have c13b1 : decide (((a1 + 1)) < (a0.size : Int)) = false := (by have e_ : wrap64 (a1 + 1) = (a1 + 1) := (by unfold wrap64; omega); have h_ : decide ((wrap64 (a1 + 1)) < (a0.size : Int)) = false := decide_eq_false c13; rw [e_] at h_; exact h_)))
            clear c13
            (first | rw [c13b0] | (simp only [i64_w, i32_w]; rw [c13b0]) | skip)
            have H' := Aside0.mk H
            clear H
            go_wp2
            go_meet
            case rel => exact ⟨_, (false), (by first | rfl | (simp; done) | (simp [*]; done)), H', ⟨by have := HJ2.out; first | omega | exact Nat.le_refl _⟩, ⟨by (with_reducible repeat (first | refine blk_drewN ?_ _ | refine blk_drew ?_ | refine blk_alloc ?_ _)); exact BK139.out⟩, ⟨by repeat (first | (with_reducible first | exact HB.out | apply below_alloc | apply pw_below_drewN | apply below_drew1 | refine below_set ?_ GE139.out) | exact HB.out)⟩⟩
        case rest =>
          clear HC12
          try clear c1
          try clear p1
          try clear q1
          try clear hx1
          try clear p2
          try clear c5
          try clear c5b0
          try clear c6
          try clear c6b0
          try clear p6
          try clear c7
          try clear c7b0
          try clear c8
          try clear c8b0
          try clear p9
          try clear q9
          try clear hx9
          try clear c10
          try clear c13
          try clear c13b0
          try clear c13b1
          try clear c15
          try clear c15b0
          try clear p16
          try clear q16
          try clear hx16
          try clear hcz11_0
          try clear hcz11_1
          try clear hcz11_2
          try clear hfz11_0
          try clear hfz11_1
          try clear hfz11_2
          try clear p16
          try clear p2
          try clear p9
          try clear q16
          try clear q9
          obtain ⟨kq, x38_11, rfl, HA, HJ11, BK139, HB⟩ := hcut
          cases kq with
          | zero => exact absurd HA.out (by simp [targumref12_Read.j1])
          | succ kj11 =>
            have H := HA.out
            clear HA
            simp only [targumref12_Read.j1] at H
            by_cases c17 : x38_11 = true
            · subst c17
              have H1 : (targumref12_Read.l0 kj11 a0 (wrap64 (a1 + 1)) (wrap64 ((wrap64 (a1 + 1)) + 1))) = some (r1, r2, r3, r4, r5) := by rw [if_pos rfl] at H; exact H
              clear H
              have H := H1
              clear H1
              have H' := Aside0.mk H
              clear H
              go_wp2
              go_loopg [8] kj11 (fun kq v8 w' => ∃ (x8_3 : Int), v8 = .int .i64 x8_3 ∧ Aside0 (targumref12_Read.l0 kq a0 (wrap64 (a1 + 1)) x8_3 = some (r1, r2, r3, r4, r5)) ∧ Aside0 (kq ≤ kj11) ∧ Aside0 (w'.heap[gb139]? = some (.cells #[.bool false, .string (⟨#[]⟩ : ByteArray), .string (⟨#[]⟩ : ByteArray)] 23 (0, 0))) ∧ Aside0 (Below w.heap.size w w'))
              case atStart => exact ⟨(wrap64 ((wrap64 (a1 + 1)) + 1)), (by first | rfl | (simp; done) | (simp [*]; done)), H', ⟨Nat.le_refl _⟩, ⟨by (with_reducible repeat (first | refine blk_drewN ?_ _ | refine blk_drew ?_ | refine blk_alloc ?_ _)); exact BK139.out⟩, ⟨by repeat (first | (with_reducible first | exact HB.out | apply below_alloc | apply pw_below_drewN | apply below_drew1 | refine below_set ?_ GE139.out) | exact HB.out)⟩⟩
              case round =>
                clear H'
                try clear c1
                try clear p1
                try clear q1
                try clear hx1
                try clear p2
                try clear c5
                try clear c5b0
                try clear c6
                try clear c6b0
                try clear p6
                try clear c7
                try clear c7b0
                try clear c8
                try clear c8b0
                try clear p9
                try clear q9
                try clear hx9
                try clear c10
                try clear c13
                try clear c13b0
                try clear c13b1
                try clear c15
                try clear c15b0
                try clear p16
                try clear q16
                try clear hx16
                try clear c17
                try clear hcz11_0
                try clear hcz11_1
                try clear hcz11_2
                try clear hfz11_0
                try clear hfz11_1
                try clear hfz11_2
                try clear p1
                try clear p16
                try clear p2
                try clear p6
                try clear p9
                try clear q1
                try clear q16
                try clear q9
                obtain ⟨x8_3, rfl, HA, HK3, BK139, HB⟩ := hrel
                cases gk with
                | zero => exact absurd HA.out (by simp [targumref12_Read.l0])
                | succ k3 =>
                  have H := HA.out
                  clear HA
                  simp only [targumref12_Read.l0] at H
                  by_cases c18 : x8_3 < (a0.size : Int)
                  · rw [if_pos c18] at H
                    have c18b0 : decide (x8_3 < (a0.size : Int)) = true := decide_eq_true c18
                    clear c18
                    by_cases c19 : 0 ≤ x8_3
                    · rw [if_pos c19] at H
                      have c19b0 : decide (0 ≤ x8_3) = true := decide_eq_true c19
                      clear c19
                      replace H := Option.bind_eq_some_iff.mp H
                      obtain ⟨t140, A210, H⟩ := H
                      replace H : (if t140 = true then (targumref12_Read.l0 k3 a0 (wrap64 (a1 + 1)) (wrap64 (x8_3 + 1))) else (if x8_3 = (wrap64 ((wrap64 (a1 + 1)) + 1)) then (some (false, (⟨#[]⟩ : ByteArray), (⟨#[]⟩ : ByteArray), 0, false)) else (if x8_3 = (a0.size : Int) then (some (false, (⟨#[]⟩ : ByteArray), (⟨#[]⟩ : ByteArray), 0, false)) else (if (bt a0 x8_3) = 62 then (if 0 ≤ (wrap64 ((wrap64 (a1 + 1)) + 1)) then (if (wrap64 ((wrap64 (a1 + 1)) + 1)) ≤ x8_3 then (if x8_3 ≤ (a0.size : Int) then (some (true, (⟨#[]⟩ : ByteArray), a0.extract ((wrap64 ((wrap64 (a1 + 1)) + 1)) : Int).toNat (x8_3 : Int).toNat, wrap64 (x8_3 + 1), true)) else (none)) else (none)) else (none)) else (some (false, (⟨#[]⟩ : ByteArray), (⟨#[]⟩ : ByteArray), 0, false)))))) = some (r1, r2, r3, r4, r5) := H
                      have A21 := Aside0.mk A210
                      clear A210
                      by_cases c22 : t140 = true
                      · subst c22
                        have H1 : (targumref12_Read.l0 k3 a0 (wrap64 (a1 + 1)) (wrap64 (x8_3 + 1))) = some (r1, r2, r3, r4, r5) := by rw [if_pos rfl] at H; exact H
                        clear H
                        have H := H1
                        clear H1
                        have H' := Aside0.mk H
                        clear H
                        have p20 : 0 ≤ (x8_3 : Int) := of_decide_eq_true (by first | (with_reducible assumption) | assumption)
                        have q20 : x8_3 < (a0.size : Int) := of_decide_eq_true (by first | (with_reducible assumption) | assumption)
                        have hx20 := bt_at a0 x8_3
                        replace p20 := eq_true p20
                        replace q20 := eq_true q20
                        go_wp2_with (first | (go_at_call 24; (with_reducible refine (targumref12_Sign.calls k3 (bt a0 x8_3) true _ A21.out).mono ?_); rintro e w' ⟨rfl, ⟨nd, rfl⟩⟩))
                        go_roundg k3
                        case measure => have := HJ2.out; have := HJ11.out; have := HK3.out; omega
                        case rel => exact ⟨(wrap64 (x8_3 + 1)), (by first | rfl | (simp; done) | (simp [*]; done)), H', ⟨by have := HJ2.out; have := HJ11.out; have := HK3.out; omega⟩, ⟨by (with_reducible repeat (first | refine blk_drewN ?_ _ | refine blk_drew ?_ | refine blk_alloc ?_ _)); exact BK139.out⟩, ⟨by repeat (first | (with_reducible first | exact HB.out | apply below_alloc | apply pw_below_drewN | apply below_drew1 | refine below_set ?_ GE139.out) | exact HB.out)⟩⟩
                      · replace c22 := Bool.eq_false_iff.mpr c22
                        subst c22
                        have H1 : (if x8_3 = (wrap64 ((wrap64 (a1 + 1)) + 1)) then (some (false, (⟨#[]⟩ : ByteArray), (⟨#[]⟩ : ByteArray), 0, false)) else (if x8_3 = (a0.size : Int) then (some (false, (⟨#[]⟩ : ByteArray), (⟨#[]⟩ : ByteArray), 0, false)) else (if (bt a0 x8_3) = 62 then (if 0 ≤ (wrap64 ((wrap64 (a1 + 1)) + 1)) then (if (wrap64 ((wrap64 (a1 + 1)) + 1)) ≤ x8_3 then (if x8_3 ≤ (a0.size : Int) then (some (true, (⟨#[]⟩ : ByteArray), a0.extract ((wrap64 ((wrap64 (a1 + 1)) + 1)) : Int).toNat (x8_3 : Int).toNat, wrap64 (x8_3 + 1), true)) else (none)) else (none)) else (none)) else (some (false, (⟨#[]⟩ : ByteArray), (⟨#[]⟩ : ByteArray), 0, false))))) = some (r1, r2, r3, r4, r5) := by rw [if_neg (show ¬ (false = true) by decide)] at H; exact H
                        clear H
                        have H := H1
                        clear H1
                        by_cases c23 : x8_3 = (wrap64 ((wrap64 (a1 + 1)) + 1))
                        · rw [if_pos c23] at H
                          have c23b0 : (x8_3 == (wrap64 ((wrap64 (a1 + 1)) + 1))) = true := beq_iff_eq.mpr c23
                          have c23b1 : (x8_3 != (wrap64 ((wrap64 (a1 + 1)) + 1))) = false := bne_eq_false_iff_eq.mpr c23
                          clear c23
                          simp only [Option.some.injEq, Prod.mk.injEq] at H
                          obtain ⟨rfl, rfl, rfl, rfl, rfl⟩ := H
                          have p20 : 0 ≤ (x8_3 : Int) := of_decide_eq_true (by first | (with_reducible assumption) | assumption)
                          have q20 : x8_3 < (a0.size : Int) := of_decide_eq_true (by first | (with_reducible assumption) | assumption)
                          have hx20 := bt_at a0 x8_3
                          replace p20 := eq_true p20
                          replace q20 := eq_true q20
                          go_wp2_with (first | (go_at_call 24; (with_reducible refine (targumref12_Sign.calls k3 (bt a0 x8_3) false _ A21.out).mono ?_); rintro e w' ⟨rfl, ⟨nd, rfl⟩⟩; (try (rw [drewN_self wr]; generalize hq_ : World.drewN wr _ = wr; have n0_ : Aside0 (wr.heap[gb139]? = some (.cells #[.bool false, .string (⟨#[]⟩ : ByteArray), .string (⟨#[]⟩ : ByteArray)] 23 (0, 0))) := ⟨by rw [← hq_]; exact (by (with_reducible repeat (first | refine blk_drewN ?_ _ | refine blk_drew ?_ | refine blk_alloc ?_ _)); exact BK139.out)⟩; have n1_ : Aside0 (Below w.heap.size w wr) := ⟨by rw [← hq_]; exact (by repeat (first | (with_reducible first | exact HB.out | apply below_alloc | apply pw_below_drewN | apply below_drew1 | refine below_set ?_ GE139.out) | exact HB.out))⟩; clear BK139 HB hq_; have BK139 := n0_; have HB := n1_; clear n0_ n1_)); have hcz24_0 : wr.cell? ⟨gb139, 0, none⟩ = some (.bool false) := (blk_cell BK139.out 0).trans rfl; have hcz24_1 : wr.cell? ⟨gb139, 1, none⟩ = some (.string (⟨#[]⟩ : ByteArray)) := (blk_cell BK139.out 1).trans rfl; have hcz24_2 : wr.cell? ⟨gb139, 2, none⟩ = some (.string (⟨#[]⟩ : ByteArray)) := (blk_cell BK139.out 2).trans rfl; have hfz24_0 := blk_frozen BK139.out 0; have hfz24_1 := blk_frozen BK139.out 1; have hfz24_2 := blk_frozen BK139.out 2))
                          refine bodyPost_ret (results_ctt rfl _ _ gb139 23 #[.bool false, .string (⟨#[]⟩ : ByteArray), .string (⟨#[]⟩ : ByteArray)] (0, 0) _ rfl (by (with_reducible repeat (first | refine blk_drewN ?_ _ | refine blk_drew ?_ | refine blk_alloc ?_ _)); refine blk_put (cs := #[.bool false, .string (⟨#[]⟩ : ByteArray), .string (⟨#[]⟩ : ByteArray)]) ?_ 2 _ rfl; (with_reducible repeat (first | refine blk_drewN ?_ _ | refine blk_drew ?_ | refine blk_alloc ?_ _)); refine blk_put (cs := #[.bool false, .string (⟨#[]⟩ : ByteArray), .string (⟨#[]⟩ : ByteArray)]) ?_ 1 _ rfl; (with_reducible repeat (first | refine blk_drewN ?_ _ | refine blk_drew ?_ | refine blk_alloc ?_ _)); refine blk_put (cs := #[.bool false, .string (⟨#[]⟩ : ByteArray), .string (⟨#[]⟩ : ByteArray)]) ?_ 0 _ rfl; (with_reducible repeat (first | refine blk_drewN ?_ _ | refine blk_drew ?_ | refine blk_alloc ?_ _)); exact BK139.out) Try.underlying23 rfl (by kernel_rfl)) rfl ?_
                          exact ⟨by first | rfl | (simp [errW_none, errW_some] <;> rfl) | (simp [*, errW_none, errW_some] <;> rfl), by repeat (first | (with_reducible first | exact HB.out | apply below_alloc | apply pw_below_drewN | apply below_drew1 | refine below_set ?_ GE139.out) | exact HB.out)⟩
                        · rw [if_neg c23] at H
                          have c23b0 : (x8_3 == (wrap64 ((wrap64 (a1 + 1)) + 1))) = false := beq_eq_false_iff_ne.mpr c23
                          have c23b1 : (x8_3 != (wrap64 ((wrap64 (a1 + 1)) + 1))) = true := bne_iff_ne.mpr c23
                          by_cases c25 : x8_3 = (a0.size : Int)
                          · rw [if_pos c25] at H
                            have c25b0 : (x8_3 == (a0.size : Int)) = true := beq_iff_eq.mpr c25
                            have c25b1 : (x8_3 != (a0.size : Int)) = false := bne_eq_false_iff_eq.mpr c25
                            clear c25
                            simp only [Option.some.injEq, Prod.mk.injEq] at H
                            obtain ⟨rfl, rfl, rfl, rfl, rfl⟩ := H
                            have p20 : 0 ≤ (x8_3 : Int) := of_decide_eq_true (by first | (with_reducible assumption) | assumption)
                            have q20 : x8_3 < (a0.size : Int) := of_decide_eq_true (by first | (with_reducible assumption) | assumption)
                            have hx20 := bt_at a0 x8_3
                            replace p20 := eq_true p20
                            replace q20 := eq_true q20
                            go_wp2_with (first | (go_at_call 24; (with_reducible refine (targumref12_Sign.calls k3 (bt a0 x8_3) false _ A21.out).mono ?_); rintro e w' ⟨rfl, ⟨nd, rfl⟩⟩; (try (rw [drewN_self wr]; generalize hq_ : World.drewN wr _ = wr; have n0_ : Aside0 (wr.heap[gb139]? = some (.cells #[.bool false, .string (⟨#[]⟩ : ByteArray), .string (⟨#[]⟩ : ByteArray)] 23 (0, 0))) := ⟨by rw [← hq_]; exact (by (with_reducible repeat (first | refine blk_drewN ?_ _ | refine blk_drew ?_ | refine blk_alloc ?_ _)); exact BK139.out)⟩; have n1_ : Aside0 (Below w.heap.size w wr) := ⟨by rw [← hq_]; exact (by repeat (first | (with_reducible first | exact HB.out | apply below_alloc | apply pw_below_drewN | apply below_drew1 | refine below_set ?_ GE139.out) | exact HB.out))⟩; clear BK139 HB hq_; have BK139 := n0_; have HB := n1_; clear n0_ n1_)); have hcz26_0 : wr.cell? ⟨gb139, 0, none⟩ = some (.bool false) := (blk_cell BK139.out 0).trans rfl; have hcz26_1 : wr.cell? ⟨gb139, 1, none⟩ = some (.string (⟨#[]⟩ : ByteArray)) := (blk_cell BK139.out 1).trans rfl; have hcz26_2 : wr.cell? ⟨gb139, 2, none⟩ = some (.string (⟨#[]⟩ : ByteArray)) := (blk_cell BK139.out 2).trans rfl; have hfz26_0 := blk_frozen BK139.out 0; have hfz26_1 := blk_frozen BK139.out 1; have hfz26_2 := blk_frozen BK139.out 2))
                            refine bodyPost_ret (results_ctt rfl _ _ gb139 23 #[.bool false, .string (⟨#[]⟩ : ByteArray), .string (⟨#[]⟩ : ByteArray)] (0, 0) _ rfl (by (with_reducible repeat (first | refine blk_drewN ?_ _ | refine blk_drew ?_ | refine blk_alloc ?_ _)); refine blk_put (cs := #[.bool false, .string (⟨#[]⟩ : ByteArray), .string (⟨#[]⟩ : ByteArray)]) ?_ 2 _ rfl; (with_reducible repeat (first | refine blk_drewN ?_ _ | refine blk_drew ?_ | refine blk_alloc ?_ _)); refine blk_put (cs := #[.bool false, .string (⟨#[]⟩ : ByteArray), .string (⟨#[]⟩ : ByteArray)]) ?_ 1 _ rfl; (with_reducible repeat (first | refine blk_drewN ?_ _ | refine blk_drew ?_ | refine blk_alloc ?_ _)); refine blk_put (cs := #[.bool false, .string (⟨#[]⟩ : ByteArray), .string (⟨#[]⟩ : ByteArray)]) ?_ 0 _ rfl; (with_reducible repeat (first | refine blk_drewN ?_ _ | refine blk_drew ?_ | refine blk_alloc ?_ _)); exact BK139.out) Try.underlying23 rfl (by kernel_rfl)) rfl ?_
                            exact ⟨by first | rfl | (simp [errW_none, errW_some] <;> rfl) | (simp [*, errW_none, errW_some] <;> rfl), by repeat (first | (with_reducible first | exact HB.out | apply below_alloc | apply pw_below_drewN | apply below_drew1 | refine below_set ?_ GE139.out) | exact HB.out)⟩
                          · rw [if_neg c25] at H
                            have c25b0 : (x8_3 == (a0.size : Int)) = false := beq_eq_false_iff_ne.mpr c25
                            have c25b1 : (x8_3 != (a0.size : Int)) = true := bne_iff_ne.mpr c25
                            by_cases c28 : (bt a0 x8_3) = 62
                            · rw [if_pos c28] at H
                              have c28b0 : ((bt a0 x8_3) == 62) = true := beq_iff_eq.mpr c28
                              have c28b1 : ((bt a0 x8_3) != 62) = false := bne_eq_false_iff_eq.mpr c28
                              clear c28
                              obtain ⟨ji29, hji29⟩ : ∃ j_ : Int, (wrap64 ((wrap64 (a1 + 1)) + 1)) = j_ := ⟨_, rfl⟩
                              replace H : (if 0 ≤ (ji29) then (if (ji29) ≤ x8_3 then (if x8_3 ≤ (a0.size : Int) then (some (true, (⟨#[]⟩ : ByteArray), a0.extract ((ji29) : Int).toNat (x8_3 : Int).toNat, wrap64 (x8_3 + 1), true)) else (none)) else (none)) else (none)) = some (r1, r2, r3, r4, r5) := by first | (rw [hji29] at H; exact H) | (simp only [hji29] at H ⊢; exact H)
                              (try rw [hji29] at c23b0)
                              (try rw [hji29] at c23b1)
                              (try rw [hji29] at A21)
                              have hji29w : (IntKind.i64.wrap ((wrap64 (a1 + 1)) + 1)) = ji29 := (i64_w _).trans hji29
                              by_cases c30 : 0 ≤ (ji29)
                              · rw [if_pos c30] at H
                                have c30b0 := eq_true c30
                                have c30b1 : decide (0 ≤ (ji29)) = true := decide_eq_true c30
                                clear c30
                                by_cases c31 : (ji29) ≤ x8_3
                                · rw [if_pos c31] at H
                                  have c31b0 := eq_true c31
                                  have c31b1 : decide ((ji29) ≤ x8_3) = true := decide_eq_true c31
                                  clear c31
                                  by_cases c32 : x8_3 ≤ (a0.size : Int)
                                  · rw [if_pos c32] at H
                                    have c32b0 := eq_true c32
                                    have c32b1 : decide (x8_3 ≤ (a0.size : Int)) = true := decide_eq_true c32
                                    clear c32
                                    simp only [Option.some.injEq, Prod.mk.injEq] at H
                                    obtain ⟨rfl, rfl, rfl, rfl, rfl⟩ := H
                                    have p20 : 0 ≤ (x8_3 : Int) := of_decide_eq_true (by first | (with_reducible assumption) | assumption)
                                    have q20 : x8_3 < (a0.size : Int) := of_decide_eq_true (by first | (with_reducible assumption) | assumption)
                                    have hx20 := bt_at a0 x8_3
                                    replace p20 := eq_true p20
                                    replace q20 := eq_true q20
                                    go_wp2_with (first | (go_at_call 24; (with_reducible refine (targumref12_Sign.calls k3 (bt a0 x8_3) false _ A21.out).mono ?_); rintro e w' ⟨rfl, ⟨nd, rfl⟩⟩; (try (rw [drewN_self wr]; generalize hq_ : World.drewN wr _ = wr; have n0_ : Aside0 (wr.heap[gb139]? = some (.cells #[.bool false, .string (⟨#[]⟩ : ByteArray), .string (⟨#[]⟩ : ByteArray)] 23 (0, 0))) := ⟨by rw [← hq_]; exact (by (with_reducible repeat (first | refine blk_drewN ?_ _ | refine blk_drew ?_ | refine blk_alloc ?_ _)); exact BK139.out)⟩; have n1_ : Aside0 (Below w.heap.size w wr) := ⟨by rw [← hq_]; exact (by repeat (first | (with_reducible first | exact HB.out | apply below_alloc | apply pw_below_drewN | apply below_drew1 | refine below_set ?_ GE139.out) | exact HB.out))⟩; clear BK139 HB hq_; have BK139 := n0_; have HB := n1_; clear n0_ n1_)); have p27 : 0 ≤ (x8_3 : Int) := of_decide_eq_true (by first | (with_reducible assumption) | assumption); have q27 : x8_3 < (a0.size : Int) := of_decide_eq_true (by first | (with_reducible assumption) | assumption); have hx27 := bt_at a0 x8_3; replace p27 := eq_true p27; replace q27 := eq_true q27; have hcz33_0 : wr.cell? ⟨gb139, 0, none⟩ = some (.bool false) := (blk_cell BK139.out 0).trans rfl; have hcz33_1 : wr.cell? ⟨gb139, 1, none⟩ = some (.string (⟨#[]⟩ : ByteArray)) := (blk_cell BK139.out 1).trans rfl; have hcz33_2 : wr.cell? ⟨gb139, 2, none⟩ = some (.string (⟨#[]⟩ : ByteArray)) := (blk_cell BK139.out 2).trans rfl; have hfz33_0 := blk_frozen BK139.out 0; have hfz33_1 := blk_frozen BK139.out 1; have hfz33_2 := blk_frozen BK139.out 2))
                                    refine bodyPost_ret (results_ctt rfl _ _ gb139 23 #[.bool true, .string (⟨#[]⟩ : ByteArray), .string (a0.extract ((ji29) : Int).toNat (x8_3 : Int).toNat)] (0, 0) _ rfl (by (with_reducible repeat (first | refine blk_drewN ?_ _ | refine blk_drew ?_ | refine blk_alloc ?_ _)); refine blk_put (cs := #[.bool true, .string (⟨#[]⟩ : ByteArray), .string (⟨#[]⟩ : ByteArray)]) ?_ 2 _ rfl; (with_reducible repeat (first | refine blk_drewN ?_ _ | refine blk_drew ?_ | refine blk_alloc ?_ _)); refine blk_put (cs := #[.bool true, .string (⟨#[]⟩ : ByteArray), .string (⟨#[]⟩ : ByteArray)]) ?_ 1 _ rfl; (with_reducible repeat (first | refine blk_drewN ?_ _ | refine blk_drew ?_ | refine blk_alloc ?_ _)); refine blk_put (cs := #[.bool false, .string (⟨#[]⟩ : ByteArray), .string (⟨#[]⟩ : ByteArray)]) ?_ 0 _ rfl; (with_reducible repeat (first | refine blk_drewN ?_ _ | refine blk_drew ?_ | refine blk_alloc ?_ _)); exact BK139.out) Try.underlying23 rfl (by kernel_rfl)) rfl ?_
                                    exact ⟨by first | rfl | (simp [errW_none, errW_some] <;> rfl) | (simp only [← hji29]; first | rfl | (simp [errW_none, errW_some] <;> rfl)) | (simp [*, errW_none, errW_some] <;> rfl), by repeat (first | (with_reducible first | exact HB.out | apply below_alloc | apply pw_below_drewN | apply below_drew1 | refine below_set ?_ GE139.out) | exact HB.out)⟩
                                  · rw [if_neg c32] at H
                                    exact absurd H (by simp)
                                · rw [if_neg c31] at H
                                  exact absurd H (by simp)
                              · rw [if_neg c30] at H
                                exact absurd H (by simp)
                            · rw [if_neg c28] at H
                              have c28b0 : ((bt a0 x8_3) == 62) = false := beq_eq_false_iff_ne.mpr c28
                              have c28b1 : ((bt a0 x8_3) != 62) = true := bne_iff_ne.mpr c28
                              simp only [Option.some.injEq, Prod.mk.injEq] at H
                              obtain ⟨rfl, rfl, rfl, rfl, rfl⟩ := H
                              have p20 : 0 ≤ (x8_3 : Int) := of_decide_eq_true (by first | (with_reducible assumption) | assumption)
                              have q20 : x8_3 < (a0.size : Int) := of_decide_eq_true (by first | (with_reducible assumption) | assumption)
                              have hx20 := bt_at a0 x8_3
                              replace p20 := eq_true p20
                              replace q20 := eq_true q20
                              go_wp2_with (first | (go_at_call 24; (with_reducible refine (targumref12_Sign.calls k3 (bt a0 x8_3) false _ A21.out).mono ?_); rintro e w' ⟨rfl, ⟨nd, rfl⟩⟩; (try (rw [drewN_self wr]; generalize hq_ : World.drewN wr _ = wr; have n0_ : Aside0 (wr.heap[gb139]? = some (.cells #[.bool false, .string (⟨#[]⟩ : ByteArray), .string (⟨#[]⟩ : ByteArray)] 23 (0, 0))) := ⟨by rw [← hq_]; exact (by (with_reducible repeat (first | refine blk_drewN ?_ _ | refine blk_drew ?_ | refine blk_alloc ?_ _)); exact BK139.out)⟩; have n1_ : Aside0 (Below w.heap.size w wr) := ⟨by rw [← hq_]; exact (by repeat (first | (with_reducible first | exact HB.out | apply below_alloc | apply pw_below_drewN | apply below_drew1 | refine below_set ?_ GE139.out) | exact HB.out))⟩; clear BK139 HB hq_; have BK139 := n0_; have HB := n1_; clear n0_ n1_)); have p27 : 0 ≤ (x8_3 : Int) := of_decide_eq_true (by first | (with_reducible assumption) | assumption); have q27 : x8_3 < (a0.size : Int) := of_decide_eq_true (by first | (with_reducible assumption) | assumption); have hx27 := bt_at a0 x8_3; replace p27 := eq_true p27; replace q27 := eq_true q27; have hcz34_0 : wr.cell? ⟨gb139, 0, none⟩ = some (.bool false) := (blk_cell BK139.out 0).trans rfl; have hcz34_1 : wr.cell? ⟨gb139, 1, none⟩ = some (.string (⟨#[]⟩ : ByteArray)) := (blk_cell BK139.out 1).trans rfl; have hcz34_2 : wr.cell? ⟨gb139, 2, none⟩ = some (.string (⟨#[]⟩ : ByteArray)) := (blk_cell BK139.out 2).trans rfl; have hfz34_0 := blk_frozen BK139.out 0; have hfz34_1 := blk_frozen BK139.out 1; have hfz34_2 := blk_frozen BK139.out 2))
                              refine bodyPost_ret (results_ctt rfl _ _ gb139 23 #[.bool false, .string (⟨#[]⟩ : ByteArray), .string (⟨#[]⟩ : ByteArray)] (0, 0) _ rfl (by (with_reducible repeat (first | refine blk_drewN ?_ _ | refine blk_drew ?_ | refine blk_alloc ?_ _)); refine blk_put (cs := #[.bool false, .string (⟨#[]⟩ : ByteArray), .string (⟨#[]⟩ : ByteArray)]) ?_ 2 _ rfl; (with_reducible repeat (first | refine blk_drewN ?_ _ | refine blk_drew ?_ | refine blk_alloc ?_ _)); refine blk_put (cs := #[.bool false, .string (⟨#[]⟩ : ByteArray), .string (⟨#[]⟩ : ByteArray)]) ?_ 1 _ rfl; (with_reducible repeat (first | refine blk_drewN ?_ _ | refine blk_drew ?_ | refine blk_alloc ?_ _)); refine blk_put (cs := #[.bool false, .string (⟨#[]⟩ : ByteArray), .string (⟨#[]⟩ : ByteArray)]) ?_ 0 _ rfl; (with_reducible repeat (first | refine blk_drewN ?_ _ | refine blk_drew ?_ | refine blk_alloc ?_ _)); exact BK139.out) Try.underlying23 rfl (by kernel_rfl)) rfl ?_
                              exact ⟨by first | rfl | (simp [errW_none, errW_some] <;> rfl) | (simp [*, errW_none, errW_some] <;> rfl), by repeat (first | (with_reducible first | exact HB.out | apply below_alloc | apply pw_below_drewN | apply below_drew1 | refine below_set ?_ GE139.out) | exact HB.out)⟩
                    · rw [if_neg c19] at H
                      exact absurd H (by simp)
                  · rw [if_neg c18] at H
                    have c18b0 : decide (x8_3 < (a0.size : Int)) = false := decide_eq_false c18
                    clear c18
                    by_cases c35 : x8_3 = (wrap64 ((wrap64 (a1 + 1)) + 1))
                    · rw [if_pos c35] at H
                      have c35b0 : (x8_3 == (wrap64 ((wrap64 (a1 + 1)) + 1))) = true := beq_iff_eq.mpr c35
                      have c35b1 : (x8_3 != (wrap64 ((wrap64 (a1 + 1)) + 1))) = false := bne_eq_false_iff_eq.mpr c35
                      clear c35
                      simp only [Option.some.injEq, Prod.mk.injEq] at H
                      obtain ⟨rfl, rfl, rfl, rfl, rfl⟩ := H
                      have hcz36_0 : wr.cell? ⟨gb139, 0, none⟩ = some (.bool false) := (blk_cell BK139.out 0).trans rfl
                      have hcz36_1 : wr.cell? ⟨gb139, 1, none⟩ = some (.string (⟨#[]⟩ : ByteArray)) := (blk_cell BK139.out 1).trans rfl
                      have hcz36_2 : wr.cell? ⟨gb139, 2, none⟩ = some (.string (⟨#[]⟩ : ByteArray)) := (blk_cell BK139.out 2).trans rfl
                      have hfz36_0 := blk_frozen BK139.out 0
                      have hfz36_1 := blk_frozen BK139.out 1
                      have hfz36_2 := blk_frozen BK139.out 2
                      go_wp2
                      refine bodyPost_ret (results_ctt rfl _ _ gb139 23 #[.bool false, .string (⟨#[]⟩ : ByteArray), .string (⟨#[]⟩ : ByteArray)] (0, 0) _ rfl (by (with_reducible repeat (first | refine blk_drewN ?_ _ | refine blk_drew ?_ | refine blk_alloc ?_ _)); refine blk_put (cs := #[.bool false, .string (⟨#[]⟩ : ByteArray), .string (⟨#[]⟩ : ByteArray)]) ?_ 2 _ rfl; (with_reducible repeat (first | refine blk_drewN ?_ _ | refine blk_drew ?_ | refine blk_alloc ?_ _)); refine blk_put (cs := #[.bool false, .string (⟨#[]⟩ : ByteArray), .string (⟨#[]⟩ : ByteArray)]) ?_ 1 _ rfl; (with_reducible repeat (first | refine blk_drewN ?_ _ | refine blk_drew ?_ | refine blk_alloc ?_ _)); refine blk_put (cs := #[.bool false, .string (⟨#[]⟩ : ByteArray), .string (⟨#[]⟩ : ByteArray)]) ?_ 0 _ rfl; (with_reducible repeat (first | refine blk_drewN ?_ _ | refine blk_drew ?_ | refine blk_alloc ?_ _)); exact BK139.out) Try.underlying23 rfl (by kernel_rfl)) rfl ?_
                      exact ⟨by first | rfl | (simp [errW_none, errW_some] <;> rfl) | (simp [*, errW_none, errW_some] <;> rfl), by repeat (first | (with_reducible first | exact HB.out | apply below_alloc | apply pw_below_drewN | apply below_drew1 | refine below_set ?_ GE139.out) | exact HB.out)⟩
                    · rw [if_neg c35] at H
                      have c35b0 : (x8_3 == (wrap64 ((wrap64 (a1 + 1)) + 1))) = false := beq_eq_false_iff_ne.mpr c35
                      have c35b1 : (x8_3 != (wrap64 ((wrap64 (a1 + 1)) + 1))) = true := bne_iff_ne.mpr c35
                      by_cases c37 : x8_3 = (a0.size : Int)
                      · rw [if_pos c37] at H
                        have c37b0 : (x8_3 == (a0.size : Int)) = true := beq_iff_eq.mpr c37
                        have c37b1 : (x8_3 != (a0.size : Int)) = false := bne_eq_false_iff_eq.mpr c37
                        clear c37
                        simp only [Option.some.injEq, Prod.mk.injEq] at H
                        obtain ⟨rfl, rfl, rfl, rfl, rfl⟩ := H
                        have hcz38_0 : wr.cell? ⟨gb139, 0, none⟩ = some (.bool false) := (blk_cell BK139.out 0).trans rfl
                        have hcz38_1 : wr.cell? ⟨gb139, 1, none⟩ = some (.string (⟨#[]⟩ : ByteArray)) := (blk_cell BK139.out 1).trans rfl
                        have hcz38_2 : wr.cell? ⟨gb139, 2, none⟩ = some (.string (⟨#[]⟩ : ByteArray)) := (blk_cell BK139.out 2).trans rfl
                        have hfz38_0 := blk_frozen BK139.out 0
                        have hfz38_1 := blk_frozen BK139.out 1
                        have hfz38_2 := blk_frozen BK139.out 2
                        go_wp2
                        refine bodyPost_ret (results_ctt rfl _ _ gb139 23 #[.bool false, .string (⟨#[]⟩ : ByteArray), .string (⟨#[]⟩ : ByteArray)] (0, 0) _ rfl (by (with_reducible repeat (first | refine blk_drewN ?_ _ | refine blk_drew ?_ | refine blk_alloc ?_ _)); refine blk_put (cs := #[.bool false, .string (⟨#[]⟩ : ByteArray), .string (⟨#[]⟩ : ByteArray)]) ?_ 2 _ rfl; (with_reducible repeat (first | refine blk_drewN ?_ _ | refine blk_drew ?_ | refine blk_alloc ?_ _)); refine blk_put (cs := #[.bool false, .string (⟨#[]⟩ : ByteArray), .string (⟨#[]⟩ : ByteArray)]) ?_ 1 _ rfl; (with_reducible repeat (first | refine blk_drewN ?_ _ | refine blk_drew ?_ | refine blk_alloc ?_ _)); refine blk_put (cs := #[.bool false, .string (⟨#[]⟩ : ByteArray), .string (⟨#[]⟩ : ByteArray)]) ?_ 0 _ rfl; (with_reducible repeat (first | refine blk_drewN ?_ _ | refine blk_drew ?_ | refine blk_alloc ?_ _)); exact BK139.out) Try.underlying23 rfl (by kernel_rfl)) rfl ?_
                        exact ⟨by first | rfl | (simp [errW_none, errW_some] <;> rfl) | (simp [*, errW_none, errW_some] <;> rfl), by repeat (first | (with_reducible first | exact HB.out | apply below_alloc | apply pw_below_drewN | apply below_drew1 | refine below_set ?_ GE139.out) | exact HB.out)⟩
                      · rw [if_neg c37] at H
                        have c37b0 : (x8_3 == (a0.size : Int)) = false := beq_eq_false_iff_ne.mpr c37
                        have c37b1 : (x8_3 != (a0.size : Int)) = true := bne_iff_ne.mpr c37
                        by_cases c39 : 0 ≤ x8_3
                        · rw [if_pos c39] at H
                          exact absurd H (by simp)
                        · rw [if_neg c39] at H
                          exact absurd H (by simp)
            · replace c17 := Bool.eq_false_iff.mpr c17
              subst c17
              have H1 : ((targumref12_Word.f kj11 a0 (wrap64 (a1 + 1))).bind fun t141 => (if (wrap64 ((wrap64 (a1 + 1)) + t141)) < (a0.size : Int) then (if 0 ≤ (wrap64 ((wrap64 (a1 + 1)) + t141)) then (targumref12_Read.j3 kj11 a0 a1 (wrap64 (a1 + 1)) (wrap64 (a1 + 1)) t141 ((bt a0 (wrap64 ((wrap64 (a1 + 1)) + t141))) == 33)) else (none)) else (targumref12_Read.j3 kj11 a0 a1 (wrap64 (a1 + 1)) (wrap64 (a1 + 1)) t141 false))) = some (r1, r2, r3, r4, r5) := by rw [if_neg (show ¬ (false = true) by decide)] at H; exact H
              clear H
              have H := H1
              clear H1
              replace H := Option.bind_eq_some_iff.mp H
              obtain ⟨t141, A400, H⟩ := H
              replace H : (if (wrap64 ((wrap64 (a1 + 1)) + t141)) < (a0.size : Int) then (if 0 ≤ (wrap64 ((wrap64 (a1 + 1)) + t141)) then (targumref12_Read.j3 kj11 a0 a1 (wrap64 (a1 + 1)) (wrap64 (a1 + 1)) t141 ((bt a0 (wrap64 ((wrap64 (a1 + 1)) + t141))) == 33)) else (none)) else (targumref12_Read.j3 kj11 a0 a1 (wrap64 (a1 + 1)) (wrap64 (a1 + 1)) t141 false)) = some (r1, r2, r3, r4, r5) := H
              have A40 := Aside0.mk A400
              clear A400
              have HC41 := Aside0.mk H
              clear H
              go_upto_region 13 with (first | ((with_reducible refine gate_callee (f := 25) rfl ?_); refine goesL_ (some 81) rfl rfl Try.func25 (by kernel_rfl) rfl #[.string a0, .int .i64 (wrap64 (a1 + 1))] rfl (by (try simp only [List.map_toArray, List.map_cons, List.map_nil]); first | done | rfl | (simp only [List.length_drop, List.length_take]; rfl)) ?_; (with_reducible refine (targumref12_Word.calls kj11 a0 (wrap64 (a1 + 1)) t141 _ A40.out).mono ?_); rintro e w' ⟨rfl, ⟨nd, rfl⟩⟩; refine ⟨_, rfl, ?_⟩))
              (try simp only [Act.put, List.setIfInBounds_toArray, List.set_cons_zero, List.set_cons_succ])
              go_cut [95] (fun v95 wc => ∃ (kq : Nat) (x95_40 : Bool), v95 = .bool x95_40 ∧ Aside0 (targumref12_Read.j3 kq a0 a1 (wrap64 (a1 + 1)) (wrap64 (a1 + 1)) t141 x95_40 = some (r1, r2, r3, r4, r5)) ∧ Aside0 (kq ≤ kj11) ∧ Aside0 (wc.heap[gb139]? = some (.cells #[.bool false, .string (⟨#[]⟩ : ByteArray), .string (⟨#[]⟩ : ByteArray)] 23 (0, 0))) ∧ Aside0 (Below w.heap.size w wc))
              case first =>
                have H := HC41.out
                clear HC41
                by_cases c42 : (wrap64 ((wrap64 (a1 + 1)) + t141)) < (a0.size : Int)
                · rw [if_pos c42] at H
                  have c42b0 : decide ((wrap64 ((wrap64 (a1 + 1)) + t141)) < (a0.size : Int)) = true := decide_eq_true c42
                  clear c42
                  (first | rw [c42b0] | (simp only [i64_w, i32_w]; rw [c42b0]) | skip)
                  obtain ⟨ji43, hji43⟩ : ∃ j_ : Int, (wrap64 ((wrap64 (a1 + 1)) + t141)) = j_ := ⟨_, rfl⟩
                  replace H : (if 0 ≤ (ji43) then (targumref12_Read.j3 kj11 a0 a1 (wrap64 (a1 + 1)) (wrap64 (a1 + 1)) t141 ((bt a0 (ji43)) == 33)) else (none)) = some (r1, r2, r3, r4, r5) := by first | (rw [hji43] at H; exact H) | (simp only [hji43] at H ⊢; exact H)
                  (try rw [hji43] at c42b0)
                  have hji43w : (IntKind.i64.wrap ((wrap64 (a1 + 1)) + t141)) = ji43 := (i64_w _).trans hji43
                  by_cases c44 : 0 ≤ (ji43)
                  · rw [if_pos c44] at H
                    have c44b0 : decide (0 ≤ (ji43)) = true := decide_eq_true c44
                    clear c44
                    have H' := Aside0.mk H
                    clear H
                    have p45 : 0 ≤ ((ji43) : Int) := of_decide_eq_true (by first | (with_reducible assumption) | assumption)
                    have q45 : (ji43) < (a0.size : Int) := of_decide_eq_true (by first | (with_reducible assumption) | assumption)
                    have hx45 := bt_at a0 (ji43)
                    replace p45 := eq_true p45
                    replace q45 := eq_true q45
                    go_wp2
                    go_meet
                    case rel => exact ⟨_, (((bt a0 (ji43)) == 33)), (by first | rfl | (simp; done) | (simp only [← hji43] <;> (first | rfl | simp)) | (simp [*]; done)), (by first | exact H' | (rw [hji43] at H'; exact H') | (rw [← hji43] at H'; exact H') | (rw [hji43]; exact H') | (rw [hji43] at H'; exact H')), ⟨by have := HJ2.out; have := HJ11.out; first | omega | exact Nat.le_refl _⟩, ⟨by (with_reducible repeat (first | refine blk_drewN ?_ _ | refine blk_drew ?_ | refine blk_alloc ?_ _)); exact BK139.out⟩, ⟨by repeat (first | (with_reducible first | exact HB.out | apply below_alloc | apply pw_below_drewN | apply below_drew1 | refine below_set ?_ GE139.out) | exact HB.out)⟩⟩
                  · rw [if_neg c44] at H
                    exact absurd H (by simp)
                · rw [if_neg c42] at H
                  have c42b0 : decide ((wrap64 ((wrap64 (a1 + 1)) + t141)) < (a0.size : Int)) = false := decide_eq_false c42
                  clear c42
                  (first | rw [c42b0] | (simp only [i64_w, i32_w]; rw [c42b0]) | skip)
                  have H' := Aside0.mk H
                  clear H
                  go_wp2
                  go_meet
                  case rel => exact ⟨_, (false), (by first | rfl | (simp; done) | (simp [*]; done)), H', ⟨by have := HJ2.out; have := HJ11.out; first | omega | exact Nat.le_refl _⟩, ⟨by (with_reducible repeat (first | refine blk_drewN ?_ _ | refine blk_drew ?_ | refine blk_alloc ?_ _)); exact BK139.out⟩, ⟨by repeat (first | (with_reducible first | exact HB.out | apply below_alloc | apply pw_below_drewN | apply below_drew1 | refine below_set ?_ GE139.out) | exact HB.out)⟩⟩
              case rest =>
                clear HC41
                try clear c1
                try clear p1
                try clear q1
                try clear hx1
                try clear c2
                try clear p2
                try clear q2
                try clear hx2
                try clear c3
                try clear c4
                try clear p4
                try clear q4
                try clear hx4
                try clear c5
                try clear c5b0
                try clear c6
                try clear c6b0
                try clear p6
                try clear c7
                try clear c7b0
                try clear c8
                try clear c8b0
                try clear p9
                try clear q9
                try clear hx9
                try clear c10
                try clear c13
                try clear c13b0
                try clear c13b1
                try clear c15
                try clear c15b0
                try clear p16
                try clear q16
                try clear hx16
                try clear c17
                try clear c18
                try clear c18b0
                try clear c19
                try clear c19b0
                try clear p20
                try clear q20
                try clear hx20
                try clear c22
                try clear c23
                try clear c23b0
                try clear c23b1
                try clear c25
                try clear c25b0
                try clear c25b1
                try clear p27
                try clear q27
                try clear hx27
                try clear c28
                try clear c28b0
                try clear c28b1
                try clear c30
                try clear c30b0
                try clear c30b1
                try clear c31
                try clear c31b0
                try clear c31b1
                try clear c32
                try clear c32b0
                try clear c32b1
                try clear c35
                try clear c35b0
                try clear c35b1
                try clear c37
                try clear c37b0
                try clear c37b1
                try clear c39
                try clear c42
                try clear c42b0
                try clear c44
                try clear c44b0
                try clear p45
                try clear q45
                try clear hx45
                try clear hcz11_0
                try clear hcz11_1
                try clear hcz11_2
                try clear hcz24_0
                try clear hcz24_1
                try clear hcz24_2
                try clear hcz26_0
                try clear hcz26_1
                try clear hcz26_2
                try clear hcz33_0
                try clear hcz33_1
                try clear hcz33_2
                try clear hcz34_0
                try clear hcz34_1
                try clear hcz34_2
                try clear hcz36_0
                try clear hcz36_1
                try clear hcz36_2
                try clear hcz38_0
                try clear hcz38_1
                try clear hcz38_2
                try clear hfz11_0
                try clear hfz11_1
                try clear hfz11_2
                try clear hfz24_0
                try clear hfz24_1
                try clear hfz24_2
                try clear hfz26_0
                try clear hfz26_1
                try clear hfz26_2
                try clear hfz33_0
                try clear hfz33_1
                try clear hfz33_2
                try clear hfz34_0
                try clear hfz34_1
                try clear hfz34_2
                try clear hfz36_0
                try clear hfz36_1
                try clear hfz36_2
                try clear hfz38_0
                try clear hfz38_1
                try clear hfz38_2
                try clear p1
                try clear p16
                try clear p2
                try clear p20
                try clear p27
                try clear p45
                try clear p6
                try clear p9
                try clear q1
                try clear q16
                try clear q20
                try clear q27
                try clear q45
                try clear q9
                obtain ⟨kq, x95_40, rfl, HA, HJ40, BK139, HB⟩ := hcut
                cases kq with
                | zero => exact absurd HA.out (by simp [targumref12_Read.j3])
                | succ kj40 =>
                  have H := HA.out
                  clear HA
                  simp only [targumref12_Read.j3] at H
                  have HC46 := Aside0.mk H
                  clear H
                  go_upto_if 95 with (fail)
                  go_cut [9] (fun v9 wc => ∃ (kq : Nat) (x9_45 : Int), v9 = .int .i64 x9_45 ∧ Aside0 (targumref12_Read.j4 kq a0 a1 (wrap64 (a1 + 1)) x9_45 = some (r1, r2, r3, r4, r5)) ∧ Aside0 (kq ≤ kj40) ∧ Aside0 (wc.heap[gb139]? = some (.cells #[.bool false, .string (⟨#[]⟩ : ByteArray), .string (⟨#[]⟩ : ByteArray)] 23 (0, 0))) ∧ Aside0 (Below w.heap.size w wc))
                  case first =>
                    have H := HC46.out
                    clear HC46
                    by_cases c47 : x95_40 = true
                    · subst c47
                      have H1 : (targumref12_Read.j4 kj40 a0 a1 (wrap64 (a1 + 1)) (wrap64 ((wrap64 ((wrap64 (a1 + 1)) + t141)) + 1))) = some (r1, r2, r3, r4, r5) := by rw [if_pos rfl] at H; exact H
                      clear H
                      have H := H1
                      clear H1
                      have H' := Aside0.mk H
                      clear H
                      go_wp2
                      go_meet
                      case rel => exact ⟨_, (wrap64 ((wrap64 ((wrap64 (a1 + 1)) + t141)) + 1)), (by first | rfl | (simp; done) | (simp [*]; done)), H', ⟨by have := HJ2.out; have := HJ11.out; have := HJ40.out; first | omega | exact Nat.le_refl _⟩, ⟨by (with_reducible repeat (first | refine blk_drewN ?_ _ | refine blk_drew ?_ | refine blk_alloc ?_ _)); exact BK139.out⟩, ⟨by repeat (first | (with_reducible first | exact HB.out | apply below_alloc | apply pw_below_drewN | apply below_drew1 | refine below_set ?_ GE139.out) | exact HB.out)⟩⟩
                    · replace c47 := Bool.eq_false_iff.mpr c47
                      subst c47
                      have H1 : (targumref12_Read.j4 kj40 a0 a1 (wrap64 (a1 + 1)) (wrap64 (a1 + 1))) = some (r1, r2, r3, r4, r5) := by rw [if_neg (show ¬ (false = true) by decide)] at H; exact H
                      clear H
                      have H := H1
                      clear H1
                      have H' := Aside0.mk H
                      clear H
                      go_wp2
                      go_meet
                      case rel => exact ⟨_, ((wrap64 (a1 + 1))), (by first | rfl | (simp; done) | (simp [*]; done)), H', ⟨by have := HJ2.out; have := HJ11.out; have := HJ40.out; first | omega | exact Nat.le_refl _⟩, ⟨by (with_reducible repeat (first | refine blk_drewN ?_ _ | refine blk_drew ?_ | refine blk_alloc ?_ _)); exact BK139.out⟩, ⟨by repeat (first | (with_reducible first | exact HB.out | apply below_alloc | apply pw_below_drewN | apply below_drew1 | refine below_set ?_ GE139.out) | exact HB.out)⟩⟩
                  case rest =>
                    clear HC46
                    try clear c1
                    try clear p1
                    try clear q1
                    try clear hx1
                    try clear c2
                    try clear p2
                    try clear q2
                    try clear hx2
                    try clear c3
                    try clear c4
                    try clear p4
                    try clear q4
                    try clear hx4
                    try clear c5
                    try clear c5b0
                    try clear c6
                    try clear c6b0
                    try clear p6
                    try clear c7
                    try clear c7b0
                    try clear c8
                    try clear c8b0
                    try clear p9
                    try clear q9
                    try clear hx9
                    try clear c10
                    try clear c13
                    try clear c13b0
                    try clear c13b1
                    try clear c15
                    try clear c15b0
                    try clear p16
                    try clear q16
                    try clear hx16
                    try clear c17
                    try clear c18
                    try clear c18b0
                    try clear c19
                    try clear c19b0
                    try clear p20
                    try clear q20
                    try clear hx20
                    try clear c22
                    try clear c23
                    try clear c23b0
                    try clear c23b1
                    try clear c25
                    try clear c25b0
                    try clear c25b1
                    try clear p27
                    try clear q27
                    try clear hx27
                    try clear c28
                    try clear c28b0
                    try clear c28b1
                    try clear c30
                    try clear c30b0
                    try clear c30b1
                    try clear c31
                    try clear c31b0
                    try clear c31b1
                    try clear c32
                    try clear c32b0
                    try clear c32b1
                    try clear c35
                    try clear c35b0
                    try clear c35b1
                    try clear c37
                    try clear c37b0
                    try clear c37b1
                    try clear c39
                    try clear c42
                    try clear c42b0
                    try clear c44
                    try clear c44b0
                    try clear p45
                    try clear q45
                    try clear hx45
                    try clear c47
                    try clear hcz11_0
                    try clear hcz11_1
                    try clear hcz11_2
                    try clear hcz24_0
                    try clear hcz24_1
                    try clear hcz24_2
                    try clear hcz26_0
                    try clear hcz26_1
                    try clear hcz26_2
                    try clear hcz33_0
                    try clear hcz33_1
                    try clear hcz33_2
                    try clear hcz34_0
                    try clear hcz34_1
                    try clear hcz34_2
                    try clear hcz36_0
                    try clear hcz36_1
                    try clear hcz36_2
                    try clear hcz38_0
                    try clear hcz38_1
                    try clear hcz38_2
                    try clear hfz11_0
                    try clear hfz11_1
                    try clear hfz11_2
                    try clear hfz24_0
                    try clear hfz24_1
                    try clear hfz24_2
                    try clear hfz26_0
                    try clear hfz26_1
                    try clear hfz26_2
                    try clear hfz33_0
                    try clear hfz33_1
                    try clear hfz33_2
                    try clear hfz34_0
                    try clear hfz34_1
                    try clear hfz34_2
                    try clear hfz36_0
                    try clear hfz36_1
                    try clear hfz36_2
                    try clear hfz38_0
                    try clear hfz38_1
                    try clear hfz38_2
                    try clear p1
                    try clear p16
                    try clear p2
                    try clear p20
                    try clear p27
                    try clear p4
                    try clear p45
                    try clear p6
                    try clear p9
                    try clear q1
                    try clear q16
                    try clear q2
                    try clear q20
                    try clear q27
                    try clear q4
                    try clear q45
                    try clear q9
                    obtain ⟨kq, x9_45, rfl, HA, HJ45, BK139, HB⟩ := hcut
                    cases kq with
                    | zero => exact absurd HA.out (by simp [targumref12_Read.j4])
                    | succ kj45 =>
                      have H := HA.out
                      clear HA
                      simp only [targumref12_Read.j4] at H
                      have H' := Aside0.mk H
                      clear H
                      go_wp2
                      go_loopg [11] kj45 (fun kq v11 w' => ∃ (x11_5 : Int), v11 = .int .i64 x11_5 ∧ Aside0 (targumref12_Read.l1 kq a0 a1 (wrap64 (a1 + 1)) x9_45 x11_5 = some (r1, r2, r3, r4, r5)) ∧ Aside0 (kq ≤ kj45) ∧ Aside0 (w'.heap[gb139]? = some (.cells #[.bool false, .string (⟨#[]⟩ : ByteArray), .string (⟨#[]⟩ : ByteArray)] 23 (0, 0))) ∧ Aside0 (Below w.heap.size w w'))
                      case atStart => exact ⟨(x9_45), (by first | rfl | (simp; done) | (simp [*]; done)), H', ⟨Nat.le_refl _⟩, ⟨by (with_reducible repeat (first | refine blk_drewN ?_ _ | refine blk_drew ?_ | refine blk_alloc ?_ _)); exact BK139.out⟩, ⟨by repeat (first | (with_reducible first | exact HB.out | apply below_alloc | apply pw_below_drewN | apply below_drew1 | refine below_set ?_ GE139.out) | exact HB.out)⟩⟩
                      case round =>
                        clear H'
                        try clear c1
                        try clear p1
                        try clear q1
                        try clear hx1
                        try clear c2
                        try clear p2
                        try clear q2
                        try clear hx2
                        try clear c3
                        try clear c4
                        try clear p4
                        try clear q4
                        try clear hx4
                        try clear c5
                        try clear c5b0
                        try clear c6
                        try clear c6b0
                        try clear p6
                        try clear c7
                        try clear c7b0
                        try clear c8
                        try clear c8b0
                        try clear p9
                        try clear q9
                        try clear hx9
                        try clear c10
                        try clear c13
                        try clear c13b0
                        try clear c13b1
                        try clear c15
                        try clear c15b0
                        try clear p16
                        try clear q16
                        try clear hx16
                        try clear c17
                        try clear c18
                        try clear c18b0
                        try clear c19
                        try clear c19b0
                        try clear p20
                        try clear q20
                        try clear hx20
                        try clear c22
                        try clear c23
                        try clear c23b0
                        try clear c23b1
                        try clear c25
                        try clear c25b0
                        try clear c25b1
                        try clear p27
                        try clear q27
                        try clear hx27
                        try clear c28
                        try clear c28b0
                        try clear c28b1
                        try clear c30
                        try clear c30b0
                        try clear c30b1
                        try clear c31
                        try clear c31b0
                        try clear c31b1
                        try clear c32
                        try clear c32b0
                        try clear c32b1
                        try clear c35
                        try clear c35b0
                        try clear c35b1
                        try clear c37
                        try clear c37b0
                        try clear c37b1
                        try clear c39
                        try clear c42
                        try clear c42b0
                        try clear c44
                        try clear c44b0
                        try clear p45
                        try clear q45
                        try clear hx45
                        try clear c47
                        try clear hcz11_0
                        try clear hcz11_1
                        try clear hcz11_2
                        try clear hcz24_0
                        try clear hcz24_1
                        try clear hcz24_2
                        try clear hcz26_0
                        try clear hcz26_1
                        try clear hcz26_2
                        try clear hcz33_0
                        try clear hcz33_1
                        try clear hcz33_2
                        try clear hcz34_0
                        try clear hcz34_1
                        try clear hcz34_2
                        try clear hcz36_0
                        try clear hcz36_1
                        try clear hcz36_2
                        try clear hcz38_0
                        try clear hcz38_1
                        try clear hcz38_2
                        try clear hfz11_0
                        try clear hfz11_1
                        try clear hfz11_2
                        try clear hfz24_0
                        try clear hfz24_1
                        try clear hfz24_2
                        try clear hfz26_0
                        try clear hfz26_1
                        try clear hfz26_2
                        try clear hfz33_0
                        try clear hfz33_1
                        try clear hfz33_2
                        try clear hfz34_0
                        try clear hfz34_1
                        try clear hfz34_2
                        try clear hfz36_0
                        try clear hfz36_1
                        try clear hfz36_2
                        try clear hfz38_0
                        try clear hfz38_1
                        try clear hfz38_2
                        try clear p1
                        try clear p16
                        try clear p2
                        try clear p20
                        try clear p27
                        try clear p4
                        try clear p45
                        try clear p6
                        try clear p9
                        try clear q1
                        try clear q16
                        try clear q2
                        try clear q20
                        try clear q27
                        try clear q4
                        try clear q45
                        try clear q9
                        obtain ⟨x11_5, rfl, HA, HK5, BK139, HB⟩ := hrel
                        cases gk with
                        | zero => exact absurd HA.out (by simp [targumref12_Read.l1])
                        | succ k5 =>
                          have H := HA.out
                          clear HA
                          simp only [targumref12_Read.l1] at H
                          by_cases c48 : x11_5 < (a0.size : Int)
                          · rw [if_pos c48] at H
                            have c48b0 : decide (x11_5 < (a0.size : Int)) = true := decide_eq_true c48
                            clear c48
                            by_cases c49 : 0 ≤ x11_5
                            · rw [if_pos c49] at H
                              have c49b0 : decide (0 ≤ x11_5) = true := decide_eq_true c49
                              clear c49
                              replace H := Option.bind_eq_some_iff.mp H
                              obtain ⟨t142, A510, H⟩ := H
                              replace H : (if t142 = true then (targumref12_Read.l1 k5 a0 a1 (wrap64 (a1 + 1)) x9_45 (wrap64 (x11_5 + 1))) else (if x9_45 > (wrap64 (a1 + 1)) then (if x11_5 = x9_45 then (some (false, (⟨#[]⟩ : ByteArray), (⟨#[]⟩ : ByteArray), 0, false)) else (if 0 ≤ a1 then (if a1 ≤ x9_45 then (if x9_45 ≤ (a0.size : Int) then (if 0 ≤ x9_45 then (if x9_45 ≤ x11_5 then (if x11_5 ≤ (a0.size : Int) then (some (false, a0.extract (a1 : Int).toNat (x9_45 : Int).toNat, a0.extract (x9_45 : Int).toNat (x11_5 : Int).toNat, x11_5, true)) else (none)) else (none)) else (none)) else (none)) else (none)) else (none))) else (if 0 ≤ a1 then (if a1 ≤ x9_45 then (if x9_45 ≤ (a0.size : Int) then (if 0 ≤ x9_45 then (if x9_45 ≤ x11_5 then (if x11_5 ≤ (a0.size : Int) then (some (false, a0.extract (a1 : Int).toNat (x9_45 : Int).toNat, a0.extract (x9_45 : Int).toNat (x11_5 : Int).toNat, x11_5, true)) else (none)) else (none)) else (none)) else (none)) else (none)) else (none)))) = some (r1, r2, r3, r4, r5) := H
                              have A51 := Aside0.mk A510
                              clear A510
                              by_cases c52 : t142 = true
                              · subst c52
                                have H1 : (targumref12_Read.l1 k5 a0 a1 (wrap64 (a1 + 1)) x9_45 (wrap64 (x11_5 + 1))) = some (r1, r2, r3, r4, r5) := by rw [if_pos rfl] at H; exact H
                                clear H
                                have H := H1
                                clear H1
                                have H' := Aside0.mk H
                                clear H
                                have p50 : 0 ≤ (x11_5 : Int) := of_decide_eq_true (by first | (with_reducible assumption) | assumption)
                                have q50 : x11_5 < (a0.size : Int) := of_decide_eq_true (by first | (with_reducible assumption) | assumption)
                                have hx50 := bt_at a0 x11_5
                                replace p50 := eq_true p50
                                replace q50 := eq_true q50
                                go_wp2_with (first | (go_at_call 26; (with_reducible refine (targumref12_Short.calls k5 (bt a0 x11_5) true _ A51.out).mono ?_); rintro e w' ⟨rfl, ⟨nd, rfl⟩⟩))
                                go_roundg k5
                                case measure => have := HJ2.out; have := HJ11.out; have := HJ40.out; have := HJ45.out; have := HK5.out; omega
                                case rel => exact ⟨(wrap64 (x11_5 + 1)), (by first | rfl | (simp; done) | (simp [*]; done)), H', ⟨by have := HJ2.out; have := HJ11.out; have := HJ40.out; have := HJ45.out; have := HK5.out; omega⟩, ⟨by (with_reducible repeat (first | refine blk_drewN ?_ _ | refine blk_drew ?_ | refine blk_alloc ?_ _)); exact BK139.out⟩, ⟨by repeat (first | (with_reducible first | exact HB.out | apply below_alloc | apply pw_below_drewN | apply below_drew1 | refine below_set ?_ GE139.out) | exact HB.out)⟩⟩
                              · replace c52 := Bool.eq_false_iff.mpr c52
                                subst c52
                                have H1 : (if x9_45 > (wrap64 (a1 + 1)) then (if x11_5 = x9_45 then (some (false, (⟨#[]⟩ : ByteArray), (⟨#[]⟩ : ByteArray), 0, false)) else (if 0 ≤ a1 then (if a1 ≤ x9_45 then (if x9_45 ≤ (a0.size : Int) then (if 0 ≤ x9_45 then (if x9_45 ≤ x11_5 then (if x11_5 ≤ (a0.size : Int) then (some (false, a0.extract (a1 : Int).toNat (x9_45 : Int).toNat, a0.extract (x9_45 : Int).toNat (x11_5 : Int).toNat, x11_5, true)) else (none)) else (none)) else (none)) else (none)) else (none)) else (none))) else (if 0 ≤ a1 then (if a1 ≤ x9_45 then (if x9_45 ≤ (a0.size : Int) then (if 0 ≤ x9_45 then (if x9_45 ≤ x11_5 then (if x11_5 ≤ (a0.size : Int) then (some (false, a0.extract (a1 : Int).toNat (x9_45 : Int).toNat, a0.extract (x9_45 : Int).toNat (x11_5 : Int).toNat, x11_5, true)) else (none)) else (none)) else (none)) else (none)) else (none)) else (none))) = some (r1, r2, r3, r4, r5) := by rw [if_neg (show ¬ (false = true) by decide)] at H; exact H
                                clear H
                                have H := H1
                                clear H1
                                by_cases c53 : x9_45 > (wrap64 (a1 + 1))
                                · rw [if_pos c53] at H
                                  have c53b0 : decide ((wrap64 (a1 + 1)) < x9_45) = true := decide_eq_true c53
                                  (try (have c53b1 : decide (((a1 + 1)) < x9_45) = true := (by have e_ : wrap64 (a1 + 1) = (a1 + 1) := (by unfold wrap64; omega); have h_ : decide ((wrap64 (a1 + 1)) < x9_45) = true := decide_eq_true c53; rw [e_] at h_; exact h_)))
                                  clear c53
                                  by_cases c54 : x11_5 = x9_45
                                  · rw [if_pos c54] at H
                                    have c54b0 : (x11_5 == x9_45) = true := beq_iff_eq.mpr c54
                                    have c54b1 : (x11_5 != x9_45) = false := bne_eq_false_iff_eq.mpr c54
                                    clear c54
                                    simp only [Option.some.injEq, Prod.mk.injEq] at H
                                    obtain ⟨rfl, rfl, rfl, rfl, rfl⟩ := H
                                    have p50 : 0 ≤ (x11_5 : Int) := of_decide_eq_true (by first | (with_reducible assumption) | assumption)
                                    have q50 : x11_5 < (a0.size : Int) := of_decide_eq_true (by first | (with_reducible assumption) | assumption)
                                    have hx50 := bt_at a0 x11_5
                                    replace p50 := eq_true p50
                                    replace q50 := eq_true q50
                                    go_wp2_with (first | (go_at_call 26; (with_reducible refine (targumref12_Short.calls k5 (bt a0 x11_5) false _ A51.out).mono ?_); rintro e w' ⟨rfl, ⟨nd, rfl⟩⟩; (try (rw [drewN_self wr]; generalize hq_ : World.drewN wr _ = wr; have n0_ : Aside0 (wr.heap[gb139]? = some (.cells #[.bool false, .string (⟨#[]⟩ : ByteArray), .string (⟨#[]⟩ : ByteArray)] 23 (0, 0))) := ⟨by rw [← hq_]; exact (by (with_reducible repeat (first | refine blk_drewN ?_ _ | refine blk_drew ?_ | refine blk_alloc ?_ _)); exact BK139.out)⟩; have n1_ : Aside0 (Below w.heap.size w wr) := ⟨by rw [← hq_]; exact (by repeat (first | (with_reducible first | exact HB.out | apply below_alloc | apply pw_below_drewN | apply below_drew1 | refine below_set ?_ GE139.out) | exact HB.out))⟩; clear BK139 HB hq_; have BK139 := n0_; have HB := n1_; clear n0_ n1_)); have hcz55_0 : wr.cell? ⟨gb139, 0, none⟩ = some (.bool false) := (blk_cell BK139.out 0).trans rfl; have hcz55_1 : wr.cell? ⟨gb139, 1, none⟩ = some (.string (⟨#[]⟩ : ByteArray)) := (blk_cell BK139.out 1).trans rfl; have hcz55_2 : wr.cell? ⟨gb139, 2, none⟩ = some (.string (⟨#[]⟩ : ByteArray)) := (blk_cell BK139.out 2).trans rfl; have hfz55_0 := blk_frozen BK139.out 0; have hfz55_1 := blk_frozen BK139.out 1; have hfz55_2 := blk_frozen BK139.out 2))
                                    refine bodyPost_ret (results_ctt rfl _ _ gb139 23 #[.bool false, .string (⟨#[]⟩ : ByteArray), .string (⟨#[]⟩ : ByteArray)] (0, 0) _ rfl (by (with_reducible repeat (first | refine blk_drewN ?_ _ | refine blk_drew ?_ | refine blk_alloc ?_ _)); refine blk_put (cs := #[.bool false, .string (⟨#[]⟩ : ByteArray), .string (⟨#[]⟩ : ByteArray)]) ?_ 2 _ rfl; (with_reducible repeat (first | refine blk_drewN ?_ _ | refine blk_drew ?_ | refine blk_alloc ?_ _)); refine blk_put (cs := #[.bool false, .string (⟨#[]⟩ : ByteArray), .string (⟨#[]⟩ : ByteArray)]) ?_ 1 _ rfl; (with_reducible repeat (first | refine blk_drewN ?_ _ | refine blk_drew ?_ | refine blk_alloc ?_ _)); refine blk_put (cs := #[.bool false, .string (⟨#[]⟩ : ByteArray), .string (⟨#[]⟩ : ByteArray)]) ?_ 0 _ rfl; (with_reducible repeat (first | refine blk_drewN ?_ _ | refine blk_drew ?_ | refine blk_alloc ?_ _)); exact BK139.out) Try.underlying23 rfl (by kernel_rfl)) rfl ?_
                                    exact ⟨by first | rfl | (simp [errW_none, errW_some] <;> rfl) | (simp [*, errW_none, errW_some] <;> rfl), by repeat (first | (with_reducible first | exact HB.out | apply below_alloc | apply pw_below_drewN | apply below_drew1 | refine below_set ?_ GE139.out) | exact HB.out)⟩
                                  · rw [if_neg c54] at H
                                    have c54b0 : (x11_5 == x9_45) = false := beq_eq_false_iff_ne.mpr c54
                                    have c54b1 : (x11_5 != x9_45) = true := bne_iff_ne.mpr c54
                                    by_cases c56 : 0 ≤ a1
                                    · rw [if_pos c56] at H
                                      have c56b0 := eq_true c56
                                      have c56b1 : decide (0 ≤ a1) = true := decide_eq_true c56
                                      clear c56
                                      by_cases c57 : a1 ≤ x9_45
                                      · rw [if_pos c57] at H
                                        have c57b0 := eq_true c57
                                        have c57b1 : decide (a1 ≤ x9_45) = true := decide_eq_true c57
                                        clear c57
                                        by_cases c58 : x9_45 ≤ (a0.size : Int)
                                        · rw [if_pos c58] at H
                                          have c58b0 := eq_true c58
                                          have c58b1 : decide (x9_45 ≤ (a0.size : Int)) = true := decide_eq_true c58
                                          clear c58
                                          by_cases c59 : 0 ≤ x9_45
                                          · rw [if_pos c59] at H
                                            have c59b0 := eq_true c59
                                            have c59b1 : decide (0 ≤ x9_45) = true := decide_eq_true c59
                                            clear c59
                                            by_cases c60 : x9_45 ≤ x11_5
                                            · rw [if_pos c60] at H
                                              have c60b0 := eq_true c60
                                              have c60b1 : decide (x9_45 ≤ x11_5) = true := decide_eq_true c60
                                              clear c60
                                              by_cases c61 : x11_5 ≤ (a0.size : Int)
                                              · rw [if_pos c61] at H
                                                have c61b0 := eq_true c61
                                                have c61b1 : decide (x11_5 ≤ (a0.size : Int)) = true := decide_eq_true c61
                                                clear c61
                                                simp only [Option.some.injEq, Prod.mk.injEq] at H
                                                obtain ⟨rfl, rfl, rfl, rfl, rfl⟩ := H
                                                have p50 : 0 ≤ (x11_5 : Int) := of_decide_eq_true (by first | (with_reducible assumption) | assumption)
                                                have q50 : x11_5 < (a0.size : Int) := of_decide_eq_true (by first | (with_reducible assumption) | assumption)
                                                have hx50 := bt_at a0 x11_5
                                                replace p50 := eq_true p50
                                                replace q50 := eq_true q50
                                                try go_wp2_with (first | (go_at_call 26; (with_reducible refine (targumref12_Short.calls k5 (bt a0 x11_5) false _ A51.out).mono ?_); rintro e w' ⟨rfl, ⟨nd, rfl⟩⟩; (try (rw [drewN_self wr]; generalize hq_ : World.drewN wr _ = wr; have n0_ : Aside0 (wr.heap[gb139]? = some (.cells #[.bool false, .string (⟨#[]⟩ : ByteArray), .string (⟨#[]⟩ : ByteArray)] 23 (0, 0))) := ⟨by rw [← hq_]; exact (by (with_reducible repeat (first | refine blk_drewN ?_ _ | refine blk_drew ?_ | refine blk_alloc ?_ _)); exact BK139.out)⟩; have n1_ : Aside0 (Below w.heap.size w wr) := ⟨by rw [← hq_]; exact (by repeat (first | (with_reducible first | exact HB.out | apply below_alloc | apply pw_below_drewN | apply below_drew1 | refine below_set ?_ GE139.out) | exact HB.out))⟩; clear BK139 HB hq_; have BK139 := n0_; have HB := n1_; clear n0_ n1_))))
                                                have n0_ := Aside0.mk (blk_drew BK139.out)
                                                have n1_ := Aside0.mk (below_drew1 HB.out)
                                                clear BK139
                                                clear HB
                                                have BK139 := n0_
                                                have HB := n1_
                                                clear n0_ n1_
                                                refine start_ (n := 13) (S := fun w' => True) (ds := []) #[false, false, false, false, false, false, false, false, false, false, false, false, false] (by kernel_rfl) rfl rfl trivial (fun hHeld => ?_); refine with_tabW targumref12_Read.tab20 targumref12_Read.bits20 (fun HT_ HW_ => ?_)
                                                generalize wr.drew = w62 at BK139 HB hHeld ⊢
                                                refine pure_ (i := 0) (N := some 122) (v := ?_) (a' := ?_) #[true, false, false, false, false, false, false, false, false, false, false, false, false] rfl rfl (any_of HT_.out (by kernel_rfl)) (fun _ _ _ h => h) (Or.inl ⟨by rfl, ?_⟩) ?_ ?_
                                                rotate_left
                                                · intro w'
                                                  go_simp
                                                  with_reducible rfl
                                                rotate_left
                                                · simp only [Act.put, List.setIfInBounds_toArray, List.set_cons_zero, List.set_cons_succ, i64_w, i32_w]
                                                  rfl
                                                refine pure_ (i := 1) (N := some 123) (v := ?_) (a' := ?_) #[true, true, false, false, false, false, false, false, false, false, false, false, false] rfl rfl (any_of HT_.out (by kernel_rfl)) (fun _ _ _ h => h) (Or.inl ⟨by rfl, ?_⟩) ?_ ?_
                                                rotate_left
                                                · intro w'
                                                  go_simp
                                                  with_reducible rfl
                                                rotate_left
                                                · simp only [Act.put, List.setIfInBounds_toArray, List.set_cons_zero, List.set_cons_succ, i64_w, i32_w]
                                                  rfl
                                                refine pure_ (i := 2) (N := some 124) (v := ?_) (a' := ?_) #[true, true, true, false, false, false, false, false, false, false, false, false, false] rfl rfl (any_of HT_.out (by kernel_rfl)) (fun _ _ _ h => h) (Or.inl ⟨by rfl, ?_⟩) ?_ ?_
                                                rotate_left
                                                · intro w'
                                                  go_simp
                                                  with_reducible rfl
                                                rotate_left
                                                · simp only [Act.put, List.setIfInBounds_toArray, List.set_cons_zero, List.set_cons_succ, i64_w, i32_w]
                                                  rfl
                                                refine pure_ (i := 3) (N := some 125) (v := ?_) (a' := ?_) #[true, true, true, true, false, false, false, false, false, false, false, false, false] rfl rfl (any_of HT_.out (by kernel_rfl)) (fun _ _ _ h => h) (Or.inl ⟨by rfl, ?_⟩) ?_ ?_
                                                rotate_left
                                                · intro w'
                                                  go_simp
                                                  with_reducible rfl
                                                rotate_left
                                                · simp only [Act.put, List.setIfInBounds_toArray, List.set_cons_zero, List.set_cons_succ, i64_w, i32_w]
                                                  rfl
                                                refine pure_ (i := 4) (N := some 126) (v := ?_) (a' := ?_) #[true, true, true, true, true, false, false, false, false, false, false, false, false] rfl rfl (any_of HT_.out (by kernel_rfl)) (fun _ _ _ h => h) (Or.inl ⟨by rfl, ?_⟩) ?_ ?_
                                                rotate_left
                                                · intro w'
                                                  go_simp
                                                  with_reducible rfl
                                                rotate_left
                                                · simp only [Act.put, List.setIfInBounds_toArray, List.set_cons_zero, List.set_cons_succ, i64_w, i32_w]
                                                  rfl
                                                refine pure_ (i := 5) (N := some 127) (v := ?_) (a' := ?_) #[true, true, true, true, true, true, false, false, false, false, false, false, false] rfl rfl (any_of HT_.out (by kernel_rfl)) (fun _ _ _ h => h) (Or.inl ⟨by rfl, ?_⟩) ?_ ?_
                                                rotate_left
                                                · intro w'
                                                  go_simp
                                                  with_reducible rfl
                                                rotate_left
                                                · simp only [Act.put, List.setIfInBounds_toArray, List.set_cons_zero, List.set_cons_succ, i64_w, i32_w]
                                                  rfl
                                                refine pure_ (i := 6) (N := some 128) (v := ?_) (a' := ?_) #[true, true, true, true, true, true, true, false, false, false, false, false, false] rfl rfl (any_of HT_.out (by kernel_rfl)) (fun _ _ _ h => h) (Or.inl ⟨by rfl, ?_⟩) ?_ ?_
                                                rotate_left
                                                · intro w'
                                                  go_simp
                                                  with_reducible rfl
                                                rotate_left
                                                · simp only [Act.put, List.setIfInBounds_toArray, List.set_cons_zero, List.set_cons_succ, i64_w, i32_w]
                                                  rfl
                                                refine pure_ (i := 7) (N := some 129) (v := ?_) (a' := ?_) #[true, true, true, true, true, true, true, true, false, false, false, false, false] rfl rfl (any_of HT_.out (by kernel_rfl)) (fun _ _ _ h => h) (Or.inl ⟨by rfl, ?_⟩) ?_ ?_
                                                rotate_left
                                                · intro w'
                                                  go_simp
                                                  with_reducible rfl
                                                rotate_left
                                                · simp only [Act.put, List.setIfInBounds_toArray, List.set_cons_zero, List.set_cons_succ, i64_w, i32_w]
                                                  rfl
                                                refine pure_ (i := 8) (N := some 130) (v := ?_) (a' := ?_) #[true, true, true, true, true, true, true, true, true, false, false, false, false] rfl rfl (any_of HT_.out (by kernel_rfl)) (fun _ _ _ h => h) (Or.inl ⟨by rfl, ?_⟩) ?_ ?_
                                                rotate_left
                                                · intro w'
                                                  go_simp
                                                  with_reducible rfl
                                                rotate_left
                                                · simp only [Act.put, List.setIfInBounds_toArray, List.set_cons_zero, List.set_cons_succ, i64_w, i32_w]
                                                  rfl
                                                refine pure_ (i := 9) (N := some 131) (v := ?_) (a' := ?_) #[true, true, true, true, true, true, true, true, true, true, false, false, false] rfl rfl (any_of HT_.out (by kernel_rfl)) (fun _ _ _ h => h) (Or.inl ⟨by rfl, ?_⟩) ?_ ?_
                                                rotate_left
                                                · intro w'
                                                  go_simp
                                                  with_reducible rfl
                                                rotate_left
                                                · simp only [Act.put, List.setIfInBounds_toArray, List.set_cons_zero, List.set_cons_succ, i64_w, i32_w]
                                                  rfl
                                                refine one_ (i := 10) (N := none) #[true, true, true, true, true, true, true, true, true, true, true, false, false] rfl rfl (one_of HT_.out (by kernel_rfl)) (by decide) (fun K hK => ?_)
                                                have hs63 : w62.cell? ⟨gb139, 0, none⟩ = some (.bool false) := (blk_cell BK139.out 0).trans rfl
                                                have hfs63 := blk_frozen BK139.out 0
                                                have hs64 : w62.cell? ⟨gb139, 1, none⟩ = some (.string (⟨#[]⟩ : ByteArray)) := (blk_cell BK139.out 1).trans rfl
                                                have hfs64 := blk_frozen BK139.out 1
                                                have hs65 : w62.cell? ⟨gb139, 2, none⟩ = some (.string (⟨#[]⟩ : ByteArray)) := (blk_cell BK139.out 2).trans rfl
                                                have hfs65 := blk_frozen BK139.out 2
                                                refine skip_ (w1 := ?_) (by rfl) rfl ?_ ?_
                                                rotate_left
                                                · go_simp
                                                  rfl
                                                refine hK.out _ _ trivial (fun hHeld => ?_)
                                                clear hK K
                                                refine pure_ (i := 11) (N := some 5) (v := ?_) (a' := ?_) #[true, true, true, true, true, true, true, true, true, true, true, true, false] rfl rfl (any_of HT_.out (by kernel_rfl)) (fun _ _ _ h => h) (Or.inl ⟨by rfl, ?_⟩) ?_ ?_
                                                rotate_left
                                                · intro w'
                                                  go_simp
                                                  with_reducible rfl
                                                rotate_left
                                                · simp only [Act.put, List.setIfInBounds_toArray, List.set_cons_zero, List.set_cons_succ, i64_w, i32_w]
                                                  rfl
                                                refine pure_ (i := 12) (N := some 6) (v := ?_) (a' := ?_) #[true, true, true, true, true, true, true, true, true, true, true, true, true] rfl rfl (any_of HT_.out (by kernel_rfl)) (fun _ _ _ h => h) (Or.inl ⟨by rfl, ?_⟩) ?_ ?_
                                                rotate_left
                                                · intro w'
                                                  go_simp
                                                  with_reducible rfl
                                                rotate_left
                                                · simp only [Act.put, List.setIfInBounds_toArray, List.set_cons_zero, List.set_cons_succ, i64_w, i32_w]
                                                  rfl
                                                refine done_ (done_of HT_.out (by kernel_rfl)) ?_
                                                try go_wp2
                                                refine bodyPost_ret (results_ctt rfl _ _ gb139 23 #[.bool false, .string (a0.extract (a1 : Int).toNat (x9_45 : Int).toNat), .string (a0.extract (x9_45 : Int).toNat (x11_5 : Int).toNat)] (0, 0) _ rfl (by (with_reducible repeat (first | refine blk_drewN ?_ _ | refine blk_drew ?_ | refine blk_alloc ?_ _)); refine blk_put (cs := #[.bool false, .string (a0.extract (a1 : Int).toNat (x9_45 : Int).toNat), .string (⟨#[]⟩ : ByteArray)]) ?_ 2 _ rfl; (with_reducible repeat (first | refine blk_drewN ?_ _ | refine blk_drew ?_ | refine blk_alloc ?_ _)); refine blk_put (cs := #[.bool false, .string (⟨#[]⟩ : ByteArray), .string (⟨#[]⟩ : ByteArray)]) ?_ 1 _ rfl; (with_reducible repeat (first | refine blk_drewN ?_ _ | refine blk_drew ?_ | refine blk_alloc ?_ _)); refine blk_put (cs := #[.bool false, .string (⟨#[]⟩ : ByteArray), .string (⟨#[]⟩ : ByteArray)]) ?_ 0 _ rfl; (with_reducible repeat (first | refine blk_drewN ?_ _ | refine blk_drew ?_ | refine blk_alloc ?_ _)); exact BK139.out) Try.underlying23 rfl (by kernel_rfl)) rfl ?_
                                                exact ⟨by first | rfl | (simp [errW_none, errW_some] <;> rfl) | (simp [*, errW_none, errW_some] <;> rfl), by repeat (first | (with_reducible first | exact HB.out | apply below_alloc | apply pw_below_drewN | apply below_drew1 | refine below_set ?_ GE139.out) | exact HB.out)⟩
                                              · rw [if_neg c61] at H
                                                exact absurd H (by simp)
                                            · rw [if_neg c60] at H
                                              exact absurd H (by simp)
                                          · rw [if_neg c59] at H
                                            exact absurd H (by simp)
                                        · rw [if_neg c58] at H
                                          exact absurd H (by simp)
                                      · rw [if_neg c57] at H
                                        exact absurd H (by simp)
                                    · rw [if_neg c56] at H
                                      exact absurd H (by simp)
                                · rw [if_neg c53] at H
                                  have c53b0 : decide ((wrap64 (a1 + 1)) < x9_45) = false := decide_eq_false c53
                                  (try (have c53b1 : decide (((a1 + 1)) < x9_45) = false := (by have e_ : wrap64 (a1 + 1) = (a1 + 1) := (by unfold wrap64; omega); have h_ : decide ((wrap64 (a1 + 1)) < x9_45) = false := decide_eq_false c53; rw [e_] at h_; exact h_)))
                                  clear c53
                                  by_cases c66 : 0 ≤ a1
                                  · rw [if_pos c66] at H
                                    have c66b0 := eq_true c66
                                    have c66b1 : decide (0 ≤ a1) = true := decide_eq_true c66
                                    clear c66
                                    by_cases c67 : a1 ≤ x9_45
                                    · rw [if_pos c67] at H
                                      have c67b0 := eq_true c67
                                      have c67b1 : decide (a1 ≤ x9_45) = true := decide_eq_true c67
                                      clear c67
                                      by_cases c68 : x9_45 ≤ (a0.size : Int)
                                      · rw [if_pos c68] at H
                                        have c68b0 := eq_true c68
                                        have c68b1 : decide (x9_45 ≤ (a0.size : Int)) = true := decide_eq_true c68
                                        clear c68
                                        by_cases c69 : 0 ≤ x9_45
                                        · rw [if_pos c69] at H
                                          have c69b0 := eq_true c69
                                          have c69b1 : decide (0 ≤ x9_45) = true := decide_eq_true c69
                                          clear c69
                                          by_cases c70 : x9_45 ≤ x11_5
                                          · rw [if_pos c70] at H
                                            have c70b0 := eq_true c70
                                            have c70b1 : decide (x9_45 ≤ x11_5) = true := decide_eq_true c70
                                            clear c70
                                            by_cases c71 : x11_5 ≤ (a0.size : Int)
                                            · rw [if_pos c71] at H
                                              have c71b0 := eq_true c71
                                              have c71b1 : decide (x11_5 ≤ (a0.size : Int)) = true := decide_eq_true c71
                                              clear c71
                                              simp only [Option.some.injEq, Prod.mk.injEq] at H
                                              obtain ⟨rfl, rfl, rfl, rfl, rfl⟩ := H
                                              have p50 : 0 ≤ (x11_5 : Int) := of_decide_eq_true (by first | (with_reducible assumption) | assumption)
                                              have q50 : x11_5 < (a0.size : Int) := of_decide_eq_true (by first | (with_reducible assumption) | assumption)
                                              have hx50 := bt_at a0 x11_5
                                              replace p50 := eq_true p50
                                              replace q50 := eq_true q50
                                              try go_wp2_with (first | (go_at_call 26; (with_reducible refine (targumref12_Short.calls k5 (bt a0 x11_5) false _ A51.out).mono ?_); rintro e w' ⟨rfl, ⟨nd, rfl⟩⟩; (try (rw [drewN_self wr]; generalize hq_ : World.drewN wr _ = wr; have n0_ : Aside0 (wr.heap[gb139]? = some (.cells #[.bool false, .string (⟨#[]⟩ : ByteArray), .string (⟨#[]⟩ : ByteArray)] 23 (0, 0))) := ⟨by rw [← hq_]; exact (by (with_reducible repeat (first | refine blk_drewN ?_ _ | refine blk_drew ?_ | refine blk_alloc ?_ _)); exact BK139.out)⟩; have n1_ : Aside0 (Below w.heap.size w wr) := ⟨by rw [← hq_]; exact (by repeat (first | (with_reducible first | exact HB.out | apply below_alloc | apply pw_below_drewN | apply below_drew1 | refine below_set ?_ GE139.out) | exact HB.out))⟩; clear BK139 HB hq_; have BK139 := n0_; have HB := n1_; clear n0_ n1_))))
                                              have n0_ := Aside0.mk (blk_drew BK139.out)
                                              have n1_ := Aside0.mk (below_drew1 HB.out)
                                              clear BK139
                                              clear HB
                                              have BK139 := n0_
                                              have HB := n1_
                                              clear n0_ n1_
                                              refine start_ (n := 13) (S := fun w' => True) (ds := []) #[false, false, false, false, false, false, false, false, false, false, false, false, false] (by kernel_rfl) rfl rfl trivial (fun hHeld => ?_); refine with_tabW targumref12_Read.tab20 targumref12_Read.bits20 (fun HT_ HW_ => ?_)
                                              generalize wr.drew = w72 at BK139 HB hHeld ⊢
                                              refine pure_ (i := 0) (N := some 122) (v := ?_) (a' := ?_) #[true, false, false, false, false, false, false, false, false, false, false, false, false] rfl rfl (any_of HT_.out (by kernel_rfl)) (fun _ _ _ h => h) (Or.inl ⟨by rfl, ?_⟩) ?_ ?_
                                              rotate_left
                                              · intro w'
                                                go_simp
                                                with_reducible rfl
                                              rotate_left
                                              · simp only [Act.put, List.setIfInBounds_toArray, List.set_cons_zero, List.set_cons_succ, i64_w, i32_w]
                                                rfl
                                              refine pure_ (i := 1) (N := some 123) (v := ?_) (a' := ?_) #[true, true, false, false, false, false, false, false, false, false, false, false, false] rfl rfl (any_of HT_.out (by kernel_rfl)) (fun _ _ _ h => h) (Or.inl ⟨by rfl, ?_⟩) ?_ ?_
                                              rotate_left
                                              · intro w'
                                                go_simp
                                                with_reducible rfl
                                              rotate_left
                                              · simp only [Act.put, List.setIfInBounds_toArray, List.set_cons_zero, List.set_cons_succ, i64_w, i32_w]
                                                rfl
                                              refine pure_ (i := 2) (N := some 124) (v := ?_) (a' := ?_) #[true, true, true, false, false, false, false, false, false, false, false, false, false] rfl rfl (any_of HT_.out (by kernel_rfl)) (fun _ _ _ h => h) (Or.inl ⟨by rfl, ?_⟩) ?_ ?_
                                              rotate_left
                                              · intro w'
                                                go_simp
                                                with_reducible rfl
                                              rotate_left
                                              · simp only [Act.put, List.setIfInBounds_toArray, List.set_cons_zero, List.set_cons_succ, i64_w, i32_w]
                                                rfl
                                              refine pure_ (i := 3) (N := some 125) (v := ?_) (a' := ?_) #[true, true, true, true, false, false, false, false, false, false, false, false, false] rfl rfl (any_of HT_.out (by kernel_rfl)) (fun _ _ _ h => h) (Or.inl ⟨by rfl, ?_⟩) ?_ ?_
                                              rotate_left
                                              · intro w'
                                                go_simp
                                                with_reducible rfl
                                              rotate_left
                                              · simp only [Act.put, List.setIfInBounds_toArray, List.set_cons_zero, List.set_cons_succ, i64_w, i32_w]
                                                rfl
                                              refine pure_ (i := 4) (N := some 126) (v := ?_) (a' := ?_) #[true, true, true, true, true, false, false, false, false, false, false, false, false] rfl rfl (any_of HT_.out (by kernel_rfl)) (fun _ _ _ h => h) (Or.inl ⟨by rfl, ?_⟩) ?_ ?_
                                              rotate_left
                                              · intro w'
                                                go_simp
                                                with_reducible rfl
                                              rotate_left
                                              · simp only [Act.put, List.setIfInBounds_toArray, List.set_cons_zero, List.set_cons_succ, i64_w, i32_w]
                                                rfl
                                              refine pure_ (i := 5) (N := some 127) (v := ?_) (a' := ?_) #[true, true, true, true, true, true, false, false, false, false, false, false, false] rfl rfl (any_of HT_.out (by kernel_rfl)) (fun _ _ _ h => h) (Or.inl ⟨by rfl, ?_⟩) ?_ ?_
                                              rotate_left
                                              · intro w'
                                                go_simp
                                                with_reducible rfl
                                              rotate_left
                                              · simp only [Act.put, List.setIfInBounds_toArray, List.set_cons_zero, List.set_cons_succ, i64_w, i32_w]
                                                rfl
                                              refine pure_ (i := 6) (N := some 128) (v := ?_) (a' := ?_) #[true, true, true, true, true, true, true, false, false, false, false, false, false] rfl rfl (any_of HT_.out (by kernel_rfl)) (fun _ _ _ h => h) (Or.inl ⟨by rfl, ?_⟩) ?_ ?_
                                              rotate_left
                                              · intro w'
                                                go_simp
                                                with_reducible rfl
                                              rotate_left
                                              · simp only [Act.put, List.setIfInBounds_toArray, List.set_cons_zero, List.set_cons_succ, i64_w, i32_w]
                                                rfl
                                              refine pure_ (i := 7) (N := some 129) (v := ?_) (a' := ?_) #[true, true, true, true, true, true, true, true, false, false, false, false, false] rfl rfl (any_of HT_.out (by kernel_rfl)) (fun _ _ _ h => h) (Or.inl ⟨by rfl, ?_⟩) ?_ ?_
                                              rotate_left
                                              · intro w'
                                                go_simp
                                                with_reducible rfl
                                              rotate_left
                                              · simp only [Act.put, List.setIfInBounds_toArray, List.set_cons_zero, List.set_cons_succ, i64_w, i32_w]
                                                rfl
                                              refine pure_ (i := 8) (N := some 130) (v := ?_) (a' := ?_) #[true, true, true, true, true, true, true, true, true, false, false, false, false] rfl rfl (any_of HT_.out (by kernel_rfl)) (fun _ _ _ h => h) (Or.inl ⟨by rfl, ?_⟩) ?_ ?_
                                              rotate_left
                                              · intro w'
                                                go_simp
                                                with_reducible rfl
                                              rotate_left
                                              · simp only [Act.put, List.setIfInBounds_toArray, List.set_cons_zero, List.set_cons_succ, i64_w, i32_w]
                                                rfl
                                              refine pure_ (i := 9) (N := some 131) (v := ?_) (a' := ?_) #[true, true, true, true, true, true, true, true, true, true, false, false, false] rfl rfl (any_of HT_.out (by kernel_rfl)) (fun _ _ _ h => h) (Or.inl ⟨by rfl, ?_⟩) ?_ ?_
                                              rotate_left
                                              · intro w'
                                                go_simp
                                                with_reducible rfl
                                              rotate_left
                                              · simp only [Act.put, List.setIfInBounds_toArray, List.set_cons_zero, List.set_cons_succ, i64_w, i32_w]
                                                rfl
                                              refine one_ (i := 10) (N := none) #[true, true, true, true, true, true, true, true, true, true, true, false, false] rfl rfl (one_of HT_.out (by kernel_rfl)) (by decide) (fun K hK => ?_)
                                              have hs73 : w72.cell? ⟨gb139, 0, none⟩ = some (.bool false) := (blk_cell BK139.out 0).trans rfl
                                              have hfs73 := blk_frozen BK139.out 0
                                              have hs74 : w72.cell? ⟨gb139, 1, none⟩ = some (.string (⟨#[]⟩ : ByteArray)) := (blk_cell BK139.out 1).trans rfl
                                              have hfs74 := blk_frozen BK139.out 1
                                              have hs75 : w72.cell? ⟨gb139, 2, none⟩ = some (.string (⟨#[]⟩ : ByteArray)) := (blk_cell BK139.out 2).trans rfl
                                              have hfs75 := blk_frozen BK139.out 2
                                              refine skip_ (w1 := ?_) (by rfl) rfl ?_ ?_
                                              rotate_left
                                              · go_simp
                                                rfl
                                              refine hK.out _ _ trivial (fun hHeld => ?_)
                                              clear hK K
                                              refine pure_ (i := 11) (N := some 5) (v := ?_) (a' := ?_) #[true, true, true, true, true, true, true, true, true, true, true, true, false] rfl rfl (any_of HT_.out (by kernel_rfl)) (fun _ _ _ h => h) (Or.inl ⟨by rfl, ?_⟩) ?_ ?_
                                              rotate_left
                                              · intro w'
                                                go_simp
                                                with_reducible rfl
                                              rotate_left
                                              · simp only [Act.put, List.setIfInBounds_toArray, List.set_cons_zero, List.set_cons_succ, i64_w, i32_w]
                                                rfl
                                              refine pure_ (i := 12) (N := some 6) (v := ?_) (a' := ?_) #[true, true, true, true, true, true, true, true, true, true, true, true, true] rfl rfl (any_of HT_.out (by kernel_rfl)) (fun _ _ _ h => h) (Or.inl ⟨by rfl, ?_⟩) ?_ ?_
                                              rotate_left
                                              · intro w'
                                                go_simp
                                                with_reducible rfl
                                              rotate_left
                                              · simp only [Act.put, List.setIfInBounds_toArray, List.set_cons_zero, List.set_cons_succ, i64_w, i32_w]
                                                rfl
                                              refine done_ (done_of HT_.out (by kernel_rfl)) ?_
                                              try go_wp2
                                              refine bodyPost_ret (results_ctt rfl _ _ gb139 23 #[.bool false, .string (a0.extract (a1 : Int).toNat (x9_45 : Int).toNat), .string (a0.extract (x9_45 : Int).toNat (x11_5 : Int).toNat)] (0, 0) _ rfl (by (with_reducible repeat (first | refine blk_drewN ?_ _ | refine blk_drew ?_ | refine blk_alloc ?_ _)); refine blk_put (cs := #[.bool false, .string (a0.extract (a1 : Int).toNat (x9_45 : Int).toNat), .string (⟨#[]⟩ : ByteArray)]) ?_ 2 _ rfl; (with_reducible repeat (first | refine blk_drewN ?_ _ | refine blk_drew ?_ | refine blk_alloc ?_ _)); refine blk_put (cs := #[.bool false, .string (⟨#[]⟩ : ByteArray), .string (⟨#[]⟩ : ByteArray)]) ?_ 1 _ rfl; (with_reducible repeat (first | refine blk_drewN ?_ _ | refine blk_drew ?_ | refine blk_alloc ?_ _)); refine blk_put (cs := #[.bool false, .string (⟨#[]⟩ : ByteArray), .string (⟨#[]⟩ : ByteArray)]) ?_ 0 _ rfl; (with_reducible repeat (first | refine blk_drewN ?_ _ | refine blk_drew ?_ | refine blk_alloc ?_ _)); exact BK139.out) Try.underlying23 rfl (by kernel_rfl)) rfl ?_
                                              exact ⟨by first | rfl | (simp [errW_none, errW_some] <;> rfl) | (simp [*, errW_none, errW_some] <;> rfl), by repeat (first | (with_reducible first | exact HB.out | apply below_alloc | apply pw_below_drewN | apply below_drew1 | refine below_set ?_ GE139.out) | exact HB.out)⟩
                                            · rw [if_neg c71] at H
                                              exact absurd H (by simp)
                                          · rw [if_neg c70] at H
                                            exact absurd H (by simp)
                                        · rw [if_neg c69] at H
                                          exact absurd H (by simp)
                                      · rw [if_neg c68] at H
                                        exact absurd H (by simp)
                                    · rw [if_neg c67] at H
                                      exact absurd H (by simp)
                                  · rw [if_neg c66] at H
                                    exact absurd H (by simp)
                            · rw [if_neg c49] at H
                              exact absurd H (by simp)
                          · rw [if_neg c48] at H
                            have c48b0 : decide (x11_5 < (a0.size : Int)) = false := decide_eq_false c48
                            clear c48
                            by_cases c76 : x9_45 > (wrap64 (a1 + 1))
                            · rw [if_pos c76] at H
                              have c76b0 : decide ((wrap64 (a1 + 1)) < x9_45) = true := decide_eq_true c76
                              (try (have c76b1 : decide (((a1 + 1)) < x9_45) = true := (by have e_ : wrap64 (a1 + 1) = (a1 + 1) := (by unfold wrap64; omega); have h_ : decide ((wrap64 (a1 + 1)) < x9_45) = true := decide_eq_true c76; rw [e_] at h_; exact h_)))
                              clear c76
                              by_cases c77 : x11_5 = x9_45
                              · rw [if_pos c77] at H
                                have c77b0 : (x11_5 == x9_45) = true := beq_iff_eq.mpr c77
                                have c77b1 : (x11_5 != x9_45) = false := bne_eq_false_iff_eq.mpr c77
                                clear c77
                                simp only [Option.some.injEq, Prod.mk.injEq] at H
                                obtain ⟨rfl, rfl, rfl, rfl, rfl⟩ := H
                                have hcz78_0 : wr.cell? ⟨gb139, 0, none⟩ = some (.bool false) := (blk_cell BK139.out 0).trans rfl
                                have hcz78_1 : wr.cell? ⟨gb139, 1, none⟩ = some (.string (⟨#[]⟩ : ByteArray)) := (blk_cell BK139.out 1).trans rfl
                                have hcz78_2 : wr.cell? ⟨gb139, 2, none⟩ = some (.string (⟨#[]⟩ : ByteArray)) := (blk_cell BK139.out 2).trans rfl
                                have hfz78_0 := blk_frozen BK139.out 0
                                have hfz78_1 := blk_frozen BK139.out 1
                                have hfz78_2 := blk_frozen BK139.out 2
                                go_wp2
                                refine bodyPost_ret (results_ctt rfl _ _ gb139 23 #[.bool false, .string (⟨#[]⟩ : ByteArray), .string (⟨#[]⟩ : ByteArray)] (0, 0) _ rfl (by (with_reducible repeat (first | refine blk_drewN ?_ _ | refine blk_drew ?_ | refine blk_alloc ?_ _)); refine blk_put (cs := #[.bool false, .string (⟨#[]⟩ : ByteArray), .string (⟨#[]⟩ : ByteArray)]) ?_ 2 _ rfl; (with_reducible repeat (first | refine blk_drewN ?_ _ | refine blk_drew ?_ | refine blk_alloc ?_ _)); refine blk_put (cs := #[.bool false, .string (⟨#[]⟩ : ByteArray), .string (⟨#[]⟩ : ByteArray)]) ?_ 1 _ rfl; (with_reducible repeat (first | refine blk_drewN ?_ _ | refine blk_drew ?_ | refine blk_alloc ?_ _)); refine blk_put (cs := #[.bool false, .string (⟨#[]⟩ : ByteArray), .string (⟨#[]⟩ : ByteArray)]) ?_ 0 _ rfl; (with_reducible repeat (first | refine blk_drewN ?_ _ | refine blk_drew ?_ | refine blk_alloc ?_ _)); exact BK139.out) Try.underlying23 rfl (by kernel_rfl)) rfl ?_
                                exact ⟨by first | rfl | (simp [errW_none, errW_some] <;> rfl) | (simp [*, errW_none, errW_some] <;> rfl), by repeat (first | (with_reducible first | exact HB.out | apply below_alloc | apply pw_below_drewN | apply below_drew1 | refine below_set ?_ GE139.out) | exact HB.out)⟩
                              · rw [if_neg c77] at H
                                have c77b0 : (x11_5 == x9_45) = false := beq_eq_false_iff_ne.mpr c77
                                have c77b1 : (x11_5 != x9_45) = true := bne_iff_ne.mpr c77
                                by_cases c79 : 0 ≤ a1
                                · rw [if_pos c79] at H
                                  have c79b0 := eq_true c79
                                  have c79b1 : decide (0 ≤ a1) = true := decide_eq_true c79
                                  clear c79
                                  by_cases c80 : a1 ≤ x9_45
                                  · rw [if_pos c80] at H
                                    have c80b0 := eq_true c80
                                    have c80b1 : decide (a1 ≤ x9_45) = true := decide_eq_true c80
                                    clear c80
                                    by_cases c81 : x9_45 ≤ (a0.size : Int)
                                    · rw [if_pos c81] at H
                                      have c81b0 := eq_true c81
                                      have c81b1 : decide (x9_45 ≤ (a0.size : Int)) = true := decide_eq_true c81
                                      clear c81
                                      by_cases c82 : 0 ≤ x9_45
                                      · rw [if_pos c82] at H
                                        have c82b0 := eq_true c82
                                        have c82b1 : decide (0 ≤ x9_45) = true := decide_eq_true c82
                                        clear c82
                                        by_cases c83 : x9_45 ≤ x11_5
                                        · rw [if_pos c83] at H
                                          have c83b0 := eq_true c83
                                          have c83b1 : decide (x9_45 ≤ x11_5) = true := decide_eq_true c83
                                          clear c83
                                          by_cases c84 : x11_5 ≤ (a0.size : Int)
                                          · rw [if_pos c84] at H
                                            have c84b0 := eq_true c84
                                            have c84b1 : decide (x11_5 ≤ (a0.size : Int)) = true := decide_eq_true c84
                                            clear c84
                                            simp only [Option.some.injEq, Prod.mk.injEq] at H
                                            obtain ⟨rfl, rfl, rfl, rfl, rfl⟩ := H
                                            try go_wp2
                                            have n0_ := Aside0.mk (blk_drew BK139.out)
                                            have n1_ := Aside0.mk (below_drew1 HB.out)
                                            clear BK139
                                            clear HB
                                            have BK139 := n0_
                                            have HB := n1_
                                            clear n0_ n1_
                                            refine start_ (n := 13) (S := fun w' => True) (ds := []) #[false, false, false, false, false, false, false, false, false, false, false, false, false] (by kernel_rfl) rfl rfl trivial (fun hHeld => ?_); refine with_tabW targumref12_Read.tab20 targumref12_Read.bits20 (fun HT_ HW_ => ?_)
                                            generalize wr.drew = w85 at BK139 HB hHeld ⊢
                                            refine pure_ (i := 0) (N := some 122) (v := ?_) (a' := ?_) #[true, false, false, false, false, false, false, false, false, false, false, false, false] rfl rfl (any_of HT_.out (by kernel_rfl)) (fun _ _ _ h => h) (Or.inl ⟨by rfl, ?_⟩) ?_ ?_
                                            rotate_left
                                            · intro w'
                                              go_simp
                                              with_reducible rfl
                                            rotate_left
                                            · simp only [Act.put, List.setIfInBounds_toArray, List.set_cons_zero, List.set_cons_succ, i64_w, i32_w]
                                              rfl
                                            refine pure_ (i := 1) (N := some 123) (v := ?_) (a' := ?_) #[true, true, false, false, false, false, false, false, false, false, false, false, false] rfl rfl (any_of HT_.out (by kernel_rfl)) (fun _ _ _ h => h) (Or.inl ⟨by rfl, ?_⟩) ?_ ?_
                                            rotate_left
                                            · intro w'
                                              go_simp
                                              with_reducible rfl
                                            rotate_left
                                            · simp only [Act.put, List.setIfInBounds_toArray, List.set_cons_zero, List.set_cons_succ, i64_w, i32_w]
                                              rfl
                                            refine pure_ (i := 2) (N := some 124) (v := ?_) (a' := ?_) #[true, true, true, false, false, false, false, false, false, false, false, false, false] rfl rfl (any_of HT_.out (by kernel_rfl)) (fun _ _ _ h => h) (Or.inl ⟨by rfl, ?_⟩) ?_ ?_
                                            rotate_left
                                            · intro w'
                                              go_simp
                                              with_reducible rfl
                                            rotate_left
                                            · simp only [Act.put, List.setIfInBounds_toArray, List.set_cons_zero, List.set_cons_succ, i64_w, i32_w]
                                              rfl
                                            refine pure_ (i := 3) (N := some 125) (v := ?_) (a' := ?_) #[true, true, true, true, false, false, false, false, false, false, false, false, false] rfl rfl (any_of HT_.out (by kernel_rfl)) (fun _ _ _ h => h) (Or.inl ⟨by rfl, ?_⟩) ?_ ?_
                                            rotate_left
                                            · intro w'
                                              go_simp
                                              with_reducible rfl
                                            rotate_left
                                            · simp only [Act.put, List.setIfInBounds_toArray, List.set_cons_zero, List.set_cons_succ, i64_w, i32_w]
                                              rfl
                                            refine pure_ (i := 4) (N := some 126) (v := ?_) (a' := ?_) #[true, true, true, true, true, false, false, false, false, false, false, false, false] rfl rfl (any_of HT_.out (by kernel_rfl)) (fun _ _ _ h => h) (Or.inl ⟨by rfl, ?_⟩) ?_ ?_
                                            rotate_left
                                            · intro w'
                                              go_simp
                                              with_reducible rfl
                                            rotate_left
                                            · simp only [Act.put, List.setIfInBounds_toArray, List.set_cons_zero, List.set_cons_succ, i64_w, i32_w]
                                              rfl
                                            refine pure_ (i := 5) (N := some 127) (v := ?_) (a' := ?_) #[true, true, true, true, true, true, false, false, false, false, false, false, false] rfl rfl (any_of HT_.out (by kernel_rfl)) (fun _ _ _ h => h) (Or.inl ⟨by rfl, ?_⟩) ?_ ?_
                                            rotate_left
                                            · intro w'
                                              go_simp
                                              with_reducible rfl
                                            rotate_left
                                            · simp only [Act.put, List.setIfInBounds_toArray, List.set_cons_zero, List.set_cons_succ, i64_w, i32_w]
                                              rfl
                                            refine pure_ (i := 6) (N := some 128) (v := ?_) (a' := ?_) #[true, true, true, true, true, true, true, false, false, false, false, false, false] rfl rfl (any_of HT_.out (by kernel_rfl)) (fun _ _ _ h => h) (Or.inl ⟨by rfl, ?_⟩) ?_ ?_
                                            rotate_left
                                            · intro w'
                                              go_simp
                                              with_reducible rfl
                                            rotate_left
                                            · simp only [Act.put, List.setIfInBounds_toArray, List.set_cons_zero, List.set_cons_succ, i64_w, i32_w]
                                              rfl
                                            refine pure_ (i := 7) (N := some 129) (v := ?_) (a' := ?_) #[true, true, true, true, true, true, true, true, false, false, false, false, false] rfl rfl (any_of HT_.out (by kernel_rfl)) (fun _ _ _ h => h) (Or.inl ⟨by rfl, ?_⟩) ?_ ?_
                                            rotate_left
                                            · intro w'
                                              go_simp
                                              with_reducible rfl
                                            rotate_left
                                            · simp only [Act.put, List.setIfInBounds_toArray, List.set_cons_zero, List.set_cons_succ, i64_w, i32_w]
                                              rfl
                                            refine pure_ (i := 8) (N := some 130) (v := ?_) (a' := ?_) #[true, true, true, true, true, true, true, true, true, false, false, false, false] rfl rfl (any_of HT_.out (by kernel_rfl)) (fun _ _ _ h => h) (Or.inl ⟨by rfl, ?_⟩) ?_ ?_
                                            rotate_left
                                            · intro w'
                                              go_simp
                                              with_reducible rfl
                                            rotate_left
                                            · simp only [Act.put, List.setIfInBounds_toArray, List.set_cons_zero, List.set_cons_succ, i64_w, i32_w]
                                              rfl
                                            refine pure_ (i := 9) (N := some 131) (v := ?_) (a' := ?_) #[true, true, true, true, true, true, true, true, true, true, false, false, false] rfl rfl (any_of HT_.out (by kernel_rfl)) (fun _ _ _ h => h) (Or.inl ⟨by rfl, ?_⟩) ?_ ?_
                                            rotate_left
                                            · intro w'
                                              go_simp
                                              with_reducible rfl
                                            rotate_left
                                            · simp only [Act.put, List.setIfInBounds_toArray, List.set_cons_zero, List.set_cons_succ, i64_w, i32_w]
                                              rfl
                                            refine one_ (i := 10) (N := none) #[true, true, true, true, true, true, true, true, true, true, true, false, false] rfl rfl (one_of HT_.out (by kernel_rfl)) (by decide) (fun K hK => ?_)
                                            have hs86 : w85.cell? ⟨gb139, 0, none⟩ = some (.bool false) := (blk_cell BK139.out 0).trans rfl
                                            have hfs86 := blk_frozen BK139.out 0
                                            have hs87 : w85.cell? ⟨gb139, 1, none⟩ = some (.string (⟨#[]⟩ : ByteArray)) := (blk_cell BK139.out 1).trans rfl
                                            have hfs87 := blk_frozen BK139.out 1
                                            have hs88 : w85.cell? ⟨gb139, 2, none⟩ = some (.string (⟨#[]⟩ : ByteArray)) := (blk_cell BK139.out 2).trans rfl
                                            have hfs88 := blk_frozen BK139.out 2
                                            refine skip_ (w1 := ?_) (by rfl) rfl ?_ ?_
                                            rotate_left
                                            · go_simp
                                              rfl
                                            refine hK.out _ _ trivial (fun hHeld => ?_)
                                            clear hK K
                                            refine pure_ (i := 11) (N := some 5) (v := ?_) (a' := ?_) #[true, true, true, true, true, true, true, true, true, true, true, true, false] rfl rfl (any_of HT_.out (by kernel_rfl)) (fun _ _ _ h => h) (Or.inl ⟨by rfl, ?_⟩) ?_ ?_
                                            rotate_left
                                            · intro w'
                                              go_simp
                                              with_reducible rfl
                                            rotate_left
                                            · simp only [Act.put, List.setIfInBounds_toArray, List.set_cons_zero, List.set_cons_succ, i64_w, i32_w]
                                              rfl
                                            refine pure_ (i := 12) (N := some 6) (v := ?_) (a' := ?_) #[true, true, true, true, true, true, true, true, true, true, true, true, true] rfl rfl (any_of HT_.out (by kernel_rfl)) (fun _ _ _ h => h) (Or.inl ⟨by rfl, ?_⟩) ?_ ?_
                                            rotate_left
                                            · intro w'
                                              go_simp
                                              with_reducible rfl
                                            rotate_left
                                            · simp only [Act.put, List.setIfInBounds_toArray, List.set_cons_zero, List.set_cons_succ, i64_w, i32_w]
                                              rfl
                                            refine done_ (done_of HT_.out (by kernel_rfl)) ?_
                                            try go_wp2
                                            refine bodyPost_ret (results_ctt rfl _ _ gb139 23 #[.bool false, .string (a0.extract (a1 : Int).toNat (x9_45 : Int).toNat), .string (a0.extract (x9_45 : Int).toNat (x11_5 : Int).toNat)] (0, 0) _ rfl (by (with_reducible repeat (first | refine blk_drewN ?_ _ | refine blk_drew ?_ | refine blk_alloc ?_ _)); refine blk_put (cs := #[.bool false, .string (a0.extract (a1 : Int).toNat (x9_45 : Int).toNat), .string (⟨#[]⟩ : ByteArray)]) ?_ 2 _ rfl; (with_reducible repeat (first | refine blk_drewN ?_ _ | refine blk_drew ?_ | refine blk_alloc ?_ _)); refine blk_put (cs := #[.bool false, .string (⟨#[]⟩ : ByteArray), .string (⟨#[]⟩ : ByteArray)]) ?_ 1 _ rfl; (with_reducible repeat (first | refine blk_drewN ?_ _ | refine blk_drew ?_ | refine blk_alloc ?_ _)); refine blk_put (cs := #[.bool false, .string (⟨#[]⟩ : ByteArray), .string (⟨#[]⟩ : ByteArray)]) ?_ 0 _ rfl; (with_reducible repeat (first | refine blk_drewN ?_ _ | refine blk_drew ?_ | refine blk_alloc ?_ _)); exact BK139.out) Try.underlying23 rfl (by kernel_rfl)) rfl ?_
                                            exact ⟨by first | rfl | (simp [errW_none, errW_some] <;> rfl) | (simp [*, errW_none, errW_some] <;> rfl), by repeat (first | (with_reducible first | exact HB.out | apply below_alloc | apply pw_below_drewN | apply below_drew1 | refine below_set ?_ GE139.out) | exact HB.out)⟩
                                          · rw [if_neg c84] at H
                                            exact absurd H (by simp)
                                        · rw [if_neg c83] at H
                                          exact absurd H (by simp)
                                      · rw [if_neg c82] at H
                                        exact absurd H (by simp)
                                    · rw [if_neg c81] at H
                                      exact absurd H (by simp)
                                  · rw [if_neg c80] at H
                                    exact absurd H (by simp)
                                · rw [if_neg c79] at H
                                  exact absurd H (by simp)
                            · rw [if_neg c76] at H
                              have c76b0 : decide ((wrap64 (a1 + 1)) < x9_45) = false := decide_eq_false c76
                              (try (have c76b1 : decide (((a1 + 1)) < x9_45) = false := (by have e_ : wrap64 (a1 + 1) = (a1 + 1) := (by unfold wrap64; omega); have h_ : decide ((wrap64 (a1 + 1)) < x9_45) = false := decide_eq_false c76; rw [e_] at h_; exact h_)))
                              clear c76
                              by_cases c89 : 0 ≤ a1
                              · rw [if_pos c89] at H
                                have c89b0 := eq_true c89
                                have c89b1 : decide (0 ≤ a1) = true := decide_eq_true c89
                                clear c89
                                by_cases c90 : a1 ≤ x9_45
                                · rw [if_pos c90] at H
                                  have c90b0 := eq_true c90
                                  have c90b1 : decide (a1 ≤ x9_45) = true := decide_eq_true c90
                                  clear c90
                                  by_cases c91 : x9_45 ≤ (a0.size : Int)
                                  · rw [if_pos c91] at H
                                    have c91b0 := eq_true c91
                                    have c91b1 : decide (x9_45 ≤ (a0.size : Int)) = true := decide_eq_true c91
                                    clear c91
                                    by_cases c92 : 0 ≤ x9_45
                                    · rw [if_pos c92] at H
                                      have c92b0 := eq_true c92
                                      have c92b1 : decide (0 ≤ x9_45) = true := decide_eq_true c92
                                      clear c92
                                      by_cases c93 : x9_45 ≤ x11_5
                                      · rw [if_pos c93] at H
                                        have c93b0 := eq_true c93
                                        have c93b1 : decide (x9_45 ≤ x11_5) = true := decide_eq_true c93
                                        clear c93
                                        by_cases c94 : x11_5 ≤ (a0.size : Int)
                                        · rw [if_pos c94] at H
                                          have c94b0 := eq_true c94
                                          have c94b1 : decide (x11_5 ≤ (a0.size : Int)) = true := decide_eq_true c94
                                          clear c94
                                          simp only [Option.some.injEq, Prod.mk.injEq] at H
                                          obtain ⟨rfl, rfl, rfl, rfl, rfl⟩ := H
                                          try go_wp2
                                          have n0_ := Aside0.mk (blk_drew BK139.out)
                                          have n1_ := Aside0.mk (below_drew1 HB.out)
                                          clear BK139
                                          clear HB
                                          have BK139 := n0_
                                          have HB := n1_
                                          clear n0_ n1_
                                          refine start_ (n := 13) (S := fun w' => True) (ds := []) #[false, false, false, false, false, false, false, false, false, false, false, false, false] (by kernel_rfl) rfl rfl trivial (fun hHeld => ?_); refine with_tabW targumref12_Read.tab20 targumref12_Read.bits20 (fun HT_ HW_ => ?_)
                                          generalize wr.drew = w95 at BK139 HB hHeld ⊢
                                          refine pure_ (i := 0) (N := some 122) (v := ?_) (a' := ?_) #[true, false, false, false, false, false, false, false, false, false, false, false, false] rfl rfl (any_of HT_.out (by kernel_rfl)) (fun _ _ _ h => h) (Or.inl ⟨by rfl, ?_⟩) ?_ ?_
                                          rotate_left
                                          · intro w'
                                            go_simp
                                            with_reducible rfl
                                          rotate_left
                                          · simp only [Act.put, List.setIfInBounds_toArray, List.set_cons_zero, List.set_cons_succ, i64_w, i32_w]
                                            rfl
                                          refine pure_ (i := 1) (N := some 123) (v := ?_) (a' := ?_) #[true, true, false, false, false, false, false, false, false, false, false, false, false] rfl rfl (any_of HT_.out (by kernel_rfl)) (fun _ _ _ h => h) (Or.inl ⟨by rfl, ?_⟩) ?_ ?_
                                          rotate_left
                                          · intro w'
                                            go_simp
                                            with_reducible rfl
                                          rotate_left
                                          · simp only [Act.put, List.setIfInBounds_toArray, List.set_cons_zero, List.set_cons_succ, i64_w, i32_w]
                                            rfl
                                          refine pure_ (i := 2) (N := some 124) (v := ?_) (a' := ?_) #[true, true, true, false, false, false, false, false, false, false, false, false, false] rfl rfl (any_of HT_.out (by kernel_rfl)) (fun _ _ _ h => h) (Or.inl ⟨by rfl, ?_⟩) ?_ ?_
                                          rotate_left
                                          · intro w'
                                            go_simp
                                            with_reducible rfl
                                          rotate_left
                                          · simp only [Act.put, List.setIfInBounds_toArray, List.set_cons_zero, List.set_cons_succ, i64_w, i32_w]
                                            rfl
                                          refine pure_ (i := 3) (N := some 125) (v := ?_) (a' := ?_) #[true, true, true, true, false, false, false, false, false, false, false, false, false] rfl rfl (any_of HT_.out (by kernel_rfl)) (fun _ _ _ h => h) (Or.inl ⟨by rfl, ?_⟩) ?_ ?_
                                          rotate_left
                                          · intro w'
                                            go_simp
                                            with_reducible rfl
                                          rotate_left
                                          · simp only [Act.put, List.setIfInBounds_toArray, List.set_cons_zero, List.set_cons_succ, i64_w, i32_w]
                                            rfl
                                          refine pure_ (i := 4) (N := some 126) (v := ?_) (a' := ?_) #[true, true, true, true, true, false, false, false, false, false, false, false, false] rfl rfl (any_of HT_.out (by kernel_rfl)) (fun _ _ _ h => h) (Or.inl ⟨by rfl, ?_⟩) ?_ ?_
                                          rotate_left
                                          · intro w'
                                            go_simp
                                            with_reducible rfl
                                          rotate_left
                                          · simp only [Act.put, List.setIfInBounds_toArray, List.set_cons_zero, List.set_cons_succ, i64_w, i32_w]
                                            rfl
                                          refine pure_ (i := 5) (N := some 127) (v := ?_) (a' := ?_) #[true, true, true, true, true, true, false, false, false, false, false, false, false] rfl rfl (any_of HT_.out (by kernel_rfl)) (fun _ _ _ h => h) (Or.inl ⟨by rfl, ?_⟩) ?_ ?_
                                          rotate_left
                                          · intro w'
                                            go_simp
                                            with_reducible rfl
                                          rotate_left
                                          · simp only [Act.put, List.setIfInBounds_toArray, List.set_cons_zero, List.set_cons_succ, i64_w, i32_w]
                                            rfl
                                          refine pure_ (i := 6) (N := some 128) (v := ?_) (a' := ?_) #[true, true, true, true, true, true, true, false, false, false, false, false, false] rfl rfl (any_of HT_.out (by kernel_rfl)) (fun _ _ _ h => h) (Or.inl ⟨by rfl, ?_⟩) ?_ ?_
                                          rotate_left
                                          · intro w'
                                            go_simp
                                            with_reducible rfl
                                          rotate_left
                                          · simp only [Act.put, List.setIfInBounds_toArray, List.set_cons_zero, List.set_cons_succ, i64_w, i32_w]
                                            rfl
                                          refine pure_ (i := 7) (N := some 129) (v := ?_) (a' := ?_) #[true, true, true, true, true, true, true, true, false, false, false, false, false] rfl rfl (any_of HT_.out (by kernel_rfl)) (fun _ _ _ h => h) (Or.inl ⟨by rfl, ?_⟩) ?_ ?_
                                          rotate_left
                                          · intro w'
                                            go_simp
                                            with_reducible rfl
                                          rotate_left
                                          · simp only [Act.put, List.setIfInBounds_toArray, List.set_cons_zero, List.set_cons_succ, i64_w, i32_w]
                                            rfl
                                          refine pure_ (i := 8) (N := some 130) (v := ?_) (a' := ?_) #[true, true, true, true, true, true, true, true, true, false, false, false, false] rfl rfl (any_of HT_.out (by kernel_rfl)) (fun _ _ _ h => h) (Or.inl ⟨by rfl, ?_⟩) ?_ ?_
                                          rotate_left
                                          · intro w'
                                            go_simp
                                            with_reducible rfl
                                          rotate_left
                                          · simp only [Act.put, List.setIfInBounds_toArray, List.set_cons_zero, List.set_cons_succ, i64_w, i32_w]
                                            rfl
                                          refine pure_ (i := 9) (N := some 131) (v := ?_) (a' := ?_) #[true, true, true, true, true, true, true, true, true, true, false, false, false] rfl rfl (any_of HT_.out (by kernel_rfl)) (fun _ _ _ h => h) (Or.inl ⟨by rfl, ?_⟩) ?_ ?_
                                          rotate_left
                                          · intro w'
                                            go_simp
                                            with_reducible rfl
                                          rotate_left
                                          · simp only [Act.put, List.setIfInBounds_toArray, List.set_cons_zero, List.set_cons_succ, i64_w, i32_w]
                                            rfl
                                          refine one_ (i := 10) (N := none) #[true, true, true, true, true, true, true, true, true, true, true, false, false] rfl rfl (one_of HT_.out (by kernel_rfl)) (by decide) (fun K hK => ?_)
                                          have hs96 : w95.cell? ⟨gb139, 0, none⟩ = some (.bool false) := (blk_cell BK139.out 0).trans rfl
                                          have hfs96 := blk_frozen BK139.out 0
                                          have hs97 : w95.cell? ⟨gb139, 1, none⟩ = some (.string (⟨#[]⟩ : ByteArray)) := (blk_cell BK139.out 1).trans rfl
                                          have hfs97 := blk_frozen BK139.out 1
                                          have hs98 : w95.cell? ⟨gb139, 2, none⟩ = some (.string (⟨#[]⟩ : ByteArray)) := (blk_cell BK139.out 2).trans rfl
                                          have hfs98 := blk_frozen BK139.out 2
                                          refine skip_ (w1 := ?_) (by rfl) rfl ?_ ?_
                                          rotate_left
                                          · go_simp
                                            rfl
                                          refine hK.out _ _ trivial (fun hHeld => ?_)
                                          clear hK K
                                          refine pure_ (i := 11) (N := some 5) (v := ?_) (a' := ?_) #[true, true, true, true, true, true, true, true, true, true, true, true, false] rfl rfl (any_of HT_.out (by kernel_rfl)) (fun _ _ _ h => h) (Or.inl ⟨by rfl, ?_⟩) ?_ ?_
                                          rotate_left
                                          · intro w'
                                            go_simp
                                            with_reducible rfl
                                          rotate_left
                                          · simp only [Act.put, List.setIfInBounds_toArray, List.set_cons_zero, List.set_cons_succ, i64_w, i32_w]
                                            rfl
                                          refine pure_ (i := 12) (N := some 6) (v := ?_) (a' := ?_) #[true, true, true, true, true, true, true, true, true, true, true, true, true] rfl rfl (any_of HT_.out (by kernel_rfl)) (fun _ _ _ h => h) (Or.inl ⟨by rfl, ?_⟩) ?_ ?_
                                          rotate_left
                                          · intro w'
                                            go_simp
                                            with_reducible rfl
                                          rotate_left
                                          · simp only [Act.put, List.setIfInBounds_toArray, List.set_cons_zero, List.set_cons_succ, i64_w, i32_w]
                                            rfl
                                          refine done_ (done_of HT_.out (by kernel_rfl)) ?_
                                          try go_wp2
                                          refine bodyPost_ret (results_ctt rfl _ _ gb139 23 #[.bool false, .string (a0.extract (a1 : Int).toNat (x9_45 : Int).toNat), .string (a0.extract (x9_45 : Int).toNat (x11_5 : Int).toNat)] (0, 0) _ rfl (by (with_reducible repeat (first | refine blk_drewN ?_ _ | refine blk_drew ?_ | refine blk_alloc ?_ _)); refine blk_put (cs := #[.bool false, .string (a0.extract (a1 : Int).toNat (x9_45 : Int).toNat), .string (⟨#[]⟩ : ByteArray)]) ?_ 2 _ rfl; (with_reducible repeat (first | refine blk_drewN ?_ _ | refine blk_drew ?_ | refine blk_alloc ?_ _)); refine blk_put (cs := #[.bool false, .string (⟨#[]⟩ : ByteArray), .string (⟨#[]⟩ : ByteArray)]) ?_ 1 _ rfl; (with_reducible repeat (first | refine blk_drewN ?_ _ | refine blk_drew ?_ | refine blk_alloc ?_ _)); refine blk_put (cs := #[.bool false, .string (⟨#[]⟩ : ByteArray), .string (⟨#[]⟩ : ByteArray)]) ?_ 0 _ rfl; (with_reducible repeat (first | refine blk_drewN ?_ _ | refine blk_drew ?_ | refine blk_alloc ?_ _)); exact BK139.out) Try.underlying23 rfl (by kernel_rfl)) rfl ?_
                                          exact ⟨by first | rfl | (simp [errW_none, errW_some] <;> rfl) | (simp [*, errW_none, errW_some] <;> rfl), by repeat (first | (with_reducible first | exact HB.out | apply below_alloc | apply pw_below_drewN | apply below_drew1 | refine below_set ?_ GE139.out) | exact HB.out)⟩
                                        · rw [if_neg c94] at H
                                          exact absurd H (by simp)
                                      · rw [if_neg c93] at H
                                        exact absurd H (by simp)
                                    · rw [if_neg c92] at H
                                      exact absurd H (by simp)
                                  · rw [if_neg c91] at H
                                    exact absurd H (by simp)
                                · rw [if_neg c90] at H
                                  exact absurd H (by simp)
                              · rw [if_neg c89] at H
                                exact absurd H (by simp)

end Go.Proofs.Ytmceepmchfjinaa.Q
