/- The law PropTwice: its walk. Conditions: sizes and numbers as the row gives them. -/
import Derived.Test.YtaoameejkpipcaaHoldDraw
import Derived.Test.YtaoameejkpipcaaQx0
import Derived.WalkKit
import Derived.LoopTactic
import Derived.Outline
import Derived.Deep.DeepCutAuto
import Derived.IntWalk
import Derived.WalkLawsBesides
import Derived.WalkSpells
import Derived.KernelRfl
namespace Go.Proofs.Ytaoameejkpipcaa.Q
open Go Go.RowKit Go.Proofs.YtaoameejkpipcaaW.PrintWords Go.Proofs.YtaoameejkpipcaaW.PrintLast Go.Proofs.YtaoameejkpipcaaW.PrintMore
set_option linter.unusedVariables false
set_option linter.unusedSimpArgs false

set_option maxRecDepth 100000 in
set_option maxHeartbeats 4000000 in
theorem targumlaw21_PropTwice.early (a0 a1 : ByteArray) (a2 a3 a4 : Bool) (a5 : Int) (w : World)
    (cK : ∀ w, Calls Try.prog 7 #[] w fun e w' => e = .returned (.bool true) ∧ Below w.heap.size w w')
    (h : 40 < (a0.size : Int) ∨ 40 < (a1.size : Int)) :
    Calls Try.prog 5 #[.string a0, .string a1, .bool a2, .bool a3, .bool a4, .int .u8 a5] w fun e w' => e = .returned (.bool true) ∧ Below w.heap.size w w' := by
  have H := Holds.nil w
  rcases h with h | h
  · have hd : decide ((40 : Int) < (a0.size : Int)) = true := decide_eq_true h
    go_enter Try.func5, Try.ntmps5
    go_wp2_with ((with_reducible refine (cK _).mono ?_); rintro e w' ⟨rfl, hb⟩; replace H := H.on hb; clear hb)
    all_goals
      go_ret
      exact ⟨rfl, H.below⟩
  · have hd : decide ((40 : Int) < (a1.size : Int)) = true := decide_eq_true h
    go_enter Try.func5, Try.ntmps5
    go_wp2_with ((with_reducible refine (cK _).mono ?_); rintro e w' ⟨rfl, hb⟩; replace H := H.on hb; clear hb)
    all_goals
      go_ret
      exact ⟨rfl, H.below⟩

set_option maxRecDepth 100000 in
set_option maxHeartbeats 4000000 in
theorem targumlaw21_PropTwice.walk (a0 a1 m0 m1 a b bad other : ByteArray) (a2 a3 a4 : Bool) (a5 v b0 : Int) (w : World)
    (cK : ∀ w, Calls Try.prog 7 #[] w fun e w' => e = .returned (.bool true) ∧ Below w.heap.size w w')
    (cV : ∀ w, Calls Try.prog 9 #[.bool a2] w fun e w' => e = .returned (.int .i64 v) ∧ Drawn0 w w')
    (cN0 : ∀ w, Calls Try.prog 18 #[.string a0] w fun e w' => e = .returned (.string m0) ∧ Drawn0 w w')
    (cN1 : ∀ w, Calls Try.prog 18 #[.string a1] w fun e w' => e = .returned (.string m1) ∧ Drawn0 w w')
    (h40 : a0.size ≤ 40) (h41 : a1.size ≤ 40) (hm0 : m0.size ≤ 100) (hm1 : m1.size ≤ 100) (h5 : 0 ≤ a5) (h6 : a5 ≤ 255) (hbad : bad.size ≤ 10) (hbad0 : 0 < bad.size) (hsa : a.size ≤ 200) (hsb : b.size ≤ 200)
    (Ha : Hid (a = if a4 = true then ((⟨#[33, 60]⟩ : ByteArray) ++ m0) ++ ⟨#[62]⟩ else (⟨#[38]⟩ : ByteArray) ++ m0)) (Hb : Hid (b = if a4 = true then (⟨#[33]⟩ : ByteArray) ++ m1 else (⟨#[38]⟩ : ByteArray) ++ m1))
    (hix : ∀ w, (Instr.index 45 (.agg #[.string ⟨#[38]⟩, .string ⟨#[33, 60]⟩, .string ⟨#[38, 97, 58]⟩, .string ⟨#[38, 97, 42]⟩, .string ⟨#[33, 60, 120, 62, 120]⟩]) (.int .u8 (a5 % 5))).run Try.prog w = .ok (.string bad) w)
    (hi0 : ∀ w, (Instr.index 9 (.string bad) (.int .i64 0)).run Try.prog w = .ok (.int .u8 b0) w)
    (h0 : b0 = 33 ∧ other = ⟨#[38, 121]⟩ ∨ b0 = 38 ∧ other = ⟨#[33, 121]⟩)
    (cR1 : ∀ w, Calls Try.prog 13 #[.int .i64 v, .string (((a ++ ⟨#[32]⟩) ++ b) ++ ⟨#[32, 120]⟩), .int .i64 0, .bool a3] w fun e w' => e = .returned (.tuple #[.agg #[.bool false, .bool false, .bool false, .string ⟨#[]⟩, .string ⟨#[]⟩, .string ⟨#[]⟩, .int .i64 0, .int .i64 0, .int .i64 0], .int .i64 0, .agg #[.int .i64 11, .int .i64 ((a.size : Int) + 1)]]) ∧ Below w.heap.size w w')
    (cR2 : ∀ w, Calls Try.prog 13 #[.int .i64 v, .string (bad ++ ⟨#[32, 120]⟩), .int .i64 0, .bool a3] w fun e w' => e = .returned (.tuple #[.agg #[.bool false, .bool false, .bool false, .string ⟨#[]⟩, .string ⟨#[]⟩, .string ⟨#[]⟩, .int .i64 0, .int .i64 0, .int .i64 0], .int .i64 0, .agg #[.int .i64 11, .int .i64 (0)]]) ∧ Below w.heap.size w w')
    (cR3 : ∀ w, Calls Try.prog 13 #[.int .i64 v, .string (((other ++ ⟨#[32, 32]⟩) ++ bad) ++ ⟨#[10]⟩), .int .i64 0, .bool a3] w fun e w' => e = .returned (.tuple #[.agg #[.bool false, .bool false, .bool false, .string ⟨#[]⟩, .string ⟨#[]⟩, .string ⟨#[]⟩, .int .i64 0, .int .i64 0, .int .i64 0], .int .i64 0, .agg #[.int .i64 11, .int .i64 (4)]]) ∧ Below w.heap.size w w') :
    Calls Try.prog 5 #[.string a0, .string a1, .bool a2, .bool a3, .bool a4, .int .u8 a5] w fun e w' => e = .returned (.bool true) ∧ Below w.heap.size w w' := by
  have H := Holds.nil w
  go_enter Try.func5, Try.ntmps5
  go_upto_if 45 with (first | ((with_reducible refine (cK _).mono ?_); rintro e w' ⟨rfl, hb⟩; replace H := H.on hb; clear hb) | ((with_reducible refine (cV _).mono ?_); rintro e w' ⟨rfl, hb⟩; replace H := H.on hb.below; clear hb) | ((with_reducible refine (cN0 _).mono ?_); rintro e w' ⟨rfl, hb⟩; replace H := H.on hb.below; clear hb) | ((with_reducible refine (cN1 _).mono ?_); rintro e w' ⟨rfl, hb⟩; replace H := H.on hb.below; clear hb))
  go_cut [14, 15] (fun s14 s15 wx => s14 = .string a ∧ s15 = .string b ∧ Holds w [] wx)
  case first =>
    cases a4
    · go_wp2_with (first | ((with_reducible refine (cK _).mono ?_); rintro e w' ⟨rfl, hb⟩; replace H := H.on hb; clear hb) | ((with_reducible refine (cV _).mono ?_); rintro e w' ⟨rfl, hb⟩; replace H := H.on hb.below; clear hb) | ((with_reducible refine (cN0 _).mono ?_); rintro e w' ⟨rfl, hb⟩; replace H := H.on hb.below; clear hb) | ((with_reducible refine (cN1 _).mono ?_); rintro e w' ⟨rfl, hb⟩; replace H := H.on hb.below; clear hb))
      go_meet
      case rel => exact ⟨by rw [Ha.out]; rfl, by rw [Hb.out]; rfl, H⟩
    · go_wp2_with (first | ((with_reducible refine (cK _).mono ?_); rintro e w' ⟨rfl, hb⟩; replace H := H.on hb; clear hb) | ((with_reducible refine (cV _).mono ?_); rintro e w' ⟨rfl, hb⟩; replace H := H.on hb.below; clear hb) | ((with_reducible refine (cN0 _).mono ?_); rintro e w' ⟨rfl, hb⟩; replace H := H.on hb.below; clear hb) | ((with_reducible refine (cN1 _).mono ?_); rintro e w' ⟨rfl, hb⟩; replace H := H.on hb.below; clear hb))
      go_meet
      case rel => exact ⟨by rw [Ha.out]; rfl, by rw [Hb.out]; rfl, H⟩
  case rest =>
    obtain ⟨rfl, rfl, H⟩ := hcut
    clear cK cV cN0 cN1 Ha Hb
    rcases h0 with ⟨rfl, rfl⟩ | ⟨rfl, rfl⟩
    all_goals
      go_wp2_with (first | ((with_reducible refine (cR1 _).mono ?_); rintro e w' ⟨rfl, hb⟩; replace H := H.on hb; clear hb) | ((with_reducible refine (cR2 _).mono ?_); rintro e w' ⟨rfl, hb⟩; replace H := H.on hb; clear hb) | ((with_reducible refine (cR3 _).mono ?_); rintro e w' ⟨rfl, hb⟩; replace H := H.on hb; clear hb) | (((with_reducible refine at_alloc 33 ?_)); refine wpList_alloc_H rfl 33 rfl _ (Try.zeroValue33) _ rfl H ?_; intro b w1 H1 hb1; replace H := H1; clear H1 hb1) | (((with_reducible refine at_alloc 36 ?_)); refine wpList_alloc_H rfl 36 rfl _ (Try.zeroValue36) _ rfl H ?_; intro b w1 H1 hb1; replace H := H1; clear H1 hb1) | (((with_reducible refine at_store 33 ?_)); refine wpList_store_H rfl 33 _ _ rfl _ _ rfl _ rfl (Try.sizeOf33) rfl (A := [_]) H (Nat.le_of_ble_eq_true rfl) _ rfl ?_; intro w2 H2 hg2; replace H := H2; clear H2 hg2) | (((with_reducible refine at_store 36 ?_)); refine wpList_store_H rfl 36 _ _ rfl _ _ rfl _ rfl (Try.sizeOf36) rfl (A := []) H (Nat.le_of_ble_eq_true rfl) _ rfl ?_; intro w2 H2 hg2; replace H := H2; clear H2 hg2) | (((with_reducible refine at_load 36 ?_)); refine wpList_loads_H rfl 36 _ rfl (Try.isAgg36) 2 (Try.sizeOf36) _ _ rfl H (.tail _ (.tail _ (.tail _ (.tail _ (.head _))))) (Nat.le_of_ble_eq_true rfl) _ rfl ?_) | (((with_reducible refine at_load 36 ?_)); refine wpList_loads_H rfl 36 _ rfl (Try.isAgg36) 2 (Try.sizeOf36) _ _ rfl H (.tail _ (.tail _ (.head _))) (Nat.le_of_ble_eq_true rfl) _ rfl ?_) | (((with_reducible refine at_load 36 ?_)); refine wpList_loads_H rfl 36 _ rfl (Try.isAgg36) 2 (Try.sizeOf36) _ _ rfl H (.head _) (Nat.le_of_ble_eq_true rfl) _ rfl ?_))
      go_ret
      exact ⟨rfl, H.below⟩
end Go.Proofs.Ytaoameejkpipcaa.Q
