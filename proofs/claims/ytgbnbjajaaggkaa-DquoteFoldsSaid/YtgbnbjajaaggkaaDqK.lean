/- The laws' known of the texts in double quotes: four texts are read as they should be. No condition. -/
import Derived.Test.YtgbnbjajaaggkaaDqE
import Derived.Test.YtgbnbjajaaggkaaHoldRow
namespace Go.Proofs.Ytgbnbjajaaggkaa.Q
open Go Go.RowKit Go.Proofs Go.Proofs.YtgbnbjajaaggkaaW.PrintWords Go.Proofs.YtgbnbjajaaggkaaW.PrintLast Go.Proofs.YtgbnbjajaaggkaaW.PrintMore
set_option linter.unusedVariables false
set_option linter.unusedSimpArgs false

def dquote_Read.f (a0 : Int) (a1 : ByteArray) (a2 : Int) : Option (ByteArray × Int × Int × Int) := if a1.size ≤ 1000000 then some (readF a0 a1 a2) else none
theorem dquote_Read.calls (a0 : Int) (a1 : ByteArray) (a2 : Int) (r1 : ByteArray) (r2 : Int) (r3 : Int) (r4 : Int) (w : World) (h : dquote_Read.f a0 a1 a2 = some (r1, r2, r3, r4)) :
    Calls Try.prog 14 #[.int .i64 a0, .string a1, .int .i64 a2] w fun e w' => e = .returned (.tuple #[.string r1, .int .i64 r2, .agg #[.int .i64 r3, .int .i64 r4]]) ∧ Below w.heap.size w w' := by
  unfold dquote_Read.f at h
  split at h
  · rename_i hs
    have h2 := Option.some.inj h
    have h3 := Read_says a0 a1 a2 w hs
    rw [h2] at h3
    exact h3
  · cases h

theorem known_r0 : dquote_Read.f 11 ⟨#[34, 97, 92, 120, 52, 49, 34]⟩ 0 = some (⟨#[97, 65]⟩, 7, 0, 0) := by
  unfold dquote_Read.f
  rw [if_pos (by decide)]
  exact congrArg some (by decide +kernel)
theorem known_r1 : dquote_Read.f 11 ⟨#[34, 92, 47, 34]⟩ 0 = some (⟨#[]⟩, 0, 14, 1) := by
  unfold dquote_Read.f
  rw [if_pos (by decide)]
  exact congrArg some (by decide +kernel)
theorem known_r2 : dquote_Read.f 12 ⟨#[120, 34, 92, 47, 32, 10, 10, 32, 98, 92, 10, 32, 32, 99, 34]⟩ 1 = some (⟨#[47, 10, 98, 99]⟩, 15, 0, 0) := by
  unfold dquote_Read.f
  rw [if_pos (by decide)]
  exact congrArg some (by decide +kernel)
theorem known_r3 : dquote_Read.f 12 ⟨#[34, 97, 10, 45, 45, 45, 34]⟩ 0 = some (⟨#[97, 32, 45, 45, 45]⟩, 7, 0, 0) := by
  unfold dquote_Read.f
  rw [if_pos (by decide)]
  exact congrArg some (by decide +kernel)
/-! ### targumlaw17_known -/
def targumlaw17_known.f : Option Bool := some true
set_option maxHeartbeats 20000000 in
set_option maxRecDepth 100000 in
theorem targumlaw17_known.calls (r : Bool) (w : World) (h : targumlaw17_known.f = some r) :
    Calls Try.prog 8 #[] w fun e w' => e = .returned (.bool r) ∧ Below w.heap.size w w' := by
  obtain rfl := Option.some.inj h
  clear h
  have c0 : ∀ w, Calls Try.prog 14 #[.int .i64 11, .string ⟨#[34, 97, 92, 120, 52, 49, 34]⟩, .int .i64 0] w fun e w' => e = .returned (.tuple #[.string ⟨#[97, 65]⟩, .int .i64 7, .agg #[.int .i64 0, .int .i64 0]]) ∧ Below w.heap.size w w' := fun w => dquote_Read.calls _ _ _ _ _ _ _ w known_r0
  have c1 : ∀ w, Calls Try.prog 14 #[.int .i64 11, .string ⟨#[34, 92, 47, 34]⟩, .int .i64 0] w fun e w' => e = .returned (.tuple #[.string ⟨#[]⟩, .int .i64 0, .agg #[.int .i64 14, .int .i64 1]]) ∧ Below w.heap.size w w' := fun w => dquote_Read.calls _ _ _ _ _ _ _ w known_r1
  have c2 : ∀ w, Calls Try.prog 14 #[.int .i64 12, .string ⟨#[120, 34, 92, 47, 32, 10, 10, 32, 98, 92, 10, 32, 32, 99, 34]⟩, .int .i64 1] w fun e w' => e = .returned (.tuple #[.string ⟨#[47, 10, 98, 99]⟩, .int .i64 15, .agg #[.int .i64 0, .int .i64 0]]) ∧ Below w.heap.size w w' := fun w => dquote_Read.calls _ _ _ _ _ _ _ w known_r2
  have c3 : ∀ w, Calls Try.prog 14 #[.int .i64 12, .string ⟨#[34, 97, 10, 45, 45, 45, 34]⟩, .int .i64 0] w fun e w' => e = .returned (.tuple #[.string ⟨#[97, 32, 45, 45, 45]⟩, .int .i64 7, .agg #[.int .i64 0, .int .i64 0]]) ∧ Below w.heap.size w w' := fun w => dquote_Read.calls _ _ _ _ _ _ _ w known_r3
  have H := Holds.nil w
  go_enter Try.func8, Try.ntmps8
  go_wp2_with (first | ((with_reducible refine (c0 _).mono ?_); rintro e w' ⟨rfl, hb⟩; replace H := H.on hb; clear hb) | ((with_reducible refine (c1 _).mono ?_); rintro e w' ⟨rfl, hb⟩; replace H := H.on hb; clear hb) | ((with_reducible refine (c2 _).mono ?_); rintro e w' ⟨rfl, hb⟩; replace H := H.on hb; clear hb) | ((with_reducible refine (c3 _).mono ?_); rintro e w' ⟨rfl, hb⟩; replace H := H.on hb; clear hb) | (refine wpList_alloc_H rfl 32 rfl _ (Try.zeroValue32) _ rfl H ?_; intro b w1 H1 hb1; replace H := H1; clear H1 hb1) | (refine wpList_store_H rfl 32 _ _ rfl _ _ rfl _ rfl (Try.sizeOf32) rfl (A := []) H (Nat.le_of_ble_eq_true rfl) _ rfl ?_; intro w2 H2 hg2; replace H := H2; clear H2 hg2) | (refine wpList_store_H rfl 32 _ _ rfl _ _ rfl _ rfl (Try.sizeOf32) rfl (A := [_]) H (Nat.le_of_ble_eq_true rfl) _ rfl ?_; intro w2 H2 hg2; replace H := H2; clear H2 hg2) | (refine wpList_store_H rfl 32 _ _ rfl _ _ rfl _ rfl (Try.sizeOf32) rfl (A := [_, _]) H (Nat.le_of_ble_eq_true rfl) _ rfl ?_; intro w2 H2 hg2; replace H := H2; clear H2 hg2) | (refine wpList_store_H rfl 32 _ _ rfl _ _ rfl _ rfl (Try.sizeOf32) rfl (A := [_, _, _]) H (Nat.le_of_ble_eq_true rfl) _ rfl ?_; intro w2 H2 hg2; replace H := H2; clear H2 hg2) | (refine wpList_store_H rfl 32 _ _ rfl _ _ rfl _ rfl (Try.sizeOf32) rfl (A := [_, _, _, _]) H (Nat.le_of_ble_eq_true rfl) _ rfl ?_; intro w2 H2 hg2; replace H := H2; clear H2 hg2) | (refine wpList_load_H rfl 30 _ rfl (Try.isAgg30) _ _ rfl H (.head _) _ rfl ?_) | (refine wpList_load_H rfl 30 _ rfl (Try.isAgg30) _ _ rfl H (.tail _ (.head _)) _ rfl ?_) | (refine wpList_load_H rfl 30 _ rfl (Try.isAgg30) _ _ rfl H (.tail _ (.tail _ (.head _))) _ rfl ?_) | (refine wpList_load_H rfl 30 _ rfl (Try.isAgg30) _ _ rfl H (.tail _ (.tail _ (.tail _ (.head _)))) _ rfl ?_) | (refine wpList_loads_H rfl 32 _ rfl (Try.isAgg32) 2 (Try.sizeOf32) _ _ rfl H (.head _) (Nat.le_of_ble_eq_true rfl) _ rfl ?_) | (refine wpList_loads_H rfl 32 _ rfl (Try.isAgg32) 2 (Try.sizeOf32) _ _ rfl H (.tail _ (.head _)) (Nat.le_of_ble_eq_true rfl) _ rfl ?_) | (refine wpList_loads_H rfl 32 _ rfl (Try.isAgg32) 2 (Try.sizeOf32) _ _ rfl H (.tail _ (.tail _ (.head _))) (Nat.le_of_ble_eq_true rfl) _ rfl ?_) | (refine wpList_loads_H rfl 32 _ rfl (Try.isAgg32) 2 (Try.sizeOf32) _ _ rfl H (.tail _ (.tail _ (.tail _ (.head _)))) (Nat.le_of_ble_eq_true rfl) _ rfl ?_))
  go_ret
  exact ⟨rfl, H.below⟩
end Go.Proofs.Ytgbnbjajaaggkaa.Q
