/- The law PropTells: its walk, with what its callees tell, and that it answers true. Conditions: sizes and numbers as the row gives them. -/
import Derived.Test.YtaoameejkpipcaaHoldRow
import Derived.Test.YtaoameejkpipcaaPropSame
import Derived.Test.YtaoameejkpipcaaQx3
import Derived.Test.YtaoameejkpipcaaQx5
import Derived.WalkKit
import Derived.LoopTactic
import Derived.Outline
import Derived.Deep.LoopGhost
import Derived.IntWalk
import Derived.Deep.QuietTactic
import Derived.BigQuiet
namespace Go.Proofs.Ytaoameejkpipcaa.Q
open Go Go.RowKit Go.Proofs.YtaoameejkpipcaaW.PrintWords Go.Proofs.YtaoameejkpipcaaW.PrintLast Go.Proofs.YtaoameejkpipcaaW.PrintMore
set_option linter.unusedVariables false
set_option linter.unusedSimpArgs false

theorem within_some (a lo hi : Int) (h0 : -1000000 ≤ lo) (h1 : lo ≤ hi) (h2 : hi ≤ 1000000) : ∃ y, targumhelp_Within.f a lo hi = some y := by
  unfold targumhelp_Within.f
  rw [wrap_id (x := hi - lo) (by omega) (by omega), wrap_id (x := hi - lo + 1) (by omega) (by omega), if_neg (by omega)]
  split <;> exact ⟨_, rfl⟩

theorem cut_some (s : ByteArray) (i : Int) : ∃ b, targumhelp_Cut.f s i = some b := by
  unfold targumhelp_Cut.f
  by_cases h0 : i > 0
  · rw [if_pos h0]
    by_cases h1 : i < (s.size : Int)
    · rw [if_pos h1, if_pos (by omega)]
      split <;> exact ⟨_, rfl⟩
    · rw [if_neg h1]; exact ⟨_, rfl⟩
  · rw [if_neg h0]; exact ⟨_, rfl⟩

theorem text_le (l : List Int) (h : l.length ≤ 60) : (textOf targumlaw21_text.signs 28 l).size ≤ 400 := by
  have := textOf_size targumlaw21_text.signs 28 6 (by decide) l ⟨#[]⟩
  have e0 : (⟨#[]⟩ : ByteArray).size = 0 := rfl
  unfold textOf
  omega

set_option maxRecDepth 100000 in
set_option maxHeartbeats 20000000 in
theorem targumlaw21_PropTells.walk (a0 t : ByteArray) (A1 : Option Addr) (c1 : Nat) (l1 : List Int) (a2 v : Int) (a3 a4 : Bool) (w : World)
    (cK : ∀ w, Calls Try.prog 7 #[] w fun e w' => e = .returned (.bool true) ∧ Below w.heap.size w w')
    (cF : ∀ w, Calls Try.prog 8 #[.string a0, .int .i64 200] w fun e w' => e = .returned (.bool true) ∧ Drawn0 w w')
    (h60 : l1.length ≤ 60)
    (cV : ∀ w, Calls Try.prog 9 #[.bool a3] w fun e w' => e = .returned (.int .i64 v) ∧ Drawn0 w w')
    (cT : ∀ w0, Below w.heap.size w w0 → Calls Try.prog 10 #[.slice A1 l1.length c1] w0 fun e w' => e = .returned (.string t) ∧ Below w0.heap.size w0 w')
    (hsz : a0.size ≤ 200) (ht : t.size ≤ 400)
    (cW : ∀ x : ByteArray, x.size ≤ 1000 → ∃ y : Int, ∀ w, Calls Try.prog 11 #[.int .i64 a2, .int .i64 (-1), .int .i64 ((x.size : Int) + 1)] w fun e w' => e = .returned (.int .i64 y) ∧ Drawn0 w w')
    (cC : ∀ (x : ByteArray) (k : Int), x.size ≤ 1000 → ∃ b : Bool, ∀ w, Calls Try.prog 12 #[.string x, .int .i64 k] w fun e w' => e = .returned (.bool b) ∧ Drawn0 w w')
    (cP : ∀ (x : ByteArray) (k : Int), x.size ≤ 1000 → ∃ r : Bool × Bool × Bool × ByteArray × ByteArray × ByteArray × Int × Int × Int × Int × Int × Int,
      (∀ w, Calls Try.prog 13 #[.int .i64 v, .string x, .int .i64 k, .bool a4] w fun e w' => e = .returned (.tuple #[.agg #[.bool r.1, .bool r.2.1, .bool r.2.2.1, .string r.2.2.2.1, .string r.2.2.2.2.1, .string r.2.2.2.2.2.1, .int .i64 r.2.2.2.2.2.2.1, .int .i64 r.2.2.2.2.2.2.2.1, .int .i64 r.2.2.2.2.2.2.2.2.1], .int .i64 r.2.2.2.2.2.2.2.2.2.1, .agg #[.int .i64 r.2.2.2.2.2.2.2.2.2.2.1, .int .i64 r.2.2.2.2.2.2.2.2.2.2.2]]) ∧ Below w.heap.size w w') ∧
      (∀ w, Calls Try.prog 14 #[.int .i64 v, .string x, .int .i64 k, .bool a4] w fun e w' => e = .returned (.tuple #[.agg #[.bool r.1, .bool r.2.1, .bool r.2.2.1, .string r.2.2.2.1, .string r.2.2.2.2.1, .string r.2.2.2.2.2.1, .int .i64 r.2.2.2.2.2.2.1, .int .i64 r.2.2.2.2.2.2.2.1, .int .i64 r.2.2.2.2.2.2.2.2.1], .int .i64 r.2.2.2.2.2.2.2.2.2.1, .agg #[.int .i64 r.2.2.2.2.2.2.2.2.2.2.1, .int .i64 r.2.2.2.2.2.2.2.2.2.2.2]]) ∧ Below w.heap.size w w'))
    (cA : ∀ (x : ByteArray) (k : Int), x.size ≤ 1000 → ∃ (r1 : ByteArray) (r2 : Int) (r3 : Bool),
      (∀ w, Calls Try.prog 15 #[.int .i64 v, .string x, .int .i64 k, .bool a4] w fun e w' => e = .returned (.tuple #[.string r1, .int .i64 r2, .bool r3]) ∧ Below w.heap.size w w') ∧
      (∀ w, Calls Try.prog 16 #[.int .i64 v, .string x, .int .i64 k, .bool a4] w fun e w' => e = .returned (.tuple #[.string r1, .int .i64 r2, .bool r3]) ∧ Drawn0 w w')) :
    Calls Try.prog 3 #[.string a0, .slice A1 l1.length c1, .int .i64 a2, .bool a3, .bool a4] w fun e w' => e = .returned (.bool true) ∧ Below w.heap.size w w' := by
  have H := Holds.nil w
  have hd60 : decide ((60 : Int) < (l1.length : Int)) = false := decide_eq_false (by omega)
  have hd60' : decide (60 < l1.length) = false := decide_eq_false (by omega)
  go_enter Try.func3, Try.ntmps3
  go_wp2_with (first | ((with_reducible refine (cK _).mono ?_); rintro e w' ⟨rfl, hb⟩; replace H := H.on hb; clear hb) | ((with_reducible refine (cF _).mono ?_); rintro e w' ⟨rfl, hb⟩; replace H := H.on hb.below; clear hb) | ((with_reducible refine (cV _).mono ?_); rintro e w' ⟨rfl, hb⟩; replace H := H.on hb.below; clear hb) | ((with_reducible refine (cT _ H.below).mono ?_); rintro e w' ⟨rfl, hb⟩; replace H := H.on hb; clear hb))
  obtain ⟨xs, hxs⟩ : ∃ xs : List ByteArray, xs = [a0, t, (⟨#[38]⟩ : ByteArray) ++ t, (⟨#[33]⟩ : ByteArray) ++ t, (⟨#[42]⟩ : ByteArray) ++ t, (⟨#[38, 97, 32]⟩ : ByteArray) ++ t, (⟨#[33, 120, 32]⟩ : ByteArray) ++ t] := ⟨_, rfl⟩
  have hx : ∀ x ∈ xs, x.size ≤ 1000 := by
    rw [hxs]
    intro x hx
    simp only [List.mem_cons, List.not_mem_nil, or_false] at hx
    rcases hx with rfl | rfl | rfl | rfl | rfl | rfl | rfl <;> first | omega | (rw [ByteArray.size_append]; exact Nat.le_trans (Nat.add_le_add_left ht _) (by decide))
  have hl7 : xs.length = 7 := by rw [hxs]; rfl
  have H2 : Holds w [(w'.heap.size, xs.map Value.string, 9)] (w'.alloc (.cells #[Value.string a0, Value.string t, Value.string ((⟨#[38]⟩ : ByteArray) ++ t), Value.string ((⟨#[33]⟩ : ByteArray) ++ t), Value.string ((⟨#[42]⟩ : ByteArray) ++ t), Value.string ((⟨#[38, 97, 32]⟩ : ByteArray) ++ t), Value.string ((⟨#[33, 120, 32]⟩ : ByteArray) ++ t)] 9)) := by
    rw [hxs]
    exact H.alloc [Value.string a0, Value.string t, Value.string ((⟨#[38]⟩ : ByteArray) ++ t), Value.string ((⟨#[33]⟩ : ByteArray) ++ t), Value.string ((⟨#[42]⟩ : ByteArray) ++ t), Value.string ((⟨#[38, 97, 32]⟩ : ByteArray) ++ t), Value.string ((⟨#[33, 120, 32]⟩ : ByteArray) ++ t)] 9
  clear H hxs
  generalize w'.alloc (.cells #[Value.string a0, Value.string t, Value.string ((⟨#[38]⟩ : ByteArray) ++ t), Value.string ((⟨#[33]⟩ : ByteArray) ++ t), Value.string ((⟨#[42]⟩ : ByteArray) ++ t), Value.string ((⟨#[38, 97, 32]⟩ : ByteArray) ++ t), Value.string ((⟨#[33, 120, 32]⟩ : ByteArray) ++ t)] 9) = W at H2 ⊢
  generalize w'.heap.size = bx at H2 ⊢
  clear cK cF cV cT hd60 hd60' h60
  go_loopw [57] (fun i wr => ∃ k : Nat, k ≤ 7 ∧ i = .int .i64 k ∧ Holds w [(bx, xs.map Value.string, 9)] wr) (fun i _ => 7 - (intOf i).toNat)
  case atStart => exact ⟨0, Nat.zero_le _, rfl, H2⟩
  case round =>
    obtain ⟨k, hk, rfl, H⟩ := hrel
    clear H2
    by_cases hlt : k < 7
    · have hkx : k < xs.length := by omega
      have hxk := hx xs[k] (List.getElem_mem hkx)
      have hc : wr.cell? ⟨bx, k, none⟩ = some (.string xs[k]) := by
        rw [H.cell (.head _) k]
        simp [hkx]
      clear hx
      generalize xs[k] = x at hxk hc
      obtain ⟨y, cY⟩ := cW x hxk
      clear cW
      go_wp2_with (((with_reducible refine (cY _).mono ?_); rintro e w' ⟨rfl, hb⟩; replace H := H.on hb.below; clear hb))
      have H2 : Holds w [(w'.heap.size, [Value.int .i64 0, Value.int .i64 y], 3), (bx, xs.map Value.string, 9)] (w'.alloc (.cells #[Value.int .i64 0, Value.int .i64 y] 3)) := H.alloc [Value.int .i64 0, Value.int .i64 y] 3
      clear H hc
      generalize w'.alloc (.cells #[Value.int .i64 0, Value.int .i64 y] 3) = W2 at H2 ⊢
      generalize w'.heap.size = b2 at H2 ⊢
      go_loopw [68] (fun i wr => ∃ j : Nat, j ≤ 2 ∧ i = .int .i64 j ∧ Holds w [(b2, [Value.int .i64 0, Value.int .i64 y], 3), (bx, xs.map Value.string, 9)] wr) (fun i _ => 2 - (intOf i).toNat)
      case atStart => exact ⟨0, Nat.zero_le _, rfl, H2⟩
      case round =>
        obtain ⟨j, hj, rfl, H⟩ := hrel
        clear H2 cY
        by_cases hlt2 : j < 2
        · obtain ⟨kk, hkk⟩ : ∃ kk : Int, [Value.int .i64 0, Value.int .i64 y][j]? = some (.int .i64 kk) := by
            rcases j with _ | _ | j
            · exact ⟨0, rfl⟩
            · exact ⟨y, rfl⟩
            · omega
          rename_i _ wr2 _
          have hc := (H.cell (.head _) j).trans hkk
          obtain ⟨b, cB⟩ := cC x kk hxk
          obtain ⟨r, cP1, cP2⟩ := cP x kk hxk
          obtain ⟨q1, q2, q3, cA1, cA2⟩ := cA x kk hxk
          clear cC cP cA
          cases b
          · go_wp2_with (first | ((with_reducible refine (cB _).mono ?_); rintro e w' ⟨rfl, hb⟩; replace H := H.on hb.below; clear hb) | ((with_reducible refine (cP1 _).mono ?_); rintro e w' ⟨rfl, hb⟩; replace H := H.on hb; clear hb) | ((with_reducible refine (cP2 _).mono ?_); rintro e w' ⟨rfl, hb⟩; replace H := H.on hb; clear hb) | ((with_reducible refine (cA1 _).mono ?_); rintro e w' ⟨rfl, hb⟩; replace H := H.on hb; clear hb) | ((with_reducible refine (cA2 _).mono ?_); rintro e w' ⟨rfl, hb⟩; replace H := H.on hb.below; clear hb) | (refine wpList_alloc_H rfl 33 rfl _ (Try.zeroValue33) _ rfl H ?_; intro b w1 H1 hb1; replace H := H1; clear H1 hb1) | (refine wpList_alloc_H rfl 36 rfl _ (Try.zeroValue36) _ rfl H ?_; intro b w1 H1 hb1; replace H := H1; clear H1 hb1) | (refine wpList_store_H rfl 33 _ _ rfl _ _ rfl _ rfl (Try.sizeOf33) rfl (A := [_]) H (Nat.le_of_ble_eq_true rfl) _ rfl ?_; intro w2 H2 hg2; replace H := H2; clear H2 hg2) | (refine wpList_store_H rfl 36 _ _ rfl _ _ rfl _ rfl (Try.sizeOf36) rfl (A := []) H (Nat.le_of_ble_eq_true rfl) _ rfl ?_; intro w2 H2 hg2; replace H := H2; clear H2 hg2) | (refine wpList_loads_H rfl 33 _ rfl (Try.isAgg33) 9 (Try.sizeOf33) _ _ rfl H (.tail _ (.tail _ (.tail _ (.head _)))) (Nat.le_of_ble_eq_true rfl) _ rfl ?_) | (refine wpList_loads_H rfl 33 _ rfl (Try.isAgg33) 9 (Try.sizeOf33) _ _ rfl H (.tail _ (.head _)) (Nat.le_of_ble_eq_true rfl) _ rfl ?_) | (refine wpList_loads_H rfl 36 _ rfl (Try.isAgg36) 2 (Try.sizeOf36) _ _ rfl H (.tail _ (.tail _ (.head _))) (Nat.le_of_ble_eq_true rfl) _ rfl ?_) | (refine wpList_loads_H rfl 36 _ rfl (Try.isAgg36) 2 (Try.sizeOf36) _ _ rfl H (.head _) (Nat.le_of_ble_eq_true rfl) _ rfl ?_))
            go_roundw
            case rel => exact ⟨j + 1, by omega, by go_num, H.tail.tail.tail.tail⟩
            case measure => simp [intOf]; omega
          · go_wp2_with (first | ((with_reducible refine (cB _).mono ?_); rintro e w' ⟨rfl, hb⟩; replace H := H.on hb.below; clear hb) | ((with_reducible refine (cP1 _).mono ?_); rintro e w' ⟨rfl, hb⟩; replace H := H.on hb; clear hb) | ((with_reducible refine (cP2 _).mono ?_); rintro e w' ⟨rfl, hb⟩; replace H := H.on hb; clear hb) | ((with_reducible refine (cA1 _).mono ?_); rintro e w' ⟨rfl, hb⟩; replace H := H.on hb; clear hb) | ((with_reducible refine (cA2 _).mono ?_); rintro e w' ⟨rfl, hb⟩; replace H := H.on hb.below; clear hb) | (refine wpList_alloc_H rfl 33 rfl _ (Try.zeroValue33) _ rfl H ?_; intro b w1 H1 hb1; replace H := H1; clear H1 hb1) | (refine wpList_alloc_H rfl 36 rfl _ (Try.zeroValue36) _ rfl H ?_; intro b w1 H1 hb1; replace H := H1; clear H1 hb1) | (refine wpList_store_H rfl 33 _ _ rfl _ _ rfl _ rfl (Try.sizeOf33) rfl (A := [_]) H (Nat.le_of_ble_eq_true rfl) _ rfl ?_; intro w2 H2 hg2; replace H := H2; clear H2 hg2) | (refine wpList_store_H rfl 36 _ _ rfl _ _ rfl _ rfl (Try.sizeOf36) rfl (A := []) H (Nat.le_of_ble_eq_true rfl) _ rfl ?_; intro w2 H2 hg2; replace H := H2; clear H2 hg2) | (refine wpList_loads_H rfl 33 _ rfl (Try.isAgg33) 9 (Try.sizeOf33) _ _ rfl H (.tail _ (.tail _ (.tail _ (.head _)))) (Nat.le_of_ble_eq_true rfl) _ rfl ?_) | (refine wpList_loads_H rfl 33 _ rfl (Try.isAgg33) 9 (Try.sizeOf33) _ _ rfl H (.tail _ (.head _)) (Nat.le_of_ble_eq_true rfl) _ rfl ?_) | (refine wpList_loads_H rfl 36 _ rfl (Try.isAgg36) 2 (Try.sizeOf36) _ _ rfl H (.tail _ (.tail _ (.head _))) (Nat.le_of_ble_eq_true rfl) _ rfl ?_) | (refine wpList_loads_H rfl 36 _ rfl (Try.isAgg36) 2 (Try.sizeOf36) _ _ rfl H (.head _) (Nat.le_of_ble_eq_true rfl) _ rfl ?_))
            go_roundw
            case rel => exact ⟨j + 1, by omega, by go_num, H⟩
            case measure => simp [intOf]; omega
        · have hj2 : j = 2 := by omega
          subst hj2
          clear cC cP cA
          go_wp2
          go_roundw
          case rel => exact ⟨k + 1, by omega, by go_num, H.tail⟩
          case measure => simp [intOf]; omega
    · have hk7 : k = 7 := by omega
      subst hk7
      clear hx cW cC cP cA
      go_wp2
      go_ret
      exact ⟨rfl, H.below⟩

set_option maxRecDepth 100000 in
set_option maxHeartbeats 4000000 in
theorem targumlaw21_PropTells.many (a0 : ByteArray) (A1 : Option Addr) (c1 : Nat) (l1 : List Int) (a2 : Int) (a3 a4 : Bool) (w : World)
    (cK : ∀ w, Calls Try.prog 7 #[] w fun e w' => e = .returned (.bool true) ∧ Below w.heap.size w w')
    (cF : ∀ w, Calls Try.prog 8 #[.string a0, .int .i64 200] w fun e w' => e = .returned (.bool false) ∧ Drawn0 w w') :
    Calls Try.prog 3 #[.string a0, .slice A1 l1.length c1, .int .i64 a2, .bool a3, .bool a4] w fun e w' => e = .returned (.bool true) ∧ Below w.heap.size w w' := by
  have H := Holds.nil w
  go_enter Try.func3, Try.ntmps3
  go_wp2_with (first | ((with_reducible refine (cK _).mono ?_); rintro e w' ⟨rfl, hb⟩; replace H := H.on hb; clear hb) | ((with_reducible refine (cF _).mono ?_); rintro e w' ⟨rfl, hb⟩; replace H := H.on hb.below; clear hb))
  go_ret
  exact ⟨rfl, H.below⟩
set_option maxRecDepth 100000 in
set_option maxHeartbeats 4000000 in
theorem targumlaw21_PropTells.long (a0 : ByteArray) (A1 : Option Addr) (c1 : Nat) (l1 : List Int) (a2 : Int) (a3 a4 : Bool) (w : World)
    (cK : ∀ w, Calls Try.prog 7 #[] w fun e w' => e = .returned (.bool true) ∧ Below w.heap.size w w')
    (cF : ∀ w, Calls Try.prog 8 #[.string a0, .int .i64 200] w fun e w' => e = .returned (.bool true) ∧ Drawn0 w w') (h60 : 60 < l1.length) :
    Calls Try.prog 3 #[.string a0, .slice A1 l1.length c1, .int .i64 a2, .bool a3, .bool a4] w fun e w' => e = .returned (.bool true) ∧ Below w.heap.size w w' := by
  have H := Holds.nil w
  have hd60 : decide ((60 : Int) < (l1.length : Int)) = true := decide_eq_true (by omega)
  have hd60' : decide (60 < l1.length) = true := decide_eq_true (by omega)
  go_enter Try.func3, Try.ntmps3
  go_wp2_with (first | ((with_reducible refine (cK _).mono ?_); rintro e w' ⟨rfl, hb⟩; replace H := H.on hb; clear hb) | ((with_reducible refine (cF _).mono ?_); rintro e w' ⟨rfl, hb⟩; replace H := H.on hb.below; clear hb))
  go_ret
  exact ⟨rfl, H.below⟩

def targumlaw21_PropTells.f (k : Nat) (a0 : ByteArray) (l1 : List Int) (a2 : Int) (a3 : Bool) (a4 : Bool) : Option Bool :=
  if a0.size ≤ 140737488351232 ∧ (l1.all fun x => (Lit.int .u8 x).wf) = true ∧ (Lit.int .i64 a2).wf = true then some true else none
theorem targumlaw21_PropTells.calls (k : Nat) (a0 : ByteArray) (A1 : Option Addr) (c1 : Nat) (l1 : List Int) (a2 : Int) (a3 : Bool) (a4 : Bool) (r : Bool) (w : World) (hr1 : Kd.C (Kd.int .u8) w A1 l1.length l1) (hc1 : l1.length ≤ c1) (h : targumlaw21_PropTells.f k a0 l1 a2 a3 a4 = some r) :
    Calls Try.prog 3 #[.string a0, .slice A1 l1.length c1, .int .i64 a2, .bool a3, .bool a4] w fun e w' => e = .returned (.bool r) ∧ Below w.heap.size w w' := by
  unfold targumlaw21_PropTells.f at h
  split at h
  case isFalse => cases h
  rename_i hs
  obtain ⟨h1, h2, h3⟩ := hs
  obtain rfl := Option.some.inj h
  clear h
  have cK : ∀ w, Calls Try.prog 7 #[] w fun e w' => e = .returned (.bool true) ∧ Below w.heap.size w w' := fun w => targumlaw21_known.calls true w rfl
  obtain ⟨b, hb, hbt⟩ := few_ev a0 200 (by decide)
  obtain ⟨K, hK⟩ := hb.rounds
  have cF : ∀ w, Calls Try.prog 8 #[.string a0, .int .i64 200] w fun e w' => e = .returned (.bool b) ∧ Drawn0 w w' := fun w => targumhelp_Few.calls K a0 200 b w hK
  cases b
  · exact targumlaw21_PropTells.many a0 A1 c1 l1 a2 a3 a4 w cK cF
  · have hsz := hbt rfl
    by_cases h60 : 60 < l1.length
    · exact targumlaw21_PropTells.long a0 A1 c1 l1 a2 a3 a4 w cK cF h60
    · obtain ⟨v, hv⟩ : ∃ v, targumhelp_Version.f a3 = some v := by cases a3 <;> exact ⟨_, rfl⟩
      have ht := text_le l1 (by omega)
      have htx : targumlaw21_text.f l1 = some (textOf targumlaw21_text.signs 28 l1) := by
        unfold targumlaw21_text.f
        refine if_pos ⟨by omega, ?_⟩
        rw [List.all_eq_true] at h2 ⊢
        intro x hx
        have := h2 x hx
        simp only [Lit.wf, Bool.and_eq_true, decide_eq_true_eq] at this ⊢
        obtain ⟨p, q⟩ := this
        have p' : (0 : Int) ≤ x := p
        have q' : x ≤ 255 := q
        omega
      refine targumlaw21_PropTells.walk a0 _ A1 c1 l1 a2 v a3 a4 w cK cF (by omega) (fun w => targumhelp_Version.calls a3 v w hv) (fun w0 hw => targumlaw21_text.calls A1 c1 l1 _ w0 (Kd.C_below hr1 hw) hc1 htx) (by omega) ht (fun x hx => ?_) (fun x k hx => ?_) (fun x k hx => ?_) (fun x k hx => ?_)
      · obtain ⟨y, hy⟩ := within_some a2 (-1) ((x.size : Int) + 1) (by omega) (by omega) (by omega)
        exact ⟨y, fun w => targumhelp_Within.calls _ _ _ y w hy⟩
      · obtain ⟨b, hb⟩ := cut_some x k
        exact ⟨b, fun w => targumhelp_Cut.calls x k b w hb⟩
      · obtain ⟨r, hp, hr⟩ := props_same v x k a4 (by omega)
        obtain ⟨K1, hK1⟩ := hp.rounds
        obtain ⟨K2, hK2⟩ := hr.rounds
        exact ⟨r, fun w => prop_Read.calls K1 v x k a4 _ _ _ _ _ _ _ _ _ _ _ _ w hK1, fun w => targumref17_Props.calls K2 v x k a4 _ _ _ _ _ _ _ _ _ _ _ _ w (by omega) hK2⟩
      · obtain ⟨r, hp, hr⟩ := alias_same v x k a4 (by omega)
        obtain ⟨K1, hK1⟩ := hp.rounds
        obtain ⟨K2, hK2⟩ := hr.rounds
        exact ⟨r.1, r.2.1, r.2.2, fun w => prop_Alias.calls K1 v x k a4 _ _ _ w hK1, fun w => targumref17_Alias.calls K2 v x k a4 _ _ _ w hK2⟩
end Go.Proofs.Ytaoameejkpipcaa.Q
