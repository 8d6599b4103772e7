/- The law PropOrders: its walk. Conditions: sizes and numbers as the row gives them. -/
import Derived.Test.YtaoameejkpipcaaHoldDraw
import Derived.Deep.QuietTactic
import Derived.BigQuiet
import Derived.Test.YtaoameejkpipcaaQx3
import Derived.Test.YtaoameejkpipcaaQx5
import Derived.Test.YtaoameejkpipcaaReadAt
import Derived.Test.YtaoameejkpipcaaGoodW
import Derived.WalkKit
import Derived.LoopTactic
import Derived.Outline
import Derived.Deep.DeepCutAuto
import Derived.IntWalk
import Derived.WalkLawsBesides
import Derived.WalkSpells
import Derived.KernelRfl
import Derived.Deep.LoopGhost
namespace Go.Proofs.Ytaoameejkpipcaa
open Go Go.RowKit
set_option linter.unusedVariables false
set_option linter.unusedSimpArgs false
section
variable {P : Program} {ops : Array Oper} {o : Oper} {rest : List Oper} {a : Act} {w w0 : World} {Q : Act → Prop}
abbrev Drawn (w : World) : World → Prop := fun w' => ∃ n, w' = w.drewN n

/-- Fails at once unless the next operation of the quiet walk is a load of this type. -/
theorem at_qload {C : World → Prop} {d : Option Tmp} (T : TypeId) {x : Operand} {t : TypeId} {p : String} {af : Array Edge} {g : Option (Nat × Bool)}
    (h : wpQuiet P ops C Q ({ dst := d, op := .load T x, type := t, pos := p, after := af, guard := g } :: rest) a) : wpQuiet P ops C Q ({ dst := d, op := .load T x, type := t, pos := p, after := af, guard := g } :: rest) a := h

theorem wpQuiet_loads_H (hg : Region.wanted o (yielded ops a.tmps) = true) (T : TypeId) (x : Operand) (hop : o.op = .load T x) (hT : ∀ w, (isAgg T).run P w = .ok true w) (n : Nat) (hs : ∀ w, (sizeOf T).run P w = .ok n w) (b i : Nat) (hx : a.eval x = .pointer (some ⟨b, i, none⟩))
    {L : List (Nat × List Value × TypeId)} (H : Holds w0 L w) {cs : List Value} {T' : TypeId} (hm : (b, cs, T') ∈ L) (hn : i + n ≤ cs.length) (v : Array Value) (hv : ((cs.drop i).take n).toArray = v)
    (hK : wpQuiet P ops (fun w' => ∃ n, w' = w.drewN n) Q rest (a.put o.dst (.agg v))) : wpQuiet P ops (fun w' => ∃ n, w' = w.drewN n) Q (o :: rest) a := by
  refine BigFrame.wpQuiet_want hg fun K hK' => ⟨.agg v, fun w' hw' => ?_, hK' _ hK⟩
  obtain ⟨k, rfl⟩ := hw'
  subst hv
  unfold Oper.quietAt
  simp only [execOp, hop, hx, Instr.loadAt, Instr.sureAddr, Sem.run_bind, Sem.run_pure, Result.andThen_ok, run_loadVar_H (H.drewN k) hm T hT n hs i hn]
  exact ⟨rfl, rfl⟩

theorem wpQuiet_load_H (hg : Region.wanted o (yielded ops a.tmps) = true) (T : TypeId) (x : Operand) (hop : o.op = .load T x) (hT : ∀ w, (isAgg T).run P w = .ok false w) (b i : Nat) (hx : a.eval x = .pointer (some ⟨b, i, none⟩))
    {L : List (Nat × List Value × TypeId)} (H : Holds w0 L w) {cs : List Value} {T' : TypeId} (hm : (b, cs, T') ∈ L) (v : Value) (hv : cs[i]? = some v)
    (hK : wpQuiet P ops (fun w' => ∃ n, w' = w.drewN n) Q rest (a.put o.dst v)) : wpQuiet P ops (fun w' => ∃ n, w' = w.drewN n) Q (o :: rest) a := by
  refine BigFrame.wpQuiet_want hg fun K hK' => ⟨v, fun w' hw' => ?_, hK' _ hK⟩
  obtain ⟨k, rfl⟩ := hw'
  have hc : (w.drewN k).cell? ⟨b, i, none⟩ = some v := by rw [(H.drewN k).cell hm]; exact hv
  have hrun : (loadVar T ⟨b, i, none⟩).run P (w.drewN k) = .ok v (w.drewN k) := by simp [loadVar, hT, load, Sem.run, hc]
  unfold Oper.quietAt
  simp only [execOp, hop, hx, Instr.loadAt, Instr.sureAddr, Sem.run_bind, Sem.run_pure, Result.andThen_ok, hrun]
  exact ⟨rfl, rfl⟩
end

end Go.Proofs.Ytaoameejkpipcaa
namespace Go.Proofs.Ytaoameejkpipcaa.Q
open Go Go.RowKit Go.Proofs.YtaoameejkpipcaaW.PrintWords Go.Proofs.YtaoameejkpipcaaW.PrintLast Go.Proofs.YtaoameejkpipcaaW.PrintMore
set_option linter.unusedVariables false
set_option linter.unusedSimpArgs false

theorem ba_app (a b : ByteArray) : (a ++ b).data.toList = a.data.toList ++ b.data.toList := by rw [ByteArray.data_append, Array.toList_append]

set_option maxRecDepth 100000 in
set_option maxHeartbeats 4000000 in
theorem targumlaw21_PropOrders.long (a0 a1 : ByteArray) (a2 : Int) (a3 a4 : Bool) (a5 : ByteArray) (w : World)
    (cK : ∀ w, Calls Try.prog 7 #[] w fun e w' => e = .returned (.bool true) ∧ Below w.heap.size w w')
    (h : 40 < (a0.size : Int)) :
    Calls Try.prog 4 #[.string a0, .string a1, .int .u8 a2, .bool a3, .bool a4, .string a5] w fun e w' => e = .returned (.bool true) ∧ Below w.heap.size w w' := by
  have H := Holds.nil w
  have hd : decide ((40 : Int) < (a0.size : Int)) = true := decide_eq_true h
  go_enter Try.func4, Try.ntmps4
  go_wp2_with (first | ((with_reducible refine (cK _).mono ?_); rintro e w' ⟨rfl, hb⟩; replace H := H.on hb; clear hb))
  all_goals
    go_ret
    exact ⟨rfl, H.below⟩

set_option maxRecDepth 100000 in
set_option maxHeartbeats 4000000 in
theorem targumlaw21_PropOrders.bad (a0 a1 : ByteArray) (a2 : Int) (a3 a4 : Bool) (a5 : ByteArray) (w : World)
    (cK : ∀ w, Calls Try.prog 7 #[] w fun e w' => e = .returned (.bool true) ∧ Below w.heap.size w w')
    (cG : ∀ w, Calls Try.prog 17 #[.string a1] w fun e w' => e = .returned (.bool false) ∧ Drawn0 w w')
    (h : ¬ 40 < (a0.size : Int)) :
    Calls Try.prog 4 #[.string a0, .string a1, .int .u8 a2, .bool a3, .bool a4, .string a5] w fun e w' => e = .returned (.bool true) ∧ Below w.heap.size w w' := by
  have H := Holds.nil w
  have hd : decide ((40 : Int) < (a0.size : Int)) = false := decide_eq_false h
  clear h
  go_enter Try.func4, Try.ntmps4
  go_wp2_with (first | ((with_reducible refine (cK _).mono ?_); rintro e w' ⟨rfl, hb⟩; replace H := H.on hb; clear hb) | ((with_reducible refine (cG _).mono ?_); rintro e w' ⟨rfl, hb⟩; replace H := H.on hb.below; clear hb))
  all_goals
    go_ret
    exact ⟨rfl, H.below⟩

set_option maxRecDepth 100000 in
set_option maxHeartbeats 4000000 in
theorem targumlaw21_PropOrders.wide (a0 a1 : ByteArray) (a2 : Int) (a3 a4 : Bool) (a5 : ByteArray) (w : World)
    (cK : ∀ w, Calls Try.prog 7 #[] w fun e w' => e = .returned (.bool true) ∧ Below w.heap.size w w')
    (cG : ∀ w, Calls Try.prog 17 #[.string a1] w fun e w' => e = .returned (.bool true) ∧ Drawn0 w w')
    (h : ¬ 40 < (a0.size : Int)) (h2 : 40 < (a1.size : Int)) :
    Calls Try.prog 4 #[.string a0, .string a1, .int .u8 a2, .bool a3, .bool a4, .string a5] w fun e w' => e = .returned (.bool true) ∧ Below w.heap.size w w' := by
  have H := Holds.nil w
  have hd : decide ((40 : Int) < (a0.size : Int)) = false := decide_eq_false h
  have hd2 : decide ((40 : Int) < (a1.size : Int)) = true := decide_eq_true h2
  clear h h2
  go_enter Try.func4, Try.ntmps4
  go_wp2_with (first | ((with_reducible refine (cK _).mono ?_); rintro e w' ⟨rfl, hb⟩; replace H := H.on hb; clear hb) | ((with_reducible refine (cG _).mono ?_); rintro e w' ⟨rfl, hb⟩; replace H := H.on hb.below; clear hb))
  all_goals
    go_ret
    exact ⟨rfl, H.below⟩

set_option maxRecDepth 100000 in
set_option maxHeartbeats 4000000 in
theorem targumlaw21_PropOrders.many (a0 a1 : ByteArray) (a2 : Int) (a3 a4 : Bool) (a5 : ByteArray) (w : World)
    (cK : ∀ w, Calls Try.prog 7 #[] w fun e w' => e = .returned (.bool true) ∧ Below w.heap.size w w')
    (cG : ∀ w, Calls Try.prog 17 #[.string a1] w fun e w' => e = .returned (.bool true) ∧ Drawn0 w w')
    (cF : ∀ w, Calls Try.prog 8 #[.string a5, .int .i64 40] w fun e w' => e = .returned (.bool false) ∧ Drawn0 w w')
    (h : ¬ 40 < (a0.size : Int)) (h2 : ¬ 40 < (a1.size : Int)) :
    Calls Try.prog 4 #[.string a0, .string a1, .int .u8 a2, .bool a3, .bool a4, .string a5] w fun e w' => e = .returned (.bool true) ∧ Below w.heap.size w w' := by
  have H := Holds.nil w
  have hd : decide ((40 : Int) < (a0.size : Int)) = false := decide_eq_false h
  have hd2 : decide ((40 : Int) < (a1.size : Int)) = false := decide_eq_false h2
  clear h h2
  go_enter Try.func4, Try.ntmps4
  go_wp2_with (first | ((with_reducible refine (cK _).mono ?_); rintro e w' ⟨rfl, hb⟩; replace H := H.on hb; clear hb) | ((with_reducible refine (cG _).mono ?_); rintro e w' ⟨rfl, hb⟩; replace H := H.on hb.below; clear hb) | ((with_reducible refine (cF _).mono ?_); rintro e w' ⟨rfl, hb⟩; replace H := H.on hb.below; clear hb))
  all_goals
    go_ret
    exact ⟨rfl, H.below⟩

theorem wpBlanks_next (g : Nat) : (⟨(32 :: List.replicate g 9).toArray⟩ : ByteArray) ++ ⟨#[9]⟩ = ⟨(32 :: List.replicate (g + 1) 9).toArray⟩ := by
  apply ba_ext
  rw [ba_app]
  show 32 :: List.replicate g 9 ++ [9] = 32 :: List.replicate (g + 1) 9
  rw [List.replicate_succ']
  rfl

set_option maxRecDepth 100000 in
set_option maxHeartbeats 8000000 in
theorem targumlaw21_PropOrders.walk (a0 a1 a5 nm t : ByteArray) (a2 v : Int) (a3 a4 : Bool) (w : World)
    (cK : ∀ w, Calls Try.prog 7 #[] w fun e w' => e = .returned (.bool true) ∧ Below w.heap.size w w')
    (cG : ∀ w, Calls Try.prog 17 #[.string a1] w fun e w' => e = .returned (.bool true) ∧ Drawn0 w w')
    (cF : ∀ w, Calls Try.prog 8 #[.string a5, .int .i64 40] w fun e w' => e = .returned (.bool true) ∧ Drawn0 w w')
    (cV : ∀ w, Calls Try.prog 9 #[.bool a3] w fun e w' => e = .returned (.int .i64 v) ∧ Drawn0 w w')
    (cN : ∀ w, Calls Try.prog 18 #[.string a0] w fun e w' => e = .returned (.string nm) ∧ Drawn0 w w')
    (cW : ∀ w, Calls Try.prog 19 #[.string a1] w fun e w' => e = .returned (.string t) ∧ Drawn0 w w')
    (h40 : ¬ 40 < (a0.size : Int)) (h41 : ¬ 40 < (a1.size : Int)) (h5 : a5.size ≤ 40) (hnm : nm.size ≤ 100) (ht : t.size ≤ 100) (m : Nat) (hm : m < 5) (Hm : Hid (a2 % 5 = (m : Int))) (h2 : 0 ≤ a2 ∧ a2 ≤ 255)
    (CR : ∀ (a g : ByteArray), a = (⟨#[38]⟩ : ByteArray) ++ nm → g = ⟨(32 :: List.replicate m 9).toArray⟩ →
      (∀ w, Calls Try.prog 13 #[.int .i64 v, .string ((((((a ++ g) ++ t) ++ g) ++ ⟨#[120]⟩) ++ a5)), .int .i64 0, .bool a4] w fun e w' => e = .returned (.tuple #[.agg #[.bool true, .bool true, .bool true, .string ⟨#[]⟩, .string a1, .string nm, .int .i64 (0), .int .i64 ((a.size : Int) + (t.size : Int) + (g.size : Int)), .int .i64 (1)], .int .i64 ((a.size : Int) + (t.size : Int) + (g.size : Int) + (g.size : Int)), .agg #[.int .i64 0, .int .i64 0]]) ∧ Below w.heap.size w w') ∧
      (∀ w, Calls Try.prog 13 #[.int .i64 v, .string (((((((⟨#[120]⟩ : ByteArray) ++ t) ++ g) ++ a) ++ g) ++ ⟨#[120]⟩) ++ a5), .int .i64 1, .bool a4] w fun e w' => e = .returned (.tuple #[.agg #[.bool true, .bool true, .bool true, .string ⟨#[]⟩, .string a1, .string nm, .int .i64 (1), .int .i64 (1 + ((a.size : Int) + (t.size : Int) + (g.size : Int))), .int .i64 (2 + (t.size : Int) + (g.size : Int))], .int .i64 ((a.size : Int) + (t.size : Int) + (g.size : Int) + (g.size : Int) + 1), .agg #[.int .i64 0, .int .i64 0]]) ∧ Below w.heap.size w w') ∧
      (∀ w, Calls Try.prog 13 #[.int .i64 v, .string (((a ++ g) ++ ⟨#[120]⟩) ++ a5), .int .i64 0, .bool a4] w fun e w' => e = .returned (.tuple #[.agg #[.bool true, .bool false, .bool false, .string ⟨#[]⟩, .string ⟨#[]⟩, .string nm, .int .i64 (0), .int .i64 ((a.size : Int)), .int .i64 (1)], .int .i64 ((a.size : Int) + (g.size : Int)), .agg #[.int .i64 0, .int .i64 0]]) ∧ Below w.heap.size w w') ∧
      (∀ w, Calls Try.prog 13 #[.int .i64 v, .string (((t ++ g) ++ ⟨#[120]⟩) ++ a5), .int .i64 0, .bool a4] w fun e w' => e = .returned (.tuple #[.agg #[.bool true, .bool true, .bool true, .string ⟨#[]⟩, .string a1, .string ⟨#[]⟩, .int .i64 (0), .int .i64 ((t.size : Int)), .int .i64 (0)], .int .i64 ((t.size : Int) + (g.size : Int)), .agg #[.int .i64 0, .int .i64 0]]) ∧ Below w.heap.size w w')) :
    Calls Try.prog 4 #[.string a0, .string a1, .int .u8 a2, .bool a3, .bool a4, .string a5] w fun e w' => e = .returned (.bool true) ∧ Below w.heap.size w w' := by
  have H := Holds.nil w
  have hd : decide ((40 : Int) < (a0.size : Int)) = false := decide_eq_false h40
  have hd2 : decide ((40 : Int) < (a1.size : Int)) = false := decide_eq_false h41
  have h20 := h2.1
  have h21 := h2.2
  clear h2
  go_enter Try.func4, Try.ntmps4
  go_wp2_with (first | ((with_reducible refine (cK _).mono ?_); rintro e w' ⟨rfl, hb⟩; replace H := H.on hb; clear hb) | ((with_reducible refine (cG _).mono ?_); rintro e w' ⟨rfl, hb⟩; replace H := H.on hb.below; clear hb) | ((with_reducible refine (cF _).mono ?_); rintro e w' ⟨rfl, hb⟩; replace H := H.on hb.below; clear hb))
  go_loopw [13, 14] (fun s i wr => ∃ k : Nat, k ≤ m ∧ i = .int .i64 k ∧ s = .string ⟨(32 :: List.replicate k 9).toArray⟩ ∧ Holds w [] wr) (fun _ i _ => 5 - (intOf i).toNat)
  case atStart => exact ⟨0, Nat.zero_le _, rfl, rfl, H⟩
  case round =>
    obtain ⟨k, hk, rfl, rfl, H⟩ := hrel
    by_cases hlt : k < m
    · have hdk : decide ((k : Int) < a2 % 5) = true := decide_eq_true (by rw [Hm.out]; omega)
      have hsz : (⟨(32 :: List.replicate k 9).toArray⟩ : ByteArray).size ≤ 6 := by rw [size_list]; simp; omega
      have hnx := Lib.hid (wpBlanks_next k)
      generalize (⟨(32 :: List.replicate k 9).toArray⟩ : ByteArray) = gk at *
      go_wp2
      go_roundw
      case rel => exact ⟨k + 1, by omega, by go_num, by rw [hnx.out], H⟩
      case measure => simp [intOf]; omega
    · obtain rfl : m = k := by omega
      have hdk : decide ((m : Int) < a2 % 5) = false := decide_eq_false (by rw [Hm.out]; omega)
      obtain ⟨g, hg⟩ : ∃ g : ByteArray, g = ⟨(32 :: List.replicate m 9).toArray⟩ := ⟨_, rfl⟩
      have hgs : g.size ≤ 6 := by rw [hg, size_list]; simp; omega
      obtain ⟨a, ha⟩ : ∃ a : ByteArray, a = (⟨#[38]⟩ : ByteArray) ++ nm := ⟨_, rfl⟩
      have has : a.size ≤ 101 := by rw [ha, ByteArray.size_append]; show 1 + _ ≤ _; omega
      obtain ⟨cR1, cR2, cR3, cR4⟩ := CR a g ha hg
      rw [← hg]
      have Ha := Lib.hid ha
      clear CR hg ha
      go_upto_region 11 with (first | ((with_reducible refine (cV _).mono ?_); rintro e w' ⟨rfl, hb⟩; replace H := H.on hb.below; clear hb) | ((with_reducible refine (cN _).mono ?_); rintro e w' ⟨rfl, hb⟩; replace H := H.on hb.below; clear hb) | ((with_reducible refine (cW _).mono ?_); rintro e w' ⟨rfl, hb⟩; replace H := H.on hb.below; clear hb))
      go_cut [16, 17] (fun s16 s17 wx => s16 = .string a ∧ s17 = .string t ∧ Holds w [] wx)
      case first =>
        go_wp2_with (first | ((with_reducible refine (cN _).mono ?_); rintro e w' ⟨rfl, hb⟩; replace H := H.on hb.below; clear hb) | ((with_reducible refine (cW _).mono ?_); rintro e w' ⟨rfl, hb⟩; replace H := H.on hb.below; clear hb))
        go_meet
        case rel => exact ⟨by rw [Ha.out], rfl, H⟩
      case rest =>
        obtain ⟨rfl, rfl, H⟩ := hcut
        clear Ha cW cV
        go_upto_region 18 with (first | ((with_reducible refine (cR1 _).mono ?_); rintro e w' ⟨rfl, hb⟩; replace H := H.on hb; clear hb) | ((with_reducible refine (cR2 _).mono ?_); rintro e w' ⟨rfl, hb⟩; replace H := H.on hb; clear hb) | ((with_reducible refine (cR3 _).mono ?_); rintro e w' ⟨rfl, hb⟩; replace H := H.on hb; clear hb) | ((with_reducible refine (cR4 _).mono ?_); rintro e w' ⟨rfl, hb⟩; replace H := H.on hb; clear hb) | (((with_reducible refine at_alloc 33 ?_)); refine wpList_alloc_H rfl 33 rfl _ (Try.zeroValue33) _ rfl H ?_; intro b w1 H1 hb1; replace H := H1; clear H1 hb1) | (((with_reducible refine at_alloc 36 ?_)); refine wpList_alloc_H rfl 36 rfl _ (Try.zeroValue36) _ rfl H ?_; intro b w1 H1 hb1; replace H := H1; clear H1 hb1) | (((with_reducible refine at_store 33 ?_)); refine wpList_store_H rfl 33 _ _ rfl _ _ rfl _ rfl (Try.sizeOf33) rfl (A := [_]) H (Nat.le_of_ble_eq_true rfl) _ rfl ?_; intro w2 H2 hg2; replace H := H2; clear H2 hg2) | (((with_reducible refine at_store 36 ?_)); refine wpList_store_H rfl 36 _ _ rfl _ _ rfl _ rfl (Try.sizeOf36) rfl (A := []) H (Nat.le_of_ble_eq_true rfl) _ rfl ?_; intro w2 H2 hg2; replace H := H2; clear H2 hg2) | (((with_reducible refine at_load 34 ?_)); refine wpList_load_H rfl 34 _ rfl (Try.isAgg34) _ _ rfl H (.tail _ (.tail _ (.tail _ (.tail _ (.tail _ (.tail _ (.head _))))))) _ rfl ?_) | (((with_reducible refine at_load 34 ?_)); refine wpList_load_H rfl 34 _ rfl (Try.isAgg34) _ _ rfl H (.tail _ (.tail _ (.tail _ (.tail _ (.head _))))) _ rfl ?_) | (((with_reducible refine at_load 34 ?_)); refine wpList_load_H rfl 34 _ rfl (Try.isAgg34) _ _ rfl H (.tail _ (.tail _ (.head _))) _ rfl ?_) | (((with_reducible refine at_load 34 ?_)); refine wpList_load_H rfl 34 _ rfl (Try.isAgg34) _ _ rfl H (.head _) _ rfl ?_))
        clear cR1 cR2 cR3 cR4
        go_wp2_with (first | ((with_reducible refine (cN _).mono ?_); rintro e w' ⟨rfl, hb⟩; replace H := H.on hb.below; clear hb) | (((with_reducible refine at_alloc 31 ?_)); refine wpList_alloc_H rfl 31 rfl _ (Try.zeroValue31) _ rfl H ?_; intro b w1 H1 hb1; replace H := H1; clear H1 hb1) | (((with_reducible refine at_store 31 ?_)); refine wpList_store_H rfl 31 _ _ rfl _ _ rfl _ rfl (Try.sizeOf31) rfl (A := []) H (Nat.le_of_ble_eq_true rfl) _ rfl ?_; intro w2 H2 hg2; replace H := H2; clear H2 hg2) | (((with_reducible refine at_load 31 ?_)); refine wpList_loads_H rfl 31 _ rfl (Try.isAgg31) 3 (Try.sizeOf31) _ _ rfl H (.head _) (Nat.le_of_ble_eq_true rfl) _ rfl ?_) | (((with_reducible refine at_load 33 ?_)); refine wpList_loads_H rfl 33 _ rfl (Try.isAgg33) 9 (Try.sizeOf33) _ _ rfl H (.tail _ (.tail _ (.tail _ (.tail _ (.tail _ (.tail _ (.tail _ (.tail _ (.head _))))))))) (Nat.le_of_ble_eq_true rfl) _ rfl ?_) | (((with_reducible refine at_load 33 ?_)); refine wpList_loads_H rfl 33 _ rfl (Try.isAgg33) 9 (Try.sizeOf33) _ _ rfl H (.tail _ (.tail _ (.tail _ (.tail _ (.tail _ (.tail _ (.head _))))))) (Nat.le_of_ble_eq_true rfl) _ rfl ?_) | (((with_reducible refine at_load 33 ?_)); refine wpList_loads_H rfl 33 _ rfl (Try.isAgg33) 9 (Try.sizeOf33) _ _ rfl H (.tail _ (.tail _ (.tail _ (.tail _ (.head _))))) (Nat.le_of_ble_eq_true rfl) _ rfl ?_) | (((with_reducible refine at_load 33 ?_)); refine wpList_loads_H rfl 33 _ rfl (Try.isAgg33) 9 (Try.sizeOf33) _ _ rfl H (.tail _ (.tail _ (.head _))) (Nat.le_of_ble_eq_true rfl) _ rfl ?_))
        simp only [List.append_eq, List.cons_append, List.nil_append, Act.put, List.setIfInBounds_toArray, List.set_cons_zero, List.set_cons_succ]
        refine wp_region_quiet_lit (by kernel_rfl) (by kernel_rfl) ?_
        repeat (first | (((with_reducible refine at_qload 31 ?_)); refine wpQuiet_loads_H rfl 31 _ rfl (Try.isAgg31) 3 (Try.sizeOf31) _ _ rfl H (.head _) (Nat.le_of_ble_eq_true rfl) _ rfl ?_; simp only [Act.put, List.setIfInBounds_toArray, List.set_cons_zero, List.set_cons_succ, List.take_succ_cons, List.take_zero, List.drop_succ_cons, List.drop_zero, List.nil_append, List.cons_append, List.length_cons, List.length_nil, Nat.reduceAdd, List.append_nil, List.drop_nil]) | (((with_reducible refine at_qload 33 ?_)); refine wpQuiet_loads_H rfl 33 _ rfl (Try.isAgg33) 9 (Try.sizeOf33) _ _ rfl H (.tail _ (.tail _ (.tail _ (.tail _ (.tail _ (.tail _ (.tail _ (.tail _ (.head _))))))))) (Nat.le_of_ble_eq_true rfl) _ rfl ?_; simp only [Act.put, List.setIfInBounds_toArray, List.set_cons_zero, List.set_cons_succ, List.take_succ_cons, List.take_zero, List.drop_succ_cons, List.drop_zero, List.nil_append, List.cons_append, List.length_cons, List.length_nil, Nat.reduceAdd, List.append_nil, List.drop_nil]) | (((with_reducible refine at_qload 33 ?_)); refine wpQuiet_loads_H rfl 33 _ rfl (Try.isAgg33) 9 (Try.sizeOf33) _ _ rfl H (.tail _ (.tail _ (.tail _ (.tail _ (.tail _ (.tail _ (.head _))))))) (Nat.le_of_ble_eq_true rfl) _ rfl ?_; simp only [Act.put, List.setIfInBounds_toArray, List.set_cons_zero, List.set_cons_succ, List.take_succ_cons, List.take_zero, List.drop_succ_cons, List.drop_zero, List.nil_append, List.cons_append, List.length_cons, List.length_nil, Nat.reduceAdd, List.append_nil, List.drop_nil]) | (((with_reducible refine at_qload 33 ?_)); refine wpQuiet_loads_H rfl 33 _ rfl (Try.isAgg33) 9 (Try.sizeOf33) _ _ rfl H (.tail _ (.tail _ (.tail _ (.tail _ (.head _))))) (Nat.le_of_ble_eq_true rfl) _ rfl ?_; simp only [Act.put, List.setIfInBounds_toArray, List.set_cons_zero, List.set_cons_succ, List.take_succ_cons, List.take_zero, List.drop_succ_cons, List.drop_zero, List.nil_append, List.cons_append, List.length_cons, List.length_nil, Nat.reduceAdd, List.append_nil, List.drop_nil]) | (((with_reducible refine at_qload 33 ?_)); refine wpQuiet_loads_H rfl 33 _ rfl (Try.isAgg33) 9 (Try.sizeOf33) _ _ rfl H (.tail _ (.tail _ (.head _))) (Nat.le_of_ble_eq_true rfl) _ rfl ?_; simp only [Act.put, List.setIfInBounds_toArray, List.set_cons_zero, List.set_cons_succ, List.take_succ_cons, List.take_zero, List.drop_succ_cons, List.drop_zero, List.nil_append, List.cons_append, List.length_cons, List.length_nil, Nat.reduceAdd, List.append_nil, List.drop_nil]) | (go_big_quiet_step ((exact Calls.quiet_of ((cN _).mono fun e w' h => ⟨h.1, h.2.out⟩)))))
        refine wpQuiet_nil ?_
        intro _ hw'
        obtain ⟨nq, hw''⟩ := hw'
        subst hw''
        go_wp2
        go_ret
        exact ⟨rfl, (H.drewN nq).below⟩

/-! ### the plain law -/
theorem good_ref_run (s : ByteArray) (hs : s.size ≤ 140737488351232) : ∀ (d q : Nat), q ≤ s.size → s.size - q = d → Ev (fun k => targumref12_Good.l0 k s (q : Int)) (decide (0 < s.size) && decide (q + run signB s q = s.size)) := by
  intro d
  induction d with
  | zero =>
    intro q h2 h3
    refine Ev.step (fun k => by rw [targumref12_Good.l0]) ?_
    rw [run_end _ _ _ (by omega), decide_eq_true (p := q + 0 = s.size) (by omega), Bool.and_true]
    refine ev_if_neg (by omega) ?_
    have e : decide ((s.size : Int) > 0) = decide (0 < s.size) := by
      rw [Bool.eq_iff_iff]
      simp
    rw [e]
    exact Ev.now _
  | succ d ih =>
    intro q h2 h3
    have hlt : q < s.size := by omega
    refine Ev.step (fun k => by rw [targumref12_Good.l0]) ?_
    refine ev_if_pos (by omega) (ev_if_pos (by omega) ?_)
    rw [bt_nat s q hlt]
    refine Ev.bind (ref_sign s[q]) ?_
    cases hb : signB s[q] with
    | true =>
      refine ev_if_pos rfl ?_
      have e2 : wrap64 ((q : Int) + 1) = ((q + 1 : Nat) : Int) := by rw [wrap_id (by omega) (by omega)]; omega
      rw [e2, run_yes signB s q hlt hb]
      have := ih (q + 1) (by omega) (by omega)
      rw [show q + (run signB s (q + 1) + 1) = q + 1 + run signB s (q + 1) from by omega]
      exact this
    | false =>
      rw [run_no signB s q hlt hb, decide_eq_false (p := q + 0 = s.size) (by omega), Bool.and_false]
      exact ev_if_neg (by decide) (Ev.now _)

def goodB (s : ByteArray) : Bool := decide (0 < s.size) && decide (run signB s 0 = s.size)
theorem good_ref (s : ByteArray) (hs : s.size ≤ 140737488351232) : Ev (fun k => targumref12_Good.f k s) (goodB s) := by
  have := good_ref_run s hs s.size 0 (by omega) (by omega)
  rw [Nat.zero_add] at this
  exact this

theorem rowN_all (p : UInt8 → Bool) : ∀ l : List UInt8, rowN p l = l.length → ∀ c ∈ l, p c = true
  | [], _, _, hc => by cases hc
  | c :: l, h, d, hd => by
    unfold rowN at h
    have := rowN_le p l
    split at h
    · rename_i hp
      rcases List.mem_cons.1 hd with rfl | hd
      · exact hp
      · exact rowN_all p l (by simpa using h) d hd
    · simp at h

theorem goodB_list (s : ByteArray) (h : goodB s = true) : s.data.toList ≠ [] ∧ ∀ c ∈ s.data.toList, signB c = true := by
  unfold goodB at h
  rw [Bool.and_eq_true, decide_eq_true_eq, decide_eq_true_eq] at h
  refine ⟨fun e => ?_, rowN_all signB _ ?_⟩
  · have := h.1; rw [size_list, e] at this; exact absurd this (by decide)
  · have := h.2; unfold run at this; rw [List.drop_zero] at this; rw [this, size_list]

theorem write_ref (s : ByteArray) (hs : s.size ≤ 1000000) (hg : goodB s = true) : Ev (fun k => targumref12_Write.f k s) (((⟨#[33, 60]⟩ : ByteArray) ++ s) ++ (⟨#[62]⟩ : ByteArray)) := by
  unfold targumref12_Write.f
  refine Ev.bind (good_ref s (by omega)) ?_
  rw [hg]
  refine ev_if_pos rfl (ev_if_pos (by omega) (ev_if_pos ?_ (Ev.now _)))
  rw [ByteArray.size_append]
  show 2 + s.size + 1 ≤ _
  omega

/-- What lies between. -/
def gapL (m : Nat) : List UInt8 := 32 :: List.replicate m 9
theorem gap_blanks (m : Nat) (r : List UInt8) : blanksL (gapL m ++ 120 :: r) = m + 1 := by
  unfold gapL
  rw [List.cons_append, blanksL, if_pos (.inl rfl)]
  congr 1
  induction m with
  | zero => rfl
  | succ m ih => rw [List.replicate_succ, List.cons_append, blanksL, if_pos (.inr rfl), ih]
theorem gap_blanks2 (m : Nat) (c : UInt8) (hc : ¬ (c = 32 ∨ c = 9)) (r : List UInt8) : blanksL (gapL m ++ c :: r) = m + 1 := by
  unfold gapL
  rw [List.cons_append, blanksL, if_pos (.inl rfl)]
  congr 1
  induction m with
  | zero => rw [List.replicate_zero, List.nil_append, blanksL, if_neg hc]
  | succ m ih => rw [List.replicate_succ, List.cons_append, blanksL, if_pos (.inr rfl), ih]
theorem gap_stop (old flow : Bool) (m : Nat) (r : List UInt8) : stopL old flow (gapL m ++ r) = true := by simp [gapL, stopL]
theorem gap_head (m : Nat) (r : List UInt8) (p : UInt8 → Bool) (hp : p 32 = false) : ∀ c ∈ (gapL m ++ r).head?, p c = false := by
  intro c hc
  simp [gapL] at hc
  rw [← hc]; exact hp
theorem gap_len (m : Nat) : (gapL m).length = m + 1 := by simp [gapL]

section
variable (v : Int) (flow : Bool) (s : ByteArray) (m n : Nat) (nm tg r : List UInt8)

theorem st_ext {p q : prop_Read.St} {i j : Int} (h1 : p = q) (h2 : i = j) {r : prop_Read.R} (h : q.out j = r) : p.out i = r := by rw [h1, h2]; exact h

/-- An anchor, a gap, a tag, a gap. -/
theorem orders1 (hs : s.data.toList = 38 :: (nm ++ (gapL m ++ 33 :: 60 :: (tg ++ 62 :: (gapL m ++ 120 :: r))))) (hz : s.size ≤ 1000) (h0 : nm ≠ []) (hall : ∀ c ∈ nm, nameB c = true) (h1 : tg ≠ []) (htg : ∀ c ∈ tg, signB c = true) :
    Ev (fun k => prop_Read.f k v s 0 flow) (true, true, true, ⟨#[]⟩, ⟨tg.toArray⟩, ⟨nm.toArray⟩, 0, ((nm.length + tg.length + m + 5 : Nat) : Int), 1, ((nm.length + tg.length + m + 5 + (m + 1) : Nat) : Int), 0, 0) := by
  refine prop_read_l0 v s flow 0 _ (by omega) ?_
  refine anchor_ev v s flow _ 0 nm (gapL m ++ 33 :: 60 :: (tg ++ 62 :: (gapL m ++ 120 :: r))) _ (by omega) (by rw [List.drop_zero]; exact hs) h0 hall (gap_head m _ _ (by decide)) (show prop_Read.zero.anchor.toList = [] from by decide +kernel) (gap_stop _ _ _ _) ?_
  rw [gap_blanks2 m 33 (by decide)]
  have d1 : s.data.toList.drop 1 = nm ++ (gapL m ++ 33 :: 60 :: (tg ++ 62 :: (gapL m ++ 120 :: r))) := by rw [hs]; rfl
  have d2 : s.data.toList.drop (1 + nm.length) = gapL m ++ 33 :: 60 :: (tg ++ 62 :: (gapL m ++ 120 :: r)) := drop_more d1 rfl
  have d3 : s.data.toList.drop (0 + 1 + nm.length + (m + 1)) = 33 :: 60 :: (tg ++ 62 :: (gapL m ++ 120 :: r)) := drop_more d2 (by rw [gap_len] <;> omega)
  refine tag_ev v s flow _ _ tg (gapL m ++ 120 :: r) _ (by omega) d3 h1 htg rfl (gap_stop _ _ _ _) ?_
  rw [gap_blanks]
  have d4 : s.data.toList.drop (0 + 1 + nm.length + (m + 1) + 2) = tg ++ 62 :: (gapL m ++ 120 :: r) := drop_more (a := [33, 60]) d3 rfl
  have d5 : s.data.toList.drop (0 + 1 + nm.length + (m + 1) + 2 + tg.length) = 62 :: (gapL m ++ 120 :: r) := drop_more d4 rfl
  have d6 : s.data.toList.drop (0 + 1 + nm.length + (m + 1) + 3 + tg.length + (m + 1)) = 120 :: r := drop_more (a := 62 :: gapL m) d5 (by rw [List.length_cons, gap_len]; omega)
  have := out_ev v s flow { { prop_Read.zero with anchor := ⟨nm.toArray⟩, pname := ((0 : Nat) : Int) + 1, has := true, pat := if prop_Read.zero.has = true then prop_Read.zero.pat else ((0 : Nat) : Int), pend := ((0 + 1 + nm.length : Nat) : Int) } with tagged := true, verb := true, handle := ⟨#[]⟩, suffix := ⟨tg.toArray⟩, has := true, pat := 0, pend := ((0 + 1 + nm.length + (m + 1) + 3 + tg.length : Nat) : Int) } (0 + 1 + nm.length + (m + 1) + 3 + tg.length + (m + 1)) (by rw [d6]; intro c hc; simp at hc; rw [← hc]; decide)
  have e1 : 0 + 1 + nm.length + (m + 1) + 3 + tg.length = nm.length + tg.length + m + 5 := by omega
  rw [e1] at this ⊢
  exact this

/-- A sign, a tag, a gap, an anchor, a gap. -/
theorem orders2 (hs : s.data.toList = 120 :: 33 :: 60 :: (tg ++ 62 :: (gapL m ++ 38 :: (nm ++ (gapL m ++ 120 :: r))))) (hz : s.size ≤ 1000) (h0 : nm ≠ []) (hall : ∀ c ∈ nm, nameB c = true) (h1 : tg ≠ []) (htg : ∀ c ∈ tg, signB c = true) :
    Ev (fun k => prop_Read.f k v s 1 flow) (true, true, true, ⟨#[]⟩, ⟨tg.toArray⟩, ⟨nm.toArray⟩, 1, ((nm.length + tg.length + m + 6 : Nat) : Int), ((tg.length + m + 6 : Nat) : Int), ((nm.length + tg.length + m + 6 + (m + 1) : Nat) : Int), 0, 0) := by
  refine prop_read_l0 v s flow 1 _ (by omega) ?_
  have d0 : s.data.toList.drop 1 = 33 :: 60 :: (tg ++ 62 :: (gapL m ++ 38 :: (nm ++ (gapL m ++ 120 :: r)))) := by rw [hs]; rfl
  refine tag_ev v s flow _ 1 tg (gapL m ++ 38 :: (nm ++ (gapL m ++ 120 :: r))) _ (by omega) d0 h1 htg rfl (gap_stop _ _ _ _) ?_
  rw [gap_blanks2 m 38 (by decide)]
  have d4 : s.data.toList.drop (1 + 2) = tg ++ 62 :: (gapL m ++ 38 :: (nm ++ (gapL m ++ 120 :: r))) := drop_more (a := [33, 60]) d0 rfl
  have d5 : s.data.toList.drop (1 + 2 + tg.length) = 62 :: (gapL m ++ 38 :: (nm ++ (gapL m ++ 120 :: r))) := drop_more d4 rfl
  have d6 : s.data.toList.drop (1 + 3 + tg.length + (m + 1)) = 38 :: (nm ++ (gapL m ++ 120 :: r)) := drop_more (a := 62 :: gapL m) d5 (by rw [List.length_cons, gap_len]; omega)
  refine anchor_ev v s flow _ (1 + 3 + tg.length + (m + 1)) nm (gapL m ++ 120 :: r) _ (by omega) d6 h0 hall (gap_head m _ _ (by decide)) (show prop_Read.zero.anchor.toList = [] from by decide +kernel) (gap_stop _ _ _ _) ?_
  rw [gap_blanks]
  have d7 : s.data.toList.drop (1 + 3 + tg.length + (m + 1) + 1) = nm ++ (gapL m ++ 120 :: r) := drop_more (a := [38]) d6 rfl
  have d8 : s.data.toList.drop (1 + 3 + tg.length + (m + 1) + 1 + nm.length) = gapL m ++ 120 :: r := drop_more d7 rfl
  have d9 : s.data.toList.drop (1 + 3 + tg.length + (m + 1) + 1 + nm.length + (m + 1)) = 120 :: r := drop_more d8 (by rw [gap_len])
  have := out_ev v s flow { { prop_Read.zero with tagged := true, verb := true, handle := ⟨#[]⟩, suffix := ⟨tg.toArray⟩, has := true, pat := 1, pend := ((1 + 3 + tg.length : Nat) : Int) } with anchor := ⟨nm.toArray⟩, pname := ((1 + 3 + tg.length + (m + 1) : Nat) : Int) + 1, has := true, pat := 1, pend := ((1 + 3 + tg.length + (m + 1) + 1 + nm.length : Nat) : Int) } (1 + 3 + tg.length + (m + 1) + 1 + nm.length + (m + 1)) (by rw [d9]; intro c hc; simp at hc; rw [← hc]; decide)
  have e1 : 1 + 3 + tg.length + (m + 1) + 1 + nm.length = nm.length + tg.length + m + 6 := by omega
  have e2 : ((1 + 3 + tg.length + (m + 1) : Nat) : Int) + 1 = ((tg.length + m + 6 : Nat) : Int) := by omega
  rw [e1, e2] at this
  rw [e1, e2]
  exact this

/-- An anchor alone. -/
theorem orders3 (hs : s.data.toList = 38 :: (nm ++ (gapL m ++ 120 :: r))) (hz : s.size ≤ 1000) (h0 : nm ≠ []) (hall : ∀ c ∈ nm, nameB c = true) :
    Ev (fun k => prop_Read.f k v s 0 flow) (true, false, false, ⟨#[]⟩, ⟨#[]⟩, ⟨nm.toArray⟩, 0, ((nm.length + 1 : Nat) : Int), 1, ((nm.length + 1 + (m + 1) : Nat) : Int), 0, 0) := by
  refine prop_read_l0 v s flow 0 _ (by omega) ?_
  refine anchor_ev v s flow _ 0 nm (gapL m ++ 120 :: r) _ (by omega) (by rw [List.drop_zero]; exact hs) h0 hall (gap_head m _ _ (by decide)) (show prop_Read.zero.anchor.toList = [] from by decide +kernel) (gap_stop _ _ _ _) ?_
  rw [gap_blanks]
  have d1 : s.data.toList.drop 1 = nm ++ (gapL m ++ 120 :: r) := by rw [hs]; rfl
  have d2 : s.data.toList.drop (1 + nm.length) = gapL m ++ 120 :: r := drop_more d1 rfl
  have d3 : s.data.toList.drop (0 + 1 + nm.length + (m + 1)) = 120 :: r := drop_more d2 (by rw [gap_len] <;> omega)
  have := out_ev v s flow { prop_Read.zero with anchor := ⟨nm.toArray⟩, pname := ((0 : Nat) : Int) + 1, has := true, pat := 0, pend := ((0 + 1 + nm.length : Nat) : Int) } (0 + 1 + nm.length + (m + 1)) (by rw [d3]; intro c hc; simp at hc; rw [← hc]; decide)
  have e1 : 0 + 1 + nm.length = nm.length + 1 := by omega
  rw [e1] at this ⊢
  exact this

/-- A tag alone. -/
theorem orders4 (hs : s.data.toList = 33 :: 60 :: (tg ++ 62 :: (gapL m ++ 120 :: r))) (hz : s.size ≤ 1000) (h1 : tg ≠ []) (htg : ∀ c ∈ tg, signB c = true) :
    Ev (fun k => prop_Read.f k v s 0 flow) (true, true, true, ⟨#[]⟩, ⟨tg.toArray⟩, ⟨#[]⟩, 0, ((tg.length + 3 : Nat) : Int), 0, ((tg.length + 3 + (m + 1) : Nat) : Int), 0, 0) := by
  refine prop_read_l0 v s flow 0 _ (by omega) ?_
  refine tag_ev v s flow _ 0 tg (gapL m ++ 120 :: r) _ (by omega) (by rw [List.drop_zero]; exact hs) h1 htg rfl (gap_stop _ _ _ _) ?_
  rw [gap_blanks]
  have d4 : s.data.toList.drop 2 = tg ++ 62 :: (gapL m ++ 120 :: r) := by rw [hs]; rfl
  have d5 : s.data.toList.drop (2 + tg.length) = 62 :: (gapL m ++ 120 :: r) := drop_more d4 rfl
  have d6 : s.data.toList.drop (0 + 3 + tg.length + (m + 1)) = 120 :: r := drop_more (a := 62 :: gapL m) d5 (by rw [List.length_cons, gap_len]; omega)
  have := out_ev v s flow { prop_Read.zero with tagged := true, verb := true, handle := ⟨#[]⟩, suffix := ⟨tg.toArray⟩, has := true, pat := 0, pend := ((0 + 3 + tg.length : Nat) : Int) } (0 + 3 + tg.length + (m + 1)) (by rw [d6]; intro c hc; simp at hc; rw [← hc]; decide)
  have e1 : 0 + 3 + tg.length = tg.length + 3 := by omega
  rw [e1] at this ⊢
  exact this
end

def targumlaw21_PropOrders.f (k : Nat) (a0 a1 : ByteArray) (a2 : Int) (a3 a4 : Bool) (a5 : ByteArray) : Option Bool :=
  if a0.size ≤ 140737488351232 ∧ a1.size ≤ 140737488351232 ∧ (Lit.int .u8 a2).wf = true ∧ a5.size ≤ 140737488351232 then some true else none
theorem targumlaw21_PropOrders.calls (k : Nat) (a0 a1 : ByteArray) (a2 : Int) (a3 a4 : Bool) (a5 : ByteArray) (r : Bool) (w : World) (h : targumlaw21_PropOrders.f k a0 a1 a2 a3 a4 a5 = some r) :
    Calls Try.prog 4 #[.string a0, .string a1, .int .u8 a2, .bool a3, .bool a4, .string a5] w fun e w' => e = .returned (.bool r) ∧ Below w.heap.size w w' := by
  unfold targumlaw21_PropOrders.f at h
  split at h
  case isFalse => cases h
  rename_i hs
  obtain ⟨h1, h2, h3, h4⟩ := hs
  obtain rfl := Option.some.inj h
  clear h
  have hw : 0 ≤ a2 ∧ a2 ≤ 255 := by
    simp only [Lit.wf, Bool.and_eq_true, decide_eq_true_eq] at h3
    obtain ⟨p, q⟩ := h3
    have p' : (0 : Int) ≤ a2 := p
    have q' : a2 ≤ 255 := q
    exact ⟨p', q'⟩
  have cK : ∀ w, Calls Try.prog 7 #[] w fun e w' => e = .returned (.bool true) ∧ Below w.heap.size w w' := fun w => targumlaw21_known.calls true w rfl
  by_cases e1 : 40 < (a0.size : Int)
  · exact targumlaw21_PropOrders.long a0 a1 a2 a3 a4 a5 w cK e1
  obtain ⟨KG, hG⟩ := (good_ref a1 h2).rounds
  have cG : ∀ w, Calls Try.prog 17 #[.string a1] w fun e w' => e = .returned (.bool (goodB a1)) ∧ Drawn0 w w' := fun w => targumref12_Good.calls KG a1 _ w hG
  cases hg : goodB a1
  · rw [hg] at cG
    exact targumlaw21_PropOrders.bad a0 a1 a2 a3 a4 a5 w cK cG e1
  rw [hg] at cG
  by_cases e2 : 40 < (a1.size : Int)
  · exact targumlaw21_PropOrders.wide a0 a1 a2 a3 a4 a5 w cK cG e1 e2
  obtain ⟨b, hb, hbt⟩ := few_ev a5 40 (by decide)
  obtain ⟨KF, hF⟩ := hb.rounds
  have cF : ∀ w, Calls Try.prog 8 #[.string a5, .int .i64 40] w fun e w' => e = .returned (.bool b) ∧ Drawn0 w w' := fun w => targumhelp_Few.calls KF a5 40 b w hF
  cases b
  · exact targumlaw21_PropOrders.many a0 a1 a2 a3 a4 a5 w cK cG cF e1 e2
  have hz5 := hbt rfl
  obtain ⟨v, hv⟩ : ∃ v, targumhelp_Version.f a3 = some v := by cases a3 <;> exact ⟨_, rfl⟩
  obtain ⟨K0, hK0⟩ := (name_ev a0 (by omega)).rounds
  obtain ⟨KW, hKW⟩ := (write_ref a1 (by omega) hg).rounds
  obtain ⟨nm, hnm⟩ : ∃ m : ByteArray, m = ⟨(nameL a0).toArray⟩ := ⟨_, rfl⟩
  rw [← hnm] at hK0
  have ln : nm.data.toList = nameL a0 := by rw [hnm]
  have zn : nm.size = a0.size + 1 := by rw [size_list, ln, nameL_len]
  obtain ⟨t, ht⟩ : ∃ t : ByteArray, t = ((⟨#[33, 60]⟩ : ByteArray) ++ a1) ++ (⟨#[62]⟩ : ByteArray) := ⟨_, rfl⟩
  rw [← ht] at hKW
  have lt : t.data.toList = 33 :: 60 :: (a1.data.toList ++ [62]) := by rw [ht, ba_app, ba_app]; rfl
  have zt : t.size = a1.size + 3 := by rw [size_list, lt, List.length_cons, List.length_cons, List.length_append, ← size_list]; rfl
  have n0 : nameL a0 ≠ [] := by unfold nameL; simp
  have nl := nameL_len a0
  obtain ⟨g0, g1⟩ := goodB_list a1 hg
  have ea : (⟨a1.data.toList.toArray⟩ : ByteArray) = a1 := rfl
  have el : a1.data.toList.length = a1.size := (size_list a1).symm
  obtain ⟨m, hm⟩ : ∃ m : Nat, a2 % 5 = (m : Int) := ⟨(a2 % 5).toNat, by omega⟩
  refine targumlaw21_PropOrders.walk a0 a1 a5 nm t a2 v a3 a4 w cK cG cF (fun w => targumhelp_Version.calls a3 v w hv) (fun w => targumlaw21_name.calls K0 a0 nm w hK0) (fun w => targumref12_Write.calls KW a1 t w hKW)
    e1 e2 (by omega) (by omega) (by omega) m (by omega) (Lib.hid hm) hw (fun a g ha hgap => ?_)
  have lg : g.data.toList = gapL m := by rw [hgap]; rfl
  have zg : g.size = m + 1 := by rw [size_list, lg, gap_len]
  have la : a.data.toList = 38 :: nameL a0 := by rw [ha, ba_app, ln]; rfl
  have za : a.size = a0.size + 2 := by rw [size_list, la, List.length_cons, nl]
  have hm5 : m < 5 := by omega
  have E1 := orders1 v a4 (((((a ++ g) ++ t) ++ g) ++ ⟨#[120]⟩) ++ a5) m (nameL a0) a1.data.toList a5.data.toList (by simp only [ba_app, la, lt, lg, List.cons_append, List.append_assoc, List.nil_append]) (by simp only [ByteArray.size_append, za, zt, zg]; show _ + 1 + _ ≤ _; omega) n0 (nameL_all a0) g0 g1
  have E2 := orders2 v a4 ((((((⟨#[120]⟩ : ByteArray) ++ t) ++ g) ++ a) ++ g) ++ ⟨#[120]⟩ ++ a5) m (nameL a0) a1.data.toList a5.data.toList (by simp only [ba_app, la, lt, lg, List.cons_append, List.append_assoc, List.nil_append]) (by simp only [ByteArray.size_append, za, zt, zg]; show 1 + _ + _ + _ + _ + 1 + _ ≤ _; omega) n0 (nameL_all a0) g0 g1
  have E3 := orders3 v a4 (((a ++ g) ++ ⟨#[120]⟩) ++ a5) m (nameL a0) a5.data.toList (by simp only [ba_app, la, lg, List.cons_append, List.append_assoc, List.nil_append]) (by simp only [ByteArray.size_append, za, zg]; show _ + 1 + _ ≤ _; omega) n0 (nameL_all a0)
  have E4 := orders4 v a4 (((t ++ g) ++ ⟨#[120]⟩) ++ a5) m a1.data.toList a5.data.toList (by simp only [ba_app, lt, lg, List.cons_append, List.append_assoc, List.nil_append]) (by simp only [ByteArray.size_append, zt, zg]; show _ + 1 + _ ≤ _; omega) g0 g1
  rw [ea, ← hnm, nl, el, show ((a0.size + 1 + a1.size + m + 5 : Nat) : Int) = (a.size : Int) + (t.size : Int) + (g.size : Int) from by omega, show ((a0.size + 1 + a1.size + m + 5 + (m + 1) : Nat) : Int) = (a.size : Int) + (t.size : Int) + (g.size : Int) + (g.size : Int) from by omega] at E1
  rw [ea, ← hnm, nl, el, show ((a0.size + 1 + a1.size + m + 6 : Nat) : Int) = 1 + ((a.size : Int) + (t.size : Int) + (g.size : Int)) from by omega, show ((a0.size + 1 + a1.size + m + 6 + (m + 1) : Nat) : Int) = (a.size : Int) + (t.size : Int) + (g.size : Int) + (g.size : Int) + 1 from by omega, show ((a1.size + m + 6 : Nat) : Int) = 2 + (t.size : Int) + (g.size : Int) from by omega] at E2
  rw [← hnm, nl, show ((a0.size + 1 + 1 : Nat) : Int) = (a.size : Int) from by omega, show ((a0.size + 1 + 1 + (m + 1) : Nat) : Int) = (a.size : Int) + (g.size : Int) from by omega] at E3
  rw [ea, el, show ((a1.size + 3 : Nat) : Int) = (t.size : Int) from by omega, show ((a1.size + 3 + (m + 1) : Nat) : Int) = (t.size : Int) + (g.size : Int) from by omega] at E4
  obtain ⟨k1, E1⟩ := E1.rounds
  obtain ⟨k2, E2⟩ := E2.rounds
  obtain ⟨k3, E3⟩ := E3.rounds
  obtain ⟨k4, E4⟩ := E4.rounds
  exact ⟨fun w => prop_Read.calls k1 v _ 0 a4 _ _ _ _ _ _ _ _ _ _ _ _ w E1, fun w => prop_Read.calls k2 v _ 1 a4 _ _ _ _ _ _ _ _ _ _ _ _ w E2, fun w => prop_Read.calls k3 v _ 0 a4 _ _ _ _ _ _ _ _ _ _ _ _ w E3, fun w => prop_Read.calls k4 v _ 0 a4 _ _ _ _ _ _ _ _ _ _ _ _ w E4⟩
end Go.Proofs.Ytaoameejkpipcaa.Q
