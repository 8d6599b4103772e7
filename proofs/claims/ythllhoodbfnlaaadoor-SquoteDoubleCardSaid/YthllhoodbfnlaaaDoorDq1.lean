/- The reference's texts in double quotes: what a backslash stands for. Conditions: sizes. -/
import Derived.Test.YthllhoodbfnlaaaDoorSqE
namespace Go.Mini
open Go Go.RowKit Go.Proofs
set_option maxRecDepth 100000
set_option linter.unusedVariables false
set_option linter.unusedSimpArgs false

def hexI (c : Int) : Int := if 48 ≤ c ∧ c ≤ 57 then c - 48 else if 97 ≤ c ∧ c ≤ 102 then c - 97 + 10 else if 65 ≤ c ∧ c ≤ 70 then c - 65 + 10 else 99
theorem hexI_ok (c : Int) : 0 ≤ hexI c ∧ hexI c ≤ 99 := by
  unfold hexI; repeat' split
  all_goals omega
def targumref4_Value.s : List Value → Heap → VK → Prop
  | [.int .u8 c], h, K => (0 ≤ c ∧ c ≤ 255) ∧ K (.int .i64 (hexI c)) h
  | _, _, _ => False
theorem targumref4_Value.t (c : Int) (h : Heap) (K : VK) : mwp S0 (lt0) targumref4_Value.m (retK [.t 2] K) (argE 0 [.int .u8 c]) h = (br (decide ((48 : Int) ≤ c)) (br (decide (c ≤ (57 : Int))) (rng IntKind.u8 (c - (48 : Int)) ∧ rng IntKind.i64 (c - (48 : Int)) ∧ K (Value.int IntKind.i64 (c - (48 : Int))) h) (br (decide ((97 : Int) ≤ c)) (br (decide (c ≤ (102 : Int))) (rng IntKind.u8 (c - (97 : Int)) ∧ rng IntKind.i64 (c - (97 : Int)) ∧ rng IntKind.i64 (c - (97 : Int) + (10 : Int)) ∧ K (Value.int IntKind.i64 (c - (97 : Int) + (10 : Int))) h) (br (decide ((65 : Int) ≤ c)) (br (decide (c ≤ (70 : Int))) (rng IntKind.u8 (c - (65 : Int)) ∧ rng IntKind.i64 (c - (65 : Int)) ∧ rng IntKind.i64 (c - (65 : Int) + (10 : Int)) ∧ K (Value.int IntKind.i64 (c - (65 : Int) + (10 : Int))) h) (K (Value.int IntKind.i64 (99 : Int)) h)) (K (Value.int IntKind.i64 (99 : Int)) h))) (br (decide ((65 : Int) ≤ c)) (br (decide (c ≤ (70 : Int))) (rng IntKind.u8 (c - (65 : Int)) ∧ rng IntKind.i64 (c - (65 : Int)) ∧ rng IntKind.i64 (c - (65 : Int) + (10 : Int)) ∧ K (Value.int IntKind.i64 (c - (65 : Int) + (10 : Int))) h) (K (Value.int IntKind.i64 (99 : Int)) h)) (K (Value.int IntKind.i64 (99 : Int)) h)))) (br (decide ((97 : Int) ≤ c)) (br (decide (c ≤ (102 : Int))) (rng IntKind.u8 (c - (97 : Int)) ∧ rng IntKind.i64 (c - (97 : Int)) ∧ rng IntKind.i64 (c - (97 : Int) + (10 : Int)) ∧ K (Value.int IntKind.i64 (c - (97 : Int) + (10 : Int))) h) (br (decide ((65 : Int) ≤ c)) (br (decide (c ≤ (70 : Int))) (rng IntKind.u8 (c - (65 : Int)) ∧ rng IntKind.i64 (c - (65 : Int)) ∧ rng IntKind.i64 (c - (65 : Int) + (10 : Int)) ∧ K (Value.int IntKind.i64 (c - (65 : Int) + (10 : Int))) h) (K (Value.int IntKind.i64 (99 : Int)) h)) (K (Value.int IntKind.i64 (99 : Int)) h))) (br (decide ((65 : Int) ≤ c)) (br (decide (c ≤ (70 : Int))) (rng IntKind.u8 (c - (65 : Int)) ∧ rng IntKind.i64 (c - (65 : Int)) ∧ rng IntKind.i64 (c - (65 : Int) + (10 : Int)) ∧ K (Value.int IntKind.i64 (c - (65 : Int) + (10 : Int))) h) (K (Value.int IntKind.i64 (99 : Int)) h)) (K (Value.int IntKind.i64 (99 : Int)) h)))) := by kernel_rfl
theorem targumref4_Value.c (c : Int) (h : Heap) (K : VK) (hp : 0 ≤ c ∧ c ≤ 255) (hh : K (.int .i64 (hexI c)) h) : ACalls Tryd.prog targumref4_Value.n [.int .u8 c] h K := by
  refine acalls_mk S0_ok targumref4_Value.ok (LS := lt0) (by simp only [targumref4_Value.m, LOk, and_true, true_and]) (Nat.le_of_ble_eq_true rfl) (Eq.mpr (targumref4_Value.t c h K) ?_)
  unfold hexI at hh
  repeat' (first | with_reducible refine br_intro (fun hb => ?_) (fun hb => ?_) | with_reducible refine And.intro ?_ ?_)
  all_goals simp only [decide_eq_true_eq, decide_eq_false_iff_not] at *
  all_goals first
    | (simp only [rng]; omega)
    | (refine kint hh ?_; (repeat' split) <;> first | rfl | omega)
theorem targumref4_Value.sc : ∀ vs h K, targumref4_Value.s vs h K → ACalls Tryd.prog targumref4_Value.n vs h K := by
  intro vs h K hh; unfold targumref4_Value.s at hh; split at hh
  · exact targumref4_Value.c _ _ _ hh.1 hh.2
  · exact hh.elim
theorem targumref4_Value.sm : SpecMono targumref4_Value.s := by
  intro vs h K K' hk hh; unfold targumref4_Value.s at hh ⊢; split at hh
  · exact ⟨hh.1, hk _ _ hh.2⟩
  · exact hh.elim
theorem targumref4_Value.sd : SpecDet targumref4_Value.s := by
  intro vs h K hh; unfold targumref4_Value.s at hh; split at hh
  · exact ⟨_, hh.2, hh.1, rfl⟩
  · exact hh.elim

def simI (v : Int) (c : Int) : Int :=
  if c = 48 then 0 else if c = 97 then 7 else if c = 98 then 8 else if c = 116 ∨ c = 9 then 9 else if c = 110 then 10
  else if c = 118 then 11 else if c = 102 then 12 else if c = 114 then 13 else if c = 101 then 27
  else if c = 32 ∨ c = 34 ∨ c = 92 then c else if c = 78 then 133 else if c = 95 then 160
  else if c = 76 then 8232 else if c = 80 then 8233 else if c = 47 ∧ v ≠ 11 then 47 else -1
def targumref17_simple.s : List Value → Heap → VK → Prop
  | [.int .i64 v, .int .u8 c], h, K => (0 ≤ c ∧ c ≤ 255) ∧ K (.int .i64 (simI v c)) h
  | _, _, _ => False
theorem targumref17_simple.t (v : Int) (c : Int) (h : Heap) (K : VK) : mwp S0 (lt0) targumref17_simple.m (retK [.t 4] K) (argE 0 [.int .i64 v, .int .u8 c]) h = (br (decide (c = (48 : Int))) (K (Value.int IntKind.i64 (0 : Int)) h) (br (decide (c = (97 : Int))) (K (Value.int IntKind.i64 (7 : Int)) h) (br (decide (c = (98 : Int))) (K (Value.int IntKind.i64 (8 : Int)) h) (br (decide (c = (116 : Int))) (br (decide (c = (116 : Int))) (K (Value.int IntKind.i64 (9 : Int)) h) (br (decide (c = (110 : Int))) (K (Value.int IntKind.i64 (10 : Int)) h) (br (decide (c = (118 : Int))) (K (Value.int IntKind.i64 (11 : Int)) h) (br (decide (c = (102 : Int))) (K (Value.int IntKind.i64 (12 : Int)) h) (br (decide (c = (114 : Int))) (K (Value.int IntKind.i64 (13 : Int)) h) (br (decide (c = (101 : Int))) (K (Value.int IntKind.i64 (27 : Int)) h) (br (decide (c = (32 : Int))) (br (decide (c = (32 : Int))) (rng IntKind.i64 c ∧ K (Value.int IntKind.i64 c) h) (br (decide (c = (78 : Int))) (K (Value.int IntKind.i64 (133 : Int)) h) (br (decide (c = (95 : Int))) (K (Value.int IntKind.i64 (160 : Int)) h) (br (decide (c = (76 : Int))) (K (Value.int IntKind.i64 (8232 : Int)) h) (br (decide (c = (80 : Int))) (K (Value.int IntKind.i64 (8233 : Int)) h) (br (decide (c = (47 : Int))) (br (!decide (v = (11 : Int))) (K (Value.int IntKind.i64 (47 : Int)) h) (K (Value.int IntKind.i64 (-1 : Int)) h)) (K (Value.int IntKind.i64 (-1 : Int)) h))))))) (br (decide (c = (34 : Int))) (br (decide (c = (34 : Int))) (rng IntKind.i64 c ∧ K (Value.int IntKind.i64 c) h) (br (decide (c = (78 : Int))) (K (Value.int IntKind.i64 (133 : Int)) h) (br (decide (c = (95 : Int))) (K (Value.int IntKind.i64 (160 : Int)) h) (br (decide (c = (76 : Int))) (K (Value.int IntKind.i64 (8232 : Int)) h) (br (decide (c = (80 : Int))) (K (Value.int IntKind.i64 (8233 : Int)) h) (br (decide (c = (47 : Int))) (br (!decide (v = (11 : Int))) (K (Value.int IntKind.i64 (47 : Int)) h) (K (Value.int IntKind.i64 (-1 : Int)) h)) (K (Value.int IntKind.i64 (-1 : Int)) h))))))) (br (decide (c = (92 : Int))) (rng IntKind.i64 c ∧ K (Value.int IntKind.i64 c) h) (br (decide (c = (78 : Int))) (K (Value.int IntKind.i64 (133 : Int)) h) (br (decide (c = (95 : Int))) (K (Value.int IntKind.i64 (160 : Int)) h) (br (decide (c = (76 : Int))) (K (Value.int IntKind.i64 (8232 : Int)) h) (br (decide (c = (80 : Int))) (K (Value.int IntKind.i64 (8233 : Int)) h) (br (decide (c = (47 : Int))) (br (!decide (v = (11 : Int))) (K (Value.int IntKind.i64 (47 : Int)) h) (K (Value.int IntKind.i64 (-1 : Int)) h)) (K (Value.int IntKind.i64 (-1 : Int)) h))))))))))))))) (br (decide (c = (9 : Int))) (K (Value.int IntKind.i64 (9 : Int)) h) (br (decide (c = (110 : Int))) (K (Value.int IntKind.i64 (10 : Int)) h) (br (decide (c = (118 : Int))) (K (Value.int IntKind.i64 (11 : Int)) h) (br (decide (c = (102 : Int))) (K (Value.int IntKind.i64 (12 : Int)) h) (br (decide (c = (114 : Int))) (K (Value.int IntKind.i64 (13 : Int)) h) (br (decide (c = (101 : Int))) (K (Value.int IntKind.i64 (27 : Int)) h) (br (decide (c = (32 : Int))) (br (decide (c = (32 : Int))) (rng IntKind.i64 c ∧ K (Value.int IntKind.i64 c) h) (br (decide (c = (78 : Int))) (K (Value.int IntKind.i64 (133 : Int)) h) (br (decide (c = (95 : Int))) (K (Value.int IntKind.i64 (160 : Int)) h) (br (decide (c = (76 : Int))) (K (Value.int IntKind.i64 (8232 : Int)) h) (br (decide (c = (80 : Int))) (K (Value.int IntKind.i64 (8233 : Int)) h) (br (decide (c = (47 : Int))) (br (!decide (v = (11 : Int))) (K (Value.int IntKind.i64 (47 : Int)) h) (K (Value.int IntKind.i64 (-1 : Int)) h)) (K (Value.int IntKind.i64 (-1 : Int)) h))))))) (br (decide (c = (34 : Int))) (br (decide (c = (34 : Int))) (rng IntKind.i64 c ∧ K (Value.int IntKind.i64 c) h) (br (decide (c = (78 : Int))) (K (Value.int IntKind.i64 (133 : Int)) h) (br (decide (c = (95 : Int))) (K (Value.int IntKind.i64 (160 : Int)) h) (br (decide (c = (76 : Int))) (K (Value.int IntKind.i64 (8232 : Int)) h) (br (decide (c = (80 : Int))) (K (Value.int IntKind.i64 (8233 : Int)) h) (br (decide (c = (47 : Int))) (br (!decide (v = (11 : Int))) (K (Value.int IntKind.i64 (47 : Int)) h) (K (Value.int IntKind.i64 (-1 : Int)) h)) (K (Value.int IntKind.i64 (-1 : Int)) h))))))) (br (decide (c = (92 : Int))) (rng IntKind.i64 c ∧ K (Value.int IntKind.i64 c) h) (br (decide (c = (78 : Int))) (K (Value.int IntKind.i64 (133 : Int)) h) (br (decide (c = (95 : Int))) (K (Value.int IntKind.i64 (160 : Int)) h) (br (decide (c = (76 : Int))) (K (Value.int IntKind.i64 (8232 : Int)) h) (br (decide (c = (80 : Int))) (K (Value.int IntKind.i64 (8233 : Int)) h) (br (decide (c = (47 : Int))) (br (!decide (v = (11 : Int))) (K (Value.int IntKind.i64 (47 : Int)) h) (K (Value.int IntKind.i64 (-1 : Int)) h)) (K (Value.int IntKind.i64 (-1 : Int)) h))))))))))))))))))) := by kernel_rfl
theorem targumref17_simple.c (v : Int) (c : Int) (h : Heap) (K : VK) (hp : 0 ≤ c ∧ c ≤ 255) (hh : K (.int .i64 (simI v c)) h) : ACalls Tryd.prog targumref17_simple.n [.int .i64 v, .int .u8 c] h K := by
  refine acalls_mk S0_ok targumref17_simple.ok (LS := lt0) (by simp only [targumref17_simple.m, LOk, and_true, true_and]) (Nat.le_of_ble_eq_true rfl) (Eq.mpr (targumref17_simple.t v c h K) ?_)
  unfold simI at hh
  repeat' (first | with_reducible refine br_intro (fun hb => ?_) (fun hb => ?_) | with_reducible refine And.intro ?_ ?_)
  all_goals simp only [decide_eq_true_eq, decide_eq_false_iff_not, Bool.not_eq_true', Bool.not_eq_false'] at *
  all_goals first
    | (exfalso; omega)
    | (simp only [rng]; omega)
    | (refine kint hh ?_; simp [*]; done)
theorem targumref17_simple.sc : ∀ vs h K, targumref17_simple.s vs h K → ACalls Tryd.prog targumref17_simple.n vs h K := by
  intro vs h K hh; unfold targumref17_simple.s at hh; split at hh
  · exact targumref17_simple.c _ _ _ _ hh.1 hh.2
  · exact hh.elim
theorem targumref17_simple.sm : SpecMono targumref17_simple.s := by
  intro vs h K K' hk hh; unfold targumref17_simple.s at hh ⊢; split at hh
  · exact ⟨hh.1, hk _ _ hh.2⟩
  · exact hh.elim
theorem targumref17_simple.sd : SpecDet targumref17_simple.s := by
  intro vs h K hh; unfold targumref17_simple.s at hh; split at hh
  · exact ⟨_, hh.2, hh.1, rfl⟩
  · exact hh.elim

def escN (c : UInt8) : Int := if (c.toNat : Int) = 120 then 2 else if (c.toNat : Int) = 117 then 4 else if (c.toNat : Int) = 85 then 8 else 0
def hexF (s : ByteArray) : Nat → Int → Int → Option Int
  | 0, _, c => some c
  | k + 1, p, c => if s.size ≤ p ∨ 15 < hexI (byteAt s p.toNat).toNat then none else hexF s k (p + 1) (c * 16 + hexI (byteAt s p.toNat).toNat)
def DA : CT := (extC (extC (extC GE targumref4_Value.n targumref4_Value.s) targumref17_simple.n targumref17_simple.s) targumref1_IsScalar.n targumref1_IsScalar.s)
theorem DA_ok : COk Tryd.prog DA := (extC_ok (extC_ok (extC_ok GE_ok targumref4_Value.sc targumref4_Value.sd) targumref17_simple.sc targumref17_simple.sd) targumref1_IsScalar.sc targumref1_IsScalar.sd)
theorem DA_mono : CMono DA := (extC_mono (extC_mono (extC_mono GE_mono targumref4_Value.sm) targumref17_simple.sm) targumref1_IsScalar.sm)
def targumref17_escape.sp1 : LSpec := ⟨targumref17_escape.cs1, targumref17_escape.ts1, fun vs h K => ∃ (s : ByteArray) (i q r n c : Int) (k m : Nat), (vs = [.string s, .int .i64 i, .int .i64 q, .int .i64 r, .int .i64 n, .int .i64 c, .int .i64 k] ∧ (s.size ≤ 1000000 ∧ 0 ≤ i ∧ i ≤ s.size ∧ n = k + m ∧ n ≤ 8 ∧ 0 ≤ c ∧ c < (16 ^ k : Nat))) ∧ ((hexF s m (i + 2 + k) c = none → ∀ x y : Int, K .ret [.string s, .int .i64 i, .int .i64 (-1), .int .i64 0, .int .i64 n, .int .i64 x, .int .i64 y] h) ∧ (∀ d : Int, hexF s m (i + 2 + k) c = some d → 0 ≤ d → ∀ y : Int, K (.exit 1) [.string s, .int .i64 i, .int .i64 q, .int .i64 r, .int .i64 n, .int .i64 d, .int .i64 y] h))⟩
theorem targumref17_escape.spm1 : LSpecMono targumref17_escape.sp1 := by
  rintro vs h K K' hk ⟨s, i, q, r, n, c, k, m, h3, h4⟩
  exact ⟨s, i, q, r, n, c, k, m, h3, ⟨fun e x y => hk _ _ _ (h4.1 e x y), fun d e hd y => hk _ _ _ (h4.2 d e hd y)⟩⟩
theorem targumref17_escape.t1 (s : ByteArray) (i q r n c : Int) (k m : Nat) (h : Heap) (E : Env) (N : List Value → Heap → Prop) (K : LK) : mwp DA (lt0) targumref17_escape.l1 (lK targumref17_escape.cs1 N K) (zipE targumref17_escape.cs1 [.string s, .int .i64 i, .int .i64 q, .int .i64 r, .int .i64 n, .int .i64 c, .int .i64 k] ++ E) h = (br (decide ((↑k : Int) < n)) (rng IntKind.i64 (i + (2 : Int)) ∧ rng IntKind.i64 (i + (2 : Int) + (↑k : Int)) ∧ br (decide ((↑s.size : Int) ≤ i + (2 : Int) + (↑k : Int))) (K Exit.ret [Value.string s, Value.int IntKind.i64 i, Value.int IntKind.i64 (-1 : Int), Value.int IntKind.i64 (0 : Int), Value.int IntKind.i64 n, Value.int IntKind.i64 c, Value.int IntKind.i64 (↑k : Int)] h) (rng IntKind.i64 (i + (2 : Int)) ∧ rng IntKind.i64 (i + (2 : Int) + (↑k : Int)) ∧ ((0 : Int) ≤ i + (2 : Int) + (↑k : Int) ∧ i + (2 : Int) + (↑k : Int) < (↑s.size : Int)) ∧ ((0 : Int) ≤ (↑(byteAt s (i + (2 : Int) + (↑k : Int)).toNat).toNat : Int) ∧ (↑(byteAt s (i + (2 : Int) + (↑k : Int)).toNat).toNat : Int) ≤ (255 : Int)) ∧ br (decide ((15 : Int) < hexI (↑(byteAt s (i + (2 : Int) + (↑k : Int)).toNat).toNat : Int))) (K Exit.ret [Value.string s, Value.int IntKind.i64 i, Value.int IntKind.i64 (-1 : Int), Value.int IntKind.i64 (0 : Int), Value.int IntKind.i64 n, Value.int IntKind.i64 c, Value.int IntKind.i64 (↑k : Int)] h) (rng IntKind.i64 (c * (16 : Int)) ∧ rng IntKind.i64 (i + (2 : Int)) ∧ rng IntKind.i64 (i + (2 : Int) + (↑k : Int)) ∧ ((0 : Int) ≤ i + (2 : Int) + (↑k : Int) ∧ i + (2 : Int) + (↑k : Int) < (↑s.size : Int)) ∧ ((0 : Int) ≤ (↑(byteAt s (i + (2 : Int) + (↑k : Int)).toNat).toNat : Int) ∧ (↑(byteAt s (i + (2 : Int) + (↑k : Int)).toNat).toNat : Int) ≤ (255 : Int)) ∧ rng IntKind.i64 (c * (16 : Int) + hexI (↑(byteAt s (i + (2 : Int) + (↑k : Int)).toNat).toNat : Int)) ∧ rng IntKind.i64 ((↑k : Int) + (1 : Int)) ∧ N [Value.string s, Value.int IntKind.i64 i, Value.int IntKind.i64 q, Value.int IntKind.i64 r, Value.int IntKind.i64 n, Value.int IntKind.i64 (c * (16 : Int) + hexI (↑(byteAt s (i + (2 : Int) + (↑k : Int)).toNat).toNat : Int)), Value.int IntKind.i64 ((↑k : Int) + (1 : Int))] h))) (K (Exit.exit (1 : Nat)) [Value.string s, Value.int IntKind.i64 i, Value.int IntKind.i64 q, Value.int IntKind.i64 r, Value.int IntKind.i64 n, Value.int IntKind.i64 c, Value.int IntKind.i64 (↑k : Int)] h)) := by kernel_rfl
theorem targumref17_escape.lo1 : LOk1 Tryd.prog targumref17_escape.nt targumref17_escape.sp1 (.loop 1 targumref17_escape.l1) := by
  refine loop_res (σ := ByteArray × Int × Int × Int × Int × Int × Nat × Nat) DA_ok DA_mono (lt0_mono) (LS := lt0) (by simp only [targumref17_escape.l1, LOk, and_true, true_and]) rfl rfl (fun ⟨s, i, q, r, n, c, k, m⟩ => [.string s, .int .i64 i, .int .i64 q, .int .i64 r, .int .i64 n, .int .i64 c, .int .i64 k]) (fun ⟨s, i, q, r, n, c, k, m⟩ h => s.size ≤ 1000000 ∧ 0 ≤ i ∧ i ≤ s.size ∧ n = k + m ∧ n ≤ 8 ∧ 0 ≤ c ∧ c < (16 ^ k : Nat)) (fun ⟨s, i, q, r, n, c, k, m⟩ => m) (fun ⟨s, i, q, r, n, c, k, m⟩ K h => (hexF s m (i + 2 + k) c = none → ∀ x y : Int, K .ret [.string s, .int .i64 i, .int .i64 (-1), .int .i64 0, .int .i64 n, .int .i64 x, .int .i64 y] h) ∧ (∀ d : Int, hexF s m (i + 2 + k) c = some d → 0 ≤ d → ∀ y : Int, K (.exit 1) [.string s, .int .i64 i, .int .i64 q, .int .i64 r, .int .i64 n, .int .i64 d, .int .i64 y] h)) ?_ ?_
  · rintro vs h K ⟨s, i, q, r, n, c, k, m, ⟨h1, h2⟩, h3⟩
    exact ⟨⟨s, i, q, r, n, c, k, m⟩, h1, h2, h3⟩
  rintro ⟨s, i, q, r, n, c, k, m⟩ E h N K hE hp hN hK
  dsimp only at hp hN hK
  refine Eq.mpr (targumref17_escape.t1 s i q r n c k m h E N K) ?_
  obtain ⟨h1, h2, h3, h4, h5, h6, h7⟩ := hp
  refine br_intro (fun hb => ?_) (fun hb => ?_)
  · simp only [decide_eq_true_eq] at hb
    obtain ⟨m, rfl⟩ : ∃ m', m = m' + 1 := ⟨m - 1, by omega⟩
    rw [hexF] at hK
    have hb8 := (byteAt s (i + 2 + k).toNat).toNat_lt
    have hx := hexI_ok (byteAt s (i + 2 + k).toNat).toNat
    have hpow : (16 ^ k : Nat) ≤ 16 ^ 7 := Nat.pow_le_pow_right (by decide) (by omega)
    have hpow2 : (16 ^ (k + 1) : Nat) = 16 ^ k * 16 := Nat.pow_succ ..
    have e7 : (16 ^ 7 : Nat) = 268435456 := by decide
    have nx := hN (s, i, q, r, n, c * 16 + hexI (byteAt s (i + 2 + k).toNat).toNat, k + 1, m) h
    generalize 16 ^ k = p at *
    generalize 16 ^ (k + 1) = p2 at *
    refine ⟨by simp only [rng]; omega, by simp only [rng]; omega, br_intro (fun hc => ?_) (fun hc => ?_)⟩
    · simp only [decide_eq_true_eq] at hc
      rw [if_pos (.inl hc)] at hK
      exact hK.1 rfl _ _
    · simp only [decide_eq_false_iff_not] at hc
      refine ⟨by simp only [rng]; omega, by simp only [rng]; omega, ⟨by omega, by omega⟩, ⟨by omega, by omega⟩, br_intro (fun hd => ?_) (fun hd => ?_)⟩
      · simp only [decide_eq_true_eq] at hd
        rw [if_pos (.inr hd)] at hK
        exact hK.1 rfl _ _
      · simp only [decide_eq_false_iff_not] at hd
        rw [if_neg (by rintro (h | h) <;> omega)] at hK
        have ek : i + 2 + (k : Int) + 1 = i + 2 + ((k + 1 : Nat) : Int) := by omega
        rw [ek] at hK
        refine ⟨by simp only [rng]; omega, by simp only [rng]; omega, by simp only [rng]; omega, ⟨by omega, by omega⟩, ⟨by omega, by omega⟩, by simp only [rng]; omega, by simp only [rng]; omega, ?_⟩
        have nx := nx ⟨h1, h2, h3, by dsimp only; omega, h5, by dsimp only; omega, by dsimp only; omega⟩ (by dsimp only; omega) hK
        dsimp only at nx
        rw [show ((k + 1 : Nat) : Int) = (k : Int) + 1 from by omega] at nx
        exact nx
  · simp only [decide_eq_false_iff_not] at hb
    obtain rfl : m = 0 := by omega
    exact hK.2 c rfl h6 _

def escI (v : Int) (s : ByteArray) (i : Int) : Int × Int :=
  if s.size ≤ i + 1 then (-1, 0) else if escN (byteAt s (i + 1).toNat) = 0 then (simI v (byteAt s (i + 1).toNat).toNat, i + 2)
  else match hexF s (escN (byteAt s (i + 1).toNat)).toNat (i + 2) 0 with
    | none => (-1, 0)
    | some c => if scalarN c.toNat = true then (c, i + 2 + escN (byteAt s (i + 1).toNat)) else (-1, 0)
def targumref17_escape.LS : LT := (extL lt0 1 targumref17_escape.sp1)
theorem targumref17_escape.LS_mono : LMono targumref17_escape.LS := (extL_mono lt0_mono targumref17_escape.spm1)
def targumref17_escape.s : List Value → Heap → VK → Prop
  | [.int .i64 v, .string s, .int .i64 i], h, K => (s.size ≤ 1000000 ∧ 0 ≤ i ∧ i ≤ s.size) ∧ K (.tuple #[.int .i64 (escI v s i).1, .int .i64 (escI v s i).2]) h
  | _, _, _ => False
theorem targumref17_escape.t (v : Int) (s : ByteArray) (i : Int) (h : Heap) (K : VK) : mwp DA (targumref17_escape.LS) targumref17_escape.m (retK [.t 6, .t 7] K) (argE 0 [.int .i64 v, .string s, .int .i64 i]) h = (rng IntKind.i64 (i + (1 : Int)) ∧ br (decide ((↑s.size : Int) ≤ i + (1 : Int))) (K (Value.tuple #[Value.int IntKind.i64 (-1 : Int), Value.int IntKind.i64 (0 : Int)]) h) (rng IntKind.i64 (i + (1 : Int)) ∧ ((0 : Int) ≤ i + (1 : Int) ∧ i + (1 : Int) < (↑s.size : Int)) ∧ br (decide ((↑(byteAt s (i + (1 : Int)).toNat).toNat : Int) = (120 : Int))) (∃ (s_1 : ByteArray), ∃ (i_1 : Int), ∃ (q : Int), ∃ (r : Int), ∃ (n : Int), ∃ (c : Int), ∃ (k : Nat), ∃ (m : Nat), ([Value.string s, Value.int IntKind.i64 i, Value.int IntKind.i64 (0 : Int), Value.int IntKind.i64 (0 : Int), Value.int IntKind.i64 (2 : Int), Value.int IntKind.i64 (0 : Int), Value.int IntKind.i64 (0 : Int)] = [Value.string s_1, Value.int IntKind.i64 i_1, Value.int IntKind.i64 q, Value.int IntKind.i64 r, Value.int IntKind.i64 n, Value.int IntKind.i64 c, Value.int IntKind.i64 (↑k : Int)] ∧ s_1.size ≤ (1000000 : Nat) ∧ (0 : Int) ≤ i_1 ∧ i_1 ≤ (↑s_1.size : Int) ∧ n = (↑k : Int) + (↑m : Int) ∧ n ≤ (8 : Int) ∧ (0 : Int) ≤ c ∧ c < (↑((16 : Nat) ^ k) : Int)) ∧ (hexF s_1 m (i_1 + (2 : Int) + (↑k : Int)) c = none → ∀ (x y : Int), K (Value.tuple #[Value.int IntKind.i64 (-1 : Int), Value.int IntKind.i64 (0 : Int)]) h) ∧ ∀ (d : Int), hexF s_1 m (i_1 + (2 : Int) + (↑k : Int)) c = some d → (0 : Int) ≤ d → ∀ (y : Int), (0 : Int) ≤ d ∧ br (!scalarN d.toNat) (K (Value.tuple #[Value.int IntKind.i64 (-1 : Int), Value.int IntKind.i64 (0 : Int)]) h) (rng IntKind.i64 (i_1 + (2 : Int)) ∧ rng IntKind.i64 (i_1 + (2 : Int) + n) ∧ K (Value.tuple #[Value.int IntKind.i64 d, Value.int IntKind.i64 (i_1 + (2 : Int) + n)]) h)) (br (decide ((↑(byteAt s (i + (1 : Int)).toNat).toNat : Int) = (117 : Int))) (∃ (s_1 : ByteArray), ∃ (i_1 : Int), ∃ (q : Int), ∃ (r : Int), ∃ (n : Int), ∃ (c : Int), ∃ (k : Nat), ∃ (m : Nat), ([Value.string s, Value.int IntKind.i64 i, Value.int IntKind.i64 (0 : Int), Value.int IntKind.i64 (0 : Int), Value.int IntKind.i64 (4 : Int), Value.int IntKind.i64 (0 : Int), Value.int IntKind.i64 (0 : Int)] = [Value.string s_1, Value.int IntKind.i64 i_1, Value.int IntKind.i64 q, Value.int IntKind.i64 r, Value.int IntKind.i64 n, Value.int IntKind.i64 c, Value.int IntKind.i64 (↑k : Int)] ∧ s_1.size ≤ (1000000 : Nat) ∧ (0 : Int) ≤ i_1 ∧ i_1 ≤ (↑s_1.size : Int) ∧ n = (↑k : Int) + (↑m : Int) ∧ n ≤ (8 : Int) ∧ (0 : Int) ≤ c ∧ c < (↑((16 : Nat) ^ k) : Int)) ∧ (hexF s_1 m (i_1 + (2 : Int) + (↑k : Int)) c = none → ∀ (x y : Int), K (Value.tuple #[Value.int IntKind.i64 (-1 : Int), Value.int IntKind.i64 (0 : Int)]) h) ∧ ∀ (d : Int), hexF s_1 m (i_1 + (2 : Int) + (↑k : Int)) c = some d → (0 : Int) ≤ d → ∀ (y : Int), (0 : Int) ≤ d ∧ br (!scalarN d.toNat) (K (Value.tuple #[Value.int IntKind.i64 (-1 : Int), Value.int IntKind.i64 (0 : Int)]) h) (rng IntKind.i64 (i_1 + (2 : Int)) ∧ rng IntKind.i64 (i_1 + (2 : Int) + n) ∧ K (Value.tuple #[Value.int IntKind.i64 d, Value.int IntKind.i64 (i_1 + (2 : Int) + n)]) h)) (br (decide ((↑(byteAt s (i + (1 : Int)).toNat).toNat : Int) = (85 : Int))) (∃ (s_1 : ByteArray), ∃ (i_1 : Int), ∃ (q : Int), ∃ (r : Int), ∃ (n : Int), ∃ (c : Int), ∃ (k : Nat), ∃ (m : Nat), ([Value.string s, Value.int IntKind.i64 i, Value.int IntKind.i64 (0 : Int), Value.int IntKind.i64 (0 : Int), Value.int IntKind.i64 (8 : Int), Value.int IntKind.i64 (0 : Int), Value.int IntKind.i64 (0 : Int)] = [Value.string s_1, Value.int IntKind.i64 i_1, Value.int IntKind.i64 q, Value.int IntKind.i64 r, Value.int IntKind.i64 n, Value.int IntKind.i64 c, Value.int IntKind.i64 (↑k : Int)] ∧ s_1.size ≤ (1000000 : Nat) ∧ (0 : Int) ≤ i_1 ∧ i_1 ≤ (↑s_1.size : Int) ∧ n = (↑k : Int) + (↑m : Int) ∧ n ≤ (8 : Int) ∧ (0 : Int) ≤ c ∧ c < (↑((16 : Nat) ^ k) : Int)) ∧ (hexF s_1 m (i_1 + (2 : Int) + (↑k : Int)) c = none → ∀ (x y : Int), K (Value.tuple #[Value.int IntKind.i64 (-1 : Int), Value.int IntKind.i64 (0 : Int)]) h) ∧ ∀ (d : Int), hexF s_1 m (i_1 + (2 : Int) + (↑k : Int)) c = some d → (0 : Int) ≤ d → ∀ (y : Int), (0 : Int) ≤ d ∧ br (!scalarN d.toNat) (K (Value.tuple #[Value.int IntKind.i64 (-1 : Int), Value.int IntKind.i64 (0 : Int)]) h) (rng IntKind.i64 (i_1 + (2 : Int)) ∧ rng IntKind.i64 (i_1 + (2 : Int) + n) ∧ K (Value.tuple #[Value.int IntKind.i64 d, Value.int IntKind.i64 (i_1 + (2 : Int) + n)]) h)) (rng IntKind.i64 (i + (1 : Int)) ∧ ((0 : Int) ≤ i + (1 : Int) ∧ i + (1 : Int) < (↑s.size : Int)) ∧ ((0 : Int) ≤ (↑(byteAt s (i + (1 : Int)).toNat).toNat : Int) ∧ (↑(byteAt s (i + (1 : Int)).toNat).toNat : Int) ≤ (255 : Int)) ∧ rng IntKind.i64 (i + (2 : Int)) ∧ K (Value.tuple #[Value.int IntKind.i64 (simI v (↑(byteAt s (i + (1 : Int)).toNat).toNat : Int)), Value.int IntKind.i64 (i + (2 : Int))]) h))))) := by kernel_rfl
theorem targumref17_escape.c (v : Int) (s : ByteArray) (i : Int) (h : Heap) (K : VK) (hp : s.size ≤ 1000000 ∧ 0 ≤ i ∧ i ≤ s.size) (hh : K (.tuple #[.int .i64 (escI v s i).1, .int .i64 (escI v s i).2]) h) : ACalls Tryd.prog targumref17_escape.n [.int .i64 v, .string s, .int .i64 i] h K := by
  refine acalls_mk DA_ok targumref17_escape.ok (LS := targumref17_escape.LS) (by simp only [targumref17_escape.m, LOk, and_true, true_and]; (repeat' apply And.intro) <;> first | trivial | exact targumref17_escape.lo1) (Nat.le_of_ble_eq_true rfl) (Eq.mpr (targumref17_escape.t v s i h K) ?_)
  obtain ⟨h1, h2, h3⟩ := hp
  refine ⟨by simp only [rng]; omega, br_intro (fun hb => ?_) (fun hb => ?_)⟩
  · simp only [decide_eq_true_eq] at hb
    unfold escI at hh; rw [if_pos hb] at hh; exact hh
  simp only [decide_eq_false_iff_not] at hb
  unfold escI at hh
  rw [if_neg hb] at hh
  have hc8 := (byteAt s (i + 1).toNat).toNat_lt
  generalize byteAt s (i + 1).toNat = c at *
  have go : ∀ n : Int, escN c = n → n ≠ 0 → 0 ≤ n → n ≤ 8 → ∃ (s_1 : ByteArray) (i_1 q r n_1 c_1 : Int) (k m : Nat), ([Value.string s, Value.int IntKind.i64 i, Value.int IntKind.i64 (0 : Int), Value.int IntKind.i64 (0 : Int), Value.int IntKind.i64 n, Value.int IntKind.i64 (0 : Int), Value.int IntKind.i64 (0 : Int)] = [Value.string s_1, Value.int IntKind.i64 i_1, Value.int IntKind.i64 q, Value.int IntKind.i64 r, Value.int IntKind.i64 n_1, Value.int IntKind.i64 c_1, Value.int IntKind.i64 (k : Int)] ∧ s_1.size ≤ (1000000 : Nat) ∧ (0 : Int) ≤ i_1 ∧ i_1 ≤ (s_1.size : Int) ∧ n_1 = (k : Int) + (m : Int) ∧ n_1 ≤ (8 : Int) ∧ (0 : Int) ≤ c_1 ∧ c_1 < (((16 : Nat) ^ k : Nat) : Int)) ∧ (hexF s_1 m (i_1 + (2 : Int) + (k : Int)) c_1 = none → ∀ (x y : Int), K (Value.tuple #[Value.int IntKind.i64 (-1 : Int), Value.int IntKind.i64 (0 : Int)]) h) ∧ ∀ (d : Int), hexF s_1 m (i_1 + (2 : Int) + (k : Int)) c_1 = some d → (0 : Int) ≤ d → ∀ (y : Int), (0 : Int) ≤ d ∧ br (!scalarN d.toNat) (K (Value.tuple #[Value.int IntKind.i64 (-1 : Int), Value.int IntKind.i64 (0 : Int)]) h) (rng IntKind.i64 (i_1 + (2 : Int)) ∧ rng IntKind.i64 (i_1 + (2 : Int) + n_1) ∧ K (Value.tuple #[Value.int IntKind.i64 d, Value.int IntKind.i64 (i_1 + (2 : Int) + n_1)]) h) := fun n hn h0 h4 h5 => by
    rw [hn, if_neg h0] at hh
    refine ⟨s, i, 0, 0, n, 0, 0, n.toNat, ⟨rfl, h1, h2, h3, by omega, h5, by omega, by decide⟩, fun e x y => ?_, fun d e hd y => ⟨hd, br_intro (fun hs => ?_) (fun hs => ⟨by simp only [rng]; omega, by simp only [rng]; omega, ?_⟩)⟩⟩
    · rw [show i + 2 + ((0 : Nat) : Int) = i + 2 from by omega] at e
      rw [e] at hh; exact hh
    · rw [show i + 2 + ((0 : Nat) : Int) = i + 2 from by omega] at e
      rw [e] at hh
      dsimp only at hh
      rw [if_neg (by simpa using hs)] at hh; exact hh
    · rw [show i + 2 + ((0 : Nat) : Int) = i + 2 from by omega] at e
      rw [e] at hh
      dsimp only at hh
      rw [if_pos (by simpa using hs)] at hh; exact hh
  unfold escN at go
  refine ⟨by simp only [rng]; omega, ⟨by omega, by omega⟩, br_intro (fun hx => ?_) (fun hx => br_intro (fun hu => ?_) (fun hu => br_intro (fun hU => ?_) (fun hU => ?_)))⟩
  · simp only [decide_eq_true_eq] at hx
    exact go 2 (by rw [if_pos hx]) (by decide) (by decide) (by decide)
  · simp only [decide_eq_true_eq, decide_eq_false_iff_not] at hx hu
    exact go 4 (by rw [if_neg hx, if_pos hu]) (by decide) (by decide) (by decide)
  · simp only [decide_eq_true_eq, decide_eq_false_iff_not] at hx hu hU
    exact go 8 (by rw [if_neg hx, if_neg hu, if_pos hU]) (by decide) (by decide) (by decide)
  · simp only [decide_eq_false_iff_not] at hx hu hU
    rw [if_pos (by unfold escN; rw [if_neg hx, if_neg hu, if_neg hU])] at hh
    exact ⟨by simp only [rng]; omega, ⟨by omega, by omega⟩, ⟨by omega, by omega⟩, by simp only [rng]; omega, hh⟩
theorem targumref17_escape.sc : ∀ vs h K, targumref17_escape.s vs h K → ACalls Tryd.prog targumref17_escape.n vs h K := by
  intro vs h K hh; unfold targumref17_escape.s at hh; split at hh
  · exact targumref17_escape.c _ _ _ _ _ hh.1 hh.2
  · exact hh.elim
theorem targumref17_escape.sm : SpecMono targumref17_escape.s := by
  intro vs h K K' hk hh; unfold targumref17_escape.s at hh ⊢; split at hh
  · exact ⟨hh.1, hk _ _ hh.2⟩
  · exact hh.elim
theorem targumref17_escape.sd : SpecDet targumref17_escape.s := by
  intro vs h K hh; unfold targumref17_escape.s at hh; split at hh
  · exact ⟨_, hh.2, hh.1, rfl⟩
  · exact hh.elim

end Go.Mini
