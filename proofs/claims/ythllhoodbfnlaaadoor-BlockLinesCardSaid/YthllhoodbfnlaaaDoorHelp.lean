/- What the laws share: versions, places, signs that may be. Conditions: sizes. -/
import Derived.Test.YthllhoodbfnlaaaDoorLines
namespace Go.Mini
open Go Go.RowKit Go.Proofs
set_option maxRecDepth 100000
set_option linter.unusedVariables false
set_option linter.unusedSimpArgs false

def verI (old : Bool) : Int := bif old then 11 else 12
def targumhelp_Version.s : List Value → Heap → VK → Prop
  | [.bool old], h, K => K (.int .i64 (verI old)) h
  | _, _, _ => False
theorem targumhelp_Version.t (old : Bool) (h : Heap) (K : VK) : mwp S0 (lt0) targumhelp_Version.m (retK [.t 2] K) (argE 0 [.bool old]) h = (br old (K (Value.int IntKind.i64 (11 : Int)) h) (K (Value.int IntKind.i64 (12 : Int)) h)) := by kernel_rfl
theorem targumhelp_Version.c (old : Bool) (h : Heap) (K : VK) (hh : K (.int .i64 (verI old)) h) : ACalls Tryd.prog targumhelp_Version.n [.bool old] h K := by
  refine acalls_mk S0_ok targumhelp_Version.ok (LS := lt0) (by simp only [targumhelp_Version.m, LOk, and_true, true_and]) (Nat.le_of_ble_eq_true rfl) (Eq.mpr (targumhelp_Version.t old h K) ?_)
  cases old
  · exact hh
  · exact hh
theorem targumhelp_Version.sc : ∀ vs h K, targumhelp_Version.s vs h K → ACalls Tryd.prog targumhelp_Version.n vs h K := by
  intro vs h K hh; unfold targumhelp_Version.s at hh; split at hh
  · exact targumhelp_Version.c _ _ _ hh
  · exact hh.elim
theorem targumhelp_Version.sm : SpecMono targumhelp_Version.s := by
  intro vs h K K' hk hh; unfold targumhelp_Version.s at hh ⊢; split at hh
  · exact hk _ _ hh
  · exact hh.elim
theorem targumhelp_Version.sd : SpecDet targumhelp_Version.s := by
  intro vs h K hh; unfold targumhelp_Version.s at hh; split at hh
  · exact ⟨_, hh, rfl⟩
  · exact hh.elim

def withinI (n lo hi : Int) : Int := if n.tmod (hi - lo + 1) < 0 then lo + (n.tmod (hi - lo + 1) + hi - lo + 1) else lo + n.tmod (hi - lo + 1)
theorem withinI_ok {n lo hi : Int} (h : lo ≤ hi) : lo ≤ withinI n lo hi ∧ withinI n lo hi ≤ hi := by
  unfold withinI
  have h1 : n.tmod (hi - lo + 1) < hi - lo + 1 := Int.tmod_lt_of_pos n (by omega)
  have h2 := Int.lt_tmod_of_pos n (show 0 < hi - lo + 1 by omega)
  split <;> omega
def targumhelp_Within.s : List Value → Heap → VK → Prop
  | [.int .i64 n, .int .i64 lo, .int .i64 hi], h, K => (-10000000 ≤ lo ∧ lo ≤ hi ∧ hi ≤ 10000000) ∧ K (.int .i64 (withinI n lo hi)) h
  | _, _, _ => False
theorem targumhelp_Within.t (n lo hi : Int) (h : Heap) (K : VK) : mwp S0 (lt0) targumhelp_Within.m (retK [.t 6] K) (argE 0 [.int .i64 n, .int .i64 lo, .int .i64 hi]) h = (rng IntKind.i64 (hi - lo) ∧ rng IntKind.i64 (hi - lo + (1 : Int)) ∧ hi - lo + (1 : Int) ≠ (0 : Int) ∧ br (decide (n.tmod (hi - lo + (1 : Int)) < (0 : Int))) (rng IntKind.i64 (n.tmod (hi - lo + (1 : Int)) + hi) ∧ rng IntKind.i64 (n.tmod (hi - lo + (1 : Int)) + hi - lo) ∧ rng IntKind.i64 (n.tmod (hi - lo + (1 : Int)) + hi - lo + (1 : Int)) ∧ rng IntKind.i64 (lo + (n.tmod (hi - lo + (1 : Int)) + hi - lo + (1 : Int))) ∧ K (Value.int IntKind.i64 (lo + (n.tmod (hi - lo + (1 : Int)) + hi - lo + (1 : Int)))) h) (rng IntKind.i64 (lo + n.tmod (hi - lo + (1 : Int))) ∧ K (Value.int IntKind.i64 (lo + n.tmod (hi - lo + (1 : Int)))) h)) := by kernel_rfl
theorem targumhelp_Within.c (n lo hi : Int) (h : Heap) (K : VK) (hp : -10000000 ≤ lo ∧ lo ≤ hi ∧ hi ≤ 10000000) (hh : K (.int .i64 (withinI n lo hi)) h) : ACalls Tryd.prog targumhelp_Within.n [.int .i64 n, .int .i64 lo, .int .i64 hi] h K := by
  refine acalls_mk S0_ok targumhelp_Within.ok (LS := lt0) (by simp only [targumhelp_Within.m, LOk, and_true, true_and]) (Nat.le_of_ble_eq_true rfl) (Eq.mpr (targumhelp_Within.t n lo hi h K) ?_)
  have h1 : n.tmod (hi - lo + 1) < hi - lo + 1 := Int.tmod_lt_of_pos n (by omega)
  have h2 := Int.lt_tmod_of_pos n (show 0 < hi - lo + 1 by omega)
  unfold withinI at hh
  refine ⟨by simp only [rng]; omega, by simp only [rng]; omega, by omega, br_intro (fun hb => ?_) (fun hb => ?_)⟩
  · simp only [decide_eq_true_eq] at hb
    rw [if_pos hb] at hh
    exact ⟨by simp only [rng]; omega, by simp only [rng]; omega, by simp only [rng]; omega, by simp only [rng]; omega, hh⟩
  · simp only [decide_eq_false_iff_not] at hb
    rw [if_neg hb] at hh
    exact ⟨by simp only [rng]; omega, hh⟩
theorem targumhelp_Within.sc : ∀ vs h K, targumhelp_Within.s vs h K → ACalls Tryd.prog targumhelp_Within.n vs h K := by
  intro vs h K hh; unfold targumhelp_Within.s at hh; split at hh
  · exact targumhelp_Within.c _ _ _ _ _ hh.1 hh.2
  · exact hh.elim
theorem targumhelp_Within.sm : SpecMono targumhelp_Within.s := by
  intro vs h K K' hk hh; unfold targumhelp_Within.s at hh ⊢; split at hh
  · exact ⟨hh.1, hk _ _ hh.2⟩
  · exact hh.elim
theorem targumhelp_Within.sd : SpecDet targumhelp_Within.s := by
  intro vs h K hh; unfold targumhelp_Within.s at hh; split at hh
  · exact ⟨_, hh.2, hh.1, rfl⟩
  · exact hh.elim

def cutI (s : ByteArray) (i : Int) : Bool := decide (0 < i) && decide (i < s.size) && decide (128 ≤ (byteAt s i.toNat).toNat) && decide ((byteAt s i.toNat).toNat < 192)
def targumhelp_Cut.s : List Value → Heap → VK → Prop
  | [.string s, .int .i64 i], h, K => K (.bool (cutI s i)) h
  | _, _, _ => False
theorem targumhelp_Cut.t (s : ByteArray) (i : Int) (h : Heap) (K : VK) : mwp S0 (lt0) targumhelp_Cut.m (retK [.t 4] K) (argE 0 [.string s, .int .i64 i]) h = (br (decide ((0 : Int) < i)) (br (decide (i < (↑s.size : Int))) (((0 : Int) ≤ i ∧ i < (↑s.size : Int)) ∧ br (decide ((128 : Int) ≤ (↑(byteAt s i.toNat).toNat : Int))) (((0 : Int) ≤ i ∧ i < (↑s.size : Int)) ∧ K (Value.bool (decide ((↑(byteAt s i.toNat).toNat : Int) < (192 : Int)))) h) (K (Value.bool false) h)) (K (Value.bool false) h)) (K (Value.bool false) h)) := by kernel_rfl
theorem targumhelp_Cut.c (s : ByteArray) (i : Int) (h : Heap) (K : VK) (hh : K (.bool (cutI s i)) h) : ACalls Tryd.prog targumhelp_Cut.n [.string s, .int .i64 i] h K := by
  refine acalls_mk S0_ok targumhelp_Cut.ok (LS := lt0) (by simp only [targumhelp_Cut.m, LOk, and_true, true_and]) (Nat.le_of_ble_eq_true rfl) (Eq.mpr (targumhelp_Cut.t s i h K) ?_)
  unfold cutI at hh
  have e1 : decide ((128 : Int) ≤ ((byteAt s i.toNat).toNat : Int)) = decide (128 ≤ (byteAt s i.toNat).toNat) := decide_eq_decide.2 (by omega)
  have e2 : decide (((byteAt s i.toNat).toNat : Int) < 192) = decide ((byteAt s i.toNat).toNat < 192) := decide_eq_decide.2 (by omega)
  rw [e1, e2]
  refine br_intro (fun h1 => ?_) (fun h1 => ?_)
  · refine br_intro (fun h2 => ?_) (fun h2 => ?_)
    · rw [h1, h2, Bool.true_and, Bool.true_and] at hh
      simp only [decide_eq_true_eq] at h1 h2
      refine ⟨by omega, br_intro (fun h3 => ?_) (fun h3 => ?_)⟩
      · rw [h3, Bool.true_and] at hh; exact ⟨by omega, hh⟩
      · rw [h3, Bool.false_and] at hh; exact hh
    · rw [h2, Bool.and_false, Bool.false_and, Bool.false_and] at hh; exact hh
  · rw [h1, Bool.false_and, Bool.false_and, Bool.false_and] at hh; exact hh
theorem targumhelp_Cut.sc : ∀ vs h K, targumhelp_Cut.s vs h K → ACalls Tryd.prog targumhelp_Cut.n vs h K := by
  intro vs h K hh; unfold targumhelp_Cut.s at hh; split at hh
  · exact targumhelp_Cut.c _ _ _ _ hh
  · exact hh.elim
theorem targumhelp_Cut.sm : SpecMono targumhelp_Cut.s := by
  intro vs h K K' hk hh; unfold targumhelp_Cut.s at hh ⊢; split at hh
  · exact hk _ _ hh
  · exact hh.elim
theorem targumhelp_Cut.sd : SpecDet targumhelp_Cut.s := by
  intro vs h K hh; unfold targumhelp_Cut.s at hh; split at hh
  · exact ⟨_, hh, rfl⟩
  · exact hh.elim

def mayC (c : Int) : Bool := decide (c = 9) || decide (c = 10) || decide (c = 13) || (decide (32 ≤ c) && decide (c ≤ 126)) || decide (c = 133) || (decide (160 ≤ c) && decide (c ≤ 65533) && !decide (c = 65279)) || decide (65536 ≤ c)
def mayI (s : ByteArray) (i : Int) : Int := bif mayC (nextI s i).1 then (nextI s i).2 else 0
def HA : CT := (extC SH targumref1_Next.n targumref1_Next.s)
theorem HA_ok : COk Tryd.prog HA := (extC_ok SH_ok targumref1_Next.sc targumref1_Next.sd)
theorem HA_mono : CMono HA := (extC_mono SH_mono targumref1_Next.sm)
def targumref1_May.s : List Value → Heap → VK → Prop
  | [.string s, .int .i64 i], h, K => (s.size ≤ 1000000) ∧ K (.int .i64 (mayI s i)) h
  | _, _, _ => False
theorem targumref1_May.t (s : ByteArray) (i : Int) (h : Heap) (K : VK) : mwp HA (lt0) targumref1_May.m (retK [.t 4] K) (argE 0 [.string s, .int .i64 i]) h = (s.size ≤ (1000000 : Nat) ∧ br (decide ((↑(nextI s i).fst : Int) = (9 : Int))) (K (Value.int IntKind.i64 (↑(nextI s i).snd : Int)) h) (br (decide ((↑(nextI s i).fst : Int) = (10 : Int))) (K (Value.int IntKind.i64 (↑(nextI s i).snd : Int)) h) (br (decide ((↑(nextI s i).fst : Int) = (13 : Int))) (K (Value.int IntKind.i64 (↑(nextI s i).snd : Int)) h) (br (decide ((32 : Int) ≤ (↑(nextI s i).fst : Int))) (br (decide ((↑(nextI s i).fst : Int) ≤ (126 : Int))) (K (Value.int IntKind.i64 (↑(nextI s i).snd : Int)) h) (br (decide ((↑(nextI s i).fst : Int) = (133 : Int))) (K (Value.int IntKind.i64 (↑(nextI s i).snd : Int)) h) (br (decide ((160 : Int) ≤ (↑(nextI s i).fst : Int))) (br (decide ((↑(nextI s i).fst : Int) ≤ (65533 : Int))) (br (!decide ((↑(nextI s i).fst : Int) = (65279 : Int))) (K (Value.int IntKind.i64 (↑(nextI s i).snd : Int)) h) (br (decide ((65536 : Int) ≤ (↑(nextI s i).fst : Int))) (K (Value.int IntKind.i64 (↑(nextI s i).snd : Int)) h) (K (Value.int IntKind.i64 (0 : Int)) h))) (br (decide ((65536 : Int) ≤ (↑(nextI s i).fst : Int))) (K (Value.int IntKind.i64 (↑(nextI s i).snd : Int)) h) (K (Value.int IntKind.i64 (0 : Int)) h))) (br (decide ((65536 : Int) ≤ (↑(nextI s i).fst : Int))) (K (Value.int IntKind.i64 (↑(nextI s i).snd : Int)) h) (K (Value.int IntKind.i64 (0 : Int)) h))))) (br (decide ((↑(nextI s i).fst : Int) = (133 : Int))) (K (Value.int IntKind.i64 (↑(nextI s i).snd : Int)) h) (br (decide ((160 : Int) ≤ (↑(nextI s i).fst : Int))) (br (decide ((↑(nextI s i).fst : Int) ≤ (65533 : Int))) (br (!decide ((↑(nextI s i).fst : Int) = (65279 : Int))) (K (Value.int IntKind.i64 (↑(nextI s i).snd : Int)) h) (br (decide ((65536 : Int) ≤ (↑(nextI s i).fst : Int))) (K (Value.int IntKind.i64 (↑(nextI s i).snd : Int)) h) (K (Value.int IntKind.i64 (0 : Int)) h))) (br (decide ((65536 : Int) ≤ (↑(nextI s i).fst : Int))) (K (Value.int IntKind.i64 (↑(nextI s i).snd : Int)) h) (K (Value.int IntKind.i64 (0 : Int)) h))) (br (decide ((65536 : Int) ≤ (↑(nextI s i).fst : Int))) (K (Value.int IntKind.i64 (↑(nextI s i).snd : Int)) h) (K (Value.int IntKind.i64 (0 : Int)) h)))))))) := by kernel_rfl
theorem targumref1_May.c (s : ByteArray) (i : Int) (h : Heap) (K : VK) (hp : s.size ≤ 1000000) (hh : K (.int .i64 (mayI s i)) h) : ACalls Tryd.prog targumref1_May.n [.string s, .int .i64 i] h K := by
  refine acalls_mk HA_ok targumref1_May.ok (LS := lt0) (by simp only [targumref1_May.m, LOk, and_true, true_and]) (Nat.le_of_ble_eq_true rfl) (Eq.mpr (targumref1_May.t s i h K) ?_)
  refine ⟨hp, ?_⟩
  unfold mayI at hh
  generalize nextI s i = q at *
  obtain ⟨c, n⟩ := q
  dsimp only at *
  have f1 : mayC c = true → K (.int .i64 n) h := fun e => by rw [e] at hh; exact hh
  have f0 : mayC c = false → K (.int .i64 0) h := fun e => by rw [e] at hh; exact hh
  clear hh
  unfold mayC at f1 f0
  repeat' (with_reducible refine br_intro (fun hb => ?_) (fun hb => ?_))
  all_goals first
    | (refine f1 ?_; simp [*]; done)
    | (refine f0 ?_; simp [*]; done)
theorem targumref1_May.sc : ∀ vs h K, targumref1_May.s vs h K → ACalls Tryd.prog targumref1_May.n vs h K := by
  intro vs h K hh; unfold targumref1_May.s at hh; split at hh
  · exact targumref1_May.c _ _ _ _ hh.1 hh.2
  · exact hh.elim
theorem targumref1_May.sm : SpecMono targumref1_May.s := by
  intro vs h K K' hk hh; unfold targumref1_May.s at hh ⊢; split at hh
  · exact ⟨hh.1, hk _ _ hh.2⟩
  · exact hh.elim
theorem targumref1_May.sd : SpecDet targumref1_May.s := by
  intro vs h K hh; unfold targumref1_May.s at hh; split at hh
  · exact ⟨_, hh.2, hh.1, rfl⟩
  · exact hh.elim

theorem nextI_le (s : ByteArray) (i : Int) : (nextI s i).2 ≤ 4 := by
  have hf : ∀ (n least : Nat) (o : Option Nat), n ≤ 4 → (finL n least o).2 ≤ 4 := fun n least o hn => by
    unfold finL
    repeat' split
    all_goals (simp only; omega)
  unfold nextI
  split
  · generalize (lst s).drop i.toNat = l
    cases l with
    | nil => simp [decL]
    | cons b l =>
      unfold decL
      dsimp only
      repeat' split
      all_goals first | (simp only; omega) | (apply hf; omega)
  · simp
theorem mayI_le (s : ByteArray) (i : Int) : 0 ≤ mayI s i ∧ mayI s i ≤ 4 := by
  unfold mayI
  have := nextI_le s i
  cases mayC (nextI s i).1 <;> simp only [cond] <;> omega
def chkF (s : ByteArray) : Nat → Int → Int
  | 0, _ => -1
  | k + 1, i => if s.size ≤ i then -1 else if mayI s i = 0 then i else chkF s k (i + mayI s i)
def chkI (s : ByteArray) : Int := chkF s (s.size + 6) 0
def HB : CT := (extC HA targumref1_May.n targumref1_May.s)
theorem HB_ok : COk Tryd.prog HB := (extC_ok HA_ok targumref1_May.sc targumref1_May.sd)
theorem HB_mono : CMono HB := (extC_mono HA_mono targumref1_May.sm)
def targumref1_Check.sp0 : LSpec := ⟨targumref1_Check.cs0, targumref1_Check.ts0, fun vs h K => ∃ (s : ByteArray) (q : Int) (i : Int) (k : Nat), (vs = [.string s, .int .i64 q, .int .i64 i] ∧ (s.size ≤ 1000000 ∧ 0 ≤ i ∧ s.size - i + 5 < k ∧ i ≤ s.size + 4)) ∧ ((chkF s k i = -1 → ∀ i' : Int, K (.exit 0) [.string s, .int .i64 q, .int .i64 i'] h) ∧ (chkF s k i ≠ -1 → ∀ i' : Int, K .ret [.string s, .int .i64 (chkF s k i), .int .i64 i'] h))⟩
theorem targumref1_Check.spm0 : LSpecMono targumref1_Check.sp0 := by
  rintro vs h K K' hk ⟨s, q, i, k, h3, h4⟩
  exact ⟨s, q, i, k, h3, ⟨fun e i' => hk _ _ _ (h4.1 e i'), fun e i' => hk _ _ _ (h4.2 e i')⟩⟩
theorem targumref1_Check.t0 (s : ByteArray) (q : Int) (i : Int) (k : Nat) (h : Heap) (E : Env) (N : List Value → Heap → Prop) (K : LK) : mwp HB (lt0) targumref1_Check.l0 (lK targumref1_Check.cs0 N K) (zipE targumref1_Check.cs0 [.string s, .int .i64 q, .int .i64 i] ++ E) h = (br (decide (i < (↑s.size : Int))) (s.size ≤ (1000000 : Nat) ∧ br (decide (mayI s i = (0 : Int))) (K Exit.ret [Value.string s, Value.int IntKind.i64 i, Value.int IntKind.i64 i] h) (rng IntKind.i64 (i + mayI s i) ∧ N [Value.string s, Value.int IntKind.i64 q, Value.int IntKind.i64 (i + mayI s i)] h)) (K (Exit.exit (0 : Nat)) [Value.string s, Value.int IntKind.i64 q, Value.int IntKind.i64 i] h)) := by kernel_rfl
theorem targumref1_Check.lo0 : LOk1 Tryd.prog targumref1_Check.nt targumref1_Check.sp0 (.loop 0 targumref1_Check.l0) := by
  refine loop_res (σ := ByteArray × Int × Int × Nat) HB_ok HB_mono (lt0_mono) (LS := lt0) (by simp only [targumref1_Check.l0, LOk, and_true, true_and]) rfl rfl (fun ⟨s, q, i, k⟩ => [.string s, .int .i64 q, .int .i64 i]) (fun ⟨s, q, i, k⟩ h => s.size ≤ 1000000 ∧ 0 ≤ i ∧ s.size - i + 5 < k ∧ i ≤ s.size + 4) (fun ⟨s, q, i, k⟩ => k) (fun ⟨s, q, i, k⟩ K h => (chkF s k i = -1 → ∀ i' : Int, K (.exit 0) [.string s, .int .i64 q, .int .i64 i'] h) ∧ (chkF s k i ≠ -1 → ∀ i' : Int, K .ret [.string s, .int .i64 (chkF s k i), .int .i64 i'] h)) ?_ ?_
  · rintro vs h K ⟨s, q, i, k, ⟨h1, h2⟩, h3⟩
    exact ⟨⟨s, q, i, k⟩, h1, h2, h3⟩
  rintro ⟨s, q, i, k⟩ E h N K hE hp hN hK
  dsimp only at hp hN hK
  refine Eq.mpr (targumref1_Check.t0 s q i k h E N K) ?_
  obtain ⟨h1, h2, h3, h4⟩ := hp
  obtain ⟨k, rfl⟩ : ∃ k', k = k' + 1 := ⟨k - 1, by omega⟩
  have hm := mayI_le s i
  rw [chkF] at hK
  refine br_intro (fun hb => ?_) (fun hb => ?_)
  · simp only [decide_eq_true_eq] at hb
    rw [if_neg (by omega)] at hK
    refine ⟨h1, br_intro (fun hc => ?_) (fun hc => ?_)⟩
    · simp only [decide_eq_true_eq] at hc
      rw [if_pos hc] at hK
      exact hK.2 (by omega) i
    · simp only [decide_eq_false_iff_not] at hc
      rw [if_neg hc] at hK
      exact ⟨by simp only [rng]; omega, hN (s, q, i + mayI s i, k) h ⟨h1, by dsimp only; omega, by dsimp only; omega, by dsimp only; omega⟩ (by dsimp only; omega) hK⟩
  · simp only [decide_eq_false_iff_not] at hb
    rw [if_pos (by omega)] at hK
    exact hK.1 rfl i

def targumref1_Check.LS : LT := (extL lt0 0 targumref1_Check.sp0)
theorem targumref1_Check.LS_mono : LMono targumref1_Check.LS := (extL_mono lt0_mono targumref1_Check.spm0)
def targumref1_Check.s : List Value → Heap → VK → Prop
  | [.string s], h, K => (s.size ≤ 1000000) ∧ K (.int .i64 (chkI s)) h
  | _, _, _ => False
theorem targumref1_Check.t (s : ByteArray) (h : Heap) (K : VK) : mwp HB (targumref1_Check.LS) targumref1_Check.m (retK [.t 2] K) (argE 0 [.string s]) h = (∃ (s_1 : ByteArray), ∃ (q : Int), ∃ (i : Int), ∃ (k : Nat), ([Value.string s, Value.int IntKind.i64 (0 : Int), Value.int IntKind.i64 (0 : Int)] = [Value.string s_1, Value.int IntKind.i64 q, Value.int IntKind.i64 i] ∧ s_1.size ≤ (1000000 : Nat) ∧ (0 : Int) ≤ i ∧ (↑s_1.size : Int) - i + (5 : Int) < (↑k : Int) ∧ i ≤ (↑s_1.size : Int) + (4 : Int)) ∧ (chkF s_1 k i = (-1 : Int) → ∀ (i' : Int), K (Value.int IntKind.i64 (-1 : Int)) h) ∧ (chkF s_1 k i ≠ (-1 : Int) → ∀ (i' : Int), K (Value.int IntKind.i64 (chkF s_1 k i)) h)) := by kernel_rfl
theorem targumref1_Check.c (s : ByteArray) (h : Heap) (K : VK) (hp : s.size ≤ 1000000) (hh : K (.int .i64 (chkI s)) h) : ACalls Tryd.prog targumref1_Check.n [.string s] h K := by
  refine acalls_mk HB_ok targumref1_Check.ok (LS := targumref1_Check.LS) (by simp only [targumref1_Check.m, LOk, and_true, true_and]; (repeat' apply And.intro) <;> first | trivial | exact targumref1_Check.lo0) (Nat.le_of_ble_eq_true rfl) (Eq.mpr (targumref1_Check.t s h K) ?_)
  refine ⟨s, 0, 0, s.size + 6, ⟨rfl, hp, by omega, by omega, by omega⟩, fun e i' => ?_, fun e i' => hh⟩
  unfold chkI at hh
  rw [e] at hh
  exact hh
theorem targumref1_Check.sc : ∀ vs h K, targumref1_Check.s vs h K → ACalls Tryd.prog targumref1_Check.n vs h K := by
  intro vs h K hh; unfold targumref1_Check.s at hh; split at hh
  · exact targumref1_Check.c _ _ _ hh.1 hh.2
  · exact hh.elim
theorem targumref1_Check.sm : SpecMono targumref1_Check.s := by
  intro vs h K K' hk hh; unfold targumref1_Check.s at hh ⊢; split at hh
  · exact ⟨hh.1, hk _ _ hh.2⟩
  · exact hh.elim
theorem targumref1_Check.sd : SpecDet targumref1_Check.s := by
  intro vs h K hh; unfold targumref1_Check.s at hh; split at hh
  · exact ⟨_, hh.2, hh.1, rfl⟩
  · exact hh.elim

def HC : CT := (extC HB targumref1_Check.n targumref1_Check.s)
theorem HC_ok : COk Tryd.prog HC := (extC_ok HB_ok targumref1_Check.sc targumref1_Check.sd)
theorem HC_mono : CMono HC := (extC_mono HB_mono targumref1_Check.sm)
def fewI (s : ByteArray) (m : Int) : Bool := decide (s.size ≤ m) && decide (chkI s < 0)
def targumhelp_Few.s : List Value → Heap → VK → Prop
  | [.string s, .int .i64 m], h, K => (m ≤ 1000000) ∧ K (.bool (fewI s m)) h
  | _, _, _ => False
theorem targumhelp_Few.t (s : ByteArray) (m : Int) (h : Heap) (K : VK) : mwp HC (lt0) targumhelp_Few.m (retK [.t 4] K) (argE 0 [.string s, .int .i64 m]) h = (br (decide ((↑s.size : Int) ≤ m)) (s.size ≤ (1000000 : Nat) ∧ K (Value.bool (decide (chkI s < (0 : Int)))) h) (K (Value.bool false) h)) := by kernel_rfl
theorem targumhelp_Few.c (s : ByteArray) (m : Int) (h : Heap) (K : VK) (hp : m ≤ 1000000) (hh : K (.bool (fewI s m)) h) : ACalls Tryd.prog targumhelp_Few.n [.string s, .int .i64 m] h K := by
  refine acalls_mk HC_ok targumhelp_Few.ok (LS := lt0) (by simp only [targumhelp_Few.m, LOk, and_true, true_and]) (Nat.le_of_ble_eq_true rfl) (Eq.mpr (targumhelp_Few.t s m h K) ?_)
  unfold fewI at hh
  refine br_intro (fun hb => ?_) (fun hb => ?_)
  · rw [hb, Bool.true_and] at hh
    simp only [decide_eq_true_eq] at hb
    exact ⟨by omega, hh⟩
  · rw [hb, Bool.false_and] at hh
    exact hh
theorem targumhelp_Few.sc : ∀ vs h K, targumhelp_Few.s vs h K → ACalls Tryd.prog targumhelp_Few.n vs h K := by
  intro vs h K hh; unfold targumhelp_Few.s at hh; split at hh
  · exact targumhelp_Few.c _ _ _ _ hh.1 hh.2
  · exact hh.elim
theorem targumhelp_Few.sm : SpecMono targumhelp_Few.s := by
  intro vs h K K' hk hh; unfold targumhelp_Few.s at hh ⊢; split at hh
  · exact ⟨hh.1, hk _ _ hh.2⟩
  · exact hh.elim
theorem targumhelp_Few.sd : SpecDet targumhelp_Few.s := by
  intro vs h K hh; unfold targumhelp_Few.s at hh; split at hh
  · exact ⟨_, hh.2, hh.1, rfl⟩
  · exact hh.elim

end Go.Mini
