/- SquotePairs: the text that is built. Conditions: sizes. -/
import Derived.Test.YthllhoodbfnlaaaDoorL18a
import Derived.Test.YthllhoodbfnlaaaDoorSat0
namespace Go.Mini
open Go Go.RowKit Go.Proofs
set_option maxRecDepth 100000
set_option linter.unusedVariables false
set_option linter.unusedSimpArgs false

def prS (j : Nat) : List UInt8 := 39 :: 97 :: List.replicate j 39
def prW (j : Nat) : List UInt8 := 97 :: List.replicate (j / 2) 39
theorem prS_step (j : Nat) : prS j ++ [39] = prS (j + 1) := by simp [prS, List.replicate_succ']
def targumlaw18_SquotePairs.sp0 : LSpec := ⟨targumlaw18_SquotePairs.cs0, targumlaw18_SquotePairs.ts0, fun vs h K => ∃ (k j : Nat), (vs = [.int .i64 k, .string (strOf (prS j)), .string (strOf (prW j)), .int .i64 j] ∧ (k ≤ 40 ∧ j ≤ k)) ∧ (∀ x : Int, K (.exit 0) [.int .i64 k, .string (strOf (prS k)), .string (strOf (prW k)), .int .i64 x] h)⟩
theorem targumlaw18_SquotePairs.spm0 : LSpecMono targumlaw18_SquotePairs.sp0 := by
  rintro vs h K K' hk ⟨k, j, h3, h4⟩
  exact ⟨k, j, h3, fun x => hk _ _ _ (h4 x)⟩
theorem targumlaw18_SquotePairs.t0 (k j : Nat) (h : Heap) (E : Env) (N : List Value → Heap → Prop) (K : LK) : mwp SZ (lt0) targumlaw18_SquotePairs.l0 (lK targumlaw18_SquotePairs.cs0 N K) (zipE targumlaw18_SquotePairs.cs0 [.int .i64 k, .string (strOf (prS j)), .string (strOf (prW j)), .int .i64 j] ++ E) h = (br (decide ((↑j : Int) < (↑k : Int))) ((strOf (prS j)).size + (ByteArray.mk #[(39 : UInt8)]).size ≤ (9223372036854775807 : Nat) ∧ (2 : Int) ≠ (0 : Int) ∧ br (decide ((↑j : Int).tmod (2 : Int) = (1 : Int))) ((strOf (prW j)).size + (ByteArray.mk #[(39 : UInt8)]).size ≤ (9223372036854775807 : Nat) ∧ rng IntKind.i64 ((↑j : Int) + (1 : Int)) ∧ N [Value.int IntKind.i64 (↑k : Int), Value.string (strOf (prS j) ++ ByteArray.mk #[(39 : UInt8)]), Value.string (strOf (prW j) ++ ByteArray.mk #[(39 : UInt8)]), Value.int IntKind.i64 ((↑j : Int) + (1 : Int))] h) (rng IntKind.i64 ((↑j : Int) + (1 : Int)) ∧ N [Value.int IntKind.i64 (↑k : Int), Value.string (strOf (prS j) ++ ByteArray.mk #[(39 : UInt8)]), Value.string (strOf (prW j)), Value.int IntKind.i64 ((↑j : Int) + (1 : Int))] h)) (K (Exit.exit (0 : Nat)) [Value.int IntKind.i64 (↑k : Int), Value.string (strOf (prS j)), Value.string (strOf (prW j)), Value.int IntKind.i64 (↑j : Int)] h)) := by kernel_rfl
theorem targumlaw18_SquotePairs.lo0 : LOk1 Tryd.prog targumlaw18_SquotePairs.nt targumlaw18_SquotePairs.sp0 (.loop 0 targumlaw18_SquotePairs.l0) := by
  refine loop_res (σ := Nat × Nat) SZ_ok SZ_mono (lt0_mono) (LS := lt0) (by simp only [targumlaw18_SquotePairs.l0, LOk, and_true, true_and]) rfl rfl (fun ⟨k, j⟩ => [.int .i64 k, .string (strOf (prS j)), .string (strOf (prW j)), .int .i64 j]) (fun ⟨k, j⟩ h => k ≤ 40 ∧ j ≤ k) (fun ⟨k, j⟩ => k - j) (fun ⟨k, j⟩ K h => ∀ x : Int, K (.exit 0) [.int .i64 k, .string (strOf (prS k)), .string (strOf (prW k)), .int .i64 x] h) ?_ ?_
  · rintro vs h K ⟨k, j, ⟨h1, h2⟩, h3⟩
    exact ⟨⟨k, j⟩, h1, h2, h3⟩
  rintro ⟨k, j⟩ E h N K hE hp hN hK
  dsimp only at hp hN hK
  refine Eq.mpr (targumlaw18_SquotePairs.t0 k j h E N K) ?_
  obtain ⟨h1, h2⟩ := hp
  have l1 : (prS j).length = j + 2 := by simp [prS]
  have l2 : (prW j).length = j / 2 + 1 := by simp [prW]
  have em : ((j : Int).tmod 2) = ((j % 2 : Nat) : Int) := by rw [Int.tmod_eq_emod_of_nonneg (by omega)]; omega
  have z1 : (ByteArray.mk #[(39 : UInt8)]).size = 1 := rfl
  refine br_intro (fun hb => ?_) (fun hb => ?_)
  · simp only [decide_eq_true_eq] at hb
    rw [mk1', strOf_app', prS_step, em, strOf_size, strOf_size, strOf_size]
    refine ⟨by simp only [List.length_singleton]; omega, by omega, br_intro (fun hc => ?_) (fun hc => ?_)⟩
    · simp only [decide_eq_true_eq] at hc
      refine ⟨by simp only [List.length_singleton]; omega, by simp only [rng]; omega, ?_⟩
      rw [strOf_app', show prW j ++ [39] = prW (j + 1) from by
        unfold prW; rw [show (j + 1) / 2 = j / 2 + 1 from by omega, List.replicate_succ']; simp]
      exact hN (k, j + 1) h ⟨h1, by dsimp only; omega⟩ (by dsimp only; omega) hK
    · simp only [decide_eq_false_iff_not] at hc
      have : prW j = prW (j + 1) := by unfold prW; rw [show (j + 1) / 2 = j / 2 from by omega]
      rw [this]
      exact ⟨by simp only [rng]; omega, hN (k, j + 1) h ⟨h1, by dsimp only; omega⟩ (by dsimp only; omega) hK⟩
  · simp only [decide_eq_false_iff_not] at hb
    obtain rfl : j = k := by omega
    exact hK _

section
variable {v i a : Int} {s : ByteArray} {k : Nat} {l r : List UInt8} {c : UInt8}
theorem sq_pair (h : Sat s a (39 :: 39 :: r)) : sqN v s i (k + 1) a l = sqN v s i k (a + 2) (l ++ [39]) := by
  have := h.lt
  rw [sqN, if_neg (by omega), if_pos ⟨h.byte, h.step.byte⟩]
theorem sq_end (h : Sat s a (39 :: r)) (hr : ∀ r', r ≠ 39 :: r') : sqN v s i (k + 1) a l = .ok (l, a + 1) := by
  have := h.lt
  have hn : byteAt s (a + 1).toNat ≠ 39 := by
    cases r with
    | nil => rw [h.step.nil]; decide
    | cons d r => rw [h.step.byte]; intro e; exact hr r (by rw [e])
  rw [sqN, if_neg (by omega), if_neg (fun e => hn e.2), if_pos h.byte]
theorem sq_plain (h : Sat s a (c :: r)) (h0 : c ≠ 39) (hb : isBl c = false) (hk : brkL (decide (v = 11)) (c :: r) = 0) : sqN v s i (k + 1) a l = sqN v s i k (a + 1) (l ++ [c]) := by
  have := h.lt
  have ho : overI s a = a := by rw [h.over, bls, if_neg (by rw [hb]; decide)]; simp
  have hm : max a (a + 1) = a + 1 := by omega
  have hy : bytesI s a (a + 1) = [c] := by
    unfold bytesI
    rw [h.2.2, show (a + 1 - a).toNat = 1 from by omega]; rfl
  rw [sqN, if_neg (by omega), if_neg (fun e => h0 (by rw [← h.byte]; exact e.1)), if_neg (by rw [h.byte]; exact h0), ho, h.brk, hk, if_neg (by decide), hm, hy]
theorem sq_pairs : ∀ (n : Nat) {a : Int} {l : List UInt8}, Sat s a (List.replicate (2 * n) 39 ++ r) → sqN v s i (k + n) a l = sqN v s i k (a + 2 * n) (l ++ List.replicate n 39)
  | 0, a, l, h => by simp
  | n + 1, a, l, h => by
    have e : List.replicate (2 * (n + 1)) (39 : UInt8) = 39 :: 39 :: List.replicate (2 * n) 39 := by rw [show 2 * (n + 1) = 2 * n + 1 + 1 from by omega, List.replicate_succ, List.replicate_succ]
    rw [e] at h
    rw [show k + (n + 1) = (k + n) + 1 from by omega, sq_pair h, sq_pairs n (by have := h.step.step; rwa [show a + 1 + 1 = a + 2 from by omega] at this)]
    congr 1
    · omega
    · rw [List.append_assoc, List.replicate_succ]; rfl
end
theorem sq_head (v : Int) (k : Nat) : Sat (strOf (prS k ++ [98, 39])) 1 (97 :: (List.replicate k 39 ++ [98, 39])) ∧ sqI v (strOf (prS k ++ [98, 39])) 0 = sqN v (strOf (prS k ++ [98, 39])) 0 (k + 4 + 1) 2 [97] := by
  have h : Sat (strOf (prS k ++ [98, 39])) 0 (39 :: 97 :: (List.replicate k 39 ++ [98, 39])) := Sat.start _
  have hlt := h.lt
  have hsz : (strOf (prS k ++ [98, 39])).size = k + 4 := by rw [strOf_size]; simp [prS]
  refine ⟨h.step, ?_⟩
  unfold sqI
  rw [if_neg (by rintro (h1 | h1 | h1) <;> first | omega | exact h1 h.byte), hsz, show k + 4 + 2 = (k + 4 + 1) + 1 from by omega, show (0 : Int) + 1 = 1 from rfl, sq_plain (a := 1) (c := 97) (r := List.replicate k 39 ++ [98, 39]) h.step (by decide) (by decide) (by simp [brkL])]
  rfl
theorem sq_even (v : Int) (n : Nat) : sqI v (strOf (prS (2 * n) ++ [98, 39])) 0 = .ok (97 :: (List.replicate n 39 ++ [98]), 2 * n + 4) := by
  obtain ⟨h, e⟩ := sq_head v (2 * n)
  have h2 : Sat (strOf (prS (2 * n) ++ [98, 39])) 2 (List.replicate (2 * n) 39 ++ [98, 39]) := h.step
  have h3 := h2.app
  rw [List.length_replicate] at h3
  rw [e, show 2 * n + 4 + 1 = (n + 3 + 1 + 1) + n from by omega, sq_pairs n h2, show (2 : Int) + 2 * (n : Int) = 2 + ((2 * n : Nat) : Int) from by omega, sq_plain h3 (by decide) (by decide) (by simp [brkL]), sq_end h3.step (by simp)]
  congr 1
  refine Prod.ext ?_ ?_
  · simp
  · simp only; omega
theorem sq_odd (v : Int) (n : Nat) : sqI v (strOf (prS (2 * n + 1) ++ [98, 39])) 0 = .ok (97 :: List.replicate n 39, 2 * n + 3) := by
  obtain ⟨h, e⟩ := sq_head v (2 * n + 1)
  have h2 : Sat (strOf (prS (2 * n + 1) ++ [98, 39])) 2 (List.replicate (2 * n) 39 ++ (39 :: [98, 39])) := by
    have := h.step
    rw [List.replicate_succ', List.append_assoc] at this
    exact this
  have h3 := h2.app
  rw [List.length_replicate] at h3
  rw [e, show 2 * n + 1 + 4 + 1 = (n + 5 + 1) + n from by omega, sq_pairs n h2, show (2 : Int) + 2 * (n : Int) = 2 + ((2 * n : Nat) : Int) from by omega, sq_end h3 (by simp)]
  congr 1
  refine Prod.ext ?_ ?_
  · simp
  · simp only; omega
def targumlaw18_SquotePairs.LS : LT := (extL lt0 0 targumlaw18_SquotePairs.sp0)
theorem targumlaw18_SquotePairs.LS_mono : LMono targumlaw18_SquotePairs.LS := (extL_mono lt0_mono targumlaw18_SquotePairs.spm0)
def S18 : CT := (extC (extC SZ targumlaw18_known.n targumlaw18_known.s) targumhelp_Version.n targumhelp_Version.s)
theorem S18_ok : COk Tryd.prog S18 := (extC_ok (extC_ok SZ_ok targumlaw18_known.sc targumlaw18_known.sd) targumhelp_Version.sc targumhelp_Version.sd)
theorem S18_mono : CMono S18 := (extC_mono (extC_mono SZ_mono targumlaw18_known.sm) targumhelp_Version.sm)
theorem targumlaw18_SquotePairs.t (w : UInt8) (old : Bool) (K : VK) : mwp S18 (targumlaw18_SquotePairs.LS) targumlaw18_SquotePairs.m (retK [.t 4] K) (argE 0 [.int .u8 w.toNat, .bool old]) (lit ([])) = ((40 : Int) ≠ (0 : Int) ∧ rng IntKind.i64 ((↑w.toNat : Int).tmod (40 : Int)) ∧ ∃ (k : Nat), ∃ (j : Nat), ([Value.int IntKind.i64 ((↑w.toNat : Int).tmod (40 : Int)), Value.string (ByteArray.mk #[(39 : UInt8), (97 : UInt8)]), Value.string (ByteArray.mk #[(97 : UInt8)]), Value.int IntKind.i64 (0 : Int)] = [Value.int IntKind.i64 (↑k : Int), Value.string (strOf (prS j)), Value.string (strOf (prW j)), Value.int IntKind.i64 (↑j : Int)] ∧ k ≤ (40 : Nat) ∧ j ≤ k) ∧ ∀ (x : Int), (strOf (prS k)).size + (ByteArray.mk #[(98 : UInt8), (39 : UInt8)]).size ≤ (9223372036854775807 : Nat) ∧ ((strOf (prS k) ++ ByteArray.mk #[(98 : UInt8), (39 : UInt8)]).size ≤ (1000000 : Nat) ∧ (-10000000 : Int) ≤ (0 : Int) ∧ (0 : Int) ≤ (10000000 : Int)) ∧ (2 : Int) ≠ (0 : Int) ∧ br (decide ((↑k : Int).tmod (2 : Int) = (0 : Int))) (br (decide (sqC (sqI (verI old) (strOf (prS k) ++ ByteArray.mk #[(98 : UInt8), (39 : UInt8)]) (0 : Int)) = (0 : Int))) ((strOf (prW k)).size + (ByteArray.mk #[(98 : UInt8)]).size ≤ (9223372036854775807 : Nat) ∧ br (decide (strOf (sqT (sqI (verI old) (strOf (prS k) ++ ByteArray.mk #[(98 : UInt8), (39 : UInt8)]) (0 : Int))) = strOf (prW k) ++ ByteArray.mk #[(98 : UInt8)])) (rng IntKind.i64 ((↑(strOf (prS k)).size : Int) + (2 : Int)) ∧ K (Value.bool (decide (sqE (sqI (verI old) (strOf (prS k) ++ ByteArray.mk #[(98 : UInt8), (39 : UInt8)]) (0 : Int)) = (↑(strOf (prS k)).size : Int) + (2 : Int)))) (Heap.mk (1 : Nat) [some (Blk.mk (30 : Nat) (2 : Nat) ([] ++ [Value.int IntKind.i64 (sqC (sqI (verI old) (strOf (prS k) ++ ByteArray.mk #[(98 : UInt8), (39 : UInt8)]) (0 : Int))), Value.int IntKind.i64 (sqO (sqI (verI old) (strOf (prS k) ++ ByteArray.mk #[(98 : UInt8), (39 : UInt8)]) (0 : Int)))] ++ []) true)])) (K (Value.bool false) (Heap.mk (1 : Nat) [some (Blk.mk (30 : Nat) (2 : Nat) ([] ++ [Value.int IntKind.i64 (sqC (sqI (verI old) (strOf (prS k) ++ ByteArray.mk #[(98 : UInt8), (39 : UInt8)]) (0 : Int))), Value.int IntKind.i64 (sqO (sqI (verI old) (strOf (prS k) ++ ByteArray.mk #[(98 : UInt8), (39 : UInt8)]) (0 : Int)))] ++ []) true)]))) (K (Value.bool false) (Heap.mk (1 : Nat) [some (Blk.mk (30 : Nat) (2 : Nat) ([] ++ [Value.int IntKind.i64 (sqC (sqI (verI old) (strOf (prS k) ++ ByteArray.mk #[(98 : UInt8), (39 : UInt8)]) (0 : Int))), Value.int IntKind.i64 (sqO (sqI (verI old) (strOf (prS k) ++ ByteArray.mk #[(98 : UInt8), (39 : UInt8)]) (0 : Int)))] ++ []) true)]))) (br (decide (sqC (sqI (verI old) (strOf (prS k) ++ ByteArray.mk #[(98 : UInt8), (39 : UInt8)]) (0 : Int)) = (0 : Int))) (br (decide (strOf (sqT (sqI (verI old) (strOf (prS k) ++ ByteArray.mk #[(98 : UInt8), (39 : UInt8)]) (0 : Int))) = strOf (prW k))) (K (Value.bool (decide (sqE (sqI (verI old) (strOf (prS k) ++ ByteArray.mk #[(98 : UInt8), (39 : UInt8)]) (0 : Int)) = (↑(strOf (prS k)).size : Int)))) (Heap.mk (1 : Nat) [some (Blk.mk (30 : Nat) (2 : Nat) ([] ++ [Value.int IntKind.i64 (sqC (sqI (verI old) (strOf (prS k) ++ ByteArray.mk #[(98 : UInt8), (39 : UInt8)]) (0 : Int))), Value.int IntKind.i64 (sqO (sqI (verI old) (strOf (prS k) ++ ByteArray.mk #[(98 : UInt8), (39 : UInt8)]) (0 : Int)))] ++ []) true)])) (K (Value.bool false) (Heap.mk (1 : Nat) [some (Blk.mk (30 : Nat) (2 : Nat) ([] ++ [Value.int IntKind.i64 (sqC (sqI (verI old) (strOf (prS k) ++ ByteArray.mk #[(98 : UInt8), (39 : UInt8)]) (0 : Int))), Value.int IntKind.i64 (sqO (sqI (verI old) (strOf (prS k) ++ ByteArray.mk #[(98 : UInt8), (39 : UInt8)]) (0 : Int)))] ++ []) true)]))) (K (Value.bool false) (Heap.mk (1 : Nat) [some (Blk.mk (30 : Nat) (2 : Nat) ([] ++ [Value.int IntKind.i64 (sqC (sqI (verI old) (strOf (prS k) ++ ByteArray.mk #[(98 : UInt8), (39 : UInt8)]) (0 : Int))), Value.int IntKind.i64 (sqO (sqI (verI old) (strOf (prS k) ++ ByteArray.mk #[(98 : UInt8), (39 : UInt8)]) (0 : Int)))] ++ []) true)])))) := by kernel_rfl
theorem targumlaw18_SquotePairs.law (w : UInt8) (old : Bool) : ACalls Tryd.prog targumlaw18_SquotePairs.n [.int .u8 w.toNat, .bool old] (lit ([])) (fun v _ => v = .bool true) := by
  refine acalls_mk S18_ok targumlaw18_SquotePairs.ok (LS := targumlaw18_SquotePairs.LS) (by simp only [targumlaw18_SquotePairs.m, LOk, and_true, true_and]; (repeat' apply And.intro) <;> first | trivial | exact targumlaw18_SquotePairs.lo0) (Nat.le_of_ble_eq_true rfl) (Eq.mpr (targumlaw18_SquotePairs.t w old _) ?_)
  have hw : w.toNat < 256 := w.toNat_lt
  have em : ((w.toNat : Int).tmod 40) = ((w.toNat % 40 : Nat) : Int) := by rw [Int.tmod_eq_emod_of_nonneg (by omega)]; omega
  rw [em]
  refine ⟨by omega, by simp only [rng]; omega, w.toNat % 40, 0, ⟨rfl, by omega, by omega⟩, fun x => ?_⟩
  have hk : w.toNat % 40 < 40 := by omega
  generalize w.toNat % 40 = k at hk ⊢
  have l1 : (prS k).length = k + 2 := by simp [prS]
  have l2 : (prW k).length = k / 2 + 1 := by simp [prW]
  have mm : ((k : Int).tmod 2) = ((k % 2 : Nat) : Int) := by rw [Int.tmod_eq_emod_of_nonneg (by omega)]; omega
  rw [show ByteArray.mk #[(98 : UInt8), 39] = strOf [98, 39] from rfl, mk1', strOf_app', strOf_app', strOf_size, strOf_size, strOf_size, strOf_size, strOf_size, List.length_append, l1, l2, mm]
  refine ⟨by simp only [List.length_cons, List.length_nil]; omega, ⟨by simp only [List.length_cons, List.length_nil]; omega, by omega, by omega⟩, by omega, ?_⟩
  obtain ⟨n, rfl | rfl⟩ : ∃ n, k = 2 * n ∨ k = 2 * n + 1 := ⟨k / 2, by omega⟩
  · rw [sq_even, show 2 * n % 2 = 0 from by omega]
    have ew : prW (2 * n) ++ [98] = 97 :: (List.replicate n 39 ++ [98]) := by unfold prW; rw [show 2 * n / 2 = n from by omega]; rfl
    rw [ew]
    refine br_intro (fun _ => br_intro (fun _ => ⟨by simp only [List.length_cons, List.length_nil]; omega, br_intro (fun _ => ⟨by simp only [rng]; omega, ?_⟩) (fun hf => by simp [sqT] at hf)⟩) (fun hf => by simp [sqC] at hf)) (fun hf => by simp at hf)
    refine congrArg Value.bool (decide_eq_true ?_)
    show (2 * (n : Int) + 4) = ((2 * n + 2 : Nat) : Int) + 2
    omega
  · rw [sq_odd, show (2 * n + 1) % 2 = 1 from by omega]
    have ew : prW (2 * n + 1) = 97 :: List.replicate n 39 := by unfold prW; rw [show (2 * n + 1) / 2 = n from by omega]
    rw [ew]
    refine br_intro (fun hf => by simp at hf) (fun _ => br_intro (fun _ => br_intro (fun _ => ?_) (fun hf => by simp [sqT] at hf)) (fun hf => by simp [sqC] at hf))
    refine congrArg Value.bool (decide_eq_true ?_)
    show (2 * (n : Int) + 3) = ((2 * n + 1 + 2 : Nat) : Int)
    omega

end Go.Mini
