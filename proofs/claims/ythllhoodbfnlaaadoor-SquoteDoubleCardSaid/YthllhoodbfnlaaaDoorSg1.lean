/- The reference's rows of blanks and breaks; what they stand for. Conditions: sizes. -/
import Derived.Test.YthllhoodbfnlaaaDoorSq2
namespace Go.Mini
open Go Go.RowKit Go.Proofs
set_option maxRecDepth 100000
set_option linter.unusedVariables false
set_option linter.unusedSimpArgs false

theorem strOf_app'' (l m : List UInt8) : strOf l ++ strOf m = strOf (l ++ m) := by
  apply ByteArray.ext; apply Array.ext'
  simp [strOf]
def GA : CT := (extC (extC (extC HE targumref1_IsBlank.n targumref1_IsBlank.s) targumref1_Break.n targumref1_Break.s) targumref1_Marker.n targumref1_Marker.s)
theorem GA_ok : COk Tryd.prog GA := (extC_ok (extC_ok (extC_ok HE_ok targumref1_IsBlank.sc targumref1_IsBlank.sd) targumref1_Break.sc targumref1_Break.sd) targumref1_Marker.sc targumref1_Marker.sd)
theorem GA_mono : CMono GA := (extC_mono (extC_mono (extC_mono HE_mono targumref1_IsBlank.sm) targumref1_Break.sm) targumref1_Marker.sm)
def targumref17_feeds.sp0 : LSpec := ⟨targumref17_feeds.cs0, targumref17_feeds.ts0, fun vs h K => ∃ (n : Int) (l : List UInt8) (i : Int), (vs = [.int .i64 n, .string (strOf l), .int .i64 i] ∧ (n ≤ 1000000 ∧ 0 ≤ i ∧ i ≤ 1000000 ∧ l.length ≤ i)) ∧ (∀ i' : Int, K (.exit 0) [.int .i64 n, .string (strOf (l ++ List.replicate (n - i).toNat 10)), .int .i64 i'] h)⟩
theorem targumref17_feeds.spm0 : LSpecMono targumref17_feeds.sp0 := by
  rintro vs h K K' hk ⟨n, l, i, h3, h4⟩
  exact ⟨n, l, i, h3, fun i' => hk _ _ _ (h4 i')⟩
theorem targumref17_feeds.t0 (n : Int) (l : List UInt8) (i : Int) (h : Heap) (E : Env) (N : List Value → Heap → Prop) (K : LK) : mwp GA (lt0) targumref17_feeds.l0 (lK targumref17_feeds.cs0 N K) (zipE targumref17_feeds.cs0 [.int .i64 n, .string (strOf l), .int .i64 i] ++ E) h = (br (decide (i < n)) ((strOf l).size + (ByteArray.mk #[(10 : UInt8)]).size ≤ (9223372036854775807 : Nat) ∧ rng IntKind.i64 (i + (1 : Int)) ∧ N [Value.int IntKind.i64 n, Value.string (strOf l ++ ByteArray.mk #[(10 : UInt8)]), Value.int IntKind.i64 (i + (1 : Int))] h) (K (Exit.exit (0 : Nat)) [Value.int IntKind.i64 n, Value.string (strOf l), Value.int IntKind.i64 i] h)) := by kernel_rfl
theorem targumref17_feeds.lo0 : LOk1 Tryd.prog targumref17_feeds.nt targumref17_feeds.sp0 (.loop 0 targumref17_feeds.l0) := by
  refine loop_res (σ := Int × (List UInt8) × Int) GA_ok GA_mono (lt0_mono) (LS := lt0) (by simp only [targumref17_feeds.l0, LOk, and_true, true_and]) rfl rfl (fun ⟨n, l, i⟩ => [.int .i64 n, .string (strOf l), .int .i64 i]) (fun ⟨n, l, i⟩ h => n ≤ 1000000 ∧ 0 ≤ i ∧ i ≤ 1000000 ∧ l.length ≤ i) (fun ⟨n, l, i⟩ => (n - i).toNat) (fun ⟨n, l, i⟩ K h => ∀ i' : Int, K (.exit 0) [.int .i64 n, .string (strOf (l ++ List.replicate (n - i).toNat 10)), .int .i64 i'] h) ?_ ?_
  · rintro vs h K ⟨n, l, i, ⟨h1, h2⟩, h3⟩
    exact ⟨⟨n, l, i⟩, h1, h2, h3⟩
  rintro ⟨n, l, i⟩ E h N K hE hp hN hK
  dsimp only at hp hN hK
  refine Eq.mpr (targumref17_feeds.t0 n l i h E N K) ?_
  obtain ⟨h1, h2, h3, h4⟩ := hp
  refine br_intro (fun hb => ?_) (fun hb => ?_)
  · simp only [decide_eq_true_eq] at hb
    refine ⟨by rw [strOf_size]; show l.length + 1 ≤ _; omega, by simp only [rng]; omega, ?_⟩
    rw [show (ByteArray.mk #[(10 : UInt8)]) = strOf [10] from rfl, strOf_app'']
    refine hN (n, l ++ [10], i + 1) h ⟨h1, by dsimp only; omega, by dsimp only; omega, by simp only [List.length_append, List.length_singleton]; omega⟩ (by dsimp only; omega) ?_
    dsimp only
    rw [List.append_assoc, List.singleton_append, ← List.replicate_succ, show (n - (i + 1)).toNat + 1 = (n - i).toNat from by omega]
    exact hK
  · simp only [decide_eq_false_iff_not] at hb
    rw [show (n - i).toNat = 0 from by omega, List.replicate_zero, List.append_nil] at hK
    exact hK i

def targumref17_feeds.LS : LT := (extL lt0 0 targumref17_feeds.sp0)
theorem targumref17_feeds.LS_mono : LMono targumref17_feeds.LS := (extL_mono lt0_mono targumref17_feeds.spm0)
def targumref17_feeds.s : List Value → Heap → VK → Prop
  | [.int .i64 n], h, K => (n ≤ 1000000) ∧ K (.string (strOf (List.replicate n.toNat 10))) h
  | _, _, _ => False
theorem targumref17_feeds.t (n : Int) (h : Heap) (K : VK) : mwp GA (targumref17_feeds.LS) targumref17_feeds.m (retK [.t 2] K) (argE 0 [.int .i64 n]) h = (∃ (n_1 : Int), ∃ (l : List UInt8), ∃ (i : Int), ([Value.int IntKind.i64 n, Value.string (ByteArray.mk #[]), Value.int IntKind.i64 (0 : Int)] = [Value.int IntKind.i64 n_1, Value.string (strOf l), Value.int IntKind.i64 i] ∧ n_1 ≤ (1000000 : Int) ∧ (0 : Int) ≤ i ∧ i ≤ (1000000 : Int) ∧ (↑l.length : Int) ≤ i) ∧ ∀ (i' : Int), K (Value.string (strOf (l ++ List.replicate (n_1 - i).toNat (10 : UInt8)))) h) := by kernel_rfl
theorem targumref17_feeds.c (n : Int) (h : Heap) (K : VK) (hp : n ≤ 1000000) (hh : K (.string (strOf (List.replicate n.toNat 10))) h) : ACalls Tryd.prog targumref17_feeds.n [.int .i64 n] h K := by
  refine acalls_mk GA_ok targumref17_feeds.ok (LS := targumref17_feeds.LS) (by simp only [targumref17_feeds.m, LOk, and_true, true_and]; (repeat' apply And.intro) <;> first | trivial | exact targumref17_feeds.lo0) (Nat.le_of_ble_eq_true rfl) (Eq.mpr (targumref17_feeds.t n h K) ?_)
  refine ⟨n, [], 0, ⟨rfl, hp, by omega, by omega, by simp⟩, fun i' => ?_⟩
  rw [List.nil_append, Int.sub_zero]
  exact hh
theorem targumref17_feeds.sc : ∀ vs h K, targumref17_feeds.s vs h K → ACalls Tryd.prog targumref17_feeds.n vs h K := by
  intro vs h K hh; unfold targumref17_feeds.s at hh; split at hh
  · exact targumref17_feeds.c _ _ _ hh.1 hh.2
  · exact hh.elim
theorem targumref17_feeds.sm : SpecMono targumref17_feeds.s := by
  intro vs h K K' hk hh; unfold targumref17_feeds.s at hh ⊢; split at hh
  · exact ⟨hh.1, hk _ _ hh.2⟩
  · exact hh.elim
theorem targumref17_feeds.sd : SpecDet targumref17_feeds.s := by
  intro vs h K hh; unfold targumref17_feeds.s at hh; split at hh
  · exact ⟨_, hh.2, hh.1, rfl⟩
  · exact hh.elim

def targumref17_marked.sp0 : LSpec := ⟨targumref17_marked.cs0, targumref17_marked.ts0, fun vs h K => ∃ (v : Int) (s : ByteArray) (e : Int), (vs = [.int .i64 v, .string s, .int .i64 e] ∧ (s.size ≤ 1000000 ∧ 0 ≤ e ∧ e ≤ 1000000)) ∧ (K (.exit 0) [.int .i64 v, .string s, .int .i64 (endI v s e)] h)⟩
theorem targumref17_marked.spm0 : LSpecMono targumref17_marked.sp0 := by
  rintro vs h K K' hk ⟨v, s, e, h3, h4⟩
  exact ⟨v, s, e, h3, hk _ _ _ h4⟩
theorem targumref17_marked.t0 (v : Int) (s : ByteArray) (e : Int) (h : Heap) (E : Env) (N : List Value → Heap → Prop) (K : LK) : mwp GA (lt0) targumref17_marked.l0 (lK targumref17_marked.cs0 N K) (zipE targumref17_marked.cs0 [.int .i64 v, .string s, .int .i64 e] ++ E) h = (br (decide (e < (↑s.size : Int))) (s.size ≤ (1000000 : Nat) ∧ br (decide (brkI v s e = (0 : Int))) (rng IntKind.i64 (e + (1 : Int)) ∧ N [Value.int IntKind.i64 v, Value.string s, Value.int IntKind.i64 (e + (1 : Int))] h) (K (Exit.exit (0 : Nat)) [Value.int IntKind.i64 v, Value.string s, Value.int IntKind.i64 e] h)) (K (Exit.exit (0 : Nat)) [Value.int IntKind.i64 v, Value.string s, Value.int IntKind.i64 e] h)) := by kernel_rfl
theorem targumref17_marked.lo0 : LOk1 Tryd.prog targumref17_marked.nt targumref17_marked.sp0 (.loop 0 targumref17_marked.l0) := by
  refine loop_res (σ := Int × ByteArray × Int) GA_ok GA_mono (lt0_mono) (LS := lt0) (by simp only [targumref17_marked.l0, LOk, and_true, true_and]) rfl rfl (fun ⟨v, s, e⟩ => [.int .i64 v, .string s, .int .i64 e]) (fun ⟨v, s, e⟩ h => s.size ≤ 1000000 ∧ 0 ≤ e ∧ e ≤ 1000000) (fun ⟨v, s, e⟩ => (s.size - e).toNat) (fun ⟨v, s, e⟩ K h => K (.exit 0) [.int .i64 v, .string s, .int .i64 (endI v s e)] h) ?_ ?_
  · rintro vs h K ⟨v, s, e, ⟨h1, h2⟩, h3⟩
    exact ⟨⟨v, s, e⟩, h1, h2, h3⟩
  rintro ⟨v, s, e⟩ E h N K hE hp hN hK
  dsimp only at hp hN hK
  refine Eq.mpr (targumref17_marked.t0 v s e h E N K) ?_
  refine br_intro (fun hb => ?_) (fun hb => ?_)
  · simp only [decide_eq_true_eq] at hb
    refine ⟨hp.1, br_intro (fun hc => ?_) (fun hc => ?_)⟩
    · simp only [decide_eq_true_eq] at hc
      refine ⟨by simp only [rng]; omega, hN (v, s, e + 1) _ ⟨hp.1, by dsimp only; omega, by dsimp only; omega⟩ (by dsimp only; omega) ?_⟩
      dsimp only
      rw [endI_next hp.2.1 hb (by omega)]
      exact hK
    · simp only [decide_eq_false_iff_not] at hc
      rw [endI_stop hp.2.1 (.inr (by have := brkI_nn v s e; omega))] at hK
      exact hK
  · simp only [decide_eq_false_iff_not] at hb
    rw [endI_stop hp.2.1 (.inl (by omega))] at hK
    exact hK

theorem mark_ref {v : Int} {s : ByteArray} {i : Int} (h0 : 0 ≤ i) : markI v s i = (decide (i < s.size) && decide (0 < mrkI s i (endI v s i) (endI v s i))) := by
  unfold markI
  by_cases h : i < s.size
  · have h1 := endI_le v (s := s) h0 (by omega)
    have h2 := endI_ge v s i
    have hl := brkI_len v (s := s) (i := endI v s i) (by omega) h1
    have hn := brkI_nn v s (endI v s i)
    have e : mrkI s i (endI v s i) (nxtI v s i) = mrkI s i (endI v s i) (endI v s i) := by
      unfold mrkI saysL okLn nxtI
      rw [decide_eq_true (show 0 ≤ i ∧ i ≤ endI v s i ∧ endI v s i ≤ endI v s i + brkI v s (endI v s i) ∧ endI v s i + brkI v s (endI v s i) ≤ s.size from by omega), decide_eq_true (show 0 ≤ i ∧ i ≤ endI v s i ∧ endI v s i ≤ endI v s i ∧ endI v s i ≤ (s.size : Int) from by omega)]
    rw [e, decide_eq_true h, Bool.true_and]
  · rw [decide_eq_false h, Bool.false_and, endI_stop (s := s) h0 (.inl (by omega))]
    have e : saysL s i i (nxtI v s i) = [] := by
      unfold saysL
      split
      · rw [Nat.sub_self]; rfl
      · rfl
    unfold mrkI
    rw [e]; rfl
def targumref17_marked.LS : LT := (extL lt0 0 targumref17_marked.sp0)
theorem targumref17_marked.LS_mono : LMono targumref17_marked.LS := (extL_mono lt0_mono targumref17_marked.spm0)
def targumref17_marked.s : List Value → Heap → VK → Prop
  | [.int .i64 v, .string s, .int .i64 i], h, K => (s.size ≤ 1000000 ∧ 0 ≤ i ∧ i ≤ 1000000) ∧ K (.bool (markI v s i)) h
  | _, _, _ => False
theorem targumref17_marked.t (v : Int) (s : ByteArray) (i : Int) (h : Heap) (K : VK) : mwp GA (targumref17_marked.LS) targumref17_marked.m (retK [.t 6] K) (argE 0 [.int .i64 v, .string s, .int .i64 i]) h = (∃ (v_1 : Int), ∃ (s_1 : ByteArray), ∃ (e : Int), ([Value.int IntKind.i64 v, Value.string s, Value.int IntKind.i64 i] = [Value.int IntKind.i64 v_1, Value.string s_1, Value.int IntKind.i64 e] ∧ s_1.size ≤ (1000000 : Nat) ∧ (0 : Int) ≤ e ∧ e ≤ (1000000 : Int)) ∧ br (decide (i < (↑s_1.size : Int))) (s_1.size ≤ (1000000 : Nat) ∧ K (Value.bool (decide ((0 : Int) < mrkI s_1 i (endI v_1 s_1 e) (endI v_1 s_1 e)))) h) (K (Value.bool false) h)) := by kernel_rfl
theorem targumref17_marked.c (v : Int) (s : ByteArray) (i : Int) (h : Heap) (K : VK) (hp : s.size ≤ 1000000 ∧ 0 ≤ i ∧ i ≤ 1000000) (hh : K (.bool (markI v s i)) h) : ACalls Tryd.prog targumref17_marked.n [.int .i64 v, .string s, .int .i64 i] h K := by
  refine acalls_mk GA_ok targumref17_marked.ok (LS := targumref17_marked.LS) (by simp only [targumref17_marked.m, LOk, and_true, true_and]; (repeat' apply And.intro) <;> first | trivial | exact targumref17_marked.lo0) (Nat.le_of_ble_eq_true rfl) (Eq.mpr (targumref17_marked.t v s i h K) ?_)
  rw [mark_ref hp.2.1] at hh
  refine ⟨v, s, i, ⟨rfl, hp⟩, br_intro (fun hb => ?_) (fun hb => ?_)⟩
  · rw [hb, Bool.true_and] at hh
    exact ⟨hp.1, hh⟩
  · rw [hb, Bool.false_and] at hh
    exact hh
theorem targumref17_marked.sc : ∀ vs h K, targumref17_marked.s vs h K → ACalls Tryd.prog targumref17_marked.n vs h K := by
  intro vs h K hh; unfold targumref17_marked.s at hh; split at hh
  · exact targumref17_marked.c _ _ _ _ _ hh.1 hh.2
  · exact hh.elim
theorem targumref17_marked.sm : SpecMono targumref17_marked.s := by
  intro vs h K K' hk hh; unfold targumref17_marked.s at hh ⊢; split at hh
  · exact ⟨hh.1, hk _ _ hh.2⟩
  · exact hh.elim
theorem targumref17_marked.sd : SpecDet targumref17_marked.s := by
  intro vs h K hh; unfold targumref17_marked.s at hh; split at hh
  · exact ⟨_, hh.2, hh.1, rfl⟩
  · exact hh.elim

/-- Of blanks and breaks from a place on: how many breaks, the place behind; -1: where a line with a marker begins. -/
def rowF (v : Int) (s : ByteArray) : Nat → Int → Int → Int × Int
  | 0, i, n => (n, i)
  | k + 1, i, n => if s.size ≤ i then (n, i) else if blankI s i = true then rowF v s k (i + 1) n else if brkI v s i = 0 then (n, i)
    else if markI v s (i + brkI v s i) = true then (-1, i + brkI v s i) else rowF v s k (i + brkI v s i) (n + 1)
def rowI (v : Int) (s : ByteArray) (i : Int) : Int × Int := rowF v s (s.size + 1) i 0
def rwE (p : Int × Int) : Int := if p.1 < 0 then 0 else p.2
def rwN (p : Int × Int) : Int := if p.1 < 0 then 0 else p.1
def rwC (p : Int × Int) : Int := if p.1 < 0 then 11 else 0
def rwO (p : Int × Int) : Int := if p.1 < 0 then p.2 else 0
theorem rowF_ok (v : Int) (s : ByteArray) : ∀ (k : Nat) (i n : Int), 0 ≤ i → i ≤ s.size → 0 ≤ n → (i ≤ (rowF v s k i n).2 ∧ (rowF v s k i n).2 ≤ s.size ∧ (rowF v s k i n).1 ≤ n + ((rowF v s k i n).2 - i)) ∧ ((rowF v s k i n).1 = -1 ∨ n ≤ (rowF v s k i n).1)
  | 0, i, n, h0, h1, h2 => by simp only [rowF]; omega
  | k + 1, i, n, h0, h1, h2 => by
    rw [rowF]
    have hl := brkI_len v h0 h1
    have hnn := brkI_nn v s i
    split
    · simp only; omega
    · split
      · have := rowF_ok v s k (i + 1) n (by omega) (by omega) h2
        omega
      · split
        · simp only; omega
        · split
          · exact ⟨⟨by dsimp only; omega, by dsimp only; omega, by dsimp only; omega⟩, .inl rfl⟩
          · have := rowF_ok v s k (i + brkI v s i) (n + 1) (by omega) (by omega) (by omega)
            omega
abbrev fltO (c a : Int) : Option Blk := some ⟨TF, 2, [.int .i64 c, .int .i64 a], true⟩
def GB : CT := (extC (extC GA targumref17_feeds.n targumref17_feeds.s) targumref17_marked.n targumref17_marked.s)
theorem GB_ok : COk Tryd.prog GB := (extC_ok (extC_ok GA_ok targumref17_feeds.sc targumref17_feeds.sd) targumref17_marked.sc targumref17_marked.sd)
theorem GB_mono : CMono GB := (extC_mono (extC_mono GA_mono targumref17_feeds.sm) targumref17_marked.sm)
def targumref17_row.N0 (v : Int) (s : ByteArray) (q r : Int) (i n : Int) (k : Nat) (vs : List Value) (h : Heap) : Prop := vs = [.int .i64 v, .string s, .int .i64 i, .int .i64 q, .int .i64 r, .pointer (some ⟨0, 0, none⟩), .int .i64 n] ∧ h = lit [fltO 0 0]
def targumref17_row.sp0 : LSpec := ⟨targumref17_row.cs0, targumref17_row.ts0, fun vs h K => ∃ (v : Int) (s : ByteArray) (q r : Int) (i n : Int) (k : Nat), (h.n = 1 ∧ In 1 (targumref17_row.N0 v s q r i n k) vs h ∧ (s.size ≤ 1000000 ∧ 0 ≤ i ∧ i ≤ s.size ∧ 0 ≤ n ∧ n ≤ i ∧ s.size - i < k)) ∧ (((rowF v s k i n).1 < 0 → ∀ x y : Int, K .ret [.int .i64 v, .string s, .int .i64 (rowF v s k i n).2, .int .i64 0, .int .i64 0, .pointer (some ⟨0, 0, none⟩), .int .i64 x] (lit [fltO 11 (rowF v s k i n).2])) ∧ (0 ≤ (rowF v s k i n).1 → K (.exit 0) [.int .i64 v, .string s, .int .i64 (rowF v s k i n).2, .int .i64 q, .int .i64 r, .pointer (some ⟨0, 0, none⟩), .int .i64 (rowF v s k i n).1] (lit [fltO 0 0])))⟩
theorem targumref17_row.spm0 : LSpecMono targumref17_row.sp0 := by
  rintro vs h K K' hk ⟨v, s, q, r, i, n, k, h3, h4⟩
  exact ⟨v, s, q, r, i, n, k, h3, ⟨fun e x y => hk _ _ _ (h4.1 e x y), fun e => hk _ _ _ (h4.2 e)⟩⟩
theorem targumref17_row.t0 (v : Int) (s : ByteArray) (q r : Int) (i n : Int) (k : Nat) (E : Env) (N : List Value → Heap → Prop) (K : LK) : mwp GB (lt0) targumref17_row.l0 (lK targumref17_row.cs0 N K) (zipE targumref17_row.cs0 [.int .i64 v, .string s, .int .i64 i, .int .i64 q, .int .i64 r, .pointer (some ⟨0, 0, none⟩), .int .i64 n] ++ E) (lit [fltO 0 0]) = (br (decide (i < (↑s.size : Int))) (br (blankI s i) (rng IntKind.i64 (i + (1 : Int)) ∧ N [Value.int IntKind.i64 v, Value.string s, Value.int IntKind.i64 (i + (1 : Int)), Value.int IntKind.i64 q, Value.int IntKind.i64 r, Value.pointer (some (Addr.mk (0 : Nat) (0 : Nat) none)), Value.int IntKind.i64 n] (Heap.mk (1 : Nat) [fltO (0 : Int) (0 : Int)])) (s.size ≤ (1000000 : Nat) ∧ br (decide (brkI v s i = (0 : Int))) (K (Exit.exit (0 : Nat)) [Value.int IntKind.i64 v, Value.string s, Value.int IntKind.i64 i, Value.int IntKind.i64 q, Value.int IntKind.i64 r, Value.pointer (some (Addr.mk (0 : Nat) (0 : Nat) none)), Value.int IntKind.i64 n] (Heap.mk (1 : Nat) [fltO (0 : Int) (0 : Int)])) (rng IntKind.i64 (i + brkI v s i) ∧ rng IntKind.i64 (n + (1 : Int)) ∧ (s.size ≤ (1000000 : Nat) ∧ (0 : Int) ≤ i + brkI v s i ∧ i + brkI v s i ≤ (1000000 : Int)) ∧ br (markI v s (i + brkI v s i)) (K Exit.ret [Value.int IntKind.i64 v, Value.string s, Value.int IntKind.i64 (i + brkI v s i), Value.int IntKind.i64 (0 : Int), Value.int IntKind.i64 (0 : Int), Value.pointer (some (Addr.mk (0 : Nat) (0 : Nat) none)), Value.int IntKind.i64 (n + (1 : Int))] (Heap.mk (1 : Nat) [some (Blk.mk TF (2 : Nat) ([] ++ [Value.int IntKind.i64 (11 : Int), Value.int IntKind.i64 (i + brkI v s i)] ++ []) true)])) (N [Value.int IntKind.i64 v, Value.string s, Value.int IntKind.i64 (i + brkI v s i), Value.int IntKind.i64 q, Value.int IntKind.i64 r, Value.pointer (some (Addr.mk (0 : Nat) (0 : Nat) none)), Value.int IntKind.i64 (n + (1 : Int))] (Heap.mk (1 : Nat) [fltO (0 : Int) (0 : Int)]))))) (K (Exit.exit (0 : Nat)) [Value.int IntKind.i64 v, Value.string s, Value.int IntKind.i64 i, Value.int IntKind.i64 q, Value.int IntKind.i64 r, Value.pointer (some (Addr.mk (0 : Nat) (0 : Nat) none)), Value.int IntKind.i64 n] (Heap.mk (1 : Nat) [fltO (0 : Int) (0 : Int)]))) := by kernel_rfl
theorem targumref17_row.lo0 : LOk1 Tryd.prog targumref17_row.nt targumref17_row.sp0 (.loop 0 targumref17_row.l0) := by
  refine loop_resC (σ := Int × ByteArray × Int × Int × Int × Int × Nat) GB_ok GB_mono (lt0_mono) (LS := lt0) (by simp only [targumref17_row.l0, LOk, and_true, true_and]) rfl rfl (fun ⟨v, s, q, r, i, n, k⟩ => [.int .i64 v, .string s, .int .i64 i, .int .i64 q, .int .i64 r, .pointer (some ⟨0, 0, none⟩), .int .i64 n]) (fun ⟨v, s, q, r, i, n, k⟩ => lit [fltO 0 0]) (fun ⟨v, s, q, r, i, n, k⟩ => s.size ≤ 1000000 ∧ 0 ≤ i ∧ i ≤ s.size ∧ 0 ≤ n ∧ n ≤ i ∧ s.size - i < k) (fun ⟨v, s, q, r, i, n, k⟩ => k) 1 (fun ⟨v, s, q, r, i, n, k⟩ K => ((rowF v s k i n).1 < 0 → ∀ x y : Int, K .ret [.int .i64 v, .string s, .int .i64 (rowF v s k i n).2, .int .i64 0, .int .i64 0, .pointer (some ⟨0, 0, none⟩), .int .i64 x] (lit [fltO 11 (rowF v s k i n).2])) ∧ (0 ≤ (rowF v s k i n).1 → K (.exit 0) [.int .i64 v, .string s, .int .i64 (rowF v s k i n).2, .int .i64 q, .int .i64 r, .pointer (some ⟨0, 0, none⟩), .int .i64 (rowF v s k i n).1] (lit [fltO 0 0]))) ?_ ?_
  · rintro vs h K ⟨v, s, q, r, i, n, k, ⟨h1, h2, h3⟩, h4⟩
    exact ⟨h1, ⟨v, s, q, r, i, n, k⟩, h2, h3, h4⟩
  rintro ⟨v, s, q, r, i, n, k⟩ E N K hE hp hN hK
  dsimp only at hp hN hK
  refine Eq.mpr (targumref17_row.t0 v s q r i n k E N (fun x => In 1 (K x))) ?_
  obtain ⟨h1, h2, h3, h4, h5, h6⟩ := hp
  obtain ⟨k, rfl⟩ : ∃ k', k = k' + 1 := ⟨k - 1, by omega⟩
  have hl := brkI_len v h2 h3
  have hnn := brkI_nn v s i
  rw [rowF] at hK
  refine br_intro (fun hb => ?_) (fun hb => ?_)
  · simp only [decide_eq_true_eq] at hb
    rw [if_neg (by omega)] at hK
    refine br_intro (fun hc => ?_) (fun hc => ?_)
    · rw [if_pos hc] at hK
      exact ⟨by simp only [rng]; omega, hN (v, s, q, r, i + 1, n, k) _ _ ⟨h1, by dsimp only; omega, by dsimp only; omega, by dsimp only; omega, by dsimp only; omega, by dsimp only; omega⟩ (by dsimp only; omega) hK (.inl ⟨rfl, rfl⟩)⟩
    · rw [if_neg (by rw [hc]; decide)] at hK
      refine ⟨h1, br_intro (fun hd => ?_) (fun hd => ?_)⟩
      · simp only [decide_eq_true_eq] at hd
        rw [if_pos hd] at hK
        exact .inl (hK.2 h4)
      · simp only [decide_eq_false_iff_not] at hd
        rw [if_neg hd] at hK
        refine ⟨by simp only [rng]; omega, by simp only [rng]; omega, ⟨h1, by omega, by omega⟩, br_intro (fun he => ?_) (fun he => ?_)⟩
        · rw [if_pos he] at hK
          exact .inl (hK.1 (show (-1 : Int) < 0 by decide) _ 0)
        · rw [if_neg (by rw [he]; decide)] at hK
          exact hN (v, s, q, r, i + brkI v s i, n + 1, k) _ _ ⟨h1, by dsimp only; omega, by dsimp only; omega, by dsimp only; omega, by dsimp only; omega, by dsimp only; omega⟩ (by dsimp only; omega) hK (.inl ⟨rfl, rfl⟩)
  · simp only [decide_eq_false_iff_not] at hb
    rw [if_pos (by omega)] at hK
    exact .inl (hK.2 h4)

def targumref17_row.LS : LT := (extL lt0 0 targumref17_row.sp0)
theorem targumref17_row.LS_mono : LMono targumref17_row.LS := (extL_mono lt0_mono targumref17_row.spm0)
def targumref17_row.s : List Value → Heap → VK → Prop
  | [.int .i64 v, .string s, .int .i64 i], h, K => (s.size ≤ 1000000 ∧ 0 ≤ i ∧ i ≤ s.size) ∧ K (.tuple #[.int .i64 (rwE (rowI v s i)), .int .i64 (rwN (rowI v s i)), .agg #[.int .i64 (rwC (rowI v s i)), .int .i64 (rwO (rowI v s i))]]) h
  | _, _, _ => False
theorem targumref17_row.t (v : Int) (s : ByteArray) (i : Int) (K : VK) : mwp GB (targumref17_row.LS) targumref17_row.m (retK [.t 6, .t 7, .v 8 (some 2)] K) (argE 0 [.int .i64 v, .string s, .int .i64 i]) (lit []) = (∃ (v_1 : Int), ∃ (s_1 : ByteArray), ∃ (q : Int), ∃ (r : Int), ∃ (i_1 : Int), ∃ (n : Int), ∃ (k : Nat), ((1 : Nat) = (1 : Nat) ∧ In (1 : Nat) (targumref17_row.N0 v_1 s_1 q r i_1 n k) [Value.int IntKind.i64 v, Value.string s, Value.int IntKind.i64 i, Value.int IntKind.i64 (0 : Int), Value.int IntKind.i64 (0 : Int), Value.pointer (some (Addr.mk (0 : Nat) (0 : Nat) none)), Value.int IntKind.i64 (0 : Int)] (Heap.mk (1 : Nat) [some (Blk.mk (30 : Nat) (2 : Nat) [Value.int IntKind.i64 (0 : Int), Value.int IntKind.i64 (0 : Int)] true)]) ∧ s_1.size ≤ (1000000 : Nat) ∧ (0 : Int) ≤ i_1 ∧ i_1 ≤ (↑s_1.size : Int) ∧ (0 : Int) ≤ n ∧ n ≤ i_1 ∧ (↑s_1.size : Int) - i_1 < (↑k : Int)) ∧ ((rowF v_1 s_1 k i_1 n).fst < (0 : Int) → ∀ (x y : Int), K (Value.tuple #[Value.int IntKind.i64 (0 : Int), Value.int IntKind.i64 (0 : Int), Value.agg #[Value.int IntKind.i64 (11 : Int), Value.int IntKind.i64 (rowF v_1 s_1 k i_1 n).snd]]) (Heap.mk (1 : Nat) [fltO (11 : Int) (rowF v_1 s_1 k i_1 n).snd])) ∧ ((0 : Int) ≤ (rowF v_1 s_1 k i_1 n).fst → K (Value.tuple #[Value.int IntKind.i64 (rowF v_1 s_1 k i_1 n).snd, Value.int IntKind.i64 (rowF v_1 s_1 k i_1 n).fst, Value.agg #[Value.int IntKind.i64 (0 : Int), Value.int IntKind.i64 (0 : Int)]]) (Heap.mk (1 : Nat) [some (Blk.mk TF (2 : Nat) ([] ++ [Value.int IntKind.i64 (0 : Int), Value.int IntKind.i64 (0 : Int)] ++ []) true)]))) := by kernel_rfl
theorem targumref17_row.c (v : Int) (s : ByteArray) (i : Int) (h : Heap) (K : VK) (hp : s.size ≤ 1000000 ∧ 0 ≤ i ∧ i ≤ s.size) (hh : K (.tuple #[.int .i64 (rwE (rowI v s i)), .int .i64 (rwN (rowI v s i)), .agg #[.int .i64 (rwC (rowI v s i)), .int .i64 (rwO (rowI v s i))]]) h) : ACalls Tryd.prog targumref17_row.n [.int .i64 v, .string s, .int .i64 i] h K := by
  refine ACalls.alone rfl (acalls_mk GB_ok targumref17_row.ok (LS := targumref17_row.LS) (by simp only [targumref17_row.m, LOk, and_true, true_and]; (repeat' apply And.intro) <;> first | trivial | exact targumref17_row.lo0) (Nat.le_of_ble_eq_true rfl) (Eq.mpr (targumref17_row.t v s i (fun v _ => ck (cleanT v) (K v h))) ?_))
  have hok := rowF_ok v s (s.size + 1) i 0 hp.2.1 hp.2.2 (by omega)
  refine ⟨v, s, 0, 0, i, 0, s.size + 1, ⟨rfl, .inl ⟨rfl, rfl⟩, hp.1, hp.2.1, hp.2.2, by omega, by omega, by omega⟩, fun e x y => ?_, fun e => ?_⟩
  · unfold rwE rwN rwC rwO rowI at hh
    rw [if_pos e, if_pos e, if_pos e, if_pos e] at hh
    exact ck_iff.2 ⟨rfl, hh⟩
  · unfold rwE rwN rwC rwO rowI at hh
    rw [if_neg (by omega), if_neg (by omega), if_neg (by omega), if_neg (by omega)] at hh
    exact ck_iff.2 ⟨rfl, hh⟩
theorem targumref17_row.sc : ∀ vs h K, targumref17_row.s vs h K → ACalls Tryd.prog targumref17_row.n vs h K := by
  intro vs h K hh; unfold targumref17_row.s at hh; split at hh
  · exact targumref17_row.c _ _ _ _ _ hh.1 hh.2
  · exact hh.elim
theorem targumref17_row.sm : SpecMono targumref17_row.s := by
  intro vs h K K' hk hh; unfold targumref17_row.s at hh ⊢; split at hh
  · exact ⟨hh.1, hk _ _ hh.2⟩
  · exact hh.elim
theorem targumref17_row.sd : SpecDet targumref17_row.s := by
  intro vs h K hh; unfold targumref17_row.s at hh; split at hh
  · exact ⟨_, hh.2, hh.1, rfl⟩
  · exact hh.elim

theorem rowI_ok (v : Int) {s : ByteArray} {i : Int} (h0 : 0 ≤ i) (h1 : i ≤ s.size) : (i ≤ (rowI v s i).2 ∧ (rowI v s i).2 ≤ s.size ∧ (rowI v s i).1 ≤ (rowI v s i).2 - i) ∧ ((rowI v s i).1 = -1 ∨ 0 ≤ (rowI v s i).1) := by
  have := rowF_ok v s (s.size + 1) i 0 h0 h1 (by omega)
  unfold rowI; omega
def foldK (s : ByteArray) (i k n : Int) : List UInt8 := if n = 0 then bytesI s i k else foldedL n
def GC : CT := (extC GB targumref17_row.n targumref17_row.s)
theorem GC_ok : COk Tryd.prog GC := (extC_ok GB_ok targumref17_row.sc targumref17_row.sd)
theorem GC_mono : CMono GC := (extC_mono GB_mono targumref17_row.sm)
def targumref17_folded.s : List Value → Heap → VK → Prop
  | [.string s, .int .i64 i, .int .i64 k, .int .i64 n], h, K => (s.size ≤ 1000000 ∧ 0 ≤ i ∧ i ≤ k ∧ k ≤ s.size ∧ 0 ≤ n ∧ n ≤ 1000000) ∧ K (.string (strOf (foldK s i k n))) h
  | _, _, _ => False
theorem targumref17_folded.t (s : ByteArray) (i k n : Int) (h : Heap) (K : VK) : mwp GC (lt0) targumref17_folded.m (retK [.t 8] K) (argE 0 [.string s, .int .i64 i, .int .i64 k, .int .i64 n]) h = (br (decide (n = (0 : Int))) (((0 : Int) ≤ i ∧ i ≤ k ∧ k ≤ (↑s.size : Int)) ∧ K (Value.string (s.extract i.toNat k.toNat)) h) (br (decide (n = (1 : Int))) (K (Value.string (ByteArray.mk #[(32 : UInt8)])) h) (rng IntKind.i64 (n - (1 : Int)) ∧ n - (1 : Int) ≤ (1000000 : Int) ∧ K (Value.string (strOf (List.replicate (n - (1 : Int)).toNat (10 : UInt8)))) h))) := by kernel_rfl
theorem targumref17_folded.c (s : ByteArray) (i k n : Int) (h : Heap) (K : VK) (hp : s.size ≤ 1000000 ∧ 0 ≤ i ∧ i ≤ k ∧ k ≤ s.size ∧ 0 ≤ n ∧ n ≤ 1000000) (hh : K (.string (strOf (foldK s i k n))) h) : ACalls Tryd.prog targumref17_folded.n [.string s, .int .i64 i, .int .i64 k, .int .i64 n] h K := by
  refine acalls_mk GC_ok targumref17_folded.ok (LS := lt0) (by simp only [targumref17_folded.m, LOk, and_true, true_and]) (Nat.le_of_ble_eq_true rfl) (Eq.mpr (targumref17_folded.t s i k n h K) ?_)
  obtain ⟨h1, h2, h3, h4, h5, h6⟩ := hp
  unfold foldK at hh
  refine br_intro (fun hb => ?_) (fun hb => ?_)
  · simp only [decide_eq_true_eq] at hb
    rw [if_pos hb] at hh
    refine ⟨⟨h2, h3, h4⟩, ?_⟩
    rw [show s.extract i.toNat k.toNat = strOf (bytesI s i k) from by rw [← bytesI_ext s h2 h3]; exact (strOf_lst _).symm]
    exact hh
  · simp only [decide_eq_false_iff_not] at hb
    rw [if_neg hb] at hh
    unfold foldedL at hh
    refine br_intro (fun hc => ?_) (fun hc => ?_)
    · simp only [decide_eq_true_eq] at hc
      rw [if_pos hc] at hh
      exact hh
    · simp only [decide_eq_false_iff_not] at hc
      rw [if_neg hc] at hh
      exact ⟨by simp only [rng]; omega, by omega, hh⟩
theorem targumref17_folded.sc : ∀ vs h K, targumref17_folded.s vs h K → ACalls Tryd.prog targumref17_folded.n vs h K := by
  intro vs h K hh; unfold targumref17_folded.s at hh; split at hh
  · exact targumref17_folded.c _ _ _ _ _ _ hh.1 hh.2
  · exact hh.elim
theorem targumref17_folded.sm : SpecMono targumref17_folded.s := by
  intro vs h K K' hk hh; unfold targumref17_folded.s at hh ⊢; split at hh
  · exact ⟨hh.1, hk _ _ hh.2⟩
  · exact hh.elim
theorem targumref17_folded.sd : SpecDet targumref17_folded.s := by
  intro vs h K hh; unfold targumref17_folded.s at hh; split at hh
  · exact ⟨_, hh.2, hh.1, rfl⟩
  · exact hh.elim

theorem foldK_le {s : ByteArray} {i k n : Int} (h0 : 0 ≤ i) (h1 : i ≤ k) (hn : n ≤ k - i) (hk : n = 0 ∨ i < k) : ((foldK s i k n).length : Int) ≤ k - i := by
  unfold foldK
  split
  · have := bytesI_len s i k; omega
  · rename_i h
    have := foldedL_le (n := n) (m := k - i) hn (by omega)
    omega
/-- The reference's text in single quotes from a place within on. -/
def sgN (v : Int) (s : ByteArray) (i : Int) : Nat → Int → List UInt8 → Except Int (List UInt8 × Int)
  | 0, _, _ => .error i
  | k + 1, a, l => if s.size ≤ a then .error i else if byteAt s a.toNat = 39 ∧ byteAt s (a + 1).toNat = 39 then sgN v s i k (a + 2) (l ++ [39])
    else if byteAt s a.toNat = 39 then .ok (l, a + 1)
    else if blankI s a = true ∨ 0 < brkI v s a then (if (rowI v s a).1 < 0 then .error (rowI v s a).2 else sgN v s i k (rowI v s a).2 (l ++ foldK s a (rowI v s a).2 (rowI v s a).1))
    else sgN v s i k (a + 1) (l ++ [byteAt s a.toNat])
def sgRes (v : Int) (s : ByteArray) (i : Int) (K : LK) (o : Except Int (List UInt8 × Int)) : Prop :=
  (∀ (t : List UInt8) (e : Int), o = .ok (t, e) → ∀ (x : List UInt8) (y : Int), K .ret [.int .i64 v, .string s, .string (strOf t), .int .i64 e, .pointer (some ⟨0, 0, none⟩), .slice (some ⟨1, 0, none⟩) x.length x.length, .int .i64 y] (lit [fltO 0 0, some ⟨5, 1, byV x, true⟩])) ∧
  (o = .error i → ∀ (x : List UInt8) (y : Int), K (.exit 0) [.int .i64 v, .string s, .string ⟨#[]⟩, .int .i64 0, .pointer (some ⟨0, 0, none⟩), .slice (some ⟨1, 0, none⟩) x.length x.length, .int .i64 y] (lit [fltO 0 0, some ⟨5, 1, byV x, true⟩])) ∧
  (∀ a : Int, o = .error a → a ≠ i → ∀ (x : List UInt8) (y : Int), K .ret [.int .i64 v, .string s, .string ⟨#[]⟩, .int .i64 0, .pointer (some ⟨0, 0, none⟩), .slice (some ⟨1, 0, none⟩) x.length x.length, .int .i64 y] (lit [fltO 11 a, some ⟨5, 1, byV x, true⟩]))
theorem br_t {A B : Prop} : br true A B = A := rfl
theorem br_f {A B : Prop} : br false A B = B := rfl
theorem byV_flat' (l : List UInt8) : (byV l).all flatV = true := List.all_eq_true.2 fun v hv => by
  obtain ⟨b, _, rfl⟩ := List.mem_map.1 hv; rfl
theorem sg_ret {K : LK} {v c x a y : Int} {s t : ByteArray} {l : List UInt8} {g : Option Blk} (hK : K .ret [.int .i64 v, .string s, .string t, .int .i64 y, .pointer (some ⟨0, 0, none⟩), .slice (some ⟨1, 0, none⟩) l.length l.length, .int .i64 a] (lit [fltO c x, some ⟨5, 1, byV l, true⟩])) :
    In 1 (K .ret) [.int .i64 v, .string s, .string t, .int .i64 y, .pointer (some ⟨0, 0, none⟩), .slice (some ⟨1, 0, none⟩) l.length l.length, .int .i64 a] (Heap.mk 3 [fltO c x, some ⟨5, 1, byV l, true⟩, g]) := by
  refine In.lit (L := [fltO c x, some ⟨5, 1, byV l, true⟩]) [some 0, some 1] [.int .i64 v, .string s, .string t, .int .i64 y, .pointer (some ⟨0, 0, none⟩), .slice (some ⟨1, 0, none⟩) l.length l.length, .int .i64 a] ⟨⟨rfl, rfl, rfl⟩, ⟨rfl, okF_all (byV_flat' _), ?_⟩, trivial⟩ rfl rfl rfl ?_ ?_ hK
  · rw [map_ren_flat (byV_flat' _)]; rfl
  · simp [renT, renA, ren]
  · simp [okT, okA, okF, flatV]
theorem sg_next {v a : Int} {s : ByteArray} {l m : List UInt8} {x : List Value} {n k : Nat} {g : Option Blk} (hn : l.length ≤ n) (hx : x = byV m) (hk : k = (l ++ m).length) :
    In 1 (fun vs h => vs = [.int .i64 v, .string s, .string ⟨#[]⟩, .int .i64 0, .pointer (some ⟨0, 0, none⟩), .slice (some ⟨1, 0, none⟩) (l ++ m).length (l ++ m).length, .int .i64 a] ∧ h = lit [fltO 0 0, some ⟨5, 1, byV (l ++ m), true⟩])
      [.int .i64 v, .string s, .string ⟨#[]⟩, .int .i64 0, .pointer (some ⟨0, 0, none⟩), .slice (some ⟨3, 0, none⟩) k k, .int .i64 a] (Heap.mk 4 [fltO 0 0, none, g, some (Blk.mk 5 1 (List.take n (byV l) ++ x) true)]) := by
  subst hx hk
  have hl := byV_len l
  refine In.rows [some 0, some 3] ⟨⟨rfl, rfl, rfl⟩, ⟨rfl, okF_all (byV_flat' _), ?_⟩, trivial⟩ rfl rfl rfl ?_ ?_
  · show some _ = some _
    rw [map_ren_flat (byV_flat' _), byV_app, List.take_of_length_le (by omega)]
  · simp [renT, renA, ren]
  · simp [okT, okA, okF, flatV]
theorem bts_eq {l l1 : List UInt8} (h : List.take l.length (List.drop 0 (byV l)) = List.map (fun (b : UInt8) => Value.int IntKind.u8 (b.toNat : Int)) l1) : l1 = l := by
  rw [List.drop_zero, ← byV_len l, List.take_length] at h
  unfold byV at h
  refine (List.map_inj_right (f := fun (b : UInt8) => Value.int IntKind.u8 (b.toNat : Int)) fun x y e => ?_).1 h.symm
  simp only [Value.int.injEq, true_and] at e
  exact UInt8.toNat_inj.1 (by omega)
def GD : CT := (extC GC targumref17_folded.n targumref17_folded.s)
theorem GD_ok : COk Tryd.prog GD := (extC_ok GC_ok targumref17_folded.sc targumref17_folded.sd)
theorem GD_mono : CMono GD := (extC_mono GC_mono targumref17_folded.sm)
def targumref17_Single.N0 (v : Int) (s : ByteArray) (i : Int) (l : List UInt8) (a : Int) (k : Nat) (vs : List Value) (h : Heap) : Prop := vs = [.int .i64 v, .string s, .string ⟨#[]⟩, .int .i64 0, .pointer (some ⟨0, 0, none⟩), .slice (some ⟨1, 0, none⟩) l.length l.length, .int .i64 a] ∧ h = lit [fltO 0 0, some ⟨5, 1, byV l, true⟩]
def targumref17_Single.sp0 : LSpec := ⟨targumref17_Single.cs0, targumref17_Single.ts0, fun vs h K => ∃ (v : Int) (s : ByteArray) (i : Int) (l : List UInt8) (a : Int) (k : Nat), (h.n = 1 ∧ In 1 (targumref17_Single.N0 v s i l a k) vs h ∧ (s.size ≤ 1000000 ∧ 0 ≤ i ∧ i < a ∧ a ≤ s.size ∧ l.length ≤ a ∧ s.size - a < k)) ∧ (sgRes v s i K (sgN v s i k a l))⟩
theorem targumref17_Single.spm0 : LSpecMono targumref17_Single.sp0 := by
  rintro vs h K K' hk ⟨v, s, i, l, a, k, h3, h4⟩
  exact ⟨v, s, i, l, a, k, h3, ⟨fun t e ho x y => hk _ _ _ (h4.1 t e ho x y), fun ho x y => hk _ _ _ (h4.2.1 ho x y), fun a ho hn x y => hk _ _ _ (h4.2.2 a ho hn x y)⟩⟩
theorem targumref17_Single.t0 (v : Int) (s : ByteArray) (i : Int) (l : List UInt8) (a : Int) (k : Nat) (E : Env) (N : List Value → Heap → Prop) (K : LK) : mwp GD (lt0) targumref17_Single.l0 (lK targumref17_Single.cs0 N K) (zipE targumref17_Single.cs0 [.int .i64 v, .string s, .string ⟨#[]⟩, .int .i64 0, .pointer (some ⟨0, 0, none⟩), .slice (some ⟨1, 0, none⟩) l.length l.length, .int .i64 a] ++ E) (lit [fltO 0 0, some ⟨5, 1, byV l, true⟩]) = (br (decide (a < (↑s.size : Int))) (((0 : Int) ≤ a ∧ a < (↑s.size : Int)) ∧ br (decide ((↑(byteAt s a.toNat).toNat : Int) = (39 : Int))) (rng IntKind.i64 (a + (1 : Int)) ∧ br (decide (a + (1 : Int) < (↑s.size : Int))) (rng IntKind.i64 (a + (1 : Int)) ∧ ((0 : Int) ≤ a + (1 : Int) ∧ a + (1 : Int) < (↑s.size : Int)) ∧ br (decide ((↑(byteAt s (a + (1 : Int)).toNat).toNat : Int) = (39 : Int))) ((l.length + (1 : Nat) ≤ (1000000 : Nat) ∧ l.length * (1 : Nat) ≤ (byV l).length) ∧ rng IntKind.i64 (a + (2 : Int)) ∧ N [Value.int IntKind.i64 v, Value.string s, Value.string (ByteArray.mk #[]), Value.int IntKind.i64 (0 : Int), Value.pointer (some (Addr.mk (0 : Nat) (0 : Nat) none)), Value.slice (some (Addr.mk (3 : Nat) (0 : Nat) none)) (l.length + (1 : Nat)) (l.length + (1 : Nat)), Value.int IntKind.i64 (a + (2 : Int))] (Heap.mk (4 : Nat) [fltO (0 : Int) (0 : Int), none, some (Blk.mk (5 : Nat) (1 : Nat) [Value.int IntKind.u8 (39 : Int)] true), some (Blk.mk (5 : Nat) (1 : Nat) (List.take (l.length * (1 : Nat)) (byV l) ++ [Value.int IntKind.u8 (39 : Int)]) true)])) (((0 : Int) ≤ a ∧ a < (↑s.size : Int)) ∧ br (decide ((↑(byteAt s a.toNat).toNat : Int) = (39 : Int))) (∃ (l_1 : List UInt8), (List.take l.length (List.drop (0 : Nat) (byV l)) = List.map (fun (b : UInt8) => Value.int IntKind.u8 (↑b.toNat : Int)) l_1 ∧ l_1.length = l.length) ∧ rng IntKind.i64 (a + (1 : Int)) ∧ K Exit.ret [Value.int IntKind.i64 v, Value.string s, Value.string (ByteArray.mk l_1.toArray), Value.int IntKind.i64 (a + (1 : Int)), Value.pointer (some (Addr.mk (0 : Nat) (0 : Nat) none)), Value.slice (some (Addr.mk (1 : Nat) (0 : Nat) none)) l.length l.length, Value.int IntKind.i64 a] (Heap.mk (2 : Nat) [some (Blk.mk TF (2 : Nat) ([] ++ [Value.int IntKind.i64 (0 : Int), Value.int IntKind.i64 (0 : Int)] ++ []) true), some (Blk.mk (5 : TypeId) (1 : Nat) (byV l) true)])) (br (blankI s a) ((s.size ≤ (1000000 : Nat) ∧ (0 : Int) ≤ a ∧ a ≤ (↑s.size : Int)) ∧ br (!decide (rwC (rowI v s a) = (0 : Int))) (K Exit.ret [Value.int IntKind.i64 v, Value.string s, Value.string (ByteArray.mk #[]), Value.int IntKind.i64 (0 : Int), Value.pointer (some (Addr.mk (0 : Nat) (0 : Nat) none)), Value.slice (some (Addr.mk (1 : Nat) (0 : Nat) none)) l.length l.length, Value.int IntKind.i64 a] (Heap.mk (3 : Nat) [some (Blk.mk TF (2 : Nat) ([] ++ [Value.int IntKind.i64 (rwC (rowI v s a)), Value.int IntKind.i64 (rwO (rowI v s a))] ++ []) true), some (Blk.mk (5 : TypeId) (1 : Nat) (byV l) true), some (Blk.mk (30 : Nat) (2 : Nat) ([] ++ [Value.int IntKind.i64 (rwC (rowI v s a)), Value.int IntKind.i64 (rwO (rowI v s a))] ++ []) true)])) ((s.size ≤ (1000000 : Nat) ∧ (0 : Int) ≤ a ∧ a ≤ rwE (rowI v s a) ∧ rwE (rowI v s a) ≤ (↑s.size : Int) ∧ (0 : Int) ≤ rwN (rowI v s a) ∧ rwN (rowI v s a) ≤ (1000000 : Int)) ∧ (l.length + (strOf (foldK s a (rwE (rowI v s a)) (rwN (rowI v s a)))).size ≤ (100000000000000 : Nat) ∧ l.length ≤ (byV l).length) ∧ N [Value.int IntKind.i64 v, Value.string s, Value.string (ByteArray.mk #[]), Value.int IntKind.i64 (0 : Int), Value.pointer (some (Addr.mk (0 : Nat) (0 : Nat) none)), Value.slice (some (Addr.mk (3 : Nat) (0 : Nat) none)) (l.length + (strOf (foldK s a (rwE (rowI v s a)) (rwN (rowI v s a)))).size) (l.length + (strOf (foldK s a (rwE (rowI v s a)) (rwN (rowI v s a)))).size), Value.int IntKind.i64 (rwE (rowI v s a))] (Heap.mk (4 : Nat) [fltO (0 : Int) (0 : Int), none, some (Blk.mk (30 : Nat) (2 : Nat) ([] ++ [Value.int IntKind.i64 (rwC (rowI v s a)), Value.int IntKind.i64 (rwO (rowI v s a))] ++ []) true), some (Blk.mk (5 : Nat) (1 : Nat) (List.take l.length (byV l) ++ strV (strOf (foldK s a (rwE (rowI v s a)) (rwN (rowI v s a))))) true)]))) (s.size ≤ (1000000 : Nat) ∧ br (decide ((0 : Int) < brkI v s a)) ((s.size ≤ (1000000 : Nat) ∧ (0 : Int) ≤ a ∧ a ≤ (↑s.size : Int)) ∧ br (!decide (rwC (rowI v s a) = (0 : Int))) (K Exit.ret [Value.int IntKind.i64 v, Value.string s, Value.string (ByteArray.mk #[]), Value.int IntKind.i64 (0 : Int), Value.pointer (some (Addr.mk (0 : Nat) (0 : Nat) none)), Value.slice (some (Addr.mk (1 : Nat) (0 : Nat) none)) l.length l.length, Value.int IntKind.i64 a] (Heap.mk (3 : Nat) [some (Blk.mk TF (2 : Nat) ([] ++ [Value.int IntKind.i64 (rwC (rowI v s a)), Value.int IntKind.i64 (rwO (rowI v s a))] ++ []) true), some (Blk.mk (5 : TypeId) (1 : Nat) (byV l) true), some (Blk.mk (30 : Nat) (2 : Nat) ([] ++ [Value.int IntKind.i64 (rwC (rowI v s a)), Value.int IntKind.i64 (rwO (rowI v s a))] ++ []) true)])) ((s.size ≤ (1000000 : Nat) ∧ (0 : Int) ≤ a ∧ a ≤ rwE (rowI v s a) ∧ rwE (rowI v s a) ≤ (↑s.size : Int) ∧ (0 : Int) ≤ rwN (rowI v s a) ∧ rwN (rowI v s a) ≤ (1000000 : Int)) ∧ (l.length + (strOf (foldK s a (rwE (rowI v s a)) (rwN (rowI v s a)))).size ≤ (100000000000000 : Nat) ∧ l.length ≤ (byV l).length) ∧ N [Value.int IntKind.i64 v, Value.string s, Value.string (ByteArray.mk #[]), Value.int IntKind.i64 (0 : Int), Value.pointer (some (Addr.mk (0 : Nat) (0 : Nat) none)), Value.slice (some (Addr.mk (3 : Nat) (0 : Nat) none)) (l.length + (strOf (foldK s a (rwE (rowI v s a)) (rwN (rowI v s a)))).size) (l.length + (strOf (foldK s a (rwE (rowI v s a)) (rwN (rowI v s a)))).size), Value.int IntKind.i64 (rwE (rowI v s a))] (Heap.mk (4 : Nat) [fltO (0 : Int) (0 : Int), none, some (Blk.mk (30 : Nat) (2 : Nat) ([] ++ [Value.int IntKind.i64 (rwC (rowI v s a)), Value.int IntKind.i64 (rwO (rowI v s a))] ++ []) true), some (Blk.mk (5 : Nat) (1 : Nat) (List.take l.length (byV l) ++ strV (strOf (foldK s a (rwE (rowI v s a)) (rwN (rowI v s a))))) true)]))) (((0 : Int) ≤ a ∧ a < (↑s.size : Int)) ∧ (l.length + (1 : Nat) ≤ (1000000 : Nat) ∧ l.length * (1 : Nat) ≤ (byV l).length) ∧ rng IntKind.i64 (a + (1 : Int)) ∧ N [Value.int IntKind.i64 v, Value.string s, Value.string (ByteArray.mk #[]), Value.int IntKind.i64 (0 : Int), Value.pointer (some (Addr.mk (0 : Nat) (0 : Nat) none)), Value.slice (some (Addr.mk (3 : Nat) (0 : Nat) none)) (l.length + (1 : Nat)) (l.length + (1 : Nat)), Value.int IntKind.i64 (a + (1 : Int))] (Heap.mk (4 : Nat) [fltO (0 : Int) (0 : Int), none, some (Blk.mk (5 : Nat) (1 : Nat) [Value.int IntKind.u8 (↑(byteAt s a.toNat).toNat : Int)] true), some (Blk.mk (5 : Nat) (1 : Nat) (List.take (l.length * (1 : Nat)) (byV l) ++ [Value.int IntKind.u8 (↑(byteAt s a.toNat).toNat : Int)]) true)])))))) (((0 : Int) ≤ a ∧ a < (↑s.size : Int)) ∧ br (decide ((↑(byteAt s a.toNat).toNat : Int) = (39 : Int))) (∃ (l_1 : List UInt8), (List.take l.length (List.drop (0 : Nat) (byV l)) = List.map (fun (b : UInt8) => Value.int IntKind.u8 (↑b.toNat : Int)) l_1 ∧ l_1.length = l.length) ∧ rng IntKind.i64 (a + (1 : Int)) ∧ K Exit.ret [Value.int IntKind.i64 v, Value.string s, Value.string (ByteArray.mk l_1.toArray), Value.int IntKind.i64 (a + (1 : Int)), Value.pointer (some (Addr.mk (0 : Nat) (0 : Nat) none)), Value.slice (some (Addr.mk (1 : Nat) (0 : Nat) none)) l.length l.length, Value.int IntKind.i64 a] (Heap.mk (2 : Nat) [some (Blk.mk TF (2 : Nat) ([] ++ [Value.int IntKind.i64 (0 : Int), Value.int IntKind.i64 (0 : Int)] ++ []) true), some (Blk.mk (5 : TypeId) (1 : Nat) (byV l) true)])) (br (blankI s a) ((s.size ≤ (1000000 : Nat) ∧ (0 : Int) ≤ a ∧ a ≤ (↑s.size : Int)) ∧ br (!decide (rwC (rowI v s a) = (0 : Int))) (K Exit.ret [Value.int IntKind.i64 v, Value.string s, Value.string (ByteArray.mk #[]), Value.int IntKind.i64 (0 : Int), Value.pointer (some (Addr.mk (0 : Nat) (0 : Nat) none)), Value.slice (some (Addr.mk (1 : Nat) (0 : Nat) none)) l.length l.length, Value.int IntKind.i64 a] (Heap.mk (3 : Nat) [some (Blk.mk TF (2 : Nat) ([] ++ [Value.int IntKind.i64 (rwC (rowI v s a)), Value.int IntKind.i64 (rwO (rowI v s a))] ++ []) true), some (Blk.mk (5 : TypeId) (1 : Nat) (byV l) true), some (Blk.mk (30 : Nat) (2 : Nat) ([] ++ [Value.int IntKind.i64 (rwC (rowI v s a)), Value.int IntKind.i64 (rwO (rowI v s a))] ++ []) true)])) ((s.size ≤ (1000000 : Nat) ∧ (0 : Int) ≤ a ∧ a ≤ rwE (rowI v s a) ∧ rwE (rowI v s a) ≤ (↑s.size : Int) ∧ (0 : Int) ≤ rwN (rowI v s a) ∧ rwN (rowI v s a) ≤ (1000000 : Int)) ∧ (l.length + (strOf (foldK s a (rwE (rowI v s a)) (rwN (rowI v s a)))).size ≤ (100000000000000 : Nat) ∧ l.length ≤ (byV l).length) ∧ N [Value.int IntKind.i64 v, Value.string s, Value.string (ByteArray.mk #[]), Value.int IntKind.i64 (0 : Int), Value.pointer (some (Addr.mk (0 : Nat) (0 : Nat) none)), Value.slice (some (Addr.mk (3 : Nat) (0 : Nat) none)) (l.length + (strOf (foldK s a (rwE (rowI v s a)) (rwN (rowI v s a)))).size) (l.length + (strOf (foldK s a (rwE (rowI v s a)) (rwN (rowI v s a)))).size), Value.int IntKind.i64 (rwE (rowI v s a))] (Heap.mk (4 : Nat) [fltO (0 : Int) (0 : Int), none, some (Blk.mk (30 : Nat) (2 : Nat) ([] ++ [Value.int IntKind.i64 (rwC (rowI v s a)), Value.int IntKind.i64 (rwO (rowI v s a))] ++ []) true), some (Blk.mk (5 : Nat) (1 : Nat) (List.take l.length (byV l) ++ strV (strOf (foldK s a (rwE (rowI v s a)) (rwN (rowI v s a))))) true)]))) (s.size ≤ (1000000 : Nat) ∧ br (decide ((0 : Int) < brkI v s a)) ((s.size ≤ (1000000 : Nat) ∧ (0 : Int) ≤ a ∧ a ≤ (↑s.size : Int)) ∧ br (!decide (rwC (rowI v s a) = (0 : Int))) (K Exit.ret [Value.int IntKind.i64 v, Value.string s, Value.string (ByteArray.mk #[]), Value.int IntKind.i64 (0 : Int), Value.pointer (some (Addr.mk (0 : Nat) (0 : Nat) none)), Value.slice (some (Addr.mk (1 : Nat) (0 : Nat) none)) l.length l.length, Value.int IntKind.i64 a] (Heap.mk (3 : Nat) [some (Blk.mk TF (2 : Nat) ([] ++ [Value.int IntKind.i64 (rwC (rowI v s a)), Value.int IntKind.i64 (rwO (rowI v s a))] ++ []) true), some (Blk.mk (5 : TypeId) (1 : Nat) (byV l) true), some (Blk.mk (30 : Nat) (2 : Nat) ([] ++ [Value.int IntKind.i64 (rwC (rowI v s a)), Value.int IntKind.i64 (rwO (rowI v s a))] ++ []) true)])) ((s.size ≤ (1000000 : Nat) ∧ (0 : Int) ≤ a ∧ a ≤ rwE (rowI v s a) ∧ rwE (rowI v s a) ≤ (↑s.size : Int) ∧ (0 : Int) ≤ rwN (rowI v s a) ∧ rwN (rowI v s a) ≤ (1000000 : Int)) ∧ (l.length + (strOf (foldK s a (rwE (rowI v s a)) (rwN (rowI v s a)))).size ≤ (100000000000000 : Nat) ∧ l.length ≤ (byV l).length) ∧ N [Value.int IntKind.i64 v, Value.string s, Value.string (ByteArray.mk #[]), Value.int IntKind.i64 (0 : Int), Value.pointer (some (Addr.mk (0 : Nat) (0 : Nat) none)), Value.slice (some (Addr.mk (3 : Nat) (0 : Nat) none)) (l.length + (strOf (foldK s a (rwE (rowI v s a)) (rwN (rowI v s a)))).size) (l.length + (strOf (foldK s a (rwE (rowI v s a)) (rwN (rowI v s a)))).size), Value.int IntKind.i64 (rwE (rowI v s a))] (Heap.mk (4 : Nat) [fltO (0 : Int) (0 : Int), none, some (Blk.mk (30 : Nat) (2 : Nat) ([] ++ [Value.int IntKind.i64 (rwC (rowI v s a)), Value.int IntKind.i64 (rwO (rowI v s a))] ++ []) true), some (Blk.mk (5 : Nat) (1 : Nat) (List.take l.length (byV l) ++ strV (strOf (foldK s a (rwE (rowI v s a)) (rwN (rowI v s a))))) true)]))) (((0 : Int) ≤ a ∧ a < (↑s.size : Int)) ∧ (l.length + (1 : Nat) ≤ (1000000 : Nat) ∧ l.length * (1 : Nat) ≤ (byV l).length) ∧ rng IntKind.i64 (a + (1 : Int)) ∧ N [Value.int IntKind.i64 v, Value.string s, Value.string (ByteArray.mk #[]), Value.int IntKind.i64 (0 : Int), Value.pointer (some (Addr.mk (0 : Nat) (0 : Nat) none)), Value.slice (some (Addr.mk (3 : Nat) (0 : Nat) none)) (l.length + (1 : Nat)) (l.length + (1 : Nat)), Value.int IntKind.i64 (a + (1 : Int))] (Heap.mk (4 : Nat) [fltO (0 : Int) (0 : Int), none, some (Blk.mk (5 : Nat) (1 : Nat) [Value.int IntKind.u8 (↑(byteAt s a.toNat).toNat : Int)] true), some (Blk.mk (5 : Nat) (1 : Nat) (List.take (l.length * (1 : Nat)) (byV l) ++ [Value.int IntKind.u8 (↑(byteAt s a.toNat).toNat : Int)]) true)])))))) (((0 : Int) ≤ a ∧ a < (↑s.size : Int)) ∧ br (decide ((↑(byteAt s a.toNat).toNat : Int) = (39 : Int))) (∃ (l_1 : List UInt8), (List.take l.length (List.drop (0 : Nat) (byV l)) = List.map (fun (b : UInt8) => Value.int IntKind.u8 (↑b.toNat : Int)) l_1 ∧ l_1.length = l.length) ∧ rng IntKind.i64 (a + (1 : Int)) ∧ K Exit.ret [Value.int IntKind.i64 v, Value.string s, Value.string (ByteArray.mk l_1.toArray), Value.int IntKind.i64 (a + (1 : Int)), Value.pointer (some (Addr.mk (0 : Nat) (0 : Nat) none)), Value.slice (some (Addr.mk (1 : Nat) (0 : Nat) none)) l.length l.length, Value.int IntKind.i64 a] (Heap.mk (2 : Nat) [some (Blk.mk TF (2 : Nat) ([] ++ [Value.int IntKind.i64 (0 : Int), Value.int IntKind.i64 (0 : Int)] ++ []) true), some (Blk.mk (5 : TypeId) (1 : Nat) (byV l) true)])) (br (blankI s a) ((s.size ≤ (1000000 : Nat) ∧ (0 : Int) ≤ a ∧ a ≤ (↑s.size : Int)) ∧ br (!decide (rwC (rowI v s a) = (0 : Int))) (K Exit.ret [Value.int IntKind.i64 v, Value.string s, Value.string (ByteArray.mk #[]), Value.int IntKind.i64 (0 : Int), Value.pointer (some (Addr.mk (0 : Nat) (0 : Nat) none)), Value.slice (some (Addr.mk (1 : Nat) (0 : Nat) none)) l.length l.length, Value.int IntKind.i64 a] (Heap.mk (3 : Nat) [some (Blk.mk TF (2 : Nat) ([] ++ [Value.int IntKind.i64 (rwC (rowI v s a)), Value.int IntKind.i64 (rwO (rowI v s a))] ++ []) true), some (Blk.mk (5 : TypeId) (1 : Nat) (byV l) true), some (Blk.mk (30 : Nat) (2 : Nat) ([] ++ [Value.int IntKind.i64 (rwC (rowI v s a)), Value.int IntKind.i64 (rwO (rowI v s a))] ++ []) true)])) ((s.size ≤ (1000000 : Nat) ∧ (0 : Int) ≤ a ∧ a ≤ rwE (rowI v s a) ∧ rwE (rowI v s a) ≤ (↑s.size : Int) ∧ (0 : Int) ≤ rwN (rowI v s a) ∧ rwN (rowI v s a) ≤ (1000000 : Int)) ∧ (l.length + (strOf (foldK s a (rwE (rowI v s a)) (rwN (rowI v s a)))).size ≤ (100000000000000 : Nat) ∧ l.length ≤ (byV l).length) ∧ N [Value.int IntKind.i64 v, Value.string s, Value.string (ByteArray.mk #[]), Value.int IntKind.i64 (0 : Int), Value.pointer (some (Addr.mk (0 : Nat) (0 : Nat) none)), Value.slice (some (Addr.mk (3 : Nat) (0 : Nat) none)) (l.length + (strOf (foldK s a (rwE (rowI v s a)) (rwN (rowI v s a)))).size) (l.length + (strOf (foldK s a (rwE (rowI v s a)) (rwN (rowI v s a)))).size), Value.int IntKind.i64 (rwE (rowI v s a))] (Heap.mk (4 : Nat) [fltO (0 : Int) (0 : Int), none, some (Blk.mk (30 : Nat) (2 : Nat) ([] ++ [Value.int IntKind.i64 (rwC (rowI v s a)), Value.int IntKind.i64 (rwO (rowI v s a))] ++ []) true), some (Blk.mk (5 : Nat) (1 : Nat) (List.take l.length (byV l) ++ strV (strOf (foldK s a (rwE (rowI v s a)) (rwN (rowI v s a))))) true)]))) (s.size ≤ (1000000 : Nat) ∧ br (decide ((0 : Int) < brkI v s a)) ((s.size ≤ (1000000 : Nat) ∧ (0 : Int) ≤ a ∧ a ≤ (↑s.size : Int)) ∧ br (!decide (rwC (rowI v s a) = (0 : Int))) (K Exit.ret [Value.int IntKind.i64 v, Value.string s, Value.string (ByteArray.mk #[]), Value.int IntKind.i64 (0 : Int), Value.pointer (some (Addr.mk (0 : Nat) (0 : Nat) none)), Value.slice (some (Addr.mk (1 : Nat) (0 : Nat) none)) l.length l.length, Value.int IntKind.i64 a] (Heap.mk (3 : Nat) [some (Blk.mk TF (2 : Nat) ([] ++ [Value.int IntKind.i64 (rwC (rowI v s a)), Value.int IntKind.i64 (rwO (rowI v s a))] ++ []) true), some (Blk.mk (5 : TypeId) (1 : Nat) (byV l) true), some (Blk.mk (30 : Nat) (2 : Nat) ([] ++ [Value.int IntKind.i64 (rwC (rowI v s a)), Value.int IntKind.i64 (rwO (rowI v s a))] ++ []) true)])) ((s.size ≤ (1000000 : Nat) ∧ (0 : Int) ≤ a ∧ a ≤ rwE (rowI v s a) ∧ rwE (rowI v s a) ≤ (↑s.size : Int) ∧ (0 : Int) ≤ rwN (rowI v s a) ∧ rwN (rowI v s a) ≤ (1000000 : Int)) ∧ (l.length + (strOf (foldK s a (rwE (rowI v s a)) (rwN (rowI v s a)))).size ≤ (100000000000000 : Nat) ∧ l.length ≤ (byV l).length) ∧ N [Value.int IntKind.i64 v, Value.string s, Value.string (ByteArray.mk #[]), Value.int IntKind.i64 (0 : Int), Value.pointer (some (Addr.mk (0 : Nat) (0 : Nat) none)), Value.slice (some (Addr.mk (3 : Nat) (0 : Nat) none)) (l.length + (strOf (foldK s a (rwE (rowI v s a)) (rwN (rowI v s a)))).size) (l.length + (strOf (foldK s a (rwE (rowI v s a)) (rwN (rowI v s a)))).size), Value.int IntKind.i64 (rwE (rowI v s a))] (Heap.mk (4 : Nat) [fltO (0 : Int) (0 : Int), none, some (Blk.mk (30 : Nat) (2 : Nat) ([] ++ [Value.int IntKind.i64 (rwC (rowI v s a)), Value.int IntKind.i64 (rwO (rowI v s a))] ++ []) true), some (Blk.mk (5 : Nat) (1 : Nat) (List.take l.length (byV l) ++ strV (strOf (foldK s a (rwE (rowI v s a)) (rwN (rowI v s a))))) true)]))) (((0 : Int) ≤ a ∧ a < (↑s.size : Int)) ∧ (l.length + (1 : Nat) ≤ (1000000 : Nat) ∧ l.length * (1 : Nat) ≤ (byV l).length) ∧ rng IntKind.i64 (a + (1 : Int)) ∧ N [Value.int IntKind.i64 v, Value.string s, Value.string (ByteArray.mk #[]), Value.int IntKind.i64 (0 : Int), Value.pointer (some (Addr.mk (0 : Nat) (0 : Nat) none)), Value.slice (some (Addr.mk (3 : Nat) (0 : Nat) none)) (l.length + (1 : Nat)) (l.length + (1 : Nat)), Value.int IntKind.i64 (a + (1 : Int))] (Heap.mk (4 : Nat) [fltO (0 : Int) (0 : Int), none, some (Blk.mk (5 : Nat) (1 : Nat) [Value.int IntKind.u8 (↑(byteAt s a.toNat).toNat : Int)] true), some (Blk.mk (5 : Nat) (1 : Nat) (List.take (l.length * (1 : Nat)) (byV l) ++ [Value.int IntKind.u8 (↑(byteAt s a.toNat).toNat : Int)]) true)])))))) (K (Exit.exit (0 : Nat)) [Value.int IntKind.i64 v, Value.string s, Value.string (ByteArray.mk #[]), Value.int IntKind.i64 (0 : Int), Value.pointer (some (Addr.mk (0 : Nat) (0 : Nat) none)), Value.slice (some (Addr.mk (1 : Nat) (0 : Nat) none)) l.length l.length, Value.int IntKind.i64 a] (Heap.mk (2 : Nat) [fltO (0 : Int) (0 : Int), some (Blk.mk (5 : TypeId) (1 : Nat) (byV l) true)]))) := by kernel_rfl
theorem targumref17_Single.lo0 : LOk1 Tryd.prog targumref17_Single.nt targumref17_Single.sp0 (.loop 0 targumref17_Single.l0) := by
  refine loop_resC (σ := Int × ByteArray × Int × (List UInt8) × Int × Nat) GD_ok GD_mono (lt0_mono) (LS := lt0) (by simp only [targumref17_Single.l0, LOk, and_true, true_and]) rfl rfl (fun ⟨v, s, i, l, a, k⟩ => [.int .i64 v, .string s, .string ⟨#[]⟩, .int .i64 0, .pointer (some ⟨0, 0, none⟩), .slice (some ⟨1, 0, none⟩) l.length l.length, .int .i64 a]) (fun ⟨v, s, i, l, a, k⟩ => lit [fltO 0 0, some ⟨5, 1, byV l, true⟩]) (fun ⟨v, s, i, l, a, k⟩ => s.size ≤ 1000000 ∧ 0 ≤ i ∧ i < a ∧ a ≤ s.size ∧ l.length ≤ a ∧ s.size - a < k) (fun ⟨v, s, i, l, a, k⟩ => k) 1 (fun ⟨v, s, i, l, a, k⟩ K => sgRes v s i K (sgN v s i k a l)) ?_ ?_
  · rintro vs h K ⟨v, s, i, l, a, k, ⟨h1, h2, h3⟩, h4⟩
    exact ⟨h1, ⟨v, s, i, l, a, k⟩, h2, h3, h4⟩
  rintro ⟨v, s, i, l, a, k⟩ E N K hE hp hN hK
  dsimp only at hp hN hK
  refine Eq.mpr (targumref17_Single.t0 v s i l a k E N (fun x => In 1 (K x))) ?_
  obtain ⟨h1, h2, h3, h4, h5, h6⟩ := hp
  obtain ⟨k, rfl⟩ : ∃ k', k = k' + 1 := ⟨k - 1, by omega⟩
  have hok := rowI_ok v (s := s) (i := a) (by omega) h4
  have hbl := byV_len l
  have b39 : ∀ j : Nat, ((byteAt s j).toNat : Int) = 39 ↔ byteAt s j = 39 := fun j => ⟨fun e => UInt8.toNat_inj.1 (by show (byteAt s j).toNat = 39; omega), fun e => by rw [e]; rfl⟩
  rw [sgN] at hK
  by_cases hb : s.size ≤ a
  · rw [if_pos hb] at hK
    simp only [decide_eq_false (show ¬ a < (s.size : Int) by omega), br_f]
    exact .inl (hK.2.1 rfl l a)
  rw [if_neg hb] at hK
  simp only [decide_eq_true (show a < (s.size : Int) by omega), br_t]
  by_cases hc : byteAt s a.toNat = 39
  · simp only [decide_eq_true ((b39 a.toNat).2 hc), br_t]
    by_cases hd : byteAt s (a + 1).toNat = 39
    · have ha1 : a + 1 < s.size := by
        rcases Int.lt_or_le (a + 1) s.size with h | h
        · exact h
        · rw [byteAt_out (by omega)] at hd; cases hd
      simp only [decide_eq_true ((b39 (a + 1).toNat).2 hd), decide_eq_true ha1, br_t]
      rw [if_pos ⟨hc, hd⟩] at hK
      refine ⟨⟨by omega, by omega⟩, by simp only [rng]; omega, by simp only [rng]; omega, ⟨by omega, ha1⟩, ⟨by omega, by omega⟩, by simp only [rng]; omega, ?_⟩
      exact hN (v, s, i, l ++ [39], a + 2, k) _ _ ⟨h1, h2, by dsimp only; omega, by dsimp only; omega, by simp only [List.length_append, List.length_singleton]; omega, by dsimp only; omega⟩ (by dsimp only; omega) hK (sg_next (m := [39]) (by omega) rfl (by simp))
    · rw [if_neg (fun h => hd h.2), if_pos hc] at hK
      simp only [decide_eq_false (fun h => hd ((b39 (a + 1).toNat).1 h)), br_f]
      have fin : ∀ l1 : List UInt8, List.take l.length (List.drop 0 (byV l)) = List.map (fun (b : UInt8) => Value.int IntKind.u8 (b.toNat : Int)) l1 → l1 = l := fun l1 => bts_eq
      refine ⟨⟨by omega, by omega⟩, by simp only [rng]; omega, br_intro (fun he => ⟨by simp only [rng]; omega, ⟨by omega, by simpa using he⟩, ?_⟩) (fun he => ?_)⟩
      all_goals
        refine ⟨⟨by omega, by omega⟩, l, ⟨?_, rfl⟩, by simp only [rng]; omega, .inl (hK.1 l _ rfl l a)⟩
        rw [List.drop_zero, ← byV_len l, List.take_length]; rfl
  · rw [if_neg (fun h => hc h.1), if_neg hc] at hK
    simp only [decide_eq_false (fun h => hc ((b39 a.toNat).1 h)), br_f]
    by_cases hd : blankI s a = true ∨ 0 < brkI v s a
    · rw [if_pos hd] at hK
      refine ⟨⟨by omega, by omega⟩, ⟨by omega, by omega⟩, ?_⟩
      have hd' : blankI s a = true ∨ (blankI s a = false ∧ decide (0 < brkI v s a) = true) := by
        cases hq : blankI s a with
        | true => exact .inl rfl
        | false => rw [hq] at hd; exact .inr ⟨rfl, by simpa using hd⟩
      have pos : a < (rowI v s a).2 := by
        unfold rowI
        rw [rowF, if_neg (by omega)]
        have hbn := brkI_nn v s a
        have hbl := brkI_len v (s := s) (i := a) (by omega) h4
        split
        · have := (rowF_ok v s s.size (a + 1) 0 (by omega) (by omega) (by omega)).1
          omega
        · rename_i hq
          have hbp : 0 < brkI v s a := hd.resolve_left hq
          rw [if_neg (by omega)]
          split
          · dsimp only; omega
          · have := (rowF_ok v s s.size (a + brkI v s a) (0 + 1) (by omega) hbl (by omega)).1
            omega
      rcases hd' with hd' | ⟨hd', he'⟩
      · simp only [hd', br_t]
        refine ⟨⟨h1, by omega, h4⟩, ?_⟩
        by_cases hr : (rowI v s a).1 < 0
        · rw [if_pos hr] at hK
          have hne : (rowI v s a).2 ≠ i := by omega
          unfold rwC rwO
          simp only [if_pos hr]
          exact sg_ret (hK.2.2 _ rfl hne l a)
        · rw [if_neg hr] at hK
          unfold rwC rwO rwE rwN
          simp only [if_neg hr]
          have hkl := foldK_le (s := s) (i := a) (k := (rowI v s a).2) (n := (rowI v s a).1) (by omega) (by omega) (by omega) (by omega)
          refine ⟨⟨h1, by omega, by omega, by omega, by omega, by omega⟩, ⟨by rw [strOf_size]; omega, by omega⟩, ?_⟩
          exact hN (v, s, i, l ++ foldK s a (rowI v s a).2 (rowI v s a).1, (rowI v s a).2, k) _ _ ⟨h1, h2, by dsimp only; omega, by dsimp only; omega, by simp only [List.length_append]; omega, by dsimp only; omega⟩ (by dsimp only; omega) hK (sg_next (m := foldK s a (rowI v s a).2 (rowI v s a).1) (by omega) rfl (by simp [strOf_size]))
      · simp only [hd', he', br_t, br_f]
        refine ⟨h1, ?_⟩
        refine ⟨⟨h1, by omega, h4⟩, ?_⟩
        by_cases hr : (rowI v s a).1 < 0
        · rw [if_pos hr] at hK
          have hne : (rowI v s a).2 ≠ i := by omega
          unfold rwC rwO
          simp only [if_pos hr]
          exact sg_ret (hK.2.2 _ rfl hne l a)
        · rw [if_neg hr] at hK
          unfold rwC rwO rwE rwN
          simp only [if_neg hr]
          have hkl := foldK_le (s := s) (i := a) (k := (rowI v s a).2) (n := (rowI v s a).1) (by omega) (by omega) (by omega) (by omega)
          refine ⟨⟨h1, by omega, by omega, by omega, by omega, by omega⟩, ⟨by rw [strOf_size]; omega, by omega⟩, ?_⟩
          exact hN (v, s, i, l ++ foldK s a (rowI v s a).2 (rowI v s a).1, (rowI v s a).2, k) _ _ ⟨h1, h2, by dsimp only; omega, by dsimp only; omega, by simp only [List.length_append]; omega, by dsimp only; omega⟩ (by dsimp only; omega) hK (sg_next (m := foldK s a (rowI v s a).2 (rowI v s a).1) (by omega) rfl (by simp [strOf_size]))
    · rw [if_neg hd] at hK
      have hd1 : blankI s a = false := by rw [Bool.eq_false_iff]; exact fun h => hd (.inl h)
      simp only [hd1, decide_eq_false (fun h => hd (.inr h)), br_f]
      refine ⟨⟨by omega, by omega⟩, ⟨by omega, by omega⟩, h1, ⟨by omega, by omega⟩, ⟨by omega, by omega⟩, by simp only [rng]; omega, ?_⟩
      exact hN (v, s, i, l ++ [byteAt s a.toNat], a + 1, k) _ _ ⟨h1, h2, by dsimp only; omega, by dsimp only; omega, by simp only [List.length_append, List.length_singleton]; omega, by dsimp only; omega⟩ (by dsimp only; omega) hK (sg_next (m := [byteAt s a.toNat]) (by omega) rfl (by simp))

def sgI (v : Int) (s : ByteArray) (i : Int) : Except Int (List UInt8 × Int) := if i < 0 ∨ s.size ≤ i ∨ byteAt s i.toNat ≠ 39 then .error i else sgN v s i (s.size + 2) (i + 1) []
def targumref17_Single.LS : LT := (extL lt0 0 targumref17_Single.sp0)
theorem targumref17_Single.LS_mono : LMono targumref17_Single.LS := (extL_mono lt0_mono targumref17_Single.spm0)
def targumref17_Single.s : List Value → Heap → VK → Prop
  | [.int .i64 v, .string s, .int .i64 i], h, K => (s.size ≤ 1000000 ∧ -10000000 ≤ i ∧ i ≤ 10000000) ∧ K (.tuple #[.string (strOf (sqT (sgI v s i))), .int .i64 (sqE (sgI v s i)), .agg #[.int .i64 (sqC (sgI v s i)), .int .i64 (sqO (sgI v s i))]]) h
  | _, _, _ => False
theorem targumref17_Single.t (v : Int) (s : ByteArray) (i : Int) (K : VK) : mwp GD (targumref17_Single.LS) targumref17_Single.m (retK [.t 6, .t 7, .v 8 (some 2)] K) (argE 0 [.int .i64 v, .string s, .int .i64 i]) (lit []) = (br (decide (i < (0 : Int))) (K (Value.tuple #[Value.string (ByteArray.mk #[]), Value.int IntKind.i64 (0 : Int), Value.agg #[Value.int IntKind.i64 (11 : Int), Value.int IntKind.i64 i]]) (Heap.mk (1 : Nat) [some (Blk.mk (30 : Nat) (2 : Nat) ([] ++ [Value.int IntKind.i64 (11 : Int), Value.int IntKind.i64 i] ++ []) true)])) (br (decide ((↑s.size : Int) ≤ i)) (K (Value.tuple #[Value.string (ByteArray.mk #[]), Value.int IntKind.i64 (0 : Int), Value.agg #[Value.int IntKind.i64 (11 : Int), Value.int IntKind.i64 i]]) (Heap.mk (1 : Nat) [some (Blk.mk (30 : Nat) (2 : Nat) ([] ++ [Value.int IntKind.i64 (11 : Int), Value.int IntKind.i64 i] ++ []) true)])) (((0 : Int) ≤ i ∧ i < (↑s.size : Int)) ∧ br (!decide ((↑(byteAt s i.toNat).toNat : Int) = (39 : Int))) (K (Value.tuple #[Value.string (ByteArray.mk #[]), Value.int IntKind.i64 (0 : Int), Value.agg #[Value.int IntKind.i64 (11 : Int), Value.int IntKind.i64 i]]) (Heap.mk (1 : Nat) [some (Blk.mk (30 : Nat) (2 : Nat) ([] ++ [Value.int IntKind.i64 (11 : Int), Value.int IntKind.i64 i] ++ []) true)])) (rng IntKind.i64 (i + (1 : Int)) ∧ ∃ (v_1 : Int), ∃ (s_1 : ByteArray), ∃ (i_1 : Int), ∃ (l : List UInt8), ∃ (a : Int), ∃ (k : Nat), ((1 : Nat) = (1 : Nat) ∧ In (1 : Nat) (targumref17_Single.N0 v_1 s_1 i_1 l a k) [Value.int IntKind.i64 v, Value.string s, Value.string (ByteArray.mk #[]), Value.int IntKind.i64 (0 : Int), Value.pointer (some (Addr.mk (0 : Nat) (0 : Nat) none)), Value.slice none (0 : Nat) (0 : Nat), Value.int IntKind.i64 (i + (1 : Int))] (Heap.mk (1 : Nat) [some (Blk.mk (30 : Nat) (2 : Nat) [Value.int IntKind.i64 (0 : Int), Value.int IntKind.i64 (0 : Int)] true)]) ∧ s_1.size ≤ (1000000 : Nat) ∧ (0 : Int) ≤ i_1 ∧ i_1 < a ∧ a ≤ (↑s_1.size : Int) ∧ (↑l.length : Int) ≤ a ∧ (↑s_1.size : Int) - a < (↑k : Int)) ∧ (∀ (t : List UInt8) (e : Int), sgN v_1 s_1 i_1 k a l = Except.ok (t, e) → ∀ (x : List UInt8) (y : Int), K (Value.tuple #[Value.string (strOf t), Value.int IntKind.i64 e, Value.agg #[Value.int IntKind.i64 (0 : Int), Value.int IntKind.i64 (0 : Int)]]) (Heap.mk (2 : Nat) [fltO (0 : Int) (0 : Int), some (Blk.mk (5 : TypeId) (1 : Nat) (byV x) true)])) ∧ (sgN v_1 s_1 i_1 k a l = Except.error i_1 → ∀ (x : List UInt8) (y : Int), K (Value.tuple #[Value.string (ByteArray.mk #[]), Value.int IntKind.i64 (0 : Int), Value.agg #[Value.int IntKind.i64 (11 : Int), Value.int IntKind.i64 i]]) (Heap.mk (2 : Nat) [some (Blk.mk TF (2 : Nat) ([] ++ [Value.int IntKind.i64 (11 : Int), Value.int IntKind.i64 i] ++ []) true), some (Blk.mk (5 : TypeId) (1 : Nat) (byV x) true)])) ∧ ∀ (a_1 : Int), sgN v_1 s_1 i_1 k a l = Except.error a_1 → a_1 ≠ i_1 → ∀ (x : List UInt8) (y : Int), K (Value.tuple #[Value.string (ByteArray.mk #[]), Value.int IntKind.i64 (0 : Int), Value.agg #[Value.int IntKind.i64 (11 : Int), Value.int IntKind.i64 a_1]]) (Heap.mk (2 : Nat) [fltO (11 : Int) a_1, some (Blk.mk (5 : TypeId) (1 : Nat) (byV x) true)]))))) := by kernel_rfl
theorem targumref17_Single.c (v : Int) (s : ByteArray) (i : Int) (h : Heap) (K : VK) (hp : s.size ≤ 1000000 ∧ -10000000 ≤ i ∧ i ≤ 10000000) (hh : K (.tuple #[.string (strOf (sqT (sgI v s i))), .int .i64 (sqE (sgI v s i)), .agg #[.int .i64 (sqC (sgI v s i)), .int .i64 (sqO (sgI v s i))]]) h) : ACalls Tryd.prog targumref17_Single.n [.int .i64 v, .string s, .int .i64 i] h K := by
  refine ACalls.alone rfl (acalls_mk GD_ok targumref17_Single.ok (LS := targumref17_Single.LS) (by simp only [targumref17_Single.m, LOk, and_true, true_and]; (repeat' apply And.intro) <;> first | trivial | exact targumref17_Single.lo0) (Nat.le_of_ble_eq_true rfl) (Eq.mpr (targumref17_Single.t v s i (fun v _ => ck (cleanT v) (K v h))) ?_))
  have hno : i < 0 ∨ s.size ≤ i ∨ byteAt s i.toNat ≠ 39 → K (.tuple #[.string ⟨#[]⟩, .int .i64 0, .agg #[.int .i64 11, .int .i64 i]]) h := fun e => by
    have : sgI v s i = .error i := by unfold sgI; rw [if_pos e]
    rw [this] at hh; exact hh
  refine br_intro (fun hb => ck_iff.2 ⟨rfl, hno (.inl (by simpa using hb))⟩) (fun hb => br_intro (fun hc => ck_iff.2 ⟨rfl, hno (.inr (.inl (by simpa using hc)))⟩) (fun hc => ?_))
  simp only [decide_eq_false_iff_not] at hb hc
  refine ⟨⟨by omega, by omega⟩, br_intro (fun hd => ck_iff.2 ⟨rfl, hno (.inr (.inr ?_))⟩) (fun hd => ?_)⟩
  · intro e; rw [e] at hd; exact absurd hd (by decide)
  have h39 : byteAt s i.toNat = 39 := by
    simp only [Bool.not_eq_false', decide_eq_true_eq] at hd
    exact UInt8.toNat_inj.1 (by show (byteAt s i.toNat).toNat = 39; omega)
  have e : sgI v s i = sgN v s i (s.size + 2) (i + 1) [] := by unfold sgI; rw [if_neg (by rintro (h | h | h) <;> first | omega | exact h h39)]
  rw [e] at hh
  refine ⟨by simp only [rng]; omega, v, s, i, [], i + 1, s.size + 2, ⟨rfl, ?_, hp.1, by omega, by omega, by omega, by simp only [List.length_nil]; omega, by omega⟩, fun t e ho x y => ?_, fun ho x y => ?_, fun a ho hn x y => ?_⟩
  · refine In.rows [some 0, none] ⟨⟨rfl, rfl, rfl⟩, rfl, trivial⟩ rfl rfl rfl ?_ ?_
    · simp [renT, renA, ren]
    · simp [okT, okA, okF, flatV]
  · rw [ho] at hh; exact ck_iff.2 ⟨rfl, hh⟩
  · rw [ho] at hh; exact ck_iff.2 ⟨rfl, hh⟩
  · rw [ho] at hh; exact ck_iff.2 ⟨rfl, hh⟩
theorem targumref17_Single.sc : ∀ vs h K, targumref17_Single.s vs h K → ACalls Tryd.prog targumref17_Single.n vs h K := by
  intro vs h K hh; unfold targumref17_Single.s at hh; split at hh
  · exact targumref17_Single.c _ _ _ _ _ hh.1 hh.2
  · exact hh.elim
theorem targumref17_Single.sm : SpecMono targumref17_Single.s := by
  intro vs h K K' hk hh; unfold targumref17_Single.s at hh ⊢; split at hh
  · exact ⟨hh.1, hk _ _ hh.2⟩
  · exact hh.elim
theorem targumref17_Single.sd : SpecDet targumref17_Single.s := by
  intro vs h K hh; unfold targumref17_Single.s at hh; split at hh
  · exact ⟨_, hh.2, hh.1, rfl⟩
  · exact hh.elim

end Go.Mini
