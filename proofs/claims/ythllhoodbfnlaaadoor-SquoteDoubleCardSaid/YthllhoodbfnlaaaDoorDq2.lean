/- The reference's texts in double quotes. Conditions: sizes. -/
import Derived.Test.YthllhoodbfnlaaaDoorDq1
namespace Go.Mini
open Go Go.RowKit Go.Proofs
set_option maxRecDepth 100000
set_option linter.unusedVariables false
set_option linter.unusedSimpArgs false

def u8i (x : Int) : UInt8 := UInt8.ofNat x.toNat
theorem u8i_nat {x : Int} (h0 : 0 ≤ x) (h1 : x ≤ 255) : ((u8i x).toNat : Int) = x := by
  unfold u8i
  rw [UInt8.toNat_ofNat']
  omega
def utfL (c : Int) : List UInt8 :=
  if c < 128 then [u8i c] else if c < 2048 then [u8i (192 + c.tdiv 64), u8i (128 + c.tmod 64)]
  else if c < 65536 then [u8i (224 + c.tdiv 4096), u8i (128 + (c.tdiv 64).tmod 64), u8i (128 + c.tmod 64)]
  else [u8i (240 + c.tdiv 262144), u8i (128 + (c.tdiv 4096).tmod 64), u8i (128 + (c.tdiv 64).tmod 64), u8i (128 + c.tmod 64)]
def targumref1_Utf8.s : List Value → Heap → VK → Prop
  | [.int .i64 c], h, K => (0 ≤ c ∧ c ≤ 1114111) ∧ K (renT (sh h.n) (.slice (some ⟨0, 0, none⟩) (utfL c).length (utfL c).length)) (addAll h (List.map (renB (sh h.n)) [⟨5, 1, byV (utfL c), true⟩]))
  | _, _, _ => False
theorem targumref1_Utf8.t (c : Int) (K : VK) : mwp S0 (lt0) targumref1_Utf8.m (retK [.t 2] K) (argE 0 [.int .i64 c]) (lit []) = (br (decide (c < (128 : Int))) (rng IntKind.u8 c ∧ K (Value.slice (some (Addr.mk (0 : Nat) (0 : Nat) none)) (1 : Nat) (1 : Nat)) (Heap.mk (1 : Nat) [some (Blk.mk (5 : Nat) (1 : Nat) [Value.int IntKind.u8 c] true)])) (br (decide (c < (2048 : Int))) ((64 : Int) ≠ (0 : Int) ∧ rng IntKind.i64 (c.tdiv (64 : Int)) ∧ rng IntKind.i64 ((192 : Int) + c.tdiv (64 : Int)) ∧ rng IntKind.u8 ((192 : Int) + c.tdiv (64 : Int)) ∧ (64 : Int) ≠ (0 : Int) ∧ rng IntKind.i64 ((128 : Int) + c.tmod (64 : Int)) ∧ rng IntKind.u8 ((128 : Int) + c.tmod (64 : Int)) ∧ K (Value.slice (some (Addr.mk (0 : Nat) (0 : Nat) none)) (2 : Nat) (2 : Nat)) (Heap.mk (1 : Nat) [some (Blk.mk (5 : Nat) (1 : Nat) [Value.int IntKind.u8 ((192 : Int) + c.tdiv (64 : Int)), Value.int IntKind.u8 ((128 : Int) + c.tmod (64 : Int))] true)])) (br (decide (c < (65536 : Int))) ((4096 : Int) ≠ (0 : Int) ∧ rng IntKind.i64 (c.tdiv (4096 : Int)) ∧ rng IntKind.i64 ((224 : Int) + c.tdiv (4096 : Int)) ∧ rng IntKind.u8 ((224 : Int) + c.tdiv (4096 : Int)) ∧ (64 : Int) ≠ (0 : Int) ∧ rng IntKind.i64 (c.tdiv (64 : Int)) ∧ (64 : Int) ≠ (0 : Int) ∧ rng IntKind.i64 ((128 : Int) + (c.tdiv (64 : Int)).tmod (64 : Int)) ∧ rng IntKind.u8 ((128 : Int) + (c.tdiv (64 : Int)).tmod (64 : Int)) ∧ (64 : Int) ≠ (0 : Int) ∧ rng IntKind.i64 ((128 : Int) + c.tmod (64 : Int)) ∧ rng IntKind.u8 ((128 : Int) + c.tmod (64 : Int)) ∧ K (Value.slice (some (Addr.mk (0 : Nat) (0 : Nat) none)) (3 : Nat) (3 : Nat)) (Heap.mk (1 : Nat) [some (Blk.mk (5 : Nat) (1 : Nat) [Value.int IntKind.u8 ((224 : Int) + c.tdiv (4096 : Int)), Value.int IntKind.u8 ((128 : Int) + (c.tdiv (64 : Int)).tmod (64 : Int)), Value.int IntKind.u8 ((128 : Int) + c.tmod (64 : Int))] true)])) ((262144 : Int) ≠ (0 : Int) ∧ rng IntKind.i64 (c.tdiv (262144 : Int)) ∧ rng IntKind.i64 ((240 : Int) + c.tdiv (262144 : Int)) ∧ rng IntKind.u8 ((240 : Int) + c.tdiv (262144 : Int)) ∧ (4096 : Int) ≠ (0 : Int) ∧ rng IntKind.i64 (c.tdiv (4096 : Int)) ∧ (64 : Int) ≠ (0 : Int) ∧ rng IntKind.i64 ((128 : Int) + (c.tdiv (4096 : Int)).tmod (64 : Int)) ∧ rng IntKind.u8 ((128 : Int) + (c.tdiv (4096 : Int)).tmod (64 : Int)) ∧ (64 : Int) ≠ (0 : Int) ∧ rng IntKind.i64 (c.tdiv (64 : Int)) ∧ (64 : Int) ≠ (0 : Int) ∧ rng IntKind.i64 ((128 : Int) + (c.tdiv (64 : Int)).tmod (64 : Int)) ∧ rng IntKind.u8 ((128 : Int) + (c.tdiv (64 : Int)).tmod (64 : Int)) ∧ (64 : Int) ≠ (0 : Int) ∧ rng IntKind.i64 ((128 : Int) + c.tmod (64 : Int)) ∧ rng IntKind.u8 ((128 : Int) + c.tmod (64 : Int)) ∧ K (Value.slice (some (Addr.mk (0 : Nat) (0 : Nat) none)) (4 : Nat) (4 : Nat)) (Heap.mk (1 : Nat) [some (Blk.mk (5 : Nat) (1 : Nat) [Value.int IntKind.u8 ((240 : Int) + c.tdiv (262144 : Int)), Value.int IntKind.u8 ((128 : Int) + (c.tdiv (4096 : Int)).tmod (64 : Int)), Value.int IntKind.u8 ((128 : Int) + (c.tdiv (64 : Int)).tmod (64 : Int)), Value.int IntKind.u8 ((128 : Int) + c.tmod (64 : Int))] true)]))))) := by kernel_rfl
theorem targumref1_Utf8.c (c : Int) (h : Heap) (K : VK) (hp : 0 ≤ c ∧ c ≤ 1114111) (hh : K (renT (sh h.n) (.slice (some ⟨0, 0, none⟩) (utfL c).length (utfL c).length)) (addAll h (List.map (renB (sh h.n)) [⟨5, 1, byV (utfL c), true⟩]))) : ACalls Tryd.prog targumref1_Utf8.n [.int .i64 c] h K := by
  refine ACalls.fresh rfl (v0 := .slice (some ⟨0, 0, none⟩) (utfL c).length (utfL c).length) (L := [⟨5, 1, byV (utfL c), true⟩]) (by simp [okT, okA, okF, flatV]) (by simp [okF_all (byV_flat' _)]) (acalls_mk S0_ok targumref1_Utf8.ok (LS := lt0) (by simp only [targumref1_Utf8.m, LOk, and_true, true_and]) (Nat.le_of_ble_eq_true rfl) (Eq.mpr (targumref1_Utf8.t c _) ?_)) hh
  obtain ⟨h0, h1⟩ := hp
  have d1 : c.tdiv 64 = c / 64 := Int.tdiv_eq_ediv_of_nonneg h0
  have d2 : c.tdiv 4096 = c / 4096 := Int.tdiv_eq_ediv_of_nonneg h0
  have d3 : c.tdiv 262144 = c / 262144 := Int.tdiv_eq_ediv_of_nonneg h0
  have m1 : c.tmod 64 = c % 64 := Int.tmod_eq_emod_of_nonneg h0
  have m2 : (c / 64).tmod 64 = c / 64 % 64 := Int.tmod_eq_emod_of_nonneg (by omega)
  have m3 : (c / 4096).tmod 64 = c / 4096 % 64 := Int.tmod_eq_emod_of_nonneg (by omega)
  have e0 : utfL c = if c < 128 then [u8i c] else if c < 2048 then [u8i (192 + c / 64), u8i (128 + c % 64)]
    else if c < 65536 then [u8i (224 + c / 4096), u8i (128 + c / 64 % 64), u8i (128 + c % 64)]
    else [u8i (240 + c / 262144), u8i (128 + c / 4096 % 64), u8i (128 + c / 64 % 64), u8i (128 + c % 64)] := by
    unfold utfL; rw [d1, d2, d3, m1, m2, m3]
  rw [d1, d2, d3, m1, m2, m3]
  refine br_intro (fun hb => ?_) (fun hb => br_intro (fun hc => ?_) (fun hc => br_intro (fun hd => ?_) (fun hd => ?_)))
  · simp only [decide_eq_true_eq] at hb
    rw [if_pos hb] at e0
    rw [e0]
    refine ⟨by simp only [rng]; omega, .inl ⟨rfl, ?_⟩⟩
    rw [show byV [u8i c] = [.int .u8 (u8i c).toNat] from rfl, u8i_nat (by omega) (by omega)]; rfl
  · simp only [decide_eq_true_eq, decide_eq_false_iff_not] at hb hc
    rw [if_neg hb, if_pos hc] at e0
    rw [e0]
    refine ⟨by omega, by simp only [rng]; omega, by simp only [rng]; omega, by simp only [rng]; omega, by omega, by simp only [rng]; omega, by simp only [rng]; omega, .inl ⟨rfl, ?_⟩⟩
    rw [show byV [u8i (192 + c / 64), u8i (128 + c % 64)] = [.int .u8 (u8i (192 + c / 64)).toNat, .int .u8 (u8i (128 + c % 64)).toNat] from rfl, u8i_nat (by omega) (by omega), u8i_nat (by omega) (by omega)]; rfl
  · simp only [decide_eq_true_eq, decide_eq_false_iff_not] at hb hc hd
    rw [if_neg hb, if_neg hc, if_pos hd] at e0
    rw [e0]
    refine ⟨by omega, by simp only [rng]; omega, by simp only [rng]; omega, by simp only [rng]; omega, by omega, by simp only [rng]; omega, by omega, by simp only [rng]; omega, by simp only [rng]; omega, by omega, by simp only [rng]; omega, by simp only [rng]; omega, .inl ⟨rfl, ?_⟩⟩
    rw [show byV [u8i (224 + c / 4096), u8i (128 + c / 64 % 64), u8i (128 + c % 64)] = [.int .u8 (u8i (224 + c / 4096)).toNat, .int .u8 (u8i (128 + c / 64 % 64)).toNat, .int .u8 (u8i (128 + c % 64)).toNat] from rfl, u8i_nat (by omega) (by omega), u8i_nat (by omega) (by omega), u8i_nat (by omega) (by omega)]; rfl
  · simp only [decide_eq_false_iff_not] at hb hc hd
    rw [if_neg hb, if_neg hc, if_neg hd] at e0
    rw [e0]
    refine ⟨by omega, by simp only [rng]; omega, by simp only [rng]; omega, by simp only [rng]; omega, by omega, by simp only [rng]; omega, by omega, by simp only [rng]; omega, by simp only [rng]; omega, by omega, by simp only [rng]; omega, by omega, by simp only [rng]; omega, by simp only [rng]; omega, by omega, by simp only [rng]; omega, by simp only [rng]; omega, .inl ⟨rfl, ?_⟩⟩
    rw [show byV [u8i (240 + c / 262144), u8i (128 + c / 4096 % 64), u8i (128 + c / 64 % 64), u8i (128 + c % 64)] = [.int .u8 (u8i (240 + c / 262144)).toNat, .int .u8 (u8i (128 + c / 4096 % 64)).toNat, .int .u8 (u8i (128 + c / 64 % 64)).toNat, .int .u8 (u8i (128 + c % 64)).toNat] from rfl, u8i_nat (by omega) (by omega), u8i_nat (by omega) (by omega), u8i_nat (by omega) (by omega), u8i_nat (by omega) (by omega)]; rfl
theorem targumref1_Utf8.sc : ∀ vs h K, targumref1_Utf8.s vs h K → ACalls Tryd.prog targumref1_Utf8.n vs h K := by
  intro vs h K hh; unfold targumref1_Utf8.s at hh; split at hh
  · exact targumref1_Utf8.c _ _ _ hh.1 hh.2
  · exact hh.elim
theorem targumref1_Utf8.sm : SpecMono targumref1_Utf8.s := by
  intro vs h K K' hk hh; unfold targumref1_Utf8.s at hh ⊢; split at hh
  · exact ⟨hh.1, hk _ _ hh.2⟩
  · exact hh.elim
theorem targumref1_Utf8.sd : SpecDet targumref1_Utf8.s := by
  intro vs h K hh; unfold targumref1_Utf8.s at hh; split at hh
  · exact ⟨_, hh.2, hh.1, rfl⟩
  · exact hh.elim

/-- The reference's text in double quotes from a place within on; none: it never ends. -/
def dqN (v : Int) (s : ByteArray) : Nat → Int → List UInt8 → Except (Option (Int × Int)) (List UInt8 × Int)
  | 0, _, _ => .error none
  | k + 1, a, l => if s.size ≤ a then .error none else if byteAt s a.toNat = 34 then .ok (l, a + 1)
    else if byteAt s a.toNat = 92 ∧ 0 < brkI v s (a + 1) then (if (rowI v s (a + 1)).1 < 0 then .error (some (11, (rowI v s (a + 1)).2)) else dqN v s k (rowI v s (a + 1)).2 (l ++ List.replicate ((rowI v s (a + 1)).1 - 1).toNat 10))
    else if byteAt s a.toNat = 92 then (if (escI v s a).1 < 0 then .error (some (14, a)) else dqN v s k (escI v s a).2 (l ++ utfL (escI v s a).1))
    else if blankI s a = true ∨ 0 < brkI v s a then (if (rowI v s a).1 < 0 then .error (some (11, (rowI v s a).2)) else dqN v s k (rowI v s a).2 (l ++ foldK s a (rowI v s a).2 (rowI v s a).1))
    else dqN v s k (a + 1) (l ++ [byteAt s a.toNat])
def dqRes (v : Int) (s : ByteArray) (K : LK) (o : Except (Option (Int × Int)) (List UInt8 × Int)) : Prop :=
  (∀ (t : List UInt8) (e : Int), o = .ok (t, e) → ∀ (x : List UInt8) (y : Int), K .ret [.int .i64 v, .string s, .string (strOf t), .int .i64 e, .pointer (some ⟨0, 0, none⟩), .slice (some ⟨1, 0, none⟩) x.length x.length, .int .i64 y] (lit [fltO 0 0, some ⟨5, 1, byV x, true⟩])) ∧
  (o = .error none → ∀ (x : List UInt8) (y : Int), K (.exit 0) [.int .i64 v, .string s, .string ⟨#[]⟩, .int .i64 0, .pointer (some ⟨0, 0, none⟩), .slice (some ⟨1, 0, none⟩) x.length x.length, .int .i64 y] (lit [fltO 0 0, some ⟨5, 1, byV x, true⟩])) ∧
  (∀ c a : Int, o = .error (some (c, a)) → ∀ (x : List UInt8) (y : Int), K .ret [.int .i64 v, .string s, .string ⟨#[]⟩, .int .i64 0, .pointer (some ⟨0, 0, none⟩), .slice (some ⟨1, 0, none⟩) x.length x.length, .int .i64 y] (lit [fltO c a, some ⟨5, 1, byV x, true⟩]))
theorem rowI_pos {v : Int} {s : ByteArray} {a : Int} (h0 : 0 ≤ a) (h1 : a < s.size) (hd : blankI s a = true ∨ 0 < brkI v s a) : a < (rowI v s a).2 := by
  unfold rowI
  rw [rowF, if_neg (by omega)]
  have hbn := brkI_nn v s a
  have hbl := brkI_len v (s := s) (i := a) h0 (by omega)
  split
  · have := (rowF_ok v s s.size (a + 1) 0 (by omega) (by omega) (by omega)).1
    omega
  · rename_i hq
    have hbp : 0 < brkI v s a := hd.resolve_left hq
    rw [if_neg (by omega)]
    split
    · dsimp only; omega
    · have := (rowF_ok v s s.size (a + brkI v s a) (0 + 1) (by omega) hbl (by omega)).1
      omega
theorem hexF_ok (s : ByteArray) : ∀ (k : Nat) (p c d : Int), hexF s k p c = some d → 0 ≤ c → 0 ≤ d ∧ (k = 0 ∨ p + k ≤ s.size)
  | 0, p, c, d, h, hc => by rw [hexF] at h; cases h; exact ⟨hc, .inl rfl⟩
  | k + 1, p, c, d, h, hc => by
    rw [hexF] at h
    split at h
    · cases h
    · rename_i hn
      have hx := hexI_ok (byteAt s p.toNat).toNat
      have := hexF_ok s k (p + 1) _ d h (by omega)
      have hp : p < s.size := by
        rcases Int.lt_or_le p s.size with h1 | h1
        · exact h1
        · exact absurd (.inl h1) hn
      exact ⟨this.1, .inr (by omega)⟩
theorem escN_cases (c : UInt8) : escN c = 0 ∨ escN c = 2 ∨ escN c = 4 ∨ escN c = 8 := by
  unfold escN; repeat' split
  all_goals simp
theorem simI_ok (v c : Int) (h0 : 0 ≤ c) (h1 : c ≤ 255) : -1 ≤ simI v c ∧ simI v c ≤ 1114111 := by
  unfold simI; repeat' split
  all_goals omega
theorem escI_ok (v : Int) (s : ByteArray) (i : Int) (h0 : 0 ≤ i) : -1 ≤ (escI v s i).1 ∧ (escI v s i).1 ≤ 1114111 ∧ (0 ≤ (escI v s i).1 → i + 2 ≤ (escI v s i).2 ∧ (escI v s i).2 ≤ s.size) := by
  unfold escI
  have hs := simI_ok v (byteAt s (i + 1).toNat).toNat (by omega) (by have := (byteAt s (i + 1).toNat).toNat_lt; omega)
  have hc := escN_cases (byteAt s (i + 1).toNat)
  split
  · exact ⟨by decide, by decide, fun h => absurd h (by decide)⟩
  · split
    · exact ⟨hs.1, hs.2, fun _ => ⟨by dsimp only; omega, by dsimp only; omega⟩⟩
    · split
      · exact ⟨by decide, by decide, fun h => absurd h (by decide)⟩
      · rename_i d hd
        have := hexF_ok s _ _ _ d hd (by omega)
        split
        · rename_i hsc
          unfold scalarN at hsc
          simp only [Bool.and_eq_true, Bool.or_eq_true, decide_eq_true_eq] at hsc
          refine ⟨by dsimp only; omega, by dsimp only; omega, fun _ => ⟨by dsimp only; omega, by dsimp only; omega⟩⟩
        · exact ⟨by decide, by decide, fun h => absurd h (by decide)⟩
theorem utfL_len (c : Int) : (utfL c).length ≤ 4 := by
  unfold utfL; repeat' split
  all_goals simp
def DB : CT := (extC (extC (extC (extC (extC DA targumref17_row.n targumref17_row.s) targumref17_feeds.n targumref17_feeds.s) targumref17_folded.n targumref17_folded.s) targumref17_escape.n targumref17_escape.s) targumref1_Utf8.n targumref1_Utf8.s)
theorem DB_ok : COk Tryd.prog DB := (extC_ok (extC_ok (extC_ok (extC_ok (extC_ok DA_ok targumref17_row.sc targumref17_row.sd) targumref17_feeds.sc targumref17_feeds.sd) targumref17_folded.sc targumref17_folded.sd) targumref17_escape.sc targumref17_escape.sd) targumref1_Utf8.sc targumref1_Utf8.sd)
theorem DB_mono : CMono DB := (extC_mono (extC_mono (extC_mono (extC_mono (extC_mono DA_mono targumref17_row.sm) targumref17_feeds.sm) targumref17_folded.sm) targumref17_escape.sm) targumref1_Utf8.sm)
def targumref17_Double.N0 (v : Int) (s : ByteArray) (l : List UInt8) (a : Int) (k : Nat) (vs : List Value) (h : Heap) : Prop := vs = [.int .i64 v, .string s, .string ⟨#[]⟩, .int .i64 0, .pointer (some ⟨0, 0, none⟩), .slice (some ⟨1, 0, none⟩) l.length l.length, .int .i64 a] ∧ h = lit [fltO 0 0, some ⟨5, 1, byV l, true⟩]
def targumref17_Double.sp0 : LSpec := ⟨targumref17_Double.cs0, targumref17_Double.ts0, fun vs h K => ∃ (v : Int) (s : ByteArray) (l : List UInt8) (a : Int) (k : Nat), (h.n = 1 ∧ In 1 (targumref17_Double.N0 v s l a k) vs h ∧ (s.size ≤ 300000 ∧ 0 ≤ a ∧ a ≤ s.size ∧ l.length ≤ 2 * a ∧ s.size - a < k)) ∧ (dqRes v s K (dqN v s k a l))⟩
theorem targumref17_Double.spm0 : LSpecMono targumref17_Double.sp0 := by
  rintro vs h K K' hk ⟨v, s, l, a, k, h3, h4⟩
  exact ⟨v, s, l, a, k, h3, ⟨fun t e ho x y => hk _ _ _ (h4.1 t e ho x y), fun ho x y => hk _ _ _ (h4.2.1 ho x y), fun c a ho x y => hk _ _ _ (h4.2.2 c a ho x y)⟩⟩
theorem targumref17_Double.t0 (v : Int) (s : ByteArray) (l : List UInt8) (a : Int) (k : Nat) (E : Env) (N : List Value → Heap → Prop) (K : LK) : mwp DB (lt0) targumref17_Double.l0 (lK targumref17_Double.cs0 N K) (zipE targumref17_Double.cs0 [.int .i64 v, .string s, .string ⟨#[]⟩, .int .i64 0, .pointer (some ⟨0, 0, none⟩), .slice (some ⟨1, 0, none⟩) l.length l.length, .int .i64 a] ++ E) (lit [fltO 0 0, some ⟨5, 1, byV l, true⟩]) = (br (decide (a < (↑s.size : Int))) (((0 : Int) ≤ a ∧ a < (↑s.size : Int)) ∧ br (decide ((↑(byteAt s a.toNat).toNat : Int) = (34 : Int))) (∃ (l_1 : List UInt8), (List.take l.length (List.drop (0 : Nat) (byV l)) = List.map (fun (b : UInt8) => Value.int IntKind.u8 (↑b.toNat : Int)) l_1 ∧ l_1.length = l.length) ∧ rng IntKind.i64 (a + (1 : Int)) ∧ K Exit.ret [Value.int IntKind.i64 v, Value.string s, Value.string (ByteArray.mk l_1.toArray), Value.int IntKind.i64 (a + (1 : Int)), Value.pointer (some (Addr.mk (0 : Nat) (0 : Nat) none)), Value.slice (some (Addr.mk (1 : Nat) (0 : Nat) none)) l.length l.length, Value.int IntKind.i64 a] (Heap.mk (2 : Nat) [some (Blk.mk TF (2 : Nat) ([] ++ [Value.int IntKind.i64 (0 : Int), Value.int IntKind.i64 (0 : Int)] ++ []) true), some (Blk.mk (5 : TypeId) (1 : Nat) (byV l) true)])) (((0 : Int) ≤ a ∧ a < (↑s.size : Int)) ∧ br (decide ((↑(byteAt s a.toNat).toNat : Int) = (92 : Int))) (rng IntKind.i64 (a + (1 : Int)) ∧ s.size ≤ (1000000 : Nat) ∧ br (decide ((0 : Int) < brkI v s (a + (1 : Int)))) (rng IntKind.i64 (a + (1 : Int)) ∧ (s.size ≤ (1000000 : Nat) ∧ (0 : Int) ≤ a + (1 : Int) ∧ a + (1 : Int) ≤ (↑s.size : Int)) ∧ br (!decide (rwC (rowI v s (a + (1 : Int))) = (0 : Int))) (K Exit.ret [Value.int IntKind.i64 v, Value.string s, Value.string (ByteArray.mk #[]), Value.int IntKind.i64 (0 : Int), Value.pointer (some (Addr.mk (0 : Nat) (0 : Nat) none)), Value.slice (some (Addr.mk (1 : Nat) (0 : Nat) none)) l.length l.length, Value.int IntKind.i64 a] (Heap.mk (3 : Nat) [some (Blk.mk TF (2 : Nat) ([] ++ [Value.int IntKind.i64 (rwC (rowI v s (a + (1 : Int)))), Value.int IntKind.i64 (rwO (rowI v s (a + (1 : Int))))] ++ []) true), some (Blk.mk (5 : TypeId) (1 : Nat) (byV l) true), some (Blk.mk (30 : Nat) (2 : Nat) ([] ++ [Value.int IntKind.i64 (rwC (rowI v s (a + (1 : Int)))), Value.int IntKind.i64 (rwO (rowI v s (a + (1 : Int))))] ++ []) true)])) (rng IntKind.i64 (rwN (rowI v s (a + (1 : Int))) - (1 : Int)) ∧ rwN (rowI v s (a + (1 : Int))) - (1 : Int) ≤ (1000000 : Int) ∧ (l.length + (strOf (List.replicate (rwN (rowI v s (a + (1 : Int))) - (1 : Int)).toNat (10 : UInt8))).size ≤ (100000000000000 : Nat) ∧ l.length ≤ (byV l).length) ∧ N [Value.int IntKind.i64 v, Value.string s, Value.string (ByteArray.mk #[]), Value.int IntKind.i64 (0 : Int), Value.pointer (some (Addr.mk (0 : Nat) (0 : Nat) none)), Value.slice (some (Addr.mk (3 : Nat) (0 : Nat) none)) (l.length + (strOf (List.replicate (rwN (rowI v s (a + (1 : Int))) - (1 : Int)).toNat (10 : UInt8))).size) (l.length + (strOf (List.replicate (rwN (rowI v s (a + (1 : Int))) - (1 : Int)).toNat (10 : UInt8))).size), Value.int IntKind.i64 (rwE (rowI v s (a + (1 : Int))))] (Heap.mk (4 : Nat) [fltO (0 : Int) (0 : Int), none, some (Blk.mk (30 : Nat) (2 : Nat) ([] ++ [Value.int IntKind.i64 (rwC (rowI v s (a + (1 : Int)))), Value.int IntKind.i64 (rwO (rowI v s (a + (1 : Int))))] ++ []) true), some (Blk.mk (5 : Nat) (1 : Nat) (List.take l.length (byV l) ++ strV (strOf (List.replicate (rwN (rowI v s (a + (1 : Int))) - (1 : Int)).toNat (10 : UInt8)))) true)]))) (((0 : Int) ≤ a ∧ a < (↑s.size : Int)) ∧ br (decide ((↑(byteAt s a.toNat).toNat : Int) = (92 : Int))) ((s.size ≤ (1000000 : Nat) ∧ (0 : Int) ≤ a ∧ a ≤ (↑s.size : Int)) ∧ br (decide ((escI v s a).fst < (0 : Int))) (K Exit.ret [Value.int IntKind.i64 v, Value.string s, Value.string (ByteArray.mk #[]), Value.int IntKind.i64 (0 : Int), Value.pointer (some (Addr.mk (0 : Nat) (0 : Nat) none)), Value.slice (some (Addr.mk (1 : Nat) (0 : Nat) none)) l.length l.length, Value.int IntKind.i64 a] (Heap.mk (2 : Nat) [some (Blk.mk TF (2 : Nat) ([] ++ [Value.int IntKind.i64 (14 : Int), Value.int IntKind.i64 a] ++ []) true), some (Blk.mk (5 : TypeId) (1 : Nat) (byV l) true)])) (((0 : Int) ≤ (escI v s a).fst ∧ (escI v s a).fst ≤ (1114111 : Int)) ∧ br (((0 : Nat) + (utfL (escI v s a).fst).length * (1 : Nat)).ble (List.map (ren (sh (2 : Nat))) (byV (utfL (escI v s a).fst))).length) ((l.length + (utfL (escI v s a).fst).length ≤ (1000000 : Nat) ∧ l.length * (1 : Nat) ≤ (byV l).length) ∧ N [Value.int IntKind.i64 v, Value.string s, Value.string (ByteArray.mk #[]), Value.int IntKind.i64 (0 : Int), Value.pointer (some (Addr.mk (0 : Nat) (0 : Nat) none)), Value.slice (some (Addr.mk ((2 : Nat) + (List.map (renB (sh (2 : Nat))) [Blk.mk (5 : TypeId) (1 : Nat) (byV (utfL (escI v s a).fst)) true]).length) (0 : Nat) none)) (l.length + (utfL (escI v s a).fst).length) (l.length + (utfL (escI v s a).fst).length), Value.int IntKind.i64 (escI v s a).snd] (Heap.mk ((2 : Nat) + (List.map (renB (sh (2 : Nat))) [Blk.mk (5 : TypeId) (1 : Nat) (byV (utfL (escI v s a).fst)) true]).length + (1 : Nat)) [fltO (0 : Int) (0 : Int), none, some (Blk.mk (5 : TypeId) (1 : Nat) (List.map (ren (sh (2 : Nat))) (byV (utfL (escI v s a).fst))) true), some (Blk.mk (5 : Nat) (1 : Nat) (List.take (l.length * (1 : Nat)) (byV l) ++ List.take ((utfL (escI v s a).fst).length * (1 : Nat)) (List.drop (0 : Nat) (List.map (ren (sh (2 : Nat))) (byV (utfL (escI v s a).fst))))) true)])) False)) (br (blankI s a) ((s.size ≤ (1000000 : Nat) ∧ (0 : Int) ≤ a ∧ a ≤ (↑s.size : Int)) ∧ br (!decide (rwC (rowI v s a) = (0 : Int))) (K Exit.ret [Value.int IntKind.i64 v, Value.string s, Value.string (ByteArray.mk #[]), Value.int IntKind.i64 (0 : Int), Value.pointer (some (Addr.mk (0 : Nat) (0 : Nat) none)), Value.slice (some (Addr.mk (1 : Nat) (0 : Nat) none)) l.length l.length, Value.int IntKind.i64 a] (Heap.mk (3 : Nat) [some (Blk.mk TF (2 : Nat) ([] ++ [Value.int IntKind.i64 (rwC (rowI v s a)), Value.int IntKind.i64 (rwO (rowI v s a))] ++ []) true), some (Blk.mk (5 : TypeId) (1 : Nat) (byV l) true), some (Blk.mk (30 : Nat) (2 : Nat) ([] ++ [Value.int IntKind.i64 (rwC (rowI v s a)), Value.int IntKind.i64 (rwO (rowI v s a))] ++ []) true)])) ((s.size ≤ (1000000 : Nat) ∧ (0 : Int) ≤ a ∧ a ≤ rwE (rowI v s a) ∧ rwE (rowI v s a) ≤ (↑s.size : Int) ∧ (0 : Int) ≤ rwN (rowI v s a) ∧ rwN (rowI v s a) ≤ (1000000 : Int)) ∧ (l.length + (strOf (foldK s a (rwE (rowI v s a)) (rwN (rowI v s a)))).size ≤ (100000000000000 : Nat) ∧ l.length ≤ (byV l).length) ∧ N [Value.int IntKind.i64 v, Value.string s, Value.string (ByteArray.mk #[]), Value.int IntKind.i64 (0 : Int), Value.pointer (some (Addr.mk (0 : Nat) (0 : Nat) none)), Value.slice (some (Addr.mk (3 : Nat) (0 : Nat) none)) (l.length + (strOf (foldK s a (rwE (rowI v s a)) (rwN (rowI v s a)))).size) (l.length + (strOf (foldK s a (rwE (rowI v s a)) (rwN (rowI v s a)))).size), Value.int IntKind.i64 (rwE (rowI v s a))] (Heap.mk (4 : Nat) [fltO (0 : Int) (0 : Int), none, some (Blk.mk (30 : Nat) (2 : Nat) ([] ++ [Value.int IntKind.i64 (rwC (rowI v s a)), Value.int IntKind.i64 (rwO (rowI v s a))] ++ []) true), some (Blk.mk (5 : Nat) (1 : Nat) (List.take l.length (byV l) ++ strV (strOf (foldK s a (rwE (rowI v s a)) (rwN (rowI v s a))))) true)]))) (s.size ≤ (1000000 : Nat) ∧ br (decide ((0 : Int) < brkI v s a)) ((s.size ≤ (1000000 : Nat) ∧ (0 : Int) ≤ a ∧ a ≤ (↑s.size : Int)) ∧ br (!decide (rwC (rowI v s a) = (0 : Int))) (K Exit.ret [Value.int IntKind.i64 v, Value.string s, Value.string (ByteArray.mk #[]), Value.int IntKind.i64 (0 : Int), Value.pointer (some (Addr.mk (0 : Nat) (0 : Nat) none)), Value.slice (some (Addr.mk (1 : Nat) (0 : Nat) none)) l.length l.length, Value.int IntKind.i64 a] (Heap.mk (3 : Nat) [some (Blk.mk TF (2 : Nat) ([] ++ [Value.int IntKind.i64 (rwC (rowI v s a)), Value.int IntKind.i64 (rwO (rowI v s a))] ++ []) true), some (Blk.mk (5 : TypeId) (1 : Nat) (byV l) true), some (Blk.mk (30 : Nat) (2 : Nat) ([] ++ [Value.int IntKind.i64 (rwC (rowI v s a)), Value.int IntKind.i64 (rwO (rowI v s a))] ++ []) true)])) ((s.size ≤ (1000000 : Nat) ∧ (0 : Int) ≤ a ∧ a ≤ rwE (rowI v s a) ∧ rwE (rowI v s a) ≤ (↑s.size : Int) ∧ (0 : Int) ≤ rwN (rowI v s a) ∧ rwN (rowI v s a) ≤ (1000000 : Int)) ∧ (l.length + (strOf (foldK s a (rwE (rowI v s a)) (rwN (rowI v s a)))).size ≤ (100000000000000 : Nat) ∧ l.length ≤ (byV l).length) ∧ N [Value.int IntKind.i64 v, Value.string s, Value.string (ByteArray.mk #[]), Value.int IntKind.i64 (0 : Int), Value.pointer (some (Addr.mk (0 : Nat) (0 : Nat) none)), Value.slice (some (Addr.mk (3 : Nat) (0 : Nat) none)) (l.length + (strOf (foldK s a (rwE (rowI v s a)) (rwN (rowI v s a)))).size) (l.length + (strOf (foldK s a (rwE (rowI v s a)) (rwN (rowI v s a)))).size), Value.int IntKind.i64 (rwE (rowI v s a))] (Heap.mk (4 : Nat) [fltO (0 : Int) (0 : Int), none, some (Blk.mk (30 : Nat) (2 : Nat) ([] ++ [Value.int IntKind.i64 (rwC (rowI v s a)), Value.int IntKind.i64 (rwO (rowI v s a))] ++ []) true), some (Blk.mk (5 : Nat) (1 : Nat) (List.take l.length (byV l) ++ strV (strOf (foldK s a (rwE (rowI v s a)) (rwN (rowI v s a))))) true)]))) (((0 : Int) ≤ a ∧ a < (↑s.size : Int)) ∧ (l.length + (1 : Nat) ≤ (1000000 : Nat) ∧ l.length * (1 : Nat) ≤ (byV l).length) ∧ rng IntKind.i64 (a + (1 : Int)) ∧ N [Value.int IntKind.i64 v, Value.string s, Value.string (ByteArray.mk #[]), Value.int IntKind.i64 (0 : Int), Value.pointer (some (Addr.mk (0 : Nat) (0 : Nat) none)), Value.slice (some (Addr.mk (3 : Nat) (0 : Nat) none)) (l.length + (1 : Nat)) (l.length + (1 : Nat)), Value.int IntKind.i64 (a + (1 : Int))] (Heap.mk (4 : Nat) [fltO (0 : Int) (0 : Int), none, some (Blk.mk (5 : Nat) (1 : Nat) [Value.int IntKind.u8 (↑(byteAt s a.toNat).toNat : Int)] true), some (Blk.mk (5 : Nat) (1 : Nat) (List.take (l.length * (1 : Nat)) (byV l) ++ [Value.int IntKind.u8 (↑(byteAt s a.toNat).toNat : Int)]) true)])))))) (((0 : Int) ≤ a ∧ a < (↑s.size : Int)) ∧ br (decide ((↑(byteAt s a.toNat).toNat : Int) = (92 : Int))) ((s.size ≤ (1000000 : Nat) ∧ (0 : Int) ≤ a ∧ a ≤ (↑s.size : Int)) ∧ br (decide ((escI v s a).fst < (0 : Int))) (K Exit.ret [Value.int IntKind.i64 v, Value.string s, Value.string (ByteArray.mk #[]), Value.int IntKind.i64 (0 : Int), Value.pointer (some (Addr.mk (0 : Nat) (0 : Nat) none)), Value.slice (some (Addr.mk (1 : Nat) (0 : Nat) none)) l.length l.length, Value.int IntKind.i64 a] (Heap.mk (2 : Nat) [some (Blk.mk TF (2 : Nat) ([] ++ [Value.int IntKind.i64 (14 : Int), Value.int IntKind.i64 a] ++ []) true), some (Blk.mk (5 : TypeId) (1 : Nat) (byV l) true)])) (((0 : Int) ≤ (escI v s a).fst ∧ (escI v s a).fst ≤ (1114111 : Int)) ∧ br (((0 : Nat) + (utfL (escI v s a).fst).length * (1 : Nat)).ble (List.map (ren (sh (2 : Nat))) (byV (utfL (escI v s a).fst))).length) ((l.length + (utfL (escI v s a).fst).length ≤ (1000000 : Nat) ∧ l.length * (1 : Nat) ≤ (byV l).length) ∧ N [Value.int IntKind.i64 v, Value.string s, Value.string (ByteArray.mk #[]), Value.int IntKind.i64 (0 : Int), Value.pointer (some (Addr.mk (0 : Nat) (0 : Nat) none)), Value.slice (some (Addr.mk ((2 : Nat) + (List.map (renB (sh (2 : Nat))) [Blk.mk (5 : TypeId) (1 : Nat) (byV (utfL (escI v s a).fst)) true]).length) (0 : Nat) none)) (l.length + (utfL (escI v s a).fst).length) (l.length + (utfL (escI v s a).fst).length), Value.int IntKind.i64 (escI v s a).snd] (Heap.mk ((2 : Nat) + (List.map (renB (sh (2 : Nat))) [Blk.mk (5 : TypeId) (1 : Nat) (byV (utfL (escI v s a).fst)) true]).length + (1 : Nat)) [fltO (0 : Int) (0 : Int), none, some (Blk.mk (5 : TypeId) (1 : Nat) (List.map (ren (sh (2 : Nat))) (byV (utfL (escI v s a).fst))) true), some (Blk.mk (5 : Nat) (1 : Nat) (List.take (l.length * (1 : Nat)) (byV l) ++ List.take ((utfL (escI v s a).fst).length * (1 : Nat)) (List.drop (0 : Nat) (List.map (ren (sh (2 : Nat))) (byV (utfL (escI v s a).fst))))) true)])) False)) (br (blankI s a) ((s.size ≤ (1000000 : Nat) ∧ (0 : Int) ≤ a ∧ a ≤ (↑s.size : Int)) ∧ br (!decide (rwC (rowI v s a) = (0 : Int))) (K Exit.ret [Value.int IntKind.i64 v, Value.string s, Value.string (ByteArray.mk #[]), Value.int IntKind.i64 (0 : Int), Value.pointer (some (Addr.mk (0 : Nat) (0 : Nat) none)), Value.slice (some (Addr.mk (1 : Nat) (0 : Nat) none)) l.length l.length, Value.int IntKind.i64 a] (Heap.mk (3 : Nat) [some (Blk.mk TF (2 : Nat) ([] ++ [Value.int IntKind.i64 (rwC (rowI v s a)), Value.int IntKind.i64 (rwO (rowI v s a))] ++ []) true), some (Blk.mk (5 : TypeId) (1 : Nat) (byV l) true), some (Blk.mk (30 : Nat) (2 : Nat) ([] ++ [Value.int IntKind.i64 (rwC (rowI v s a)), Value.int IntKind.i64 (rwO (rowI v s a))] ++ []) true)])) ((s.size ≤ (1000000 : Nat) ∧ (0 : Int) ≤ a ∧ a ≤ rwE (rowI v s a) ∧ rwE (rowI v s a) ≤ (↑s.size : Int) ∧ (0 : Int) ≤ rwN (rowI v s a) ∧ rwN (rowI v s a) ≤ (1000000 : Int)) ∧ (l.length + (strOf (foldK s a (rwE (rowI v s a)) (rwN (rowI v s a)))).size ≤ (100000000000000 : Nat) ∧ l.length ≤ (byV l).length) ∧ N [Value.int IntKind.i64 v, Value.string s, Value.string (ByteArray.mk #[]), Value.int IntKind.i64 (0 : Int), Value.pointer (some (Addr.mk (0 : Nat) (0 : Nat) none)), Value.slice (some (Addr.mk (3 : Nat) (0 : Nat) none)) (l.length + (strOf (foldK s a (rwE (rowI v s a)) (rwN (rowI v s a)))).size) (l.length + (strOf (foldK s a (rwE (rowI v s a)) (rwN (rowI v s a)))).size), Value.int IntKind.i64 (rwE (rowI v s a))] (Heap.mk (4 : Nat) [fltO (0 : Int) (0 : Int), none, some (Blk.mk (30 : Nat) (2 : Nat) ([] ++ [Value.int IntKind.i64 (rwC (rowI v s a)), Value.int IntKind.i64 (rwO (rowI v s a))] ++ []) true), some (Blk.mk (5 : Nat) (1 : Nat) (List.take l.length (byV l) ++ strV (strOf (foldK s a (rwE (rowI v s a)) (rwN (rowI v s a))))) true)]))) (s.size ≤ (1000000 : Nat) ∧ br (decide ((0 : Int) < brkI v s a)) ((s.size ≤ (1000000 : Nat) ∧ (0 : Int) ≤ a ∧ a ≤ (↑s.size : Int)) ∧ br (!decide (rwC (rowI v s a) = (0 : Int))) (K Exit.ret [Value.int IntKind.i64 v, Value.string s, Value.string (ByteArray.mk #[]), Value.int IntKind.i64 (0 : Int), Value.pointer (some (Addr.mk (0 : Nat) (0 : Nat) none)), Value.slice (some (Addr.mk (1 : Nat) (0 : Nat) none)) l.length l.length, Value.int IntKind.i64 a] (Heap.mk (3 : Nat) [some (Blk.mk TF (2 : Nat) ([] ++ [Value.int IntKind.i64 (rwC (rowI v s a)), Value.int IntKind.i64 (rwO (rowI v s a))] ++ []) true), some (Blk.mk (5 : TypeId) (1 : Nat) (byV l) true), some (Blk.mk (30 : Nat) (2 : Nat) ([] ++ [Value.int IntKind.i64 (rwC (rowI v s a)), Value.int IntKind.i64 (rwO (rowI v s a))] ++ []) true)])) ((s.size ≤ (1000000 : Nat) ∧ (0 : Int) ≤ a ∧ a ≤ rwE (rowI v s a) ∧ rwE (rowI v s a) ≤ (↑s.size : Int) ∧ (0 : Int) ≤ rwN (rowI v s a) ∧ rwN (rowI v s a) ≤ (1000000 : Int)) ∧ (l.length + (strOf (foldK s a (rwE (rowI v s a)) (rwN (rowI v s a)))).size ≤ (100000000000000 : Nat) ∧ l.length ≤ (byV l).length) ∧ N [Value.int IntKind.i64 v, Value.string s, Value.string (ByteArray.mk #[]), Value.int IntKind.i64 (0 : Int), Value.pointer (some (Addr.mk (0 : Nat) (0 : Nat) none)), Value.slice (some (Addr.mk (3 : Nat) (0 : Nat) none)) (l.length + (strOf (foldK s a (rwE (rowI v s a)) (rwN (rowI v s a)))).size) (l.length + (strOf (foldK s a (rwE (rowI v s a)) (rwN (rowI v s a)))).size), Value.int IntKind.i64 (rwE (rowI v s a))] (Heap.mk (4 : Nat) [fltO (0 : Int) (0 : Int), none, some (Blk.mk (30 : Nat) (2 : Nat) ([] ++ [Value.int IntKind.i64 (rwC (rowI v s a)), Value.int IntKind.i64 (rwO (rowI v s a))] ++ []) true), some (Blk.mk (5 : Nat) (1 : Nat) (List.take l.length (byV l) ++ strV (strOf (foldK s a (rwE (rowI v s a)) (rwN (rowI v s a))))) true)]))) (((0 : Int) ≤ a ∧ a < (↑s.size : Int)) ∧ (l.length + (1 : Nat) ≤ (1000000 : Nat) ∧ l.length * (1 : Nat) ≤ (byV l).length) ∧ rng IntKind.i64 (a + (1 : Int)) ∧ N [Value.int IntKind.i64 v, Value.string s, Value.string (ByteArray.mk #[]), Value.int IntKind.i64 (0 : Int), Value.pointer (some (Addr.mk (0 : Nat) (0 : Nat) none)), Value.slice (some (Addr.mk (3 : Nat) (0 : Nat) none)) (l.length + (1 : Nat)) (l.length + (1 : Nat)), Value.int IntKind.i64 (a + (1 : Int))] (Heap.mk (4 : Nat) [fltO (0 : Int) (0 : Int), none, some (Blk.mk (5 : Nat) (1 : Nat) [Value.int IntKind.u8 (↑(byteAt s a.toNat).toNat : Int)] true), some (Blk.mk (5 : Nat) (1 : Nat) (List.take (l.length * (1 : Nat)) (byV l) ++ [Value.int IntKind.u8 (↑(byteAt s a.toNat).toNat : Int)]) true)]))))))) (K (Exit.exit (0 : Nat)) [Value.int IntKind.i64 v, Value.string s, Value.string (ByteArray.mk #[]), Value.int IntKind.i64 (0 : Int), Value.pointer (some (Addr.mk (0 : Nat) (0 : Nat) none)), Value.slice (some (Addr.mk (1 : Nat) (0 : Nat) none)) l.length l.length, Value.int IntKind.i64 a] (Heap.mk (2 : Nat) [fltO (0 : Int) (0 : Int), some (Blk.mk (5 : TypeId) (1 : Nat) (byV l) true)]))) := by kernel_rfl
theorem targumref17_Double.lo0 : LOk1 Tryd.prog targumref17_Double.nt targumref17_Double.sp0 (.loop 0 targumref17_Double.l0) := by
  refine loop_resC (σ := Int × ByteArray × (List UInt8) × Int × Nat) DB_ok DB_mono (lt0_mono) (LS := lt0) (by simp only [targumref17_Double.l0, LOk, and_true, true_and]) rfl rfl (fun ⟨v, s, l, a, k⟩ => [.int .i64 v, .string s, .string ⟨#[]⟩, .int .i64 0, .pointer (some ⟨0, 0, none⟩), .slice (some ⟨1, 0, none⟩) l.length l.length, .int .i64 a]) (fun ⟨v, s, l, a, k⟩ => lit [fltO 0 0, some ⟨5, 1, byV l, true⟩]) (fun ⟨v, s, l, a, k⟩ => s.size ≤ 300000 ∧ 0 ≤ a ∧ a ≤ s.size ∧ l.length ≤ 2 * a ∧ s.size - a < k) (fun ⟨v, s, l, a, k⟩ => k) 1 (fun ⟨v, s, l, a, k⟩ K => dqRes v s K (dqN v s k a l)) ?_ ?_
  · rintro vs h K ⟨v, s, l, a, k, ⟨h1, h2, h3⟩, h4⟩
    exact ⟨h1, ⟨v, s, l, a, k⟩, h2, h3, h4⟩
  rintro ⟨v, s, l, a, k⟩ E N K hE hp hN hK
  dsimp only at hp hN hK
  refine Eq.mpr (targumref17_Double.t0 v s l a k E N (fun x => In 1 (K x))) ?_
  obtain ⟨h1, h3, h4, h5, h6⟩ := hp
  obtain ⟨k, rfl⟩ : ∃ k', k = k' + 1 := ⟨k - 1, by omega⟩
  have hbl := byV_len l
  have bI : ∀ (j : Nat) (n : Nat) (c : UInt8), c.toNat = n → (((byteAt s j).toNat : Int) = n ↔ byteAt s j = c) := fun j n c hc => ⟨fun e => UInt8.toNat_inj.1 (by rw [hc]; exact_mod_cast e), fun e => by rw [e, hc]⟩
  have b34 := bI a.toNat 34 34 rfl
  have b92 := bI a.toNat 92 92 rfl
  rw [dqN] at hK
  by_cases hb : s.size ≤ a
  · rw [if_pos hb] at hK
    simp only [decide_eq_false (show ¬ a < (s.size : Int) by omega), br_f]
    exact .inl (hK.2.1 rfl l a)
  rw [if_neg hb] at hK
  simp only [decide_eq_true (show a < (s.size : Int) by omega), br_t]
  have ha : (0 : Int) ≤ a ∧ a < s.size := ⟨by omega, by omega⟩
  refine ⟨ha, ?_⟩
  by_cases hc : byteAt s a.toNat = 34
  · rw [if_pos hc] at hK
    simp only [decide_eq_true (show ((byteAt s a.toNat).toNat : Int) = 34 from b34.2 hc), br_t]
    refine ⟨l, ⟨?_, rfl⟩, by simp only [rng]; omega, .inl (hK.1 l _ rfl l a)⟩
    rw [List.drop_zero, ← byV_len l, List.take_length]; rfl
  rw [if_neg hc] at hK
  simp only [decide_eq_false (show ¬ ((byteAt s a.toNat).toNat : Int) = 34 from fun h => hc (b34.1 h)), br_f]
  refine ⟨ha, ?_⟩
  have next : ∀ (m : List UInt8) (e : Int) (x : List Value) (n q : Nat) (g : Option Blk), dqRes v s K (dqN v s k e (l ++ m)) → a < e → e ≤ s.size → (m.length : Int) ≤ 2 * (e - a) → x = byV m → l.length ≤ n → q = (l ++ m).length → N [.int .i64 v, .string s, .string ⟨#[]⟩, .int .i64 0, .pointer (some ⟨0, 0, none⟩), .slice (some ⟨3, 0, none⟩) q q, .int .i64 e] (Heap.mk 4 [fltO 0 0, none, g, some (Blk.mk 5 1 (List.take n (byV l) ++ x) true)]) := fun m e x n q g hK hae hes hm hx hn hq =>
    hN (v, s, l ++ m, e, k) _ _ ⟨h1, by dsimp only; omega, by dsimp only; omega, by simp only [List.length_append]; omega, by dsimp only; omega⟩ (by dsimp only; omega) hK (sg_next hn hx hq)
  by_cases hd : byteAt s a.toNat = 92
  · simp only [decide_eq_true (show ((byteAt s a.toNat).toNat : Int) = 92 from b92.2 hd), br_t]
    refine ⟨by simp only [rng]; omega, by omega, ?_⟩
    by_cases he : 0 < brkI v s (a + 1)
    · rw [if_pos ⟨hd, he⟩] at hK
      simp only [decide_eq_true he, br_t]
      have hok := rowI_ok v (s := s) (i := a + 1) (by omega) (by omega)
      refine ⟨by simp only [rng]; omega, ⟨by omega, by omega, by omega⟩, ?_⟩
      by_cases hr : (rowI v s (a + 1)).1 < 0
      · rw [if_pos hr] at hK
        unfold rwC rwO
        simp only [if_pos hr]
        exact sg_ret (hK.2.2 _ _ rfl l a)
      · rw [if_neg hr] at hK
        unfold rwC rwO rwE rwN
        simp only [if_neg hr]
        refine ⟨by simp only [rng]; omega, by omega, ⟨by rw [strOf_size, List.length_replicate]; omega, by omega⟩, ?_⟩
        exact next (List.replicate ((rowI v s (a + 1)).1 - 1).toNat 10) _ _ _ _ _ hK (by omega) (by omega) (by rw [List.length_replicate]; omega) rfl (by omega) (by simp [strOf_size])
    · rw [if_neg (fun h => he h.2), if_pos hd] at hK
      simp only [decide_eq_false he, br_f]
      have hok := escI_ok v s a h3
      refine ⟨ha, ⟨by omega, by omega, by omega⟩, ?_⟩
      by_cases hr : (escI v s a).1 < 0
      · rw [if_pos hr] at hK
        simp only [decide_eq_true hr, br_t]
        exact .inl (hK.2.2 _ _ rfl l a)
      · rw [if_neg hr] at hK
        simp only [decide_eq_false hr, br_f]
        have hul := utfL_len (escI v s a).1
        have hfl : List.map (ren (sh 2)) (byV (utfL (escI v s a).1)) = byV (utfL (escI v s a).1) := map_ren_flat (byV_flat' _)
        have hvl := byV_len (utfL (escI v s a).1)
        refine ⟨⟨by omega, by omega⟩, br_le (by rw [hfl, hvl]; omega) ⟨⟨by omega, by omega⟩, ?_⟩⟩
        refine next (utfL (escI v s a).1) (escI v s a).2 _ _ _ _ hK (by omega) (by omega) (by omega) ?_ (by omega) (by simp)
        rw [hfl, List.drop_zero, Nat.mul_one, ← hvl, List.take_length]
  · simp only [decide_eq_false (show ¬ ((byteAt s a.toNat).toNat : Int) = 92 from fun h => hd (b92.1 h)), br_f]
    rw [if_neg (fun h => hd h.1), if_neg hd] at hK
    refine ⟨ha, ?_⟩
    by_cases hg : blankI s a = true ∨ 0 < brkI v s a
    · rw [if_pos hg] at hK
      have hok := rowI_ok v (s := s) (i := a) (by omega) h4
      have pos := rowI_pos (v := v) ha.1 ha.2 hg
      have hg' : blankI s a = true ∨ (blankI s a = false ∧ decide (0 < brkI v s a) = true) := by
        cases hq : blankI s a with
        | true => exact .inl rfl
        | false => rw [hq] at hg; exact .inr ⟨rfl, by simpa using hg⟩
      have hkl : ¬ (rowI v s a).1 < 0 → ((foldK s a (rowI v s a).2 (rowI v s a).1).length : Int) ≤ (rowI v s a).2 - a := fun hr => foldK_le (by omega) (by omega) (by omega) (by omega)
      rcases hg' with hg' | ⟨hg', he'⟩
      · simp only [hg', br_t]
        refine ⟨⟨by omega, by omega, h4⟩, ?_⟩
        by_cases hr : (rowI v s a).1 < 0
        · rw [if_pos hr] at hK
          unfold rwC rwO
          simp only [if_pos hr]
          exact sg_ret (hK.2.2 _ _ rfl l a)
        · rw [if_neg hr] at hK
          have hkl := hkl hr
          unfold rwC rwO rwE rwN
          simp only [if_neg hr]
          refine ⟨⟨by omega, by omega, by omega, by omega, by omega, by omega⟩, ⟨by rw [strOf_size]; omega, by omega⟩, ?_⟩
          exact next (foldK s a (rowI v s a).2 (rowI v s a).1) _ _ _ _ _ hK (by omega) (by omega) (by omega) rfl (by omega) (by simp [strOf_size])
      · simp only [hg', he', br_t, br_f]
        refine ⟨by omega, ⟨by omega, by omega, h4⟩, ?_⟩
        by_cases hr : (rowI v s a).1 < 0
        · rw [if_pos hr] at hK
          unfold rwC rwO
          simp only [if_pos hr]
          exact sg_ret (hK.2.2 _ _ rfl l a)
        · rw [if_neg hr] at hK
          have hkl := hkl hr
          unfold rwC rwO rwE rwN
          simp only [if_neg hr]
          refine ⟨⟨by omega, by omega, by omega, by omega, by omega, by omega⟩, ⟨by rw [strOf_size]; omega, by omega⟩, ?_⟩
          exact next (foldK s a (rowI v s a).2 (rowI v s a).1) _ _ _ _ _ hK (by omega) (by omega) (by omega) rfl (by omega) (by simp [strOf_size])
    · rw [if_neg hg] at hK
      have hg1 : blankI s a = false := by rw [Bool.eq_false_iff]; exact fun h => hg (.inl h)
      simp only [hg1, decide_eq_false (fun h => hg (.inr h)), br_f]
      refine ⟨by omega, ha, ⟨by omega, by omega⟩, by simp only [rng]; omega, ?_⟩
      exact next [byteAt s a.toNat] (a + 1) _ _ _ _ hK (by omega) (by omega) (by simp; omega) rfl (by omega) (by simp)

def dqI (v : Int) (s : ByteArray) (i : Int) : Except (Int × Int) (List UInt8 × Int) := if i < 0 ∨ s.size ≤ i ∨ byteAt s i.toNat ≠ 34 then .error (11, i) else match dqN v s (s.size + 2) (i + 1) [] with
  | .error none => .error (11, i)
  | .error (some p) => .error p
  | .ok p => .ok p
def dqT : Except (Int × Int) (List UInt8 × Int) → List UInt8
  | .ok (t, _) => t
  | .error _ => []
def dqE : Except (Int × Int) (List UInt8 × Int) → Int
  | .ok (_, e) => e
  | .error _ => 0
def dqC : Except (Int × Int) (List UInt8 × Int) → Int
  | .ok _ => 0
  | .error a => a.1
def dqO : Except (Int × Int) (List UInt8 × Int) → Int
  | .ok _ => 0
  | .error a => a.2
def targumref17_Double.LS : LT := (extL lt0 0 targumref17_Double.sp0)
theorem targumref17_Double.LS_mono : LMono targumref17_Double.LS := (extL_mono lt0_mono targumref17_Double.spm0)
def targumref17_Double.s : List Value → Heap → VK → Prop
  | [.int .i64 v, .string s, .int .i64 i], h, K => (s.size ≤ 300000 ∧ -10000000 ≤ i ∧ i ≤ 10000000) ∧ K (.tuple #[.string (strOf (dqT (dqI v s i))), .int .i64 (dqE (dqI v s i)), .agg #[.int .i64 (dqC (dqI v s i)), .int .i64 (dqO (dqI v s i))]]) h
  | _, _, _ => False
theorem targumref17_Double.t (v : Int) (s : ByteArray) (i : Int) (K : VK) : mwp DB (targumref17_Double.LS) targumref17_Double.m (retK [.t 6, .t 7, .v 8 (some 2)] K) (argE 0 [.int .i64 v, .string s, .int .i64 i]) (lit []) = (br (decide (i < (0 : Int))) (K (Value.tuple #[Value.string (ByteArray.mk #[]), Value.int IntKind.i64 (0 : Int), Value.agg #[Value.int IntKind.i64 (11 : Int), Value.int IntKind.i64 i]]) (Heap.mk (1 : Nat) [some (Blk.mk (30 : Nat) (2 : Nat) ([] ++ [Value.int IntKind.i64 (11 : Int), Value.int IntKind.i64 i] ++ []) true)])) (br (decide ((↑s.size : Int) ≤ i)) (K (Value.tuple #[Value.string (ByteArray.mk #[]), Value.int IntKind.i64 (0 : Int), Value.agg #[Value.int IntKind.i64 (11 : Int), Value.int IntKind.i64 i]]) (Heap.mk (1 : Nat) [some (Blk.mk (30 : Nat) (2 : Nat) ([] ++ [Value.int IntKind.i64 (11 : Int), Value.int IntKind.i64 i] ++ []) true)])) (((0 : Int) ≤ i ∧ i < (↑s.size : Int)) ∧ br (!decide ((↑(byteAt s i.toNat).toNat : Int) = (34 : Int))) (K (Value.tuple #[Value.string (ByteArray.mk #[]), Value.int IntKind.i64 (0 : Int), Value.agg #[Value.int IntKind.i64 (11 : Int), Value.int IntKind.i64 i]]) (Heap.mk (1 : Nat) [some (Blk.mk (30 : Nat) (2 : Nat) ([] ++ [Value.int IntKind.i64 (11 : Int), Value.int IntKind.i64 i] ++ []) true)])) (rng IntKind.i64 (i + (1 : Int)) ∧ ∃ (v_1 : Int), ∃ (s_1 : ByteArray), ∃ (l : List UInt8), ∃ (a : Int), ∃ (k : Nat), ((1 : Nat) = (1 : Nat) ∧ In (1 : Nat) (targumref17_Double.N0 v_1 s_1 l a k) [Value.int IntKind.i64 v, Value.string s, Value.string (ByteArray.mk #[]), Value.int IntKind.i64 (0 : Int), Value.pointer (some (Addr.mk (0 : Nat) (0 : Nat) none)), Value.slice none (0 : Nat) (0 : Nat), Value.int IntKind.i64 (i + (1 : Int))] (Heap.mk (1 : Nat) [some (Blk.mk (30 : Nat) (2 : Nat) [Value.int IntKind.i64 (0 : Int), Value.int IntKind.i64 (0 : Int)] true)]) ∧ s_1.size ≤ (300000 : Nat) ∧ (0 : Int) ≤ a ∧ a ≤ (↑s_1.size : Int) ∧ (↑l.length : Int) ≤ (2 : Int) * a ∧ (↑s_1.size : Int) - a < (↑k : Int)) ∧ (∀ (t : List UInt8) (e : Int), dqN v_1 s_1 k a l = Except.ok (t, e) → ∀ (x : List UInt8) (y : Int), K (Value.tuple #[Value.string (strOf t), Value.int IntKind.i64 e, Value.agg #[Value.int IntKind.i64 (0 : Int), Value.int IntKind.i64 (0 : Int)]]) (Heap.mk (2 : Nat) [fltO (0 : Int) (0 : Int), some (Blk.mk (5 : TypeId) (1 : Nat) (byV x) true)])) ∧ (dqN v_1 s_1 k a l = Except.error none → ∀ (x : List UInt8) (y : Int), K (Value.tuple #[Value.string (ByteArray.mk #[]), Value.int IntKind.i64 (0 : Int), Value.agg #[Value.int IntKind.i64 (11 : Int), Value.int IntKind.i64 i]]) (Heap.mk (2 : Nat) [some (Blk.mk TF (2 : Nat) ([] ++ [Value.int IntKind.i64 (11 : Int), Value.int IntKind.i64 i] ++ []) true), some (Blk.mk (5 : TypeId) (1 : Nat) (byV x) true)])) ∧ ∀ (c a_1 : Int), dqN v_1 s_1 k a l = Except.error (some (c, a_1)) → ∀ (x : List UInt8) (y : Int), K (Value.tuple #[Value.string (ByteArray.mk #[]), Value.int IntKind.i64 (0 : Int), Value.agg #[Value.int IntKind.i64 c, Value.int IntKind.i64 a_1]]) (Heap.mk (2 : Nat) [fltO c a_1, some (Blk.mk (5 : TypeId) (1 : Nat) (byV x) true)]))))) := by kernel_rfl
theorem targumref17_Double.c (v : Int) (s : ByteArray) (i : Int) (h : Heap) (K : VK) (hp : s.size ≤ 300000 ∧ -10000000 ≤ i ∧ i ≤ 10000000) (hh : K (.tuple #[.string (strOf (dqT (dqI v s i))), .int .i64 (dqE (dqI v s i)), .agg #[.int .i64 (dqC (dqI v s i)), .int .i64 (dqO (dqI v s i))]]) h) : ACalls Tryd.prog targumref17_Double.n [.int .i64 v, .string s, .int .i64 i] h K := by
  refine ACalls.alone rfl (acalls_mk DB_ok targumref17_Double.ok (LS := targumref17_Double.LS) (by simp only [targumref17_Double.m, LOk, and_true, true_and]; (repeat' apply And.intro) <;> first | trivial | exact targumref17_Double.lo0) (Nat.le_of_ble_eq_true rfl) (Eq.mpr (targumref17_Double.t v s i (fun v _ => ck (cleanT v) (K v h))) ?_))
  have hno : i < 0 ∨ s.size ≤ i ∨ byteAt s i.toNat ≠ 34 → K (.tuple #[.string ⟨#[]⟩, .int .i64 0, .agg #[.int .i64 11, .int .i64 i]]) h := fun e => by
    have : dqI v s i = .error (11, i) := by unfold dqI; rw [if_pos e]
    rw [this] at hh; exact hh
  refine br_intro (fun hb => ck_iff.2 ⟨rfl, hno (.inl (by simpa using hb))⟩) (fun hb => br_intro (fun hc => ck_iff.2 ⟨rfl, hno (.inr (.inl (by simpa using hc)))⟩) (fun hc => ?_))
  simp only [decide_eq_false_iff_not] at hb hc
  refine ⟨⟨by omega, by omega⟩, br_intro (fun hd => ck_iff.2 ⟨rfl, hno (.inr (.inr ?_))⟩) (fun hd => ?_)⟩
  · intro e; rw [e] at hd; exact absurd hd (by decide)
  have h39 : byteAt s i.toNat = 34 := by
    simp only [Bool.not_eq_false', decide_eq_true_eq] at hd
    exact UInt8.toNat_inj.1 (by show (byteAt s i.toNat).toNat = 34; omega)
  unfold dqI at hh
  rw [if_neg (by rintro (h | h | h) <;> first | omega | exact h h39)] at hh
  refine ⟨by simp only [rng]; omega, v, s, [], i + 1, s.size + 2, ⟨rfl, ?_, by omega, by omega, by omega, by simp only [List.length_nil]; omega, by omega⟩, fun t e ho x y => ?_, fun ho x y => ?_, fun c a ho x y => ?_⟩
  · refine In.rows [some 0, none] ⟨⟨rfl, rfl, rfl⟩, rfl, trivial⟩ rfl rfl rfl ?_ ?_
    · simp [renT, renA, ren]
    · simp [okT, okA, okF, flatV]
  · rw [ho] at hh; exact ck_iff.2 ⟨rfl, hh⟩
  · rw [ho] at hh; exact ck_iff.2 ⟨rfl, hh⟩
  · rw [ho] at hh; exact ck_iff.2 ⟨rfl, hh⟩
theorem targumref17_Double.sc : ∀ vs h K, targumref17_Double.s vs h K → ACalls Tryd.prog targumref17_Double.n vs h K := by
  intro vs h K hh; unfold targumref17_Double.s at hh; split at hh
  · exact targumref17_Double.c _ _ _ _ _ hh.1 hh.2
  · exact hh.elim
theorem targumref17_Double.sm : SpecMono targumref17_Double.s := by
  intro vs h K K' hk hh; unfold targumref17_Double.s at hh ⊢; split at hh
  · exact ⟨hh.1, hk _ _ hh.2⟩
  · exact hh.elim
theorem targumref17_Double.sd : SpecDet targumref17_Double.s := by
  intro vs h K hh; unfold targumref17_Double.s at hh; split at hh
  · exact ⟨_, hh.2, hh.1, rfl⟩
  · exact hh.elim

end Go.Mini
