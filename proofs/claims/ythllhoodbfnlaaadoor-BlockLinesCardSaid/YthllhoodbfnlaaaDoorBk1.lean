/- Block texts: heads, lines. Conditions: sizes. -/
import Derived.Test.YthllhoodbfnlaaaDoorTxt
import Derived.Test.YthllhoodbfnlaaaDoorMiniY
import Derived.Test.YthllhoodbfnlaaaDoorMiniU
import Derived.Test.YthllhoodbfnlaaaDoorSq1
namespace Go.Mini
open Go Go.RowKit Go.Proofs
set_option maxRecDepth 100000
set_option linter.unusedVariables false
set_option linter.unusedSimpArgs false

theorem br_t {A B : Prop} : br true A B = A := rfl
theorem br_f {A B : Prop} : br false A B = B := rfl
/-- The signs behind | or >: the place behind them, the digit, the sign. -/
def sgnF (s : ByteArray) : Nat → Int → Int → Int → Int × Int × Int
  | 0, i, d, c => (i, d, c)
  | k + 1, i, d, c => if s.size ≤ i then (i, d, c)
    else if d = 0 ∧ 49 ≤ ((byteAt s i.toNat).toNat : Int) ∧ ((byteAt s i.toNat).toNat : Int) ≤ 57 then sgnF s k (i + 1) ((byteAt s i.toNat).toNat - 48) c
    else if c = 0 ∧ (((byteAt s i.toNat).toNat : Int) = 43 ∨ ((byteAt s i.toNat).toNat : Int) = 45) then sgnF s k (i + 1) d (byteAt s i.toNat).toNat
    else (i, d, c)
theorem sgnF_ok (s : ByteArray) : ∀ (k : Nat) (i d c : Int), i ≤ s.size → i ≤ (sgnF s k i d c).1 ∧ (sgnF s k i d c).1 ≤ s.size
  | 0, i, d, c, h => ⟨Int.le_refl _, h⟩
  | k + 1, i, d, c, h => by
    rw [sgnF]
    split
    · exact ⟨Int.le_refl _, h⟩
    · split
      · have := sgnF_ok s k (i + 1) ((byteAt s i.toNat).toNat - 48) c (by omega); omega
      · split
        · have := sgnF_ok s k (i + 1) d (byteAt s i.toNat).toNat (by omega); omega
        · exact ⟨Int.le_refl _, h⟩
abbrev THd : Nat := 56
abbrev hdB (f : Bool) (d c a e n : Int) : Option Blk := some ⟨THd, 6, [.bool f, .int .i64 d, .int .u8 c, .int .i64 a, .int .i64 e, .int .i64 n], true⟩
def KA : CT := (extC (extC (extC HE rows_Over.n rows_Over.s) rows_Line.n rows_Line.s) rows_Remark.n rows_Remark.s)
theorem KA_ok : COk Tryd.prog KA := (extC_ok (extC_ok (extC_ok HE_ok rows_Over.sc rows_Over.sd) rows_Line.sc rows_Line.sd) rows_Remark.sc rows_Remark.sd)
theorem KA_mono : CMono KA := (extC_mono (extC_mono (extC_mono HE_mono rows_Over.sm) rows_Line.sm) rows_Remark.sm)
def block_begin.N0 (s : ByteArray) (f : Bool) (i d c : Int) (k m : Nat) (vs : List Value) (h : Heap) : Prop := vs = [.string s, .int .i64 i, .pointer (some ⟨1, 0, none⟩), .int .i64 m] ∧ h = lit [hdB false 0 0 0 0 0, hdB f d c 0 0 0]
def block_begin.sp0 : LSpec := ⟨block_begin.cs0, block_begin.ts0, fun vs h K => ∃ (s : ByteArray) (f : Bool) (i d c : Int) (k m : Nat), (h.n = 2 ∧ In 2 (block_begin.N0 s f i d c k m) vs h ∧ (s.size ≤ 1000000 ∧ 0 ≤ i ∧ i ≤ s.size ∧ m + k = 2 ∧ 0 ≤ c ∧ c ≤ 255)) ∧ (∀ x : Int, K (.exit 0) [.string s, .int .i64 (sgnF s k i d c).1, .pointer (some ⟨1, 0, none⟩), .int .i64 x] (lit [hdB false 0 0 0 0 0, hdB f (sgnF s k i d c).2.1 (sgnF s k i d c).2.2 0 0 0]))⟩
theorem block_begin.spm0 : LSpecMono block_begin.sp0 := by
  rintro vs h K K' hk ⟨s, f, i, d, c, k, m, h3, h4⟩
  exact ⟨s, f, i, d, c, k, m, h3, fun x => hk _ _ _ (h4 x)⟩
theorem block_begin.t0 (s : ByteArray) (f : Bool) (i d c : Int) (k m : Nat) (E : Env) (N : List Value → Heap → Prop) (K : LK) : mwp KA (lt0) block_begin.l0 (lK block_begin.cs0 N K) (zipE block_begin.cs0 [.string s, .int .i64 i, .pointer (some ⟨1, 0, none⟩), .int .i64 m] ++ E) (lit [hdB false 0 0 0 0 0, hdB f d c 0 0 0]) = (br (decide ((↑m : Int) < (2 : Int))) (br (decide ((↑s.size : Int) ≤ i)) (K (Exit.exit (0 : Nat)) [Value.string s, Value.int IntKind.i64 i, Value.pointer (some (Addr.mk (1 : Nat) (0 : Nat) none)), Value.int IntKind.i64 (↑m : Int)] (Heap.mk (2 : Nat) [hdB false (0 : Int) (0 : Int) (0 : Int) (0 : Int) (0 : Int), hdB f d c (0 : Int) (0 : Int) (0 : Int)])) (br (decide (d = (0 : Int))) (((0 : Int) ≤ i ∧ i < (↑s.size : Int)) ∧ br (decide ((49 : Int) ≤ (↑(byteAt s i.toNat).toNat : Int))) (((0 : Int) ≤ i ∧ i < (↑s.size : Int)) ∧ br (decide ((↑(byteAt s i.toNat).toNat : Int) ≤ (57 : Int))) (((0 : Int) ≤ i ∧ i < (↑s.size : Int)) ∧ rng IntKind.u8 ((↑(byteAt s i.toNat).toNat : Int) - (48 : Int)) ∧ rng IntKind.i64 ((↑(byteAt s i.toNat).toNat : Int) - (48 : Int)) ∧ rng IntKind.i64 (i + (1 : Int)) ∧ rng IntKind.i64 ((↑m : Int) + (1 : Int)) ∧ N [Value.string s, Value.int IntKind.i64 (i + (1 : Int)), Value.pointer (some (Addr.mk (1 : Nat) (0 : Nat) none)), Value.int IntKind.i64 ((↑m : Int) + (1 : Int))] (Heap.mk (2 : Nat) [hdB false (0 : Int) (0 : Int) (0 : Int) (0 : Int) (0 : Int), some (Blk.mk THd (6 : Nat) ([Value.bool f] ++ [Value.int IntKind.i64 ((↑(byteAt s i.toNat).toNat : Int) - (48 : Int))] ++ [Value.int IntKind.u8 c, Value.int IntKind.i64 (0 : Int), Value.int IntKind.i64 (0 : Int), Value.int IntKind.i64 (0 : Int)]) true)])) (br (decide (c = (0 : Int))) (((0 : Int) ≤ i ∧ i < (↑s.size : Int)) ∧ br (decide ((↑(byteAt s i.toNat).toNat : Int) = (43 : Int))) (((0 : Int) ≤ i ∧ i < (↑s.size : Int)) ∧ rng IntKind.i64 (i + (1 : Int)) ∧ rng IntKind.i64 ((↑m : Int) + (1 : Int)) ∧ N [Value.string s, Value.int IntKind.i64 (i + (1 : Int)), Value.pointer (some (Addr.mk (1 : Nat) (0 : Nat) none)), Value.int IntKind.i64 ((↑m : Int) + (1 : Int))] (Heap.mk (2 : Nat) [hdB false (0 : Int) (0 : Int) (0 : Int) (0 : Int) (0 : Int), some (Blk.mk THd (6 : Nat) ([Value.bool f, Value.int IntKind.i64 d] ++ [Value.int IntKind.u8 (↑(byteAt s i.toNat).toNat : Int)] ++ [Value.int IntKind.i64 (0 : Int), Value.int IntKind.i64 (0 : Int), Value.int IntKind.i64 (0 : Int)]) true)])) (((0 : Int) ≤ i ∧ i < (↑s.size : Int)) ∧ br (decide ((↑(byteAt s i.toNat).toNat : Int) = (45 : Int))) (((0 : Int) ≤ i ∧ i < (↑s.size : Int)) ∧ rng IntKind.i64 (i + (1 : Int)) ∧ rng IntKind.i64 ((↑m : Int) + (1 : Int)) ∧ N [Value.string s, Value.int IntKind.i64 (i + (1 : Int)), Value.pointer (some (Addr.mk (1 : Nat) (0 : Nat) none)), Value.int IntKind.i64 ((↑m : Int) + (1 : Int))] (Heap.mk (2 : Nat) [hdB false (0 : Int) (0 : Int) (0 : Int) (0 : Int) (0 : Int), some (Blk.mk THd (6 : Nat) ([Value.bool f, Value.int IntKind.i64 d] ++ [Value.int IntKind.u8 (↑(byteAt s i.toNat).toNat : Int)] ++ [Value.int IntKind.i64 (0 : Int), Value.int IntKind.i64 (0 : Int), Value.int IntKind.i64 (0 : Int)]) true)])) (K (Exit.exit (0 : Nat)) [Value.string s, Value.int IntKind.i64 i, Value.pointer (some (Addr.mk (1 : Nat) (0 : Nat) none)), Value.int IntKind.i64 (↑m : Int)] (Heap.mk (2 : Nat) [hdB false (0 : Int) (0 : Int) (0 : Int) (0 : Int) (0 : Int), hdB f d c (0 : Int) (0 : Int) (0 : Int)])))) (K (Exit.exit (0 : Nat)) [Value.string s, Value.int IntKind.i64 i, Value.pointer (some (Addr.mk (1 : Nat) (0 : Nat) none)), Value.int IntKind.i64 (↑m : Int)] (Heap.mk (2 : Nat) [hdB false (0 : Int) (0 : Int) (0 : Int) (0 : Int) (0 : Int), hdB f d c (0 : Int) (0 : Int) (0 : Int)])))) (br (decide (c = (0 : Int))) (((0 : Int) ≤ i ∧ i < (↑s.size : Int)) ∧ br (decide ((↑(byteAt s i.toNat).toNat : Int) = (43 : Int))) (((0 : Int) ≤ i ∧ i < (↑s.size : Int)) ∧ rng IntKind.i64 (i + (1 : Int)) ∧ rng IntKind.i64 ((↑m : Int) + (1 : Int)) ∧ N [Value.string s, Value.int IntKind.i64 (i + (1 : Int)), Value.pointer (some (Addr.mk (1 : Nat) (0 : Nat) none)), Value.int IntKind.i64 ((↑m : Int) + (1 : Int))] (Heap.mk (2 : Nat) [hdB false (0 : Int) (0 : Int) (0 : Int) (0 : Int) (0 : Int), some (Blk.mk THd (6 : Nat) ([Value.bool f, Value.int IntKind.i64 d] ++ [Value.int IntKind.u8 (↑(byteAt s i.toNat).toNat : Int)] ++ [Value.int IntKind.i64 (0 : Int), Value.int IntKind.i64 (0 : Int), Value.int IntKind.i64 (0 : Int)]) true)])) (((0 : Int) ≤ i ∧ i < (↑s.size : Int)) ∧ br (decide ((↑(byteAt s i.toNat).toNat : Int) = (45 : Int))) (((0 : Int) ≤ i ∧ i < (↑s.size : Int)) ∧ rng IntKind.i64 (i + (1 : Int)) ∧ rng IntKind.i64 ((↑m : Int) + (1 : Int)) ∧ N [Value.string s, Value.int IntKind.i64 (i + (1 : Int)), Value.pointer (some (Addr.mk (1 : Nat) (0 : Nat) none)), Value.int IntKind.i64 ((↑m : Int) + (1 : Int))] (Heap.mk (2 : Nat) [hdB false (0 : Int) (0 : Int) (0 : Int) (0 : Int) (0 : Int), some (Blk.mk THd (6 : Nat) ([Value.bool f, Value.int IntKind.i64 d] ++ [Value.int IntKind.u8 (↑(byteAt s i.toNat).toNat : Int)] ++ [Value.int IntKind.i64 (0 : Int), Value.int IntKind.i64 (0 : Int), Value.int IntKind.i64 (0 : Int)]) true)])) (K (Exit.exit (0 : Nat)) [Value.string s, Value.int IntKind.i64 i, Value.pointer (some (Addr.mk (1 : Nat) (0 : Nat) none)), Value.int IntKind.i64 (↑m : Int)] (Heap.mk (2 : Nat) [hdB false (0 : Int) (0 : Int) (0 : Int) (0 : Int) (0 : Int), hdB f d c (0 : Int) (0 : Int) (0 : Int)])))) (K (Exit.exit (0 : Nat)) [Value.string s, Value.int IntKind.i64 i, Value.pointer (some (Addr.mk (1 : Nat) (0 : Nat) none)), Value.int IntKind.i64 (↑m : Int)] (Heap.mk (2 : Nat) [hdB false (0 : Int) (0 : Int) (0 : Int) (0 : Int) (0 : Int), hdB f d c (0 : Int) (0 : Int) (0 : Int)])))) (br (decide (c = (0 : Int))) (((0 : Int) ≤ i ∧ i < (↑s.size : Int)) ∧ br (decide ((↑(byteAt s i.toNat).toNat : Int) = (43 : Int))) (((0 : Int) ≤ i ∧ i < (↑s.size : Int)) ∧ rng IntKind.i64 (i + (1 : Int)) ∧ rng IntKind.i64 ((↑m : Int) + (1 : Int)) ∧ N [Value.string s, Value.int IntKind.i64 (i + (1 : Int)), Value.pointer (some (Addr.mk (1 : Nat) (0 : Nat) none)), Value.int IntKind.i64 ((↑m : Int) + (1 : Int))] (Heap.mk (2 : Nat) [hdB false (0 : Int) (0 : Int) (0 : Int) (0 : Int) (0 : Int), some (Blk.mk THd (6 : Nat) ([Value.bool f, Value.int IntKind.i64 d] ++ [Value.int IntKind.u8 (↑(byteAt s i.toNat).toNat : Int)] ++ [Value.int IntKind.i64 (0 : Int), Value.int IntKind.i64 (0 : Int), Value.int IntKind.i64 (0 : Int)]) true)])) (((0 : Int) ≤ i ∧ i < (↑s.size : Int)) ∧ br (decide ((↑(byteAt s i.toNat).toNat : Int) = (45 : Int))) (((0 : Int) ≤ i ∧ i < (↑s.size : Int)) ∧ rng IntKind.i64 (i + (1 : Int)) ∧ rng IntKind.i64 ((↑m : Int) + (1 : Int)) ∧ N [Value.string s, Value.int IntKind.i64 (i + (1 : Int)), Value.pointer (some (Addr.mk (1 : Nat) (0 : Nat) none)), Value.int IntKind.i64 ((↑m : Int) + (1 : Int))] (Heap.mk (2 : Nat) [hdB false (0 : Int) (0 : Int) (0 : Int) (0 : Int) (0 : Int), some (Blk.mk THd (6 : Nat) ([Value.bool f, Value.int IntKind.i64 d] ++ [Value.int IntKind.u8 (↑(byteAt s i.toNat).toNat : Int)] ++ [Value.int IntKind.i64 (0 : Int), Value.int IntKind.i64 (0 : Int), Value.int IntKind.i64 (0 : Int)]) true)])) (K (Exit.exit (0 : Nat)) [Value.string s, Value.int IntKind.i64 i, Value.pointer (some (Addr.mk (1 : Nat) (0 : Nat) none)), Value.int IntKind.i64 (↑m : Int)] (Heap.mk (2 : Nat) [hdB false (0 : Int) (0 : Int) (0 : Int) (0 : Int) (0 : Int), hdB f d c (0 : Int) (0 : Int) (0 : Int)])))) (K (Exit.exit (0 : Nat)) [Value.string s, Value.int IntKind.i64 i, Value.pointer (some (Addr.mk (1 : Nat) (0 : Nat) none)), Value.int IntKind.i64 (↑m : Int)] (Heap.mk (2 : Nat) [hdB false (0 : Int) (0 : Int) (0 : Int) (0 : Int) (0 : Int), hdB f d c (0 : Int) (0 : Int) (0 : Int)]))))) (K (Exit.exit (0 : Nat)) [Value.string s, Value.int IntKind.i64 i, Value.pointer (some (Addr.mk (1 : Nat) (0 : Nat) none)), Value.int IntKind.i64 (↑m : Int)] (Heap.mk (2 : Nat) [hdB false (0 : Int) (0 : Int) (0 : Int) (0 : Int) (0 : Int), hdB f d c (0 : Int) (0 : Int) (0 : Int)]))) := by kernel_rfl
theorem block_begin.lo0 : LOk1 Tryd.prog block_begin.nt block_begin.sp0 (.loop 0 block_begin.l0) := by
  refine loop_resC (σ := ByteArray × Bool × Int × Int × Int × Nat × Nat) KA_ok KA_mono (lt0_mono) (LS := lt0) (by simp only [block_begin.l0, LOk, and_true, true_and]) rfl rfl (fun ⟨s, f, i, d, c, k, m⟩ => [.string s, .int .i64 i, .pointer (some ⟨1, 0, none⟩), .int .i64 m]) (fun ⟨s, f, i, d, c, k, m⟩ => lit [hdB false 0 0 0 0 0, hdB f d c 0 0 0]) (fun ⟨s, f, i, d, c, k, m⟩ => s.size ≤ 1000000 ∧ 0 ≤ i ∧ i ≤ s.size ∧ m + k = 2 ∧ 0 ≤ c ∧ c ≤ 255) (fun ⟨s, f, i, d, c, k, m⟩ => k) 2 (fun ⟨s, f, i, d, c, k, m⟩ K => ∀ x : Int, K (.exit 0) [.string s, .int .i64 (sgnF s k i d c).1, .pointer (some ⟨1, 0, none⟩), .int .i64 x] (lit [hdB false 0 0 0 0 0, hdB f (sgnF s k i d c).2.1 (sgnF s k i d c).2.2 0 0 0])) ?_ ?_
  · rintro vs h K ⟨s, f, i, d, c, k, m, ⟨h1, h2, h3⟩, h4⟩
    exact ⟨h1, ⟨s, f, i, d, c, k, m⟩, h2, h3, h4⟩
  rintro ⟨s, f, i, d, c, k, m⟩ E N K hE hp hN hK
  dsimp only at hp hN hK
  refine Eq.mpr (block_begin.t0 s f i d c k m E N (fun x => In 2 (K x))) ?_
  obtain ⟨h1, h2, h3, h4, h5, h6⟩ := hp
  have hb8 := (byteAt s i.toNat).toNat_lt
  have nx : (k = 0 ∨ s.size ≤ i ∨ (¬ (d = 0 ∧ 49 ≤ ((byteAt s i.toNat).toNat : Int) ∧ ((byteAt s i.toNat).toNat : Int) ≤ 57) ∧ ¬ (c = 0 ∧ (((byteAt s i.toNat).toNat : Int) = 43 ∨ ((byteAt s i.toNat).toNat : Int) = 45)))) → In 2 (K (.exit 0)) [.string s, .int .i64 i, .pointer (some ⟨1, 0, none⟩), .int .i64 m] (Heap.mk 2 [hdB false 0 0 0 0 0, hdB f d c 0 0 0]) := fun e => by
    have e1 : sgnF s k i d c = (i, d, c) := by
      cases k with
      | zero => rfl
      | succ k =>
        rw [sgnF]
        by_cases hs : s.size ≤ i
        · rw [if_pos hs]
        · obtain ⟨q1, q2⟩ : ¬ (d = 0 ∧ 49 ≤ ((byteAt s i.toNat).toNat : Int) ∧ ((byteAt s i.toNat).toNat : Int) ≤ 57) ∧ ¬ (c = 0 ∧ (((byteAt s i.toNat).toNat : Int) = 43 ∨ ((byteAt s i.toNat).toNat : Int) = 45)) := by omega
          rw [if_neg hs, if_neg q1, if_neg q2]
    rw [e1] at hK
    exact .inl (hK m)
  have go : ∀ d' c' : Int, sgnF s k i d c = sgnF s (k - 1) (i + 1) d' c' → 0 < k → i < s.size → 0 ≤ c' → c' ≤ 255 → N [.string s, .int .i64 (i + 1), .pointer (some ⟨1, 0, none⟩), .int .i64 ((m : Int) + 1)] (Heap.mk 2 [hdB false 0 0 0 0 0, hdB f d' c' 0 0 0]) := fun d' c' e hk0 hi q1 q2 => by
    rw [e] at hK
    have := hN (s, f, i + 1, d', c', k - 1, m + 1) [.string s, .int .i64 (i + 1), .pointer (some ⟨1, 0, none⟩), .int .i64 ((m : Int) + 1)] (Heap.mk 2 [hdB false 0 0 0 0 0, hdB f d' c' 0 0 0]) ⟨h1, by dsimp only; omega, by dsimp only; omega, by dsimp only; omega, q1, q2⟩ (by dsimp only; omega) hK (.inl ⟨by dsimp only; rw [show ((m + 1 : Nat) : Int) = (m : Int) + 1 from by omega], rfl⟩)
    exact this
  have nd : 0 < k → i < s.size → d = 0 → 49 ≤ ((byteAt s i.toNat).toNat : Int) → ((byteAt s i.toNat).toNat : Int) ≤ 57 → N [.string s, .int .i64 (i + 1), .pointer (some ⟨1, 0, none⟩), .int .i64 ((m : Int) + 1)] (Heap.mk 2 [hdB false 0 0 0 0 0, hdB f ((byteAt s i.toNat).toNat - 48) c 0 0 0]) := fun q0 q1 q2 q3 q4 => by
    refine go _ _ ?_ q0 q1 h5 h6
    obtain ⟨k, rfl⟩ : ∃ k', k = k' + 1 := ⟨k - 1, by omega⟩
    rw [sgnF, if_neg (by omega), if_pos ⟨q2, q3, q4⟩]; rfl
  have ns : 0 < k → i < s.size → ¬ (d = 0 ∧ 49 ≤ ((byteAt s i.toNat).toNat : Int) ∧ ((byteAt s i.toNat).toNat : Int) ≤ 57) → c = 0 → (((byteAt s i.toNat).toNat : Int) = 43 ∨ ((byteAt s i.toNat).toNat : Int) = 45) → N [.string s, .int .i64 (i + 1), .pointer (some ⟨1, 0, none⟩), .int .i64 ((m : Int) + 1)] (Heap.mk 2 [hdB false 0 0 0 0 0, hdB f d (byteAt s i.toNat).toNat 0 0 0]) := fun q0 q1 q2 q3 q4 => by
    refine go _ _ ?_ q0 q1 (by omega) (by omega)
    obtain ⟨k, rfl⟩ : ∃ k', k = k' + 1 := ⟨k - 1, by omega⟩
    rw [sgnF, if_neg (by omega), if_neg q2, if_pos ⟨q3, q4⟩]; rfl
  clear hN hK go
  repeat' (first | with_reducible refine br_intro (fun hb => ?_) (fun hb => ?_) | with_reducible refine And.intro ?_ ?_)
  all_goals simp only [decide_eq_true_eq, decide_eq_false_iff_not] at *
  all_goals first
    | omega
    | (simp only [rng]; omega)
    | exact nx (by omega)
    | exact nd (by omega) (by omega) (by omega) (by omega) (by omega)
    | exact ns (by omega) (by omega) (by omega) (by omega) (by omega)

structure BHd where
  f : Bool
  d : Int
  c : Int
  a : Int
  e : Int
  n : Int
  ok : Bool
def bgI (v : Int) (s : ByteArray) (i : Int) : BHd :=
  if i < 0 ∨ s.size ≤ i ∨ (((byteAt s i.toNat).toNat : Int) ≠ 124 ∧ ((byteAt s i.toNat).toNat : Int) ≠ 62) then ⟨false, 0, 0, 0, 0, 0, false⟩
  else
    ⟨decide (((byteAt s i.toNat).toNat : Int) = 62), (sgnF s 2 (i + 1) 0 0).2.1, (sgnF s 2 (i + 1) 0 0).2.2, overI s (sgnF s 2 (i + 1) 0 0).1, endI v s (overI s (sgnF s 2 (i + 1) 0 0).1),
      endI v s (overI s (sgnF s 2 (i + 1) 0 0).1) + brkI v s (endI v s (overI s (sgnF s 2 (i + 1) 0 0).1)),
      decide (endI v s (overI s (sgnF s 2 (i + 1) 0 0).1) = overI s (sgnF s 2 (i + 1) 0 0).1) || remI s (overI s (sgnF s 2 (i + 1) 0 0).1)⟩
def block_begin.LS0 : LT := (extL lt0 0 block_begin.sp0)
theorem block_begin.LS0_mono : LMono block_begin.LS0 := (extL_mono lt0_mono block_begin.spm0)
def block_begin.sp1999 : LSpec := ⟨block_begin.cs1999, block_begin.ts1999, fun vs h K => ∃ (v : Int) (s : ByteArray) (i : Int), vs = [.int .i64 v, .string s, .int .i64 i, .pointer (some ⟨0, 0, none⟩), .bool false] ∧ h = lit [hdB false 0 0 0 0 0] ∧ (s.size ≤ 1000000) ∧ ∀ (i' : Int) (b : Option Blk), K .ret [.int .i64 v, .string s, .int .i64 i', .pointer (some ⟨0, 0, none⟩), .bool (bgI v s i).ok] (lit [hdB (bgI v s i).f (bgI v s i).d (bgI v s i).c (bgI v s i).a (bgI v s i).e (bgI v s i).n, b])⟩
theorem block_begin.spm1999 : LSpecMono block_begin.sp1999 := by
  rintro vs h K K' hk ⟨v, s, i, h1, h2, h3, h4⟩
  exact ⟨v, s, i, h1, h2, h3, fun i' b => hk _ _ _ (h4 i' b)⟩
theorem block_begin.te (v : Int) (s : ByteArray) (i : Int) (E : Env) (G : Nat → List Value → Heap → Prop) (K : LK) : mwp KA (block_begin.LS0) block_begin.l1999 (gK2 block_begin.cs1999 block_begin.cs1999 G K) (zipE block_begin.cs1999 [.int .i64 v, .string s, .int .i64 i, .pointer (some ⟨0, 0, none⟩), .bool false] ++ E) (lit [hdB false 0 0 0 0 0]) = (br (decide (i < (0 : Int))) (K Exit.ret [Value.int IntKind.i64 v, Value.string s, Value.int IntKind.i64 i, Value.pointer (some (Addr.mk (0 : Nat) (0 : Nat) none)), Value.bool false] (Heap.mk (2 : Nat) [some (Blk.mk THd (6 : Nat) ([] ++ [Value.bool false, Value.int IntKind.i64 (0 : Int), Value.int IntKind.u8 (0 : Int), Value.int IntKind.i64 (0 : Int), Value.int IntKind.i64 (0 : Int), Value.int IntKind.i64 (0 : Int)] ++ []) true), some (Blk.mk (56 : Nat) (6 : Nat) ([] ++ [Value.bool false, Value.int IntKind.i64 (0 : Int), Value.int IntKind.u8 (0 : Int), Value.int IntKind.i64 (0 : Int), Value.int IntKind.i64 (0 : Int), Value.int IntKind.i64 (0 : Int)] ++ []) true)])) (br (decide ((↑s.size : Int) ≤ i)) (K Exit.ret [Value.int IntKind.i64 v, Value.string s, Value.int IntKind.i64 i, Value.pointer (some (Addr.mk (0 : Nat) (0 : Nat) none)), Value.bool false] (Heap.mk (2 : Nat) [some (Blk.mk THd (6 : Nat) ([] ++ [Value.bool false, Value.int IntKind.i64 (0 : Int), Value.int IntKind.u8 (0 : Int), Value.int IntKind.i64 (0 : Int), Value.int IntKind.i64 (0 : Int), Value.int IntKind.i64 (0 : Int)] ++ []) true), some (Blk.mk (56 : Nat) (6 : Nat) ([] ++ [Value.bool false, Value.int IntKind.i64 (0 : Int), Value.int IntKind.u8 (0 : Int), Value.int IntKind.i64 (0 : Int), Value.int IntKind.i64 (0 : Int), Value.int IntKind.i64 (0 : Int)] ++ []) true)])) (((0 : Int) ≤ i ∧ i < (↑s.size : Int)) ∧ br (!decide ((↑(byteAt s i.toNat).toNat : Int) = (124 : Int))) (((0 : Int) ≤ i ∧ i < (↑s.size : Int)) ∧ br (!decide ((↑(byteAt s i.toNat).toNat : Int) = (62 : Int))) (K Exit.ret [Value.int IntKind.i64 v, Value.string s, Value.int IntKind.i64 i, Value.pointer (some (Addr.mk (0 : Nat) (0 : Nat) none)), Value.bool false] (Heap.mk (2 : Nat) [some (Blk.mk THd (6 : Nat) ([] ++ [Value.bool false, Value.int IntKind.i64 (0 : Int), Value.int IntKind.u8 (0 : Int), Value.int IntKind.i64 (0 : Int), Value.int IntKind.i64 (0 : Int), Value.int IntKind.i64 (0 : Int)] ++ []) true), some (Blk.mk (56 : Nat) (6 : Nat) ([] ++ [Value.bool false, Value.int IntKind.i64 (0 : Int), Value.int IntKind.u8 (0 : Int), Value.int IntKind.i64 (0 : Int), Value.int IntKind.i64 (0 : Int), Value.int IntKind.i64 (0 : Int)] ++ []) true)])) (((0 : Int) ≤ i ∧ i < (↑s.size : Int)) ∧ rng IntKind.i64 (i + (1 : Int)) ∧ ∃ (s_1 : ByteArray), ∃ (f : Bool), ∃ (i_1 : Int), ∃ (d : Int), ∃ (c : Int), ∃ (k : Nat), ∃ (m : Nat), ((2 : Nat) = (2 : Nat) ∧ In (2 : Nat) (block_begin.N0 s_1 f i_1 d c k m) [Value.string s, Value.int IntKind.i64 (i + (1 : Int)), Value.pointer (some (Addr.mk (1 : Nat) (0 : Nat) none)), Value.int IntKind.i64 (0 : Int)] (Heap.mk (2 : Nat) [hdB false (0 : Int) (0 : Int) (0 : Int) (0 : Int) (0 : Int), some (Blk.mk (56 : Nat) (6 : Nat) ([] ++ [Value.bool (decide ((↑(byteAt s i.toNat).toNat : Int) = (62 : Int)))] ++ [Value.int IntKind.i64 (0 : Int), Value.int IntKind.u8 (0 : Int), Value.int IntKind.i64 (0 : Int), Value.int IntKind.i64 (0 : Int), Value.int IntKind.i64 (0 : Int)]) true)]) ∧ s_1.size ≤ (1000000 : Nat) ∧ (0 : Int) ≤ i_1 ∧ i_1 ≤ (↑s_1.size : Int) ∧ m + k = (2 : Nat) ∧ (0 : Int) ≤ c ∧ c ≤ (255 : Int)) ∧ ∀ (x : Int), s_1.size ≤ (1000000 : Nat) ∧ (s_1.size ≤ (1000000 : Nat) ∧ (0 : Int) ≤ overI s_1 (sgnF s_1 k i_1 d c).fst ∧ overI s_1 (sgnF s_1 k i_1 d c).fst ≤ (1000000 : Int)) ∧ br (decide (endI v s_1 (overI s_1 (sgnF s_1 k i_1 d c).fst) = overI s_1 (sgnF s_1 k i_1 d c).fst)) (K Exit.ret [Value.int IntKind.i64 v, Value.string s_1, Value.int IntKind.i64 (overI s_1 (sgnF s_1 k i_1 d c).fst), Value.pointer (some (Addr.mk (0 : Nat) (0 : Nat) none)), Value.bool true] (Heap.mk (2 : Nat) [some (Blk.mk THd (6 : Nat) ([] ++ [Value.bool f, Value.int IntKind.i64 (sgnF s_1 k i_1 d c).snd.fst, Value.int IntKind.u8 (sgnF s_1 k i_1 d c).snd.snd, Value.int IntKind.i64 (overI s_1 (sgnF s_1 k i_1 d c).fst), Value.int IntKind.i64 (endI v s_1 (overI s_1 (sgnF s_1 k i_1 d c).fst)), Value.int IntKind.i64 (endI v s_1 (overI s_1 (sgnF s_1 k i_1 d c).fst) + brkI v s_1 (endI v s_1 (overI s_1 (sgnF s_1 k i_1 d c).fst)))] ++ []) true), some (Blk.mk THd (6 : Nat) ([Value.bool f, Value.int IntKind.i64 (sgnF s_1 k i_1 d c).snd.fst, Value.int IntKind.u8 (sgnF s_1 k i_1 d c).snd.snd] ++ [Value.int IntKind.i64 (overI s_1 (sgnF s_1 k i_1 d c).fst), Value.int IntKind.i64 (endI v s_1 (overI s_1 (sgnF s_1 k i_1 d c).fst)), Value.int IntKind.i64 (endI v s_1 (overI s_1 (sgnF s_1 k i_1 d c).fst) + brkI v s_1 (endI v s_1 (overI s_1 (sgnF s_1 k i_1 d c).fst)))] ++ []) true)])) (s_1.size ≤ (1000000 : Nat) ∧ K Exit.ret [Value.int IntKind.i64 v, Value.string s_1, Value.int IntKind.i64 (overI s_1 (sgnF s_1 k i_1 d c).fst), Value.pointer (some (Addr.mk (0 : Nat) (0 : Nat) none)), Value.bool (remI s_1 (overI s_1 (sgnF s_1 k i_1 d c).fst))] (Heap.mk (2 : Nat) [some (Blk.mk THd (6 : Nat) ([] ++ [Value.bool f, Value.int IntKind.i64 (sgnF s_1 k i_1 d c).snd.fst, Value.int IntKind.u8 (sgnF s_1 k i_1 d c).snd.snd, Value.int IntKind.i64 (overI s_1 (sgnF s_1 k i_1 d c).fst), Value.int IntKind.i64 (endI v s_1 (overI s_1 (sgnF s_1 k i_1 d c).fst)), Value.int IntKind.i64 (endI v s_1 (overI s_1 (sgnF s_1 k i_1 d c).fst) + brkI v s_1 (endI v s_1 (overI s_1 (sgnF s_1 k i_1 d c).fst)))] ++ []) true), some (Blk.mk THd (6 : Nat) ([Value.bool f, Value.int IntKind.i64 (sgnF s_1 k i_1 d c).snd.fst, Value.int IntKind.u8 (sgnF s_1 k i_1 d c).snd.snd] ++ [Value.int IntKind.i64 (overI s_1 (sgnF s_1 k i_1 d c).fst), Value.int IntKind.i64 (endI v s_1 (overI s_1 (sgnF s_1 k i_1 d c).fst)), Value.int IntKind.i64 (endI v s_1 (overI s_1 (sgnF s_1 k i_1 d c).fst) + brkI v s_1 (endI v s_1 (overI s_1 (sgnF s_1 k i_1 d c).fst)))] ++ []) true)])))) (((0 : Int) ≤ i ∧ i < (↑s.size : Int)) ∧ rng IntKind.i64 (i + (1 : Int)) ∧ ∃ (s_1 : ByteArray), ∃ (f : Bool), ∃ (i_1 : Int), ∃ (d : Int), ∃ (c : Int), ∃ (k : Nat), ∃ (m : Nat), ((2 : Nat) = (2 : Nat) ∧ In (2 : Nat) (block_begin.N0 s_1 f i_1 d c k m) [Value.string s, Value.int IntKind.i64 (i + (1 : Int)), Value.pointer (some (Addr.mk (1 : Nat) (0 : Nat) none)), Value.int IntKind.i64 (0 : Int)] (Heap.mk (2 : Nat) [hdB false (0 : Int) (0 : Int) (0 : Int) (0 : Int) (0 : Int), some (Blk.mk (56 : Nat) (6 : Nat) ([] ++ [Value.bool (decide ((↑(byteAt s i.toNat).toNat : Int) = (62 : Int)))] ++ [Value.int IntKind.i64 (0 : Int), Value.int IntKind.u8 (0 : Int), Value.int IntKind.i64 (0 : Int), Value.int IntKind.i64 (0 : Int), Value.int IntKind.i64 (0 : Int)]) true)]) ∧ s_1.size ≤ (1000000 : Nat) ∧ (0 : Int) ≤ i_1 ∧ i_1 ≤ (↑s_1.size : Int) ∧ m + k = (2 : Nat) ∧ (0 : Int) ≤ c ∧ c ≤ (255 : Int)) ∧ ∀ (x : Int), s_1.size ≤ (1000000 : Nat) ∧ (s_1.size ≤ (1000000 : Nat) ∧ (0 : Int) ≤ overI s_1 (sgnF s_1 k i_1 d c).fst ∧ overI s_1 (sgnF s_1 k i_1 d c).fst ≤ (1000000 : Int)) ∧ br (decide (endI v s_1 (overI s_1 (sgnF s_1 k i_1 d c).fst) = overI s_1 (sgnF s_1 k i_1 d c).fst)) (K Exit.ret [Value.int IntKind.i64 v, Value.string s_1, Value.int IntKind.i64 (overI s_1 (sgnF s_1 k i_1 d c).fst), Value.pointer (some (Addr.mk (0 : Nat) (0 : Nat) none)), Value.bool true] (Heap.mk (2 : Nat) [some (Blk.mk THd (6 : Nat) ([] ++ [Value.bool f, Value.int IntKind.i64 (sgnF s_1 k i_1 d c).snd.fst, Value.int IntKind.u8 (sgnF s_1 k i_1 d c).snd.snd, Value.int IntKind.i64 (overI s_1 (sgnF s_1 k i_1 d c).fst), Value.int IntKind.i64 (endI v s_1 (overI s_1 (sgnF s_1 k i_1 d c).fst)), Value.int IntKind.i64 (endI v s_1 (overI s_1 (sgnF s_1 k i_1 d c).fst) + brkI v s_1 (endI v s_1 (overI s_1 (sgnF s_1 k i_1 d c).fst)))] ++ []) true), some (Blk.mk THd (6 : Nat) ([Value.bool f, Value.int IntKind.i64 (sgnF s_1 k i_1 d c).snd.fst, Value.int IntKind.u8 (sgnF s_1 k i_1 d c).snd.snd] ++ [Value.int IntKind.i64 (overI s_1 (sgnF s_1 k i_1 d c).fst), Value.int IntKind.i64 (endI v s_1 (overI s_1 (sgnF s_1 k i_1 d c).fst)), Value.int IntKind.i64 (endI v s_1 (overI s_1 (sgnF s_1 k i_1 d c).fst) + brkI v s_1 (endI v s_1 (overI s_1 (sgnF s_1 k i_1 d c).fst)))] ++ []) true)])) (s_1.size ≤ (1000000 : Nat) ∧ K Exit.ret [Value.int IntKind.i64 v, Value.string s_1, Value.int IntKind.i64 (overI s_1 (sgnF s_1 k i_1 d c).fst), Value.pointer (some (Addr.mk (0 : Nat) (0 : Nat) none)), Value.bool (remI s_1 (overI s_1 (sgnF s_1 k i_1 d c).fst))] (Heap.mk (2 : Nat) [some (Blk.mk THd (6 : Nat) ([] ++ [Value.bool f, Value.int IntKind.i64 (sgnF s_1 k i_1 d c).snd.fst, Value.int IntKind.u8 (sgnF s_1 k i_1 d c).snd.snd, Value.int IntKind.i64 (overI s_1 (sgnF s_1 k i_1 d c).fst), Value.int IntKind.i64 (endI v s_1 (overI s_1 (sgnF s_1 k i_1 d c).fst)), Value.int IntKind.i64 (endI v s_1 (overI s_1 (sgnF s_1 k i_1 d c).fst) + brkI v s_1 (endI v s_1 (overI s_1 (sgnF s_1 k i_1 d c).fst)))] ++ []) true), some (Blk.mk THd (6 : Nat) ([Value.bool f, Value.int IntKind.i64 (sgnF s_1 k i_1 d c).snd.fst, Value.int IntKind.u8 (sgnF s_1 k i_1 d c).snd.snd] ++ [Value.int IntKind.i64 (overI s_1 (sgnF s_1 k i_1 d c).fst), Value.int IntKind.i64 (endI v s_1 (overI s_1 (sgnF s_1 k i_1 d c).fst)), Value.int IntKind.i64 (endI v s_1 (overI s_1 (sgnF s_1 k i_1 d c).fst) + brkI v s_1 (endI v s_1 (overI s_1 (sgnF s_1 k i_1 d c).fst)))] ++ []) true)])))))) := by kernel_rfl

theorem block_begin.lo1999 : LOk1 Tryd.prog block_begin.nt block_begin.sp1999 (.scope 1999 block_begin.l1999) := by
  refine scope_resM (σ := Unit) KA_ok KA_mono (extL_mono lt0_mono block_begin.spm0) (LS := block_begin.LS0) (fun _ => 0) (fun _ => .skip) (by simp only [block_begin.l1999, LOk, and_true, true_and]; (repeat' apply And.intro) <;> first | trivial | exact block_begin.lo0) rfl rfl block_begin.cs1999 rfl (fun _ => []) (fun _ _ => False) (fun _ => 0) (fun _ _ _ => True) (fun y h hh => hh.elim) ?_ (fun x E h K hE hi => hi.elim)
  rintro vs h K ⟨v, s, i, rfl, rfl, hs, hr⟩ E hE
  refine Eq.mpr (block_begin.te v s i E _ K) ?_
  have hno : i < 0 ∨ s.size ≤ i ∨ (((byteAt s i.toNat).toNat : Int) ≠ 124 ∧ ((byteAt s i.toNat).toNat : Int) ≠ 62) → ∀ b, K .ret [.int .i64 v, .string s, .int .i64 i, .pointer (some ⟨0, 0, none⟩), .bool false] (lit [hdB false 0 0 0 0 0, b]) := fun e b => by
    have e1 : bgI v s i = ⟨false, 0, 0, 0, 0, 0, false⟩ := by unfold bgI; rw [if_pos e]
    rw [e1] at hr
    exact hr i b
  refine br_intro (fun hb => hno (.inl (by simpa using hb)) _) (fun hb => br_intro (fun hc => hno (.inr (.inl (by simpa using hc))) _) (fun hc => ?_))
  simp only [decide_eq_false_iff_not] at hb hc
  have hi0 : (0 : Int) ≤ i ∧ i < s.size := ⟨by omega, by omega⟩
  have hyes : (((byteAt s i.toNat).toNat : Int) = 124 ∨ ((byteAt s i.toNat).toNat : Int) = 62) → bgI v s i = ⟨decide (((byteAt s i.toNat).toNat : Int) = 62), (sgnF s 2 (i + 1) 0 0).2.1, (sgnF s 2 (i + 1) 0 0).2.2, overI s (sgnF s 2 (i + 1) 0 0).1, endI v s (overI s (sgnF s 2 (i + 1) 0 0).1),
      endI v s (overI s (sgnF s 2 (i + 1) 0 0).1) + brkI v s (endI v s (overI s (sgnF s 2 (i + 1) 0 0).1)),
      decide (endI v s (overI s (sgnF s 2 (i + 1) 0 0).1) = overI s (sgnF s 2 (i + 1) 0 0).1) || remI s (overI s (sgnF s 2 (i + 1) 0 0).1)⟩ := fun e => by
    unfold bgI; rw [if_neg (by omega)]
  have hok := sgnF_ok s 2 (i + 1) 0 0 (by omega)
  have ho1 := overI_ge s (sgnF s 2 (i + 1) 0 0).1
  have ho2 := overI_le s (sgnF s 2 (i + 1) 0 0).1 hok.2
  have hrng : rng .i64 (i + 1) := by simp only [rng]; omega
  by_cases h124 : ((byteAt s i.toNat).toNat : Int) = 124
  · rw [hyes (.inl h124)] at hr
    simp only [decide_eq_true h124, Bool.not_true, br_f]
    refine ⟨hi0, hi0, hrng, s, decide (((byteAt s i.toNat).toNat : Int) = 62), i + 1, 0, 0, 2, 0, ⟨trivial, .inl ⟨rfl, rfl⟩, hs, by omega, by omega, by omega, by omega, by omega⟩, fun x => ⟨hs, ⟨hs, by omega, by omega⟩, br_intro (fun hq => ?_) (fun hq => ⟨hs, ?_⟩)⟩⟩
    · rw [hq] at hr; exact hr _ _
    · rw [hq] at hr; exact hr _ _
  · simp only [decide_eq_false h124, Bool.not_false, br_t]
    by_cases h62 : ((byteAt s i.toNat).toNat : Int) = 62
    · rw [hyes (.inr h62)] at hr
      simp only [decide_eq_true h62, Bool.not_true, br_f] at hr ⊢
      refine ⟨hi0, hi0, hi0, hrng, s, true, i + 1, 0, 0, 2, 0, ⟨trivial, .inl ⟨rfl, rfl⟩, hs, by omega, by omega, by omega, by omega, by omega⟩, fun x => ⟨hs, ⟨hs, by omega, by omega⟩, br_intro (fun hq => ?_) (fun hq => ⟨hs, ?_⟩)⟩⟩
      · rw [hq] at hr; exact hr _ _
      · rw [hq] at hr; exact hr _ _
    · simp only [decide_eq_false h62, Bool.not_false, br_t]
      exact ⟨hi0, hi0, hno (.inr (.inr ⟨h124, h62⟩)) _⟩

def block_begin.LS : LT := (extL (extL lt0 0 block_begin.sp0) 1999 block_begin.sp1999)
theorem block_begin.LS_mono : LMono block_begin.LS := (extL_mono (extL_mono lt0_mono block_begin.spm0) block_begin.spm1999)
def block_begin.s : List Value → Heap → VK → Prop
  | [.int .i64 v, .string s, .int .i64 i], h, K => (s.size ≤ 1000000) ∧ K (.tuple #[.agg #[.bool (bgI v s i).f, .int .i64 (bgI v s i).d, .int .u8 (bgI v s i).c, .int .i64 (bgI v s i).a, .int .i64 (bgI v s i).e, .int .i64 (bgI v s i).n], .bool (bgI v s i).ok]) h
  | _, _, _ => False
theorem block_begin.t (v : Int) (s : ByteArray) (i : Int) (K : VK) : mwp KA (block_begin.LS) block_begin.m (retK [.v 6 (some 6), .t 7] K) (argE 0 [.int .i64 v, .string s, .int .i64 i]) (lit []) = (∃ (v_1 : Int), ∃ (s_1 : ByteArray), ∃ (i_1 : Int), [Value.int IntKind.i64 v, Value.string s, Value.int IntKind.i64 i, Value.pointer (some (Addr.mk (0 : Nat) (0 : Nat) none)), Value.bool false] = [Value.int IntKind.i64 v_1, Value.string s_1, Value.int IntKind.i64 i_1, Value.pointer (some (Addr.mk (0 : Nat) (0 : Nat) none)), Value.bool false] ∧ Heap.mk (1 : Nat) [some (Blk.mk (56 : Nat) (6 : Nat) [Value.bool false, Value.int IntKind.i64 (0 : Int), Value.int IntKind.u8 (0 : Int), Value.int IntKind.i64 (0 : Int), Value.int IntKind.i64 (0 : Int), Value.int IntKind.i64 (0 : Int)] true)] = Heap.mk (1 : Nat) [hdB false (0 : Int) (0 : Int) (0 : Int) (0 : Int) (0 : Int)] ∧ s_1.size ≤ (1000000 : Nat) ∧ ∀ (i' : Int) (b : Option Blk), K (Value.tuple #[Value.agg #[Value.bool (bgI v_1 s_1 i_1).f, Value.int IntKind.i64 (bgI v_1 s_1 i_1).d, Value.int IntKind.u8 (bgI v_1 s_1 i_1).c, Value.int IntKind.i64 (bgI v_1 s_1 i_1).a, Value.int IntKind.i64 (bgI v_1 s_1 i_1).e, Value.int IntKind.i64 (bgI v_1 s_1 i_1).n], Value.bool (bgI v_1 s_1 i_1).ok]) (Heap.mk (2 : Nat) [hdB (bgI v_1 s_1 i_1).f (bgI v_1 s_1 i_1).d (bgI v_1 s_1 i_1).c (bgI v_1 s_1 i_1).a (bgI v_1 s_1 i_1).e (bgI v_1 s_1 i_1).n, b])) := by kernel_rfl
theorem block_begin.c (v : Int) (s : ByteArray) (i : Int) (h : Heap) (K : VK) (hp : s.size ≤ 1000000) (hh : K (.tuple #[.agg #[.bool (bgI v s i).f, .int .i64 (bgI v s i).d, .int .u8 (bgI v s i).c, .int .i64 (bgI v s i).a, .int .i64 (bgI v s i).e, .int .i64 (bgI v s i).n], .bool (bgI v s i).ok]) h) : ACalls Tryd.prog block_begin.n [.int .i64 v, .string s, .int .i64 i] h K := by
  refine ACalls.alone rfl (acalls_mk KA_ok block_begin.ok (LS := block_begin.LS) (by simp only [block_begin.m, LOk, and_true, true_and]; (repeat' apply And.intro) <;> first | trivial | exact block_begin.lo0 | exact block_begin.lo1999) (Nat.le_of_ble_eq_true rfl) (Eq.mpr (block_begin.t v s i (fun v _ => ck (cleanT v) (K v h))) ?_))
  exact ⟨v, s, i, rfl, rfl, hp, fun i' b => ck_iff.2 ⟨rfl, hh⟩⟩
theorem block_begin.sc : ∀ vs h K, block_begin.s vs h K → ACalls Tryd.prog block_begin.n vs h K := by
  intro vs h K hh; unfold block_begin.s at hh; split at hh
  · exact block_begin.c _ _ _ _ _ hh.1 hh.2
  · exact hh.elim
theorem block_begin.sm : SpecMono block_begin.s := by
  intro vs h K K' hk hh; unfold block_begin.s at hh ⊢; split at hh
  · exact ⟨hh.1, hk _ _ hh.2⟩
  · exact hh.elim
theorem block_begin.sd : SpecDet block_begin.s := by
  intro vs h K hh; unfold block_begin.s at hh; split at hh
  · exact ⟨_, hh.2, hh.1, rfl⟩
  · exact hh.elim

def spcI (s : ByteArray) (a e n : Int) : Bool := decide (indI s a e n = e - a)
def KB : CT := (extC (extC KA brk_Indent.n brk_Indent.s) block_begin.n block_begin.s)
theorem KB_ok : COk Tryd.prog KB := (extC_ok (extC_ok KA_ok brk_Indent.sc brk_Indent.sd) block_begin.sc block_begin.sd)
theorem KB_mono : CMono KB := (extC_mono (extC_mono KA_mono brk_Indent.sm) block_begin.sm)
def block_spaces.s : List Value → Heap → VK → Prop
  | [.string s, .agg ⟨[.int .i64 a, .int .i64 e, .int .i64 n]⟩], h, K => (s.size ≤ 1000000 ∧ -10000000 ≤ a ∧ a ≤ 10000000 ∧ -10000000 ≤ e ∧ e ≤ 10000000) ∧ K (.bool (spcI s a e n)) h
  | _, _, _ => False
theorem block_spaces.t (s : ByteArray) (a e n : Int) (K : VK) : mwp KB (lt0) block_spaces.m (retK [.t 4] K) (argE 0 [.string s, .agg #[.int .i64 a, .int .i64 e, .int .i64 n]]) (lit []) = (s.size ≤ (1000000 : Nat) ∧ rng IntKind.i64 (e - a) ∧ K (Value.bool (decide (indI s a e n = e - a))) (Heap.mk (1 : Nat) [some (Blk.mk (51 : Nat) (3 : Nat) [Value.int IntKind.i64 a, Value.int IntKind.i64 e, Value.int IntKind.i64 n] true)])) := by kernel_rfl
theorem block_spaces.c (s : ByteArray) (a e n : Int) (h : Heap) (K : VK) (hp : s.size ≤ 1000000 ∧ -10000000 ≤ a ∧ a ≤ 10000000 ∧ -10000000 ≤ e ∧ e ≤ 10000000) (hh : K (.bool (spcI s a e n)) h) : ACalls Tryd.prog block_spaces.n [.string s, .agg #[.int .i64 a, .int .i64 e, .int .i64 n]] h K := by
  refine ACalls.alone rfl (acalls_mk KB_ok block_spaces.ok (LS := lt0) (by simp only [block_spaces.m, LOk, and_true, true_and]) (Nat.le_of_ble_eq_true rfl) (Eq.mpr (block_spaces.t s a e n (fun v _ => ck (cleanT v) (K v h))) ?_))
  exact ⟨hp.1, by simp only [rng]; omega, ck_iff.2 ⟨rfl, hh⟩⟩
theorem block_spaces.sc : ∀ vs h K, block_spaces.s vs h K → ACalls Tryd.prog block_spaces.n vs h K := by
  intro vs h K hh; unfold block_spaces.s at hh; split at hh
  · exact block_spaces.c _ _ _ _ _ _ hh.1 hh.2
  · exact hh.elim
theorem block_spaces.sm : SpecMono block_spaces.s := by
  intro vs h K K' hk hh; unfold block_spaces.s at hh ⊢; split at hh
  · exact ⟨hh.1, hk _ _ hh.2⟩
  · exact hh.elim
theorem block_spaces.sd : SpecDet block_spaces.s := by
  intro vs h K hh; unfold block_spaces.s at hh; split at hh
  · exact ⟨_, hh.2, hh.1, rfl⟩
  · exact hh.elim

/-- The lines from a byte on. -/
def aftF (v : Int) (s : ByteArray) : Nat → Int → List Ln
  | 0, _ => []
  | k + 1, i => if s.size ≤ i then [] else ⟨i, endI v s i, endI v s i + brkI v s (endI v s i)⟩ :: aftF v s k (endI v s i + brkI v s (endI v s i))
def aftI (v : Int) (s : ByteArray) (i : Int) : List Ln := aftF v s (s.size + 1) i
def KC : CT := (extC KB block_spaces.n block_spaces.s)
theorem KC_ok : COk Tryd.prog KC := (extC_ok KB_ok block_spaces.sc block_spaces.sd)
theorem KC_mono : CMono KC := (extC_mono KB_mono block_spaces.sm)
theorem nxt_gt {v : Int} {s : ByteArray} {i : Int} (h0 : 0 ≤ i) (h : i < s.size) : i < endI v s i + brkI v s (endI v s i) := by
  have h1 := endI_ge v s i
  have h2 := brkI_nn v s (endI v s i)
  by_cases hb : 0 < brkI v s i
  · rw [endI_stop h0 (.inr hb)]; omega
  · have := endI_ge v s (i + 1)
    rw [endI_next h0 h hb] at this
    omega
def block_after.N0 (v : Int) (s : ByteArray) (l : List Ln) (i : Int) (k : Nat) (vs : List Value) (h : Heap) : Prop := vs = [.int .i64 v, .string s, .int .i64 i, .slice (some ⟨0, 0, none⟩) l.length l.length] ∧ h = lit [some ⟨51, 3, lnsC l, true⟩]
def block_after.sp0 : LSpec := ⟨block_after.cs0, block_after.ts0, fun vs h K => ∃ (v : Int) (s : ByteArray) (l : List Ln) (i : Int) (k : Nat), (h.n = 0 ∧ In 0 (block_after.N0 v s l i k) vs h ∧ (s.size ≤ 1000000 ∧ 0 ≤ i ∧ i ≤ s.size ∧ l.length ≤ i ∧ s.size - i < k)) ∧ (∀ i' : Int, K (.exit 0) [.int .i64 v, .string s, .int .i64 i', .slice (some ⟨0, 0, none⟩) (l ++ aftF v s k i).length (l ++ aftF v s k i).length] (lit [some ⟨51, 3, lnsC (l ++ aftF v s k i), true⟩]))⟩
theorem block_after.spm0 : LSpecMono block_after.sp0 := by
  rintro vs h K K' hk ⟨v, s, l, i, k, h3, h4⟩
  exact ⟨v, s, l, i, k, h3, fun i' => hk _ _ _ (h4 i')⟩
theorem block_after.t0 (v : Int) (s : ByteArray) (l : List Ln) (i : Int) (k : Nat) (E : Env) (N : List Value → Heap → Prop) (K : LK) : mwp KC (lt0) block_after.l0 (lK block_after.cs0 N K) (zipE block_after.cs0 [.int .i64 v, .string s, .int .i64 i, .slice (some ⟨0, 0, none⟩) l.length l.length] ++ E) (lit [some ⟨51, 3, lnsC l, true⟩]) = (br (decide (i < (↑s.size : Int))) ((s.size ≤ (1000000 : Nat) ∧ (0 : Int) ≤ i ∧ i ≤ (1000000 : Int)) ∧ (l.length + (1 : Nat) ≤ (1000000 : Nat) ∧ l.length * (3 : Nat) ≤ (lnsC l).length) ∧ N [Value.int IntKind.i64 v, Value.string s, Value.int IntKind.i64 (endI v s i + brkI v s (endI v s i)), Value.slice (some (Addr.mk (3 : Nat) (0 : Nat) none)) (l.length + (1 : Nat)) (l.length + (1 : Nat))] (Heap.mk (4 : Nat) [none, some (Blk.mk (51 : Nat) (3 : Nat) ([] ++ [Value.int IntKind.i64 i, Value.int IntKind.i64 (endI v s i), Value.int IntKind.i64 (endI v s i + brkI v s (endI v s i))] ++ []) true), some (Blk.mk (51 : Nat) (3 : Nat) [Value.int IntKind.i64 i, Value.int IntKind.i64 (endI v s i), Value.int IntKind.i64 (endI v s i + brkI v s (endI v s i))] true), some (Blk.mk (51 : Nat) (3 : Nat) (List.take (l.length * (3 : Nat)) (lnsC l) ++ [Value.int IntKind.i64 i, Value.int IntKind.i64 (endI v s i), Value.int IntKind.i64 (endI v s i + brkI v s (endI v s i))]) true)])) (K (Exit.exit (0 : Nat)) [Value.int IntKind.i64 v, Value.string s, Value.int IntKind.i64 i, Value.slice (some (Addr.mk (0 : Nat) (0 : Nat) none)) l.length l.length] (Heap.mk (1 : Nat) [some (Blk.mk (51 : TypeId) (3 : Nat) (lnsC l) true)]))) := by kernel_rfl
theorem block_after.lo0 : LOk1 Tryd.prog block_after.nt block_after.sp0 (.loop 0 block_after.l0) := by
  refine loop_resC (σ := Int × ByteArray × (List Ln) × Int × Nat) KC_ok KC_mono (lt0_mono) (LS := lt0) (by simp only [block_after.l0, LOk, and_true, true_and]) rfl rfl (fun ⟨v, s, l, i, k⟩ => [.int .i64 v, .string s, .int .i64 i, .slice (some ⟨0, 0, none⟩) l.length l.length]) (fun ⟨v, s, l, i, k⟩ => lit [some ⟨51, 3, lnsC l, true⟩]) (fun ⟨v, s, l, i, k⟩ => s.size ≤ 1000000 ∧ 0 ≤ i ∧ i ≤ s.size ∧ l.length ≤ i ∧ s.size - i < k) (fun ⟨v, s, l, i, k⟩ => k) 0 (fun ⟨v, s, l, i, k⟩ K => ∀ i' : Int, K (.exit 0) [.int .i64 v, .string s, .int .i64 i', .slice (some ⟨0, 0, none⟩) (l ++ aftF v s k i).length (l ++ aftF v s k i).length] (lit [some ⟨51, 3, lnsC (l ++ aftF v s k i), true⟩])) ?_ ?_
  · rintro vs h K ⟨v, s, l, i, k, ⟨h1, h2, h3⟩, h4⟩
    exact ⟨h1, ⟨v, s, l, i, k⟩, h2, h3, h4⟩
  rintro ⟨v, s, l, i, k⟩ E N K hE hp hN hK
  dsimp only at hp hN hK
  refine Eq.mpr (block_after.t0 v s l i k E N (fun x => In 0 (K x))) ?_
  obtain ⟨hs, h0, h1, h2, h3⟩ := hp
  obtain ⟨k, rfl⟩ : ∃ k', k = k' + 1 := ⟨k - 1, by omega⟩
  have hll := lnsC_len l
  rw [aftF] at hK
  refine br_intro (fun hb => ?_) (fun hb => ?_)
  · simp only [decide_eq_true_eq] at hb
    rw [if_neg (by omega)] at hK
    have he1 := endI_ge v s i
    have he2 := endI_le v (s := s) (i := i) h0 (by omega)
    have hb1 := brkI_nn v s (endI v s i)
    have hb2 := brkI_len v (s := s) (i := endI v s i) (by omega) he2
    have hgt : i < endI v s i + brkI v s (endI v s i) := nxt_gt h0 hb
    refine ⟨⟨hs, h0, by omega⟩, ⟨by omega, by omega⟩, ?_⟩
    refine hN (v, s, l ++ [⟨i, endI v s i, endI v s i + brkI v s (endI v s i)⟩], endI v s i + brkI v s (endI v s i), k) _ _ ⟨hs, by dsimp only; omega, by dsimp only; omega, by simp only [List.length_append, List.length_singleton]; omega, by dsimp only; omega⟩ (by dsimp only; omega) ?_ ?_
    · dsimp only at hK ⊢
      rw [List.append_assoc, List.singleton_append]
      exact hK
    · refine In.rows [some 3] ⟨⟨rfl, okF_all (lnsC_flat _), ?_⟩, trivial⟩ rfl rfl rfl ?_ ?_
      · show some _ = some _
        rw [map_ren_flat (lnsC_flat _), lnsC_app, List.take_of_length_le (by omega)]
        rfl
      · simp [renT, renA, ren]
      · simp [okT, okA, okF, flatV]
  · simp only [decide_eq_false_iff_not] at hb
    rw [if_pos (by omega), List.append_nil] at hK
    exact .inl (hK i)

def block_after.LS : LT := (extL lt0 0 block_after.sp0)
theorem block_after.LS_mono : LMono block_after.LS := (extL_mono lt0_mono block_after.spm0)
def block_after.s : List Value → Heap → VK → Prop
  | [.int .i64 v, .string s, .int .i64 i], h, K => (s.size ≤ 1000000 ∧ 0 ≤ i ∧ i ≤ s.size) ∧ K (renT (sh h.n) (.slice (some ⟨0, 0, none⟩) (aftI v s i).length (aftI v s i).length)) (addAll h (List.map (renB (sh h.n)) [⟨51, 3, lnsC (aftI v s i), true⟩]))
  | _, _, _ => False
theorem block_after.t (v : Int) (s : ByteArray) (i : Int) (K : VK) : mwp KC (block_after.LS) block_after.m (retK [.t 6] K) (argE 0 [.int .i64 v, .string s, .int .i64 i]) (lit []) = (∃ (v_1 : Int), ∃ (s_1 : ByteArray), ∃ (l : List Ln), ∃ (i_1 : Int), ∃ (k : Nat), ((0 : Nat) = (0 : Nat) ∧ In (0 : Nat) (block_after.N0 v_1 s_1 l i_1 k) [Value.int IntKind.i64 v, Value.string s, Value.int IntKind.i64 i, Value.slice none (0 : Nat) (0 : Nat)] (Heap.mk (0 : Nat) []) ∧ s_1.size ≤ (1000000 : Nat) ∧ (0 : Int) ≤ i_1 ∧ i_1 ≤ (↑s_1.size : Int) ∧ (↑l.length : Int) ≤ i_1 ∧ (↑s_1.size : Int) - i_1 < (↑k : Int)) ∧ ∀ (i' : Int), K (Value.slice (some (Addr.mk (0 : Nat) (0 : Nat) none)) (l ++ aftF v_1 s_1 k i_1).length (l ++ aftF v_1 s_1 k i_1).length) (Heap.mk (1 : Nat) [some (Blk.mk (51 : TypeId) (3 : Nat) (lnsC (l ++ aftF v_1 s_1 k i_1)) true)])) := by kernel_rfl
theorem block_after.c (v : Int) (s : ByteArray) (i : Int) (h : Heap) (K : VK) (hp : s.size ≤ 1000000 ∧ 0 ≤ i ∧ i ≤ s.size) (hh : K (renT (sh h.n) (.slice (some ⟨0, 0, none⟩) (aftI v s i).length (aftI v s i).length)) (addAll h (List.map (renB (sh h.n)) [⟨51, 3, lnsC (aftI v s i), true⟩]))) : ACalls Tryd.prog block_after.n [.int .i64 v, .string s, .int .i64 i] h K := by
  refine ACalls.fresh rfl (v0 := .slice (some ⟨0, 0, none⟩) (aftI v s i).length (aftI v s i).length) (L := [⟨51, 3, lnsC (aftI v s i), true⟩]) (by simp [okT, okA, okF, flatV]) (by simp [okF_all (lnsC_flat _)]) (acalls_mk KC_ok block_after.ok (LS := block_after.LS) (by simp only [block_after.m, LOk, and_true, true_and]; (repeat' apply And.intro) <;> first | trivial | exact block_after.lo0) (Nat.le_of_ble_eq_true rfl) (Eq.mpr (block_after.t v s i _) ?_)) hh
  refine ⟨v, s, [], i, s.size + 1, ⟨rfl, ?_, hp.1, hp.2.1, hp.2.2, by simp only [List.length_nil]; omega, by omega⟩, fun i' => ?_⟩
  · refine In.rows [none] ⟨rfl, trivial⟩ rfl rfl rfl ?_ ?_
    · simp [renT, renA, ren]
    · simp [okT, okA, okF, flatV]
  · rw [List.nil_append]
    exact .inl ⟨rfl, rfl⟩
theorem block_after.sc : ∀ vs h K, block_after.s vs h K → ACalls Tryd.prog block_after.n vs h K := by
  intro vs h K hh; unfold block_after.s at hh; split at hh
  · exact block_after.c _ _ _ _ _ hh.1 hh.2
  · exact hh.elim
theorem block_after.sm : SpecMono block_after.s := by
  intro vs h K K' hk hh; unfold block_after.s at hh ⊢; split at hh
  · exact ⟨hh.1, hk _ _ hh.2⟩
  · exact hh.elim
theorem block_after.sd : SpecDet block_after.s := by
  intro vs h K hh; unfold block_after.s at hh; split at hh
  · exact ⟨_, hh.2, hh.1, rfl⟩
  · exact hh.elim

end Go.Mini
