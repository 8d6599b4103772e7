/- Breaks, and scalars of UTF-8: what the program and the reference tell of them. Conditions: sizes. -/
import Derived.Test.YthllhoodbfnlaaaDoorBase
import Derived.Lib.Strings
namespace Go.Mini
open Go Go.Proofs
set_option maxRecDepth 100000
set_option linter.unusedVariables false
set_option linter.unusedSimpArgs false

/-- How many bytes a break has with which bytes begin. -/
def brkL (old : Bool) : List UInt8 → Nat
  | [] => 0
  | c :: l =>
    if c = 13 then (if l.head? = some 10 then 2 else 1)
    else if c = 10 then 1
    else if old = true ∧ c = 194 ∧ l.head? = some 133 then 2
    else if old = true ∧ c = 226 ∧ (l.take 2 = [128, 168] ∨ l.take 2 = [128, 169]) then 3
    else 0
theorem brk_cases_old (c : UInt8) (l : List UInt8) : (brkL true (c :: l) : Nat) = if Lib.hasPrefix (c :: l) [226, 128, 168] = true ∨ Lib.hasPrefix (c :: l) [226, 128, 169] = true then 3 else if Lib.hasPrefix (c :: l) [194, 133] = true ∨ Lib.hasPrefix (c :: l) [13, 10] = true then 2 else if c = 13 ∨ c = 10 then 1 else 0 := by
  unfold brkL Lib.hasPrefix
  rcases l with _ | ⟨d, _ | ⟨e, l⟩⟩
  · by_cases h1 : c = 13 <;> by_cases h2 : c = 10 <;> simp_all
  · by_cases h1 : c = 13 <;> by_cases h2 : c = 10 <;> by_cases h3 : c = 194 <;> simp_all <;> grind
  · by_cases h1 : c = 13 <;> by_cases h2 : c = 10 <;> by_cases h3 : c = 194 <;> by_cases h4 : c = 226 <;> simp_all <;> grind
theorem brk_cases_new (c : UInt8) (l : List UInt8) : (brkL false (c :: l) : Nat) = if Lib.hasPrefix (c :: l) [13, 10] = true then 2 else if c = 13 ∨ c = 10 then 1 else 0 := by
  unfold brkL Lib.hasPrefix
  rcases l with _ | ⟨d, l⟩
  · by_cases h1 : c = 13 <;> by_cases h2 : c = 10 <;> simp_all
  · by_cases h1 : c = 13 <;> by_cases h2 : c = 10 <;> simp_all <;> grind
/-- What so many bytes more make of a number; none: they aren't there, or aren't of that kind. -/
def contL : Nat → Nat → List UInt8 → Option Nat
  | 0, c, _ => some c
  | _ + 1, _, [] => none
  | m + 1, c, b :: l => if 128 ≤ b.toNat ∧ b.toNat < 192 then contL m (c * 64 + (b.toNat - 128)) l else none

def scalarN (c : Nat) : Bool := decide (c ≤ 1114111 ∧ (c < 55296 ∨ 57343 < c))

/-- A scalar of n bytes, not less than least. -/
def finL (n least : Nat) (o : Option Nat) : Nat × Nat :=
  match o with
  | none => (0, 0)
  | some c => if c < least then (0, 0) else if scalarN c = true then (c, n) else (0, 0)

/-- The scalar with which bytes begin, and how many bytes it has. -/
def decL : List UInt8 → Nat × Nat
  | [] => (0, 0)
  | b :: l =>
    let c := b.toNat
    if c < 128 then (c, 1)
    else if 192 ≤ c ∧ c < 224 then finL 2 128 (contL 1 (c - 192) l)
    else if 224 ≤ c ∧ c < 240 then finL 3 2048 (contL 2 (c - 224) l)
    else if 240 ≤ c ∧ c < 248 then finL 4 65536 (contL 3 (c - 240) l)
    else (0, 0)

theorem contL_short : ∀ (m c : Nat) (l : List UInt8), l.length < m → contL m c l = none
  | 0, _, _, h => by simp at h
  | m + 1, _, [], _ => rfl
  | m + 1, c, b :: l, h => by
    unfold contL
    split
    · exact contL_short m _ l (by simp at h; omega)
    · rfl

theorem nat_eq8 {b : UInt8} {k : Nat} (hk : k < 256) : b = UInt8.ofNat k ↔ b.toNat = k := by
  constructor
  · rintro rfl
    simp
    omega
  · intro h
    apply UInt8.toNat_inj.1
    simp
    omega

theorem contL1 (c : Nat) (l : List UInt8) : contL 1 c l = match l with | [] => none | b :: _ => if 128 ≤ b.toNat ∧ b.toNat < 192 then some (c * 64 + (b.toNat - 128)) else none := by
  cases l <;> simp [contL]

theorem decL_1 (b : UInt8) (l : List UInt8) (h : b.toNat < 128) : decL (b :: l) = (b.toNat, 1) := if_pos h
theorem decL_2 (b : UInt8) (l : List UInt8) (h : 192 ≤ b.toNat ∧ b.toNat < 224) : decL (b :: l) = finL 2 128 (contL 1 (b.toNat - 192) l) := (if_neg (by omega)).trans (if_pos h)
theorem decL_3 (b : UInt8) (l : List UInt8) (h : 224 ≤ b.toNat ∧ b.toNat < 240) : decL (b :: l) = finL 3 2048 (contL 2 (b.toNat - 224) l) := (if_neg (by omega)).trans ((if_neg (by omega)).trans (if_pos h))
theorem decL_4 (b : UInt8) (l : List UInt8) (h : 240 ≤ b.toNat ∧ b.toNat < 248) : decL (b :: l) = finL 4 65536 (contL 3 (b.toNat - 240) l) := (if_neg (by omega)).trans ((if_neg (by omega)).trans ((if_neg (by omega)).trans (if_pos h)))
theorem decL_0 (b : UInt8) (l : List UInt8) (h : ¬ b.toNat < 128 ∧ ¬ (192 ≤ b.toNat ∧ b.toNat < 248)) : decL (b :: l) = (0, 0) := (if_neg (by omega)).trans ((if_neg (by omega)).trans ((if_neg (by omega)).trans (if_neg (by omega))))

/-- Bytes behind whose scalar there is a break of the old version. -/
def brkD (q : Nat × Nat) : Nat := if q.1 = 133 ∨ q.1 = 8232 ∨ q.1 = 8233 then q.2 else 0

theorem brkD_fin (n least c : Nat) : brkD (finL n least (some c)) = if c < least ∨ scalarN c = false then 0 else brkD (c, n) := by
  unfold finL
  dsimp only
  by_cases h1 : c < least
  · rw [if_pos h1, if_pos (.inl h1)]; rfl
  · rw [if_neg h1]
    cases h2 : scalarN c
    · rw [if_neg (by decide), if_pos (.inr rfl)]; rfl
    · rw [if_pos rfl, if_neg (by simp [h1])]

/-- Where neither of the short breaks begins: by the scalar that begins there. -/
theorem dec_break (b : UInt8) (l : List UInt8) (h13 : b ≠ 13) (h10 : b ≠ 10) : brkL true (b :: l) = brkD (decL (b :: l)) := by
  have e194 : b = 194 ↔ b.toNat = 194 := nat_eq8 (k := 194) (by decide)
  have e226 : b = 226 ↔ b.toNat = 226 := nat_eq8 (k := 226) (by decide)
  have hb := b.toNat_lt
  have f133 : ∀ d : UInt8, d = 133 ↔ d.toNat = 133 := fun d => nat_eq8 (k := 133) (by decide)
  have f128 : ∀ d : UInt8, d = 128 ↔ d.toNat = 128 := fun d => nat_eq8 (k := 128) (by decide)
  have f168 : ∀ d : UInt8, d = 168 ↔ d.toNat = 168 := fun d => nat_eq8 (k := 168) (by decide)
  have f169 : ∀ d : UInt8, d = 169 ↔ d.toNat = 169 := fun d => nat_eq8 (k := 169) (by decide)
  unfold brkL
  dsimp only
  rw [if_neg h13, if_neg h10]
  simp only [true_and, e194, e226]
  by_cases h1 : b.toNat < 128
  · rw [decL_1 b l h1, if_neg (by omega), if_neg (by omega)]
    unfold brkD
    rw [if_neg (by dsimp only; omega)]
  by_cases h2 : 192 ≤ b.toNat ∧ b.toNat < 224
  · rw [decL_2 b l h2, if_neg (show ¬ (b.toNat = 226 ∧ _) from fun h => by omega), contL1]
    rcases l with _ | ⟨d, l⟩
    · rw [if_neg (by simp)]; rfl
    · have hd := d.toNat_lt
      dsimp only
      simp only [List.head?_cons, Option.some.injEq, f133]
      by_cases h3 : 128 ≤ d.toNat ∧ d.toNat < 192
      · rw [if_pos h3, brkD_fin]
        by_cases h5 : b.toNat = 194 ∧ d.toNat = 133
        · rw [if_pos h5, show (b.toNat - 192) * 64 + (d.toNat - 128) = 133 from by omega]
          rfl
        · rw [if_neg h5]
          split
          · rfl
          · unfold brkD
            rw [if_neg (by dsimp only; omega)]
      · rw [if_neg h3, if_neg (by omega)]
        rfl
  by_cases h3 : 224 ≤ b.toNat ∧ b.toNat < 240
  · rw [decL_3 b l h3, if_neg (show ¬ (b.toNat = 194 ∧ _) from fun h => by omega)]
    rcases l with _ | ⟨d, _ | ⟨e, l⟩⟩
    · rw [if_neg (by simp)]; rfl
    · rw [if_neg (by simp), contL_short _ _ _ (by simp)]
      rfl
    · have hd := d.toNat_lt
      have he := e.toNat_lt
      simp only [List.take_succ_cons, List.take_zero, List.cons.injEq, and_true, f128, f168, f169]
      simp only [contL]
      by_cases h4 : 128 ≤ d.toNat ∧ d.toNat < 192
      · rw [if_pos h4]
        by_cases h5 : 128 ≤ e.toNat ∧ e.toNat < 192
        · rw [if_pos h5, brkD_fin]
          by_cases h7 : b.toNat = 226 ∧ (d.toNat = 128 ∧ e.toNat = 168 ∨ d.toNat = 128 ∧ e.toNat = 169)
          · rw [if_pos h7]
            rcases h7.2 with h8 | h8
            · rw [show ((b.toNat - 224) * 64 + (d.toNat - 128)) * 64 + (e.toNat - 128) = 8232 from by omega]
              rfl
            · rw [show ((b.toNat - 224) * 64 + (d.toNat - 128)) * 64 + (e.toNat - 128) = 8233 from by omega]
              rfl
          · rw [if_neg h7]
            split
            · rfl
            · rename_i h9
              unfold brkD
              rw [if_neg (by dsimp only; omega)]
        · rw [if_neg h5, if_neg (by omega)]
          rfl
      · rw [if_neg h4, if_neg (by omega)]
        rfl
  rw [if_neg (by omega), if_neg (by omega)]
  by_cases h4 : 240 ≤ b.toNat ∧ b.toNat < 248
  · rw [decL_4 b l h4]
    cases contL 3 (b.toNat - 240) l with
    | none => rfl
    | some c =>
      rw [brkD_fin]
      split
      · rfl
      · rename_i h9
        unfold brkD
        rw [if_neg (by dsimp only; omega)]
  · rw [decL_0 b l ⟨h1, by omega⟩]
    rfl


def brkI (v : Int) (s : ByteArray) (i : Int) : Int := if 0 ≤ i then (brkL (decide (v = 11)) ((lst s).drop i.toNat) : Nat) else 0
theorem hpL {s p : ByteArray} : hp s p = Lib.hasPrefix (lst s) (lst p) := rfl

def SB : CT := (extC (extC SA strings_HasPrefix.n strings_HasPrefix.s) rows_Over.n rows_Over.s)
theorem SB_ok : COk Tryd.prog SB := (extC_ok (extC_ok SA_ok strings_HasPrefix.sc strings_HasPrefix.sd) rows_Over.sc rows_Over.sd)
theorem SB_mono : CMono SB := (extC_mono (extC_mono SA_mono strings_HasPrefix.sm) rows_Over.sm)

def brk_Break.s : List Value → Heap → VK → Prop
  | [.int .i64 v, .string s, .int .i64 i], h, K => K (.int .i64 (brkI v s i)) h
  | _, _, _ => False
theorem brk_Break.t (v : Int) (s : ByteArray) (i : Int) (h : Heap) (K : VK) : mwp SB (lt0) brk_Break.m (retK [.t 6] K) (argE 0 [.int .i64 v, .string s, .int .i64 i]) h = (br (decide (i < (0 : Int))) (K (Value.int IntKind.i64 (0 : Int)) h) (br (decide ((↑s.size : Int) ≤ i)) (K (Value.int IntKind.i64 (0 : Int)) h) (((0 : Int) ≤ i ∧ i ≤ (↑s.size : Int)) ∧ br (decide (v = (11 : Int))) (br (hp (s.extract i.toNat s.size) (ByteArray.mk #[(226 : UInt8), (128 : UInt8), (168 : UInt8)])) (rng IntKind.i64 ((0 : Int) + (1 : Int)) ∧ rng IntKind.i64 ((0 : Int) + (1 : Int) + (1 : Int)) ∧ rng IntKind.i64 ((0 : Int) + (1 : Int) + (1 : Int) + (1 : Int)) ∧ K (Value.int IntKind.i64 ((0 : Int) + (1 : Int) + (1 : Int) + (1 : Int))) h) (br (hp (s.extract i.toNat s.size) (ByteArray.mk #[(226 : UInt8), (128 : UInt8), (169 : UInt8)])) (rng IntKind.i64 ((0 : Int) + (1 : Int)) ∧ rng IntKind.i64 ((0 : Int) + (1 : Int) + (1 : Int)) ∧ rng IntKind.i64 ((0 : Int) + (1 : Int) + (1 : Int) + (1 : Int)) ∧ K (Value.int IntKind.i64 ((0 : Int) + (1 : Int) + (1 : Int) + (1 : Int))) h) (br (decide (v = (11 : Int))) (br (hp (s.extract i.toNat s.size) (ByteArray.mk #[(194 : UInt8), (133 : UInt8)])) (br (hp (s.extract i.toNat s.size) (ByteArray.mk #[(194 : UInt8), (133 : UInt8)])) (rng IntKind.i64 ((0 : Int) + (1 : Int)) ∧ rng IntKind.i64 ((0 : Int) + (1 : Int) + (1 : Int)) ∧ K (Value.int IntKind.i64 ((0 : Int) + (1 : Int) + (1 : Int))) h) (((0 : Int) ≤ (0 : Int) ∧ (0 : Int) < (↑(s.extract i.toNat s.size).size : Int)) ∧ br (decide ((↑(byteAt (s.extract i.toNat s.size) (Int.toNat (0 : Int))).toNat : Int) = (13 : Int))) (br (decide ((↑(byteAt (s.extract i.toNat s.size) (Int.toNat (0 : Int))).toNat : Int) = (13 : Int))) (rng IntKind.i64 ((0 : Int) + (1 : Int)) ∧ K (Value.int IntKind.i64 ((0 : Int) + (1 : Int))) h) (K (Value.int IntKind.i64 (0 : Int)) h)) (((0 : Int) ≤ (0 : Int) ∧ (0 : Int) < (↑(s.extract i.toNat s.size).size : Int)) ∧ br (decide ((↑(byteAt (s.extract i.toNat s.size) (Int.toNat (0 : Int))).toNat : Int) = (10 : Int))) (rng IntKind.i64 ((0 : Int) + (1 : Int)) ∧ K (Value.int IntKind.i64 ((0 : Int) + (1 : Int))) h) (K (Value.int IntKind.i64 (0 : Int)) h)))) (br (hp (s.extract i.toNat s.size) (ByteArray.mk #[(13 : UInt8), (10 : UInt8)])) (rng IntKind.i64 ((0 : Int) + (1 : Int)) ∧ rng IntKind.i64 ((0 : Int) + (1 : Int) + (1 : Int)) ∧ K (Value.int IntKind.i64 ((0 : Int) + (1 : Int) + (1 : Int))) h) (((0 : Int) ≤ (0 : Int) ∧ (0 : Int) < (↑(s.extract i.toNat s.size).size : Int)) ∧ br (decide ((↑(byteAt (s.extract i.toNat s.size) (Int.toNat (0 : Int))).toNat : Int) = (13 : Int))) (br (decide ((↑(byteAt (s.extract i.toNat s.size) (Int.toNat (0 : Int))).toNat : Int) = (13 : Int))) (rng IntKind.i64 ((0 : Int) + (1 : Int)) ∧ K (Value.int IntKind.i64 ((0 : Int) + (1 : Int))) h) (K (Value.int IntKind.i64 (0 : Int)) h)) (((0 : Int) ≤ (0 : Int) ∧ (0 : Int) < (↑(s.extract i.toNat s.size).size : Int)) ∧ br (decide ((↑(byteAt (s.extract i.toNat s.size) (Int.toNat (0 : Int))).toNat : Int) = (10 : Int))) (rng IntKind.i64 ((0 : Int) + (1 : Int)) ∧ K (Value.int IntKind.i64 ((0 : Int) + (1 : Int))) h) (K (Value.int IntKind.i64 (0 : Int)) h))))) (br (hp (s.extract i.toNat s.size) (ByteArray.mk #[(13 : UInt8), (10 : UInt8)])) (rng IntKind.i64 ((0 : Int) + (1 : Int)) ∧ rng IntKind.i64 ((0 : Int) + (1 : Int) + (1 : Int)) ∧ K (Value.int IntKind.i64 ((0 : Int) + (1 : Int) + (1 : Int))) h) (((0 : Int) ≤ (0 : Int) ∧ (0 : Int) < (↑(s.extract i.toNat s.size).size : Int)) ∧ br (decide ((↑(byteAt (s.extract i.toNat s.size) (Int.toNat (0 : Int))).toNat : Int) = (13 : Int))) (br (decide ((↑(byteAt (s.extract i.toNat s.size) (Int.toNat (0 : Int))).toNat : Int) = (13 : Int))) (rng IntKind.i64 ((0 : Int) + (1 : Int)) ∧ K (Value.int IntKind.i64 ((0 : Int) + (1 : Int))) h) (K (Value.int IntKind.i64 (0 : Int)) h)) (((0 : Int) ≤ (0 : Int) ∧ (0 : Int) < (↑(s.extract i.toNat s.size).size : Int)) ∧ br (decide ((↑(byteAt (s.extract i.toNat s.size) (Int.toNat (0 : Int))).toNat : Int) = (10 : Int))) (rng IntKind.i64 ((0 : Int) + (1 : Int)) ∧ K (Value.int IntKind.i64 ((0 : Int) + (1 : Int))) h) (K (Value.int IntKind.i64 (0 : Int)) h))))))) (br (decide (v = (11 : Int))) (br (hp (s.extract i.toNat s.size) (ByteArray.mk #[(194 : UInt8), (133 : UInt8)])) (br (hp (s.extract i.toNat s.size) (ByteArray.mk #[(194 : UInt8), (133 : UInt8)])) (rng IntKind.i64 ((0 : Int) + (1 : Int)) ∧ rng IntKind.i64 ((0 : Int) + (1 : Int) + (1 : Int)) ∧ K (Value.int IntKind.i64 ((0 : Int) + (1 : Int) + (1 : Int))) h) (((0 : Int) ≤ (0 : Int) ∧ (0 : Int) < (↑(s.extract i.toNat s.size).size : Int)) ∧ br (decide ((↑(byteAt (s.extract i.toNat s.size) (Int.toNat (0 : Int))).toNat : Int) = (13 : Int))) (br (decide ((↑(byteAt (s.extract i.toNat s.size) (Int.toNat (0 : Int))).toNat : Int) = (13 : Int))) (rng IntKind.i64 ((0 : Int) + (1 : Int)) ∧ K (Value.int IntKind.i64 ((0 : Int) + (1 : Int))) h) (K (Value.int IntKind.i64 (0 : Int)) h)) (((0 : Int) ≤ (0 : Int) ∧ (0 : Int) < (↑(s.extract i.toNat s.size).size : Int)) ∧ br (decide ((↑(byteAt (s.extract i.toNat s.size) (Int.toNat (0 : Int))).toNat : Int) = (10 : Int))) (rng IntKind.i64 ((0 : Int) + (1 : Int)) ∧ K (Value.int IntKind.i64 ((0 : Int) + (1 : Int))) h) (K (Value.int IntKind.i64 (0 : Int)) h)))) (br (hp (s.extract i.toNat s.size) (ByteArray.mk #[(13 : UInt8), (10 : UInt8)])) (rng IntKind.i64 ((0 : Int) + (1 : Int)) ∧ rng IntKind.i64 ((0 : Int) + (1 : Int) + (1 : Int)) ∧ K (Value.int IntKind.i64 ((0 : Int) + (1 : Int) + (1 : Int))) h) (((0 : Int) ≤ (0 : Int) ∧ (0 : Int) < (↑(s.extract i.toNat s.size).size : Int)) ∧ br (decide ((↑(byteAt (s.extract i.toNat s.size) (Int.toNat (0 : Int))).toNat : Int) = (13 : Int))) (br (decide ((↑(byteAt (s.extract i.toNat s.size) (Int.toNat (0 : Int))).toNat : Int) = (13 : Int))) (rng IntKind.i64 ((0 : Int) + (1 : Int)) ∧ K (Value.int IntKind.i64 ((0 : Int) + (1 : Int))) h) (K (Value.int IntKind.i64 (0 : Int)) h)) (((0 : Int) ≤ (0 : Int) ∧ (0 : Int) < (↑(s.extract i.toNat s.size).size : Int)) ∧ br (decide ((↑(byteAt (s.extract i.toNat s.size) (Int.toNat (0 : Int))).toNat : Int) = (10 : Int))) (rng IntKind.i64 ((0 : Int) + (1 : Int)) ∧ K (Value.int IntKind.i64 ((0 : Int) + (1 : Int))) h) (K (Value.int IntKind.i64 (0 : Int)) h))))) (br (hp (s.extract i.toNat s.size) (ByteArray.mk #[(13 : UInt8), (10 : UInt8)])) (rng IntKind.i64 ((0 : Int) + (1 : Int)) ∧ rng IntKind.i64 ((0 : Int) + (1 : Int) + (1 : Int)) ∧ K (Value.int IntKind.i64 ((0 : Int) + (1 : Int) + (1 : Int))) h) (((0 : Int) ≤ (0 : Int) ∧ (0 : Int) < (↑(s.extract i.toNat s.size).size : Int)) ∧ br (decide ((↑(byteAt (s.extract i.toNat s.size) (Int.toNat (0 : Int))).toNat : Int) = (13 : Int))) (br (decide ((↑(byteAt (s.extract i.toNat s.size) (Int.toNat (0 : Int))).toNat : Int) = (13 : Int))) (rng IntKind.i64 ((0 : Int) + (1 : Int)) ∧ K (Value.int IntKind.i64 ((0 : Int) + (1 : Int))) h) (K (Value.int IntKind.i64 (0 : Int)) h)) (((0 : Int) ≤ (0 : Int) ∧ (0 : Int) < (↑(s.extract i.toNat s.size).size : Int)) ∧ br (decide ((↑(byteAt (s.extract i.toNat s.size) (Int.toNat (0 : Int))).toNat : Int) = (10 : Int))) (rng IntKind.i64 ((0 : Int) + (1 : Int)) ∧ K (Value.int IntKind.i64 ((0 : Int) + (1 : Int))) h) (K (Value.int IntKind.i64 (0 : Int)) h)))))))) := by kernel_rfl
theorem brk_Break.c (v : Int) (s : ByteArray) (i : Int) (h : Heap) (K : VK) (hh : K (.int .i64 (brkI v s i)) h) : ACalls Tryd.prog brk_Break.n [.int .i64 v, .string s, .int .i64 i] h K := by
  refine acalls_mk SB_ok brk_Break.ok (LS := lt0) (by simp only [brk_Break.m, LOk, and_true, true_and]) (Nat.le_of_ble_eq_true rfl) (Eq.mpr (brk_Break.t v s i h K) ?_)
  refine br_intro (fun hb => ?_) (fun h0 => ?_)
  · simp only [decide_eq_true_eq] at hb
    exact kint hh (if_neg (by omega))
  simp only [decide_eq_false_iff_not] at h0
  refine br_intro (fun hb => ?_) (fun h1 => ?_)
  · simp only [decide_eq_true_eq] at hb
    refine kint hh ?_
    unfold brkI
    rw [if_pos (by omega), drop_ge (by omega)]
    rfl
  simp only [decide_eq_false_iff_not] at h1
  refine ⟨by omega, ?_⟩
  have hn : i.toNat < s.size := by omega
  have hl : lst (s.extract i.toNat s.size) = (lst s).drop i.toNat := by
    rw [lst_ext]
    exact List.take_of_length_le (by rw [List.length_drop, Array.length_toList]; exact Nat.le_refl _)
  have hz : 0 < (s.extract i.toNat s.size).size := by
    have : (lst (s.extract i.toNat s.size)).length = (s.extract i.toNat s.size).size := Array.length_toList
    rw [← this, hl, drop_lt hn]; simp
  unfold brkI at hh
  rw [if_pos (by omega)] at hh
  generalize s.extract i.toNat s.size = t at hl hz ⊢
  rw [← hl] at hh
  obtain ⟨c, l, hcl⟩ : ∃ c l, lst t = c :: l := ⟨_, _, by rw [hl]; exact drop_lt hn⟩
  have hc : byteAt t (Int.toNat 0) = c := by
    show (lst t).getD 0 0 = c
    rw [hcl]; rfl
  rw [hcl] at hh
  simp only [hpL, hc, hcl]
  have h13 : (c = 13) ↔ ((c.toNat : Int) = 13) := by constructor; (intro h; subst h; rfl); (intro h; apply UInt8.toNat_inj.1; show c.toNat = 13; omega)
  have h10 : (c = 10) ↔ ((c.toNat : Int) = 10) := by constructor; (intro h; subst h; rfl); (intro h; apply UInt8.toNat_inj.1; show c.toNat = 10; omega)
  have hr1 : rng .i64 (0 + 1) := by simp only [rng]; omega
  have hr2 : rng .i64 (0 + 1 + 1) := by simp only [rng]; omega
  have hr3 : rng .i64 (0 + 1 + 1 + 1) := by simp only [rng]; omega
  have hz0 : (0 : Int) ≤ 0 ∧ (0 : Int) < (t.size : Int) := by omega
  by_cases hv : v = 11
  · rw [show decide (v = 11) = true from decide_eq_true hv] at hh ⊢
    rw [brk_cases_old] at hh
    simp only [h13, h10] at hh
    repeat' (first | with_reducible refine br_intro (fun hb => ?_) (fun hb => ?_) | refine And.intro (by first | assumption) ?_)
    all_goals (try simp only [decide_eq_true_eq, decide_eq_false_iff_not] at *)
    all_goals (refine kint hh ?_; simp_all [lst])
  · rw [show decide (v = 11) = false from decide_eq_false hv] at hh ⊢
    rw [brk_cases_new] at hh
    simp only [h13, h10] at hh
    repeat' (first | with_reducible refine br_intro (fun hb => ?_) (fun hb => ?_) | refine And.intro (by first | assumption) ?_)
    all_goals (try simp only [decide_eq_true_eq, decide_eq_false_iff_not] at *)
    all_goals first | contradiction | (refine kint hh ?_; simp_all [lst])
theorem brk_Break.sc : ∀ vs h K, brk_Break.s vs h K → ACalls Tryd.prog brk_Break.n vs h K := by
  intro vs h K hh; unfold brk_Break.s at hh; split at hh
  · exact brk_Break.c _ _ _ _ _ hh
  · exact hh.elim
theorem brk_Break.sm : SpecMono brk_Break.s := by
  intro vs h K K' hk hh; unfold brk_Break.s at hh ⊢; split at hh
  · exact hk _ _ hh
  · exact hh.elim
theorem brk_Break.sd : SpecDet brk_Break.s := by
  intro vs h K hh; unfold brk_Break.s at hh; split at hh
  · exact ⟨_, hh, rfl⟩
  · exact hh.elim

def targumref1_IsScalar.s : List Value → Heap → VK → Prop
  | [.int .i64 c], h, K => (0 ≤ c) ∧ K (.bool (scalarN c.toNat)) h
  | _, _, _ => False
theorem targumref1_IsScalar.t (c : Int) (h : Heap) (K : VK) : mwp S0 (lt0) targumref1_IsScalar.m (retK [.t 2] K) (argE 0 [.int .i64 c]) h = (br (decide ((0 : Int) ≤ c)) (br (decide (c ≤ (1114111 : Int))) (br (decide (c < (55296 : Int))) (K (Value.bool true) h) (K (Value.bool (decide ((57343 : Int) < c))) h)) (K (Value.bool false) h)) (K (Value.bool false) h)) := by kernel_rfl
theorem targumref1_IsScalar.c (c : Int) (h : Heap) (K : VK) (hp : 0 ≤ c) (hh : K (.bool (scalarN c.toNat)) h) : ACalls Tryd.prog targumref1_IsScalar.n [.int .i64 c] h K := by
  refine acalls_mk S0_ok targumref1_IsScalar.ok (LS := lt0) (by simp only [targumref1_IsScalar.m, LOk, and_true, true_and]) (Nat.le_of_ble_eq_true rfl) (Eq.mpr (targumref1_IsScalar.t c h K) ?_)
  unfold scalarN at hh
  repeat' (first | with_reducible refine br_intro (fun hb => ?_) (fun hb => ?_))
  all_goals (simp only [decide_eq_true_eq, decide_eq_false_iff_not] at *)
  all_goals (refine kbool hh ?_; rw [Bool.eq_iff_iff]; simp; omega)
theorem targumref1_IsScalar.sc : ∀ vs h K, targumref1_IsScalar.s vs h K → ACalls Tryd.prog targumref1_IsScalar.n vs h K := by
  intro vs h K hh; unfold targumref1_IsScalar.s at hh; split at hh
  · exact targumref1_IsScalar.c _ _ _ hh.1 hh.2
  · exact hh.elim
theorem targumref1_IsScalar.sm : SpecMono targumref1_IsScalar.s := by
  intro vs h K K' hk hh; unfold targumref1_IsScalar.s at hh ⊢; split at hh
  · exact ⟨hh.1, hk _ _ hh.2⟩
  · exact hh.elim
theorem targumref1_IsScalar.sd : SpecDet targumref1_IsScalar.s := by
  intro vs h K hh; unfold targumref1_IsScalar.s at hh; split at hh
  · exact ⟨_, hh.2, hh.1, rfl⟩
  · exact hh.elim


/-- What a number's bytes to come are asked to give. -/
def NextRes (s : ByteArray) (i c n j : Int) (K : LK) (h : Heap) : Prop :=
  (∀ c' : Nat, contL (n - j).toNat c.toNat ((lst s).drop (i + j).toNat) = some c' → K (.exit 1) [.string s, .int .i64 i, .int .i64 0, .int .i64 0, .int .i64 c', .int .i64 n, .int .i64 n] h) ∧
  (contL (n - j).toNat c.toNat ((lst s).drop (i + j).toNat) = none → ∀ c' j' : Int, K .ret [.string s, .int .i64 i, .int .i64 0, .int .i64 0, .int .i64 c', .int .i64 n, .int .i64 j'] h)

def targumref1_Next.sp1 : LSpec := ⟨targumref1_Next.cs1, targumref1_Next.ts1, fun vs h K => match vs with
  | [.string s, .int .i64 i, .int .i64 0, .int .i64 0, .int .i64 c, .int .i64 n, .int .i64 j] => (s.size ≤ 1000000 ∧ 0 ≤ i ∧ i < s.size ∧ 1 ≤ j ∧ j ≤ n ∧ n ≤ 4 ∧ 0 ≤ c ∧ c < 64 ^ j.toNat) ∧ (NextRes s i c n j K h)
  | _ => False⟩
theorem targumref1_Next.spm1 : LSpecMono targumref1_Next.sp1 := by
  intro vs h K K' hk hh; unfold targumref1_Next.sp1 at hh ⊢; dsimp only at hh ⊢; split at hh
  · refine ⟨hh.1, ?_⟩; exact ⟨fun c' e => hk _ _ _ (hh.2.1 c' e), fun e c' j' => hk _ _ _ (hh.2.2 e c' j')⟩
  · exact hh.elim
theorem targumref1_Next.t1 (s : ByteArray) (i : Int) (c : Int) (n : Int) (j : Int) (h : Heap) (E : Env) (N : List Value → Heap → Prop) (K : LK) : mwp S0 (lt0) targumref1_Next.l1 (lK targumref1_Next.cs1 N K) (zipE targumref1_Next.cs1 [.string s, .int .i64 i, .int .i64 0, .int .i64 0, .int .i64 c, .int .i64 n, .int .i64 j] ++ E) h = (br (decide (j < n)) (rng IntKind.i64 ((↑s.size : Int) - i) ∧ br (decide ((↑s.size : Int) - i < n)) (K Exit.ret [Value.string s, Value.int IntKind.i64 i, Value.int IntKind.i64 (0 : Int), Value.int IntKind.i64 (0 : Int), Value.int IntKind.i64 c, Value.int IntKind.i64 n, Value.int IntKind.i64 j] h) (rng IntKind.i64 (i + j) ∧ ((0 : Int) ≤ i + j ∧ i + j < (↑s.size : Int)) ∧ br (decide ((↑(byteAt s (i + j).toNat).toNat : Int) < (128 : Int))) (K Exit.ret [Value.string s, Value.int IntKind.i64 i, Value.int IntKind.i64 (0 : Int), Value.int IntKind.i64 (0 : Int), Value.int IntKind.i64 c, Value.int IntKind.i64 n, Value.int IntKind.i64 j] h) (rng IntKind.i64 (i + j) ∧ ((0 : Int) ≤ i + j ∧ i + j < (↑s.size : Int)) ∧ br (decide ((192 : Int) ≤ (↑(byteAt s (i + j).toNat).toNat : Int))) (K Exit.ret [Value.string s, Value.int IntKind.i64 i, Value.int IntKind.i64 (0 : Int), Value.int IntKind.i64 (0 : Int), Value.int IntKind.i64 c, Value.int IntKind.i64 n, Value.int IntKind.i64 j] h) (rng IntKind.i64 (c * (64 : Int)) ∧ rng IntKind.i64 (i + j) ∧ ((0 : Int) ≤ i + j ∧ i + j < (↑s.size : Int)) ∧ rng IntKind.i64 (↑(byteAt s (i + j).toNat).toNat : Int) ∧ rng IntKind.i64 (c * (64 : Int) + (↑(byteAt s (i + j).toNat).toNat : Int)) ∧ rng IntKind.i64 (c * (64 : Int) + (↑(byteAt s (i + j).toNat).toNat : Int) - (128 : Int)) ∧ rng IntKind.i64 (j + (1 : Int)) ∧ N [Value.string s, Value.int IntKind.i64 i, Value.int IntKind.i64 (0 : Int), Value.int IntKind.i64 (0 : Int), Value.int IntKind.i64 (c * (64 : Int) + (↑(byteAt s (i + j).toNat).toNat : Int) - (128 : Int)), Value.int IntKind.i64 n, Value.int IntKind.i64 (j + (1 : Int))] h)))) (K (Exit.exit (1 : Nat)) [Value.string s, Value.int IntKind.i64 i, Value.int IntKind.i64 (0 : Int), Value.int IntKind.i64 (0 : Int), Value.int IntKind.i64 c, Value.int IntKind.i64 n, Value.int IntKind.i64 j] h)) := by kernel_rfl
theorem targumref1_Next.lo1 : LOk1 Tryd.prog targumref1_Next.nt targumref1_Next.sp1 (.loop 1 targumref1_Next.l1) := by
  refine loop_res (σ := ByteArray × Int × Int × Int × Int) S0_ok S0_mono (lt0_mono) (LS := lt0) (by simp only [targumref1_Next.l1, LOk, and_true, true_and]) rfl rfl (fun ⟨s, i, c, n, j⟩ => [.string s, .int .i64 i, .int .i64 0, .int .i64 0, .int .i64 c, .int .i64 n, .int .i64 j]) (fun ⟨s, i, c, n, j⟩ h => s.size ≤ 1000000 ∧ 0 ≤ i ∧ i < s.size ∧ 1 ≤ j ∧ j ≤ n ∧ n ≤ 4 ∧ 0 ≤ c ∧ c < 64 ^ j.toNat) (fun ⟨s, i, c, n, j⟩ => (n - j).toNat) (fun ⟨s, i, c, n, j⟩ K h => NextRes s i c n j K h) ?_ ?_
  · intro vs h K hh; unfold targumref1_Next.sp1 at hh; dsimp only at hh; split at hh
    · exact ⟨(_, _, _, _, _), rfl, hh⟩
    · exact hh.elim
  rintro ⟨s, i, c, n, j⟩ E h N K hE hp hN hK
  dsimp only at hp hN hK
  refine Eq.mpr (targumref1_Next.t1 s i c n j h E N K) ?_
  obtain ⟨hs, h1, h2, h3, h4, h5, h6, h7⟩ := hp
  have hc4 : (64 : Int) ^ j.toNat ≤ 64 ^ 4 := by
    have : (64 : Nat) ^ j.toNat ≤ 64 ^ 4 := Nat.pow_le_pow_right (by decide) (by omega)
    exact_mod_cast this
  have hc5 : (64 : Int) ^ 4 = 16777216 := by decide
  refine br_intro (fun hb => ?_) (fun hb => ?_)
  · simp only [decide_eq_true_eq] at hb
    have hne : (n - j).toNat = (n - (j + 1)).toNat + 1 := by omega
    have bad : contL (n - j).toNat c.toNat ((lst s).drop (i + j).toNat) = none → K .ret [.string s, .int .i64 i, .int .i64 0, .int .i64 0, .int .i64 c, .int .i64 n, .int .i64 j] h := fun e => hK.2 e c j
    refine ⟨by simp only [rng]; omega, br_intro (fun hb1 => ?_) (fun hb1 => ?_)⟩
    · simp only [decide_eq_true_eq] at hb1
      exact bad (contL_short _ _ _ (by rw [List.length_drop, Array.length_toList]; have : s.data.size = s.size := rfl; omega))
    simp only [decide_eq_false_iff_not] at hb1
    have hij : (i + j).toNat < s.size := by omega
    rw [hne, drop_lt hij, contL] at bad
    have hbt := (byteAt s (i + j).toNat).toNat_lt
    refine ⟨by simp only [rng]; omega, by omega, br_intro (fun hb2 => ?_) (fun hb2 => ?_)⟩
    · simp only [decide_eq_true_eq] at hb2
      exact bad (if_neg (by omega))
    simp only [decide_eq_false_iff_not] at hb2
    refine ⟨by simp only [rng]; omega, by omega, br_intro (fun hb3 => ?_) (fun hb3 => ?_)⟩
    · simp only [decide_eq_true_eq] at hb3
      exact bad (if_neg (by omega))
    simp only [decide_eq_false_iff_not] at hb3
    refine ⟨by simp only [rng]; omega, by simp only [rng]; omega, by omega, by simp only [rng]; omega, by simp only [rng]; omega, by simp only [rng]; omega, by simp only [rng]; omega, ?_⟩
    refine hN (s, i, c * 64 + ((byteAt s (i + j).toNat).toNat : Int) - 128, n, j + 1) h ?_ (by dsimp only; omega) ?_
    · dsimp only
      refine ⟨hs, h1, h2, by omega, by omega, h5, by omega, ?_⟩
      rw [show (j + 1).toNat = j.toNat + 1 from by omega, Int.pow_succ]
      omega
    · dsimp only [NextRes]
      unfold NextRes at hK
      rw [hne, drop_lt hij, contL, if_pos (by omega), show (i + j).toNat + 1 = (i + (j + 1)).toNat from by omega, show c.toNat * 64 + ((byteAt s (i + j).toNat).toNat - 128) = (c * 64 + ((byteAt s (i + j).toNat).toNat : Int) - 128).toNat from by omega] at hK
      exact hK
  · simp only [decide_eq_false_iff_not] at hb
    obtain rfl : j = n := by omega
    have := hK.1 c.toNat (by rw [show (j - j).toNat = 0 from by omega]; rfl)
    rwa [Int.toNat_of_nonneg h6] at this

def targumref1_Next.LS : LT := (extL lt0 1 targumref1_Next.sp1)
theorem targumref1_Next.LS_mono : LMono targumref1_Next.LS := (extL_mono lt0_mono targumref1_Next.spm1)
def SC : CT := (extC (extC SB brk_Break.n brk_Break.s) targumref1_IsScalar.n targumref1_IsScalar.s)
theorem SC_ok : COk Tryd.prog SC := (extC_ok (extC_ok SB_ok brk_Break.sc brk_Break.sd) targumref1_IsScalar.sc targumref1_IsScalar.sd)
theorem SC_mono : CMono SC := (extC_mono (extC_mono SB_mono brk_Break.sm) targumref1_IsScalar.sm)

def nextI (s : ByteArray) (i : Int) : Nat × Nat := if 0 ≤ i then decL ((lst s).drop i.toNat) else (0, 0)

def targumref1_Next.s : List Value → Heap → VK → Prop
  | [.string s, .int .i64 i], h, K => (s.size ≤ 1000000) ∧ K (.tuple #[.int .i64 (nextI s i).1, .int .i64 (nextI s i).2]) h
  | _, _, _ => False
theorem targumref1_Next.t (s : ByteArray) (i : Int) (h : Heap) (K : VK) : mwp SC (targumref1_Next.LS) targumref1_Next.m (retK [.t 4, .t 5] K) (argE 0 [.string s, .int .i64 i]) h = (br (decide (i < (0 : Int))) (K (Value.tuple #[Value.int IntKind.i64 (0 : Int), Value.int IntKind.i64 (0 : Int)]) h) (br (decide ((↑s.size : Int) ≤ i)) (K (Value.tuple #[Value.int IntKind.i64 (0 : Int), Value.int IntKind.i64 (0 : Int)]) h) (((0 : Int) ≤ i ∧ i < (↑s.size : Int)) ∧ rng IntKind.i64 (↑(byteAt s i.toNat).toNat : Int) ∧ br (decide ((↑(byteAt s i.toNat).toNat : Int) < (128 : Int))) (K (Value.tuple #[Value.int IntKind.i64 (↑(byteAt s i.toNat).toNat : Int), Value.int IntKind.i64 (1 : Int)]) h) (br (decide ((192 : Int) ≤ (↑(byteAt s i.toNat).toNat : Int))) (br (decide ((↑(byteAt s i.toNat).toNat : Int) < (224 : Int))) (rng IntKind.i64 ((↑(byteAt s i.toNat).toNat : Int) - (192 : Int)) ∧ (s.size ≤ (1000000 : Nat) ∧ (0 : Int) ≤ i ∧ i < (↑s.size : Int) ∧ (1 : Int) ≤ (1 : Int) ∧ (1 : Int) ≤ (2 : Int) ∧ (2 : Int) ≤ (4 : Int) ∧ (0 : Int) ≤ (↑(byteAt s i.toNat).toNat : Int) - (192 : Int) ∧ (↑(byteAt s i.toNat).toNat : Int) - (192 : Int) < (64 : Int) ^ Int.toNat (1 : Int)) ∧ (∀ (c' : Nat), contL ((2 : Int) - (1 : Int)).toNat ((↑(byteAt s i.toNat).toNat : Int) - (192 : Int)).toNat (List.drop (i + (1 : Int)).toNat (lst s)) = some c' → br (decide ((↑c' : Int) < (128 : Int))) (K (Value.tuple #[Value.int IntKind.i64 (0 : Int), Value.int IntKind.i64 (0 : Int)]) h) ((0 : Int) ≤ (↑c' : Int) ∧ br (!scalarN (↑c' : Int).toNat) (K (Value.tuple #[Value.int IntKind.i64 (0 : Int), Value.int IntKind.i64 (0 : Int)]) h) (K (Value.tuple #[Value.int IntKind.i64 (↑c' : Int), Value.int IntKind.i64 (2 : Int)]) h))) ∧ (contL ((2 : Int) - (1 : Int)).toNat ((↑(byteAt s i.toNat).toNat : Int) - (192 : Int)).toNat (List.drop (i + (1 : Int)).toNat (lst s)) = none → ∀ (c' j' : Int), K (Value.tuple #[Value.int IntKind.i64 (0 : Int), Value.int IntKind.i64 (0 : Int)]) h)) (br (decide ((224 : Int) ≤ (↑(byteAt s i.toNat).toNat : Int))) (br (decide ((↑(byteAt s i.toNat).toNat : Int) < (240 : Int))) (rng IntKind.i64 ((↑(byteAt s i.toNat).toNat : Int) - (224 : Int)) ∧ (s.size ≤ (1000000 : Nat) ∧ (0 : Int) ≤ i ∧ i < (↑s.size : Int) ∧ (1 : Int) ≤ (1 : Int) ∧ (1 : Int) ≤ (3 : Int) ∧ (3 : Int) ≤ (4 : Int) ∧ (0 : Int) ≤ (↑(byteAt s i.toNat).toNat : Int) - (224 : Int) ∧ (↑(byteAt s i.toNat).toNat : Int) - (224 : Int) < (64 : Int) ^ Int.toNat (1 : Int)) ∧ (∀ (c' : Nat), contL ((3 : Int) - (1 : Int)).toNat ((↑(byteAt s i.toNat).toNat : Int) - (224 : Int)).toNat (List.drop (i + (1 : Int)).toNat (lst s)) = some c' → br (decide ((↑c' : Int) < (2048 : Int))) (K (Value.tuple #[Value.int IntKind.i64 (0 : Int), Value.int IntKind.i64 (0 : Int)]) h) ((0 : Int) ≤ (↑c' : Int) ∧ br (!scalarN (↑c' : Int).toNat) (K (Value.tuple #[Value.int IntKind.i64 (0 : Int), Value.int IntKind.i64 (0 : Int)]) h) (K (Value.tuple #[Value.int IntKind.i64 (↑c' : Int), Value.int IntKind.i64 (3 : Int)]) h))) ∧ (contL ((3 : Int) - (1 : Int)).toNat ((↑(byteAt s i.toNat).toNat : Int) - (224 : Int)).toNat (List.drop (i + (1 : Int)).toNat (lst s)) = none → ∀ (c' j' : Int), K (Value.tuple #[Value.int IntKind.i64 (0 : Int), Value.int IntKind.i64 (0 : Int)]) h)) (br (decide ((240 : Int) ≤ (↑(byteAt s i.toNat).toNat : Int))) (br (decide ((↑(byteAt s i.toNat).toNat : Int) < (248 : Int))) (rng IntKind.i64 ((↑(byteAt s i.toNat).toNat : Int) - (240 : Int)) ∧ (s.size ≤ (1000000 : Nat) ∧ (0 : Int) ≤ i ∧ i < (↑s.size : Int) ∧ (1 : Int) ≤ (1 : Int) ∧ (1 : Int) ≤ (4 : Int) ∧ (4 : Int) ≤ (4 : Int) ∧ (0 : Int) ≤ (↑(byteAt s i.toNat).toNat : Int) - (240 : Int) ∧ (↑(byteAt s i.toNat).toNat : Int) - (240 : Int) < (64 : Int) ^ Int.toNat (1 : Int)) ∧ (∀ (c' : Nat), contL ((4 : Int) - (1 : Int)).toNat ((↑(byteAt s i.toNat).toNat : Int) - (240 : Int)).toNat (List.drop (i + (1 : Int)).toNat (lst s)) = some c' → br (decide ((↑c' : Int) < (65536 : Int))) (K (Value.tuple #[Value.int IntKind.i64 (0 : Int), Value.int IntKind.i64 (0 : Int)]) h) ((0 : Int) ≤ (↑c' : Int) ∧ br (!scalarN (↑c' : Int).toNat) (K (Value.tuple #[Value.int IntKind.i64 (0 : Int), Value.int IntKind.i64 (0 : Int)]) h) (K (Value.tuple #[Value.int IntKind.i64 (↑c' : Int), Value.int IntKind.i64 (4 : Int)]) h))) ∧ (contL ((4 : Int) - (1 : Int)).toNat ((↑(byteAt s i.toNat).toNat : Int) - (240 : Int)).toNat (List.drop (i + (1 : Int)).toNat (lst s)) = none → ∀ (c' j' : Int), K (Value.tuple #[Value.int IntKind.i64 (0 : Int), Value.int IntKind.i64 (0 : Int)]) h)) (K (Value.tuple #[Value.int IntKind.i64 (0 : Int), Value.int IntKind.i64 (0 : Int)]) h)) (K (Value.tuple #[Value.int IntKind.i64 (0 : Int), Value.int IntKind.i64 (0 : Int)]) h))) (br (decide ((240 : Int) ≤ (↑(byteAt s i.toNat).toNat : Int))) (br (decide ((↑(byteAt s i.toNat).toNat : Int) < (248 : Int))) (rng IntKind.i64 ((↑(byteAt s i.toNat).toNat : Int) - (240 : Int)) ∧ (s.size ≤ (1000000 : Nat) ∧ (0 : Int) ≤ i ∧ i < (↑s.size : Int) ∧ (1 : Int) ≤ (1 : Int) ∧ (1 : Int) ≤ (4 : Int) ∧ (4 : Int) ≤ (4 : Int) ∧ (0 : Int) ≤ (↑(byteAt s i.toNat).toNat : Int) - (240 : Int) ∧ (↑(byteAt s i.toNat).toNat : Int) - (240 : Int) < (64 : Int) ^ Int.toNat (1 : Int)) ∧ (∀ (c' : Nat), contL ((4 : Int) - (1 : Int)).toNat ((↑(byteAt s i.toNat).toNat : Int) - (240 : Int)).toNat (List.drop (i + (1 : Int)).toNat (lst s)) = some c' → br (decide ((↑c' : Int) < (65536 : Int))) (K (Value.tuple #[Value.int IntKind.i64 (0 : Int), Value.int IntKind.i64 (0 : Int)]) h) ((0 : Int) ≤ (↑c' : Int) ∧ br (!scalarN (↑c' : Int).toNat) (K (Value.tuple #[Value.int IntKind.i64 (0 : Int), Value.int IntKind.i64 (0 : Int)]) h) (K (Value.tuple #[Value.int IntKind.i64 (↑c' : Int), Value.int IntKind.i64 (4 : Int)]) h))) ∧ (contL ((4 : Int) - (1 : Int)).toNat ((↑(byteAt s i.toNat).toNat : Int) - (240 : Int)).toNat (List.drop (i + (1 : Int)).toNat (lst s)) = none → ∀ (c' j' : Int), K (Value.tuple #[Value.int IntKind.i64 (0 : Int), Value.int IntKind.i64 (0 : Int)]) h)) (K (Value.tuple #[Value.int IntKind.i64 (0 : Int), Value.int IntKind.i64 (0 : Int)]) h)) (K (Value.tuple #[Value.int IntKind.i64 (0 : Int), Value.int IntKind.i64 (0 : Int)]) h)))) (br (decide ((224 : Int) ≤ (↑(byteAt s i.toNat).toNat : Int))) (br (decide ((↑(byteAt s i.toNat).toNat : Int) < (240 : Int))) (rng IntKind.i64 ((↑(byteAt s i.toNat).toNat : Int) - (224 : Int)) ∧ (s.size ≤ (1000000 : Nat) ∧ (0 : Int) ≤ i ∧ i < (↑s.size : Int) ∧ (1 : Int) ≤ (1 : Int) ∧ (1 : Int) ≤ (3 : Int) ∧ (3 : Int) ≤ (4 : Int) ∧ (0 : Int) ≤ (↑(byteAt s i.toNat).toNat : Int) - (224 : Int) ∧ (↑(byteAt s i.toNat).toNat : Int) - (224 : Int) < (64 : Int) ^ Int.toNat (1 : Int)) ∧ (∀ (c' : Nat), contL ((3 : Int) - (1 : Int)).toNat ((↑(byteAt s i.toNat).toNat : Int) - (224 : Int)).toNat (List.drop (i + (1 : Int)).toNat (lst s)) = some c' → br (decide ((↑c' : Int) < (2048 : Int))) (K (Value.tuple #[Value.int IntKind.i64 (0 : Int), Value.int IntKind.i64 (0 : Int)]) h) ((0 : Int) ≤ (↑c' : Int) ∧ br (!scalarN (↑c' : Int).toNat) (K (Value.tuple #[Value.int IntKind.i64 (0 : Int), Value.int IntKind.i64 (0 : Int)]) h) (K (Value.tuple #[Value.int IntKind.i64 (↑c' : Int), Value.int IntKind.i64 (3 : Int)]) h))) ∧ (contL ((3 : Int) - (1 : Int)).toNat ((↑(byteAt s i.toNat).toNat : Int) - (224 : Int)).toNat (List.drop (i + (1 : Int)).toNat (lst s)) = none → ∀ (c' j' : Int), K (Value.tuple #[Value.int IntKind.i64 (0 : Int), Value.int IntKind.i64 (0 : Int)]) h)) (br (decide ((240 : Int) ≤ (↑(byteAt s i.toNat).toNat : Int))) (br (decide ((↑(byteAt s i.toNat).toNat : Int) < (248 : Int))) (rng IntKind.i64 ((↑(byteAt s i.toNat).toNat : Int) - (240 : Int)) ∧ (s.size ≤ (1000000 : Nat) ∧ (0 : Int) ≤ i ∧ i < (↑s.size : Int) ∧ (1 : Int) ≤ (1 : Int) ∧ (1 : Int) ≤ (4 : Int) ∧ (4 : Int) ≤ (4 : Int) ∧ (0 : Int) ≤ (↑(byteAt s i.toNat).toNat : Int) - (240 : Int) ∧ (↑(byteAt s i.toNat).toNat : Int) - (240 : Int) < (64 : Int) ^ Int.toNat (1 : Int)) ∧ (∀ (c' : Nat), contL ((4 : Int) - (1 : Int)).toNat ((↑(byteAt s i.toNat).toNat : Int) - (240 : Int)).toNat (List.drop (i + (1 : Int)).toNat (lst s)) = some c' → br (decide ((↑c' : Int) < (65536 : Int))) (K (Value.tuple #[Value.int IntKind.i64 (0 : Int), Value.int IntKind.i64 (0 : Int)]) h) ((0 : Int) ≤ (↑c' : Int) ∧ br (!scalarN (↑c' : Int).toNat) (K (Value.tuple #[Value.int IntKind.i64 (0 : Int), Value.int IntKind.i64 (0 : Int)]) h) (K (Value.tuple #[Value.int IntKind.i64 (↑c' : Int), Value.int IntKind.i64 (4 : Int)]) h))) ∧ (contL ((4 : Int) - (1 : Int)).toNat ((↑(byteAt s i.toNat).toNat : Int) - (240 : Int)).toNat (List.drop (i + (1 : Int)).toNat (lst s)) = none → ∀ (c' j' : Int), K (Value.tuple #[Value.int IntKind.i64 (0 : Int), Value.int IntKind.i64 (0 : Int)]) h)) (K (Value.tuple #[Value.int IntKind.i64 (0 : Int), Value.int IntKind.i64 (0 : Int)]) h)) (K (Value.tuple #[Value.int IntKind.i64 (0 : Int), Value.int IntKind.i64 (0 : Int)]) h))) (br (decide ((240 : Int) ≤ (↑(byteAt s i.toNat).toNat : Int))) (br (decide ((↑(byteAt s i.toNat).toNat : Int) < (248 : Int))) (rng IntKind.i64 ((↑(byteAt s i.toNat).toNat : Int) - (240 : Int)) ∧ (s.size ≤ (1000000 : Nat) ∧ (0 : Int) ≤ i ∧ i < (↑s.size : Int) ∧ (1 : Int) ≤ (1 : Int) ∧ (1 : Int) ≤ (4 : Int) ∧ (4 : Int) ≤ (4 : Int) ∧ (0 : Int) ≤ (↑(byteAt s i.toNat).toNat : Int) - (240 : Int) ∧ (↑(byteAt s i.toNat).toNat : Int) - (240 : Int) < (64 : Int) ^ Int.toNat (1 : Int)) ∧ (∀ (c' : Nat), contL ((4 : Int) - (1 : Int)).toNat ((↑(byteAt s i.toNat).toNat : Int) - (240 : Int)).toNat (List.drop (i + (1 : Int)).toNat (lst s)) = some c' → br (decide ((↑c' : Int) < (65536 : Int))) (K (Value.tuple #[Value.int IntKind.i64 (0 : Int), Value.int IntKind.i64 (0 : Int)]) h) ((0 : Int) ≤ (↑c' : Int) ∧ br (!scalarN (↑c' : Int).toNat) (K (Value.tuple #[Value.int IntKind.i64 (0 : Int), Value.int IntKind.i64 (0 : Int)]) h) (K (Value.tuple #[Value.int IntKind.i64 (↑c' : Int), Value.int IntKind.i64 (4 : Int)]) h))) ∧ (contL ((4 : Int) - (1 : Int)).toNat ((↑(byteAt s i.toNat).toNat : Int) - (240 : Int)).toNat (List.drop (i + (1 : Int)).toNat (lst s)) = none → ∀ (c' j' : Int), K (Value.tuple #[Value.int IntKind.i64 (0 : Int), Value.int IntKind.i64 (0 : Int)]) h)) (K (Value.tuple #[Value.int IntKind.i64 (0 : Int), Value.int IntKind.i64 (0 : Int)]) h)) (K (Value.tuple #[Value.int IntKind.i64 (0 : Int), Value.int IntKind.i64 (0 : Int)]) h))))))) := by kernel_rfl
theorem targumref1_Next.c (s : ByteArray) (i : Int) (h : Heap) (K : VK) (hp : s.size ≤ 1000000) (hh : K (.tuple #[.int .i64 (nextI s i).1, .int .i64 (nextI s i).2]) h) : ACalls Tryd.prog targumref1_Next.n [.string s, .int .i64 i] h K := by
  refine acalls_mk SC_ok targumref1_Next.ok (LS := targumref1_Next.LS) (by simp only [targumref1_Next.m, LOk, and_true, true_and]; (repeat' apply And.intro) <;> first | trivial | exact targumref1_Next.lo1) (Nat.le_of_ble_eq_true rfl) (Eq.mpr (targumref1_Next.t s i h K) ?_)
  refine br_intro (fun hb => ?_) (fun h0 => ?_)
  · simp only [decide_eq_true_eq] at hb
    have e : nextI s i = (0, 0) := if_neg (by omega)
    rw [e] at hh
    exact hh
  simp only [decide_eq_false_iff_not] at h0
  refine br_intro (fun hb => ?_) (fun h1 => ?_)
  · simp only [decide_eq_true_eq] at hb
    have e : nextI s i = (0, 0) := by unfold nextI; rw [if_pos (by omega), drop_ge (by omega)]; rfl
    rw [e] at hh
    exact hh
  simp only [decide_eq_false_iff_not] at h1
  have hn : i.toNat < s.size := by omega
  have hbt := (byteAt s i.toNat).toNat_lt
  have e0 : nextI s i = decL (byteAt s i.toNat :: (lst s).drop (i + 1).toNat) := by
    unfold nextI
    rw [if_pos (by omega), drop_lt hn, show i.toNat + 1 = (i + 1).toNat from by omega]
  generalize byteAt s i.toNat = b at *
  generalize (lst s).drop (i + 1).toNat = l at *
  refine ⟨by omega, by simp only [rng]; omega, ?_⟩
  refine br_intro (fun hb => ?_) (fun h2 => ?_)
  · simp only [decide_eq_true_eq] at hb
    rw [e0, decL_1 _ _ (by omega)] at hh
    exact hh
  simp only [decide_eq_false_iff_not] at h2
  have key : ∀ (m least c0 : Nat), nextI s i = finL m least (contL (m - 1) c0 l) →
      (∀ c' : Nat, contL (m - 1) c0 l = some c' → br (decide ((c' : Int) < least)) (K (.tuple #[.int .i64 0, .int .i64 0]) h)
        (0 ≤ (c' : Int) ∧ br (!scalarN (c' : Int).toNat) (K (.tuple #[.int .i64 0, .int .i64 0]) h) (K (.tuple #[.int .i64 (c' : Int), .int .i64 m]) h))) ∧
      (contL (m - 1) c0 l = none → ∀ (c' j' : Int), K (.tuple #[.int .i64 0, .int .i64 0]) h) := by
    intro m least c0 e
    rw [e] at hh
    constructor
    · intro c' hc
      rw [hc] at hh
      unfold finL at hh
      dsimp only at hh
      refine br_intro (fun hb => ?_) (fun hb => ?_)
      · simp only [decide_eq_true_eq] at hb
        rw [if_pos (by omega)] at hh
        exact hh
      simp only [decide_eq_false_iff_not] at hb
      rw [if_neg (by omega)] at hh
      refine ⟨by omega, br_intro (fun hb => ?_) (fun hb => ?_)⟩
      · rw [if_neg (by simpa using hb)] at hh
        exact hh
      · rw [if_pos (by simpa using hb)] at hh
        exact hh
    · intro hc c' j'
      rw [hc] at hh
      exact hh
  repeat' (refine br_intro (fun hb => ?_) (fun hb => ?_))
  all_goals (try simp only [decide_eq_true_eq, decide_eq_false_iff_not] at *)
  all_goals first
    | (exfalso; omega)
    | (rw [e0, decL_0 _ _ (by omega)] at hh; exact hh)
    | (refine ⟨by simp only [rng]; omega, ⟨hp, by omega, by omega, by omega, by omega, by omega, by omega, (show _ < (64 : Int) ^ 1 by omega)⟩, ?_⟩; have hk := key 2 128 _ (e0.trans (decL_2 _ _ (by omega))); rwa [show b.toNat - 192 = ((b.toNat : Int) - 192).toNat from by omega] at hk)
    | (refine ⟨by simp only [rng]; omega, ⟨hp, by omega, by omega, by omega, by omega, by omega, by omega, (show _ < (64 : Int) ^ 1 by omega)⟩, ?_⟩; have hk := key 3 2048 _ (e0.trans (decL_3 _ _ (by omega))); rwa [show b.toNat - 224 = ((b.toNat : Int) - 224).toNat from by omega] at hk)
    | (refine ⟨by simp only [rng]; omega, ⟨hp, by omega, by omega, by omega, by omega, by omega, by omega, (show _ < (64 : Int) ^ 1 by omega)⟩, ?_⟩; have hk := key 4 65536 _ (e0.trans (decL_4 _ _ (by omega))); rwa [show b.toNat - 240 = ((b.toNat : Int) - 240).toNat from by omega] at hk)
theorem targumref1_Next.sc : ∀ vs h K, targumref1_Next.s vs h K → ACalls Tryd.prog targumref1_Next.n vs h K := by
  intro vs h K hh; unfold targumref1_Next.s at hh; split at hh
  · exact targumref1_Next.c _ _ _ _ hh.1 hh.2
  · exact hh.elim
theorem targumref1_Next.sm : SpecMono targumref1_Next.s := by
  intro vs h K K' hk hh; unfold targumref1_Next.s at hh ⊢; split at hh
  · exact ⟨hh.1, hk _ _ hh.2⟩
  · exact hh.elim
theorem targumref1_Next.sd : SpecDet targumref1_Next.s := by
  intro vs h K hh; unfold targumref1_Next.s at hh; split at hh
  · exact ⟨_, hh.2, hh.1, rfl⟩
  · exact hh.elim

def SD : CT := (extC SC targumref1_Next.n targumref1_Next.s)
theorem SD_ok : COk Tryd.prog SD := (extC_ok SC_ok targumref1_Next.sc targumref1_Next.sd)
theorem SD_mono : CMono SD := (extC_mono SC_mono targumref1_Next.sm)
def targumref1_Break.s : List Value → Heap → VK → Prop
  | [.int .i64 v, .string s, .int .i64 i], h, K => (s.size ≤ 1000000) ∧ K (.int .i64 (brkI v s i)) h
  | _, _, _ => False
theorem targumref1_Break.t (v : Int) (s : ByteArray) (i : Int) (h : Heap) (K : VK) : mwp SD (lt0) targumref1_Break.m (retK [.t 6] K) (argE 0 [.int .i64 v, .string s, .int .i64 i]) h = (br (decide (i < (0 : Int))) (K (Value.int IntKind.i64 (0 : Int)) h) (br (decide ((↑s.size : Int) ≤ i)) (K (Value.int IntKind.i64 (0 : Int)) h) (((0 : Int) ≤ i ∧ i < (↑s.size : Int)) ∧ br (decide ((↑(byteAt s i.toNat).toNat : Int) = (13 : Int))) (rng IntKind.i64 (i + (1 : Int)) ∧ br (decide (i + (1 : Int) < (↑s.size : Int))) (rng IntKind.i64 (i + (1 : Int)) ∧ ((0 : Int) ≤ i + (1 : Int) ∧ i + (1 : Int) < (↑s.size : Int)) ∧ br (decide ((↑(byteAt s (i + (1 : Int)).toNat).toNat : Int) = (10 : Int))) (K (Value.int IntKind.i64 (2 : Int)) h) (((0 : Int) ≤ i ∧ i < (↑s.size : Int)) ∧ br (decide ((↑(byteAt s i.toNat).toNat : Int) = (10 : Int))) (K (Value.int IntKind.i64 (1 : Int)) h) (((0 : Int) ≤ i ∧ i < (↑s.size : Int)) ∧ br (decide ((↑(byteAt s i.toNat).toNat : Int) = (13 : Int))) (K (Value.int IntKind.i64 (1 : Int)) h) (br (!decide (v = (11 : Int))) (K (Value.int IntKind.i64 (0 : Int)) h) (s.size ≤ (1000000 : Nat) ∧ br (decide ((↑(nextI s i).fst : Int) = (133 : Int))) (K (Value.int IntKind.i64 (↑(nextI s i).snd : Int)) h) (br (decide ((↑(nextI s i).fst : Int) = (8232 : Int))) (K (Value.int IntKind.i64 (↑(nextI s i).snd : Int)) h) (br (decide ((↑(nextI s i).fst : Int) = (8233 : Int))) (K (Value.int IntKind.i64 (↑(nextI s i).snd : Int)) h) (K (Value.int IntKind.i64 (0 : Int)) h)))))))) (((0 : Int) ≤ i ∧ i < (↑s.size : Int)) ∧ br (decide ((↑(byteAt s i.toNat).toNat : Int) = (10 : Int))) (K (Value.int IntKind.i64 (1 : Int)) h) (((0 : Int) ≤ i ∧ i < (↑s.size : Int)) ∧ br (decide ((↑(byteAt s i.toNat).toNat : Int) = (13 : Int))) (K (Value.int IntKind.i64 (1 : Int)) h) (br (!decide (v = (11 : Int))) (K (Value.int IntKind.i64 (0 : Int)) h) (s.size ≤ (1000000 : Nat) ∧ br (decide ((↑(nextI s i).fst : Int) = (133 : Int))) (K (Value.int IntKind.i64 (↑(nextI s i).snd : Int)) h) (br (decide ((↑(nextI s i).fst : Int) = (8232 : Int))) (K (Value.int IntKind.i64 (↑(nextI s i).snd : Int)) h) (br (decide ((↑(nextI s i).fst : Int) = (8233 : Int))) (K (Value.int IntKind.i64 (↑(nextI s i).snd : Int)) h) (K (Value.int IntKind.i64 (0 : Int)) h)))))))) (((0 : Int) ≤ i ∧ i < (↑s.size : Int)) ∧ br (decide ((↑(byteAt s i.toNat).toNat : Int) = (10 : Int))) (K (Value.int IntKind.i64 (1 : Int)) h) (((0 : Int) ≤ i ∧ i < (↑s.size : Int)) ∧ br (decide ((↑(byteAt s i.toNat).toNat : Int) = (13 : Int))) (K (Value.int IntKind.i64 (1 : Int)) h) (br (!decide (v = (11 : Int))) (K (Value.int IntKind.i64 (0 : Int)) h) (s.size ≤ (1000000 : Nat) ∧ br (decide ((↑(nextI s i).fst : Int) = (133 : Int))) (K (Value.int IntKind.i64 (↑(nextI s i).snd : Int)) h) (br (decide ((↑(nextI s i).fst : Int) = (8232 : Int))) (K (Value.int IntKind.i64 (↑(nextI s i).snd : Int)) h) (br (decide ((↑(nextI s i).fst : Int) = (8233 : Int))) (K (Value.int IntKind.i64 (↑(nextI s i).snd : Int)) h) (K (Value.int IntKind.i64 (0 : Int)) h)))))))))) := by kernel_rfl
theorem targumref1_Break.c (v : Int) (s : ByteArray) (i : Int) (h : Heap) (K : VK) (hp : s.size ≤ 1000000) (hh : K (.int .i64 (brkI v s i)) h) : ACalls Tryd.prog targumref1_Break.n [.int .i64 v, .string s, .int .i64 i] h K := by
  refine acalls_mk SD_ok targumref1_Break.ok (LS := lt0) (by simp only [targumref1_Break.m, LOk, and_true, true_and]) (Nat.le_of_ble_eq_true rfl) (Eq.mpr (targumref1_Break.t v s i h K) ?_)
  refine br_intro (fun hb => ?_) (fun h0 => ?_)
  · simp only [decide_eq_true_eq] at hb
    exact kint hh (if_neg (by omega))
  simp only [decide_eq_false_iff_not] at h0
  refine br_intro (fun hb => ?_) (fun h1 => ?_)
  · simp only [decide_eq_true_eq] at hb
    refine kint hh ?_
    unfold brkI
    rw [if_pos (by omega), drop_ge (by omega)]
    rfl
  simp only [decide_eq_false_iff_not] at h1
  have hn : i.toNat < s.size := by omega
  have hbt := (byteAt s i.toNat).toNat_lt
  unfold brkI at hh
  have e1 : nextI s i = decL (byteAt s i.toNat :: (lst s).drop (i + 1).toNat) := by
    unfold nextI
    rw [if_pos (by omega), drop_lt hn, show i.toNat + 1 = (i + 1).toNat from by omega]
  rw [if_pos (by omega), drop_lt hn, show i.toNat + 1 = (i + 1).toNat from by omega] at hh
  have h10 : ((byteAt s (i + 1).toNat).toNat : Int) = 10 → i + 1 < s.size → ((lst s).drop (i + 1).toNat).head? = some 10 := by
    intro h h2
    rw [drop_lt (by omega)]
    show some _ = some _
    congr 1
    exact UInt8.toNat_inj.1 (by show _ = 10; omega)
  have h10' : (¬ ((byteAt s (i + 1).toNat).toNat : Int) = 10 ∨ ¬ i + 1 < s.size) → ¬ ((lst s).drop (i + 1).toNat).head? = some 10 := by
    intro h h2
    rcases Nat.lt_or_ge (i + 1).toNat s.size with h3 | h3
    · rw [drop_lt h3] at h2
      have : byteAt s (i + 1).toNat = 10 := Option.some.inj h2
      rw [this] at h
      rcases h with h | h
      · exact h rfl
      · omega
    · rw [drop_ge h3] at h2; cases h2
  generalize (lst s).drop (i + 1).toNat = l at *
  generalize byteAt s i.toNat = b at *
  have e13 : (b = 13) ↔ ((b.toNat : Int) = 13) := by constructor; (intro h; subst h; rfl); (intro h; apply UInt8.toNat_inj.1; show b.toNat = 13; omega)
  have e10 : (b = 10) ↔ ((b.toNat : Int) = 10) := by constructor; (intro h; subst h; rfl); (intro h; apply UInt8.toNat_inj.1; show b.toNat = 10; omega)
  have val : (brkL (decide (v = 11)) (b :: l) : Nat) = if b = 13 then (if l.head? = some 10 then 2 else 1) else if b = 10 then 1 else if v = 11 then brkD (nextI s i) else 0 := by
    by_cases h13 : b = 13
    · subst h13; simp [brkL]
    by_cases hb10 : b = 10
    · subst hb10; simp [brkL]
    rw [if_neg h13, if_neg hb10]
    by_cases hv : v = 11
    · rw [if_pos hv, e1, ← dec_break b l h13 hb10, decide_eq_true hv]
    · rw [if_neg hv, decide_eq_false hv]; simp [brkL, h13, hb10]
  rw [val] at hh
  simp only [e13, e10, brkD] at hh
  repeat' (first | with_reducible refine br_intro (fun hb => ?_) (fun hb => ?_) | refine And.intro ?_ ?_)
  all_goals (try simp only [decide_eq_true_eq, decide_eq_false_iff_not, Bool.not_eq_true', Bool.not_eq_false'] at *)
  all_goals first | omega | (exfalso; omega) | skip
  all_goals (refine kint hh ?_)
  all_goals (repeat' split)
  all_goals first | rfl | omega | (exfalso; omega) | (exfalso; exact absurd (h10 (by omega) (by omega)) (by assumption)) | (exfalso; exact absurd (by assumption) (h10' (by omega)))
theorem targumref1_Break.sc : ∀ vs h K, targumref1_Break.s vs h K → ACalls Tryd.prog targumref1_Break.n vs h K := by
  intro vs h K hh; unfold targumref1_Break.s at hh; split at hh
  · exact targumref1_Break.c _ _ _ _ _ hh.1 hh.2
  · exact hh.elim
theorem targumref1_Break.sm : SpecMono targumref1_Break.s := by
  intro vs h K K' hk hh; unfold targumref1_Break.s at hh ⊢; split at hh
  · exact ⟨hh.1, hk _ _ hh.2⟩
  · exact hh.elim
theorem targumref1_Break.sd : SpecDet targumref1_Break.s := by
  intro vs h K hh; unfold targumref1_Break.s at hh; split at hh
  · exact ⟨_, hh.2, hh.1, rfl⟩
  · exact hh.elim

end Go.Mini
