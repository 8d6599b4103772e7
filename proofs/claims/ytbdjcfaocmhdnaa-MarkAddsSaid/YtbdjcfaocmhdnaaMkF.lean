/- Whole numbers as binary floating point: sums, differences, comparisons of small ones are exact. No condition but sizes. -/
import Derived.Laws.FloatArith
import Derived.Laws.Cover3
namespace Go.Proofs.Ytbdjcfaocmhdnaa.Fl
open Go Ieee
set_option linter.unusedVariables false
set_option linter.unusedSimpArgs false

/-- The bits of a whole number. -/
def D (n : Int) : Nat := FloatKind.f64.nearest n
theorem D_eq (n : Int) : D n = double.nearest (decide (n < 0)) n.natAbs 0 := rfl

theorem least : double.leastPlace = -1074 := by decide
theorem bin : double.binade = 2 ^ 52 := rfl
theorem infr : double.infRung = 2047 * 2 ^ 52 := rfl

theorem log2_is {n k : Nat} (h1 : 2 ^ k ≤ n) (h2 : n < 2 ^ (k + 1)) : n.log2 = k := by
  have h0 : n ≠ 0 := by have := Nat.two_pow_pos k; omega
  exact (Nat.log2_eq_iff h0).2 ⟨h1, h2⟩
theorem log2_mul (m q : Nat) (h : m ≠ 0) : (m * 2 ^ q).log2 = m.log2 + q := by
  apply log2_is
  · rw [Nat.pow_add]
    exact Nat.mul_le_mul_right _ (Nat.log2_self_le h)
  · rw [show m.log2 + q + 1 = (m.log2 + 1) + q by omega, Nat.pow_add]
    exact Nat.mul_lt_mul_of_pos_right Nat.lt_log2_self (Nat.two_pow_pos q)
theorem log2_small {m : Nat} (h0 : m ≠ 0) (h : m < 2 ^ 53) : m.log2 ≤ 52 := by
  have : m.log2 < 53 := (Nat.log2_lt h0).2 h
  omega

theorem cut_zero (neg : Bool) (n : Nat) : Toward.even.cut neg n 0 = n := by
  unfold Toward.cut
  simp [Nat.mod_one]
theorem cut_exact (neg : Bool) (m d : Nat) (h : m ≠ 0) : Toward.even.cut neg (m * 2 ^ d) d = m := by
  have hl : d ≤ (m * 2 ^ d).log2 + 2 := by rw [log2_mul m d h]; omega
  unfold Toward.cut
  rw [Nat.min_eq_left hl]
  simp only [Nat.shiftLeft_eq, Nat.one_mul]
  rw [Nat.mul_div_cancel _ (Nat.two_pow_pos d), Nat.mul_mod_left]
  have hp := Nat.two_pow_pos d
  have : ¬ (2 ^ d < 2 * 0) := by omega
  have h2 : (2 ^ d == 2 * 0) = false := by rw [beq_eq_false_iff_ne]; omega
  simp [h2]

/-- The rung of a magnitude. -/
def rungN (m : Nat) : Nat := (m.log2 + 1022) * 2 ^ 52 + m * 2 ^ (52 - m.log2)
theorem kept_bounds {m : Nat} (h0 : m ≠ 0) (h : m < 2 ^ 53) : 2 ^ 52 ≤ m * 2 ^ (52 - m.log2) ∧ m * 2 ^ (52 - m.log2) < 2 ^ 53 := by
  have hl := log2_small h0 h
  constructor
  · have := Nat.mul_le_mul_right (2 ^ (52 - m.log2)) (Nat.log2_self_le h0)
    rw [← Nat.pow_add, show m.log2 + (52 - m.log2) = 52 by omega] at this
    exact this
  · have := Nat.mul_lt_mul_of_pos_right (Nat.lt_log2_self (n := m)) (Nat.two_pow_pos (52 - m.log2))
    rw [← Nat.pow_add, show m.log2 + 1 + (52 - m.log2) = 53 by omega] at this
    exact this

theorem rung_lt (L k : Nat) (hL : L ≤ 52) (hk : k < 2 ^ 53) : (L + 1022) * 2 ^ 52 + k < 2047 * 2 ^ 52 := by omega

theorem nearest_is (neg : Bool) (m q : Nat) (h0 : m ≠ 0) (h : m < 2 ^ 53) : double.nearest neg (m * 2 ^ q) (-(q : Int)) = double.word neg (rungN m) := by
  have hl := log2_small h0 h
  have hk := kept_bounds h0 h
  have hm : m * 2 ^ q ≠ 0 := Nat.mul_ne_zero h0 (Nat.ne_of_gt (Nat.two_pow_pos q))
  unfold Format.nearest
  rw [if_neg hm, log2_mul m q h0, least]
  have hf : (double.fractionBits : Int) = 52 := rfl
  rw [hf]
  have e1 : max (-(q : Int) + ((m.log2 + q : Nat) : Int) - 52) (-1074) = (m.log2 : Int) - 52 := by omega
  rw [e1]
  have e2 : (-(q : Int) - ((m.log2 : Int) - 52)).toNat = 52 - m.log2 - q := by omega
  have e3 : ((m.log2 : Int) - 52 - -(q : Int)).toNat = q - (52 - m.log2) := by omega
  have e4 : ((m.log2 : Int) - 52 - -1074).toNat = m.log2 + 1022 := by omega
  dsimp only
  rw [e2, e3, e4, bin, infr, Nat.shiftLeft_eq]
  have hc : Toward.even.cut neg (m * 2 ^ q * 2 ^ (52 - m.log2 - q)) (q - (52 - m.log2)) = m * 2 ^ (52 - m.log2) := by
    by_cases hq : q ≤ 52 - m.log2
    · rw [show q - (52 - m.log2) = 0 by omega, cut_zero, Nat.mul_assoc, ← Nat.pow_add, show q + (52 - m.log2 - q) = 52 - m.log2 by omega]
    · rw [show 52 - m.log2 - q = 0 by omega, Nat.pow_zero, Nat.mul_one]
      have : m * 2 ^ q = m * 2 ^ (52 - m.log2) * 2 ^ (q - (52 - m.log2)) := by rw [Nat.mul_assoc, ← Nat.pow_add, show 52 - m.log2 + (q - (52 - m.log2)) = q by omega]
      rw [this]
      exact cut_exact neg _ _ (by omega)
  rw [hc]
  have hle := Nat.le_of_lt (rung_lt m.log2 _ hl hk.2)
  rw [Nat.min_eq_left hle]
  rfl

theorem D_pos (n : Int) (h0 : n ≠ 0) (h : n.natAbs < 2 ^ 53) : D n = double.word (decide (n < 0)) (rungN n.natAbs) := by
  have := nearest_is (decide (n < 0)) n.natAbs 0 (by omega) h
  rw [Nat.pow_zero, Nat.mul_one] at this
  exact this

theorem read_word (neg : Bool) (m : Nat) (h0 : m ≠ 0) (h : m < 2 ^ 53) : double.read (double.word neg (rungN m)) = .number neg (m * 2 ^ (52 - m.log2)) (-((52 - m.log2 : Nat) : Int)) := by
  have hl := log2_small h0 h
  have hk := kept_bounds h0 h
  have hw : double.signWeight = 2 ^ 63 := rfl
  have hr : rungN m = (m.log2 + 1022) * 2 ^ 52 + m * 2 ^ (52 - m.log2) := rfl
  have hrl : rungN m < 2047 * 2 ^ 52 := rung_lt m.log2 _ hl hk.2
  have hrg : 2 ^ 52 ≤ rungN m := by omega
  have hdiv : rungN m / 2 ^ 52 = m.log2 + 1023 := by
    rw [hr, Nat.add_comm, Nat.add_mul_div_right _ _ (Nat.two_pow_pos 52)]
    have : m * 2 ^ (52 - m.log2) / 2 ^ 52 = 1 := by omega
    omega
  have hmod : rungN m % 2 ^ 52 = m * 2 ^ (52 - m.log2) - 2 ^ 52 := by
    have := Nat.div_add_mod (rungN m) (2 ^ 52)
    rw [hdiv] at this
    rw [hr] at this ⊢
    have e : 2 ^ 52 * (m.log2 + 1023) = (m.log2 + 1022) * 2 ^ 52 + 2 ^ 52 := by
      rw [Nat.mul_comm, show m.log2 + 1023 = (m.log2 + 1022) + 1 by omega, Nat.succ_mul]
    omega
  have hneg : (double.word neg (rungN m) / double.signWeight % 2 == 1) = neg := by
    unfold Format.word
    rw [hw]
    cases neg
    · rw [if_neg (by decide), Nat.div_eq_of_lt (by omega)]
      rfl
    · rw [if_pos rfl]
      have : (2 ^ 63 + rungN m) / 2 ^ 63 = 1 := by omega
      rw [this]
      rfl
  have hrung : double.word neg (rungN m) % double.signWeight = rungN m := by
    unfold Format.word
    rw [hw]
    cases neg
    · rw [if_neg (by decide)]
      exact Nat.mod_eq_of_lt (by omega)
    · rw [if_pos rfl]
      omega
  unfold Format.read
  simp only [hneg, hrung]
  rw [bin, infr, if_neg (by omega), if_pos hrl, hmod, hdiv, least]
  have f1 : 2 ^ 52 + (m * 2 ^ (52 - m.log2) - 2 ^ 52) = m * 2 ^ (52 - m.log2) := by omega
  have f2 : (-1074 : Int) + ((m.log2 + 1023 - 1 : Nat) : Int) = -((52 - m.log2 : Nat) : Int) := by omega
  rw [f1, f2]

/-- What the bits of a small number say. -/
theorem read_D (n : Int) (h : n.natAbs < 2 ^ 53) : ∃ q : Nat, double.read (D n) = .number (decide (n < 0)) (n.natAbs * 2 ^ q) (-(q : Int)) := by
  by_cases h0 : n = 0
  · subst h0
    exact ⟨1074, by decide +kernel⟩
  · exact ⟨_, by rw [D_pos n h0 h, read_word _ _ (by omega) h]⟩

theorem signed_is (n : Int) (q up : Nat) : signed (decide (n < 0)) (n.natAbs * 2 ^ q) up = n * ((2 ^ (q + up) : Nat) : Int) := by
  unfold signed
  rw [Nat.shiftLeft_eq, Nat.mul_assoc, ← Nat.pow_add]
  by_cases h : n < 0
  · rw [if_pos (decide_eq_true h), Int.natCast_mul, ← Int.neg_mul]
    congr 1
    omega
  · rw [if_neg (by rw [decide_eq_true_eq]; exact h), Int.natCast_mul]
    congr 1
    omega
theorem signed_op (n : Int) (q up : Nat) : signed (!decide (n < 0)) (n.natAbs * 2 ^ q) up = -n * ((2 ^ (q + up) : Nat) : Int) := by
  have h := signed_is n q up
  unfold signed at h ⊢
  generalize decide (n < 0) = z at h ⊢
  cases z
  · rw [if_neg (by decide)] at h
    rw [if_pos (by decide), h, Int.neg_mul]
  · rw [if_pos (by decide)] at h
    rw [if_neg (by decide), Int.neg_mul, ← h, Int.neg_neg]

theorem write_is (c : Int) (Q : Nat) (h : c.natAbs < 2 ^ 53) (z : Bool) (hz : c = 0 → z = false) :
    double.write (.number (if c * ((2 ^ Q : Nat) : Int) = 0 then z else c * ((2 ^ Q : Nat) : Int) < 0) (c * ((2 ^ Q : Nat) : Int)).natAbs (-(Q : Int))) = D c := by
  have hp : (0 : Int) < ((2 ^ Q : Nat) : Int) := by exact_mod_cast Nat.two_pow_pos Q
  show double.nearest _ _ _ = _
  rw [Int.natAbs_mul, Int.natAbs_natCast]
  by_cases h0 : c = 0
  · subst h0
    rw [hz rfl]
    simp only [Int.zero_mul, if_true]
    unfold Format.nearest
    rw [if_pos (by simp)]
    decide +kernel
  · have hne : c * ((2 ^ Q : Nat) : Int) ≠ 0 := Int.mul_ne_zero h0 (by omega)
    have hs : (c * ((2 ^ Q : Nat) : Int) < 0) ↔ c < 0 := by
      constructor
      · intro h1
        by_cases h2 : c < 0
        · exact h2
        · have := Int.mul_nonneg (show 0 ≤ c by omega) (Int.le_of_lt hp)
          omega
      · intro h1
        exact Int.mul_neg_of_neg_of_pos h1 hp
    rw [nearest_is _ _ _ (by omega) h, D_pos c h0 h]
    congr 1
    simp only [if_neg hne]
    rw [decide_eq_decide]
    exact hs

theorem base_is (q r : Nat) : min (-(q : Int)) (-(r : Int)) = -((max q r : Nat) : Int) ∧ (-(q : Int) - -((max q r : Nat) : Int)).toNat = max q r - q ∧ (-(r : Int) - -((max q r : Nat) : Int)).toNat = max q r - r := by
  omega

theorem add_D (a b : Int) (ha : a.natAbs < 2 ^ 53) (hb : b.natAbs < 2 ^ 53) (hc : (a + b).natAbs < 2 ^ 53) : double.add (D a) (D b) = some (D (a + b)) := by
  obtain ⟨q, hq⟩ := read_D a ha
  obtain ⟨r, hr⟩ := read_D b hb
  obtain ⟨e1, e2, e3⟩ := base_is q r
  unfold Format.add
  rw [hq, hr]
  unfold Datum.sum
  simp only [e1, e2, e3, signed_is, Option.map_some]
  rw [show q + (max q r - q) = max q r by omega, show r + (max q r - r) = max q r by omega, ← Int.add_mul]
  congr 1
  refine write_is (a + b) (max q r) hc _ (fun h => ?_)
  by_cases h1 : a < 0
  · rw [decide_eq_false (show ¬ b < 0 by omega), Bool.and_false]
  · rw [decide_eq_false h1, Bool.false_and]
theorem sub_D (a b : Int) (ha : a.natAbs < 2 ^ 53) (hb : b.natAbs < 2 ^ 53) (hc : (a - b).natAbs < 2 ^ 53) : double.sub (D a) (D b) = some (D (a - b)) := by
  obtain ⟨q, hq⟩ := read_D a ha
  obtain ⟨r, hr⟩ := read_D b hb
  obtain ⟨e1, e2, e3⟩ := base_is q r
  unfold Format.sub
  rw [hq, hr]
  unfold Datum.opposite Datum.sum
  simp only [e1, e2, e3, signed_is, signed_op, Option.map_some]
  rw [show q + (max q r - q) = max q r by omega, show r + (max q r - r) = max q r by omega, ← Int.add_mul, ← Int.sub_eq_add_neg]
  congr 1
  refine write_is (a - b) (max q r) hc _ (fun h => ?_)
  obtain rfl : a = b := by omega
  cases decide (a < 0) <;> rfl

theorem order_D (a b : Int) (ha : a.natAbs < 2 ^ 53) (hb : b.natAbs < 2 ^ 53) : double.order (D a) (D b) = some (compare a b) := by
  obtain ⟨q, hq⟩ := read_D a ha
  obtain ⟨r, hr⟩ := read_D b hb
  obtain ⟨e1, e2, e3⟩ := base_is q r
  unfold Format.order
  rw [hq, hr]
  unfold Datum.order
  simp only [e1, e2, e3, signed_is]
  rw [show q + (max q r - q) = max q r by omega, show r + (max q r - r) = max q r by omega]
  congr 1
  have hp : (0 : Int) < ((2 ^ (max q r) : Nat) : Int) := by exact_mod_cast Nat.two_pow_pos _
  generalize ((2 ^ (max q r) : Nat) : Int) = p at hp
  rcases Int.lt_trichotomy a b with h | h | h
  · rw [Int.compare_eq_lt.2 h, Int.compare_eq_lt.2 (Int.mul_lt_mul_of_pos_right h hp)]
  · rw [h, Int.compare_eq_eq.2 rfl, Int.compare_eq_eq.2 rfl]
  · rw [Int.compare_eq_gt.2 h, Int.compare_eq_gt.2 (Int.mul_lt_mul_of_pos_right h hp)]
theorem eq_D (a b : Int) (ha : a.natAbs < 2 ^ 53) (hb : b.natAbs < 2 ^ 53) : (double.order (D a) (D b) == some .eq) = decide (a = b) := by
  rw [order_D a b ha hb]
  rcases Int.lt_trichotomy a b with h | h | h
  · rw [Int.compare_eq_lt.2 h, decide_eq_false (by omega)]; rfl
  · rw [Int.compare_eq_eq.2 h, decide_eq_true h]; rfl
  · rw [Int.compare_eq_gt.2 h, decide_eq_false (by omega)]; rfl
theorem lt_D (a b : Int) (ha : a.natAbs < 2 ^ 53) (hb : b.natAbs < 2 ^ 53) : (double.order (D a) (D b) == some .lt) = decide (a < b) := by
  rw [order_D a b ha hb]
  rcases Int.lt_trichotomy a b with h | h | h
  · rw [Int.compare_eq_lt.2 h, decide_eq_true h]; rfl
  · rw [Int.compare_eq_eq.2 h, decide_eq_false (by omega)]; rfl
  · rw [Int.compare_eq_gt.2 h, decide_eq_false (by omega)]; rfl
end Go.Proofs.Ytbdjcfaocmhdnaa.Fl
