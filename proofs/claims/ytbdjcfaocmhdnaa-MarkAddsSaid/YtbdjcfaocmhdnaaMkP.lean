/- Plain laws of ways: how far a text leads is told part by part; places rise; the last byte at a place. No condition. -/
import Derived.Test.YtbdjcfaocmhdnaaMkC
namespace Go.Proofs.Ytbdjcfaocmhdnaa.Q
open Go Go.RowKit Go.Proofs Go.Proofs.YtbdjcfaocmhdnaaW.PrintWords Go.Proofs.YtbdjcfaocmhdnaaW.PrintLast Go.Proofs.YtbdjcfaocmhdnaaW.PrintMore
set_option linter.unusedVariables false
set_option linter.unusedSimpArgs false

/-! ### ways in turn -/
def goN (p q : Nat × Nat) : Nat × Nat := if 0 < q.1 then (p.1 + q.1, q.2) else (p.1, p.2 + q.2)
theorem goN_zero (p : Nat × Nat) : goN p (0, 0) = p := rfl
theorem zero_goN (p : Nat × Nat) : goN (0, 0) p = p := by
  unfold goN
  split
  · simp
  · obtain ⟨a, b⟩ := p
    simp only at *
    simp
    omega
theorem goN_assoc (p q r : Nat × Nat) : goN (goN p q) r = goN p (goN q r) := by
  obtain ⟨a, b⟩ := p
  obtain ⟨c, d⟩ := q
  obtain ⟨e, f⟩ := r
  unfold goN
  simp only
  by_cases he : 0 < e
  · rw [if_pos he, if_pos he, if_pos (show 0 < c + e by omega)]
    by_cases hc : 0 < c
    · rw [if_pos hc]; simp; omega
    · rw [if_neg hc]; simp; omega
  · rw [if_neg he, if_neg he]
    by_cases hc : 0 < c
    · rw [if_pos hc, if_pos (show 0 < c by omega)]
    · rw [if_neg hc, if_neg (show ¬ 0 < c by omega)]; simp; omega
theorem goZ_assoc (p : Int × Int) (q r : Nat × Nat) : goZ (goZ p q) r = goZ p (goN q r) := by
  obtain ⟨a, b⟩ := p
  obtain ⟨c, d⟩ := q
  obtain ⟨e, f⟩ := r
  unfold goZ goN
  simp only
  by_cases he : 0 < e
  · rw [if_pos he, if_pos he, if_pos (show 0 < c + e by omega)]
    by_cases hc : 0 < c
    · rw [if_pos hc]; simp; omega
    · rw [if_neg hc]; simp; omega
  · rw [if_neg he, if_neg he]
    by_cases hc : 0 < c
    · rw [if_pos hc, if_pos (show 0 < c by omega)]; simp
    · rw [if_neg hc, if_neg (show ¬ 0 < c by omega)]; simp; omega
def zz (p : Nat × Nat) : Int × Int := ((p.1 : Int), (p.2 : Int))
theorem goZ_zz (p q : Nat × Nat) : goZ (zz p) q = zz (goN p q) := by
  unfold goZ goN zz
  split <;> simp
theorem zz_inj {p q : Nat × Nat} : zz p = zz q ↔ p = q := by
  obtain ⟨a, b⟩ := p
  obtain ⟨c, d⟩ := q
  unfold zz
  simp only [Prod.mk.injEq]
  omega

def wL (o : Bool) (l : List UInt8) : Nat × Nat := wayL o l.length l (0, 0)
theorem way_wL (v : Int) (s : ByteArray) : way v s = wL (v == 11) s.data.toList := by
  unfold way wL
  rw [Array.length_toList]
  rfl
theorem wayL_acc (o : Bool) : ∀ (n : Nat) (l : List UInt8) (p : Nat × Nat), wayL o n l p = goN p (wayL o n l (0, 0)) := by
  intro n
  induction n with
  | zero => intro l p; rfl
  | succ n ih =>
    intro l p
    cases l with
    | nil => rfl
    | cons c l =>
      rw [wayL, wayL]
      by_cases hb : 0 < brkL o (c :: l)
      · rw [if_pos hb, if_pos hb, ih _ (p.1 + 1, 0), ih _ (0 + 1, 0), ← goN_assoc]
        rfl
      · rw [if_neg hb, if_neg hb]
        by_cases hc : cntB c = true
        · rw [if_pos hc, if_pos hc, ih _ (p.1, p.2 + 1), ih _ (0, 0 + 1), ← goN_assoc]
          rfl
        · rw [if_neg hc, if_neg hc]
          exact ih _ _
/-- The size of what stands first: a break, or a byte. -/
def un (o : Bool) (l : List UInt8) : Nat := max (brkL o l) 1
def u1 (o : Bool) (c : UInt8) (l : List UInt8) : Nat × Nat := if 0 < brkL o (c :: l) then (1, 0) else if cntB c = true then (0, 1) else (0, 0)
theorem wL_nil (o : Bool) : wL o [] = (0, 0) := rfl
theorem wL_cons (o : Bool) (c : UInt8) (l : List UInt8) : wL o (c :: l) = goN (u1 o c l) (wL o ((c :: l).drop (un o (c :: l)))) := by
  unfold wL u1 un
  rw [List.length_cons, wayL]
  have hle := brkL_le o (c :: l)
  rw [List.length_cons] at hle
  by_cases hb : 0 < brkL o (c :: l)
  · rw [if_pos hb, if_pos hb, show max (brkL o (c :: l)) 1 = brkL o (c :: l) by omega, wayL_acc]
    congr 1
    exact wayL_any _ _ _ _ _ (by rw [List.length_drop, List.length_cons]; omega) (Nat.le_refl _)
  · rw [if_neg hb, if_neg hb, show max (brkL o (c :: l)) 1 = 1 by omega]
    by_cases hc : cntB c = true
    · rw [if_pos hc, wayL_acc]
      rfl
    · rw [if_neg hc, zero_goN]
      rfl

theorem brk_take {o : Bool} {l : List UInt8} {m : Nat} (h : un o l ≤ m) : brkL o (l.take m) = brkL o l := by
  unfold un at h
  cases l with
  | nil => rw [List.take_nil]
  | cons c l =>
    obtain ⟨m, rfl⟩ : ∃ k, m = k + 1 := ⟨m - 1, by omega⟩
    rw [List.take_succ_cons]
    unfold brkL at h ⊢
    simp only at h ⊢
    by_cases h13 : c = 13
    · rw [if_pos h13] at h ⊢
      rw [if_pos h13]
      by_cases h10 : l.head? = some 10
      · rw [if_pos h10] at h ⊢
        rw [if_pos]
        cases l with
        | nil => exact nomatch h10
        | cons d l => obtain ⟨m, rfl⟩ : ∃ k, m = k + 1 := ⟨m - 1, by omega⟩; exact h10
      · rw [if_neg h10]
        rw [if_neg]
        cases l with
        | nil => rw [List.take_nil]; exact h10
        | cons d l => cases m with
          | zero => exact fun h => nomatch h
          | succ m => exact h10
    · rw [if_neg h13] at h ⊢
      rw [if_neg h13]
      by_cases h10 : c = 10
      · rw [if_pos h10, if_pos h10]
      · rw [if_neg h10] at h ⊢
        rw [if_neg h10]
        by_cases h2 : o = true ∧ c = 194 ∧ l.head? = some 133
        · rw [if_pos h2] at h ⊢
          rw [if_pos]
          refine ⟨h2.1, h2.2.1, ?_⟩
          have h22 := h2.2.2
          cases l with
          | nil => exact nomatch h22
          | cons d l => obtain ⟨m, rfl⟩ : ∃ k, m = k + 1 := ⟨m - 1, by omega⟩; exact h22
        · rw [if_neg h2] at h ⊢
          rw [if_neg (show ¬ (o = true ∧ c = 194 ∧ (l.take m).head? = some 133) from fun h' => h2 ⟨h'.1, h'.2.1, by
            have := h'.2.2
            cases l with
            | nil => rw [List.take_nil] at this; exact this
            | cons d l => cases m with
              | zero => exact nomatch this
              | succ m => exact this⟩)]
          by_cases h3 : o = true ∧ c = 226 ∧ (l.take 2 = [128, 168] ∨ l.take 2 = [128, 169])
          · rw [if_pos h3] at h ⊢
            rw [if_pos]
            refine ⟨h3.1, h3.2.1, ?_⟩
            rw [List.take_take, show min 2 m = 2 by omega]
            exact h3.2.2
          · rw [if_neg h3]
            rw [if_neg]
            rintro ⟨a, b, hh⟩
            refine h3 ⟨a, b, ?_⟩
            rw [List.take_take] at hh
            by_cases hm : 2 ≤ m
            · rw [show min 2 m = 2 by omega] at hh
              exact hh
            · exfalso
              have hl : (l.take (min 2 m)).length ≤ 1 := by rw [List.length_take]; omega
              rcases hh with hh | hh <;> (rw [hh] at hl; exact absurd hl (by decide))

/-- Where things begin. -/
inductive Bd (o : Bool) : List UInt8 → Nat → Prop
  | zero (l : List UInt8) : Bd o l 0
  | step (c : UInt8) (l : List UInt8) (k : Nat) : Bd o ((c :: l).drop (un o (c :: l))) k → Bd o (c :: l) (un o (c :: l) + k)
theorem un_pos (o : Bool) (l : List UInt8) : 1 ≤ un o l := Nat.le_max_right _ _
theorem wL_bd {o : Bool} {l : List UInt8} {k : Nat} (h : Bd o l k) : ∀ m, k ≤ m → wL o (l.take m) = goN (wL o (l.take k)) (wL o ((l.drop k).take (m - k))) := by
  induction h with
  | zero l => intro m _; rw [List.take_zero, wL_nil, zero_goN, List.drop_zero, Nat.sub_zero]
  | step c l k h ih =>
    intro m hm
    have hu := un_pos o (c :: l)
    have key : ∀ j, un o (c :: l) ≤ j → wL o ((c :: l).take j) = goN (u1 o c l) (wL o (((c :: l).drop (un o (c :: l))).take (j - un o (c :: l)))) := by
      intro j hj
      have hb := brk_take (o := o) (l := c :: l) hj
      obtain ⟨j, rfl⟩ : ∃ k, j = k + 1 := ⟨j - 1, by omega⟩
      rw [List.take_succ_cons] at hb
      rw [List.take_succ_cons, wL_cons]
      have e1 : u1 o c (l.take j) = u1 o c l := by unfold u1; rw [hb]
      have e2 : un o (c :: l.take j) = un o (c :: l) := by unfold un; rw [hb]
      rw [e1, e2]
      congr 2
      rw [← List.take_succ_cons, List.drop_take]
    rw [key m (by omega), key (un o (c :: l) + k) (by omega), goN_assoc, ih (m - un o (c :: l)) (by omega), Nat.add_sub_cancel_left, List.drop_drop, Nat.sub_sub]
theorem Bd.next {o : Bool} {l : List UInt8} {k : Nat} (h : Bd o l k) (hk : k < l.length) : Bd o l (k + un o (l.drop k)) := by
  induction h with
  | zero l =>
    cases l with
    | nil => exact absurd hk (by simp)
    | cons c l =>
      have := Bd.step c l 0 (Bd.zero (o := o) _)
      rw [List.drop_zero, Nat.zero_add]
      exact this
  | step c l k h ih =>
    have := Bd.step c l _ (ih (by rw [List.length_drop]; omega))
    rw [List.drop_drop] at this
    rw [Nat.add_assoc]
    exact this

/-! ### the last one -/
def lastI (P : Nat → Bool) : Nat → Int
  | 0 => -1
  | n + 1 => if P n = true then (n : Int) else lastI P n
def atP (v : Int) (s : ByteArray) (p : Int × Int) (j : Nat) : Bool := decide (zz (wL (v == 11) (s.data.toList.take j)) = p)
theorem extract_list (s : ByteArray) (a b : Nat) : (s.extract a b).data.toList = (s.data.toList.drop a).take (b - a) := by
  rw [Lib.extract_data]
theorem way_ext (v : Int) (s : ByteArray) (i m : Nat) : way v (s.extract i (i + m)) = wL (v == 11) ((s.data.toList.drop i).take m) := by
  rw [way_wL, extract_list, Nat.add_sub_cancel_left]
theorem offI_last (v : Int) (s : ByteArray) (p : Int × Int) (i n : Nat) (hb : Bd (v == 11) s.data.toList i) : ∀ (m k : Nat), n - k ≤ m → k ≤ n →
    offI v s p (zz (wL (v == 11) (s.data.toList.take i))) i n m k (lastI (atP v s p) (i + k)) = lastI (atP v s p) (i + n) := by
  intro m
  induction m with
  | zero => intro k hm hk; rw [show k = n by omega]; rfl
  | succ m ih =>
    intro k hm hk
    rw [offI]
    by_cases h : k < n
    · rw [if_pos h]
      have e := wL_bd hb (i + k) (by omega)
      rw [Nat.add_sub_cancel_left] at e
      have e2 : (if goZ (zz (wL (v == 11) (s.data.toList.take i))) (way v (s.extract i (i + k))) = p then ((i + k : Nat) : Int) else lastI (atP v s p) (i + k)) = lastI (atP v s p) (i + (k + 1)) := by
        rw [way_ext, goZ_zz, ← e]
        show _ = lastI (atP v s p) ((i + k) + 1)
        rw [lastI]
        unfold atP
        by_cases hp : zz (wL (v == 11) (s.data.toList.take (i + k))) = p
        · rw [if_pos hp, if_pos (decide_eq_true hp)]
        · rw [if_neg hp, if_neg (by rw [decide_eq_true_eq]; exact hp)]
      rw [e2]
      exact ih (k + 1) (by omega) h
    · rw [if_neg h, show k = n by omega]
theorem offO_last (v : Int) (s : ByteArray) (p : Int × Int) : ∀ (f i : Nat), s.size - i < f → i ≤ s.size → Bd (v == 11) s.data.toList i →
    offO v s p f i (zz (wL (v == 11) (s.data.toList.take i))) (lastI (atP v s p) i) = lastI (atP v s p) (s.size + 1) := by
  intro f
  induction f with
  | zero => intro i h; omega
  | succ f ih =>
    intro i hf hi hb
    have hdl : s.data.toList.length = s.size := by rw [Array.length_toList]; rfl
    have e1 : (if zz (wL (v == 11) (s.data.toList.take i)) = p then (i : Int) else lastI (atP v s p) i) = lastI (atP v s p) (i + 1) := by
      rw [lastI]
      unfold atP
      by_cases hp : zz (wL (v == 11) (s.data.toList.take i)) = p
      · rw [if_pos hp, if_pos (decide_eq_true hp)]
      · rw [if_neg hp, if_neg (by rw [decide_eq_true_eq]; exact hp)]
    rw [offO, e1]
    by_cases h : i < s.size
    · rw [if_pos h]
      have hu : unitN v s i = un (v == 11) (s.data.toList.drop i) := rfl
      have hup := un_pos (v == 11) (s.data.toList.drop i)
      have hbl := brkN_le v s i hi
      have hul : i + unitN v s i ≤ s.size := by unfold unitN; omega
      rw [offI_last v s p i (unitN v s i) hb (unitN v s i) 1 (by omega) (by rw [hu]; exact hup), way_ext, goZ_zz]
      have e := wL_bd hb (i + unitN v s i) (by omega)
      rw [Nat.add_sub_cancel_left] at e
      rw [← e]
      exact ih _ (by rw [hu]; omega) hul (by rw [hu]; exact hb.next (by rw [hdl]; exact h))
    · rw [if_neg h, show i = s.size by omega]
theorem offR_last (v : Int) (s : ByteArray) (p : Int × Int) : offR v s p = lastI (atP v s p) (s.size + 1) := by
  have := offO_last v s p (s.size + 1) 0 (by omega) (Nat.zero_le _) (Bd.zero _)
  rw [List.take_zero] at this
  exact this
end Go.Proofs.Ytbdjcfaocmhdnaa.Q
