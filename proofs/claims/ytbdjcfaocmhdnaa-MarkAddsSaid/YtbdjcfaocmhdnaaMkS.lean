/- Plain laws of places: they rise; a text cut between scalars is told part by part; the place of a scalar's beginning leads back. No condition. -/
import Derived.Test.YtbdjcfaocmhdnaaMkR
namespace Go.Proofs.Ytbdjcfaocmhdnaa.Q
open Go Go.RowKit Go.Proofs Go.Proofs.YtbdjcfaocmhdnaaW.PrintWords Go.Proofs.YtbdjcfaocmhdnaaW.PrintLast Go.Proofs.YtbdjcfaocmhdnaaW.PrintMore
set_option linter.unusedVariables false
set_option linter.unusedSimpArgs false

/-! ### places rise -/
def leP (p q : Nat × Nat) : Prop := p.1 < q.1 ∨ p.1 = q.1 ∧ p.2 ≤ q.2
theorem leP_refl (p : Nat × Nat) : leP p p := .inr ⟨rfl, Nat.le_refl _⟩
theorem leP_trans {p q r : Nat × Nat} (h : leP p q) (h2 : leP q r) : leP p r := by
  unfold leP at *
  omega
theorem goN_mono (p : Nat × Nat) {q r : Nat × Nat} (h : leP q r) : leP (goN p q) (goN p r) := by
  unfold leP goN at *
  by_cases h1 : 0 < q.1
  · rw [if_pos h1, if_pos (show 0 < r.1 by omega)]
    simp only
    omega
  · by_cases h2 : 0 < r.1
    · rw [if_neg h1, if_pos h2]
      simp only
      omega
    · rw [if_neg h1, if_neg h2]
      show p.1 < p.1 ∨ p.1 = p.1 ∧ p.2 + q.2 ≤ p.2 + r.2
      omega
theorem brk_two {o : Bool} {l : List UInt8} (h : 2 ≤ brkL o l) : (∃ t, l = 13 :: 10 :: t ∧ brkL o l = 2) ∨ (o = true ∧ ∃ t, l = 194 :: 133 :: t ∧ brkL o l = 2) ∨ (o = true ∧ ∃ x t, l = 226 :: 128 :: x :: t ∧ brkL o l = 3) := by
  cases l with
  | nil => exact absurd h (by simp [brkL])
  | cons c l =>
    have e : brkL o (c :: l) = if c = 13 then (if l.head? = some 10 then 2 else 1) else if c = 10 then 1 else if o = true ∧ c = 194 ∧ l.head? = some 133 then 2 else if o = true ∧ c = 226 ∧ (l.take 2 = [128, 168] ∨ l.take 2 = [128, 169]) then 3 else 0 := rfl
    rw [e] at h ⊢
    by_cases h13 : c = 13
    · rw [if_pos h13] at h ⊢
      by_cases h10 : l.head? = some 10
      · rw [if_pos h10]
        cases l with
        | nil => exact nomatch h10
        | cons d l => obtain rfl := Option.some.inj h10; subst h13; exact .inl ⟨l, rfl, rfl⟩
      · rw [if_neg h10] at h; omega
    · rw [if_neg h13] at h ⊢
      by_cases h10 : c = 10
      · rw [if_pos h10] at h; omega
      · rw [if_neg h10] at h ⊢
        by_cases h2 : o = true ∧ c = 194 ∧ l.head? = some 133
        · rw [if_pos h2]
          obtain ⟨ho, rfl, hh⟩ := h2
          cases l with
          | nil => exact nomatch hh
          | cons d l => obtain rfl := Option.some.inj hh; exact .inr (.inl ⟨ho, l, rfl, rfl⟩)
        · rw [if_neg h2] at h ⊢
          by_cases h3 : o = true ∧ c = 226 ∧ (l.take 2 = [128, 168] ∨ l.take 2 = [128, 169])
          · rw [if_pos h3]
            obtain ⟨ho, rfl, hh⟩ := h3
            rcases l with _ | ⟨d, _ | ⟨f, l⟩⟩
            · rcases hh with hh | hh <;> exact nomatch hh
            · rcases hh with hh | hh <;> exact absurd hh (by simp)
            · rcases hh with hh | hh <;> (simp only [List.take_succ_cons, List.take_zero, List.cons.injEq, and_true] at hh; rw [hh.1]; exact .inr (.inr ⟨ho, f, l, rfl, rfl⟩))
          · rw [if_neg h3] at h; omega
theorem wL_unit (o : Bool) (c : UInt8) (l : List UInt8) (j : Nat) (hj : un o (c :: l) ≤ j) : wL o ((c :: l).take j) = goN (u1 o c l) (wL o (((c :: l).drop (un o (c :: l))).take (j - un o (c :: l)))) := by
  have hu := un_pos o (c :: l)
  have hb := brk_take (o := o) (l := c :: l) hj
  obtain ⟨j, rfl⟩ : ∃ k, j = k + 1 := ⟨j - 1, by omega⟩
  rw [List.take_succ_cons] at hb
  rw [List.take_succ_cons, wL_cons]
  have e1 : u1 o c (l.take j) = u1 o c l := by unfold u1; rw [hb]
  have e2 : un o (c :: l.take j) = un o (c :: l) := by unfold un; rw [hb]
  rw [e1, e2, ← List.take_succ_cons, List.drop_take]
theorem zero_le (q : Nat × Nat) : leP (0, 0) q := by
  unfold leP
  simp only
  omega
theorem rise_one (o : Bool) : ∀ (n : Nat) (l : List UInt8) (j : Nat), l.length ≤ n → leP (wL o (l.take j)) (wL o (l.take (j + 1))) := by
  intro n
  induction n with
  | zero =>
    intro l j h
    obtain rfl : l = [] := List.eq_nil_of_length_eq_zero (by omega)
    rw [List.take_nil, List.take_nil]
    exact leP_refl _
  | succ n ih =>
    intro l j h
    cases l with
    | nil => rw [List.take_nil, List.take_nil]; exact leP_refl _
    | cons c l =>
      have hu := un_pos o (c :: l)
      by_cases hj : un o (c :: l) ≤ j
      · rw [wL_unit o c l j hj, wL_unit o c l (j + 1) (by omega), show j + 1 - un o (c :: l) = (j - un o (c :: l)) + 1 by omega]
        exact goN_mono _ (ih _ _ (by rw [List.length_drop]; omega))
      · cases j with
        | zero => exact zero_le _
        | succ j =>
          have h2 : 2 ≤ brkL o (c :: l) := by unfold un at hj; omega
          rcases brk_two h2 with ⟨t, e, hb⟩ | ⟨ho, t, e, hb⟩ | ⟨ho, x, t, e, hb⟩
          · have : j = 0 := by unfold un at hj; omega
            subst this
            rw [e]
            show leP (wL o [13]) (wL o [13, 10])
            cases o <;> exact .inr ⟨rfl, Nat.le_refl _⟩
          · have : j = 0 := by unfold un at hj; omega
            subst this
            subst ho
            rw [e]
            show leP (wL true [194]) (wL true [194, 133])
            exact .inl (by decide)
          · subst ho
            have hj3 : j = 0 ∨ j = 1 := by unfold un at hj; omega
            rcases hj3 with rfl | rfl
            · rw [e]
              show leP (wL true [226]) (wL true [226, 128])
              exact .inr (by decide)
            · rw [wL_unit true c l (1 + 1 + 1) (by unfold un; omega)]
              have e1 : wL true ((c :: l).take (1 + 1)) = (0, 1) := by rw [e]; rfl
              rw [e1]
              have e2 : u1 true c l = (1, 0) := by unfold u1; rw [if_pos (by omega)]
              rw [e2]
              refine .inl ?_
              unfold goN
              split <;> simp only <;> omega
theorem rise (o : Bool) (l : List UInt8) (i : Nat) : ∀ (d : Nat), leP (wL o (l.take i)) (wL o (l.take (i + d)))
  | 0 => leP_refl _
  | d + 1 => leP_trans (rise o l i d) (rise_one o l.length l (i + d) (Nat.le_refl _))

/-! ### a cut between scalars -/
theorem bd_append (o : Bool) (B : List UInt8) : ∀ (n : Nat) (A : List UInt8), A.length ≤ n → (∀ j c r, A.drop j = c :: r → brkL o (c :: (r ++ B)) = brkL o (c :: r)) → Bd o (A ++ B) A.length := by
  intro n
  induction n with
  | zero =>
    intro A h _
    obtain rfl : A = [] := List.eq_nil_of_length_eq_zero (by omega)
    exact Bd.zero _
  | succ n ih =>
    intro A h hyp
    cases A with
    | nil => exact Bd.zero _
    | cons c r =>
      have h0 := hyp 0 c r rfl
      have hu : un o (c :: (r ++ B)) = un o (c :: r) := by unfold un; rw [h0]
      have hle := brkL_le o (c :: r)
      have hul : un o (c :: r) ≤ (c :: r).length := by unfold un; simp only [List.length_cons] at hle ⊢; omega
      have hup := un_pos o (c :: r)
      have hb := ih ((c :: r).drop (un o (c :: r))) (by rw [List.length_drop]; omega) (fun j d t e => hyp (un o (c :: r) + j) d t (by rw [← List.drop_drop]; exact e))
      have := Bd.step (o := o) c (r ++ B) ((c :: r).drop (un o (c :: r))).length (by
        rw [hu, ← List.cons_append, List.drop_append_of_le_length hul]
        exact hb)
      rw [hu, List.length_drop, show un o (c :: r) + ((c :: r).length - un o (c :: r)) = (c :: r).length by omega] at this
      exact this
theorem join_ok {A B : List UInt8} (o : Bool) (hA : Wl A) (hcr : ∀ A', A = A' ++ [13] → B.head? ≠ some 10) : ∀ j c r, A.drop j = c :: r → brkL o (c :: (r ++ B)) = brkL o (c :: r) := by
  intro j c r e
  obtain ⟨w2, w3⟩ := hA.whole j c r e
  unfold brkL
  simp only
  by_cases h13 : c = 13
  · rw [if_pos h13, if_pos h13]
    cases r with
    | nil =>
      have := hcr (A.take j) (by rw [← h13, ← e]; exact (List.take_append_drop j A).symm)
      rw [List.nil_append, if_neg this]
      rfl
    | cons d r => rfl
  · rw [if_neg h13, if_neg h13]
    by_cases h10 : c = 10
    · rw [if_pos h10, if_pos h10]
    · rw [if_neg h10, if_neg h10]
      have n3 : ∀ (P : Prop), c ≠ 226 → ¬(o = true ∧ c = 226 ∧ P) := fun P h e => h e.2.1
      have n2 : ∀ (P : Prop), c ≠ 194 → ¬(o = true ∧ c = 194 ∧ P) := fun P h e => h e.2.1
      by_cases h194 : c = 194
      · have := w2 h194
        have h226 : c ≠ 226 := fun e => absurd (h194.symm.trans e) (by decide)
        rw [if_neg (n3 _ h226), if_neg (n3 _ h226)]
        cases r with
        | nil => exact absurd this (by decide)
        | cons d r => rfl
      · rw [if_neg (n2 _ h194), if_neg (n2 _ h194)]
        by_cases h226 : c = 226
        · have := w3 h226
          rcases r with _ | ⟨d, _ | ⟨f, r⟩⟩
          · exact absurd this (by simp)
          · exact absurd this (by simp)
          · rfl
        · rw [if_neg (n3 _ h226), if_neg (n3 _ h226)]
theorem wL_join {A B : List UInt8} (o : Bool) (hA : Wl A) (hcr : ∀ A', A = A' ++ [13] → B.head? ≠ some 10) : wL o (A ++ B) = goN (wL o A) (wL o B) := by
  have h := wL_bd (bd_append o B A.length A (Nat.le_refl _) (join_ok o hA hcr)) (A ++ B).length (by rw [List.length_append]; omega)
  rw [List.take_length, List.take_left, List.drop_left, List.length_append, Nat.add_sub_cancel_left, List.take_length] at h
  exact h

/-! ### there and back -/
theorem goN_self {p q : Nat × Nat} (h : goN p q = p) : q = (0, 0) := by
  obtain ⟨a, b⟩ := p
  obtain ⟨c, d⟩ := q
  unfold goN at h
  simp only at h
  split at h
  · have := congrArg Prod.fst h
    simp only at this
    omega
  · have := congrArg Prod.snd h
    simp only at this
    simp only [Prod.mk.injEq]
    omega
theorem wL_lead (o : Bool) (c : UInt8) (l : List UInt8) (h : c.toNat < 128 ∨ 192 ≤ c.toNat) : wL o (c :: l) ≠ (0, 0) := by
  rw [wL_cons]
  have hc : cntB c = true := decide_eq_true h
  generalize wL o ((c :: l).drop (un o (c :: l))) = q
  unfold u1 goN
  intro e
  by_cases hb : 0 < brkL o (c :: l)
  · rw [if_pos hb] at e
    split at e <;> (have := congrArg Prod.fst e; simp only at this; omega)
  · rw [if_neg hb, if_pos hc] at e
    split at e
    · have := congrArg Prod.fst e; simp only at this; omega
    · have := congrArg Prod.snd e; simp only at this; omega
theorem lastI_is {P : Nat → Bool} {k : Nat} (hk : P k = true) : ∀ n, k < n → (∀ j, k < j → j < n → P j = false) → lastI P n = (k : Int) := by
  intro n
  induction n with
  | zero => intro h; omega
  | succ n ih =>
    intro h hj
    rw [lastI]
    by_cases e : n = k
    · subst e; rw [if_pos hk]
    · rw [hj n (by omega) (by omega), if_neg (by decide)]
      exact ih (by omega) (fun j h1 h2 => hj j h1 (by omega))
theorem off_back (v : Int) (s : ByteArray) (k : Nat) (hk : k ≤ s.size) (hw : Wl s.data.toList) (hwk : Wl (s.data.toList.take k)) (hcr : ∀ A', s.data.toList.take k = A' ++ [13] → (s.data.toList.drop k).head? ≠ some 10) :
    offR v s (zz (wL (v == 11) (s.data.toList.take k))) = (k : Int) := by
  have hdl : s.data.toList.length = s.size := by rw [Array.length_toList]; rfl
  rw [offR_last]
  refine lastI_is (by unfold atP; exact decide_eq_true rfl) _ (by omega) (fun j h1 h2 => ?_)
  unfold atP
  refine decide_eq_false (fun e => ?_)
  have hb := bd_append (v == 11) (s.data.toList.drop k) (s.data.toList.take k).length (s.data.toList.take k) (Nat.le_refl _) (join_ok _ hwk hcr)
  rw [List.take_append_drop, List.length_take, hdl, show min k s.size = k by omega] at hb
  have h := wL_bd hb j (by omega)
  rw [h] at e
  have h0 := goN_self (zz_inj.1 e)
  have hd : s.data.toList.drop k = s[k]'(by omega) :: s.data.toList.drop (k + 1) := drop_cons s k (by omega)
  have hl : Wl (s.data.toList.drop k) := hwk.tail _ (by rw [List.take_append_drop]; exact hw)
  rw [hd] at hl h0
  obtain ⟨m, hm⟩ : ∃ m, j - k = m + 1 := ⟨j - k - 1, by omega⟩
  rw [hm, List.take_succ_cons] at h0
  exact wL_lead _ _ _ hl.lead h0
end Go.Proofs.Ytbdjcfaocmhdnaa.Q
