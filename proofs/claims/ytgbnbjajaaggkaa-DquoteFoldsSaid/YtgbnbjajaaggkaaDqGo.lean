/- How dquote.Read goes over letters, folded lines, joined lines, codes: steps of readL, each told from the text's bytes alone. No condition but sizes. -/
import Derived.Test.YtgbnbjajaaggkaaDqE
namespace Go.Proofs.Ytgbnbjajaaggkaa.Q
open Go Go.RowKit Go.Proofs Go.Proofs.YtgbnbjajaaggkaaW.PrintWords Go.Proofs.YtgbnbjajaaggkaaW.PrintLast Go.Proofs.YtgbnbjajaaggkaaW.PrintMore
set_option linter.unusedVariables false
set_option linter.unusedSimpArgs false

/-- The bytes from a on. -/
def rest (s : ByteArray) (a : Nat) : List UInt8 := s.data.toList.drop a
theorem rest_length (s : ByteArray) (a : Nat) : (rest s a).length = s.size - a := by
  unfold rest
  rw [List.length_drop, Array.length_toList]
  rfl
theorem rest_lt {s : ByteArray} {a : Nat} {c : UInt8} {l : List UInt8} (h : rest s a = c :: l) : a < s.size := by
  have := rest_length s a
  rw [h, List.length_cons] at this
  omega
theorem rest_head {s : ByteArray} {a : Nat} {c : UInt8} {l : List UInt8} (h : rest s a = c :: l) : s[a]'(rest_lt h) = c ∧ rest s (a + 1) = l := by
  have := drop_cons s a (rest_lt h)
  unfold rest at h ⊢
  rw [h] at this
  exact ⟨(List.cons.inj this).1.symm, (List.cons.inj this).2.symm⟩
theorem rest_append {s : ByteArray} {a : Nat} {t l : List UInt8} (h : rest s a = t ++ l) : rest s (a + t.length) = l := by
  unfold rest at h ⊢
  rw [← List.drop_drop, h, List.drop_left]
theorem rest_le {s : ByteArray} {a : Nat} {t l : List UInt8} (h : rest s a = t ++ l) (ht : t ≠ []) : a + t.length ≤ s.size := by
  have := rest_length s a
  have h2 : 0 < t.length := List.length_pos_iff.2 ht
  rw [h, List.length_append] at this
  omega
theorem brk_rest (v : Int) (s : ByteArray) (a : Nat) : brkN v s a = brkL (v == 11) (rest s a) := rfl
theorem over_rest (s : ByteArray) (a : Nat) : overN s a = a + ((rest s a).takeWhile fun c => c = 32 ∨ c = 9).length := rfl

/-- A break: its bytes, and what may stand behind it. -/
def isBrk (v : Int) (b l : List UInt8) : Prop := 0 < b.length ∧ brkL (v == 11) (b ++ l) = b.length
theorem isBrk_lf (v : Int) (l : List UInt8) : isBrk v [10] l := ⟨by decide, rfl⟩
theorem isBrk_crlf (v : Int) (l : List UInt8) : isBrk v [13, 10] l := ⟨by decide, rfl⟩
theorem isBrk_cr (v : Int) (l : List UInt8) (h : l.head? ≠ some 10) : isBrk v [13] l := ⟨by decide, by show (if l.head? = some 10 then 2 else 1) = 1; rw [if_neg h]⟩
theorem isBrk_nel (l : List UInt8) : isBrk 11 [194, 133] l := ⟨by decide, rfl⟩
theorem not_brk (o : Bool) (c : UInt8) (l : List UInt8) (h1 : c ≠ 13) (h2 : c ≠ 10) (h3 : c ≠ 194) (h4 : c ≠ 226) : brkL o (c :: l) = 0 := by
  unfold brkL
  dsimp only
  rw [if_neg h1, if_neg h2, if_neg (fun h => h3 h.2.1), if_neg (fun h => h4 h.2.1)]

def blankB (c : UInt8) : Prop := c = 32 ∨ c = 9
instance (c : UInt8) : Decidable (blankB c) := by unfold blankB; infer_instance
def noBlank (l : List UInt8) : Prop := ∀ c t, l = c :: t → ¬ blankB c
theorem over_blanks {s : ByteArray} {a : Nat} {b l : List UInt8} (h : rest s a = b ++ l) (hb : ∀ c ∈ b, blankB c) (hl : noBlank l) : overN s a = a + b.length := by
  rw [over_rest, h]
  congr 1
  induction b generalizing a with
  | nil =>
    cases l with
    | nil => rfl
    | cons c t => rw [List.nil_append, List.takeWhile_cons, if_neg (by rw [decide_eq_true_eq]; exact hl c t rfl)]
  | cons c b ih =>
    rw [List.cons_append, List.takeWhile_cons, if_pos (by rw [decide_eq_true_eq]; exact hb c (List.mem_cons_self)), List.length_cons, List.length_cons]
    rw [ih (a := a + 1) (rest_head h).2 (fun c hc => hb c (List.mem_cons_of_mem _ hc))]

/-! ### no marker -/
theorem lineN_size (v : Int) (s : ByteArray) (a : Nat) : lineN v s s.size a ≤ s.size ∨ s.size < a := by
  by_cases h : a ≤ s.size
  · exact .inl (lineN_le v s s.size a h).2
  · exact .inr (by omega)
/-- No marker stands where neither a - nor a point begins the line. -/
theorem no_mark {v : Int} {s : ByteArray} {a : Nat} (h : ∀ c t, rest s a = c :: t → c ≠ 45 ∧ c ≠ 46) : markedN v s a = false := by
  unfold markedN markB
  have e1 : (s.extract a (lineN v s s.size a)).data.toList = (rest s a).take (lineN v s s.size a - a) := by
    rw [Lib.extract_data]; rfl
  rw [e1, List.take_take]
  cases hr : rest s a with
  | nil => simp
  | cons c t =>
    obtain ⟨n1, n2⟩ := h c t hr
    cases hk : min 3 (lineN v s s.size a - a) with
    | zero => simp
    | succ k => simp [n1, n2]

/-! ### a row of breaks -/
theorem foldN_step {v : Int} {s : ByteArray} {k n a : Nat} {b w l : List UInt8} (h : rest s a = b ++ (w ++ l)) (hb : isBrk v b (w ++ l)) (hw : ∀ c ∈ w, blankB c) (hl : noBlank l)
    (hm : ∀ c t, w ++ l = c :: t → c ≠ 45 ∧ c ≠ 46) : foldN v s (k + 1) n a = foldN v s k (n + 1) (a + b.length + w.length) ∧ rest s (a + b.length + w.length) = l := by
  have e : brkN v s a = b.length := by rw [brk_rest, h]; exact hb.2
  have h1 := rest_append h
  have hp := hb.1
  rw [foldN, e, if_pos hp, no_mark (by rw [h1]; exact hm), if_neg (by decide), over_blanks h1 hw hl]
  exact ⟨rfl, rest_append h1⟩
theorem foldN_end {v : Int} {s : ByteArray} {k n a : Nat} (h : brkL (v == 11) (rest s a) = 0) : foldN v s (k + 1) n a = (some n, a) := by
  rw [foldN, brk_rest, h, if_neg (by decide)]
theorem foldN_mark {v : Int} {s : ByteArray} {k n a : Nat} {b l : List UInt8} (h : rest s a = b ++ l) (hb : isBrk v b l) (hm : markedN v s (a + b.length) = true) : foldN v s (k + 1) n a = (none, a + b.length) := by
  have e : brkN v s a = b.length := by rw [brk_rest, h]; exact hb.2
  have hp := hb.1
  rw [foldN, e, if_pos hp, if_pos hm]

/-! ### readL's steps -/
/-- From a place and a row to another place and row. -/
def Goes (v : Int) (s : ByteArray) (a : Nat) (l : List UInt8) (a' : Nat) (l' : List UInt8) : Prop :=
  ∃ n, n ≤ a' - a ∧ a ≤ a' ∧ ∀ f, readL v s (foldF v s) (f + n) a l = readL v s (foldF v s) f a' l'
theorem Goes.refl (v : Int) (s : ByteArray) (a : Nat) (l : List UInt8) : Goes v s a l a l := ⟨0, Nat.zero_le _, Nat.le_refl _, fun _ => rfl⟩
theorem Goes.trans {v : Int} {s : ByteArray} {a b c : Nat} {l m k : List UInt8} (h : Goes v s a l b m) (h2 : Goes v s b m c k) : Goes v s a l c k := by
  obtain ⟨n, hn, hab, h⟩ := h
  obtain ⟨n2, hn2, hbc, h2⟩ := h2
  exact ⟨n2 + n, by omega, by omega, fun f => by rw [← Nat.add_assoc, h, h2]⟩
theorem Goes.part {v : Int} {s : ByteArray} {a a' : Nat} {l l' : List UInt8} (h : a < s.size) (h34 : s[a] ≠ 34) (hp : partR v s (foldF v s) a l = .go a' l') (ha : a < a') : Goes v s a l a' l' :=
  ⟨1, by omega, by omega, fun f => by rw [readL, dif_pos h, if_neg h34, hp]⟩
/-- The end. -/
theorem Goes.read {v : Int} {s : ByteArray} {a : Nat} {l t : List UInt8} {i : Nat} (h0 : i < s.size) (hi : s[i] = 34) (h : Goes v s (i + 1) [] a l) (he : rest s a = 34 :: t) :
    readF v s (i : Int) = (⟨l.toArray⟩, (a : Int) + 1, 0, 0) := by
  obtain ⟨n, hn, hia, h⟩ := h
  have ha := rest_lt he
  have hr := h (s.size + 1 - n)
  rw [show s.size + 1 - n + n = s.size + 1 by omega] at hr
  unfold readF
  rw [dif_pos ⟨by omega, by rw [Int.toNat_natCast]; exact h0⟩]
  simp only [Int.toNat_natCast]
  rw [if_pos hi, hr]
  obtain ⟨m, hm⟩ : ∃ m, s.size + 1 - n = m + 1 := ⟨s.size - n, by omega⟩
  rw [hm, readL, dif_pos ha, if_pos (rest_head he).1]
  simp only [if_pos ha]
/-- An error on the way. -/
theorem Goes.bad {v : Int} {s : ByteArray} {a : Nat} {l : List UInt8} {i : Nat} {c o : Int} (h0 : i < s.size) (hi : s[i] = 34) (h : Goes v s (i + 1) [] a l) (ha : a < s.size) (h34 : s[a] ≠ 34)
    (hp : partR v s (foldF v s) a l = .bad c o) : readF v s (i : Int) = (⟨#[]⟩, 0, c, o) := by
  obtain ⟨n, hn, hia, h⟩ := h
  have hr := h (s.size + 1 - n)
  rw [show s.size + 1 - n + n = s.size + 1 by omega] at hr
  unfold readF
  rw [dif_pos ⟨by omega, by rw [Int.toNat_natCast]; exact h0⟩]
  simp only [Int.toNat_natCast]
  rw [if_pos hi, hr]
  obtain ⟨m, hm⟩ : ∃ m, s.size + 1 - n = m + 1 := ⟨s.size - n, by omega⟩
  rw [hm, readL, dif_pos ha, if_neg h34, hp]
/-- No end. -/
theorem Goes.none {v : Int} {s : ByteArray} {a : Nat} {l : List UInt8} {i : Nat} (h0 : i < s.size) (hi : s[i] = 34) (h : Goes v s (i + 1) [] a l) (ha : a = s.size) :
    readF v s (i : Int) = (⟨#[]⟩, 0, 11, (i : Int)) := by
  obtain ⟨n, hn, hia, h⟩ := h
  have hr := h (s.size + 1 - n)
  rw [show s.size + 1 - n + n = s.size + 1 by omega] at hr
  unfold readF
  rw [dif_pos ⟨by omega, by rw [Int.toNat_natCast]; exact h0⟩]
  simp only [Int.toNat_natCast]
  rw [if_pos hi, hr]
  obtain ⟨m, hm⟩ : ∃ m, s.size + 1 - n = m + 1 := ⟨s.size - n, by omega⟩
  rw [hm, readL, dif_neg (by omega)]
  simp only [if_neg (show ¬ a < s.size by omega)]

/-- A byte that stands for itself. -/
def plainB (c : UInt8) : Prop := c ≠ 34 ∧ c ≠ 92 ∧ c ≠ 32 ∧ c ≠ 9
theorem goes_byte {v : Int} {s : ByteArray} {a : Nat} {c : UInt8} {l t : List UInt8} (h : rest s a = c :: t) (hc : plainB c) (hb : brkL (v == 11) (c :: t) = 0) : Goes v s a l (a + 1) (l ++ [c]) := by
  have ha := rest_lt h
  have hh := (rest_head h).1
  have e : overN s a = a := by rw [overN_at ha, if_neg (by rw [hh]; exact fun h => h.elim hc.2.2.1 hc.2.2.2)]
  refine Goes.part ha (by rw [hh]; exact hc.1) ?_ (by omega)
  unfold partR
  rw [e, brk_rest, h, hb, if_neg (by decide), if_neg (by omega), dif_pos ha, if_neg (by rw [hh]; exact hc.2.1), hh]
/-- A letter, a digit, a sign of ASCII that stands for itself. -/
def wordB2 (c : UInt8) : Prop := plainB c ∧ c ≠ 13 ∧ c ≠ 10 ∧ c ≠ 194 ∧ c ≠ 226
theorem goes_word {v : Int} {s : ByteArray} {w t : List UInt8} : ∀ {a : Nat} {l : List UInt8}, rest s a = w ++ t → (∀ c ∈ w, wordB2 c) → Goes v s a l (a + w.length) (l ++ w) := by
  induction w with
  | nil => intro a l h hw; rw [List.append_nil]; exact Goes.refl ..
  | cons c w ih =>
    intro a l h hw
    have hc := hw c List.mem_cons_self
    have h1 := goes_byte (v := v) (l := l) h hc.1 (not_brk _ _ _ hc.2.1 hc.2.2.1 hc.2.2.2.1 hc.2.2.2.2)
    have h2 := ih (a := a + 1) (l := l ++ [c]) (rest_head h).2 (fun c hc => hw c (List.mem_cons_of_mem _ hc))
    rw [List.append_assoc, List.singleton_append, show a + 1 + w.length = a + (c :: w).length by rw [List.length_cons]; omega] at h2
    exact h1.trans h2
/-- Blanks ahead of no break. -/
theorem goes_blanks {v : Int} {s : ByteArray} {a : Nat} {b t l : List UInt8} (h : rest s a = b ++ t) (hb : ∀ c ∈ b, blankB c) (hne : b ≠ []) (ht : noBlank t) (hk : brkL (v == 11) t = 0) : Goes v s a l (a + b.length) (l ++ b) := by
  have e := over_blanks h hb ht
  have hlen : 0 < b.length := List.length_pos_iff.2 hne
  have ha : a < s.size := by have := rest_le h hne; omega
  obtain ⟨c, b', rfl⟩ := List.exists_cons_of_ne_nil hne
  have hh := (rest_head h).1
  refine Goes.part ha (by rw [hh]; intro h34; have := hb c List.mem_cons_self; rw [h34] at this; exact absurd this (by decide)) ?_ (by omega)
  unfold partR
  rw [e, brk_rest, rest_append h, hk, if_neg (by decide), if_pos (by omega)]
  congr 2
  rw [Lib.extract_data]
  show List.take _ (rest s a) = _
  rw [h, show a + (c :: b').length - a = (c :: b').length by omega, List.take_left]
/-- Blanks, then a row of breaks. -/
theorem goes_fold {v : Int} {s : ByteArray} {a n e : Nat} {b t l : List UInt8} (h : rest s a = b ++ t) (hb : ∀ c ∈ b, blankB c) (ht : noBlank t) (hk : 0 < brkL (v == 11) t) (hs : s.size ≤ 1000000)
    (hf : foldF v s (a + b.length) = (some n, e)) : Goes v s a l e (l ++ foldedL n) := by
  have ho := over_blanks h hb ht
  have hb2 : 0 < brkN v s (a + b.length) := by rw [brk_rest, rest_append h]; exact hk
  have hlen := rest_length s a
  have hal : a < s.size := by
    cases hr : rest s a with
    | nil =>
      rw [hr] at h
      have : t = [] := (List.append_eq_nil_iff.1 h.symm).2
      rw [this] at hk
      exact absurd hk (by simp [brkL])
    | cons c t => exact rest_lt hr
  have hle : a + b.length ≤ s.size := by rw [h, List.length_append] at hlen; omega
  obtain ⟨f1, f2, f3⟩ := (says v s hs).fold _ _ _ hle hb2 hf
  have h34 : s[a] ≠ 34 := by
    intro h34
    cases b with
    | nil =>
      rw [List.nil_append] at h
      rw [← h] at hk
      unfold rest at hk
      rw [drop_cons s a hal, h34, not_brk _ _ _ (by decide) (by decide) (by decide) (by decide)] at hk
      omega
    | cons c b =>
      have := hb c List.mem_cons_self
      rw [← (rest_head h).1, h34] at this
      exact absurd this (by decide)
  refine Goes.part hal h34 ?_ (by omega)
  unfold partR
  rw [ho, if_pos hb2]
  unfold foldR
  rw [hf]
  rfl
/-- A backslash ahead of a row of breaks. -/
theorem goes_join {v : Int} {s : ByteArray} {a n e : Nat} {t l : List UInt8} (h : rest s a = 92 :: t) (hk : 0 < brkL (v == 11) t) (hs : s.size ≤ 1000000)
    (hf : foldF v s (a + 1) = (some n, e)) : Goes v s a l e (l ++ Lib.repeatL [10] (n - 1)) := by
  have ha := rest_lt h
  obtain ⟨hh, ht⟩ := rest_head h
  have hb2 : 0 < brkN v s (a + 1) := by rw [brk_rest, ht]; exact hk
  have hle : a + 1 < s.size := by
    cases t with
    | nil => exact absurd hk (by simp [brkL])
    | cons c t => exact rest_lt ht
  obtain ⟨f1, f2, f3⟩ := (says v s hs).fold _ _ _ (by omega) hb2 hf
  have e1 : overN s a = a := by rw [overN_at ha, if_neg (by rw [hh]; decide)]
  have e2 : brkN v s a = 0 := by rw [brk_rest, h, not_brk _ _ _ (by decide) (by decide) (by decide) (by decide)]
  refine Goes.part ha (by rw [hh]; decide) ?_ (by omega)
  unfold partR
  rw [e1, e2, if_neg (by decide), if_neg (by omega), dif_pos ha, if_pos hh]
  unfold turnedR
  rw [dif_pos hle, if_pos hb2]
  unfold foldR
  rw [hf]
  rfl
theorem turned_at {v : Int} {s : ByteArray} {a : Nat} {t l : List UInt8} (h : rest s a = 92 :: t) : partR v s (foldF v s) a l = turnedR v s (foldF v s) a l := by
  have ha := rest_lt h
  obtain ⟨hh, ht⟩ := rest_head h
  have e1 : overN s a = a := by rw [overN_at ha, if_neg (by rw [hh]; decide)]
  have e2 : brkN v s a = 0 := by rw [brk_rest, h, not_brk _ _ _ (by decide) (by decide) (by decide) (by decide)]
  unfold partR
  rw [e1, e2, if_neg (by decide), if_neg (by omega), dif_pos ha, if_pos hh]
/-- A backslash and one sign. -/
theorem goes_single {v : Int} {s : ByteArray} {a : Nat} {c : UInt8} {t l : List UInt8} (h : rest s a = 92 :: c :: t) (hb : brkL (v == 11) (c :: t) = 0) (hw : widthI c ≤ 1) (hn : 0 ≤ singleN v c) : Goes v s a l (a + 2) (l ++ Lib.encodeRune (singleN v c)) := by
  have ha := rest_lt h
  obtain ⟨hh, ht⟩ := rest_head h
  have hlt := rest_lt ht
  have hc := (rest_head ht).1
  refine Goes.part ha (by rw [hh]; decide) ?_ (by omega)
  rw [turned_at h]
  unfold turnedR
  rw [dif_pos hlt, if_neg (by rw [brk_rest, ht, hb]; decide), if_neg (by rw [hc]; omega), if_neg (by rw [hc]; omega), hc]
theorem bad_single {v : Int} {s : ByteArray} {a : Nat} {c : UInt8} {t l : List UInt8} (h : rest s a = 92 :: c :: t) (hb : brkL (v == 11) (c :: t) = 0) (hw : widthI c ≤ 1) (hn : singleN v c < 0) : partR v s (foldF v s) a l = .bad 14 a := by
  obtain ⟨hh, ht⟩ := rest_head h
  have hlt := rest_lt ht
  have hc := (rest_head ht).1
  rw [turned_at h]
  unfold turnedR
  rw [dif_pos hlt, if_neg (by rw [brk_rest, ht, hb]; decide), if_neg (by rw [hc]; omega), if_pos (by rw [hc]; omega)]
/-- A backslash and digits. -/
theorem turned_hexR {v : Int} {s : ByteArray} {a wd : Nat} {c : UInt8} {t l : List UInt8} (h : rest s a = 92 :: c :: t) (hb : brkL (v == 11) (c :: t) = 0) (hw : widthI c = wd) (h1 : 1 < wd) : partR v s (foldF v s) a l = hexR s a wd l := by
  obtain ⟨hh, ht⟩ := rest_head h
  have hlt := rest_lt ht
  have hc := (rest_head ht).1
  rw [turned_at h]
  unfold turnedR
  rw [dif_pos hlt, if_neg (by rw [brk_rest, ht, hb]; decide), if_pos (by rw [hc]; omega), hc, hw, Int.toNat_natCast]
end Go.Proofs.Ytgbnbjajaaggkaa.Q
