/- Texts as rows of bytes, letters, markers, folds: what the laws of texts in double quotes share. No condition but sizes. -/
import Derived.Test.YtgbnbjajaaggkaaDqGo
namespace Go.Proofs.Ytgbnbjajaaggkaa.Q
open Go Go.RowKit Go.Proofs Go.Proofs.YtgbnbjajaaggkaaW.PrintWords Go.Proofs.YtgbnbjajaaggkaaW.PrintLast Go.Proofs.YtgbnbjajaaggkaaW.PrintMore
set_option linter.unusedVariables false
set_option linter.unusedSimpArgs false

/-- A text of these bytes. -/
def txt (l : List UInt8) : ByteArray := ⟨l.toArray⟩
theorem txt_append (l m : List UInt8) : txt l ++ txt m = txt (l ++ m) := by
  apply ByteArray.ext
  rw [ByteArray.data_append]
  simp [txt]
theorem txt_size (l : List UInt8) : (txt l).size = l.length := by
  show l.toArray.size = _
  rw [List.size_toArray]
theorem rest_txt (l : List UInt8) : rest (txt l) 0 = l := rfl
theorem txt_data (s : ByteArray) : txt s.data.toList = s := by
  apply ByteArray.ext
  simp [txt]

/-! ### letters -/
def letB (c : UInt8) : UInt8 := UInt8.ofNat (97 + c.toNat % 26)
theorem letB_word (c : UInt8) : wordB2 (letB c) := by
  have h : (letB c).toNat = 97 + c.toNat % 26 := by
    unfold letB
    simp
    omega
  have key : ∀ k : UInt8, k.toNat < 97 ∨ 122 < k.toNat → letB c ≠ k := fun k hk e => by rw [e] at h; omega
  exact ⟨⟨key _ (by decide), key _ (by decide), key _ (by decide), key _ (by decide)⟩, key _ (by decide), key _ (by decide), key _ (by decide), key _ (by decide)⟩
theorem letB_not (c : UInt8) : letB c ≠ 45 ∧ letB c ≠ 46 ∧ ¬ blankB (letB c) := by
  have h : (letB c).toNat = 97 + c.toNat % 26 := by
    unfold letB
    simp
    omega
  have key : ∀ k : UInt8, k.toNat < 97 ∨ 122 < k.toNat → letB c ≠ k := fun k hk e => by rw [e] at h; omega
  exact ⟨key _ (by decide), key _ (by decide), fun hb => hb.elim (key _ (by decide)) (key _ (by decide))⟩
def lets (l : List UInt8) : List UInt8 := l.map letB
theorem lets_word {l : List UInt8} : ∀ c ∈ lets l, wordB2 c := by
  intro c hc
  obtain ⟨d, _, rfl⟩ := List.mem_map.1 hc
  exact letB_word d
theorem lets_length (l : List UInt8) : (lets l).length = l.length := List.length_map _
theorem let_num (s : ByteArray) (i : Nat) (h : i < s.size) : strOfNums [(97 + (Int.tmod (bt s (i : Int)) 26)) % 256] = txt [letB s[i]] := by
  rw [bt_nat s i h]
  have h2 : (Int.tmod ((s[i].toNat : Int)) 26) = ((s[i].toNat % 26 : Nat) : Int) := by rw [Int.tmod_eq_emod_of_nonneg (by omega)]; omega
  rw [h2]
  have h3 : (((97 : Int) + ((s[i].toNat % 26 : Nat) : Int)) % 256).toNat = 97 + s[i].toNat % 26 := by omega
  unfold strOfNums letB txt
  simp only [List.map_cons, List.map_nil, h3]
theorem lets_snoc (s : ByteArray) (i : Nat) (h : i < s.size) : lets (s.data.toList.take (i + 1)) = lets (s.data.toList.take i) ++ [letB s[i]] := by
  unfold lets
  rw [List.take_add_one, List.map_append]
  congr 1
  have : s.data.toList[i]? = some s[i] := by
    rw [List.getElem?_eq_getElem (by rw [Array.length_toList]; exact h)]
    rfl
  rw [this]
  rfl

/-! ### markers -/
theorem line_over {v : Int} {s : ByteArray} {w t : List UInt8} : ∀ {a n : Nat}, rest s a = w ++ t → (∀ c ∈ w, c ≠ 13 ∧ c ≠ 10 ∧ c ≠ 194 ∧ c ≠ 226) → lineN v s (n + w.length) a = lineN v s n (a + w.length) := by
  induction w with
  | nil => intro a n h hw; rfl
  | cons c w ih =>
    intro a n h hw
    have hc := hw c List.mem_cons_self
    have ha : a < s.size := rest_lt h
    have hb : brkN v s a = 0 := by rw [brk_rest, h]; exact not_brk _ _ _ hc.1 hc.2.1 hc.2.2.1 hc.2.2.2
    rw [List.length_cons, ← Nat.add_assoc, lineN, if_pos ⟨ha, hb⟩, ih (rest_head h).2 (fun c hc => hw c (List.mem_cons_of_mem _ hc))]
    congr 1
    omega
theorem mark_bytes {v : Int} {s : ByteArray} {a : Nat} : (s.extract a (lineN v s s.size a)).data.toList = (rest s a).take (lineN v s s.size a - a) := by
  rw [Lib.extract_data]; rfl
/-- Three signs and a break. -/
theorem mark_brk {v : Int} {s : ByteArray} {a : Nat} {b t : List UInt8} (h : rest s a = [46, 46, 46] ++ (b ++ t)) (hb : isBrk v b t) : markedN v s a = true := by
  have hlen := rest_length s a
  rw [h] at hlen
  simp only [List.length_append, List.length_cons, List.length_nil] at hlen
  have hl : lineN v s s.size a = a + 3 := by
    obtain ⟨n, hn⟩ : ∃ n, s.size = n + 3 := ⟨s.size - 3, by omega⟩
    have := line_over (v := v) (n := n) h (by intro c hc; simp at hc; rw [hc]; decide)
    rw [hn]
    refine this.trans ?_
    have hk : 0 < brkN v s (a + 3) := by
      rw [brk_rest, show rest s (a + 3) = b ++ t from rest_append (t := [46, 46, 46]) h, hb.2]
      exact hb.1
    cases n with
    | zero => rfl
    | succ n =>
      show lineN v s (n + 1) (a + 3) = a + 3
      rw [lineN, if_neg (fun h => by omega)]
  unfold markedN
  rw [mark_bytes, hl, h, show a + 3 - a = 3 by omega]
  rfl
/-- Three signs and a blank. -/
theorem mark_blank {v : Int} {s : ByteArray} {a : Nat} {t : List UInt8} (h : rest s a = [45, 45, 45, 32] ++ t) : markedN v s a = true := by
  have hlen := rest_length s a
  rw [h] at hlen
  simp only [List.length_append, List.length_cons, List.length_nil] at hlen
  have hl : a + 4 ≤ lineN v s s.size a := by
    obtain ⟨n, hn⟩ : ∃ n, s.size = n + 4 := ⟨s.size - 4, by omega⟩
    have := line_over (v := v) (n := n) h (by
      intro c hc
      simp at hc
      rcases hc with rfl | rfl <;> decide)
    rw [hn]
    refine Nat.le_trans ?_ (Nat.le_of_eq this.symm)
    exact (lineN_le v s n (a + 4) (by omega)).1
  unfold markedN
  rw [mark_bytes, h]
  obtain ⟨k, hk⟩ : ∃ k, lineN v s s.size a - a = k + 4 := ⟨lineN v s s.size a - a - 4, by omega⟩
  rw [hk]
  rfl
theorem part_bad {v : Int} {s : ByteArray} {a e : Nat} {b t l : List UInt8} (h : rest s a = b ++ t) (hb : ∀ c ∈ b, blankB c) (ht : noBlank t) (hk : 0 < brkL (v == 11) t)
    (hf : foldF v s (a + b.length) = (none, e)) : partR v s (foldF v s) a l = .bad 11 e := by
  have ho := over_blanks h hb ht
  have hb2 : 0 < brkN v s (a + b.length) := by rw [brk_rest, rest_append h]; exact hk
  unfold partR
  rw [ho, if_pos hb2]
  unfold foldR
  rw [hf]
theorem word_noBlank {c : UInt8} {t : List UInt8} (h : ¬ blankB c) : noBlank (c :: t) := fun d u e => by rw [← (List.cons.inj e).1]; exact h
theorem fold_one {v : Int} {s : ByteArray} {a : Nat} {b w l : List UInt8} (h : rest s a = b ++ (w ++ l)) (hb : isBrk v b (w ++ l)) (hw : ∀ c ∈ w, blankB c) (hl : noBlank l) (hk : brkL (v == 11) l = 0)
    (hm : ∀ c t, w ++ l = c :: t → c ≠ 45 ∧ c ≠ 46) : foldF v s a = (some 1, a + b.length + w.length) ∧ rest s (a + b.length + w.length) = l := by
  have hlen := rest_length s a
  have hbp := hb.1
  have h2 : 0 < s.size := by rw [h, List.length_append] at hlen; omega
  obtain ⟨n, hn⟩ : ∃ n, s.size + 1 = (n + 1) + 1 := ⟨s.size - 1, by omega⟩
  have := foldN_step (v := v) (k := n + 1) (n := 0) h hb hw hl hm
  unfold foldF
  rw [hn, this.1, foldN_end (by rw [this.2]; exact hk)]
  exact ⟨rfl, this.2⟩
end Go.Proofs.Ytgbnbjajaaggkaa.Q
