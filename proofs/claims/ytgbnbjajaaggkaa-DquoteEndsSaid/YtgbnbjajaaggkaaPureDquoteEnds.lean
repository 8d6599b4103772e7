/- The plain law of DquoteEnds: without its end it is none; a marker within is told; what a backslash stands ahead of doesn't end it. No condition but the row's bounds. -/
import Derived.Test.YtgbnbjajaaggkaaPureDefDquoteEnds
import Derived.Test.YtgbnbjajaaggkaaDqTxt
namespace Go.Proofs.Ytgbnbjajaaggkaa.Q
open Go Go.RowKit Go.Proofs.YtgbnbjajaaggkaaW.PrintWords Go.Proofs.YtgbnbjajaaggkaaW.PrintLast Go.Proofs.YtgbnbjajaaggkaaW.PrintMore
set_option linter.unusedVariables false
set_option linter.unusedSimpArgs false

def qlets (l : List UInt8) : List UInt8 := 113 :: lets l
theorem qlets_word {l : List UInt8} : ∀ c ∈ qlets l, wordB2 c := by
  intro c hc
  rcases List.mem_cons.1 hc with rfl | h
  · exact ⟨⟨by decide, by decide, by decide, by decide⟩, by decide, by decide, by decide, by decide⟩
  · exact lets_word c h
theorem qlets_length (l : List UInt8) : (qlets l).length = l.length + 1 := by unfold qlets; rw [List.length_cons, lets_length]
/-- The two markers. -/
def markL (b : Bool) : List UInt8 := if b = true then [46, 46, 46, 10] else [45, 45, 45, 32]
theorem markL_length (b : Bool) : (markL b).length = 4 := by cases b <;> rfl

section
variable (v : Int) (p r : List UInt8)
theorem ends_1 : readF v (txt ([120, 34] ++ qlets p ++ [92, 34] ++ lets r)) 1 = (⟨#[]⟩, 0, 11, 1) := by
  have hz : (txt ([120, 34] ++ qlets p ++ [92, 34] ++ lets r)).size = 2 + (qlets p).length + 2 + (lets r).length := by rw [txt_size]; simp only [List.length_append, List.length_cons, List.length_nil]
  have h0 : rest (txt ([120, 34] ++ qlets p ++ [92, 34] ++ lets r)) 0 = 120 :: 34 :: (qlets p ++ (92 :: 34 :: lets r)) := by rw [rest_txt]; simp
  generalize txt ([120, 34] ++ qlets p ++ [92, 34] ++ lets r) = s at h0 hz
  have h1 := (rest_head h0).2
  have h2 := (rest_head h1).2
  have g1 := goes_word (v := v) (l := []) h2 qlets_word
  have h3 := rest_append h2
  have g2 := g1.trans (goes_single h3 (not_brk _ _ _ (by decide) (by decide) (by decide) (by decide)) (by decide) (by show (0 : Int) ≤ 34; decide))
  have h4 : rest s (0 + 1 + 1 + (qlets p).length + 2) = lets r ++ [] := by rw [List.append_nil]; exact rest_append (t := [92, 34]) h3
  have g3 := g2.trans (goes_word h4 lets_word)
  exact Goes.none (i := 1) (rest_lt h1) (rest_head h1).1 g3 (by omega)

theorem ends_2 (b : Bool) (hs : p.length + r.length ≤ 1000) : readF v (txt ([34] ++ qlets p ++ [10] ++ markL b ++ lets r)) 0 = (⟨#[]⟩, 0, 11, ((2 + (qlets p).length : Nat) : Int)) := by
  have hz : (txt ([34] ++ qlets p ++ [10] ++ markL b ++ lets r)).size = 1 + (qlets p).length + 1 + 4 + (lets r).length := by rw [txt_size]; simp only [List.length_append, List.length_cons, List.length_nil, markL_length]
  have h0 : rest (txt ([34] ++ qlets p ++ [10] ++ markL b ++ lets r)) 0 = 34 :: (qlets p ++ (10 :: (markL b ++ lets r))) := by rw [rest_txt]; simp
  generalize txt ([34] ++ qlets p ++ [10] ++ markL b ++ lets r) = s at h0 hz
  have h1 := (rest_head h0).2
  have g1 := goes_word (v := v) (l := []) h1 qlets_word
  have h2 := rest_append h1
  have h3 : rest s (0 + 1 + (qlets p).length + 1) = markL b ++ lets r := (rest_head h2).2
  have hm : markedN v s (0 + 1 + (qlets p).length + 1) = true := by
    cases b with
    | true => exact mark_brk (b := [10]) (t := lets r) h3 (isBrk_lf v _)
    | false => exact mark_blank h3
  have hf : foldF v s (0 + 1 + (qlets p).length) = (none, 0 + 1 + (qlets p).length + 1) := foldN_mark (b := [10]) h2 (isBrk_lf v _) hm
  have hp := part_bad (v := v) (b := []) (l := [] ++ qlets p) h2 (by intro c hc; cases hc) (word_noBlank (by decide)) (by show 0 < (1 : Nat); decide) hf
  have := Goes.bad (i := 0) (rest_lt h0) (rest_head h0).1 g1 (rest_lt h2) (by rw [(rest_head h2).1]; decide) hp
  refine this.trans ?_
  congr 3
  omega

theorem lets_not {t : List UInt8} (ht : ∀ c u, t = c :: u → c ≠ 45 ∧ c ≠ 46 ∧ ¬ blankB c ∧ c ≠ 13 ∧ c ≠ 10 ∧ c ≠ 194 ∧ c ≠ 226) : ∀ c u, lets r ++ t = c :: u → c ≠ 45 ∧ c ≠ 46 ∧ ¬ blankB c ∧ c ≠ 13 ∧ c ≠ 10 ∧ c ≠ 194 ∧ c ≠ 226 := by
  intro c u h
  cases r with
  | nil => exact ht c u h
  | cons d r =>
    have : letB d = c := (List.cons.inj h).1
    rw [← this]
    have a := letB_not d
    have b := letB_word d
    exact ⟨a.1, a.2.1, a.2.2, b.2.1, b.2.2.1, b.2.2.2.1, b.2.2.2.2⟩
theorem ends_3 (b : Bool) (hs : p.length + r.length ≤ 1000) : ∃ o : ByteArray, readF v (txt ([34] ++ qlets p ++ [10, 32] ++ markL b ++ lets r ++ [34])) 0 = (o, ((2 + (qlets p).length + 2 + 4 + (lets r).length : Nat) : Int), 0, 0) ∧ (qlets p).length < o.size := by
  have hz : (txt ([34] ++ qlets p ++ [10, 32] ++ markL b ++ lets r ++ [34])).size = 1 + (qlets p).length + 2 + 4 + (lets r).length + 1 := by rw [txt_size]; simp only [List.length_append, List.length_cons, List.length_nil, markL_length]
  have h0 : rest (txt ([34] ++ qlets p ++ [10, 32] ++ markL b ++ lets r ++ [34])) 0 = 34 :: (qlets p ++ ([10] ++ ([32] ++ (markL b ++ (lets r ++ [34]))))) := by rw [rest_txt]; simp
  have hsz : (txt ([34] ++ qlets p ++ [10, 32] ++ markL b ++ lets r ++ [34])).size ≤ 1000000 := by rw [hz, qlets_length, lets_length]; omega
  generalize txt ([34] ++ qlets p ++ [10, 32] ++ markL b ++ lets r ++ [34]) = s at h0 hz hsz
  have h1 := (rest_head h0).2
  have g1 := goes_word (v := v) (l := []) h1 qlets_word
  have h2 := rest_append h1
  have hq : ∀ c u, ([34] : List UInt8) = c :: u → c ≠ 45 ∧ c ≠ 46 ∧ ¬ blankB c ∧ c ≠ 13 ∧ c ≠ 10 ∧ c ≠ 194 ∧ c ≠ 226 := fun c u h => by rw [← (List.cons.inj h).1]; decide
  have hr := lets_not r hq
  obtain ⟨m0, mt, hm0, hmb⟩ : ∃ c u, markL b ++ (lets r ++ [34]) = c :: u ∧ (c = 46 ∨ c = 45) := by
    cases b with
    | true => exact ⟨46, _, rfl, .inl rfl⟩
    | false => exact ⟨45, _, rfl, .inr rfl⟩
  have hf := fold_one (v := v) (b := [10]) (w := [32]) h2 (isBrk_lf v _) (by intro c hc; rw [List.mem_singleton] at hc; rw [hc]; decide)
    (by rw [hm0]; exact word_noBlank (by rcases hmb with rfl | rfl <;> decide)) (by rw [hm0]; rcases hmb with rfl | rfl <;> exact not_brk _ _ _ (by decide) (by decide) (by decide) (by decide))
    (fun c t h => by rw [← (List.cons.inj h).1]; decide)
  have g2 := g1.trans (goes_fold (b := []) (t := [10] ++ ([32] ++ (markL b ++ (lets r ++ [34])))) h2 (by intro c hc; cases hc) (word_noBlank (by decide)) (by show 0 < (1 : Nat); decide) hsz hf.1)
  have h3 := hf.2
  have fin : ∀ (l : List UInt8) (a : Nat), Goes v s (0 + 1) [] a l → rest s a = lets r ++ [34] → a + (lets r).length + 1 = s.size → (qlets p).length < l.length →
      ∃ o : ByteArray, readF v s (0 : Nat) = (o, ((2 + (qlets p).length + 2 + 4 + (lets r).length : Nat) : Int), 0, 0) ∧ (qlets p).length < o.size := by
    intro l a g h ha hl
    have g' := g.trans (goes_word h lets_word)
    refine ⟨⟨(l ++ lets r).toArray⟩, (Goes.read (i := 0) (rest_lt h0) (rest_head h0).1 g' (rest_append h)).trans ?_, ?_⟩
    · have e : (((a + (lets r).length : Nat) : Int)) + 1 = ((2 + (qlets p).length + 2 + 4 + (lets r).length : Nat) : Int) := by omega
      rw [e]
    · show (qlets p).length < (l ++ lets r).toArray.size
      rw [List.size_toArray, List.length_append]
      omega
  have e1 : (foldedL 1).length = 1 := rfl
  cases b with
  | false =>
    have h4 : rest s (0 + 1 + (qlets p).length + [(10 : UInt8)].length + [(32 : UInt8)].length) = [45, 45, 45] ++ ([32] ++ (lets r ++ [34])) := h3
    have g3 := g2.trans (goes_word h4 (by intro c hc; simp at hc; rw [hc]; exact ⟨⟨by decide, by decide, by decide, by decide⟩, by decide, by decide, by decide, by decide⟩))
    have h5 := rest_append h4
    have g4 := g3.trans (goes_blanks h5 (by intro c hc; rw [List.mem_singleton] at hc; rw [hc]; decide) (by simp) (fun c u h => (hr c u h).2.2.1) (by
      cases ht : lets r ++ [34] with
      | nil => rfl
      | cons c u => have := hr c u ht; exact not_brk _ _ _ this.2.2.2.1 this.2.2.2.2.1 this.2.2.2.2.2.1 this.2.2.2.2.2.2))
    exact fin _ _ g4 (rest_append h5) (by simp only [List.length_cons, List.length_nil]; omega) (by simp only [List.length_append, List.length_cons, List.length_nil, e1]; omega)
  | true =>
    have h4 : rest s (0 + 1 + (qlets p).length + [(10 : UInt8)].length + [(32 : UInt8)].length) = [46, 46, 46] ++ ([10] ++ ([] ++ (lets r ++ [34]))) := h3
    have g3 := g2.trans (goes_word h4 (by intro c hc; simp at hc; rw [hc]; exact ⟨⟨by decide, by decide, by decide, by decide⟩, by decide, by decide, by decide, by decide⟩))
    have h5 := rest_append h4
    have hf2 := fold_one (v := v) (b := [10]) (w := []) h5 (isBrk_lf v _) (by intro c hc; cases hc) (fun c u h => (hr c u h).2.2.1) (by
      cases ht : lets r ++ [34] with
      | nil => rfl
      | cons c u => have := hr c u ht; exact not_brk _ _ _ this.2.2.2.1 this.2.2.2.2.1 this.2.2.2.2.2.1 this.2.2.2.2.2.2) (fun c u h => ⟨(hr c u h).1, (hr c u h).2.1⟩)
    have g4 := g3.trans (goes_fold (b := []) (t := [10] ++ ([] ++ (lets r ++ [34]))) h5 (by intro c hc; cases hc) (word_noBlank (by decide)) (by show 0 < (1 : Nat); decide) hsz hf2.1)
    exact fin _ _ g4 hf2.2 (by simp only [List.length_cons, List.length_nil]; omega) (by simp only [List.length_append, List.length_cons, List.length_nil, e1]; omega)

theorem ends_4 : readF v (⟨#[120, 34]⟩ : ByteArray) 0 = (⟨#[]⟩, 0, 11, 0) := by
  unfold readF
  rw [dif_pos (by decide), if_neg (by decide)]
theorem ends_5 : readF v (txt ([34] ++ qlets p ++ [92, 113] ++ lets r)) 0 = (⟨#[]⟩, 0, 14, ((1 + (qlets p).length : Nat) : Int)) := by
  have h0 : rest (txt ([34] ++ qlets p ++ [92, 113] ++ lets r)) 0 = 34 :: (qlets p ++ (92 :: 113 :: lets r)) := by rw [rest_txt]; simp
  generalize txt ([34] ++ qlets p ++ [92, 113] ++ lets r) = s at h0
  have h1 := (rest_head h0).2
  have g1 := goes_word (v := v) (l := []) h1 qlets_word
  have h2 := rest_append h1
  have hp := bad_single (v := v) (l := [] ++ qlets p) h2 (not_brk _ _ _ (by decide) (by decide) (by decide) (by decide)) (by decide) (by show (-1 : Int) < 0; decide)
  have := Goes.bad (i := 0) (rest_lt h0) (rest_head h0).1 g1 (rest_lt h2) (by rw [(rest_head h2).1]; decide) hp
  refine this.trans ?_
  first | rfl | (congr 3; omega)
end

theorem read_some (v : Int) (s : ByteArray) (i : Int) {R : ByteArray × Int × Int × Int} (hs : s.size ≤ 1000000) (h : readF v s i = R) : dquote_Read.f v s i = some R := (if_pos hs).trans (congrArg some h)

theorem ends_j3 (v : Int) (p r : List UInt8) (b : Bool) (hp : p.length ≤ 60) (hr : r.length ≤ 60) : Ev (fun k => targumlaw17_DquoteEnds.j3 k (txt (qlets p)) (txt (lets r)) v (txt (markL b))) true := by
  have hP := qlets_length p
  have hR := lets_length r
  have hM := markL_length b
  obtain ⟨o, ho, hol⟩ := ends_3 v p r b (by omega)
  have sz : ∀ l : List UInt8, l.length ≤ 1000 → (txt l).size ≤ 1000000 := fun l h => by rw [txt_size]; omega
  have r1 := read_some v _ _ (sz _ (by simp only [List.length_append, List.length_cons, List.length_nil]; omega)) (ends_1 v p r)
  have r2 := read_some v _ _ (sz _ (by simp only [List.length_append, List.length_cons, List.length_nil]; omega)) (ends_2 v p r b (by omega))
  have r3 := read_some v _ _ (sz _ (by simp only [List.length_append, List.length_cons, List.length_nil]; omega)) ho
  have r4 := read_some v _ _ (by decide) (ends_4 v)
  have r5 := read_some v _ _ (sz _ (by simp only [List.length_append, List.length_cons, List.length_nil]; omega)) (ends_5 v p r)
  have a1 : (⟨#[120, 34]⟩ : ByteArray) ++ txt (qlets p) = txt ([120, 34] ++ qlets p) := txt_append [120, 34] _
  have a2 : txt ([120, 34] ++ qlets p) ++ (⟨#[92, 34]⟩ : ByteArray) = txt ([120, 34] ++ qlets p ++ [92, 34]) := txt_append _ [92, 34]
  have a3 : (⟨#[34]⟩ : ByteArray) ++ txt (qlets p) = txt ([34] ++ qlets p) := txt_append [34] _
  have a4 : txt ([34] ++ qlets p) ++ (⟨#[10]⟩ : ByteArray) = txt ([34] ++ qlets p ++ [10]) := txt_append _ [10]
  have a5 : txt ([34] ++ qlets p) ++ (⟨#[10, 32]⟩ : ByteArray) = txt ([34] ++ qlets p ++ [10, 32]) := txt_append _ [10, 32]
  have a6 : ∀ x, txt x ++ (⟨#[34]⟩ : ByteArray) = txt (x ++ [34]) := fun x => txt_append _ [34]
  have a7 : txt ([34] ++ qlets p) ++ (⟨#[92, 113]⟩ : ByteArray) = txt ([34] ++ qlets p ++ [92, 113]) := txt_append _ [92, 113]
  refine Ev.step (fun k => by rw [targumlaw17_DquoteEnds.j3]) ?_
  rw [a1, a2, a3, a4, a5, a7]
  simp only [txt_append, a6]
  have bd : ∀ (l : List UInt8) (n : Nat), l.length ≤ 1000 → n ≤ 1000 → (txt l).size + n ≤ 9223372036854775807 := fun l n h h2 => by rw [txt_size]; omega
  refine ev_if_pos (by rw [txt_size]; omega) (ev_if_pos (bd _ _ (by simp only [List.length_append, List.length_cons, List.length_nil]; omega) (by omega)) (ev_if_pos (bd _ _ (by simp only [List.length_append, List.length_cons, List.length_nil]; omega) (by rw [txt_size]; omega)) ?_))
  rw [r1]
  refine Ev.bind (Ev.now _) (ev_if_pos (by rw [txt_size]; omega) (ev_if_pos (bd _ _ (by simp only [List.length_append, List.length_cons, List.length_nil]; omega) (by omega)) (ev_if_pos (bd _ _ (by simp only [List.length_append, List.length_cons, List.length_nil]; omega) (by rw [txt_size]; omega)) (ev_if_pos (bd _ _ (by simp only [List.length_append, List.length_cons, List.length_nil]; omega) (by rw [txt_size]; omega)) ?_))))
  rw [r2]
  refine Ev.bind (Ev.now _) (ev_if_pos (bd _ _ (by simp only [List.length_append, List.length_cons, List.length_nil]; omega) (by omega)) (ev_if_pos (bd _ _ (by simp only [List.length_append, List.length_cons, List.length_nil]; omega) (by rw [txt_size]; omega)) (ev_if_pos (bd _ _ (by simp only [List.length_append, List.length_cons, List.length_nil]; omega) (by rw [txt_size]; omega)) (ev_if_pos (bd _ _ (by simp only [List.length_append, List.length_cons, List.length_nil]; omega) (by omega)) ?_))))
  rw [r3]
  refine Ev.bind (Ev.now _) ?_
  rw [r4]
  refine Ev.bind (Ev.now _) (ev_if_pos (bd _ _ (by simp only [List.length_append, List.length_cons, List.length_nil]; omega) (by rw [txt_size]; omega)) ?_)
  rw [r5]
  refine Ev.bind (Ev.now _) (ev_if_pos (by decide) (ev_if_pos ?_ (ev_if_pos rfl (ev_if_pos ?_ (ev_if_pos ?_ (ev_if_pos (by decide) ?_))))))
  · rw [txt_size, wrap_id (by omega) (by omega)]
    show ((11 : Int) == 11 && (((2 + (qlets p).length : Nat) : Int) == 2 + ((qlets p).length : Int))) = true
    rw [show (((2 + (qlets p).length : Nat) : Int) == 2 + ((qlets p).length : Int)) = true from by rw [beq_iff_eq]; omega]
    rfl
  · rw [txt_size, txt_size, txt_size, wrap_id (x := 2 + ((qlets p).length : Int)) (by omega) (by omega), wrap_id (x := 2 + ((qlets p).length : Int) + 2) (by omega) (by omega), wrap_id (x := 2 + ((qlets p).length : Int) + 2 + ((markL b).length : Int)) (by omega) (by omega), wrap_id (by omega) (by omega)]
    show ((2 + (qlets p).length + 2 + 4 + (lets r).length : Nat) : Int) = _
    omega
  · rw [txt_size]
    show ((o.size : Nat) : Int) > _
    omega
  · rw [txt_size, wrap_id (by omega) (by omega)]
    have : ((14 : Int) == 14 && (((1 + (qlets p).length : Nat) : Int) == 1 + ((qlets p).length : Int))) = true := by
      rw [show (((1 + (qlets p).length : Nat) : Int) == 1 + ((qlets p).length : Int)) = true from by rw [beq_iff_eq]; omega]
      rfl
    show Ev (fun k => some ((14 : Int) == 14 && (((1 + (qlets p).length : Nat) : Int) == 1 + ((qlets p).length : Int)))) true
    rw [this]
    exact Ev.now _

theorem ends_l1 (x1 x2 : Bool) (x3 : ByteArray) (p : List UInt8) (hp : p.length ≤ 60) (h3 : x3.size ≤ 60) : ∀ (d i : Nat), x3.size - i ≤ d → i ≤ x3.size →
    Ev (fun k => targumlaw17_DquoteEnds.l1 k x1 x2 x3 (txt (qlets p)) (txt (lets (x3.data.toList.take i))) i) true := by
  have hdl : x3.data.toList.length = x3.size := by rw [Array.length_toList]; rfl
  have fin : Ev (fun k => targumlaw17_DquoteEnds.l1 k x1 x2 x3 (txt (qlets p)) (txt (lets (x3.data.toList.take x3.size))) x3.size) true := by
    refine Ev.step (fun k => by rw [targumlaw17_DquoteEnds.l1]) (ev_if_neg (by omega) ?_)
    obtain ⟨v, hv⟩ : ∃ v, targumhelp_Version.f x1 = some v := by unfold targumhelp_Version.f; split <;> exact ⟨_, rfl⟩
    rw [hv]
    refine Ev.bind (Ev.now v) ?_
    by_cases h2 : x2 = true
    · exact ev_if_pos h2 (ends_j3 v p _ true hp (by rw [List.length_take]; omega))
    · exact ev_if_neg h2 (ends_j3 v p _ false hp (by rw [List.length_take]; omega))
  intro d
  induction d with
  | zero =>
    intro i hd hi
    obtain rfl : i = x3.size := by omega
    exact fin
  | succ d ih =>
    intro i hd hi
    by_cases h : i < x3.size
    · refine Ev.step (fun k => by rw [targumlaw17_DquoteEnds.l1]) (ev_if_pos (by omega) (ev_if_pos (by omega) (Ev.bind (Ev.now _) ?_)))
      rw [let_num x3 i h, txt_append, ← lets_snoc x3 i h, show wrap64 ((i : Int) + 1) = ((i + 1 : Nat) : Int) from wrap_id (by omega) (by omega)]
      refine ev_if_pos ?_ (ih (i + 1) (by omega) h)
      rw [txt_size, txt_size, lets_length, List.length_take]
      simp only [List.length_cons, List.length_nil]
      omega
    · obtain rfl : i = x3.size := by omega
      exact fin
theorem ends_l0 (x0 : ByteArray) (x1 x2 : Bool) (x3 : ByteArray) (h0 : x0.size ≤ 60) (h3 : x3.size ≤ 60) : ∀ (d i : Nat), x0.size - i ≤ d → i ≤ x0.size →
    Ev (fun k => targumlaw17_DquoteEnds.l0 k x0 x1 x2 x3 (txt (qlets (x0.data.toList.take i))) i) true := by
  have hdl : x0.data.toList.length = x0.size := by rw [Array.length_toList]; rfl
  have fin : Ev (fun k => targumlaw17_DquoteEnds.l0 k x0 x1 x2 x3 (txt (qlets (x0.data.toList.take x0.size))) x0.size) true := by
    refine Ev.step (fun k => by rw [targumlaw17_DquoteEnds.l0]) (ev_if_neg (by omega) ?_)
    exact ends_l1 x1 x2 x3 _ (by rw [List.length_take]; omega) h3 x3.size 0 (by omega) (Nat.zero_le _)
  intro d
  induction d with
  | zero =>
    intro i hd hi
    obtain rfl : i = x0.size := by omega
    exact fin
  | succ d ih =>
    intro i hd hi
    by_cases h : i < x0.size
    · refine Ev.step (fun k => by rw [targumlaw17_DquoteEnds.l0]) (ev_if_pos (by omega) (ev_if_pos (by omega) (Ev.bind (Ev.now _) ?_)))
      have e : qlets (x0.data.toList.take i) ++ [letB x0[i]] = qlets (x0.data.toList.take (i + 1)) := by
        unfold qlets
        rw [lets_snoc x0 i h]
        rfl
      rw [let_num x0 i h, txt_append, e, show wrap64 ((i : Int) + 1) = ((i + 1 : Nat) : Int) from wrap_id (by omega) (by omega)]
      refine ev_if_pos ?_ (ih (i + 1) (by omega) h)
      rw [txt_size, txt_size, qlets_length, List.length_take]
      simp only [List.length_cons, List.length_nil]
      omega
    · obtain rfl : i = x0.size := by omega
      exact fin

theorem Pure.DquoteEnds : targumlaw17_DquoteEnds.Pure := by
  intro x0 x1 x2 x3 h0 h3
  refine Ev.rounds (r := true) ?_
  unfold targumlaw17_DquoteEnds.f targumlaw17_known.f
  refine Ev.bind (Ev.now true) (ev_if_pos rfl ?_)
  have out : Ev (fun k => targumlaw17_DquoteEnds.j0 k x0 x1 x2 x3 true) true := Ev.step (fun k => by rw [targumlaw17_DquoteEnds.j0]) (ev_if_pos rfl (Ev.now _))
  by_cases hx : (x0.size : Int) > 60
  · exact ev_if_pos hx out
  · refine ev_if_neg hx ?_
    by_cases hy : (x3.size : Int) > 60
    · rw [decide_eq_true hy]
      exact out
    · rw [decide_eq_false hy]
      refine Ev.step (fun k => by rw [targumlaw17_DquoteEnds.j0]) (ev_if_neg (by decide) ?_)
      exact ends_l0 x0 x1 x2 x3 (by omega) (by omega) x0.size 0 (by omega) (Nat.zero_le _)
end Go.Proofs.Ytgbnbjajaaggkaa.Q
