/- Plain texts cut off where a part ends. Conditions: sizes. -/
import Derived.Test.YtcdkcdapbadkaaaDoorL20b
namespace Go.Mini
open Go Go.RowKit Go.Proofs
set_option maxRecDepth 100000
set_option linter.unusedVariables false
set_option linter.unusedSimpArgs false

section
variable {v : Int} {s : ByteArray} {flow : Bool}
theorem opens_stop {i : Int} (h : opensI v s i flow = true) : stopE v s flow i = false ∧ blankI s i = false := by
  have h0 := opensI_lt h
  have h35 := opensI_35 h
  unfold opensI at h
  simp only [Bool.and_eq_true, Bool.not_eq_true', decide_eq_true_eq] at h
  obtain ⟨⟨⟨_, h2⟩, h3⟩, h4⟩ := h
  unfold stopI at h2
  simp only [Bool.or_eq_false_iff, Bool.false_and, and_true] at h2
  refine ⟨?_, h2.1.2⟩
  unfold stopE remI
  rw [h2.1.1, h2.2, decide_eq_false h35]
  have hs : signB (byteAt s i.toNat) = false := by
    rw [Bool.eq_false_iff]; intro hs
    unfold signB at hs
    simp only [List.contains_iff_mem, List.mem_cons, List.not_mem_nil, or_false] at hs
    rcases hs with e | e | e | e | e <;> rw [e] at h3 <;> exact absurd h3 (by decide)
  rw [hs]
  have hc : (decide (byteAt s i.toNat = 58) && stopI v s (i + 1) flow) = false := by
    by_cases e : byteAt s i.toNat = 58
    · rw [e] at h4
      have hw : wantB 58 = true := by decide
      rw [hw] at h4
      rw [decide_eq_true e, Bool.true_and]
      simpa using h4
    · rw [decide_eq_false e, Bool.false_and]
  rw [hc]
  simp
theorem endP_nostop : ∀ (n : Nat) (e j : Int), e ≤ j → ∀ k, j ≤ k → k < (endP v s flow n e j).1 → stopE v s flow k = false
  | 0, e, j, he, k, h1, h2 => by rw [endP] at h2; simp only at h2; omega
  | n + 1, e, j, he, k, h1, h2 => by
    rw [endP] at h2
    split at h2
    · simp only at h2; omega
    · rename_i hs
      rcases Int.lt_or_eq_of_le h1 with h | h
      · split at h2
        · exact endP_nostop n e (j + 1) (by omega) k (by omega) h2
        · exact endP_nostop n (j + 1) (j + 1) (by omega) k (by omega) h2
      · subst h; simpa using hs
theorem endP_last : ∀ (n : Nat) (e j : Int), e ≤ j → (endP v s flow n e j).1 = e ∨ (j < (endP v s flow n e j).1 ∧ blankI s ((endP v s flow n e j).1 - 1) = false)
  | 0, e, j, he => .inl rfl
  | n + 1, e, j, he => by
    rw [endP]
    split
    · exact .inl rfl
    · split
      · rcases endP_last n e (j + 1) (by omega) with h | h
        · exact .inl h
        · exact .inr ⟨by omega, h.2⟩
      · rename_i hb
        rcases endP_last n (j + 1) (j + 1) (by omega) with h | h
        · exact .inr ⟨by omega, by rw [h, show j + 1 - 1 = j from by omega]; simpa using hb⟩
        · exact .inr ⟨by omega, h.2⟩
theorem part_facts {i : Int} (h : opensI v s i flow = true) : i < endsI v s i flow ∧ endsI v s i flow ≤ s.size ∧ blankI s (endsI v s i flow - 1) = false ∧ (∀ k, i ≤ k → k < endsI v s i flow → stopE v s flow k = false) := by
  have h0 := opensI_lt h
  obtain ⟨h1, h2⟩ := opens_stop h
  have hok := endsI_ok v (s := s) (i := i) flow h0.1 (by omega)
  have hgt : i < endsI v s i flow := by
    unfold endsI
    rw [endP_more h1 h2]
    have := (endP_ge v s flow (s.size - (i + 1)).toNat (i + 1) (i + 1) (Int.le_refl _) (by omega)).1
    omega
  refine ⟨hgt, hok.2, ?_, fun k q1 q2 => endP_nostop _ i i (Int.le_refl _) k q1 q2⟩
  rcases endP_last (v := v) (s := s) (flow := flow) (s.size - i).toNat i i (Int.le_refl _) with h | h
  · unfold endsI at hgt; omega
  · exact h.2
theorem stopI_flow {i : Int} (h : stopI v s i true = false) : stopI v s i false = false := by
  unfold stopI at h ⊢
  simp only [Bool.or_eq_false_iff, Bool.true_and] at h
  rw [h.1.1.1, h.1.1.2, h.1.2]; rfl
theorem opens_flow {i : Int} (h : opensI v s i true = true) : opensI v s i false = true := by
  unfold opensI at h ⊢
  simp only [Bool.and_eq_true, Bool.or_eq_true, Bool.not_eq_true'] at h ⊢
  refine ⟨h.1, ?_⟩
  rcases h.2 with h | h
  · exact .inl h
  · exact .inr (stopI_flow h)
theorem stopE_flow {i : Int} (h : stopE v s true i = false) : stopE v s false i = false := by
  unfold stopE at h ⊢
  simp only [Bool.or_eq_false_iff, Bool.true_and] at h
  obtain ⟨⟨⟨⟨h1, h2⟩, h3⟩, h4⟩, h5⟩ := h
  rw [h1, h2, h3]
  have : (decide (byteAt s i.toNat = 58) && stopI v s (i + 1) false) = false := by
    by_cases e : byteAt s i.toNat = 58
    · rw [decide_eq_true e, Bool.true_and] at h4 ⊢
      exact stopI_flow h4
    · rw [decide_eq_false e, Bool.false_and]
  rw [this]; rfl
theorem endP_succ {n : Nat} {e j : Int} (h : stopE v s flow j = false) : endP v s flow (n + 1) e j = if blankI s j = true then endP v s flow n e (j + 1) else endP v s flow n (j + 1) (j + 1) := by
  rw [endP, if_neg (by rw [h]; decide)]
theorem endP_flow : ∀ (n : Nat) (e j : Int), e ≤ j → j + n ≤ s.size → (endP v s true n e j).1 ≤ (endP v s false n e j).1
  | 0, e, j, he, hn => Int.le_refl _
  | n + 1, e, j, he, hn => by
    cases h : stopE v s true j with
    | true =>
      rw [endP_stop h]
      exact (endP_ge v s false (n + 1) e j he hn).1
    | false =>
      rw [endP_succ h, endP_succ (stopE_flow h)]
      split
      · exact endP_flow n e (j + 1) (by omega) (by omega)
      · exact endP_flow n (j + 1) (j + 1) (by omega) (by omega)
theorem part_flow {i : Int} : partI v s i true ≤ partI v s i false := by
  unfold partI
  by_cases h : opensI v s i true = true
  · have h0 := opensI_lt h
    rw [if_pos h, if_pos (opens_flow h)]
    exact endP_flow _ i i (Int.le_refl _) (by omega)
  · rw [if_neg h]
    split
    · rename_i h2
      have := (part_facts h2).1
      have := opensI_lt h2
      omega
    · omega
theorem part_range {i : Int} (h0 : 0 ≤ i) : partI v s i flow = -1 ∨ (i < partI v s i flow ∧ partI v s i flow ≤ s.size) := by
  unfold partI
  by_cases h : opensI v s i flow = true
  · rw [if_pos h]; exact .inr ⟨(part_facts h).1, (part_facts h).2.1⟩
  · rw [if_neg h]; exact .inl rfl

/-! ### Cut off -/
theorem pre_size {a : Int} (h0 : 0 ≤ a) (h1 : a ≤ s.size) : ((s.extract 0 a.toNat).size : Int) = a := by
  rw [ByteArray.size_extract]; omega
theorem pre_byte {a k : Int} (h0 : 0 ≤ k) (h1 : k < a) : byteAt (s.extract 0 a.toNat) k.toNat = byteAt s k.toNat := by
  unfold byteAt
  have := lst_ext s 0 a.toNat
  rw [List.drop_zero, Nat.sub_zero] at this
  rw [show (s.extract 0 a.toNat).data.toList = _ from this, List.getD_eq_getElem?_getD, List.getD_eq_getElem?_getD, List.getElem?_take, if_pos (by omega)]
theorem pre_out {a k : Int} (h0 : 0 ≤ a) (h1 : a ≤ s.size) (h : a ≤ k) : byteAt (s.extract 0 a.toNat) k.toNat = 0 := byteAt_out (by have := pre_size (s := s) h0 h1; omega)
theorem pre_brk {a k : Int} (h0 : 0 ≤ k) (h1 : k < a) (h2 : a ≤ s.size) (hb : brkI v s k = 0) : brkI v (s.extract 0 a.toNat) k = 0 := by
  rw [brkI_b v s h0] at hb
  rw [brkI_b v _ h0, pre_byte h0 h1]
  have nx : ∀ {m : Int} {c : UInt8}, 0 ≤ m → c ≠ 0 → byteAt (s.extract 0 a.toNat) m.toNat = c → byteAt s m.toNat = c := fun {m c} hm hc he => by
    rcases Int.lt_or_le m a with h | h
    · rw [pre_byte hm h] at he; exact he
    · rw [pre_out (by omega) h2 h] at he; exact absurd he.symm hc
  split at hb
  · split at hb <;> omega
  · rename_i h13
    rw [if_neg h13]
    split at hb
    · omega
    · rename_i h10
      rw [if_neg h10]
      split at hb
      · omega
      · rename_i hn
        rw [if_neg (fun h => hn ⟨h.1, h.2.1, nx (by omega) (by decide) h.2.2⟩)]
        split at hb
        · omega
        · rename_i hl
          rw [if_neg (fun h => hl ⟨h.1, h.2.1, h.2.2.imp (fun h => ⟨nx (by omega) (by decide) h.1, nx (by omega) (by decide) h.2⟩) (fun h => ⟨nx (by omega) (by decide) h.1, nx (by omega) (by decide) h.2⟩)⟩)]
theorem pre_blank {a k : Int} (h1 : k < a) : blankI (s.extract 0 a.toNat) k = blankI s k := by
  unfold blankI
  by_cases h0 : 0 ≤ k
  · rw [pre_byte h0 h1]
  · rw [decide_eq_false h0, Bool.false_and, Bool.false_and]
theorem pre_stopI {a k : Int} (h0 : 0 ≤ k) (h1 : k < a) (h2 : a ≤ s.size) (h : stopI v s k flow = false) : stopI v (s.extract 0 a.toNat) k flow = false := by
  have hsz := pre_size (s := s) (a := a) (by omega) h2
  unfold stopI at h ⊢
  simp only [Bool.or_eq_false_iff, decide_eq_false_iff_not] at h ⊢
  obtain ⟨⟨⟨_, q2⟩, q3⟩, q4⟩ := h
  have hb := pre_brk (v := v) h0 h1 h2 (by have := brkI_nn v s k; omega)
  exact ⟨⟨⟨by omega, by rw [pre_blank h1]; exact q2⟩, by omega⟩, by rw [pre_byte h0 h1]; exact q4⟩
theorem pre_stopE {a k : Int} (h0 : 0 ≤ k) (h1 : k < a) (h2 : a ≤ s.size) (h : stopE v s flow k = false) (hl : k + 1 = a → byteAt s k.toNat ≠ 58) : stopE v (s.extract 0 a.toNat) flow k = false := by
  have hsz := pre_size (s := s) (a := a) (by omega) h2
  unfold stopE at h ⊢
  simp only [Bool.or_eq_false_iff, decide_eq_false_iff_not] at h ⊢
  obtain ⟨⟨⟨⟨_, q2⟩, q3⟩, q4⟩, q5⟩ := h
  have hb := pre_brk (v := v) h0 h1 h2 (by have := brkI_nn v s k; omega)
  refine ⟨⟨⟨⟨by omega, by omega⟩, ?_⟩, ?_⟩, by rw [pre_byte h0 h1]; exact q5⟩
  · unfold remI at q3 ⊢
    rw [pre_byte h0 h1, pre_blank (by omega)]; exact q3
  · rw [pre_byte h0 h1]
    by_cases e : byteAt s k.toNat = 58
    · rw [decide_eq_true e, Bool.true_and] at q4 ⊢
      have : k + 1 ≠ a := fun h => hl h e
      exact pre_stopI (by omega) (by omega) h2 q4
    · rw [decide_eq_false e, Bool.false_and]
theorem endP_pre {a : Int} (h2 : a ≤ s.size) (hall : ∀ k, 0 ≤ k → k < a → stopE v (s.extract 0 a.toNat) flow k = false) (hbl : blankI s (a - 1) = false) : ∀ (n : Nat) (e j : Int), 0 ≤ j → j + n = a → (j = a → e = a) → (endP v (s.extract 0 a.toNat) flow n e j).1 = a
  | 0, e, j, hj, hn, he => by rw [endP]; exact he (by omega)
  | n + 1, e, j, hj, hn, he => by
    rw [endP, if_neg (by rw [hall j hj (by omega)]; decide), pre_blank (by omega)]
    split
    · rename_i hb
      refine endP_pre h2 hall hbl n e (j + 1) (by omega) (by omega) fun h => ?_
      rw [show j = a - 1 from by omega, hbl] at hb; cases hb
    · exact endP_pre h2 hall hbl n (j + 1) (j + 1) (by omega) (by omega) fun h => h
/-- What was cut off is one part, if no sign is its last that wants another one. -/
theorem part_cut {a : Int} (ha : partI v s 0 flow = a) (h0 : 0 < a) (hlast : byteAt s (a - 1).toNat ≠ 58) (hone : a = 1 → byteAt s 0 ≠ 45 ∧ byteAt s 0 ≠ 63) : partI v (s.extract 0 a.toNat) 0 flow = a := by
  have ho : opensI v s 0 flow = true := by
    unfold partI at ha; split at ha
    · assumption
    · omega
  have hE : endsI v s 0 flow = a := by unfold partI at ha; rw [if_pos ho] at ha; exact ha
  obtain ⟨f1, f2, f3, f4⟩ := part_facts ho
  rw [hE] at f1 f2 f3 f4
  have hsz := pre_size (s := s) (a := a) (by omega) f2
  have hall : ∀ k, 0 ≤ k → k < a → stopE v (s.extract 0 a.toNat) flow k = false := fun k q1 q2 => pre_stopE q1 q2 f2 (f4 k q1 q2) fun h => by rw [show k = a - 1 from by omega]; exact hlast
  have hop : opensI v (s.extract 0 a.toNat) 0 flow = true := by
    unfold opensI at ho ⊢
    simp only [Bool.and_eq_true, Bool.or_eq_true, Bool.not_eq_true', decide_eq_true_eq] at ho ⊢
    obtain ⟨⟨⟨_, q2⟩, q3⟩, q4⟩ := ho
    refine ⟨⟨⟨by omega, pre_stopI (by omega) (by omega) f2 q2⟩, by rw [pre_byte (by omega) (by omega)]; exact q3⟩, ?_⟩
    rw [pre_byte (by omega) (by omega)]
    rcases q4 with q4 | q4
    · exact .inl q4
    · by_cases h1 : a = 1
      · left
        obtain ⟨e1, e2⟩ := hone h1
        subst h1
        have e3 : byteAt s 0 ≠ 58 := hlast
        unfold wantB
        rw [Bool.eq_false_iff]
        intro hw
        simp only [List.contains_iff_mem, List.mem_cons, List.not_mem_nil, or_false] at hw
        rcases hw with e | e | e
        · exact e1 e
        · exact e2 e
        · exact e3 e
      · exact .inr (pre_stopI (by omega) (by omega) f2 q4)
  unfold partI
  rw [if_pos hop]
  unfold endsI
  rw [hsz]
  exact endP_pre f2 hall f3 _ 0 0 (by omega) (by omega) fun h => by omega
theorem part_line {a : Int} (ha : partI v s 0 flow = a) (h0 : 0 < a) : (linesI v (s.extract 0 a.toNat)).length = 1 := by
  have ho : opensI v s 0 flow = true := by
    unfold partI at ha; split at ha
    · assumption
    · omega
  have hE : endsI v s 0 flow = a := by unfold partI at ha; rw [if_pos ho] at ha; exact ha
  obtain ⟨f1, f2, f3, f4⟩ := part_facts ho
  rw [hE] at f1 f2 f3 f4
  have hsz := pre_size (s := s) (a := a) (by omega) f2
  have nb : ∀ k, 0 ≤ k → k < a → brkI v (s.extract 0 a.toNat) k = 0 := fun k q1 q2 => pre_brk q1 q2 f2 (by
    have := f4 k q1 q2
    unfold stopE at this
    simp only [Bool.or_eq_false_iff, decide_eq_false_iff_not] at this
    have := brkI_nn v s k
    omega)
  have key : ∀ (n : Nat) (k : Int), 0 ≤ k → k + n = a → endI v (s.extract 0 a.toNat) k = a := by
    intro n
    induction n with
    | zero => intro k q1 q2; rw [endI_stop q1 (.inl (by omega))]; omega
    | succ n ih =>
      intro k q1 q2
      rw [← endI_next q1 (by omega) (by rw [nb k q1 (by omega)]; omega)]
      exact ih (k + 1) (by omega) (by omega)
  have e1 := key a.toNat 0 (by omega) (by omega)
  have e2 : a ≤ nxtI v (s.extract 0 a.toNat) 0 := by
    unfold nxtI; rw [e1]
    have := brkI_nn v (s.extract 0 a.toNat) a
    omega
  rw [linesI_chain, chainL, if_neg (by omega), chainL_end (by omega)]
  rfl
end
end Go.Mini
