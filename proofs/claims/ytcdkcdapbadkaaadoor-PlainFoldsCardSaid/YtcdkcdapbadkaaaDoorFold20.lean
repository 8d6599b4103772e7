/- Plain texts of letters: where a part ends, how lines are folded. Conditions: none. -/
import Derived.Test.YtcdkcdapbadkaaaDoorL20b
namespace Go.Mini
open Go Go.RowKit Go.Proofs
set_option maxRecDepth 100000
set_option linter.unusedVariables false
set_option linter.unusedSimpArgs false

def Sat (s : ByteArray) (i : Int) (l : List UInt8) : Prop := 0 ≤ i ∧ i ≤ s.size ∧ (lst s).drop i.toNat = l
theorem Sat.start (l : List UInt8) : Sat (strOf l) 0 l := ⟨Int.le_refl _, by omega, by rw [lst_strOf]; rfl⟩
theorem lst_len (s : ByteArray) : (lst s).length = s.size := Array.length_toList
section
variable {v : Int} {s : ByteArray} {flow : Bool} {i : Int} {c : UInt8} {l r w : List UInt8}
theorem Sat.len (h : Sat s i l) : i + l.length = s.size := by
  have := lst_len s
  obtain ⟨h0, h1, h2⟩ := h
  rw [← h2, List.length_drop]; omega
theorem Sat.app (h : Sat s i (w ++ r)) : Sat s (i + w.length) r := by
  have hl := h.len
  obtain ⟨h0, h1, h2⟩ := h
  simp only [List.length_append] at hl
  refine ⟨by omega, by omega, ?_⟩
  rw [show (i + (w.length : Int)).toNat = i.toNat + w.length from by omega, ← List.drop_drop, h2, List.drop_left]
theorem Sat.step (h : Sat s i (c :: l)) : Sat s (i + 1) l := Sat.app (w := [c]) h
theorem Sat.lt (h : Sat s i (c :: l)) : i < s.size := by have := h.len; simp only [List.length_cons] at this; omega
theorem Sat.byte (h : Sat s i (c :: l)) : byteAt s i.toNat = c := by
  unfold byteAt
  have e : (lst s)[i.toNat]? = some c := by
    have := congrArg (fun x => x[0]?) h.2.2
    simpa [List.getElem?_drop] using this
  rw [show s.data.toList = lst s from rfl, List.getD_eq_getElem?_getD, e]; rfl
theorem Sat.nil (h : Sat s i []) : byteAt s i.toNat = 0 := byteAt_out (by have := h.len; simp only [List.length_nil] at this; omega)
theorem Sat.blank (h : Sat s i (c :: l)) : blankI s i = isBl c := by
  unfold blankI; rw [h.byte, decide_eq_true h.1, Bool.true_and]
theorem Sat.brk (h : Sat s i l) : brkI v s i = (brkL (decide (v = 11)) l : Nat) := by
  unfold brkI; rw [if_pos h.1, h.2.2]
theorem Sat.eol (h : Sat s i l) : endI v s i = i + (Go.Mini.eol (decide (v = 11)) l : Nat) := by
  unfold endI; rw [h.2.2]
theorem Sat.over (h : Sat s i l) : overI s i = i + (bls l : Nat) := by
  unfold overI; rw [if_pos h.1, h.2.2]
theorem Sat.take (h : Sat s i (w ++ r)) : bytesI s i (i + w.length) = w := by
  unfold bytesI
  rw [h.2.2, show (i + (w.length : Int) - i).toNat = w.length from by omega, List.take_left]

/-- Bytes that stand within a part, whatever is before and behind them. -/
def okc (flow : Bool) (c : UInt8) : Bool := !([13, 10, 194, 226, 58, 35, 32, 9].contains c) && !(flow && signB c)
theorem okc_ne (h : okc flow c = true) : c ≠ 13 ∧ c ≠ 10 ∧ c ≠ 194 ∧ c ≠ 226 ∧ c ≠ 58 ∧ c ≠ 35 ∧ isBl c = false ∧ (flow && signB c) = false := by
  unfold okc at h
  simp only [Bool.and_eq_true, Bool.not_eq_true', List.contains_eq_mem, List.mem_cons, List.not_mem_nil, or_false, decide_eq_false_iff_not, not_or] at h
  obtain ⟨⟨h1, h2, h3, h4, h5, h6, h7, h8⟩, h9⟩ := h
  refine ⟨h1, h2, h3, h4, h5, h6, ?_, h9⟩
  have e1 : ¬ (c.toNat : Int) = 32 := fun e => h7 (UInt8.toNat_inj.1 (by exact_mod_cast e))
  have e2 : ¬ (c.toNat : Int) = 9 := fun e => h8 (UInt8.toNat_inj.1 (by exact_mod_cast e))
  unfold isBl; rw [decide_eq_false e1, decide_eq_false e2]; rfl
theorem brkL_no {old : Bool} (h1 : c ≠ 13) (h2 : c ≠ 10) (h3 : c ≠ 194) (h4 : c ≠ 226) : brkL old (c :: l) = 0 := by
  rw [brkL, if_neg h1, if_neg h2, if_neg (fun h => h3 h.2.1), if_neg (fun h => h4 h.2.1)]
theorem Sat.stopI (h : Sat s i (c :: l)) (hb : brkL (decide (v = 11)) (c :: l) = 0) (hc : isBl c = false) (hf : (flow && signB c) = false) : stopI v s i flow = false := by
  have := h.lt
  unfold Go.Mini.stopI
  rw [h.blank, h.brk, h.byte, hb, hc, hf, decide_eq_false (by omega)]; rfl
theorem Sat.stopE (h : Sat s i (c :: l)) (hb : brkL (decide (v = 11)) (c :: l) = 0) (hr : c = 35 → blankI s (i - 1) = false) (hc : c = 58 → Go.Mini.stopI v s (i + 1) flow = false) (hf : (flow && signB c) = false) : stopE v s flow i = false := by
  have := h.lt
  unfold Go.Mini.stopE remI
  rw [h.brk, h.byte, hb, hf, decide_eq_false (by omega)]
  have e1 : (decide (0 ≤ i) && decide (c = 35) && blankI s (i - 1)) = false := by
    by_cases e : c = 35
    · rw [hr e, Bool.and_false]
    · rw [decide_eq_false e, Bool.and_false, Bool.false_and]
  have e2 : (decide (c = 58) && Go.Mini.stopI v s (i + 1) flow) = false := by
    by_cases e : c = 58
    · rw [hc e, Bool.and_false]
    · rw [decide_eq_false e, Bool.false_and]
  rw [e1, e2]; rfl
theorem Sat.okE (h : Sat s i (c :: l)) (hk : okc flow c = true) : Go.Mini.stopE v s flow i = false := by
  obtain ⟨h1, h2, h3, h4, h5, h6, h7, h8⟩ := okc_ne hk
  exact h.stopE (brkL_no h1 h2 h3 h4) (fun e => absurd e h6) (fun e => absurd e h5) h8
/-- Where the sweep stands, if it stands at j and told no blank since. -/
abbrev endsJ (v : Int) (s : ByteArray) (flow : Bool) (e j : Int) : Int := (endP v s flow (s.size - j).toNat e j).1
theorem endsJ_step {e : Int} (h1 : Go.Mini.stopE v s flow i = false) (h2 : blankI s i = false) : endsJ v s flow e i = endsJ v s flow (i + 1) (i + 1) := by
  unfold endsJ; rw [endP_more h1 h2]
theorem endsJ_blank {e : Int} (h1 : Go.Mini.stopE v s flow i = false) (h2 : blankI s i = true) : endsJ v s flow e i = endsJ v s flow e (i + 1) := by
  unfold endsJ; rw [endP_blank h1 h2]
theorem endsJ_stop {e : Int} (h1 : Go.Mini.stopE v s flow i = true) : endsJ v s flow e i = e := by
  unfold endsJ; rw [endP_stop h1]
theorem sweep : ∀ {w : List UInt8} {i e : Int}, Sat s i (w ++ r) → w.all (okc flow) = true → w ≠ [] → endsJ v s flow e i = endsJ v s flow (i + w.length) (i + w.length)
  | [], i, e, h, hw, h0 => absurd rfl h0
  | c :: w, i, e, h, hw, h0 => by
    simp only [List.all_cons, Bool.and_eq_true] at hw
    obtain ⟨h1, h2, h3, h4, h5, h6, h7, h8⟩ := okc_ne hw.1
    have h' : Sat s i (c :: (w ++ r)) := h
    rw [endsJ_step (h'.okE hw.1) (by rw [h'.blank]; exact h7)]
    have hl : i + ((c :: w).length : Int) = i + 1 + w.length := by simp only [List.length_cons]; omega
    rw [hl]
    by_cases e0 : w = []
    · subst e0; simp
    · exact sweep h'.step hw.2 e0
theorem part_of (hs : Sat s i (c :: l)) (hb : brkL (decide (v = 11)) (c :: l) = 0) (hc : isBl c = false) (hn : neverB c = false) (hw : wantB c = true → Go.Mini.stopI v s (i + 1) flow = false) : partI v s i flow = endsJ v s flow i i := by
  unfold partI
  have : opensI v s i flow = true := by
    unfold opensI
    rw [hs.stopI hb hc rfl, hs.byte, hn, decide_eq_true hs.1]
    cases hwc : wantB c with
    | true => rw [hw hwc]; rfl
    | false => rfl
  rw [if_pos this]; rfl
theorem part_not (hs : Sat s i (c :: l)) (hn : neverB c = true ∨ (wantB c = true ∧ Go.Mini.stopI v s (i + 1) flow = true)) : partI v s i flow = -1 := by
  unfold partI
  rw [if_neg]
  unfold opensI
  rw [hs.byte]
  rcases hn with h | ⟨h1, h2⟩
  · rw [h]; simp
  · rw [h1, h2]; simp

/-! ### Letters -/
def isLet (c : UInt8) : Bool := decide (97 ≤ c.toNat) && decide (c.toNat ≤ 122)
theorem isLet_all (P : UInt8 → Bool) (hP : (List.range 26).all (fun k => P (UInt8.ofNat (97 + k))) = true) (h : isLet c = true) : P c = true := by
  unfold isLet at h
  simp only [Bool.and_eq_true, decide_eq_true_eq] at h
  have := List.all_eq_true.1 hP (c.toNat - 97) (List.mem_range.2 (by omega))
  rw [show 97 + (c.toNat - 97) = c.toNat from by omega] at this
  simpa using this
theorem isLet_ok (h : isLet c = true) : okc true c = true ∧ okc false c = true ∧ neverB c = false ∧ wantB c = false ∧ c ≠ 45 ∧ c ≠ 46 ∧ c ≠ 32 := by
  have := isLet_all (fun c => okc true c && okc false c && !neverB c && !wantB c && !(c == 45) && !(c == 46) && !(c == 32)) (by decide) h
  simp only [Bool.and_eq_true, Bool.not_eq_true', beq_eq_false_iff_ne, ne_eq] at this
  obtain ⟨⟨⟨⟨⟨⟨h1, h2⟩, h3⟩, h4⟩, h5⟩, h6⟩, h7⟩ := this
  exact ⟨h1, h2, h3, h4, h5, h6, h7⟩
theorem let_okc (h : isLet c = true) : okc flow c = true := by cases flow; exact (isLet_ok h).2.1; exact (isLet_ok h).1
theorem lets_ok (h : w.all isLet = true) : w.all (okc flow) = true := List.all_eq_true.2 fun c hc => let_okc (List.all_eq_true.1 h c hc)
def letL (l : List UInt8) : List UInt8 := 113 :: l.map fun b => UInt8.ofNat (97 + b.toNat % 26)
theorem letL_ne (l : List UInt8) : letL l ≠ [] := by simp [letL]
theorem letL_len (l : List UInt8) : (letL l).length = l.length + 1 := by simp [letL]
theorem letL_let (l : List UInt8) : (letL l).all isLet = true := by
  refine List.all_eq_true.2 fun c hc => ?_
  unfold letL at hc
  rcases List.mem_cons.1 hc with rfl | hc
  · decide
  · obtain ⟨b, _, rfl⟩ := List.mem_map.1 hc
    unfold isLet
    rw [UInt8.toNat_ofNat']
    simp only [Bool.and_eq_true, decide_eq_true_eq]
    omega
theorem endsJ_end {e : Int} (h : Sat s i []) : endsJ v s flow e i = e := endsJ_stop (by
  have := h.len
  simp only [List.length_nil] at this
  unfold Go.Mini.stopE
  rw [decide_eq_true (by omega)]; rfl)
theorem stopI_end (h : Sat s i []) : stopI v s i flow = true := by
  have := h.len
  simp only [List.length_nil] at this
  unfold Go.Mini.stopI
  rw [decide_eq_true (by omega)]; rfl
theorem stopI_blank (h : Sat s i (c :: l)) (hb : isBl c = true) : stopI v s i flow = true := by
  unfold Go.Mini.stopI
  rw [h.blank, hb]; simp
theorem stopI_brk (h : Sat s i (10 :: l)) : stopI v s i flow = true := by
  unfold Go.Mini.stopI
  rw [h.brk]; simp [brkL]
theorem stopI_let (h : Sat s i (c :: l)) (hc : isLet c = true) : stopI v s i flow = false := by
  obtain ⟨h1, h2, h3, h4, h5, h6, h7, h8⟩ := okc_ne (flow := flow) (let_okc hc)
  exact h.stopI (brkL_no h1 h2 h3 h4) h7 h8
/-- Over a blank that nothing stops. -/
theorem space {e : Int} (h : Sat s i (32 :: l)) : endsJ v s flow e i = endsJ v s flow e (i + 1) := by
  refine endsJ_blank (h.stopE (by simp [brkL]) (fun e => absurd e (by decide)) (fun e => absurd e (by decide)) ?_) (by rw [h.blank]; decide)
  rw [show signB 32 = false from by decide]; simp
theorem part_let (h : Sat s i (w ++ r)) (hw : w.all isLet = true) (h0 : w ≠ []) : partI v s i flow = endsJ v s flow (i + w.length) (i + w.length) := by
  rcases w with _ | ⟨c, w⟩
  · exact absurd rfl h0
  have hc : isLet c = true := List.all_eq_true.1 hw c (List.mem_cons_self ..)
  obtain ⟨h1, h2, h3, h4, h5, h6, h7, h8⟩ := okc_ne (flow := flow) (let_okc hc)
  obtain ⟨_, _, k1, k2, _⟩ := isLet_ok hc
  rw [← sweep h (lets_ok hw) h0]
  exact part_of (c := c) (l := w ++ r) h (brkL_no h1 h2 h3 h4) h7 k1 fun e => absurd e (by rw [k2]; decide)
theorem sweep_let {e : Int} (h : Sat s i (w ++ r)) (hw : w.all isLet = true) (h0 : w ≠ []) : endsJ v s flow e i = endsJ v s flow (i + w.length) (i + w.length) := sweep h (lets_ok hw) h0
/-- The last part. -/
theorem sweep_end {e : Int} (h : Sat s i w) (hw : w.all isLet = true) (h0 : w ≠ []) : endsJ v s flow e i = i + w.length := by
  have h' : Sat s i (w ++ []) := by simpa using h
  rw [sweep_let h' hw h0, endsJ_end h'.app]

/-! ### Sign by sign -/
theorem first_let {t : List UInt8} (ht : t.all isLet = true) (h0 : t ≠ []) (hc : c = 45 ∨ c = 63 ∨ c = 58) (h : Sat s i (c :: t)) : stopI v s (i + 1) flow = false := by
  rcases t with _ | ⟨d, t⟩
  · exact absurd rfl h0
  exact stopI_let h.step (List.all_eq_true.1 ht d (List.mem_cons_self ..))
theorem first_step (hc : c = 45 ∨ c = 63 ∨ c = 58) (h : Sat s i (c :: l)) (hn : stopI v s (i + 1) flow = false) : partI v s i flow = endsJ v s flow (i + 1) (i + 1) := by
  have hf : (flow && signB c) = false := by rcases hc with rfl | rfl | rfl <;> cases flow <;> decide
  have hb : brkL (decide (v = 11)) (c :: l) = 0 := by rcases hc with rfl | rfl | rfl <;> simp [brkL]
  have hl : isBl c = false := by rcases hc with rfl | rfl | rfl <;> decide
  rw [part_of h hb hl (by rcases hc with rfl | rfl | rfl <;> decide) (fun _ => hn)]
  exact endsJ_step (h.stopE hb (fun e => by rcases hc with rfl | rfl | rfl <;> exact absurd e (by decide)) (fun _ => hn) hf) (by rw [h.blank]; exact hl)
theorem sg_first {t : List UInt8} (ht : t.all isLet = true) (h0 : t ≠ []) (hc : c = 45 ∨ c = 63 ∨ c = 58) : partI v (strOf (c :: t)) 0 flow = t.length + 1 := by
  have h := Sat.start (c :: t)
  rw [first_step hc h (first_let ht h0 hc h), sweep_end h.step ht h0]; omega
theorem sg_never {t : List UInt8} (ht : t.all isLet = true) (h0 : t ≠ []) (hn : neverB c = true) : partI v (strOf (c :: t)) 0 flow = -1 := part_not (Sat.start _) (.inl hn)
theorem sg_gap {t : List UInt8} (ht : t.all isLet = true) (h0 : t ≠ []) (hc : c = 45 ∨ c = 63 ∨ c = 58) : partI v (strOf (c :: 32 :: t)) 0 flow = -1 :=
  part_not (Sat.start _) (.inr ⟨by rcases hc with rfl | rfl | rfl <;> decide, stopI_blank (Sat.start _).step (by decide)⟩)
theorem sg_alone {t : List UInt8} (ht : t.all isLet = true) (h0 : t ≠ []) (hc : c = 45 ∨ c = 63 ∨ c = 58) : partI v (strOf [c]) 0 flow = -1 :=
  part_not (Sat.start _) (.inr ⟨by rcases hc with rfl | rfl | rfl <;> decide, stopI_end (Sat.start _).step⟩)
theorem sg_sign {t : List UInt8} (ht : t.all isLet = true) (h0 : t ≠ []) (hc : c = 45 ∨ c = 63 ∨ c = 58) : (partI v (strOf (c :: 93 :: t)) 0 flow = -1) ↔ flow = true := by
  have h := Sat.start (c :: 93 :: t)
  cases flow with
  | true =>
    refine ⟨fun _ => rfl, fun _ => part_not h (.inr ⟨by rcases hc with rfl | rfl | rfl <;> decide, ?_⟩)⟩
    unfold stopI; rw [h.step.byte]; simp [signB]
  | false =>
    have hn : stopI v (strOf (c :: 93 :: t)) (0 + 1) false = false := h.step.stopI (by simp [brkL]) (by decide) rfl
    rw [first_step hc h hn]
    have h' : Sat (strOf (c :: 93 :: t)) (0 + 1) ((93 :: t) ++ []) := by simpa using h.step
    rw [sweep h' (by rw [List.all_cons, lets_ok ht]; rfl) (by simp), endsJ_end h'.app]
    constructor
    · intro h; omega
    · intro h; cases h
theorem sg_in {t : List UInt8} (ht : t.all isLet = true) (h0 : t ≠ []) (hn : neverB c = true) : partI v (strOf (t ++ c :: t)) 0 flow = if (flow && signB c) = true then (t.length : Int) else 2 * t.length + 1 := by
  have h := Sat.start (t ++ c :: t)
  rw [part_let h ht h0]
  have h1 := h.app
  split
  · rename_i hf
    rw [endsJ_stop]
    · omega
    · unfold stopE; rw [h1.byte, hf]; simp
  · rename_i hf
    have hf : (flow && signB c) = false := by simpa using hf
    have hcs : c ∈ [44, 91, 93, 123, 125, 35, 38, 42, 33, 124, 62, 39, 34, 37, 64, (96 : UInt8)] := by
      unfold neverB at hn; simpa only [List.contains_iff_mem] using hn
    have hb : brkL (decide (v = 11)) (c :: t) = 0 ∧ isBl c = false ∧ c ≠ 58 := by
      have : ([44, 91, 93, 123, 125, 35, 38, 42, 33, 124, 62, 39, 34, 37, 64, (96 : UInt8)]).all (fun c => !(c == 13) && !(c == 10) && !(c == 194) && !(c == 226) && !isBl c && !(c == 58)) = true := by decide
      have := List.all_eq_true.1 this c hcs
      simp only [Bool.and_eq_true, Bool.not_eq_true', beq_eq_false_iff_ne, ne_eq] at this
      exact ⟨brkL_no this.1.1.1.1.1 this.1.1.1.1.2 this.1.1.1.2 this.1.1.2, this.1.2, this.2⟩
    have hlast : blankI (strOf (t ++ c :: t)) (0 + (t.length : Int) - 1) = false := by
      rcases List.eq_nil_or_concat t with e | ⟨p, d, e⟩
      · exact absurd e h0
      · have hd : isLet d = true := List.all_eq_true.1 ht d (by rw [e]; simp)
        have h2 : Sat (strOf (t ++ c :: t)) 0 (p ++ (d :: (c :: t))) := by
          have e2 : p ++ (d :: (c :: t)) = t ++ c :: t := by
            have e' : t = p ++ [d] := by simpa using e
            rw [e']; simp
          rw [e2]; exact h
        have h3 := h2.app.blank
        have e3 : (0 : Int) + (t.length : Int) - 1 = 0 + (p.length : Int) := by rw [e]; simp <;> omega
        rw [e3, h3]
        exact (okc_ne (flow := false) (let_okc hd)).2.2.2.2.2.2.1
    rw [endsJ_step (h1.stopE hb.1 (fun _ => hlast) (fun e => absurd e hb.2.2) hf) (by rw [h1.blank]; exact hb.2.1), sweep_end h1.step ht h0]
    omega
theorem sg_blank {t : List UInt8} (ht : t.all isLet = true) (h0 : t ≠ []) : partI v (strOf (t ++ 32 :: (t ++ 32 :: 35 :: t))) 0 flow = 2 * t.length + 1 := by
  have h := Sat.start (t ++ 32 :: (t ++ 32 :: 35 :: t))
  rw [part_let h ht h0, space h.app, sweep_let h.app.step ht h0, space h.app.step.app, endsJ_stop]
  · omega
  · have h2 := h.app.step.app.step
    unfold stopE remI
    rw [h2.byte, show (0 + (t.length : Int) + 1 + (t.length : Int) + 1 - 1) = 0 + (t.length : Int) + 1 + (t.length : Int) from by omega, h.app.step.app.blank, decide_eq_true h2.1]
    simp [isBl]
theorem sg_colon {t : List UInt8} (ht : t.all isLet = true) (h0 : t ≠ []) : partI v (strOf (t ++ 58 :: t)) 0 flow = 2 * t.length + 1 := by
  have h := Sat.start (t ++ 58 :: t)
  have hn := first_let (v := v) (flow := flow) ht h0 (.inr (.inr rfl)) h.app
  rw [part_let h ht h0, endsJ_step (h.app.stopE (by simp [brkL]) (fun e => absurd e (by decide)) (fun _ => hn) (by cases flow <;> decide)) (by rw [h.app.blank]; decide), sweep_end h.app.step ht h0]
  omega
theorem colon_stop (h : Sat s i (58 :: l)) (hs : stopI v s (i + 1) flow = true) : stopE v s flow i = true := by
  unfold stopE; rw [h.byte, hs]; simp
theorem sg_value {t : List UInt8} (ht : t.all isLet = true) (h0 : t ≠ []) : partI v (strOf (t ++ 32 :: 58 :: 32 :: t)) 0 flow = t.length := by
  have h := Sat.start (t ++ 32 :: 58 :: 32 :: t)
  rw [part_let h ht h0, space h.app, endsJ_stop (colon_stop h.app.step (stopI_blank h.app.step.step (by decide)))]
  omega
theorem sg_key {t : List UInt8} (ht : t.all isLet = true) (h0 : t ≠ []) : partI v (strOf (t ++ [58, 10])) 0 flow = t.length := by
  have h := Sat.start (t ++ [58, 10])
  rw [part_let h ht h0, endsJ_stop (colon_stop h.app (stopI_brk h.app.step))]
  omega
end
end Go.Mini
