/- The plain law of DquoteJoins: a backslash at a line's end joins it to the next one, whatever blanks that begins with; empty lines behind it are line feeds. No condition but the row's bounds. -/
import Derived.Test.YtgbnbjajaaggkaaPureDefDquoteJoins
import Derived.Test.YtgbnbjajaaggkaaDqGo
namespace Go.Proofs.Ytgbnbjajaaggkaa.Q
open Go Go.RowKit Go.Proofs.YtgbnbjajaaggkaaW.PrintWords Go.Proofs.YtgbnbjajaaggkaaW.PrintLast Go.Proofs.YtgbnbjajaaggkaaW.PrintMore
set_option linter.unusedVariables false
set_option linter.unusedSimpArgs false

/-- A text of these bytes. -/
def txt (l : List UInt8) : ByteArray := ⟨l.toArray⟩
theorem txt_append (l m : List UInt8) : txt l ++ txt m = txt (l ++ m) := by
  apply ByteArray.ext
  rw [ByteArray.data_append]
  simp [txt]
theorem txt_size (l : List UInt8) : (txt l).size = l.length := by
  show l.toArray.size = _
  rw [List.size_toArray]
theorem rest_txt (l : List UInt8) : rest (txt l) 0 = l := rfl
theorem rep_snoc (c : UInt8) (n : Nat) : txt (List.replicate n c) ++ txt [c] = txt (List.replicate (n + 1) c) := by
  rw [txt_append, List.replicate_succ']
theorem rep_repeat (n : Nat) : Lib.repeatL [10] n = List.replicate n 10 := by
  induction n with
  | zero => rfl
  | succ n ih => show [10] ++ Lib.repeatL [10] n = _; rw [ih]; rfl

def segs (B E : Nat) : List UInt8 := (List.replicate E (10 :: List.replicate B 9)).flatten
theorem segs_succ (B E : Nat) : segs B (E + 1) = (10 :: List.replicate B 9) ++ segs B E := by
  unfold segs; rw [List.replicate_succ, List.flatten_cons]
theorem segs_snoc (B E : Nat) : segs B (E + 1) = segs B E ++ (10 :: List.replicate B 9) := by
  unfold segs; rw [List.replicate_succ', List.flatten_append]; simp
theorem segs_length (B E : Nat) : (segs B E).length = E * (B + 1) := by
  induction E with
  | zero => simp [segs]
  | succ E ih => rw [segs_succ, List.length_append, ih, List.length_cons, List.length_replicate, Nat.succ_mul]; omega
def tail0 (l : List UInt8) : Prop := ∃ c t, l = c :: t ∧ c ≠ 45 ∧ c ≠ 46 ∧ ¬ blankB c ∧ c ≠ 13 ∧ c ≠ 10 ∧ c ≠ 194 ∧ c ≠ 226
theorem fold_segs {v : Int} {s : ByteArray} {B : Nat} {l : List UInt8} (hl : tail0 l) : ∀ (E k n a : Nat), rest s a = segs B (E + 1) ++ l →
    foldN v s (k + E + 2) n a = (some (n + E + 1), a + (E + 1) * (B + 1)) ∧ rest s (a + (E + 1) * (B + 1)) = l := by
  obtain ⟨c, t, rfl, h1, h2, h3, h4, h5, h6, h7⟩ := hl
  have hB : ∀ x ∈ List.replicate B (9 : UInt8), blankB x := fun x hx => .inr (List.eq_of_mem_replicate hx)
  intro E
  induction E with
  | zero =>
    intro k n a h
    have h' : rest s a = [10] ++ (List.replicate B 9 ++ (c :: t)) := by rw [h, segs_succ]; simp [segs]
    have hs := foldN_step (v := v) (k := k + 1) (n := n) h' (isBrk_lf v _) hB (fun x y e => by rw [← (List.cons.inj e).1]; exact h3) (fun x y e => by
      cases B with
      | zero => rw [← (List.cons.inj e).1]; exact ⟨h1, h2⟩
      | succ B => rw [List.replicate_succ] at e; rw [← (List.cons.inj e).1]; decide)
    rw [List.length_replicate] at hs
    have e : a + (0 + 1) * (B + 1) = a + [(10 : UInt8)].length + B := by simp; omega
    rw [e]
    refine ⟨?_, hs.2⟩
    rw [show k + 0 + 2 = (k + 1) + 1 by omega, hs.1, foldN_end (by rw [hs.2]; exact not_brk _ _ _ h4 h5 h6 h7)]
  | succ E ih =>
    intro k n a h
    have h' : rest s a = [10] ++ (List.replicate B 9 ++ (segs B (E + 1) ++ (c :: t))) := by rw [h, segs_succ]; simp
    have hs := foldN_step (v := v) (k := k + E + 2) (n := n) h' (isBrk_lf v _) hB (fun x y e => by
        rw [segs_succ] at e
        rw [← (List.cons.inj e).1]
        decide) (fun x y e => by
      cases B with
      | zero => rw [segs_succ] at e; rw [← (List.cons.inj e).1]; decide
      | succ B => rw [List.replicate_succ] at e; rw [← (List.cons.inj e).1]; decide)
    rw [List.length_replicate] at hs
    have hi := ih k (n + 1) _ hs.2
    have e : a + (E + 1 + 1) * (B + 1) = a + [(10 : UInt8)].length + B + (E + 1) * (B + 1) := by
      rw [Nat.succ_mul (E + 1)]; simp only [List.length_cons, List.length_nil]; omega
    rw [e, show k + (E + 1) + 2 = (k + E + 2) + 1 by omega, hs.1, hi.1]
    exact ⟨by congr 2; omega, hi.2⟩

/-- The text up to its last line. -/
def joinS (A B E : Nat) : List UInt8 := [34, 120] ++ List.replicate A 32 ++ [92] ++ segs B (E + 1)
theorem joinS_length (A B E : Nat) : (joinS A B E).length = 3 + A + (E + 1) * (B + 1) := by
  unfold joinS
  rw [List.length_append, List.length_append, List.length_append, segs_length, List.length_replicate]
  simp; omega
theorem join_goes (v : Int) (A B E : Nat) (hA : A ≤ 8) (hB : B ≤ 8) (hE : E ≤ 4) (t : List UInt8) (ht : tail0 t) (hl : t.length ≤ 10) :
    Goes v (txt (joinS A B E ++ t)) 1 [] (joinS A B E).length ([120] ++ List.replicate A 32 ++ List.replicate E 10) ∧ rest (txt (joinS A B E ++ t)) (joinS A B E).length = t := by
  generalize hs : txt (joinS A B E ++ t) = s
  have h0 : rest s 0 = joinS A B E ++ t := by rw [← hs]; rfl
  have hsz : s.size = 3 + A + (E + 1) * (B + 1) + t.length := by rw [← hs, txt_size, List.length_append, joinS_length]
  have hmul : (E + 1) * (B + 1) ≤ 5 * 9 := Nat.mul_le_mul (by omega) (by omega)
  have hmul2 : E + 1 ≤ (E + 1) * (B + 1) := Nat.le_mul_of_pos_right _ (by omega)
  have h1 : rest s 1 = [120] ++ (List.replicate A 32 ++ (92 :: (segs B (E + 1) ++ t))) := by
    have : rest s 0 = 34 :: ([120] ++ (List.replicate A 32 ++ (92 :: (segs B (E + 1) ++ t)))) := by rw [h0]; unfold joinS; simp
    exact (rest_head this).2
  have g1 : Goes v s 1 [] (1 + [(120 : UInt8)].length) ([] ++ [120]) := goes_word h1 (by
    intro c hc
    rw [List.mem_singleton] at hc
    rw [hc]
    exact ⟨⟨by decide, by decide, by decide, by decide⟩, by decide, by decide, by decide, by decide⟩)
  have h2 : rest s 2 = List.replicate A 32 ++ (92 :: (segs B (E + 1) ++ t)) := rest_append h1
  have g2 : Goes v s 2 [120] (2 + A) ([120] ++ List.replicate A 32) := by
    by_cases hA0 : A = 0
    · subst hA0
      exact Goes.refl ..
    · have := goes_blanks (v := v) (l := [120]) h2 (fun c hc => .inl (List.eq_of_mem_replicate hc)) (by intro h; have := congrArg List.length h; rw [List.length_replicate] at this; exact hA0 this)
        (fun c y e => by rw [← (List.cons.inj e).1]; decide) (not_brk _ _ _ (by decide) (by decide) (by decide) (by decide))
      rw [List.length_replicate] at this
      exact this
  have h3 : rest s (2 + A) = 92 :: (segs B (E + 1) ++ t) := by
    have := rest_append h2
    rw [List.length_replicate] at this
    exact this
  have h4 : rest s (2 + A + 1) = segs B (E + 1) ++ t := (rest_head h3).2
  have hf := fold_segs (v := v) ht E (s.size - 1 - E) 0 (2 + A + 1) h4
  rw [show s.size - 1 - E + E + 2 = s.size + 1 by omega] at hf
  have hk : 0 < brkL (v == 11) (segs B (E + 1) ++ t) := by
    rw [segs_succ]
    exact Nat.lt_of_lt_of_le (by decide) (Nat.le_of_eq (isBrk_lf v (List.replicate B 9 ++ segs B E ++ t)).2.symm)
  have g3 := goes_join (v := v) (l := [120] ++ List.replicate A 32) h3 hk (by omega) (n := 0 + E + 1) (e := 2 + A + 1 + (E + 1) * (B + 1)) hf.1
  rw [show 0 + E + 1 - 1 = E by omega, rep_repeat] at g3
  rw [joinS_length, show 3 + A + (E + 1) * (B + 1) = 2 + A + 1 + (E + 1) * (B + 1) by omega]
  exact ⟨(g1.trans g2).trans g3, hf.2⟩

theorem join_plain (v : Int) (A B E : Nat) (hA : A ≤ 8) (hB : B ≤ 8) (hE : E ≤ 4) :
    readF v (txt (joinS A B E ++ [121, 34])) 0 = (txt ([120] ++ List.replicate A 32 ++ List.replicate E 10 ++ [121]), ((joinS A B E).length : Int) + 2, 0, 0) := by
  obtain ⟨g, hr⟩ := join_goes v A B E hA hB hE [121, 34] ⟨121, [34], rfl, by decide, by decide, by decide, by decide, by decide, by decide, by decide⟩ (by decide)
  have g2 := g.trans (goes_word (w := [121]) (t := [34]) hr (by
    intro c hc
    rw [List.mem_singleton] at hc
    rw [hc]
    exact ⟨⟨by decide, by decide, by decide, by decide⟩, by decide, by decide, by decide, by decide⟩))
  have h0 : rest (txt (joinS A B E ++ [121, 34])) 0 = 34 :: (([120] ++ List.replicate A 32 ++ [92] ++ segs B (E + 1)) ++ [121, 34]) := by rw [rest_txt]; unfold joinS; simp
  have := Goes.read (i := 0) (rest_lt h0) (rest_head h0).1 g2 (t := []) (rest_append (t := [121]) hr)
  refine this.trans ?_
  show (txt _, ((((joinS A B E).length + 1 : Nat) : Int)) + 1, _, _) = _
  have e2 : ((((joinS A B E).length + 1 : Nat) : Int)) + 1 = ((joinS A B E).length : Int) + 2 := by omega
  rw [e2]
theorem join_space (v : Int) (A B E : Nat) (hA : A ≤ 8) (hB : B ≤ 8) (hE : E ≤ 4) :
    readF v (txt (joinS A B E ++ [92, 32, 121, 34])) 0 = (txt ([120] ++ List.replicate A 32 ++ List.replicate E 10 ++ [32, 121]), ((joinS A B E).length : Int) + 4, 0, 0) := by
  obtain ⟨g, hr⟩ := join_goes v A B E hA hB hE [92, 32, 121, 34] ⟨92, [32, 121, 34], rfl, by decide, by decide, by decide, by decide, by decide, by decide, by decide⟩ (by decide)
  have g2 := g.trans (goes_single (v := v) hr (not_brk _ _ _ (by decide) (by decide) (by decide) (by decide)) (by decide) (by show (0 : Int) ≤ 32; decide))
  have hr2 : rest (txt (joinS A B E ++ [92, 32, 121, 34])) ((joinS A B E).length + 2) = [121] ++ [34] := rest_append (t := [92, 32]) hr
  have g3 := g2.trans (goes_word hr2 (by
    intro c hc
    rw [List.mem_singleton] at hc
    rw [hc]
    exact ⟨⟨by decide, by decide, by decide, by decide⟩, by decide, by decide, by decide, by decide⟩))
  have h0 : rest (txt (joinS A B E ++ [92, 32, 121, 34])) 0 = 34 :: (([120] ++ List.replicate A 32 ++ [92] ++ segs B (E + 1)) ++ [92, 32, 121, 34]) := by rw [rest_txt]; unfold joinS; simp
  have := Goes.read (i := 0) (rest_lt h0) (rest_head h0).1 g3 (t := []) (rest_append hr2)
  refine this.trans ?_
  have e : Lib.encodeRune (singleN v 32) = [32] := by show Lib.encodeRune 32 = [32]; decide
  rw [e]
  show (txt _, ((((joinS A B E).length + 2 + 1 : Nat) : Int)) + 1, _, _) = _
  have e2 : ((((joinS A B E).length + 2 + 1 : Nat) : Int)) + 1 = ((joinS A B E).length : Int) + 4 := by omega
  rw [e2, List.append_assoc]
  rfl

theorem joins_l2 (x2 : Int) (x3 : Bool) (A B E : Nat) (hA : A ≤ 8) (hB : B ≤ 8) (hE : E ≤ 4) (hx : wrap64 (Int.tmod x2 5) = (E : Int)) : ∀ (d i : Nat), E - i ≤ d → i ≤ E →
    Ev (fun k => targumlaw17_DquoteJoins.l2 k x2 x3 (txt (List.replicate A 32)) (txt (List.replicate B 9)) (txt (List.replicate i 10)) (txt (joinS A B i)) i) true := by
  have hmul : ∀ i, i ≤ 4 → (i + 1) * (B + 1) ≤ 5 * 9 := fun i hi => Nat.mul_le_mul (by omega) (by omega)
  have e10 : (⟨#[10]⟩ : ByteArray) = txt [10] := rfl
  have fin : Ev (fun k => targumlaw17_DquoteJoins.l2 k x2 x3 (txt (List.replicate A 32)) (txt (List.replicate B 9)) (txt (List.replicate E 10)) (txt (joinS A B E)) E) true := by
    refine Ev.step (fun k => by rw [targumlaw17_DquoteJoins.l2]) (ev_if_neg (by rw [hx]; omega) ?_)
    obtain ⟨v, hv⟩ : ∃ v, targumhelp_Version.f x3 = some v := by unfold targumhelp_Version.f; split <;> exact ⟨_, rfl⟩
    have hm := hmul E hE
    have hj := joinS_length A B E
    have e1 : txt (joinS A B E) ++ (⟨#[121, 34]⟩ : ByteArray) = txt (joinS A B E ++ [121, 34]) := txt_append _ [121, 34]
    have e2 : txt (joinS A B E) ++ (⟨#[92, 32, 121, 34]⟩ : ByteArray) = txt (joinS A B E ++ [92, 32, 121, 34]) := txt_append _ [92, 32, 121, 34]
    have e3 : (⟨#[120]⟩ : ByteArray) ++ txt (List.replicate A 32) = txt ([120] ++ List.replicate A 32) := txt_append [120] _
    have r1 : dquote_Read.f v (txt (joinS A B E ++ [121, 34])) 0 = some _ := (if_pos (by rw [txt_size, List.length_append, hj]; simp; omega)).trans (congrArg some (join_plain v A B E hA hB hE))
    have r2 : dquote_Read.f v (txt (joinS A B E ++ [92, 32, 121, 34])) 0 = some _ := (if_pos (by rw [txt_size, List.length_append, hj]; simp; omega)).trans (congrArg some (join_space v A B E hA hB hE))
    rw [hv, e1, e2, e3, txt_append]
    refine Ev.bind (Ev.now v) (ev_if_pos (by rw [txt_size]; omega) ?_)
    rw [r1]
    refine Ev.bind (Ev.now _) (Ev.bind (Ev.now v) (ev_if_pos (by rw [txt_size]; omega) ?_))
    rw [r2]
    refine Ev.bind (Ev.now _) ?_
    have w2 : wrap64 (((txt (joinS A B E)).size : Int) + 2) = ((joinS A B E).length : Int) + 2 := by rw [txt_size, wrap_id (by omega) (by omega)]
    have w4 : wrap64 (((txt (joinS A B E)).size : Int) + 4) = ((joinS A B E).length : Int) + 4 := by rw [txt_size, wrap_id (by omega) (by omega)]
    refine ev_if_pos rfl (ev_if_pos rfl (ev_if_pos (by rw [txt_size, List.length_replicate]; omega) (ev_if_pos (by rw [txt_size, txt_size, List.length_append, List.length_replicate, List.length_replicate]; simp; omega) (ev_if_pos (by rw [txt_size, List.length_append, List.length_append, List.length_replicate, List.length_replicate]; simp; omega) (ev_if_pos ?_ (ev_if_pos w2.symm (ev_if_pos (by rw [txt_size, List.length_append, List.length_append, List.length_replicate, List.length_replicate]; simp; omega) (ev_if_pos ?_ ?_))))))))
    · exact congrArg ByteArray.toList (txt_append _ [121]).symm
    · exact congrArg ByteArray.toList (txt_append _ [32, 121]).symm
    · rw [w4]
      show Ev (fun k => some (((joinS A B E).length : Int) + 4 == ((joinS A B E).length : Int) + 4)) true
      rw [show (((joinS A B E).length : Int) + 4 == ((joinS A B E).length : Int) + 4) = true from beq_self_eq_true _]
      exact Ev.now _
  intro d
  induction d with
  | zero =>
    intro i hd hi
    obtain rfl : i = E := by omega
    exact fin
  | succ d ih =>
    intro i hd hi
    by_cases h : i < E
    · refine Ev.step (fun k => by rw [targumlaw17_DquoteJoins.l2]) (ev_if_pos (by rw [hx]; omega) ?_)
      have hj := joinS_length A B i
      have hm := hmul i (by omega)
      have e1 : txt (joinS A B i) ++ (⟨#[10]⟩ : ByteArray) = txt (joinS A B i ++ [10]) := txt_append _ [10]
      have e2 : txt (List.replicate i 10) ++ (⟨#[10]⟩ : ByteArray) = txt (List.replicate (i + 1) 10) := rep_snoc 10 i
      have e3 : joinS A B i ++ [10] ++ List.replicate B 9 = joinS A B (i + 1) := by
        unfold joinS
        rw [segs_snoc B (i + 1)]
        simp
      rw [e1, e2, txt_append, e3, show wrap64 ((i : Int) + 1) = ((i + 1 : Nat) : Int) from wrap_id (by omega) (by omega)]
      refine ev_if_pos (by rw [txt_size]; omega) (ev_if_pos (by rw [txt_size, txt_size, List.length_append, List.length_replicate]; simp; omega) (ev_if_pos (by rw [txt_size, List.length_replicate]; omega) ?_))
      exact ih (i + 1) (by omega) h
    · obtain rfl : i = E := by omega
      exact fin

theorem joins_l1 (x1 x2 : Int) (x3 : Bool) (A B E : Nat) (hA : A ≤ 8) (hB : B ≤ 8) (hE : E ≤ 4) (hx1 : wrap64 (Int.tmod x1 9) = (B : Int)) (hx : wrap64 (Int.tmod x2 5) = (E : Int)) : ∀ (d i : Nat), B - i ≤ d → i ≤ B →
    Ev (fun k => targumlaw17_DquoteJoins.l1 k x1 x2 x3 (txt (List.replicate A 32)) (txt (List.replicate i 9)) (⟨#[]⟩ : ByteArray) i) true := by
  have fin : Ev (fun k => targumlaw17_DquoteJoins.l1 k x1 x2 x3 (txt (List.replicate A 32)) (txt (List.replicate B 9)) (⟨#[]⟩ : ByteArray) B) true := by
    refine Ev.step (fun k => by rw [targumlaw17_DquoteJoins.l1]) (ev_if_neg (by rw [hx1]; omega) ?_)
    have e1 : (⟨#[34, 120]⟩ : ByteArray) ++ txt (List.replicate A 32) = txt ([34, 120] ++ List.replicate A 32) := txt_append [34, 120] _
    have e2 : txt ([34, 120] ++ List.replicate A 32) ++ (⟨#[92, 10]⟩ : ByteArray) = txt ([34, 120] ++ List.replicate A 32 ++ [92, 10]) := txt_append _ [92, 10]
    have e3 : [34, 120] ++ List.replicate A 32 ++ [92, 10] ++ List.replicate B 9 = joinS A B 0 := by
      unfold joinS
      rw [segs_succ]
      simp [segs]
    rw [e1, e2, txt_append, e3]
    refine ev_if_pos (by rw [txt_size, List.length_replicate]; omega) (ev_if_pos (by rw [txt_size, List.length_append, List.length_replicate]; simp; omega) (ev_if_pos (by rw [txt_size, txt_size, List.length_append, List.length_append, List.length_replicate, List.length_replicate]; simp; omega) ?_))
    exact joins_l2 x2 x3 A B E hA hB hE hx E 0 (by omega) (by omega)
  intro d
  induction d with
  | zero =>
    intro i hd hi
    obtain rfl : i = B := by omega
    exact fin
  | succ d ih =>
    intro i hd hi
    by_cases h : i < B
    · refine Ev.step (fun k => by rw [targumlaw17_DquoteJoins.l1]) (ev_if_pos (by rw [hx1]; omega) ?_)
      have e2 : txt (List.replicate i 9) ++ (⟨#[9]⟩ : ByteArray) = txt (List.replicate (i + 1) 9) := rep_snoc 9 i
      rw [e2, show wrap64 ((i : Int) + 1) = ((i + 1 : Nat) : Int) from wrap_id (by omega) (by omega)]
      exact ev_if_pos (by rw [txt_size, List.length_replicate]; omega) (ih (i + 1) (by omega) h)
    · obtain rfl : i = B := by omega
      exact fin

theorem joins_l0 (x0 x1 x2 : Int) (x3 : Bool) (A B E : Nat) (hA : A ≤ 8) (hB : B ≤ 8) (hE : E ≤ 4) (hx0 : wrap64 (Int.tmod x0 9) = (A : Int)) (hx1 : wrap64 (Int.tmod x1 9) = (B : Int)) (hx : wrap64 (Int.tmod x2 5) = (E : Int)) : ∀ (d i : Nat), A - i ≤ d → i ≤ A →
    Ev (fun k => targumlaw17_DquoteJoins.l0 k x0 x1 x2 x3 (txt (List.replicate i 32)) (⟨#[]⟩ : ByteArray) (⟨#[]⟩ : ByteArray) i) true := by
  have fin : Ev (fun k => targumlaw17_DquoteJoins.l0 k x0 x1 x2 x3 (txt (List.replicate A 32)) (⟨#[]⟩ : ByteArray) (⟨#[]⟩ : ByteArray) A) true := by
    refine Ev.step (fun k => by rw [targumlaw17_DquoteJoins.l0]) (ev_if_neg (by rw [hx0]; omega) ?_)
    exact joins_l1 x1 x2 x3 A B E hA hB hE hx1 hx B 0 (by omega) (by omega)
  intro d
  induction d with
  | zero =>
    intro i hd hi
    obtain rfl : i = A := by omega
    exact fin
  | succ d ih =>
    intro i hd hi
    by_cases h : i < A
    · refine Ev.step (fun k => by rw [targumlaw17_DquoteJoins.l0]) (ev_if_pos (by rw [hx0]; omega) ?_)
      have e2 : txt (List.replicate i 32) ++ (⟨#[32]⟩ : ByteArray) = txt (List.replicate (i + 1) 32) := rep_snoc 32 i
      rw [e2, show wrap64 ((i : Int) + 1) = ((i + 1 : Nat) : Int) from wrap_id (by omega) (by omega)]
      exact ev_if_pos (by rw [txt_size, List.length_replicate]; omega) (ih (i + 1) (by omega) h)
    · obtain rfl : i = A := by omega
      exact fin

theorem rem_nat (x : Int) (m : Nat) (hm : 0 < m ∧ m < 1000) (h : (Lit.int .u8 x).wf = true) : ∃ n : Nat, n < m ∧ wrap64 (Int.tmod x m) = (n : Int) := by
  simp only [Lit.wf, Bool.and_eq_true, decide_eq_true_eq] at h
  have e0 : IntKind.u8.min = 0 := rfl
  have h0 : 0 ≤ x := by omega
  have hp : (0 : Int) < m := by omega
  have a := Int.emod_nonneg x (show (m : Int) ≠ 0 by omega)
  have b := Int.emod_lt_of_pos x hp
  rw [Int.tmod_eq_emod_of_nonneg h0]
  refine ⟨(x % m).toNat, by omega, ?_⟩
  rw [wrap_id (by omega) (by omega)]
  omega

theorem Pure.DquoteJoins : targumlaw17_DquoteJoins.Pure := by
  intro x0 x1 x2 x3 h0 h1 h2
  refine Ev.rounds (r := true) ?_
  unfold targumlaw17_DquoteJoins.f targumlaw17_known.f
  refine Ev.bind (Ev.now true) (ev_if_pos rfl ?_)
  obtain ⟨A, hA, eA⟩ := rem_nat x0 9 (by decide) h0
  obtain ⟨B, hB, eB⟩ := rem_nat x1 9 (by decide) h1
  obtain ⟨E, hE, eE⟩ := rem_nat x2 5 (by decide) h2
  exact joins_l0 x0 x1 x2 x3 A B E (by omega) (by omega) (by omega) eA eB eE A 0 (by omega) (by omega)
end Go.Proofs.Ytgbnbjajaaggkaa.Q
