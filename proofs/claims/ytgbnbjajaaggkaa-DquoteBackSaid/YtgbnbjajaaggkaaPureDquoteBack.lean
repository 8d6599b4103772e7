/- The plain law of DquoteBack: signs that stand for themselves are read as they are; of any scalar each of its codes is that scalar; of a number that is none it is an error. No condition but the row's bounds. -/
import Derived.Test.YtgbnbjajaaggkaaPureDefDquoteBack
import Derived.Test.YtgbnbjajaaggkaaRefBrk
import Derived.Test.YtgbnbjajaaggkaaDqTxt
namespace Go.Proofs.Ytgbnbjajaaggkaa.Q
open Go Go.RowKit Go.Proofs.YtgbnbjajaaggkaaW.PrintWords Go.Proofs.YtgbnbjajaaggkaaW.PrintLast Go.Proofs.YtgbnbjajaaggkaaW.PrintMore
set_option linter.unusedVariables false
set_option linter.unusedSimpArgs false

/-! ### digits -/
def digB (n : Nat) : UInt8 := ([48, 49, 50, 51, 52, 53, 54, 55, 56, 57, 97, 66, 99, 68, 101, 70] : List UInt8).getD n 0
theorem digB_hex : ∀ n : Fin 16, hexD (digB n.1) = (n.1 : Int) := by decide
def hexL : Nat → Nat → List UInt8
  | _, 0 => []
  | n, m + 1 => hexL (n / 16) m ++ [digB (n % 16)]
theorem hexL_length : ∀ (m n : Nat), (hexL n m).length = m
  | 0, _ => rfl
  | m + 1, n => by rw [hexL, List.length_append, hexL_length m]; rfl
theorem hexRun_append : ∀ (m : Nat) (l t : List UInt8) (k : Nat) (n : Int), l.length = m → hexRun (m + k) (l ++ t) n = (hexRun m l n).bind fun x => hexRun k t x
  | 0, l, t, k, n, h => by
    obtain rfl : l = [] := List.eq_nil_of_length_eq_zero h
    rw [Nat.zero_add]
    rfl
  | m + 1, [], t, k, n, h => by simp at h
  | m + 1, c :: l, t, k, n, h => by
    rw [show m + 1 + k = (m + k) + 1 by omega, List.cons_append, hexRun, hexRun]
    split
    · rfl
    · split
      · rfl
      · exact hexRun_append m l t k _ (by simpa using h)
theorem hexRun_hexL (t : List UInt8) : ∀ (m n : Nat), n < 16 ^ m → n ≤ 1114111 → hexRun m (hexL n m ++ t) 0 = some (n : Int) := by
  intro m
  induction m generalizing t with
  | zero => intro n h _; rw [show n = 0 by simpa using h]; rfl
  | succ m ih =>
    intro n h hn
    rw [hexL, List.append_assoc, hexRun_append m (hexL (n / 16) m) _ 1 0 (hexL_length _ _)]
    have hd : n / 16 < 16 ^ m := by rw [Nat.pow_succ] at h; omega
    have h0 := ih [] (n / 16) hd (by omega)
    rw [List.append_nil] at h0
    rw [h0, Option.bind_some]
    have hx : hexD (digB (n % 16)) = ((n % 16 : Nat) : Int) := digB_hex ⟨n % 16, by omega⟩
    show hexRun 1 (digB (n % 16) :: t) _ = _
    rw [hexRun, hx, if_neg (by omega), if_neg (by omega)]
    show some _ = some _
    congr 1
    omega

theorem dig_extract : ∀ d : Fin 16, (⟨#[48, 49, 50, 51, 52, 53, 54, 55, 56, 57, 97, 66, 99, 68, 101, 70]⟩ : ByteArray).extract d.1 (d.1 + 1) = txt [digB d.1] := by decide +kernel
theorem hex_loop (M : Nat) (hM : M ≤ 8) : ∀ (d j n : Nat) (l : List UInt8), M - j ≤ d → j ≤ M → n < 16777216 * 16 → l.length ≤ j →
    Ev (fun k => targumlaw17_hex.l0 k n M (txt l) j) (txt (hexL n (M - j) ++ l)) := by
  intro d
  induction d with
  | zero =>
    intro j n l hd hj hn hl
    rw [show M - j = 0 by omega]
    show Ev _ (txt l)
    exact Ev.step (fun k => by rw [targumlaw17_hex.l0]) (ev_if_neg (by omega) (Ev.now _))
  | succ d ih =>
    intro j n l hd hj hn hl
    by_cases h : j < M
    · have e1 : Int.tmod (n : Int) 16 = ((n % 16 : Nat) : Int) := by rw [Int.tmod_eq_emod_of_nonneg (by omega)]; omega
      have e2 : wrap64 (((n % 16 : Nat) : Int) + 1) = ((n % 16 + 1 : Nat) : Int) := wrap_id (by omega) (by omega)
      have e3 : wrap64 (Int.tdiv (n : Int) 16) = ((n / 16 : Nat) : Int) := by rw [Int.tdiv_eq_ediv_of_nonneg (by omega), wrap_id (by omega) (by omega)]; omega
      have e4 := dig_extract ⟨n % 16, by omega⟩
      refine Ev.step (fun k => by rw [targumlaw17_hex.l0]) (ev_if_pos (by omega) ?_)
      rw [e1, e2, Int.toNat_natCast, Int.toNat_natCast]
      simp only at e4
      rw [e4, e3, txt_append, show wrap64 ((j : Int) + 1) = ((j + 1 : Nat) : Int) from wrap_id (by omega) (by omega)]
      refine ev_if_pos (by omega) (ev_if_pos (by omega) (ev_if_pos (by omega) (ev_if_pos (by rw [txt_size, txt_size]; simp only [List.length_cons, List.length_nil]; omega) ?_)))
      have := ih (j + 1) (n / 16) ([digB (n % 16)] ++ l) (by omega) h (by omega) (by simp; omega)
      rw [show M - j = (M - (j + 1)) + 1 by omega, hexL, List.append_assoc]
      exact this
    · rw [show M - j = 0 by omega]
      show Ev _ (txt l)
      exact Ev.step (fun k => by rw [targumlaw17_hex.l0]) (ev_if_neg (by omega) (Ev.now _))
theorem hex_ev (M n : Nat) (hM : M ≤ 8) (hn : n ≤ 1114111) : Ev (fun k => targumlaw17_hex.f k n M) (txt (hexL n M)) := by
  have h := hex_loop M hM M 0 n [] (by omega) (Nat.zero_le _) (by omega) (by simp)
  rw [Nat.sub_zero, List.append_nil] at h
  exact h

/-! ### a scalar's bytes -/
theorem back_utf8 (c : Int) (h0 : 0 ≤ c) (hv : Lib.validRune c = true) : targumref1_Utf8.f c = some (Lib.encodeRuneZ c) := by
  have hv' : c ≤ 1114111 ∧ (c < 55296 ∨ 57343 < c) := by
    simp only [Lib.validRune, decide_eq_true_eq] at hv
    omega
  have w1 : wrap64 (c / 64) = c / 64 := wrap_id (by omega) (by omega)
  have w2 : wrap64 (c / 4096) = c / 4096 := wrap_id (by omega) (by omega)
  have w3 : wrap64 (c / 262144) = c / 262144 := wrap_id (by omega) (by omega)
  unfold targumref1_Utf8.f
  rw [Int.tdiv_eq_ediv_of_nonneg h0, Int.tdiv_eq_ediv_of_nonneg h0, Int.tdiv_eq_ediv_of_nonneg h0, Int.tmod_eq_emod_of_nonneg h0, w1, w2, w3, Int.tmod_eq_emod_of_nonneg (show 0 ≤ c / 64 by omega), Int.tmod_eq_emod_of_nonneg (show 0 ≤ c / 4096 by omega)]
  by_cases h1 : c < 128
  · rw [if_pos h1, Lib.encodeRuneZ_one h0 (by omega)]
    congr 1
    simp only [List.cons.injEq, and_true]
    omega
  · rw [if_neg h1]
    by_cases h2 : c < 2048
    · rw [if_pos h2, Lib.encodeRuneZ_two (by omega) (by omega), wrap_id (x := 192 + c / 64) (by omega) (by omega), wrap_id (x := 128 + c % 64) (by omega) (by omega)]
      congr 1
      simp only [List.cons.injEq, and_true]
      omega
    · rw [if_neg h2]
      by_cases h3 : c < 65536
      · rw [if_pos h3, Lib.encodeRuneZ_three (by omega), wrap_id (x := 224 + c / 4096) (by omega) (by omega), wrap_id (x := 128 + c % 64) (by omega) (by omega), wrap_id (x := 128 + c / 64 % 64) (by omega) (by omega)]
        congr 1
        simp only [List.cons.injEq, and_true]
        omega
      · rw [if_neg h3, Lib.encodeRuneZ_four (by omega) (by omega), wrap_id (x := 240 + c / 262144) (by omega) (by omega), wrap_id (x := 128 + c % 64) (by omega) (by omega), wrap_id (x := 128 + c / 64 % 64) (by omega) (by omega), wrap_id (x := 128 + c / 4096 % 64) (by omega) (by omega)]
        congr 1
        simp only [List.cons.injEq, and_true]
        omega
theorem back_str (c : Int) : strOfNums (Lib.encodeRuneZ c) = txt (Lib.encodeRune c) := by
  unfold strOfNums txt Lib.encodeRune
  rfl
theorem back_scalar (n : Int) : targumref1_IsScalar.f n = some (Lib.validRune n) := by
  unfold targumref1_IsScalar.f Lib.validRune
  by_cases h0 : 0 ≤ n
  · rw [if_pos (by omega)]
    by_cases h1 : n ≤ 1114111
    · rw [if_pos h1]
      by_cases h2 : n < 55296
      · rw [if_pos h2, decide_eq_true (by omega)]
      · rw [if_neg h2]
        congr 1
        rw [decide_eq_decide]
        omega
    · rw [if_neg h1, decide_eq_false (by omega)]
  · rw [if_neg (by omega), decide_eq_false (by omega)]

/-! ### signs that stand for themselves -/
theorem brk_more (o : Bool) (l : List UInt8) (d : UInt8) (t : List UInt8) (h : brkL true l = 0) (hl : l ≠ []) (hd : d ≠ 10 ∧ d ≠ 133 ∧ d ≠ 128 ∧ d ≠ 168 ∧ d ≠ 169) : brkL o (l ++ d :: t) = 0 := by
  obtain ⟨c, l', rfl⟩ := List.exists_cons_of_ne_nil hl
  unfold brkL at h ⊢
  simp only [List.cons_append] at h ⊢
  by_cases h13 : c = 13
  · rw [if_pos h13] at h
    split at h <;> omega
  · rw [if_neg h13] at h ⊢
    by_cases h10 : c = 10
    · rw [if_pos h10] at h
      omega
    · rw [if_neg h10] at h ⊢
      split at h
      · omega
      · rename_i n1
        split at h
        · omega
        · rename_i n2
          rw [if_neg, if_neg]
          · rintro ⟨_, hc, ht⟩
            refine n2 ⟨trivial, hc, ?_⟩
            rcases l' with _ | ⟨x, _ | ⟨y, l''⟩⟩
            · rcases ht with ht | ht <;> (simp at ht; exact absurd ht.1 hd.2.2.1)
            · rcases ht with ht | ht
              · simp at ht; exact absurd ht.2 hd.2.2.2.1
              · simp at ht; exact absurd ht.2 hd.2.2.2.2
            · simpa using ht
          · rintro ⟨_, hc, ht⟩
            refine n1 ⟨trivial, hc, ?_⟩
            cases l' with
            | nil => simp at ht; exact absurd ht hd.2.1
            | cons x l'' => simpa using ht
def selfL (l : List UInt8) : Prop := ∀ i (h : i < l.length), plainB l[i] ∧ brkL true (l.drop i) = 0
theorem selfL_tail {c : UInt8} {l : List UInt8} (h : selfL (c :: l)) : selfL l := fun i hi => by
  have := h (i + 1) (by simp; omega)
  simpa using this
theorem goes_self {v : Int} {s : ByteArray} {d : UInt8} {t : List UInt8} (hd : d ≠ 10 ∧ d ≠ 133 ∧ d ≠ 128 ∧ d ≠ 168 ∧ d ≠ 169) : ∀ {w : List UInt8} {a : Nat} {l : List UInt8}, selfL w → rest s a = w ++ d :: t → Goes v s a l (a + w.length) (l ++ w) := by
  intro w
  induction w with
  | nil => intro a l hw h; rw [List.append_nil]; exact Goes.refl ..
  | cons c w ih =>
    intro a l hw h
    have h0 := hw 0 (by simp)
    have h1 := goes_byte (v := v) (l := l) h h0.1 (brk_more _ (c :: w) d t h0.2 (by simp) hd)
    have h2 := ih (a := a + 1) (l := l ++ [c]) (selfL_tail hw) (rest_head h).2
    rw [List.append_assoc, List.singleton_append, show a + 1 + w.length = a + (c :: w).length by rw [List.length_cons]; omega] at h2
    exact h1.trans h2

section
variable (v : Int) (l : List UInt8) (hl : selfL l) (c : UInt8) (wd n : Nat) (hw : widthI c = wd) (h1 : 1 < wd) (hc : c ≠ 13 ∧ c ≠ 10 ∧ c ≠ 194 ∧ c ≠ 226) (hn : n ≤ 1114111) (hnw : n < 16 ^ wd)
include hl hw h1 hc hn hnw
theorem back_good (hv : Lib.validRune n = true) : readF v (txt ([34] ++ l ++ ([92, c] ++ hexL n wd) ++ l ++ [34, 32, 58])) 0 = (txt (l ++ Lib.encodeRune n ++ l), ((2 + 2 * l.length + (2 + wd) : Nat) : Int), 0, 0) := by
  have h0 : rest (txt ([34] ++ l ++ ([92, c] ++ hexL n wd) ++ l ++ [34, 32, 58])) 0 = 34 :: (l ++ (92 :: (c :: (hexL n wd ++ (l ++ (34 :: [32, 58])))))) := by rw [rest_txt]; simp
  generalize txt ([34] ++ l ++ ([92, c] ++ hexL n wd) ++ l ++ [34, 32, 58]) = s at h0
  have g1 := goes_self (v := v) (s := s) (l := []) (by decide) hl (rest_head h0).2
  have h2 := rest_append (rest_head h0).2
  have hb : brkL (v == 11) (c :: (hexL n wd ++ (l ++ (34 :: [32, 58])))) = 0 := not_brk _ _ _ hc.1 hc.2.1 hc.2.2.1 hc.2.2.2
  have hp := turned_hexR (v := v) (l := [] ++ l) h2 hb hw h1
  have h3 : rest s (0 + 1 + l.length + 2) = hexL n wd ++ (l ++ (34 :: [32, 58])) := (rest_head (rest_head h2).2).2
  have hx : hexR s (0 + 1 + l.length) wd ([] ++ l) = .go (0 + 1 + l.length + 2 + wd) ([] ++ l ++ Lib.encodeRune n) := by
    unfold hexR
    show (match hexRun wd (rest s (0 + 1 + l.length + 2)) 0 with | some n => _ | none => _) = _
    rw [h3, hexRun_hexL _ wd n hnw hn]
    simp only [if_pos hv]
  have g2 := g1.trans (Goes.part (rest_lt h2) (by rw [(rest_head h2).1]; decide) (hp.trans hx) (by omega))
  have h4 : rest s (0 + 1 + l.length + 2 + wd) = l ++ 34 :: [32, 58] := by
    have := rest_append h3
    rw [hexL_length] at this
    exact this
  have g3 := g2.trans (goes_self (v := v) (by decide) hl h4)
  have := Goes.read (i := 0) (rest_lt h0) (rest_head h0).1 g3 (rest_append h4)
  refine this.trans ?_
  have e : (((0 + 1 + l.length + 2 + wd + l.length : Nat) : Int)) + 1 = ((2 + 2 * l.length + (2 + wd) : Nat) : Int) := by omega
  rw [e, List.nil_append]
  rfl
theorem back_bad (hv : Lib.validRune n = false) : readF v (txt ([34] ++ l ++ ([92, c] ++ hexL n wd) ++ l ++ [34, 32, 58])) 0 = (⟨#[]⟩, 0, 14, ((1 + l.length : Nat) : Int)) := by
  have h0 : rest (txt ([34] ++ l ++ ([92, c] ++ hexL n wd) ++ l ++ [34, 32, 58])) 0 = 34 :: (l ++ (92 :: (c :: (hexL n wd ++ (l ++ (34 :: [32, 58])))))) := by rw [rest_txt]; simp
  generalize txt ([34] ++ l ++ ([92, c] ++ hexL n wd) ++ l ++ [34, 32, 58]) = s at h0
  have g1 := goes_self (v := v) (s := s) (l := []) (by decide) hl (rest_head h0).2
  have h2 := rest_append (rest_head h0).2
  have hb : brkL (v == 11) (c :: (hexL n wd ++ (l ++ (34 :: [32, 58])))) = 0 := not_brk _ _ _ hc.1 hc.2.1 hc.2.2.1 hc.2.2.2
  have hp := turned_hexR (v := v) (l := [] ++ l) h2 hb hw h1
  have h3 : rest s (0 + 1 + l.length + 2) = hexL n wd ++ (l ++ (34 :: [32, 58])) := (rest_head (rest_head h2).2).2
  have hx : hexR s (0 + 1 + l.length) wd ([] ++ l) = .bad 14 ((0 + 1 + l.length : Nat) : Int) := by
    unfold hexR
    show (match hexRun wd (rest s (0 + 1 + l.length + 2)) 0 with | some n => _ | none => _) = _
    rw [h3, hexRun_hexL _ wd n hnw hn]
    simp only [hv]
    rfl
  have := Goes.bad (i := 0) (rest_lt h0) (rest_head h0).1 g1 (rest_lt h2) (by rw [(rest_head h2).1]; decide) (hp.trans hx)
  refine this.trans ?_
  first | rfl | (congr 3; omega)
end

/-! ### the law -/
theorem read_some (v : Int) (s : ByteArray) (i : Int) {R : ByteArray × Int × Int × Int} (hs : s.size ≤ 1000000) (h : readF v s i = R) : dquote_Read.f v s i = some R := (if_pos hs).trans (congrArg some h)
def codeL (q : UInt8 × Nat) (n : Nat) : List UInt8 := [92, q.1] ++ hexL n q.2
def goodQ (q : UInt8 × Nat) (n : Nat) : Prop := widthI q.1 = q.2 ∧ 1 < q.2 ∧ q.2 ≤ 8 ∧ (q.1 ≠ 13 ∧ q.1 ≠ 10 ∧ q.1 ≠ 194 ∧ q.1 ≠ 226) ∧ n < 16 ^ q.2
theorem back_l1 (v : Int) (x0 : ByteArray) (hx : x0.size ≤ 200) (hl : selfL x0.data.toList) (n : Nat) (hn : n ≤ 1114111) (qs : List (UInt8 × Nat)) (hq : ∀ q ∈ qs, goodQ q n) (hql : qs.length ≤ 3) : ∀ (d j : Nat), qs.length - j ≤ d → j ≤ qs.length →
    Ev (fun k => targumlaw17_DquoteBack.l1 k x0 v n (qs.map fun q => txt (codeL q n)) qs.length j) true := by
  have hdl : x0.data.toList.length = x0.size := by rw [Array.length_toList]; rfl
  intro d
  induction d with
  | zero => intro j hd hj; exact Ev.step (fun k => by rw [targumlaw17_DquoteBack.l1]) (ev_if_neg (by omega) (Ev.now _))
  | succ d ih =>
    intro j hd hj
    by_cases h : j < qs.length
    · have ih' := ih (j + 1) (by omega) h
      have er : rdOf ByteArray.empty (qs.map fun q => txt (codeL q n)) (j : Int) = txt (codeL qs[j] n) := by unfold rdOf; simp [h, List.getD]
      obtain ⟨q1, q2, q3, q4, q5⟩ := hq qs[j] (List.getElem_mem h)
      generalize hqq : qs[j] = q at er q1 q2 q3 q4 q5
      have hcl : (codeL q n).length = 2 + q.2 := by unfold codeL; rw [List.length_append, hexL_length]; rfl
      have ex : x0 = txt x0.data.toList := (txt_data x0).symm
      have a1 : (⟨#[34]⟩ : ByteArray) ++ x0 = txt ([34] ++ x0.data.toList) := (congrArg (fun y => (⟨#[34]⟩ : ByteArray) ++ y) ex).trans (txt_append [34] _)
      have a2 : txt ([34] ++ x0.data.toList ++ codeL q n) ++ x0 = txt ([34] ++ x0.data.toList ++ codeL q n ++ x0.data.toList) := (congrArg (fun y => txt ([34] ++ x0.data.toList ++ codeL q n) ++ y) ex).trans (txt_append _ _)
      have a3 : txt ([34] ++ x0.data.toList ++ codeL q n ++ x0.data.toList) ++ (⟨#[34, 32, 58]⟩ : ByteArray) = txt ([34] ++ x0.data.toList ++ codeL q n ++ x0.data.toList ++ [34, 32, 58]) := txt_append _ [34, 32, 58]
      have hz : ∀ y : List UInt8, y.length ≤ 1000 → (txt y).size ≤ 1000000 := fun y h => by rw [txt_size]; omega
      refine Ev.step (fun k => by rw [targumlaw17_DquoteBack.l1]) (ev_if_pos (by omega) (ev_if_pos (by omega) (ev_if_pos (by rw [List.length_map]; omega) ?_)))
      rw [er, a1, txt_append, a2, a3, show wrap64 ((j : Int) + 1) = ((j + 1 : Nat) : Int) from wrap_id (by omega) (by omega)]
      refine ev_if_pos (by omega) (ev_if_pos (by rw [txt_size, txt_size, List.length_append, hcl]; simp; omega) (ev_if_pos (by rw [txt_size, List.length_append, List.length_append, hcl]; simp; omega) (ev_if_pos (by rw [txt_size, List.length_append, List.length_append, List.length_append, hcl]; simp; omega) ?_)))
      cases hv : Lib.validRune (n : Int) with
      | true =>
        have hg : readF v (txt ([34] ++ x0.data.toList ++ codeL q n ++ x0.data.toList ++ [34, 32, 58])) 0 = _ := back_good v _ hl q.1 q.2 n q1 q2 q4 hn q5 hv
        rw [read_some v _ 0 (hz _ (by simp only [List.length_append, hcl, List.length_cons, List.length_nil]; omega)) hg]
        refine Ev.bind (Ev.now _) ?_
        rw [back_scalar, hv]
        refine Ev.bind (Ev.now true) (ev_if_pos rfl (ev_if_pos rfl ?_))
        rw [back_utf8 n (by omega) hv]
        refine Ev.bind (Ev.now _) ?_
        rw [back_str]
        have he : (Lib.encodeRune (n : Int)).length ≤ 4 := by
          have := (Lib.encodeRuneZ_length (n : Int)).2
          unfold Lib.encodeRune
          rw [List.length_map]
          exact this
        have b1 : x0 ++ txt (Lib.encodeRune n) = txt (x0.data.toList ++ Lib.encodeRune n) := (congrArg (fun y => y ++ txt (Lib.encodeRune n)) ex).trans (txt_append _ _)
        have b2 : txt (x0.data.toList ++ Lib.encodeRune n) ++ x0 = txt (x0.data.toList ++ Lib.encodeRune n ++ x0.data.toList) := (congrArg (fun y => txt (x0.data.toList ++ Lib.encodeRune n) ++ y) ex).trans (txt_append _ _)
        rw [b1, b2]
        refine ev_if_pos (by rw [txt_size]; omega) (ev_if_pos (by rw [txt_size, List.length_append]; omega) (ev_if_pos rfl (ev_if_pos ?_ ih')))
        rw [txt_size, hcl, wrap_id (x := 2 * (x0.size : Int)) (by omega) (by omega), wrap_id (x := 2 + 2 * (x0.size : Int)) (by omega) (by omega), wrap_id (by omega) (by omega)]
        show ((2 + 2 * x0.data.toList.length + (2 + q.2) : Nat) : Int) = _
        omega
      | false =>
        have hg : readF v (txt ([34] ++ x0.data.toList ++ codeL q n ++ x0.data.toList ++ [34, 32, 58])) 0 = _ := back_bad v _ hl q.1 q.2 n q1 q2 q4 hn q5 hv
        rw [read_some v _ 0 (hz _ (by simp only [List.length_append, hcl, List.length_cons, List.length_nil]; omega)) hg]
        refine Ev.bind (Ev.now _) ?_
        rw [back_scalar, hv]
        refine Ev.bind (Ev.now false) (ev_if_neg (by decide) (ev_if_neg ?_ (ev_if_pos (show (⟨#[]⟩ : ByteArray).toList = [] from by rw [ByteArray.toList_eq]) ?_)))
        · rw [wrap_id (by omega) (by omega)]
          show ¬ (!((14 : Int) == 14) || !(((1 + x0.data.toList.length : Nat) : Int) == 1 + (x0.size : Int))) = true
          rw [show (((1 + x0.data.toList.length : Nat) : Int) == 1 + (x0.size : Int)) = true from by rw [beq_iff_eq]; omega]
          decide
        · refine Ev.step (fun k => by rw [targumlaw17_DquoteBack.j4]) (ev_if_neg (show ¬ (((0 : Int) != 0) = true) by decide) ?_)
          rw [show wrap64 ((j : Int) + 1) = ((j + 1 : Nat) : Int) from wrap_id (by omega) (by omega)]
          exact ih'
    · exact Ev.step (fun k => by rw [targumlaw17_DquoteBack.l1]) (ev_if_neg (by omega) (Ev.now _))

theorem back_j2 (v : Int) (x0 : ByteArray) (hx : x0.size ≤ 200) (hl : selfL x0.data.toList) (n : Nat) (hn : n ≤ 1114111) (qs : List (UInt8 × Nat)) (hq : ∀ q ∈ qs, goodQ q n) (hql : qs.length ≤ 3) :
    Ev (fun k => targumlaw17_DquoteBack.j2 k x0 v n (qs.map fun q => txt (codeL q n))) true := by
  refine Ev.step (fun k => by rw [targumlaw17_DquoteBack.j2, List.length_map]) ?_
  exact back_l1 v x0 hx hl n hn qs hq hql qs.length 0 (by omega) (Nat.zero_le _)
theorem back_j1 (v : Int) (x0 : ByteArray) (hx : x0.size ≤ 200) (hl : selfL x0.data.toList) (n : Nat) (hn : n ≤ 1114111) (qs : List (UInt8 × Nat)) (hq : ∀ q ∈ qs, goodQ q n) (hql : qs.length ≤ 2) :
    Ev (fun k => targumlaw17_DquoteBack.j1 k x0 v n (qs.map fun q => txt (codeL q n))) true := by
  refine Ev.step (fun k => by rw [targumlaw17_DquoteBack.j1]) ?_
  by_cases h : (n : Int) < 256
  · have e : (⟨#[92, 120]⟩ : ByteArray) ++ txt (hexL n 2) = txt (codeL (120, 2) n) := txt_append [92, 120] _
    refine ev_if_pos h (Ev.bind (hex_ev 2 n (by decide) hn) (ev_if_pos (by rw [txt_size, hexL_length]; decide) (ev_if_pos (by rw [List.length_map]; omega) ?_)))
    rw [e]
    have := back_j2 v x0 hx hl n hn (qs ++ [(120, 2)]) (by
      intro q hq'
      rcases List.mem_append.1 hq' with h' | h'
      · exact hq q h'
      · rw [List.mem_singleton] at h'
        rw [h']
        exact ⟨by decide, by decide, by decide, by decide, by show n < 256; omega⟩) (by simp; omega)
    rw [List.map_append] at this
    exact this
  · exact ev_if_neg h (back_j2 v x0 hx hl n hn qs hq (by omega))

theorem Pure.DquoteBack : targumlaw17_DquoteBack.Pure := by
  intro x0 x1 x2 h0 h1
  have hx1 : 0 ≤ x1 := by
    simp only [Lit.wf, Bool.and_eq_true, decide_eq_true_eq] at h1
    exact h1.1
  refine Ev.rounds (r := true) ?_
  unfold targumlaw17_DquoteBack.f targumlaw17_known.f
  refine Ev.bind (Ev.now true) (ev_if_pos rfl ?_)
  obtain ⟨r, hr, hr2⟩ := few_ev x0 200 (by omega)
  refine Ev.bind hr ?_
  by_cases hrt : r = true
  · have hsz : x0.size ≤ 200 := by have := hr2 hrt; omega
    refine ev_if_pos hrt ?_
    have hdl : x0.data.toList.length = x0.size := by rw [Array.length_toList]; rfl
    obtain ⟨n, hn, en⟩ : ∃ n : Nat, n ≤ 1114111 ∧ wrap64 (Int.tmod x1 1114112) = (n : Int) := by
      have a := Int.emod_nonneg x1 (show (1114112 : Int) ≠ 0 by decide)
      have b := Int.emod_lt_of_pos x1 (show (0 : Int) < 1114112 by decide)
      rw [Int.tmod_eq_emod_of_nonneg hx1]
      refine ⟨(x1 % 1114112).toNat, by omega, ?_⟩
      rw [wrap_id (by omega) (by omega)]
      omega
    have fin : selfL x0.data.toList → Ev (fun k => targumlaw17_DquoteBack.l0 k x0 x1 x2 x0.size) true := by
      intro hl
      refine Ev.step (fun k => by rw [targumlaw17_DquoteBack.l0]) (ev_if_neg (by omega) ?_)
      obtain ⟨v, hv⟩ : ∃ v, targumhelp_Version.f x2 = some v := by unfold targumhelp_Version.f; split <;> exact ⟨_, rfl⟩
      rw [hv, en]
      have e8 : (⟨#[92, 85]⟩ : ByteArray) ++ txt (hexL n 8) = txt (codeL (85, 8) n) := txt_append [92, 85] _
      have g8 : goodQ (85, 8) n := ⟨by decide, by decide, by decide, by decide, by show n < 4294967296; omega⟩
      refine Ev.bind (Ev.now v) (Ev.bind (hex_ev 8 n (by decide) hn) (ev_if_pos (by rw [txt_size, hexL_length]; decide) (Ev.bind (Ev.now _) ?_)))
      rw [e8]
      by_cases h4 : (n : Int) < 65536
      · have e4 : (⟨#[92, 117]⟩ : ByteArray) ++ txt (hexL n 4) = txt (codeL (117, 4) n) := txt_append [92, 117] _
        refine ev_if_pos h4 (Ev.bind (hex_ev 4 n (by decide) hn) (ev_if_pos (by rw [txt_size, hexL_length]; decide) (ev_if_pos (by simp) ?_)))
        rw [e4]
        exact back_j1 v x0 hsz hl n hn [(85, 8), (117, 4)] (by
          intro q hq
          simp only [List.mem_cons, List.not_mem_nil, or_false] at hq
          rcases hq with rfl | rfl
          · exact g8
          · exact ⟨by decide, by decide, by decide, by decide, by show n < 65536; omega⟩) (by simp)
      · refine ev_if_neg h4 ?_
        exact back_j1 v x0 hsz hl n hn [(85, 8)] (by
          intro q hq
          simp only [List.mem_cons, List.not_mem_nil, or_false] at hq
          rw [hq]
          exact g8) (by simp)
    have loop : ∀ (d i : Nat), x0.size - i ≤ d → i ≤ x0.size → (∀ j (hj : j < x0.data.toList.length), j < i → plainB x0.data.toList[j] ∧ brkL true (x0.data.toList.drop j) = 0) → Ev (fun k => targumlaw17_DquoteBack.l0 k x0 x1 x2 i) true := by
      intro d
      induction d with
      | zero =>
        intro i hd hi hyp
        obtain rfl : i = x0.size := by omega
        exact fin (fun j hj => hyp j hj (by omega))
      | succ d ih =>
        intro i hd hi hyp
        by_cases h : i < x0.size
        · refine Ev.step (fun k => by rw [targumlaw17_DquoteBack.l0]) (ev_if_pos (by omega) (ev_if_pos (by omega) ?_))
          rw [bt_nat x0 i h]
          have e34 : ((x0[i].toNat : Int) = 34) ↔ x0[i] = 34 := byte_eq x0[i] 34
          have e92 : ((x0[i].toNat : Int) = 92) ↔ x0[i] = 92 := byte_eq x0[i] 92
          by_cases c34 : x0[i] = 34
          · exact ev_if_pos (e34.2 c34) (Ev.now _)
          refine ev_if_neg (fun h => c34 (e34.1 h)) ?_
          by_cases c92 : x0[i] = 92
          · exact ev_if_pos (e92.2 c92) (Ev.now _)
          refine ev_if_neg (fun h => c92 (e92.1 h)) ?_
          have hb : targumref1_IsBlank.f x0 (i : Int) = some (if h : i < x0.size then decide (x0[i] = 32 ∨ x0[i] = 9) else false) := blank_f x0 i
          rw [hb, dif_pos h]
          refine Ev.bind (Ev.now _) ?_
          by_cases cb : x0[i] = 32 ∨ x0[i] = 9
          · exact ev_if_pos (decide_eq_true cb) (Ev.now _)
          refine ev_if_neg (by rw [decide_eq_false cb]; decide) ?_
          have hbr := break_ev 11 x0 (by omega) i
          rw [if_pos (by omega), Int.toNat_natCast] at hbr
          refine Ev.bind hbr ?_
          by_cases ck : 0 < brkL true (x0.data.toList.drop i)
          · exact ev_if_pos (show (((brkL ((11 : Int) == 11) (x0.data.toList.drop i) : Nat) : Int)) > 0 from by show (((brkL true (x0.data.toList.drop i) : Nat) : Int)) > 0; omega) (Ev.now _)
          refine ev_if_neg (show ¬ (((brkL ((11 : Int) == 11) (x0.data.toList.drop i) : Nat) : Int)) > 0 from by show ¬ (((brkL true (x0.data.toList.drop i) : Nat) : Int)) > 0; omega) ?_
          rw [show wrap64 ((i : Int) + 1) = ((i + 1 : Nat) : Int) from wrap_id (by omega) (by omega)]
          refine ih (i + 1) (by omega) h (fun j hj hji => ?_)
          by_cases hj2 : j < i
          · exact hyp j hj hj2
          · obtain rfl : j = i := by omega
            exact ⟨⟨c34, c92, fun h => cb (.inl h), fun h => cb (.inr h)⟩, by omega⟩
        · obtain rfl : i = x0.size := by omega
          exact fin (fun j hj => hyp j hj (by omega))
    exact loop x0.size 0 (by omega) (Nat.zero_le _) (fun j hj hj0 => absurd hj0 (by omega))
  · exact ev_if_neg hrt (Ev.now _)
end Go.Proofs.Ytgbnbjajaaggkaa.Q
