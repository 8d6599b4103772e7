/- The reference's Double answers what dquote.Read answers, for every text, place and version. No condition but sizes. -/
import Derived.Test.YtgbnbjajaaggkaaDqE
import Derived.Test.YtgbnbjajaaggkaaRefBrk
import Derived.Test.YtgbnbjajaaggkaaQx9
namespace Go.Proofs.Ytgbnbjajaaggkaa.Q
open Go Go.RowKit Go.Proofs Go.Proofs.YtgbnbjajaaggkaaW.PrintWords Go.Proofs.YtgbnbjajaaggkaaW.PrintLast Go.Proofs.YtgbnbjajaaggkaaW.PrintMore
set_option linter.unusedVariables false
set_option linter.unusedSimpArgs false

theorem isblank_f (s : ByteArray) (a : Nat) : targumref1_IsBlank.f s a = some (if h : a < s.size then decide (s[a] = 32 ∨ s[a] = 9) else false) := blank_f s a

theorem brk_ev (v : Int) (s : ByteArray) (hs : s.size ≤ 1000000) (a : Nat) : Ev (fun k => targumref1_Break.f k v s (a : Int)) ((brkN v s a : Nat) : Int) := by
  have h := break_ev v s (by omega) a
  rw [if_pos (by omega), Int.toNat_natCast] at h
  exact h

/-! ### markers -/
theorem ref_marker_f (s : ByteArray) (a e : Nat) (hae : a ≤ e) (he : e ≤ s.size) (hs : s.size ≤ 1000000) : ∃ r : Int, Ev (fun k => targumref1_Marker.f k s a e e) r ∧ decide (r > 0) = markB (s.extract a e).data.toList := by
  have hl : (s.extract a e).data.toList.length = e - a := by
    have e1 : (s.extract a e).data.toList.length = (s.extract a e).size := by rw [Array.length_toList]; rfl
    rw [e1, ByteArray.size_extract]
    omega
  have hil : targumref1_isLine.f s (a : Int) (e : Int) (e : Int) = some true := by
    unfold targumref1_isLine.f
    rw [if_pos (by omega), if_pos (by omega), if_pos (by omega), decide_eq_true (by omega)]
  have hw : wrap64 ((e : Int) - (a : Int)) = ((e - a : Nat) : Int) := by rw [wrap_id (by omega) (by omega)]; omega
  have hw3 : wrap64 ((a : Int) + 3) = ((a + 3 : Nat) : Int) := wrap_id (by omega) (by omega)
  by_cases h3 : e - a < 3
  · refine ⟨0, ?_, ?_⟩
    · unfold targumref1_Marker.f
      rw [hil]
      refine Ev.bind (Ev.now true) (ev_if_pos rfl (ev_if_pos (by rw [hw]; omega) ?_))
      exact Ev.step (fun k => by rw [targumref1_Marker.j0]) (ev_if_pos rfl (Ev.now _))
    · unfold markB
      have n1 : ∀ t : List UInt8, t.length = 3 → (((s.extract a e).data.toList.take 3) == t) = false := fun t ht => by
        rw [beq_eq_false_iff_ne]
        intro h
        have := congrArg List.length h
        rw [List.length_take] at this
        omega
      rw [n1 _ rfl, n1 _ rfl]
      rfl
  · have hx : (s.extract a ((a + 3 : Nat) : Int).toNat).toList = (s.extract a e).data.toList.take 3 := by
      rw [Int.toNat_natCast, ByteArray.toList_eq, Lib.extract_data, Lib.extract_data, List.take_take]
      congr 1
      omega
    have hj : ∃ r : Int, Ev (fun k => targumref1_Marker.j0 k s false a e e) r ∧ decide (r > 0) = ((s.extract a e).data.toList.take 3 == [45, 45, 45] || (s.extract a e).data.toList.take 3 == [46, 46, 46]) := by
      by_cases h1 : (s.extract a e).data.toList.take 3 = [45, 45, 45]
      · refine ⟨1, Ev.step (fun k => by rw [targumref1_Marker.j0]) (ev_if_neg (by decide) ?_), by rw [h1]; rfl⟩
        rw [hw3, Int.toNat_natCast, hx]
        exact ev_if_pos (by omega) (ev_if_pos (by omega) (ev_if_pos (by omega) (ev_if_pos h1 (Ev.now _))))
      · by_cases h2 : (s.extract a e).data.toList.take 3 = [46, 46, 46]
        · refine ⟨2, Ev.step (fun k => by rw [targumref1_Marker.j0]) (ev_if_neg (by decide) ?_), by rw [h2]; rfl⟩
          rw [hw3, Int.toNat_natCast, hx]
          exact ev_if_pos (by omega) (ev_if_pos (by omega) (ev_if_pos (by omega) (ev_if_neg h1 (ev_if_pos h2 (Ev.now _)))))
        · refine ⟨0, Ev.step (fun k => by rw [targumref1_Marker.j0]) (ev_if_neg (by decide) ?_), by rw [beq_eq_false_iff_ne.2 h1, beq_eq_false_iff_ne.2 h2]; rfl⟩
          rw [hw3, Int.toNat_natCast, hx]
          exact ev_if_pos (by omega) (ev_if_pos (by omega) (ev_if_pos (by omega) (ev_if_neg h1 (ev_if_neg h2 (Ev.now _)))))
    obtain ⟨r, hr, hd⟩ := hj
    by_cases h4 : e - a > 3
    · have hlt : a + 3 < s.size := by omega
      have hdr : (s.extract a e).data.toList.drop 3 = s[a + 3] :: (s.extract a e).data.toList.drop 4 := by
        rw [List.drop_eq_getElem_cons (by omega)]
        congr 1
        simp only [Lib.extract_data, List.getElem_take, List.getElem_drop]
        rfl
      have hb := isblank_f s (a + 3)
      rw [dif_pos hlt] at hb
      unfold markB
      rw [hdr]
      by_cases hc : s[a + 3] = 32 ∨ s[a + 3] = 9
      · refine ⟨r, ?_, ?_⟩
        · unfold targumref1_Marker.f
          rw [hil]
          refine Ev.bind (Ev.now true) (ev_if_pos rfl (ev_if_neg (by rw [hw]; omega) (ev_if_pos (by rw [hw]; omega) ?_)))
          rw [hw3, hb, decide_eq_true hc]
          exact Ev.bind (Ev.now true) hr
        · rw [hd]
          rcases hc with hc | hc <;> simp [hc]
      · refine ⟨0, ?_, ?_⟩
        · unfold targumref1_Marker.f
          rw [hil]
          refine Ev.bind (Ev.now true) (ev_if_pos rfl (ev_if_neg (by rw [hw]; omega) (ev_if_pos (by rw [hw]; omega) ?_)))
          rw [hw3, hb, decide_eq_false hc]
          exact Ev.bind (Ev.now false) (Ev.step (f := fun k => some 0) (fun k => by rw [targumref1_Marker.j0]; rfl) (Ev.now _))
        · have h32 : s[a + 3] ≠ 32 := fun h => hc (.inl h)
          have h9 : s[a + 3] ≠ 9 := fun h => hc (.inr h)
          simp [h32, h9]
    · refine ⟨r, ?_, ?_⟩
      · unfold targumref1_Marker.f
        rw [hil]
        exact Ev.bind (Ev.now true) (ev_if_pos rfl (ev_if_neg (by rw [hw]; omega) (ev_if_neg (by rw [hw]; omega) hr)))
      · unfold markB
        rw [hd, List.drop_eq_nil_of_le (by omega)]
        simp

theorem ref_marked_loop (v : Int) (s : ByteArray) (hs : s.size ≤ 1000000) (a : Nat) (ha : a ≤ s.size) : ∀ (j e : Nat), a ≤ e → e ≤ s.size → s.size - e ≤ j → lineN v s s.size a = lineN v s j e →
    Ev (fun k => targumref17_marked.l0 k v s a e) (markedN v s a) := by
  have fin : ∀ e : Nat, a ≤ e → e ≤ s.size → lineN v s s.size a = e → Ev (fun k => if (a : Int) < (s.size : Int) then ((targumref1_Marker.f k s a e e).bind fun t => some (decide (t > 0))) else some false) (markedN v s a) := by
    intro e hae he hl
    by_cases h : a < s.size
    · refine ev_if_pos (by omega) ?_
      obtain ⟨r, hr, hd⟩ := ref_marker_f s a e hae he hs
      refine Ev.bind hr ?_
      rw [hd]
      unfold markedN
      rw [hl]
      exact Ev.now _
    · refine ev_if_neg (by omega) ?_
      have : markedN v s a = false := by
        unfold markedN
        have : (s.extract a (lineN v s s.size a)).data.toList = [] := by
          apply List.eq_nil_of_length_eq_zero
          have e1 : (s.extract a (lineN v s s.size a)).data.toList.length = (s.extract a (lineN v s s.size a)).size := by rw [Array.length_toList]; rfl
          rw [e1, ByteArray.size_extract]
          omega
        rw [this]
        rfl
      rw [this]
      exact Ev.now _
  intro j
  induction j with
  | zero =>
    intro e hae he hj hl
    refine Ev.step (fun k => by rw [targumref17_marked.l0]) (ev_if_neg (by omega) (fin e hae he hl))
  | succ j ih =>
    intro e hae he hj hl
    by_cases h : e < s.size
    · refine Ev.step (fun k => by rw [targumref17_marked.l0]) (ev_if_pos (by omega) (Ev.bind (brk_ev v s hs e) ?_))
      by_cases hb : brkN v s e = 0
      · refine ev_if_pos (by omega) ?_
        rw [show wrap64 ((e : Int) + 1) = ((e + 1 : Nat) : Int) from wrap_id (by omega) (by omega)]
        rw [lineN, if_pos ⟨h, hb⟩] at hl
        exact ih (e + 1) (by omega) h (by omega) hl
      · refine ev_if_neg (by omega) ?_
        rw [lineN, if_neg (fun h => hb h.2)] at hl
        exact fin e hae he hl
    · refine Ev.step (fun k => by rw [targumref17_marked.l0]) (ev_if_neg (by omega) ?_)
      rw [lineN, if_neg (fun hh => h hh.1)] at hl
      exact fin e hae he hl
theorem ref_marked_ev (v : Int) (s : ByteArray) (hs : s.size ≤ 1000000) (a : Nat) (ha : a ≤ s.size) : Ev (fun k => targumref17_marked.f k v s a) (markedN v s a) :=
  ref_marked_loop v s hs a ha s.size a (Nat.le_refl _) ha (by omega) rfl

/-! ### rows of breaks and blanks -/
def rowOf (r : Option Nat × Nat) : Int × Int × Int × Int := match r with | (some n, e) => ((e : Int), (n : Int), 0, 0) | (none, e) => (0, 0, 11, (e : Int))
theorem row_loop (v : Int) (s : ByteArray) (hs : s.size ≤ 1000000) : ∀ (j a n f : Nat), a ≤ s.size → s.size - a ≤ j → s.size - overN s a < f → n ≤ a →
    Ev (fun k => targumref17_row.l0 k v s a n) (rowOf (foldN v s f n (overN s a))) := by
  intro j
  induction j with
  | zero =>
    intro a n f ha hj hf hn
    obtain ⟨f, rfl⟩ : ∃ m, f = m + 1 := ⟨f - 1, by omega⟩
    refine Ev.step (fun k => by rw [targumref17_row.l0]) (ev_if_neg (by omega) ?_)
    rw [overN_end (by omega), foldN, if_neg (by have := brkN_le v s a ha; omega)]
    exact Ev.now _
  | succ j ih =>
    intro a n f ha hj hf hn
    by_cases h : a < s.size
    · have hb := isblank_f s a
      rw [dif_pos h] at hb
      refine Ev.step (fun k => by rw [targumref17_row.l0]) (ev_if_pos (by omega) ?_)
      rw [hb]
      by_cases hc : s[a] = 32 ∨ s[a] = 9
      · rw [decide_eq_true hc]
        refine Ev.bind (Ev.now true) (ev_if_pos rfl ?_)
        rw [show wrap64 ((a : Int) + 1) = ((a + 1 : Nat) : Int) from wrap_id (by omega) (by omega)]
        have e : overN s a = overN s (a + 1) := by rw [overN_at h, if_pos hc]
        rw [e] at hf ⊢
        exact ih (a + 1) n f h (by omega) hf (by omega)
      · rw [decide_eq_false hc]
        refine Ev.bind (Ev.now false) (ev_if_neg (by decide) (Ev.bind (brk_ev v s hs a) ?_))
        have e : overN s a = a := by rw [overN_at h, if_neg hc]
        rw [e] at hf ⊢
        obtain ⟨f, rfl⟩ : ∃ m, f = m + 1 := ⟨f - 1, by omega⟩
        rw [foldN]
        have hbl := brkN_le v s a ha
        by_cases h0 : brkN v s a = 0
        · rw [if_neg (by omega)]
          exact ev_if_pos (by omega) (Ev.now _)
        · rw [if_pos (by omega)]
          refine ev_if_neg (by omega) ?_
          have ew : wrap64 ((a : Int) + ((brkN v s a : Nat) : Int)) = ((a + brkN v s a : Nat) : Int) := by
            rw [wrap_id (by omega) (by omega)]; omega
          rw [ew]
          refine Ev.bind (ref_marked_ev v s hs _ hbl) ?_
          by_cases hm : markedN v s (a + brkN v s a) = true
          · rw [if_pos hm]
            exact ev_if_pos hm (Ev.now _)
          · rw [if_neg hm]
            refine ev_if_neg hm ?_
            have ho := overN_le (s := s) hbl
            rw [show wrap64 ((n : Int) + 1) = ((n + 1 : Nat) : Int) from wrap_id (by omega) (by omega)]
            exact ih _ (n + 1) f hbl (by omega) (by omega) (by omega)
    · refine Ev.step (fun k => by rw [targumref17_row.l0]) (ev_if_neg (by omega) ?_)
      obtain ⟨f, rfl⟩ : ∃ m, f = m + 1 := ⟨f - 1, by omega⟩
      rw [overN_end (by omega), foldN, if_neg (by have := brkN_le v s a ha; omega)]
      exact Ev.now _
theorem row_ev (v : Int) (s : ByteArray) (hs : s.size ≤ 1000000) (a : Nat) (ha : a ≤ s.size) : Ev (fun k => targumref17_row.f k v s a) (rowOf (foldF v s (overN s a))) :=
  row_loop v s hs s.size a 0 (s.size + 1) ha (by omega) (by omega) (Nat.zero_le _)

/-! ### line feeds -/
theorem repeat_snoc (n : Nat) : Lib.repeatL [10] (n + 1) = Lib.repeatL [10] n ++ [10] := by
  induction n with
  | zero => rfl
  | succ n ih =>
    show [10] ++ Lib.repeatL [10] (n + 1) = ([10] ++ Lib.repeatL [10] n) ++ [10]
    rw [ih, List.append_assoc]
theorem feeds_loop (n : Nat) (hn : n ≤ 1000000) : ∀ (j i : Nat), n - i ≤ j → i ≤ n → Ev (fun k => targumref17_feeds.l0 k n ⟨(Lib.repeatL [10] i).toArray⟩ i) ⟨(Lib.repeatL [10] n).toArray⟩ := by
  intro j
  induction j with
  | zero =>
    intro i hj hi
    obtain rfl : i = n := by omega
    exact Ev.step (fun k => by rw [targumref17_feeds.l0]) (ev_if_neg (by omega) (Ev.now _))
  | succ j ih =>
    intro i hj hi
    by_cases h : i < n
    · refine Ev.step (fun k => by rw [targumref17_feeds.l0]) (ev_if_pos (by omega) (ev_if_pos ?_ ?_))
      · show (Lib.repeatL [10] i).toArray.size + 1 ≤ _
        rw [List.size_toArray, Lib.repeatL_length]
        simp
        omega
      · rw [show wrap64 ((i : Int) + 1) = ((i + 1 : Nat) : Int) from wrap_id (by omega) (by omega)]
        have e : (⟨(Lib.repeatL [10] i).toArray⟩ : ByteArray) ++ ⟨#[10]⟩ = ⟨(Lib.repeatL [10] (i + 1)).toArray⟩ := by
          apply ByteArray.ext
          rw [ByteArray.data_append, repeat_snoc]
          simp
        rw [e]
        exact ih (i + 1) (by omega) h
    · obtain rfl : i = n := by omega
      exact Ev.step (fun k => by rw [targumref17_feeds.l0]) (ev_if_neg (by omega) (Ev.now _))
theorem feeds_ev (n : Nat) (hn : n ≤ 1000000) : Ev (fun k => targumref17_feeds.f k n) ⟨(Lib.repeatL [10] n).toArray⟩ := feeds_loop n hn n 0 (by omega) (Nat.zero_le _)
theorem folded_ev (s : ByteArray) (a e n : Nat) (hae : a ≤ e) (he : e ≤ s.size) (hn : n ≤ 1000000) : Ev (fun k => targumref17_folded.f k s a e n) (if n = 0 then s.extract a e else ⟨(foldedL n).toArray⟩) := by
  unfold targumref17_folded.f
  by_cases h0 : n = 0
  · rw [if_pos h0]
    refine ev_if_pos (by omega) (ev_if_pos (by omega) (ev_if_pos (by omega) (ev_if_pos (by omega) ?_)))
    rw [Int.toNat_natCast, Int.toNat_natCast]
    exact Ev.now _
  · rw [if_neg h0]
    refine ev_if_neg (by omega) ?_
    unfold foldedL
    by_cases h1 : n = 1
    · rw [if_pos h1]
      exact ev_if_pos (by omega) (Ev.now _)
    · rw [if_neg h1]
      refine ev_if_neg (by omega) ?_
      rw [show wrap64 ((n : Int) - 1) = ((n - 1 : Nat) : Int) from by rw [wrap_id (by omega) (by omega)]; omega]
      exact Ev.bind (feeds_ev (n - 1) (by omega)) (Ev.now _)

/-! ### what a backslash stands ahead of -/
theorem simple_new : ∀ c : UInt8, targumref17_simple.f 3 11 (c.toNat : Int) = some (singleN 11 c) := fun c => all_bytes8 (p := fun c => targumref17_simple.f 3 11 (c.toNat : Int) = some (singleN 11 c)) (by decide +kernel) c
theorem simple_old : ∀ c : UInt8, targumref17_simple.f 3 0 (c.toNat : Int) = some (singleN 0 c) := fun c => all_bytes8 (p := fun c => targumref17_simple.f 3 0 (c.toNat : Int) = some (singleN 0 c)) (by decide +kernel) c
theorem simple_any (v : Int) (hv : v ≠ 11) (c : UInt8) : targumref17_simple.f 3 v (c.toNat : Int) = some (singleN v c) := by
  have h := simple_old c
  have e : singleN v c = singleN 0 c := by
    unfold singleN
    rw [if_neg hv, if_neg (show ¬ (0 : Int) = 11 by decide)]
  rw [e, ← h]
  simp only [targumref17_simple.f, targumref17_simple.j0, targumref17_simple.j1, if_neg hv, if_neg (show ¬ (0 : Int) = 11 by decide)]
theorem simple_ev (v : Int) (c : UInt8) : Ev (fun k => targumref17_simple.f k v (c.toNat : Int)) (singleN v c) := by
  refine Ev.of (fun k => targumref17_simple.mono _ _ k) (k := 3) ?_
  by_cases hv : v = 11
  · subst hv; exact simple_new c
  · exact simple_any v hv c

/-- A digit to sixteen, as the reference tells it. -/
def valN (c : UInt8) : Int := if hexD c < 0 then 99 else hexD c
theorem value_ev (c : UInt8) : Ev (fun k => targumref4_Value.f k (c.toNat : Int)) (valN c) :=
  Ev.of (fun k => targumref4_Value.mono _ k) (k := 3) (all_bytes8 (p := fun c => targumref4_Value.f 3 (c.toNat : Int) = some (valN c)) (by decide +kernel) c)
theorem isscalar_any (n : Int) : targumref1_IsScalar.f n = some (Lib.validRune n) := by
  unfold targumref1_IsScalar.f Lib.validRune
  by_cases h0 : 0 ≤ n
  · rw [if_pos (by omega)]
    by_cases h1 : n ≤ 1114111
    · rw [if_pos h1]
      by_cases h2 : n < 55296
      · rw [if_pos h2, decide_eq_true (by omega)]
      · rw [if_neg h2]
        congr 1
        rw [decide_eq_decide]
        omega
    · rw [if_neg h1, decide_eq_false (by omega)]
  · rw [if_neg (by omega), decide_eq_false (by omega)]

theorem valid_big {n : Int} (h : 1114111 < n) : Lib.validRune n = false := by
  unfold Lib.validRune
  exact decide_eq_false (by omega)

theorem escape_loop (v : Int) (s : ByteArray) (hs : s.size ≤ 1000000) (a wd : Nat) (ha : a + 2 ≤ s.size) (hw : wd ≤ 8) : ∀ (m : Nat) (n : Int), m ≤ wd → 0 ≤ n → n < 16 ^ (wd - m) →
    Ev (fun k => targumref17_escape.l0 k s a wd n ((wd - m : Nat) : Int)) (match (if 1114111 < n then none else hexRun m (s.data.toList.drop (a + 2 + (wd - m))) n) with | some c => if Lib.validRune c = true then (c, ((a + 2 + wd : Nat) : Int)) else (-1, 0) | none => (-1, 0)) := by
  intro m
  induction m with
  | zero =>
    intro n hm h0 hn
    refine Ev.step (fun k => by rw [targumref17_escape.l0]) (ev_if_neg (by omega) ?_)
    rw [isscalar_any]
    refine Ev.bind (Ev.now _) ?_
    have e : wrap64 (wrap64 ((a : Int) + 2) + (wd : Int)) = ((a + 2 + wd : Nat) : Int) := by
      rw [wrap_id (x := (a : Int) + 2) (by omega) (by omega), wrap_id (by omega) (by omega)]
      omega
    rw [e]
    by_cases hb : 1114111 < n
    · rw [if_pos hb]
      exact ev_if_neg (by rw [valid_big (by omega)]; decide) (Ev.now _)
    · rw [if_neg hb]
      simp only [hexRun]
      by_cases hv : Lib.validRune n = true
      · rw [if_pos hv, if_pos hv]; exact Ev.now _
      · rw [if_neg hv, if_neg hv]; exact Ev.now _
  | succ m ih =>
    intro n hm h0 hn
    have hp : (16 : Int) ^ (wd - (m + 1)) ≤ 16 ^ 7 := by
      have : wd - (m + 1) ≤ 7 := by omega
      exact_mod_cast Nat.pow_le_pow_right (by decide : 0 < 16) this
    have hp2 : (16 : Int) ^ (wd - m) = 16 ^ (wd - (m + 1)) * 16 := by
      rw [show wd - m = (wd - (m + 1)) + 1 by omega, Int.pow_succ]
    generalize hq : (16 : Int) ^ (wd - (m + 1)) = q at hn hp hp2
    have hp' : q ≤ 268435456 := by simpa using hp
    have ej : wrap64 (wrap64 ((a : Int) + 2) + ((wd - (m + 1) : Nat) : Int)) = ((a + 2 + (wd - (m + 1)) : Nat) : Int) := by
      rw [wrap_id (x := (a : Int) + 2) (by omega) (by omega), wrap_id (by omega) (by omega)]
      omega
    refine Ev.step (fun k => by rw [targumref17_escape.l0]) (ev_if_pos (by omega) ?_)
    rw [ej]
    by_cases hlt : a + 2 + (wd - (m + 1)) < s.size
    · refine ev_if_neg (by omega) (ev_if_pos (by omega) (ev_if_pos (by omega) ?_))
      rw [bt_nat s _ hlt, drop_cons s _ hlt]
      have hd := hexD_le s[a + 2 + (wd - (m + 1))]
      have hv := value_ev s[a + 2 + (wd - (m + 1))]
      unfold valN at hv
      refine Ev.bind hv ?_
      by_cases hneg : hexD s[a + 2 + (wd - (m + 1))] < 0
      · rw [if_pos hneg]
        refine ev_if_pos (by omega) ?_
        have e : (if 1114111 < n then none else hexRun (m + 1) (s[a + 2 + (wd - (m + 1))] :: s.data.toList.drop (a + 2 + (wd - (m + 1)) + 1)) n) = none := by
          split
          · rfl
          · rw [hexRun, if_pos hneg]
        rw [e]
        exact Ev.now _
      · rw [if_neg hneg]
        refine ev_if_neg (by omega) ?_
        rw [if_neg hneg] at hv
        refine Ev.bind hv ?_
        have e1 : wrap64 (wrap64 (n * 16) + hexD s[a + 2 + (wd - (m + 1))]) = n * 16 + hexD s[a + 2 + (wd - (m + 1))] := by
          rw [wrap_id (x := n * 16) (by omega) (by omega), wrap_id (by omega) (by omega)]
        have e2 : wrap64 (((wd - (m + 1) : Nat) : Int) + 1) = ((wd - m : Nat) : Int) := by
          rw [wrap_id (by omega) (by omega)]; omega
        rw [e1, e2]
        have hr := ih (n * 16 + hexD s[a + 2 + (wd - (m + 1))]) (by omega) (by omega) (by rw [hp2]; omega)
        rw [show a + 2 + (wd - m) = a + 2 + (wd - (m + 1)) + 1 by omega] at hr
        by_cases hb : 1114111 < n
        · rw [if_pos hb]
          rw [if_pos (by omega)] at hr
          exact hr
        · rw [if_neg hb, hexRun, if_neg hneg, if_neg hb]
          by_cases hb2 : 1114111 < n * 16 + hexD s[a + 2 + (wd - (m + 1))]
          · rw [if_pos hb2] at hr
            cases m with
            | zero =>
              simp only [hexRun]
              rw [if_neg (by rw [valid_big (by omega)]; decide)]
              exact hr
            | succ m =>
              have : hexRun (m + 1) (s.data.toList.drop (a + 2 + (wd - (m + 1 + 1)) + 1)) (n * 16 + hexD s[a + 2 + (wd - (m + 1 + 1))]) = none := by
                cases s.data.toList.drop (a + 2 + (wd - (m + 1 + 1)) + 1) with
                | nil => rfl
                | cons c l =>
                  rw [hexRun]
                  split
                  · rfl
                  · first | rfl | rw [if_pos hb2]
              rw [this]
              exact hr
          · rw [if_neg hb2] at hr
            exact hr
    · refine ev_if_pos (by omega) ?_
      rw [List.drop_eq_nil_of_le (by rw [Array.length_toList]; show s.size ≤ _; omega)]
      have e : (if 1114111 < n then none else hexRun (m + 1) [] n) = none := by
        split <;> rfl
      rw [e]
      exact Ev.now _
end Go.Proofs.Ytgbnbjajaaggkaa.Q

namespace Go.Proofs.Ytgbnbjajaaggkaa.Q
open Go Go.RowKit Go.Proofs Go.Proofs.YtgbnbjajaaggkaaW.PrintWords Go.Proofs.YtgbnbjajaaggkaaW.PrintLast Go.Proofs.YtgbnbjajaaggkaaW.PrintMore
set_option linter.unusedVariables false
set_option linter.unusedSimpArgs false

/-! ### a backslash's scalar -/
def escR (v : Int) (s : ByteArray) (a : Nat) : Int × Int :=
  if h : a + 1 < s.size then
    if 1 < widthI s[a + 1] then (match hexRun (widthI s[a + 1]).toNat (s.data.toList.drop (a + 2)) 0 with | some c => if Lib.validRune c = true then (c, ((a + 2 + (widthI s[a + 1]).toNat : Nat) : Int)) else (-1, 0) | none => (-1, 0))
    else (singleN v s[a + 1], ((a + 2 : Nat) : Int))
  else (-1, 0)
theorem widthI_cases (c : UInt8) : (c = 120 ∧ widthI c = 2) ∨ (c = 117 ∧ widthI c = 4) ∨ (c = 85 ∧ widthI c = 8) ∨ (c ≠ 120 ∧ c ≠ 117 ∧ c ≠ 85 ∧ widthI c ≤ 1) :=
  all_bytes8 (p := fun c => (c = 120 ∧ widthI c = 2) ∨ (c = 117 ∧ widthI c = 4) ∨ (c = 85 ∧ widthI c = 8) ∨ (c ≠ 120 ∧ c ≠ 117 ∧ c ≠ 85 ∧ widthI c ≤ 1)) (by decide +kernel) c
theorem escape_digits (v : Int) (s : ByteArray) (hs : s.size ≤ 1000000) (a wd : Nat) (ha : a + 2 ≤ s.size) (h0 : 0 < wd) (hw : wd ≤ 8) :
    Ev (fun k => targumref17_escape.j0 k v s a (wd : Int)) (match hexRun wd (s.data.toList.drop (a + 2)) 0 with | some c => if Lib.validRune c = true then (c, ((a + 2 + wd : Nat) : Int)) else (-1, 0) | none => (-1, 0)) := by
  have h := escape_loop v s hs a wd ha hw wd 0 (Nat.le_refl _) (Int.le_refl _) (by rw [Nat.sub_self]; decide)
  rw [show ((wd - wd : Nat) : Int) = 0 from by omega, Nat.sub_self, Nat.add_zero, if_neg (by decide)] at h
  exact Ev.step (fun k => by rw [targumref17_escape.j0]) (ev_if_neg (by omega) h)
theorem escape_ev (v : Int) (s : ByteArray) (hs : s.size ≤ 1000000) (a : Nat) (ha : a < s.size) : Ev (fun k => targumref17_escape.f k v s a) (escR v s a) := by
  have ew : wrap64 ((a : Int) + 1) = ((a + 1 : Nat) : Int) := wrap_id (by omega) (by omega)
  unfold targumref17_escape.f escR
  rw [ew]
  by_cases h : a + 1 < s.size
  · rw [dif_pos h]
    refine ev_if_neg (by omega) (ev_if_pos (by omega) (ev_if_pos (by omega) ?_))
    rw [bt_nat s _ h]
    generalize hc : s[a + 1] = c
    have e120 : ((c.toNat : Int) = 120) ↔ c = 120 := byte_eq c 120
    have e117 : ((c.toNat : Int) = 117) ↔ c = 117 := byte_eq c 117
    have e85 : ((c.toNat : Int) = 85) ↔ c = 85 := byte_eq c 85
    rcases widthI_cases c with ⟨h1, h2⟩ | ⟨h1, h2⟩ | ⟨h1, h2⟩ | ⟨h1, h2, h3, h4⟩
    · rw [h2, if_pos (by decide)]
      exact ev_if_pos (e120.2 h1) (escape_digits v s hs a 2 (by omega) (by decide) (by decide))
    · rw [h2, if_pos (by decide)]
      refine ev_if_neg (fun h => ?_) (ev_if_pos (e117.2 h1) (escape_digits v s hs a 4 (by omega) (by decide) (by decide)))
      rw [e120.1 h] at h1
      exact absurd h1 (by decide)
    · rw [h2, if_pos (by decide)]
      refine ev_if_neg (fun h => ?_) (ev_if_neg (fun h => ?_) (ev_if_pos (e85.2 h1) (escape_digits v s hs a 8 (by omega) (by decide) (by decide))))
      · rw [e120.1 h] at h1
        exact absurd h1 (by decide)
      · rw [e117.1 h] at h1
        exact absurd h1 (by decide)
    · rw [if_neg (by omega)]
      refine ev_if_neg (fun h => h1 (e120.1 h)) (ev_if_neg (fun h => h2 (e117.1 h)) (ev_if_neg (fun h => h3 (e85.1 h)) ?_))
      refine Ev.step (fun k => by rw [targumref17_escape.j0]) (ev_if_pos rfl ?_)
      rw [ew]
      refine ev_if_pos (by omega) (ev_if_pos (by omega) ?_)
      rw [bt_nat s _ h, hc]
      refine Ev.bind (simple_ev v c) ?_
      rw [show wrap64 ((a : Int) + 2) = ((a + 2 : Nat) : Int) from wrap_id (by omega) (by omega)]
      exact Ev.now _
  · rw [dif_neg h]
    exact ev_if_pos (by omega) (Ev.now _)

/-! ### a scalar's bytes -/
theorem utf8_f (c : Int) (h0 : 0 ≤ c) (hv : Lib.validRune c = true) : targumref1_Utf8.f c = some (Lib.encodeRuneZ c) := by
  have hv' : c ≤ 1114111 ∧ (c < 55296 ∨ 57343 < c) := by
    simp only [Lib.validRune, decide_eq_true_eq] at hv
    omega
  have w1 : wrap64 (c / 64) = c / 64 := wrap_id (by omega) (by omega)
  have w2 : wrap64 (c / 4096) = c / 4096 := wrap_id (by omega) (by omega)
  have w3 : wrap64 (c / 262144) = c / 262144 := wrap_id (by omega) (by omega)
  unfold targumref1_Utf8.f
  rw [Int.tdiv_eq_ediv_of_nonneg h0, Int.tdiv_eq_ediv_of_nonneg h0, Int.tdiv_eq_ediv_of_nonneg h0, Int.tmod_eq_emod_of_nonneg h0, w1, w2, w3, Int.tmod_eq_emod_of_nonneg (show 0 ≤ c / 64 by omega), Int.tmod_eq_emod_of_nonneg (show 0 ≤ c / 4096 by omega)]
  by_cases h1 : c < 128
  · rw [if_pos h1, Lib.encodeRuneZ_one h0 (by omega)]
    congr 1
    simp only [List.cons.injEq, and_true]
    omega
  · rw [if_neg h1]
    by_cases h2 : c < 2048
    · rw [if_pos h2, Lib.encodeRuneZ_two (by omega) (by omega), wrap_id (x := 192 + c / 64) (by omega) (by omega), wrap_id (x := 128 + c % 64) (by omega) (by omega)]
      congr 1
      simp only [List.cons.injEq, and_true]
      omega
    · rw [if_neg h2]
      by_cases h3 : c < 65536
      · rw [if_pos h3, Lib.encodeRuneZ_three (by omega), wrap_id (x := 224 + c / 4096) (by omega) (by omega), wrap_id (x := 128 + c % 64) (by omega) (by omega), wrap_id (x := 128 + c / 64 % 64) (by omega) (by omega)]
        congr 1
        simp only [List.cons.injEq, and_true]
        omega
      · rw [if_neg h3, Lib.encodeRuneZ_four (by omega) (by omega), wrap_id (x := 240 + c / 262144) (by omega) (by omega), wrap_id (x := 128 + c % 64) (by omega) (by omega), wrap_id (x := 128 + c / 64 % 64) (by omega) (by omega), wrap_id (x := 128 + c / 4096 % 64) (by omega) (by omega)]
        congr 1
        simp only [List.cons.injEq, and_true]
        omega

/-- The numbers of a row of bytes. -/
def numsL (l : List UInt8) : List Int := l.map fun b => (b.toNat : Int)
theorem numsL_length (l : List UInt8) : (numsL l).length = l.length := List.length_map _
theorem numsL_append (l m : List UInt8) : numsL (l ++ m) = numsL l ++ numsL m := List.map_append
theorem numsL_rune (c : Int) : numsL (Lib.encodeRune c) = Lib.encodeRuneZ c := by
  unfold numsL Lib.encodeRune
  rw [List.map_map]
  have h := Lib.encodeRuneZ_byte c
  generalize Lib.encodeRuneZ c = l at h
  induction l with
  | nil => rfl
  | cons x l ih =>
    rw [List.map_cons, ih (fun y hy => h y (List.mem_cons_of_mem _ hy))]
    congr 1
    have := h x (List.mem_cons_self)
    simp
    omega
theorem str_numsL (l : List UInt8) : strOfNums (numsL l) = ⟨l.toArray⟩ := by
  unfold strOfNums numsL
  congr 2
  rw [List.map_map]
  induction l with
  | nil => rfl
  | cons c l ih =>
    rw [List.map_cons, ih]
    congr 1
    simp

theorem brk_not {v : Int} {s : ByteArray} {a : Nat} (h : a < s.size) (hb : 0 < brkN v s a) : s[a] ≠ 92 ∧ ¬ (s[a] = 32 ∨ s[a] = 9) := by
  have key : ∀ c : UInt8, c ≠ 13 → c ≠ 10 → c ≠ 194 → c ≠ 226 → ∀ l, brkL (v == 11) (c :: l) = 0 := by
    intro c h1 h2 h3 h4 l
    unfold brkL
    dsimp only
    rw [if_neg h1, if_neg h2, if_neg (fun h => h3 h.2.1), if_neg (fun h => h4 h.2.1)]
  unfold brkN at hb
  rw [drop_cons s a h] at hb
  refine ⟨fun hc => ?_, fun hc => ?_⟩
  · rw [hc, key _ (by decide) (by decide) (by decide) (by decide)] at hb
    omega
  · rcases hc with hc | hc <;>
    · rw [hc, key _ (by decide) (by decide) (by decide) (by decide)] at hb
      omega

section
variable {v : Int} {s : ByteArray} (hs : s.size ≤ 1000000) (i0 : Int) {a : Nat} {l : List UInt8} (ha : a < s.size) (h34 : s[a] ≠ 34) (hl : l.length ≤ 4000000)
include hs ha h34 hl

/-- Behind the choice of a row of blanks and breaks. -/
theorem double_row (hn : s[a] ≠ 92) (hb : (s[a] = 32 ∨ s[a] = 9) ∨ 0 < brkN v s a) {r : ByteArray × Int × Int × Int}
    (h : Ev (fun k => targumref17_Double.j3 k v s i0 (numsL l) a true) r) : Ev (fun k => targumref17_Double.l0 k v s i0 (numsL l) a) r := by
  have hl' := hl
  have e34 : ((s[a].toNat : Int) = 34) ↔ s[a] = 34 := byte_eq s[a] 34
  have e92 : ((s[a].toNat : Int) = 92) ↔ s[a] = 92 := byte_eq s[a] 92
  refine Ev.step (fun k => by rw [targumref17_Double.l0]) (ev_if_pos (by omega) (ev_if_pos (by omega) ?_))
  rw [bt_nat s a ha]
  refine ev_if_neg (fun h => h34 (e34.1 h)) (ev_if_neg (fun h => hn (e92.1 h)) ?_)
  refine Ev.step (fun k => by rw [targumref17_Double.j2]) (ev_if_neg (by decide) (ev_if_pos (by omega) (ev_if_pos (by omega) ?_)))
  rw [bt_nat s a ha, isblank_f, dif_pos ha]
  refine ev_if_neg (fun h => hn (e92.1 h)) (Ev.bind (Ev.now _) ?_)
  by_cases hc : s[a] = 32 ∨ s[a] = 9
  · exact ev_if_pos (decide_eq_true hc) h
  · have hb' : 0 < brkN v s a := hb.resolve_left hc
    refine ev_if_neg (by rw [decide_eq_false hc]; decide) (Ev.bind (brk_ev v s hs a) ?_)
    rw [decide_eq_true (by omega)]
    exact h

theorem part_ev : (match partR v s (foldF v s) a l with
    | .go a' l' => ∀ r, Ev (fun k => targumref17_Double.l0 k v s i0 (numsL l') a') r → Ev (fun k => targumref17_Double.l0 k v s i0 (numsL l) a) r
    | .bad c o => Ev (fun k => targumref17_Double.l0 k v s i0 (numsL l) a) (⟨#[]⟩, 0, c, o)) := by
  have e34 : ((s[a].toNat : Int) = 34) ↔ s[a] = 34 := byte_eq s[a] 34
  have e92 : ((s[a].toNat : Int) = 92) ↔ s[a] = 92 := byte_eq s[a] 92
  have A := says v s hs
  have ho := overN_le (s := s) (Nat.le_of_lt ha)
  have hrow := row_ev v s hs a (Nat.le_of_lt ha)
  unfold partR
  by_cases hk : 0 < brkN v s (overN s a)
  · rw [if_pos hk]
    have hn : s[a] ≠ 92 ∧ ((s[a] = 32 ∨ s[a] = 9) ∨ 0 < brkN v s a) := by
      rw [overN_at ha] at hk
      by_cases hc : s[a] = 32 ∨ s[a] = 9
      · exact ⟨by rcases hc with hc | hc <;> (rw [hc]; decide), .inl hc⟩
      · rw [if_neg hc] at hk
        exact ⟨(brk_not ha hk).1, .inr hk⟩
    unfold foldR
    rcases hf : foldF v s (overN s a) with ⟨on, e⟩
    rw [hf] at hrow
    cases on with
    | none =>
      refine double_row hs i0 ha h34 hl hn.1 hn.2 ?_
      refine Ev.step (fun k => by rw [targumref17_Double.j3]) (ev_if_pos rfl (Ev.bind hrow ?_))
      exact ev_if_neg (show ¬ (11 : Int) = 0 by decide) (Ev.now _)
    | some n =>
      obtain ⟨h1, h2, h3⟩ := A.fold (overN s a) n e ho.2 hk hf
      intro r hr
      refine double_row hs i0 ha h34 hl hn.1 hn.2 ?_
      refine Ev.step (fun k => by rw [targumref17_Double.j3]) (ev_if_pos rfl (Ev.bind hrow ?_))
      have hfo := folded_ev s a e n (by omega) h3 (by omega)
      rw [if_neg (by omega)] at hfo
      refine ev_if_pos rfl (Ev.bind hfo (ev_if_pos ?_ ?_))
      · rw [numsL_length]
        show l.length + (foldedL n).toArray.size < _
        rw [List.size_toArray]
        have := foldedL_length h1
        omega
      · rw [if_neg (by decide), numsL_append] at hr
        exact hr
  · rw [if_neg hk]
    by_cases hlt : a < overN s a
    · rw [if_pos hlt]
      have hc : s[a] = 32 ∨ s[a] = 9 := by
        rw [overN_at ha] at hlt
        by_cases hc : s[a] = 32 ∨ s[a] = 9
        · exact hc
        · rw [if_neg hc] at hlt; omega
      have hf : foldF v s (overN s a) = (some 0, overN s a) := by
        unfold foldF
        rw [foldN, if_neg hk]
      rw [hf] at hrow
      intro r hr
      refine double_row hs i0 ha h34 hl (by rcases hc with hc | hc <;> (rw [hc]; decide)) (.inl hc) ?_
      refine Ev.step (fun k => by rw [targumref17_Double.j3]) (ev_if_pos rfl (Ev.bind hrow ?_))
      have hfo := folded_ev s a (overN s a) 0 ho.1 ho.2 (by omega)
      rw [if_pos rfl] at hfo
      refine ev_if_pos rfl (Ev.bind hfo (ev_if_pos ?_ ?_))
      · rw [numsL_length, ByteArray.size_extract]
        omega
      · rw [numsL_append] at hr
        exact hr
    · rw [if_neg hlt, dif_pos ha]
      have he : overN s a = a := by omega
      rw [he] at hk
      by_cases h92 : s[a] = 92
      · rw [if_pos h92]
        have ew : wrap64 ((a : Int) + 1) = ((a + 1 : Nat) : Int) := wrap_id (by omega) (by omega)
        have hbe := brk_ev v s hs (a + 1)
        have start : ∀ {r}, Ev (fun k => targumref17_Double.j2 k v s i0 (numsL l) a (decide (((brkN v s (a + 1) : Nat) : Int) > 0))) r → Ev (fun k => targumref17_Double.l0 k v s i0 (numsL l) a) r := by
          intro r h
          refine Ev.step (fun k => by rw [targumref17_Double.l0]) (ev_if_pos (by omega) (ev_if_pos (by omega) ?_))
          rw [bt_nat s a ha, ew]
          exact ev_if_neg (fun h => h34 (e34.1 h)) (ev_if_pos (e92.2 h92) (Ev.bind hbe h))
        by_cases hb : 0 < brkN v s (a + 1)
        · have hlt1 : a + 1 < s.size := by
            by_cases h : a + 1 < s.size
            · exact h
            · have := brkN_le v s (a + 1) (by omega)
              omega
          unfold turnedR
          rw [dif_pos hlt1, if_pos hb]
          have ho1 : overN s (a + 1) = a + 1 := by rw [overN_at hlt1, if_neg (brk_not hlt1 hb).2]
          have hrow1 := row_ev v s hs (a + 1) (by omega)
          rw [ho1] at hrow1
          rw [decide_eq_true (by omega)] at start
          unfold foldR
          rcases hf : foldF v s (a + 1) with ⟨on, e⟩
          rw [hf] at hrow1
          cases on with
          | none =>
            refine start (Ev.step (fun k => by rw [targumref17_Double.j2]) (ev_if_pos rfl ?_))
            rw [ew]
            exact Ev.bind hrow1 (ev_if_neg (show ¬ (11 : Int) = 0 by decide) (Ev.now _))
          | some n =>
            obtain ⟨h1, h2, h3⟩ := A.fold (a + 1) n e (by omega) hb hf
            intro r hr
            refine start (Ev.step (fun k => by rw [targumref17_Double.j2]) (ev_if_pos rfl ?_))
            rw [ew]
            refine Ev.bind hrow1 (ev_if_pos rfl ?_)
            show Ev (fun k => (targumref17_feeds.f k (wrap64 ((n : Int) - 1))).bind _) _
            rw [show wrap64 ((n : Int) - 1) = ((n - 1 : Nat) : Int) from by rw [wrap_id (by omega) (by omega)]; omega]
            refine Ev.bind (feeds_ev (n - 1) (by omega)) (ev_if_pos ?_ ?_)
            · rw [numsL_length]
              show l.length + (Lib.repeatL [10] (n - 1)).toArray.size < _
              rw [List.size_toArray, Lib.repeatL_length]
              simp
              omega
            · rw [if_pos rfl, numsL_append] at hr
              exact hr
        · rw [decide_eq_false (by omega)] at start
          have go : ∀ {r}, Ev (fun k => if (escR v s a).1 < 0 then some ((⟨#[]⟩ : ByteArray), (0 : Int), (14 : Int), (a : Int)) else ((targumref1_Utf8.f (escR v s a).1).bind fun t => if (numsL l).length + t.length < 140737488355328 then targumref17_Double.l0 k v s i0 (numsL l ++ t) (escR v s a).2 else none)) r → Ev (fun k => targumref17_Double.l0 k v s i0 (numsL l) a) r := by
            intro r h
            refine start (Ev.step (fun k => by rw [targumref17_Double.j2]) (ev_if_neg (by decide) (ev_if_pos (by omega) (ev_if_pos (by omega) ?_))))
            rw [bt_nat s a ha]
            exact ev_if_pos (e92.2 h92) (Ev.bind (escape_ev v s hs a ha) h)
          have bad : (escR v s a).1 < 0 → Ev (fun k => targumref17_Double.l0 k v s i0 (numsL l) a) (⟨#[]⟩, 0, 14, (a : Int)) := fun h => go (ev_if_pos h (Ev.now _))
          have good : ∀ {c e : Nat} {r}, escR v s a = ((c : Int), (e : Int)) → Lib.validRune c = true → Ev (fun k => targumref17_Double.l0 k v s i0 (numsL (l ++ Lib.encodeRune c)) e) r → Ev (fun k => targumref17_Double.l0 k v s i0 (numsL l) a) r := by
            intro c e r he hv hr
            refine go ?_
            rw [he]
            refine ev_if_neg (show ¬ (c : Int) < 0 by omega) ?_
            rw [utf8_f c (by omega) hv]
            refine Ev.bind (Ev.now _) (ev_if_pos ?_ ?_)
            · rw [numsL_length]
              have := (Lib.encodeRuneZ_length (c : Int)).2
              omega
            · rw [numsL_append, numsL_rune] at hr
              exact hr
          unfold turnedR
          unfold escR at bad good
          by_cases hlt1 : a + 1 < s.size
          · rw [dif_pos hlt1, if_neg hb]
            rw [dif_pos hlt1] at bad good
            by_cases h1 : 1 < widthI s[a + 1]
            · rw [if_pos h1]
              rw [if_pos h1] at bad good
              unfold hexR
              cases hx : hexRun (widthI s[a + 1]).toNat (s.data.toList.drop (a + 2)) 0 with
              | none =>
                rw [hx] at bad
                exact bad (show (-1 : Int) < 0 by decide)
              | some n =>
                rw [hx] at bad good
                by_cases hv : Lib.validRune n = true
                · simp only [if_pos hv] at good ⊢
                  intro r hr
                  have hn0 : 0 ≤ n := by
                    simp only [Lib.validRune, decide_eq_true_eq] at hv
                    omega
                  obtain ⟨m, rfl⟩ := Int.eq_ofNat_of_zero_le hn0
                  exact good rfl hv hr
                · simp only [if_neg hv] at bad ⊢
                  exact bad (show (-1 : Int) < 0 by decide)
            · rw [if_neg h1]
              rw [if_neg h1] at bad good
              have hsn := singleN_le v s[a + 1]
              by_cases hn : singleN v s[a + 1] < 0
              · rw [if_pos hn]
                exact bad hn
              · rw [if_neg hn]
                obtain ⟨m, hm⟩ := Int.eq_ofNat_of_zero_le (a := singleN v s[a + 1]) (by omega)
                rw [hm] at good ⊢
                intro r hr
                exact good rfl (by unfold Lib.validRune; exact decide_eq_true (by omega)) hr
          · rw [dif_neg hlt1]
            rw [dif_neg hlt1] at bad
            exact bad (show (-1 : Int) < 0 by decide)
      · rw [if_neg h92]
        intro r hr
        have hc : ¬ (s[a] = 32 ∨ s[a] = 9) := by
          intro hc
          have h1 := overN_at ha
          rw [if_pos hc, he] at h1
          have := (overN_le (s := s) (a := a + 1) ha).1
          omega
        refine Ev.step (fun k => by rw [targumref17_Double.l0]) (ev_if_pos (by omega) (ev_if_pos (by omega) ?_))
        rw [bt_nat s a ha]
        refine ev_if_neg (fun h => h34 (e34.1 h)) (ev_if_neg (fun h => h92 (e92.1 h)) ?_)
        refine Ev.step (fun k => by rw [targumref17_Double.j2]) (ev_if_neg (by decide) (ev_if_pos (by omega) (ev_if_pos (by omega) ?_)))
        rw [bt_nat s a ha, isblank_f, dif_pos ha]
        refine ev_if_neg (fun h => h92 (e92.1 h)) (Ev.bind (Ev.now _) ?_)
        refine ev_if_neg (by rw [decide_eq_false hc]; decide) (Ev.bind (brk_ev v s hs a) ?_)
        rw [decide_eq_false (by omega)]
        refine Ev.step (fun k => by rw [targumref17_Double.j3]) (ev_if_neg (by decide) (ev_if_pos (by omega) (ev_if_pos (by omega) (ev_if_pos ?_ ?_))))
        · rw [numsL_length]
          omega
        · rw [bt_nat s a ha, show wrap64 ((a : Int) + 1) = ((a + 1 : Nat) : Int) from wrap_id (by omega) (by omega)]
          rw [numsL_append] at hr
          exact hr
end

def finR (s : ByteArray) (i0 : Int) (R : Res) : ByteArray × Int × Int × Int :=
  match R with
  | .go a l => if a < s.size then (⟨l.toArray⟩, (a : Int) + 1, 0, 0) else (⟨#[]⟩, 0, 11, i0)
  | .bad c o => (⟨#[]⟩, 0, c, o)
theorem double_loop (v : Int) (s : ByteArray) (hs : s.size ≤ 1000000) (i0 : Int) : ∀ (f a : Nat) (l : List UInt8) (R : Res), a ≤ s.size → l.length ≤ 4 * a → readL v s (foldF v s) f a l = some R →
    Ev (fun k => targumref17_Double.l0 k v s i0 (numsL l) a) (finR s i0 R) := by
  intro f
  induction f with
  | zero => intro a l R ha hl h; exact nomatch h
  | succ f ih =>
    intro a l R ha hl h
    rw [readL] at h
    by_cases hlt : a < s.size
    · rw [dif_pos hlt] at h
      by_cases h34 : s[a] = 34
      · rw [if_pos h34] at h
        obtain rfl := Option.some.inj h
        refine Ev.step (fun k => by rw [targumref17_Double.l0]) (ev_if_pos (by omega) (ev_if_pos (by omega) ?_))
        rw [bt_nat s a hlt]
        refine ev_if_pos ((byte_eq s[a] 34).2 h34) ?_
        rw [str_numsL, show wrap64 ((a : Int) + 1) = (a : Int) + 1 from wrap_id (by omega) (by omega)]
        unfold finR
        simp only [if_pos hlt]
        exact Ev.now _
      · rw [if_neg h34] at h
        have hp := part_ev hs i0 hlt h34 (l := l) (v := v) (by omega)
        cases hq : partR v s (foldF v s) a l with
        | go a' l' =>
          rw [hq] at h hp
          have := partR_le (says v s hs) hlt hq
          exact hp _ (ih a' l' R this.2.1 (by omega) h)
        | bad c o =>
          rw [hq] at h hp
          obtain rfl := Option.some.inj h
          exact hp
    · rw [dif_neg hlt] at h
      obtain rfl := Option.some.inj h
      refine Ev.step (fun k => by rw [targumref17_Double.l0]) (ev_if_neg (by omega) ?_)
      unfold finR
      simp only [if_neg hlt]
      exact Ev.now _

theorem double_ev (v : Int) (s : ByteArray) (hs : s.size ≤ 1000000) (i : Int) : Ev (fun k => targumref17_Double.f k v s i) (readF v s i) := by
  have out : Ev (fun k => targumref17_Double.j0 k v s i true) (⟨#[]⟩, 0, 11, i) := Ev.step (fun k => by rw [targumref17_Double.j0]) (ev_if_pos rfl (Ev.now _))
  unfold targumref17_Double.f readF
  by_cases h0 : i < 0
  · rw [dif_neg (by omega)]
    exact ev_if_pos h0 out
  · refine ev_if_neg h0 ?_
    obtain ⟨n, rfl⟩ := Int.eq_ofNat_of_zero_le (a := i) (by omega)
    by_cases hn : n < s.size
    · refine ev_if_neg (by omega) (ev_if_pos (by omega) (ev_if_pos (by omega) ?_))
      rw [bt_nat s n hn, dif_pos ⟨by omega, hn⟩]
      simp only [Int.toNat_natCast]
      by_cases h34 : s[n] = 34
      · rw [if_pos h34, show (((s[n]).toNat : Int) != 34) = false from by rw [h34]; rfl]
        obtain ⟨R, hR⟩ := readL_ends (says v s hs) s.size (n + 1) [] (by omega)
        refine Ev.step (fun k => by rw [targumref17_Double.j0]) (ev_if_neg (by decide) ?_)
        rw [show wrap64 ((n : Int) + 1) = ((n + 1 : Nat) : Int) from wrap_id (by omega) (by omega), hR]
        have h := double_loop v s hs n (s.size + 1) (n + 1) [] R (by omega) (by simp) hR
        cases R <;> exact h
      · rw [if_neg h34, show (((s[n]).toNat : Int) != 34) = true from by rw [bne_iff_ne]; exact fun h => h34 ((byte_eq s[n] 34).1 h)]
        exact out
    · rw [dif_neg (by intro h; exact hn h.2)]
      exact ev_if_pos (by omega) out
end Go.Proofs.Ytgbnbjajaaggkaa.Q
