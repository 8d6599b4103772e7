/- The reference's ways and places are the program's; what well-formed texts are. Conditions: sizes. -/
import Derived.Test.YtbdjcfaocmhdnaaMkP
import Derived.Test.YtbdjcfaocmhdnaaQx3
namespace Go.Proofs.Ytbdjcfaocmhdnaa.Q
open Go Go.RowKit Go.Proofs Go.Proofs.YtbdjcfaocmhdnaaW.PrintWords Go.Proofs.YtbdjcfaocmhdnaaW.PrintLast Go.Proofs.YtbdjcfaocmhdnaaW.PrintMore
set_option linter.unusedVariables false
set_option linter.unusedSimpArgs false

theorem ref_brk (v : Int) (s : ByteArray) (hs : s.size ≤ 1000000) (a : Nat) : Ev (fun k => targumref1_Break.f k v s (a : Int)) ((brkN v s a : Nat) : Int) := by
  have h := break_ev v s (by omega) a
  rw [if_pos (by omega), Int.toNat_natCast] at h
  exact h
theorem ref_way_loop (v : Int) (s : ByteArray) (hs : s.size ≤ 1000000) : ∀ (d i a b : Nat), s.size - i ≤ d → i ≤ s.size → a ≤ i → b ≤ i →
    Ev (fun k => targumref1_Way.l0 k v s a b i) (((wayL (v == 11) (s.size - i) (s.data.toList.drop i) (a, b)).1 : Int), ((wayL (v == 11) (s.size - i) (s.data.toList.drop i) (a, b)).2 : Int)) := by
  intro d
  induction d with
  | zero =>
    intro i a b hd hi ha hb
    rw [show s.size - i = 0 by omega]
    show Ev _ ((a : Int), (b : Int))
    exact Ev.step (fun k => by rw [targumref1_Way.l0]) (ev_if_neg (by omega) (Ev.now _))
  | succ d ih =>
    intro i a b hd hi ha hb
    by_cases h : i < s.size
    · refine Ev.step (fun k => by rw [targumref1_Way.l0]) (ev_if_pos (by omega) (Ev.bind (ref_brk v s hs i) ?_))
      have hbl := brkN_le v s i hi
      rw [wayL_at v s i h (a, b)]
      rw [show wrap64 ((a : Int) + 1) = ((a + 1 : Nat) : Int) from wrap_id (by omega) (by omega), show wrap64 ((b : Int) + 1) = ((b + 1 : Nat) : Int) from wrap_id (by omega) (by omega), show wrap64 ((i : Int) + 1) = ((i + 1 : Nat) : Int) from wrap_id (by omega) (by omega),
        show wrap64 ((i : Int) + ((brkN v s i : Nat) : Int)) = ((i + brkN v s i : Nat) : Int) from by rw [wrap_id (by omega) (by omega)]; omega]
      by_cases hbr : 0 < brkN v s i
      · rw [if_pos hbr]
        refine ev_if_pos (by omega) ?_
        have := ih (i + brkN v s i) (a + 1) 0 (by omega) hbl (by omega) (by omega)
        have e : wayL (v == 11) (s.size - i - 1) (s.data.toList.drop (i + brkN v s i)) (a + 1, 0) = wayL (v == 11) (s.size - (i + brkN v s i)) (s.data.toList.drop (i + brkN v s i)) (a + 1, 0) :=
          wayL_any _ _ _ _ _ (by rw [List.length_drop, Array.length_toList]; show s.size - _ ≤ _; omega) (by rw [List.length_drop, Array.length_toList]; exact Nat.le_refl _)
        rw [e]
        rw [show ((0 : Nat) : Int) = 0 from rfl] at this
        exact this
      · rw [if_neg hbr]
        refine ev_if_neg (by omega) (ev_if_pos (by omega) ?_)
        rw [bt_nat s i h, Nat.sub_sub]
        by_cases h1 : (s[i].toNat : Int) < 128
        · have hc : cntB s[i] = true := decide_eq_true (by omega)
          rw [if_pos hc]
          exact ev_if_pos h1 (ih (i + 1) a (b + 1) (by omega) h (by omega) (by omega))
        · by_cases h2 : (s[i].toNat : Int) ≥ 192
          · have hc : cntB s[i] = true := decide_eq_true (by omega)
            rw [if_pos hc]
            exact ev_if_neg h1 (ev_if_pos h2 (ih (i + 1) a (b + 1) (by omega) h (by omega) (by omega)))
          · have hc : ¬ cntB s[i] = true := by unfold cntB; rw [decide_eq_true_eq]; omega
            rw [if_neg hc]
            exact ev_if_neg h1 (ev_if_neg h2 (ih (i + 1) a b (by omega) h (by omega) (by omega)))
    · rw [show s.size - i = 0 by omega]
      show Ev _ ((a : Int), (b : Int))
      exact Ev.step (fun k => by rw [targumref1_Way.l0]) (ev_if_neg (by omega) (Ev.now _))
theorem ref_way (v : Int) (s : ByteArray) (hs : s.size ≤ 1000000) : Ev (fun k => targumref1_Way.f k v s) (((way v s).1 : Int), ((way v s).2 : Int)) := by
  have := ref_way_loop v s hs s.size 0 0 0 (by omega) (Nat.zero_le _) (Nat.le_refl _) (Nat.le_refl _)
  rw [List.drop_zero, Nat.sub_zero] at this
  exact this
theorem ref_of (v : Int) (s : ByteArray) (hs : s.size ≤ 1000000) (off : Int) : Ev (fun k => targumref1_Of.f k v s off) (((way v (s.extract 0 (offN s off))).1 : Int), ((way v (s.extract 0 (offN s off))).2 : Int)) := by
  have e : mn (mx off 0) (s.size : Int) = ((offN s off : Nat) : Int) := by
    unfold mn mx offN
    split <;> split <;> omega
  have hle : offN s off ≤ s.size := Nat.min_le_right _ _
  unfold targumref1_Of.f
  rw [e, Int.toNat_natCast]
  exact ev_if_pos (by omega) (ev_if_pos (by omega) (Ev.bind (ref_way v _ (by rw [ByteArray.size_extract]; omega)) (Ev.now _)))
theorem offN_nat (s : ByteArray) (n : Nat) (h : n ≤ s.size) : offN s (n : Int) = n := by unfold offN; omega
theorem way_to (v : Int) (s : ByteArray) (n : Nat) : way v (s.extract 0 n) = wL (v == 11) (s.data.toList.take n) := by
  have := way_ext v s 0 n
  rw [Nat.zero_add, List.drop_zero] at this
  exact this
theorem ref_off_loop (v : Int) (s : ByteArray) (hs : s.size ≤ 1000000) (x y : Int) : ∀ (n : Nat), n ≤ s.size + 1 → Ev (fun k => targumref1_Off.l0 k v s x y ((n : Int) - 1)) (lastI (atP v s (x, y)) n) := by
  intro n
  induction n with
  | zero =>
    intro _
    show Ev _ (-1)
    exact Ev.step (fun k => by rw [targumref1_Off.l0]) (ev_if_neg (by omega) (Ev.now _))
  | succ n ih =>
    intro hn
    have ih' := ih (by omega)
    have e : ((n + 1 : Nat) : Int) - 1 = (n : Int) := by omega
    rw [e]
    have ho := ref_of v s hs n
    rw [offN_nat s n (by omega), way_to] at ho
    refine Ev.step (fun k => by rw [targumref1_Off.l0]) (ev_if_pos (by omega) (Ev.bind ho ?_))
    rw [show wrap64 ((n : Int) - 1) = (n : Int) - 1 from wrap_id (by omega) (by omega), lastI]
    unfold atP zz
    by_cases h1 : ((wL (v == 11) (s.data.toList.take n)).1 : Int) = x
    · by_cases h2 : ((wL (v == 11) (s.data.toList.take n)).2 : Int) = y
      · rw [if_pos (decide_eq_true (by rw [h1, h2]))]
        exact ev_if_pos h1 (ev_if_pos h2 (Ev.now _))
      · rw [if_neg (by rw [decide_eq_true_eq]; intro h; exact h2 (congrArg Prod.snd h))]
        exact ev_if_pos h1 (ev_if_neg h2 ih')
    · rw [if_neg (by rw [decide_eq_true_eq]; intro h; exact h1 (congrArg Prod.fst h))]
      exact ev_if_neg h1 ih'
theorem ref_off (v : Int) (s : ByteArray) (hs : s.size ≤ 1000000) (x y : Int) : Ev (fun k => targumref1_Off.f k v s x y) (offR v s (x, y)) := by
  have := ref_off_loop v s hs x y (s.size + 1) (Nat.le_refl _)
  rw [show ((s.size + 1 : Nat) : Int) - 1 = (s.size : Int) by omega] at this
  rw [offR_last]
  exact this

/-! ### well-formed texts -/
inductive Wl : List UInt8 → Prop
  | nil : Wl []
  | step (l : List UInt8) : l ≠ [] → 0 < (decL l).2 → Wl (l.drop (decL l).2) → Wl l
theorem contL_some : ∀ (m c : Nat) (l : List UInt8) (x : Nat), contL m c l = some x → m ≤ l.length ∧ (∀ j (h : j < l.length), j < m → 128 ≤ l[j].toNat ∧ l[j].toNat < 192) ∧ ∀ B, contL m c (l ++ B) = some x
  | 0, c, l, x, h => ⟨Nat.zero_le _, fun j hj h0 => absurd h0 (by omega), fun B => by cases l <;> exact h⟩
  | m + 1, c, [], x, h => by simp [contL] at h
  | m + 1, c, b :: l, x, h => by
    rw [contL] at h
    by_cases hb : 128 ≤ b.toNat ∧ b.toNat < 192
    · rw [if_pos hb] at h
      obtain ⟨h1, h2, h3⟩ := contL_some m _ l x h
      refine ⟨by simp; omega, fun j hj hjm => ?_, fun B => ?_⟩
      · cases j with
        | zero => exact hb
        | succ j => simpa using h2 j (by simpa using hj) (by omega)
      · rw [List.cons_append, contL, if_pos hb]
        exact h3 B
    · rw [if_neg hb] at h
      exact nomatch h
theorem finL_pos {n least : Nat} {o : Option Nat} (h : 0 < (finL n least o).2) : ∃ x, o = some x ∧ (finL n least o).2 = n := by
  unfold finL at h ⊢
  cases o with
  | none => exact absurd h (by simp)
  | some x =>
    refine ⟨x, rfl, ?_⟩
    simp only at h ⊢
    split at h
    · exact absurd h (by simp)
    · rename_i h1
      rw [if_neg h1]
      split at h
      · rename_i h2; rw [if_pos h2]
      · exact absurd h (by simp)
/-- A scalar at the beginning. -/
structure Sc (c : UInt8) (l : List UInt8) (n : Nat) : Prop where
  pos : 1 ≤ n
  le : n ≤ l.length + 1
  lead : c.toNat < 128 ∨ 192 ≤ c.toNat
  cont : ∀ j (h : j < l.length), j + 1 < n → 128 ≤ l[j].toNat ∧ l[j].toNat < 192
  two : c = 194 → n = 2
  three : c = 226 → n = 3
  more : ∀ B, decL (c :: (l ++ B)) = decL (c :: l)
theorem dec_sc (c : UInt8) (l : List UInt8) (h : 0 < (decL (c :: l)).2) : Sc c l (decL (c :: l)).2 := by
  have k194 : c = 194 → c.toNat = 194 := fun h => by rw [h]; rfl
  have k226 : c = 226 → c.toNat = 226 := fun h => by rw [h]; rfl
  by_cases h1 : c.toNat < 128
  · rw [decL_1 c l h1] at h ⊢
    exact ⟨by simp, by simp, .inl h1, fun j hj hj2 => absurd hj2 (by simp), fun h => by have := k194 h; omega, fun h => by have := k226 h; omega, fun B => by rw [decL_1 c _ h1, decL_1 c l h1]⟩
  by_cases h2 : 192 ≤ c.toNat ∧ c.toNat < 224
  · rw [decL_2 c l h2] at h ⊢
    obtain ⟨x, hx, hn⟩ := finL_pos h
    obtain ⟨g1, g2, g3⟩ := contL_some _ _ _ _ hx
    rw [hn]
    exact ⟨by decide, by omega, .inr h2.1, fun j hj hj2 => g2 j hj (by omega), fun _ => rfl, fun h => by have := k226 h; omega, fun B => by rw [decL_2 c _ h2, g3 B, decL_2 c l h2, hx]⟩
  by_cases h3 : 224 ≤ c.toNat ∧ c.toNat < 240
  · rw [decL_3 c l h3] at h ⊢
    obtain ⟨x, hx, hn⟩ := finL_pos h
    obtain ⟨g1, g2, g3⟩ := contL_some _ _ _ _ hx
    rw [hn]
    exact ⟨by decide, by omega, .inr (by omega), fun j hj hj2 => g2 j hj (by omega), fun h => by have := k194 h; omega, fun _ => rfl, fun B => by rw [decL_3 c _ h3, g3 B, decL_3 c l h3, hx]⟩
  by_cases h4 : 240 ≤ c.toNat ∧ c.toNat < 248
  · rw [decL_4 c l h4] at h ⊢
    obtain ⟨x, hx, hn⟩ := finL_pos h
    obtain ⟨g1, g2, g3⟩ := contL_some _ _ _ _ hx
    rw [hn]
    exact ⟨by decide, by omega, .inr (by omega), fun j hj hj2 => g2 j hj (by omega), fun h => by have := k194 h; omega, fun h => by have := k226 h; omega, fun B => by rw [decL_4 c _ h4, g3 B, decL_4 c l h4, hx]⟩
  · rw [decL_0 c l ⟨h1, by omega⟩] at h
    exact absurd h (by simp)
theorem Wl.lead {c : UInt8} {l : List UInt8} (h : Wl (c :: l)) : c.toNat < 128 ∨ 192 ≤ c.toNat := by
  cases h with
  | step _ _ h2 _ => exact (dec_sc c l h2).lead
/-- No break's beginning stands alone at the end. -/
theorem Wl.whole {l : List UInt8} (h : Wl l) : ∀ (j : Nat) (c : UInt8) (r : List UInt8), l.drop j = c :: r → (c = 194 → 1 ≤ r.length) ∧ (c = 226 → 2 ≤ r.length) := by
  induction h with
  | nil => intro j c r e; rw [List.drop_nil] at e; exact nomatch e
  | step l hne hp hw ih =>
    intro j c r e
    obtain ⟨d, l', rfl⟩ := List.exists_cons_of_ne_nil hne
    have sc := dec_sc d l' hp
    generalize (decL (d :: l')).2 = n at sc ih
    by_cases hj : j < n
    · cases j with
      | zero =>
        rw [List.drop_zero] at e
        obtain ⟨rfl, rfl⟩ := List.cons.inj e
        exact ⟨fun h => by have := sc.two h; have := sc.le; omega, fun h => by have := sc.three h; have := sc.le; omega⟩
      | succ j =>
        have hjl : j < l'.length := by have := sc.le; omega
        have := sc.cont j hjl hj
        rw [List.drop_succ_cons, List.drop_eq_getElem_cons hjl] at e
        obtain ⟨rfl, rfl⟩ := List.cons.inj e
        exact ⟨fun h => by rw [h] at this; exact absurd this.2 (by decide), fun h => by rw [h] at this; exact absurd this.2 (by decide)⟩
    · have := ih (j - n) c r (by rw [List.drop_drop, show n + (j - n) = j by omega]; exact e)
      exact this
theorem Wl.tail {A : List UInt8} (h : Wl A) : ∀ B, Wl (A ++ B) → Wl B := by
  induction h with
  | nil => intro B h; exact h
  | step l hne hp hw ih =>
    intro B hB
    obtain ⟨d, l', rfl⟩ := List.exists_cons_of_ne_nil hne
    have sc := dec_sc d l' hp
    cases hB with
    | step _ _ h2 h3 =>
      rw [List.cons_append, sc.more B, ← List.cons_append] at h3
      rw [List.drop_append_of_le_length (by rw [List.length_cons]; exact sc.le)] at h3
      exact ih B h3
theorem well_loop (s : ByteArray) (hs : s.size ≤ 1000000) : ∀ (d i : Nat), s.size - i ≤ d → i ≤ s.size → ∃ r, Ev (fun k => targumref1_Well.l0 k s i) r ∧ (r = true → Wl (s.data.toList.drop i)) := by
  have hdl : s.data.toList.length = s.size := by rw [Array.length_toList]; rfl
  intro d
  induction d with
  | zero =>
    intro i hd hi
    refine ⟨true, Ev.step (fun k => by rw [targumref1_Well.l0]) (ev_if_neg (by omega) (Ev.now _)), fun _ => ?_⟩
    rw [List.drop_eq_nil_of_le (by omega)]
    exact Wl.nil
  | succ d ih =>
    intro i hd hi
    by_cases h : i < s.size
    · have hn := next_ev s (by omega) i
      rw [if_pos (by omega), Int.toNat_natCast] at hn
      by_cases h0 : (decL (s.data.toList.drop i)).2 = 0
      · refine ⟨false, Ev.step (fun k => by rw [targumref1_Well.l0]) (ev_if_pos (by omega) (Ev.bind hn (ev_if_pos (show (((decL (s.data.toList.drop i)).2 : Nat) : Int) = 0 by omega) (Ev.now _)))), fun h => nomatch h⟩
      · have hle : i + (decL (s.data.toList.drop i)).2 ≤ s.size := by
          rw [drop_cons s i h] at h0 ⊢
          have := (dec_sc _ _ (Nat.pos_of_ne_zero h0)).le
          rw [List.length_drop, hdl] at this
          omega
        obtain ⟨r, hr, hw⟩ := ih (i + (decL (s.data.toList.drop i)).2) (by omega) hle
        refine ⟨r, Ev.step (fun k => by rw [targumref1_Well.l0]) (ev_if_pos (by omega) (Ev.bind hn (ev_if_neg (show ¬ (((decL (s.data.toList.drop i)).2 : Nat) : Int) = 0 by omega) ?_))), fun hrt => ?_⟩
        · have e : wrap64 ((i : Int) + (((decL (s.data.toList.drop i)).2 : Nat) : Int)) = ((i + (decL (s.data.toList.drop i)).2 : Nat) : Int) := by rw [wrap_id (by omega) (by omega)]; omega
          show Ev (fun k => targumref1_Well.l0 k s (wrap64 ((i : Int) + (((decL (s.data.toList.drop i)).2 : Nat) : Int)))) r
          rw [e]
          exact hr
        · have h2 := hw hrt
          rw [← List.drop_drop] at h2
          exact Wl.step _ (by rw [drop_cons s i h]; simp) (Nat.pos_of_ne_zero h0) h2
    · refine ⟨true, Ev.step (fun k => by rw [targumref1_Well.l0]) (ev_if_neg (by omega) (Ev.now _)), fun _ => ?_⟩
      rw [List.drop_eq_nil_of_le (by omega)]
      exact Wl.nil
theorem ref_well (s : ByteArray) (hs : s.size ≤ 1000000) : ∃ r, Ev (fun k => targumref1_Well.f k s) r ∧ (r = true → Wl s.data.toList) := by
  have := well_loop s hs s.size 0 (by omega) (Nat.zero_le _)
  rw [List.drop_zero] at this
  exact this
end Go.Proofs.Ytbdjcfaocmhdnaa.Q
