/- The plain law of tags: what the reference tells. -/
import Derived.Test.YtmceepmchfjinaaQx3
import Derived.Test.YtmceepmchfjinaaQx4
import Derived.Test.YtmceepmchfjinaaQx5
import Derived.Test.YtmceepmchfjinaaTagPure
namespace Go.Proofs.Ytmceepmchfjinaa.Q
open Go.RowKit Go.Proofs.YtmceepmchfjinaaW.PrintWords Go.Proofs.YtmceepmchfjinaaW.PrintLast Go.Proofs.YtmceepmchfjinaaW.PrintMore
set_option linter.unusedVariables false
set_option linter.unusedSimpArgs false

theorem ref_short30 (c : UInt8) : targumref12_Short.f 30 (c.toNat : Int) = some (shortB c) := all_bytes (p := fun c => targumref12_Short.f 30 (c.toNat : Int) = some (shortB c)) (by decide +kernel) c
theorem ref_sign30 (c : UInt8) : targumref12_Sign.f 30 (c.toNat : Int) = some (signB c) := all_bytes (p := fun c => targumref12_Sign.f 30 (c.toNat : Int) = some (signB c)) (by decide +kernel) c
theorem ref_short (c : UInt8) : Ev (fun k => targumref12_Short.f k (c.toNat : Int)) (shortB c) := Ev.of (fun k => targumref12_Short.mono _ k) (ref_short30 c)
theorem ref_sign (c : UInt8) : Ev (fun k => targumref12_Sign.f k (c.toNat : Int)) (signB c) := Ev.of (fun k => targumref12_Sign.mono _ k) (ref_sign30 c)

theorem ev_if_pos {α : Type} {c : Prop} [Decidable c] {f g : Nat → Option α} {r : α} (hc : c) (h : Ev f r) : Ev (fun k => if c then f k else g k) r := Ev.congr (fun k => if_pos hc) h
theorem ev_if_neg {α : Type} {c : Prop} [Decidable c] {f g : Nat → Option α} {r : α} (hc : ¬ c) (h : Ev g r) : Ev (fun k => if c then f k else g k) r := Ev.congr (fun k => if_neg hc) h

/-- The end of a tag between < and >, the signs gone over. -/
def verbEnd (s : ByteArray) (n q : Nat) : Bool × ByteArray × ByteArray × Int × Bool :=
  if h : q < s.size then (if q = n + 2 ∨ s[q] ≠ 62 then none5 else (true, ⟨#[]⟩, s.extract (n + 2) q, ((q + 1 : Nat) : Int), true)) else none5

theorem ref_verb (s : ByteArray) (n : Nat) (hs : s.size ≤ 1000000) (hn : n + 1 < s.size) : ∀ (d q : Nat), n + 2 ≤ q → q ≤ s.size → s.size - q = d →
    Ev (fun k => targumref12_Read.l0 k s ((n + 1 : Nat) : Int) (q : Int)) (verbEnd s n (q + run signB s q)) := by
  have e1 : wrap64 (((n + 1 : Nat) : Int) + 1) = ((n + 2 : Nat) : Int) := by rw [wrap_id (by omega) (by omega)]; omega
  intro d
  induction d with
  | zero =>
    intro q h1 h2 h3
    refine Ev.step (fun k => by rw [targumref12_Read.l0]) ?_
    have hq : q = s.size := by omega
    rw [run_end _ _ _ (by omega)]
    refine ev_if_neg (by omega) ?_
    rw [e1]
    unfold verbEnd
    rw [dif_neg (by omega)]
    by_cases hz : (q : Int) = ((n + 2 : Nat) : Int)
    · exact ev_if_pos hz (Ev.now _)
    · exact ev_if_neg hz (ev_if_pos (by omega) (Ev.now _))
  | succ d ih =>
    intro q h1 h2 h3
    have hlt : q < s.size := by omega
    refine Ev.step (fun k => by rw [targumref12_Read.l0]) ?_
    refine ev_if_pos (by omega) (ev_if_pos (by omega) ?_)
    rw [bt_nat s q hlt]
    refine Ev.bind (ref_sign s[q]) ?_
    cases hb : signB s[q] with
    | true =>
      refine ev_if_pos rfl ?_
      have e2 : wrap64 ((q : Int) + 1) = ((q + 1 : Nat) : Int) := by rw [wrap_id (by omega) (by omega)]; omega
      rw [e2, run_yes signB s q hlt hb]
      have := ih (q + 1) (by omega) (by omega) (by omega)
      rw [show q + (run signB s (q + 1) + 1) = q + 1 + run signB s (q + 1) from by omega]
      exact this
    | false =>
      refine ev_if_neg (by decide) ?_
      rw [run_no signB s q hlt hb, e1]
      unfold verbEnd
      rw [dif_pos (by omega)]
      by_cases hz : q = n + 2
      · refine ev_if_pos (by omega) ?_
        rw [if_pos (.inl (by omega))]
        exact Ev.now _
      · refine ev_if_neg (by omega) (ev_if_neg (by omega) ?_)
        by_cases h62 : s[q] = 62
        · refine ev_if_pos ((byte_eq _ 62).2 h62) (ev_if_pos (by omega) (ev_if_pos (by omega) (ev_if_pos (by omega) ?_)))
          rw [if_neg (by rintro (h | h); exact hz (by omega); exact h h62)]
          have e2 : wrap64 ((q : Int) + 1) = ((q + 1 : Nat) : Int) := by rw [wrap_id (by omega) (by omega)]; omega
          rw [e2, Int.toNat_natCast, Int.toNat_natCast]
          exact Ev.now _
        · refine ev_if_neg (fun e => h62 ((byte_eq _ 62).1 e)) ?_
          rw [if_pos (.inr h62)]
          exact Ev.now _

theorem letter_b (c : UInt8) : targumref6_Letter.f (c.toNat : Int) = some ((97 ≤ c && c ≤ 122) || (65 ≤ c && c ≤ 90)) := all_bytes (p := fun c => targumref6_Letter.f (c.toNat : Int) = some ((97 ≤ c && c ≤ 122) || (65 ≤ c && c ≤ 90))) (by decide +kernel) c
theorem digit_b (c : UInt8) : targumref4_IsDigit.f (c.toNat : Int) = some (48 ≤ c && c ≤ 57) := all_bytes (p := fun c => targumref4_IsDigit.f (c.toNat : Int) = some (48 ≤ c && c ≤ 57)) (by decide +kernel) c

theorem ref_word (s : ByteArray) (a : Nat) (hs : s.size ≤ 1000000) : ∀ (d j : Nat), a + j ≤ s.size → s.size - (a + j) = d →
    Ev (fun k => targumref12_Word.l0 k s (a : Int) (j : Int)) ((j + run handB s (a + j) : Nat) : Int) := by
  intro d
  induction d with
  | zero =>
    intro j h2 h3
    have e1 : wrap64 ((a : Int) + (j : Int)) = ((a + j : Nat) : Int) := by rw [wrap_id (by omega) (by omega)]; omega
    refine Ev.step (fun k => by rw [targumref12_Word.l0]) ?_
    rw [e1, run_end _ _ _ (by omega)]
    exact ev_if_neg (by omega) (Ev.now _)
  | succ d ih =>
    intro j h2 h3
    have hlt : a + j < s.size := by omega
    have e1 : wrap64 ((a : Int) + (j : Int)) = ((a + j : Nat) : Int) := by rw [wrap_id (by omega) (by omega)]; omega
    have e2 : wrap64 ((j : Int) + 1) = ((j + 1 : Nat) : Int) := by rw [wrap_id (by omega) (by omega)]; omega
    refine Ev.step (fun k => by rw [targumref12_Word.l0]) ?_
    rw [e1]
    refine ev_if_pos (by omega) (ev_if_pos (by omega) ?_)
    rw [bt_nat s (a + j) hlt, e2]
    have next : handB s[a + j] = true → Ev (fun k => targumref12_Word.l0 k s (a : Int) ((j + 1 : Nat) : Int)) ((j + run handB s (a + j) : Nat) : Int) := by
      intro hb
      rw [run_yes handB s (a + j) hlt hb]
      have := ih (j + 1) (by omega) (by omega)
      rw [show j + (run handB s (a + j + 1) + 1) = j + 1 + run handB s (a + (j + 1)) from by rw [Nat.add_assoc a j 1]; omega]
      exact this
    rw [letter_b, digit_b]
    refine Ev.bind (Ev.now _) ?_
    cases hL : ((97 ≤ s[a + j] && s[a + j] ≤ 122) || (65 ≤ s[a + j] && s[a + j] ≤ 90)) with
    | true => exact ev_if_pos rfl (next (by unfold handB wordB; rw [hL]; rfl))
    | false =>
      refine ev_if_neg (by decide) (Ev.bind (Ev.now _) ?_)
      cases hD : (48 ≤ s[a + j] && s[a + j] ≤ 57) with
      | true => exact ev_if_pos rfl (next (by unfold handB wordB; rw [hL, hD]; rfl))
      | false =>
        refine ev_if_neg (by decide) ?_
        by_cases h45 : s[a + j] = 45
        · exact ev_if_pos ((byte_eq _ 45).2 h45) (next (by unfold handB wordB; rw [hL, hD, h45]; rfl))
        · refine ev_if_neg (fun e => h45 ((byte_eq _ 45).1 e)) ?_
          rw [run_no handB s (a + j) hlt (by unfold handB wordB; rw [hL, hD]; simpa using h45)]
          exact Ev.now _

/-- The end of a tag with a handle. -/
def shortEnd (s : ByteArray) (n m q : Nat) : Bool × ByteArray × ByteArray × Int × Bool :=
  if n + 1 < m ∧ q = m then none5 else (false, s.extract n m, s.extract m q, (q : Int), true)

theorem ref_end (s : ByteArray) (n m q : Nat) (h1 : n + 1 ≤ m) (h2 : m ≤ q) (h3 : q ≤ s.size) :
    Ev (fun _ => if ((m : Nat) : Int) > ((n + 1 : Nat) : Int) then (if (q : Int) = (m : Int) then (some (false, (⟨#[]⟩ : ByteArray), (⟨#[]⟩ : ByteArray), (0 : Int), false)) else (if 0 ≤ (n : Int) then (if (n : Int) ≤ (m : Int) then (if (m : Int) ≤ (s.size : Int) then (if 0 ≤ (m : Int) then (if (m : Int) ≤ (q : Int) then (if (q : Int) ≤ (s.size : Int) then (some (false, s.extract (n : Int).toNat (m : Int).toNat, s.extract (m : Int).toNat (q : Int).toNat, (q : Int), true)) else (none)) else (none)) else (none)) else (none)) else (none)) else (none)))
      else (if 0 ≤ (n : Int) then (if (n : Int) ≤ (m : Int) then (if (m : Int) ≤ (s.size : Int) then (if 0 ≤ (m : Int) then (if (m : Int) ≤ (q : Int) then (if (q : Int) ≤ (s.size : Int) then (some (false, s.extract (n : Int).toNat (m : Int).toNat, s.extract (m : Int).toNat (q : Int).toNat, (q : Int), true)) else (none)) else (none)) else (none)) else (none)) else (none)) else (none))) (shortEnd s n m q) := by
  by_cases hm : n + 1 < m
  · refine ev_if_pos (by omega) ?_
    by_cases hq : q = m
    · have hr : shortEnd s n m q = none5 := if_pos ⟨hm, hq⟩
      rw [hr]
      exact ev_if_pos (by omega) (Ev.now _)
    · have hr : shortEnd s n m q = (false, s.extract n m, s.extract m q, (q : Int), true) := if_neg (fun h => hq h.2)
      rw [hr]
      exact ev_if_neg (by omega) (ev_if_pos (by omega) (ev_if_pos (by omega) (ev_if_pos (by omega) (ev_if_pos (by omega) (ev_if_pos (by omega) (ev_if_pos (by omega) (Ev.now _)))))))
  · have hr : shortEnd s n m q = (false, s.extract n m, s.extract m q, (q : Int), true) := if_neg (fun h => hm h.1)
    rw [hr]
    exact ev_if_neg (by omega) (ev_if_pos (by omega) (ev_if_pos (by omega) (ev_if_pos (by omega) (ev_if_pos (by omega) (ev_if_pos (by omega) (ev_if_pos (by omega) (Ev.now _)))))))

theorem ref_run (s : ByteArray) (n m : Nat) (hs : s.size ≤ 1000000) (h1 : n + 1 ≤ m) : ∀ (d q : Nat), m ≤ q → q ≤ s.size → s.size - q = d →
    Ev (fun k => targumref12_Read.l1 k s (n : Int) ((n + 1 : Nat) : Int) (m : Int) (q : Int)) (shortEnd s n m (q + run shortB s q)) := by
  intro d
  induction d with
  | zero =>
    intro q h2 h3 h4
    refine Ev.step (fun k => by rw [targumref12_Read.l1]) ?_
    rw [run_end _ _ _ (by omega)]
    exact ev_if_neg (by omega) (ref_end s n m q h1 h2 h3)
  | succ d ih =>
    intro q h2 h3 h4
    have hlt : q < s.size := by omega
    refine Ev.step (fun k => by rw [targumref12_Read.l1]) ?_
    refine ev_if_pos (by omega) (ev_if_pos (by omega) ?_)
    rw [bt_nat s q hlt]
    refine Ev.bind (ref_short s[q]) ?_
    cases hb : shortB s[q] with
    | true =>
      refine ev_if_pos rfl ?_
      have e2 : wrap64 ((q : Int) + 1) = ((q + 1 : Nat) : Int) := by rw [wrap_id (by omega) (by omega)]; omega
      rw [e2, run_yes shortB s q hlt hb]
      have := ih (q + 1) (by omega) (by omega) (by omega)
      rw [show q + (run shortB s (q + 1) + 1) = q + 1 + run shortB s (q + 1) from by omega]
      exact this
    | false =>
      rw [run_no shortB s q hlt hb]
      exact ev_if_neg (by decide) (ref_end s n m q h1 h2 h3)

/-- What the reference reads at a !. -/
theorem ref_at (s : ByteArray) (n : Nat) (hs : s.size ≤ 1000000) (h : n < s.size) (h33 : s[n] = 33) : Ev (fun k => targumref12_Read.f k s (n : Int)) (specR s n) := by
  have e1 : wrap64 ((n : Int) + 1) = ((n + 1 : Nat) : Int) := by rw [wrap_id (by omega) (by omega)]; omega
  have e2 : wrap64 (((n + 1 : Nat) : Int) + 1) = ((n + 2 : Nat) : Int) := by rw [wrap_id (by omega) (by omega)]; omega
  unfold targumref12_Read.f
  refine ev_if_neg (by omega) (ev_if_neg (by omega) (ev_if_pos (by omega) (ev_if_pos (by omega) ?_)))
  have hb : ((bt s (n : Int)) != 33) = false := by rw [bt_nat s n h, h33]; rfl
  rw [hb]
  refine Ev.step (fun k => by rw [targumref12_Read.j0]) ?_
  refine ev_if_neg (by decide) ?_
  rw [e1]
  have verb : n + 1 < s.size → specR s n = specR s n := fun _ => rfl
  -- no <
  have short : (¬ ∃ h : n + 1 < s.size, s[n + 1] = 60) → Ev (fun k => targumref12_Read.j1 k s (n : Int) ((n + 1 : Nat) : Int) false) (specR s n) := by
    intro hv
    have hsp : specR s n = shortEnd s n (n + handAt s n) (n + handAt s n + run shortB s (n + handAt s n)) := by
      unfold specR shortEnd
      rw [dif_neg hv]
      have hh := handAt_le s n h
      by_cases h5 : run shortB s (n + handAt s n) = 0 ∧ handAt s n ≠ 1
      · rw [if_pos h5, if_pos ⟨by omega, by omega⟩]
      · rw [if_neg h5, if_neg (fun h6 => h5 ⟨by omega, by omega⟩)]
    refine Ev.step (fun k => by rw [targumref12_Read.j1]) ?_
    refine ev_if_neg (by decide) ?_
    have hw := ref_word s (n + 1) hs (s.size - (n + 1)) 0 (by omega) (by omega)
    have hwl := run_le handB s (n + 1) (by omega)
    rw [Nat.zero_add, Nat.add_zero] at hw
    refine Ev.bind hw ?_
    have e3 : wrap64 (((n + 1 : Nat) : Int) + ((run handB s (n + 1) : Nat) : Int)) = ((n + 1 + run handB s (n + 1) : Nat) : Int) := by rw [wrap_id (by omega) (by omega)]; omega
    rw [e3]
    have hhd : handAt s n = if h : n + 1 + run handB s (n + 1) < s.size then (if s[n + 1 + run handB s (n + 1)] = 33 then run handB s (n + 1) + 2 else 1) else 1 := rfl
    have fin : ∀ m : Nat, n + 1 ≤ m → m ≤ s.size → m = n + handAt s n → Ev (fun k => targumref12_Read.j4 k s (n : Int) ((n + 1 : Nat) : Int) (m : Int)) (specR s n) := by
      intro m h1 h2 h3
      refine Ev.step (fun k => by rw [targumref12_Read.j4]) ?_
      rw [hsp, ← h3]
      exact ref_run s n m hs h1 (s.size - m) m (Nat.le_refl _) h2 rfl
    have no33 : handAt s n = 1 → Ev (fun k => targumref12_Read.j3 k s (n : Int) ((n + 1 : Nat) : Int) ((n + 1 : Nat) : Int) ((run handB s (n + 1) : Nat) : Int) false) (specR s n) := by
      intro h1
      refine Ev.step (fun k => by rw [targumref12_Read.j3]) ?_
      exact ev_if_neg (by decide) (fin (n + 1) (Nat.le_refl _) (by omega) (by omega))
    by_cases hlt : n + 1 + run handB s (n + 1) < s.size
    · rw [dif_pos hlt] at hhd
      refine ev_if_pos (by omega) (ev_if_pos (by omega) ?_)
      by_cases h33' : s[n + 1 + run handB s (n + 1)] = 33
      · rw [if_pos h33'] at hhd
        have hbt : ((bt s ((n + 1 + run handB s (n + 1) : Nat) : Int)) == 33) = true := by rw [bt_nat _ _ hlt, h33']; rfl
        rw [hbt]
        refine Ev.step (fun k => by rw [targumref12_Read.j3]) ?_
        refine ev_if_pos rfl ?_
        have e4 : wrap64 (wrap64 (((n + 1 : Nat) : Int) + ((run handB s (n + 1) : Nat) : Int)) + 1) = ((n + 1 + run handB s (n + 1) + 1 : Nat) : Int) := by rw [e3, wrap_id (by omega) (by omega)]; omega
        rw [e4]
        exact fin _ (by omega) (by omega) (by omega)
      · rw [if_neg h33'] at hhd
        have hbt : ((bt s ((n + 1 + run handB s (n + 1) : Nat) : Int)) == 33) = false := by
          rw [bt_nat _ _ hlt, beq_eq_false_iff_ne]
          exact fun e => h33' ((byte_eq _ 33).1 e)
        rw [hbt]
        exact no33 hhd
    · rw [dif_neg hlt] at hhd
      exact ev_if_neg (by omega) (no33 hhd)
  by_cases hlt : n + 1 < s.size
  · refine ev_if_pos (by omega) (ev_if_pos (by omega) ?_)
    by_cases h60 : s[n + 1] = 60
    · have hbt : ((bt s ((n + 1 : Nat) : Int)) == 60) = true := by rw [bt_nat _ _ hlt, h60]; rfl
      rw [hbt]
      refine Ev.step (fun k => by rw [targumref12_Read.j1]) ?_
      refine ev_if_pos rfl ?_
      rw [e2]
      have hsp : specR s n = verbEnd s n (n + 2 + run signB s (n + 2)) := by
        unfold specR verbEnd
        rw [dif_pos ⟨hlt, h60⟩]
        by_cases h5 : n + 2 + run signB s (n + 2) < s.size
        · rw [dif_pos h5, dif_pos h5]
          by_cases h6 : run signB s (n + 2) = 0 ∨ s[n + 2 + run signB s (n + 2)] ≠ 62
          · rw [if_pos h6, if_pos (by rcases h6 with h6 | h6; exact .inl (by omega); exact .inr h6)]
          · rw [if_neg h6, if_neg (by rintro (h7 | h7); exact h6 (.inl (by omega)); exact h6 (.inr h7))]
        · rw [dif_neg h5, dif_neg h5]
      rw [hsp]
      exact ref_verb s n hs hlt (s.size - (n + 2)) (n + 2) (Nat.le_refl _) (by omega) rfl
    · have hbt : ((bt s ((n + 1 : Nat) : Int)) == 60) = false := by
        rw [bt_nat _ _ hlt, beq_eq_false_iff_ne]
        exact fun e => h60 ((byte_eq _ 60).1 e)
      rw [hbt]
      exact short (fun ⟨_, h⟩ => h60 h)
  · exact ev_if_neg (by omega) (short (fun ⟨h, _⟩ => hlt h))

theorem ref_not (s : ByteArray) (i : Int) (h : ¬ (0 ≤ i ∧ i < (s.size : Int) ∧ bt s i = 33)) : Ev (fun k => targumref12_Read.f k s i) none5 := by
  unfold targumref12_Read.f
  have yes : Ev (fun k => targumref12_Read.j0 k s i true) none5 := by
    refine Ev.step (fun k => by rw [targumref12_Read.j0]) ?_
    exact ev_if_pos rfl (Ev.now _)
  by_cases h0 : i < 0
  · exact ev_if_pos h0 yes
  · by_cases h1 : i ≥ (s.size : Int)
    · exact ev_if_neg h0 (ev_if_pos h1 yes)
    · refine ev_if_neg h0 (ev_if_neg h1 (ev_if_pos (by omega) (ev_if_pos (by omega) ?_)))
      have hb : ((bt s i) != 33) = true := by
        rw [bne_iff_ne]
        exact fun e => h ⟨by omega, by omega, e⟩
      rw [hb]
      exact yes

/-- Both read the same. -/
theorem read_same (s : ByteArray) (i : Int) (hs : s.size ≤ 1000000) : ∃ r, tagname_Read.f s i = some r ∧ Ev (fun k => targumref12_Read.f k s i) r := by
  by_cases h : 0 ≤ i ∧ i < (s.size : Int) ∧ bt s i = 33
  · obtain ⟨h0, h1, h2⟩ := h
    obtain ⟨n, rfl⟩ : ∃ n : Nat, i = n := ⟨i.toNat, by omega⟩
    have hlt : n < s.size := by omega
    have h33 : s[n] = 33 := by
      rw [bt_nat s n hlt] at h2
      exact (byte_eq _ 33).1 h2
    exact ⟨_, read_at s n hs hlt h33, ref_at s n hs hlt h33⟩
  · exact ⟨_, read_not s i hs h, ref_not s i h⟩
end Go.Proofs.Ytmceepmchfjinaa.Q
