/- Plain texts: what the code reads is what the reference reads. Conditions: sizes; the place is not within a break. -/
import Derived.Test.YtcdkcdapbadkaaaDoorRefP
namespace Go.Mini
open Go Go.RowKit Go.Proofs
set_option maxRecDepth 100000
set_option linter.unusedVariables false
set_option linter.unusedSimpArgs false

/-! ### Breaks, byte by byte -/
theorem head_drop (s : ByteArray) (n : Nat) (c : UInt8) (hc : c ≠ 0) : ((lst s).drop n).head? = some c ↔ byteAt s n = c := by
  rcases Nat.lt_or_ge n s.size with h | h
  · rw [drop_lt h]; simp
  · rw [drop_ge h, byteAt_out h]; simp; exact fun e => hc e.symm
theorem take2_drop (s : ByteArray) (n : Nat) (c d : UInt8) (hc : c ≠ 0) (hd : d ≠ 0) : ((lst s).drop n).take 2 = [c, d] ↔ byteAt s n = c ∧ byteAt s (n + 1) = d := by
  rcases Nat.lt_or_ge n s.size with h | h
  · rw [drop_lt h]
    rcases Nat.lt_or_ge (n + 1) s.size with h1 | h1
    · rw [drop_lt h1]; simp
    · rw [drop_ge h1, byteAt_out h1]; simp; exact fun _ e => hd e.symm
  · rw [drop_ge h, byteAt_out h]; simp; exact fun e => absurd e.symm hc
theorem brkI_b (v : Int) (s : ByteArray) {i : Int} (h0 : 0 ≤ i) : brkI v s i = if byteAt s i.toNat = 13 then (if byteAt s (i + 1).toNat = 10 then 2 else 1) else if byteAt s i.toNat = 10 then 1 else
    if v = 11 ∧ byteAt s i.toNat = 194 ∧ byteAt s (i + 1).toNat = 133 then 2 else if v = 11 ∧ byteAt s i.toNat = 226 ∧ (byteAt s (i + 1).toNat = 128 ∧ byteAt s (i + 2).toNat = 168 ∨ byteAt s (i + 1).toNat = 128 ∧ byteAt s (i + 2).toNat = 169) then 3 else 0 := by
  unfold brkI
  rw [if_pos h0, show (i + 1).toNat = i.toNat + 1 from by omega, show (i + 2).toNat = i.toNat + 1 + 1 from by omega]
  rcases Nat.lt_or_ge i.toNat s.size with h | h
  · rw [drop_lt h, brkL]
    simp only [head_drop s _ 10 (by decide), head_drop s _ 133 (by decide), take2_drop s _ 128 168 (by decide) (by decide), take2_drop s _ 128 169 (by decide) (by decide), decide_eq_true_eq]
    repeat' split
    all_goals simp_all
  · rw [drop_ge h, byteAt_out h, brkL]
    simp
theorem brkI_1 {v : Int} {s : ByteArray} {i : Int} (h : brkI v s i = 1) : byteAt s i.toNat = 13 ∨ byteAt s i.toNat = 10 := by
  have h0 : 0 ≤ i := by unfold brkI at h; split at h; assumption; omega
  rw [brkI_b v s h0] at h
  repeat' split at h
  all_goals first | omega | simp_all
theorem brkI_2 {v : Int} {s : ByteArray} {i : Int} (h : brkI v s i = 2) : (byteAt s i.toNat = 13 ∧ byteAt s (i + 1).toNat = 10) ∨ (byteAt s i.toNat = 194 ∧ byteAt s (i + 1).toNat = 133) := by
  have h0 : 0 ≤ i := by unfold brkI at h; split at h; assumption; omega
  rw [brkI_b v s h0] at h
  repeat' split at h
  all_goals first | omega | simp_all
theorem brkI_3 {v : Int} {s : ByteArray} {i : Int} (h : brkI v s i = 3) : byteAt s i.toNat = 226 ∧ byteAt s (i + 1).toNat = 128 ∧ (byteAt s (i + 2).toNat = 168 ∨ byteAt s (i + 2).toNat = 169) := by
  have h0 : 0 ≤ i := by unfold brkI at h; split at h; assumption; omega
  rw [brkI_b v s h0] at h
  repeat' split at h
  all_goals first | omega | (simp_all; done) | (rename_i h1 h2; obtain ⟨_, q1, q2⟩ := h2; rcases q2 with q2 | q2 <;> simp_all)
theorem brkI_pos {v : Int} {s : ByteArray} {i : Int} (h : 0 < brkI v s i) : brkI v s i = 1 ∨ brkI v s i = 2 ∨ brkI v s i = 3 := by
  have := brkI_le v s i; omega
/-- Is a place strictly within a break? -/
def Inside (v : Int) (s : ByteArray) (i : Int) : Prop := ∃ y, y < i ∧ i < y + brkI v s y
theorem behind_not {v : Int} {s : ByteArray} {w : Int} (hw : 0 < brkI v s w) : ¬ Inside v s (w + brkI v s w) := by
  rintro ⟨y, h1, h2⟩
  have hy : 0 < brkI v s y := by omega
  rcases brkI_pos hy with e | e | e
  · omega
  · have by2 := brkI_2 e
    rcases brkI_pos hw with f | f | f
    · obtain rfl : w = y := by omega
      omega
    · have bw := brkI_2 f
      obtain rfl : y = w + 1 := by omega
      rcases bw with ⟨_, bw⟩ | ⟨_, bw⟩ <;> rcases by2 with ⟨b2, _⟩ | ⟨b2, _⟩ <;> rw [bw] at b2 <;> exact absurd b2 (by decide)
    · have bw := brkI_3 f
      obtain rfl : y = w + 2 := by omega
      rcases bw with ⟨_, _, bw | bw⟩ <;> rcases by2 with ⟨b2, _⟩ | ⟨b2, _⟩ <;> rw [bw] at b2 <;> exact absurd b2 (by decide)
  · obtain ⟨c1, c2, c3⟩ := brkI_3 e
    rcases brkI_pos hw with f | f | f
    · have bw := brkI_1 f
      rcases (show w = y ∨ w = y + 1 by omega) with rfl | rfl
      · omega
      · rw [c2] at bw; rcases bw with bw | bw <;> exact absurd bw (by decide)
    · have bw := brkI_2 f
      rcases (show w = y ∨ y = w + 1 by omega) with rfl | rfl
      · omega
      · rcases bw with ⟨_, bw⟩ | ⟨_, bw⟩ <;> rw [bw] at c1 <;> exact absurd c1 (by decide)
    · have bw := brkI_3 f
      rcases (show y = w + 1 ∨ y = w + 2 by omega) with rfl | rfl
      · rw [bw.2.1] at c1; exact absurd c1 (by decide)
      · rcases bw with ⟨_, _, bw | bw⟩ <;> rw [bw] at c1 <;> exact absurd c1 (by decide)
theorem inside_byte {v : Int} {s : ByteArray} {i : Int} (h : Inside v s i) : byteAt s i.toNat = 10 ∨ (128 ≤ (byteAt s i.toNat).toNat ∧ (byteAt s i.toNat).toNat < 192 ∧ 0 < i ∧ i < s.size) := by
  obtain ⟨y, h1, h2⟩ := h
  have lt : ∀ {n : Int}, 0 ≤ n → byteAt s n.toNat ≠ 0 → n < s.size := fun {n} h0 hb => by
    rcases Int.lt_or_le n s.size with h | h
    · exact h
    · exact absurd (byteAt_out (by omega)) hb
  have y0 : 0 ≤ y := by
    rcases Int.lt_or_le y 0 with h | h
    · unfold brkI at h2; rw [if_neg (by omega)] at h2; omega
    · exact h
  rcases brkI_pos (show 0 < brkI v s y by omega) with e | e | e
  · omega
  · obtain rfl : i = y + 1 := by omega
    rcases brkI_2 e with ⟨_, b⟩ | ⟨_, b⟩
    · exact .inl b
    · refine .inr ⟨by rw [b]; decide, by rw [b]; decide, by omega, lt (by omega) (by rw [b]; decide)⟩
  · obtain ⟨_, b1, b2⟩ := brkI_3 e
    rcases (show i = y + 1 ∨ i = y + 2 by omega) with rfl | rfl
    · exact .inr ⟨by rw [b1]; decide, by rw [b1]; decide, by omega, lt (by omega) (by rw [b1]; decide)⟩
    · right
      rcases b2 with b2 | b2 <;> exact ⟨by rw [b2]; decide, by rw [b2]; decide, by omega, lt (by omega) (by rw [b2]; decide)⟩

/-! ### The lines, one behind the other -/
def chainL (v : Int) (s : ByteArray) : Nat → Int → List Ln
  | 0, _ => []
  | k + 1, a => if s.size ≤ a then [] else ⟨a, endI v s a, nxtI v s a⟩ :: chainL v s k (nxtI v s a)
theorem chainL_end {v : Int} {s : ByteArray} {k : Nat} {a : Int} (h : s.size ≤ a) : chainL v s k a = [] := by
  cases k with
  | zero => rfl
  | succ k => rw [chainL, if_pos h]
theorem chainL_fuel {v : Int} {s : ByteArray} : ∀ {k m : Nat} {a : Int}, 0 ≤ a → s.size - a < k → s.size - a < m → chainL v s k a = chainL v s m a
  | 0, m, a, h0, h1, h2 => by rw [chainL_end (by omega), chainL_end (by omega)]
  | k + 1, 0, a, h0, h1, h2 => by rw [chainL_end (by omega), chainL_end (by omega)]
  | k + 1, m + 1, a, h0, h1, h2 => by
    rw [chainL, chainL]
    split
    · rfl
    · rename_i h
      have := nxtI_lt (v := v) h0 (by omega : a < s.size)
      rw [chainL_fuel (k := k) (m := m) (by omega) (by omega) (by omega)]
theorem endI_brk {v : Int} {s : ByteArray} {k : Int} (hk : 0 < brkI v s k) : ∀ (n : Nat) {a : Int}, 0 ≤ a → a ≤ k → k - a < n → endI v s a ≤ k
  | 0, a, h0, h1, h2 => by omega
  | n + 1, a, h0, h1, h2 => by
    have hks : k < s.size := by
      have : 0 ≤ k := by omega
      rcases Int.lt_or_le k s.size with h | h
      · exact h
      · unfold brkI at hk; rw [if_pos this, drop_ge (by omega)] at hk; simp [brkL] at hk
    by_cases hb : 0 < brkI v s a
    · rw [endI_stop h0 (.inr hb)]; exact h1
    · have : a ≠ k := fun e => hb (e ▸ hk)
      rw [← endI_next h0 (by omega) hb]
      exact endI_brk hk n (by omega) (by omega) (by omega)
theorem linesI_chain (v : Int) (s : ByteArray) : linesI v s = chainL v s (s.size + 1) 0 := by
  have key : ∀ (k : Nat) (a i : Int), 0 ≤ a → a ≤ i → i ≤ s.size → endI v s a = endI v s i → s.size - i < k →
      (lnLoop v s k a i).1 ++ (if (lnLoop v s k a i).2 < s.size then [⟨(lnLoop v s k a i).2, s.size, s.size⟩] else []) = chainL v s (s.size + 1) a := by
    intro k
    induction k with
    | zero => intro a i h0 h1 h2 h3 h4; omega
    | succ k ih =>
      intro a i h0 h1 h2 h3 h4
      have hbl := brkI_len v (s := s) (i := i) (by omega) h2
      have hnn := brkI_nn v s i
      rw [lnLoop]
      split
      · rename_i h5
        have hi : i = s.size := by omega
        have he : endI v s a = s.size := by rw [h3, endI_stop (by omega) (.inl h5), hi]
        rw [chainL]
        dsimp only
        rw [List.nil_append]
        by_cases ha : s.size ≤ a
        · rw [if_pos ha, if_neg (by omega)]
        · have hn : nxtI v s a = s.size := by
            unfold nxtI; rw [he]
            have := brkI_len v (s := s) (i := s.size) (by omega) (by omega)
            have := brkI_nn v s s.size
            omega
          rw [if_neg ha, if_pos (by omega), he, hn, chainL_end (by omega)]
      · rename_i h5
        split
        · rename_i h6
          exact ih a (i + 1) h0 (by omega) (by omega) (by rw [h3, endI_next (by omega) (by omega) (by omega)]) (by omega)
        · rename_i h6
          have hE : endI v s a = i := by rw [h3, endI_stop (by omega) (.inr (by omega))]
          have hn : nxtI v s a = i + brkI v s i := by unfold nxtI; rw [hE]
          rw [chainL, if_neg (show ¬ (s.size : Int) ≤ a by omega), hE, hn]
          dsimp only
          rw [List.cons_append, ih (i + brkI v s i) (i + brkI v s i) (by omega) (by omega) (by omega) rfl (by omega)]
          rw [chainL_fuel (k := s.size) (m := s.size + 1) (by omega) (by omega) (by omega)]
  have := key (s.size + 1) 0 0 (by omega) (by omega) (by omega) rfl (by omega)
  rw [← this]
  unfold linesI
  split
  · rfl
  · rw [List.append_nil]
theorem dropW_chain {v : Int} {s : ByteArray} {k : Int} (hk : 0 < brkI v s k) (hin : ¬ Inside v s k) : ∀ (n : Nat) {a : Int}, 0 ≤ a → a ≤ k → s.size - a < n → dropW k (chainL v s n a) = chainL v s (s.size + 1) (k + brkI v s k)
  | 0, a, h0, h1, h2 => by
    have hks : k < s.size := by
      rcases Int.lt_or_le k s.size with h | h
      · exact h
      · unfold brkI at hk; rw [if_pos (by omega), drop_ge (by omega)] at hk; simp [brkL] at hk
    omega
  | n + 1, a, h0, h1, h2 => by
    have hks : k < s.size := by
      rcases Int.lt_or_le k s.size with h | h
      · exact h
      · unfold brkI at hk; rw [if_pos (by omega), drop_ge (by omega)] at hk; simp [brkL] at hk
    have he := endI_brk hk ((k - a).toNat + 1) h0 h1 (by omega)
    have hg := nxtI_lt (v := v) h0 (by omega : a < s.size)
    rw [chainL, if_neg (by omega), dropW, if_pos h1]
    rcases Int.lt_or_eq_of_le he with h | h
    · refine dropW_chain hk hin n (by omega) ?_ (by omega)
      rcases Int.lt_or_le k (nxtI v s a) with h3 | h3
      · exact absurd ⟨endI v s a, h, h3⟩ hin
      · exact h3
    · have hn : nxtI v s a = k + brkI v s k := by unfold nxtI; rw [h]
      rw [hn, chainL_fuel (k := n) (m := s.size + 1) (by omega) (by omega) (by omega)]
      rw [chainL]
      split
      · rfl
      · rw [dropW, if_neg (show ¬ k + brkI v s k ≤ k by omega)]
/-- What the code asks on the way, of the lines. -/
theorem onF_chain (v : Int) (s : ByteArray) (p : Int) : ∀ (k : Nat) (a n : Int), 0 ≤ a → s.size - a < k → onF v s p k a n = match dropB s (chainL v s k a) with
    | (_, []) => (-1, 0)
    | (c, x :: _) => if refuse v s p x.a = true then (-1, 0) else (overI s x.a, n + c)
  | 0, a, n, h0, h => by rw [chainL, onF, dropB]
  | k + 1, a, n, h0, h => by
    rw [chainL, onF]
    split
    · rw [dropB]
    · rename_i h1
      have hg := nxtI_lt (v := v) h0 (by omega : a < s.size)
      rw [dropB]
      dsimp only
      split
      · rename_i h2
        rw [onF_chain v s p k _ _ (by omega) (by omega)]
        generalize dropB s (chainL v s k (nxtI v s a)) = d
        rcases d with ⟨c, _ | ⟨x, r⟩⟩
        · rfl
        · dsimp only
          split
          · rfl
          · rw [show n + 1 + (c : Int) = n + ((c + 1 : Nat) : Int) from by omega]
      · dsimp only
        rw [show n + ((0 : Nat) : Int) = n from by omega]
theorem dropB_chain {v : Int} {s : ByteArray} : ∀ {k : Nat} {a : Int} {x : Ln} {r : List Ln}, 0 ≤ a → s.size - a < k → (dropB s (chainL v s k a)).2 = x :: r → a ≤ x.a ∧ x.a < s.size ∧ x.e = endI v s x.a ∧ x.n = nxtI v s x.a ∧ (∃ m : Nat, s.size - x.a < m ∧ x :: r = chainL v s m x.a) ∧ (a = x.a ∨ ¬ Inside v s x.a)
  | 0, a, x, r, h0, h, hx => by rw [chainL] at hx; cases hx
  | k + 1, a, x, r, h0, h, hx => by
    rw [chainL] at hx
    split at hx
    · cases hx
    · rename_i h1
      have hg := nxtI_lt (v := v) h0 (by omega : a < s.size)
      rw [dropB] at hx
      split at hx
      · dsimp only at hx
        obtain ⟨q1, q2, q3, q4, q5, q6⟩ := dropB_chain (by omega) (by omega) hx
        refine ⟨by omega, q2, q3, q4, q5, .inr ?_⟩
        rcases q6 with q6 | q6
        · rw [← q6]
          have hb : 0 < brkI v s (endI v s a) := by
            rcases Int.lt_or_le 0 (brkI v s (endI v s a)) with h | h
            · exact h
            · have h5 := endI_le v h0 (by omega : a ≤ s.size)
              have h6 : nxtI v s a = endI v s a := by unfold nxtI; have := brkI_nn v s (endI v s a); omega
              rcases Int.lt_or_eq_of_le h5 with h7 | h7
              · exfalso
                have h8 := nxtI_lt (v := v) (s := s) (a := endI v s a) (by have := endI_ge v s a; omega) h7
                have h9 : endI v s (endI v s a) = endI v s a + eol (decide (v = 11)) ((lst s).drop (endI v s a).toNat) := rfl
                have hee : ∀ (n : Nat) (b : Int), 0 ≤ b → b ≤ s.size → s.size - b < n → endI v s b < s.size → 0 < brkI v s (endI v s b) := by
                  intro n
                  induction n with
                  | zero => intro b h0 h1 h2 h3; omega
                  | succ n ih =>
                    intro b h0 h1 h2 h3
                    by_cases hb : 0 < brkI v s b
                    · rw [endI_stop h0 (.inr hb)]; exact hb
                    · have hlt : b < s.size := by have := endI_ge v s b; omega
                      have := endI_next h0 hlt hb
                      rw [← this] at h3 ⊢
                      exact ih (b + 1) (by omega) (by omega) (by omega) h3
                have := hee (((s.size : Int) - a).toNat + 1) a h0 (by omega) (by omega) h7
                omega
              · omega
          exact behind_not hb
        · exact q6
      · rename_i h2
        obtain ⟨rfl, rfl⟩ := List.cons.inj hx
        exact ⟨Int.le_refl _, by simp only; omega, rfl, rfl, ⟨k + 1, h, by rw [chainL, if_neg h1]⟩, .inl rfl⟩

/-! ### No break between -/
theorem bls_get : ∀ {l : List UInt8} {n : Nat}, n < bls l → isBl (l.getD n 0) = true
  | c :: l, n, h => by
    rw [bls] at h
    split at h
    · rename_i hc
      cases n with
      | zero => simpa using hc
      | succ n => simpa using bls_get (by omega : n < bls l)
    · omega
theorem blank_nobrk (v : Int) {s : ByteArray} {x : Int} (h0 : 0 ≤ x) (h : isBl (byteAt s x.toNat) = true) : brkI v s x = 0 := by
  unfold isBl at h
  simp only [Bool.or_eq_true, decide_eq_true_eq] at h
  have hb : byteAt s x.toNat = 32 ∨ byteAt s x.toNat = 9 := by
    rcases h with h | h
    · exact .inl (UInt8.toNat_inj.1 (show (byteAt s x.toNat).toNat = 32 by omega))
    · exact .inr (UInt8.toNat_inj.1 (show (byteAt s x.toNat).toNat = 9 by omega))
  rw [brkI_b v s h0]
  rcases hb with e | e <;> rw [e] <;> simp
theorem over_nobrk (v : Int) {s : ByteArray} {e x : Int} (h0 : 0 ≤ e) (h1 : e ≤ x) (h2 : x < overI s e) : brkI v s x = 0 := by
  refine blank_nobrk v (by omega) ?_
  unfold overI at h2
  rw [if_pos h0] at h2
  have := bls_get (l := (lst s).drop e.toNat) (n := (x - e).toNat) (by omega)
  rw [List.getD_eq_getElem?_getD, List.getElem?_drop, ← List.getD_eq_getElem?_getD, show e.toNat + (x - e).toNat = x.toNat from by omega] at this
  exact this
theorem endP_nobrk (v : Int) (s : ByteArray) (flow : Bool) (i : Int) : ∀ (n : Nat) (e j : Int), (∀ x, i ≤ x → x < j → brkI v s x = 0) → e ≤ j → ∀ x, i ≤ x → x < (endP v s flow n e j).1 → brkI v s x = 0
  | 0, e, j, h, he, x, h1, h2 => h x h1 (by rw [endP] at h2; simp only at h2; omega)
  | n + 1, e, j, h, he, x, h1, h2 => by
    rw [endP] at h2
    split at h2
    · exact h x h1 (by simp only at h2; omega)
    · rename_i hs
      have h' : ∀ x, i ≤ x → x < j + 1 → brkI v s x = 0 := fun x q1 q2 => by
        rcases Int.lt_or_eq_of_le (by omega : x ≤ j) with q | q
        · exact h x q1 q
        · subst q
          unfold stopE at hs
          simp only [Bool.or_eq_true, decide_eq_true_eq, not_or] at hs
          have := brkI_nn v s x
          omega
      split at h2
      · exact endP_nobrk v s flow i n e (j + 1) h' (by omega) x h1 h2
      · exact endP_nobrk v s flow i n (j + 1) (j + 1) h' (by omega) x h1 h2
theorem ends_nobrk (v : Int) {s : ByteArray} {i x : Int} {flow : Bool} (h1 : i ≤ x) (h2 : x < endsI v s i flow) : brkI v s x = 0 :=
  endP_nobrk v s flow i _ i i (fun x q1 q2 => by omega) (Int.le_refl _) x h1 h2
theorem inside_mono {v : Int} {s : ByteArray} {a b : Int} (ha : ¬ Inside v s a) (hab : a ≤ b) (hn : ∀ x, a ≤ x → x < b → brkI v s x = 0) : ¬ Inside v s b := by
  rintro ⟨y, h1, h2⟩
  rcases Int.lt_or_le y a with h | h
  · exact ha ⟨y, h, by omega⟩
  · have := hn y h h1; omega

/-! ### The two are one -/
theorem glue_folded (c : Nat) : glueL c = foldedL (c + 1) := by
  unfold glueL foldedL
  by_cases h : c = 0
  · subst h; rfl
  · rw [if_neg (by omega), if_neg (by omega)]
    congr 1
    omega
theorem refuse_iff {v : Int} {s : ByteArray} {p a : Int} : refuse v s p a = true ↔ (indI s a (endI v s a) (nxtI v s a) ≤ p ∨ 0 < mrkI s a (endI v s a) (nxtI v s a)) ∨ (byteAt s (overI s a).toNat = 35 ∨ (byteAt s (overI s a).toNat = 58 ∧ stopI v s (overI s a + 1) false = true)) := by
  unfold refuse
  simp only [Bool.or_eq_true, Bool.and_eq_true, decide_eq_true_eq, or_assoc]
theorem plF_ref (v : Int) (s : ByteArray) (p : Int) : ∀ (k : Nat) (e : Int) (l : List Ln), 0 ≤ e → e ≤ s.size → s.size - e < k → ¬ Inside v s (overI s e) → (∃ (n : Nat) (a : Int), 0 ≤ a ∧ a ≤ e ∧ s.size - a < n ∧ l = chainL v s n a) → refF v s p k e l = plF v s p k e
  | 0, e, l, h0, h1, h2, hin, hl => rfl
  | k + 1, e, l, h0, h1, h2, hin, ⟨n, a, ha0, ha1, ha2, hl⟩ => by
    subst hl
    have ho1 := overI_ge s e
    have ho2 := overI_le s e h1
    have hnn := brkI_nn v s (overI s e)
    rw [plF]
    by_cases hst : overI s e = s.size ∨ brkI v s (overI s e) = 0
    · rw [refF_stop hst]
      have : (onI v s e p).1 < 0 := by
        unfold onI
        rcases hst with hst | hst
        · have hE : endI v s (overI s e) = overI s e := endI_stop (by omega) (.inl (by omega))
          rw [if_neg (by rw [hE]; omega), onF]
          have := nxtI_ge v s (overI s e)
          rw [if_pos (by omega)]
          decide
        · rcases Int.lt_or_eq_of_le ho2 with h3 | h3
          · have := endI_next (v := v) (s := s) (i := overI s e) (by omega) h3 (by omega)
            have := endI_ge v s (overI s e + 1)
            rw [if_pos (by omega)]
            decide
          · have hE : endI v s (overI s e) = overI s e := endI_stop (by omega) (.inl (by omega))
            rw [if_neg (by rw [hE]; omega), onF]
            have := nxtI_ge v s (overI s e)
            rw [if_pos (by omega)]
            decide
      rw [if_pos this]
    · have hb : 0 < brkI v s (overI s e) := by omega
      have hE : endI v s (overI s e) = overI s e := endI_stop (by omega) (.inr hb)
      have hN : nxtI v s (overI s e) = overI s e + brkI v s (overI s e) := by unfold nxtI; rw [hE]
      have hz := nxtI_le v (s := s) (a := overI s e) (by omega) ho2
      have hon : onI v s e p = match dropB s (chainL v s (s.size + 1) (overI s e + brkI v s (overI s e))) with
          | (_, []) => (-1, 0)
          | (c, x :: _) => if refuse v s p x.a = true then (-1, 0) else (overI s x.a, 0 + c) := by
        unfold onI
        rw [if_neg (by rw [hE]; omega), hN, onF_chain v s p _ _ _ (by omega) (by omega)]
      have hfu : (s.size : Int) - (overI s e + brkI v s (overI s e)) < ((s.size + 1 : Nat) : Int) := by omega
      have hd := dropW_chain hb hin n ha0 (by omega) ha2
      generalize hdb : dropB s (chainL v s (s.size + 1) (overI s e + brkI v s (overI s e))) = d at hon
      rcases d with ⟨c, _ | ⟨x, r⟩⟩
      · rw [refF_nil hst (by rw [hd, hdb]), hon]
        exact (if_pos (show (-1 : Int) < 0 by decide)).symm
      · have h2x : (dropB s (dropW (overI s e) (chainL v s n a))).2 = x :: r := by rw [hd, hdb]
        have h1c : (dropB s (dropW (overI s e) (chainL v s n a))).1 = c := by rw [hd, hdb]
        obtain ⟨q1, q2, q3, q4, ⟨m, q5, q6⟩, q7⟩ := dropB_chain (k := s.size + 1) (a := overI s e + brkI v s (overI s e)) (x := x) (r := r) (by omega) hfu (by rw [hdb])
        dsimp only at hon
        by_cases hr : refuse v s p x.a = true
        · rw [if_pos hr] at hon
          have hcase := refuse_iff.1 hr
          rw [← q3, ← q4] at hcase
          have : refF v s p (k + 1) e (chainL v s n a) = ([], e) := by
            by_cases hdp : indI s x.a x.e x.n ≤ p ∨ 0 < mrkI s x.a x.e x.n
            · exact refF_deep hst h2x hdp
            · exact refF_sign hst h2x hdp (hcase.resolve_left hdp)
          rw [this, hon, if_pos (by decide)]
        · rw [if_neg hr] at hon
          have hcase : ¬ ((indI s x.a x.e x.n ≤ p ∨ 0 < mrkI s x.a x.e x.n) ∨ (byteAt s (overI s x.a).toNat = 35 ∨ (byteAt s (overI s x.a).toNat = 58 ∧ stopI v s (overI s x.a + 1) false = true))) := fun h => hr (refuse_iff.2 (by rw [← q3, ← q4]; exact h))
          rw [not_or] at hcase
          have hov0 := overI_ge s x.a
          have hov1 := overI_le s x.a (by omega)
          have hend := endsI_ok v (s := s) (i := overI s x.a) false (by omega) hov1
          have hov2 := overI_ge s (endsI v s (overI s x.a) false)
          have hinx : ¬ Inside v s x.a := by
            rcases q7 with q7 | q7
            · rw [← q7]; exact behind_not hb
            · exact q7
          have hin' : ¬ Inside v s (overI s (endsI v s (overI s x.a) false)) := by
            refine inside_mono hinx (by omega) fun y y1 y2 => ?_
            rcases Int.lt_or_le y (overI s x.a) with h | h
            · exact over_nobrk v (by omega) y1 h
            · rcases Int.lt_or_le y (endsI v s (overI s x.a) false) with h' | h'
              · exact ends_nobrk v h h'
              · exact over_nobrk v (by omega) h' y2
          have ih := plF_ref v s p k (endsI v s (overI s x.a) false) (x :: r) (by omega) (by omega) (by omega) hin' ⟨m, x.a, by omega, by omega, q5, q6⟩
          rw [refF_go hst h2x hcase.1 hcase.2, h1c, ih, hon]
          dsimp only
          rw [if_neg (by omega), glue_folded, Int.zero_add]
theorem plain_same {v : Int} {s : ByteArray} {i p : Int} (hcut : ¬ (0 < i ∧ i < s.size ∧ 128 ≤ (byteAt s i.toNat).toNat ∧ (byteAt s i.toNat).toNat < 192)) : plainR v s i p = plainI v s i p := by
  unfold plainR plainI
  by_cases h : partI v s i false < 0
  · rw [if_pos h, if_pos h]
  · rw [if_neg h, if_neg h]
    have ho : opensI v s i false = true := by
      unfold partI at h
      split at h
      · assumption
      · omega
    have h0 := opensI_lt ho
    have hp : partI v s i false = endsI v s i false := by unfold partI; rw [if_pos ho]
    have hend := endsI_ok v (s := s) (i := i) false h0.1 (by omega)
    have hov := overI_ge s (endsI v s i false)
    have hini : ¬ Inside v s i := fun hi => by
      rcases inside_byte hi with hb | hb
      · have : brkI v s i = 1 := by rw [brkI_b v s h0.1, hb]; simp
        unfold opensI stopI at ho
        rw [decide_eq_true (show 0 < brkI v s i by omega)] at ho
        simp at ho
      · exact hcut ⟨hb.2.2.1, hb.2.2.2, hb.1, hb.2.1⟩
    rw [hp, plF_ref v s p _ _ _ (by omega) hend.2 (by omega) (inside_mono hini (by omega) fun y y1 y2 => ?_) ⟨s.size + 1, 0, by omega, by omega, by omega, linesI_chain v s⟩]
    rcases Int.lt_or_le y (endsI v s i false) with h' | h'
    · exact ends_nobrk v y1 h'
    · exact over_nobrk v (by omega) h' y2
end Go.Mini
