/- The reference's breaks are the program's, its check of signs comes to an end. No condition but sizes. -/
import Derived.Test.YtgbnbjajaaggkaaQx6
import Derived.Test.YtgbnbjajaaggkaaQx4
import Derived.Test.YtgbnbjajaaggkaaQx5
import Derived.Test.YtgbnbjajaaggkaaQx1
import Derived.Test.YtgbnbjajaaggkaaEvs
namespace Go.Proofs.Ytgbnbjajaaggkaa.Q
open Go Go.RowKit Go.Proofs.YtgbnbjajaaggkaaW.PrintWords Go.Proofs.YtgbnbjajaaggkaaW.PrintLast Go.Proofs.YtgbnbjajaaggkaaW.PrintMore
set_option linter.unusedVariables false
set_option linter.unusedSimpArgs false

/-- What so many bytes more make of a number; none: they aren't there, or aren't of that kind. -/
def contL : Nat → Nat → List UInt8 → Option Nat
  | 0, c, _ => some c
  | _ + 1, _, [] => none
  | m + 1, c, b :: l => if 128 ≤ b.toNat ∧ b.toNat < 192 then contL m (c * 64 + (b.toNat - 128)) l else none

def scalarN (c : Nat) : Bool := decide (c ≤ 1114111 ∧ (c < 55296 ∨ 57343 < c))

/-- A scalar of n bytes, not less than least. -/
def finL (n least : Nat) (o : Option Nat) : Nat × Nat :=
  match o with
  | none => (0, 0)
  | some c => if c < least then (0, 0) else if scalarN c = true then (c, n) else (0, 0)

/-- The scalar with which bytes begin, and how many bytes it has. -/
def decL : List UInt8 → Nat × Nat
  | [] => (0, 0)
  | b :: l =>
    let c := b.toNat
    if c < 128 then (c, 1)
    else if 192 ≤ c ∧ c < 224 then finL 2 128 (contL 1 (c - 192) l)
    else if 224 ≤ c ∧ c < 240 then finL 3 2048 (contL 2 (c - 224) l)
    else if 240 ≤ c ∧ c < 248 then finL 4 65536 (contL 3 (c - 240) l)
    else (0, 0)

theorem isScalar_eq (c : Nat) : targumref1_IsScalar.f (c : Int) = some (scalarN c) := by
  unfold targumref1_IsScalar.f scalarN
  rw [if_pos (by omega)]
  by_cases h1 : (c : Int) ≤ 1114111
  · rw [if_pos h1]
    by_cases h2 : (c : Int) < 55296
    · rw [if_pos h2, decide_eq_true (by omega)]
    · rw [if_neg h2]
      congr 1
      rw [decide_eq_decide]
      omega
  · rw [if_neg h1, decide_eq_false (by omega)]

theorem contL_short : ∀ (m c : Nat) (l : List UInt8), l.length < m → contL m c l = none
  | 0, _, _, h => by simp at h
  | m + 1, _, [], _ => rfl
  | m + 1, c, b :: l, h => by
    unfold contL
    split
    · exact contL_short m _ l (by simp at h; omega)
    · rfl

theorem next_loop (s : ByteArray) (hs : s.size ≤ 140737488351232) (i n least : Nat) (hi : i < s.size) (hn : n ≤ 4) : ∀ (d j c : Nat), n - j = d → 1 ≤ j → j ≤ n → c < 64 ^ j →
    Ev (fun k => targumref1_Next.l0 k s i c n least j) (((finL n least (contL (n - j) c (s.data.toList.drop (i + j)))).1 : Int), ((finL n least (contL (n - j) c (s.data.toList.drop (i + j)))).2 : Int)) := by
  intro d
  induction d with
  | zero =>
    intro j c hd h1 h2 hc
    obtain rfl : j = n := by omega
    refine Ev.step (fun k => by rw [targumref1_Next.l0]) ?_
    refine ev_if_neg (by omega) ?_
    rw [Nat.sub_self]
    unfold contL finL
    dsimp only
    by_cases hl : c < least
    · refine ev_if_pos (by omega) ?_
      rw [if_pos hl]
      exact Ev.now _
    · refine ev_if_neg (by omega) ?_
      rw [isScalar_eq, if_neg hl]
      refine Ev.bind (Ev.now _) ?_
      by_cases hsc : scalarN c = true
      · refine ev_if_pos hsc ?_
        rw [if_pos hsc]
        exact Ev.now _
      · refine ev_if_neg hsc ?_
        rw [if_neg hsc]
        exact Ev.now _
  | succ d ih =>
    intro j c hd h1 h2 hc
    have hc4 : c < 64 ^ 4 := Nat.lt_of_lt_of_le hc (Nat.pow_le_pow_right (by decide) (by omega))
    have hc5 : (64 : Nat) ^ 4 = 16777216 := by decide
    refine Ev.step (fun k => by rw [targumref1_Next.l0]) ?_
    refine ev_if_pos (by omega) ?_
    rw [wrap_id (x := (s.size : Int) - i) (by omega) (by omega)]
    by_cases hlen : n > s.size - i
    · refine ev_if_pos (by omega) ?_
      rw [contL_short _ _ _ (by simp; omega)]
      exact Ev.now _
    · refine ev_if_neg (by omega) ?_
      have hij : i + j < s.size := by omega
      rw [wrap_id (x := (i : Int) + j) (by omega) (by omega), show ((i : Int) + j) = ((i + j : Nat) : Int) from by omega]
      refine ev_if_pos (by omega) (ev_if_pos (by omega) ?_)
      rw [bt_nat s (i + j) hij, drop_cons s (i + j) hij, show n - j = (n - (j + 1)) + 1 from by omega]
      have hb := (s[i + j]).toNat_lt
      rw [contL]
      by_cases h3 : ((s[i + j]).toNat : Int) < 128
      · refine ev_if_pos h3 ?_
        rw [if_neg (by omega)]
        exact Ev.now _
      · refine ev_if_neg h3 ?_
        by_cases h4 : ((s[i + j]).toNat : Int) ≥ 192
        · refine ev_if_pos h4 ?_
          rw [if_neg (by omega)]
          exact Ev.now _
        · refine ev_if_neg h4 ?_
          rw [if_pos (by omega)]
          rw [wrap_id (x := (c : Int) * 64) (by omega) (by omega), wrap_id (x := ((s[i + j]).toNat : Int)) (by omega) (by omega), wrap_id (x := (c : Int) * 64 + ((s[i + j]).toNat : Int)) (by omega) (by omega), wrap_id (x := (c : Int) * 64 + ((s[i + j]).toNat : Int) - 128) (by omega) (by omega), wrap_id (x := (j : Int) + 1) (by omega) (by omega)]
          rw [show (c : Int) * 64 + ((s[i + j]).toNat : Int) - 128 = ((c * 64 + ((s[i + j]).toNat - 128) : Nat) : Int) from by omega, show (j : Int) + 1 = ((j + 1 : Nat) : Int) from by omega, show i + j + 1 = i + (j + 1) from by omega]
          refine ih (j + 1) (c * 64 + ((s[i + j]).toNat - 128)) (by omega) (by omega) (by omega) ?_
          rw [Nat.pow_succ]
          omega

theorem next_ev (s : ByteArray) (hs : s.size ≤ 140737488351232) (i : Int) :
    Ev (fun k => targumref1_Next.f k s i) (if 0 ≤ i then (((decL (s.data.toList.drop i.toNat)).1 : Int), ((decL (s.data.toList.drop i.toNat)).2 : Int)) else (0, 0)) := by
  unfold targumref1_Next.f
  by_cases h0 : i < 0
  · rw [if_neg (by omega)]
    refine ev_if_pos h0 ?_
    refine Ev.step (fun k => by rw [targumref1_Next.j0]) ?_
    exact ev_if_pos rfl (Ev.now _)
  · rw [if_pos (by omega)]
    refine ev_if_neg h0 ?_
    obtain ⟨n, rfl⟩ : ∃ n : Nat, i = n := ⟨i.toNat, by omega⟩
    rw [Int.toNat_natCast]
    refine Ev.step (fun k => by rw [targumref1_Next.j0]) ?_
    by_cases h1 : (n : Int) ≥ (s.size : Int)
    · rw [List.drop_eq_nil_of_le (by simp; omega)]
      exact ev_if_pos (decide_eq_true h1) (Ev.now _)
    · refine ev_if_neg (by rw [decide_eq_false h1]; decide) (ev_if_pos (by omega) (ev_if_pos (by omega) ?_))
      have hn : n < s.size := by omega
      have hb := (s[n]).toNat_lt
      rw [drop_cons s n hn, bt_nat s n hn, wrap_id (x := ((s[n]).toNat : Int)) (by omega) (by omega)]
      unfold decL
      dsimp only
      have loop := fun (m least c : Nat) (hm : m ≤ 4) (h1m : 1 ≤ m) (hc : c < 64) => next_loop s hs n m least hn hm (m - 1) 1 c rfl (Nat.le_refl _) h1m (by simpa using hc)
      by_cases h2 : ((s[n]).toNat : Int) < 128
      · refine ev_if_pos h2 ?_
        rw [if_pos (by omega)]
        exact Ev.now _
      · refine ev_if_neg h2 ?_
        rw [if_neg (by omega)]
        by_cases h3 : ((s[n]).toNat : Int) ≥ 192
        · refine ev_if_pos h3 ?_
          refine Ev.step (fun k => by rw [targumref1_Next.j1]) ?_
          by_cases h4 : ((s[n]).toNat : Int) < 224
          · refine ev_if_pos (decide_eq_true h4) ?_
            refine Ev.step (fun k => by rw [targumref1_Next.j3]) ?_
            rw [if_pos (by omega), wrap_id (x := ((s[n]).toNat : Int) - 192) (by omega) (by omega), show ((s[n]).toNat : Int) - 192 = (((s[n]).toNat - 192 : Nat) : Int) from by omega]
            exact loop 2 128 ((s[n]).toNat - 192) (by decide) (by decide) (by omega)
          · refine ev_if_neg (by rw [decide_eq_false h4]; decide) ?_
            rw [if_neg (by omega)]
            refine ev_if_pos (by omega) ?_
            refine Ev.step (fun k => by rw [targumref1_Next.j2]) ?_
            by_cases h5 : ((s[n]).toNat : Int) < 240
            · refine ev_if_pos (decide_eq_true h5) ?_
              refine Ev.step (fun k => by rw [targumref1_Next.j3]) ?_
              rw [if_pos (by omega), wrap_id (x := ((s[n]).toNat : Int) - 224) (by omega) (by omega), show ((s[n]).toNat : Int) - 224 = (((s[n]).toNat - 224 : Nat) : Int) from by omega]
              exact loop 3 2048 ((s[n]).toNat - 224) (by decide) (by decide) (by omega)
            · refine ev_if_neg (by rw [decide_eq_false h5]; decide) (ev_if_pos (by omega) ?_)
              rw [if_neg (by omega)]
              by_cases h6 : ((s[n]).toNat : Int) < 248
              · refine ev_if_pos h6 ?_
                refine Ev.step (fun k => by rw [targumref1_Next.j3]) ?_
                rw [if_pos (by omega), wrap_id (x := ((s[n]).toNat : Int) - 240) (by omega) (by omega), show ((s[n]).toNat : Int) - 240 = (((s[n]).toNat - 240 : Nat) : Int) from by omega]
                exact loop 4 65536 ((s[n]).toNat - 240) (by decide) (by decide) (by omega)
              · refine ev_if_neg h6 ?_
                rw [if_neg (by omega)]
                exact Ev.now _
        · refine ev_if_neg h3 ?_
          rw [if_neg (by omega), if_neg (by omega), if_neg (by omega)]
          refine Ev.step (fun k => by rw [targumref1_Next.j1]) ?_
          refine ev_if_neg (by decide) (ev_if_neg (by omega) ?_)
          refine Ev.step (fun k => by rw [targumref1_Next.j2]) ?_
          exact ev_if_neg (by decide) (ev_if_neg (by omega) (Ev.now _))
end Go.Proofs.Ytgbnbjajaaggkaa.Q

namespace Go.Proofs.Ytgbnbjajaaggkaa.Q
open Go Go.RowKit Go.Proofs.YtgbnbjajaaggkaaW.PrintWords Go.Proofs.YtgbnbjajaaggkaaW.PrintLast Go.Proofs.YtgbnbjajaaggkaaW.PrintMore
set_option linter.unusedVariables false
set_option linter.unusedSimpArgs false

theorem nat_eq8 {b : UInt8} {k : Nat} (hk : k < 256) : b = UInt8.ofNat k ↔ b.toNat = k := by
  constructor
  · rintro rfl
    simp
    omega
  · intro h
    apply UInt8.toNat_inj.1
    simp
    omega

theorem contL1 (c : Nat) (l : List UInt8) : contL 1 c l = match l with | [] => none | b :: _ => if 128 ≤ b.toNat ∧ b.toNat < 192 then some (c * 64 + (b.toNat - 128)) else none := by
  cases l <;> simp [contL]

theorem decL_1 (b : UInt8) (l : List UInt8) (h : b.toNat < 128) : decL (b :: l) = (b.toNat, 1) := if_pos h
theorem decL_2 (b : UInt8) (l : List UInt8) (h : 192 ≤ b.toNat ∧ b.toNat < 224) : decL (b :: l) = finL 2 128 (contL 1 (b.toNat - 192) l) := (if_neg (by omega)).trans (if_pos h)
theorem decL_3 (b : UInt8) (l : List UInt8) (h : 224 ≤ b.toNat ∧ b.toNat < 240) : decL (b :: l) = finL 3 2048 (contL 2 (b.toNat - 224) l) := (if_neg (by omega)).trans ((if_neg (by omega)).trans (if_pos h))
theorem decL_4 (b : UInt8) (l : List UInt8) (h : 240 ≤ b.toNat ∧ b.toNat < 248) : decL (b :: l) = finL 4 65536 (contL 3 (b.toNat - 240) l) := (if_neg (by omega)).trans ((if_neg (by omega)).trans ((if_neg (by omega)).trans (if_pos h)))
theorem decL_0 (b : UInt8) (l : List UInt8) (h : ¬ b.toNat < 128 ∧ ¬ (192 ≤ b.toNat ∧ b.toNat < 248)) : decL (b :: l) = (0, 0) := (if_neg (by omega)).trans ((if_neg (by omega)).trans ((if_neg (by omega)).trans (if_neg (by omega))))

/-- Bytes behind whose scalar there is a break of the old version. -/
def brkD (q : Nat × Nat) : Nat := if q.1 = 133 ∨ q.1 = 8232 ∨ q.1 = 8233 then q.2 else 0

theorem brkD_fin (n least c : Nat) : brkD (finL n least (some c)) = if c < least ∨ scalarN c = false then 0 else brkD (c, n) := by
  unfold finL
  dsimp only
  by_cases h1 : c < least
  · rw [if_pos h1, if_pos (.inl h1)]; rfl
  · rw [if_neg h1]
    cases h2 : scalarN c
    · rw [if_neg (by decide), if_pos (.inr rfl)]; rfl
    · rw [if_pos rfl, if_neg (by simp [h1])]

/-- Where neither of the short breaks begins: by the scalar that begins there. -/
theorem dec_break (b : UInt8) (l : List UInt8) (h13 : b ≠ 13) (h10 : b ≠ 10) : brkL true (b :: l) = brkD (decL (b :: l)) := by
  have e194 : b = 194 ↔ b.toNat = 194 := nat_eq8 (k := 194) (by decide)
  have e226 : b = 226 ↔ b.toNat = 226 := nat_eq8 (k := 226) (by decide)
  have hb := b.toNat_lt
  have f133 : ∀ d : UInt8, d = 133 ↔ d.toNat = 133 := fun d => nat_eq8 (k := 133) (by decide)
  have f128 : ∀ d : UInt8, d = 128 ↔ d.toNat = 128 := fun d => nat_eq8 (k := 128) (by decide)
  have f168 : ∀ d : UInt8, d = 168 ↔ d.toNat = 168 := fun d => nat_eq8 (k := 168) (by decide)
  have f169 : ∀ d : UInt8, d = 169 ↔ d.toNat = 169 := fun d => nat_eq8 (k := 169) (by decide)
  unfold brkL
  dsimp only
  rw [if_neg h13, if_neg h10]
  simp only [true_and, e194, e226]
  by_cases h1 : b.toNat < 128
  · rw [decL_1 b l h1, if_neg (by omega), if_neg (by omega)]
    unfold brkD
    rw [if_neg (by dsimp only; omega)]
  by_cases h2 : 192 ≤ b.toNat ∧ b.toNat < 224
  · rw [decL_2 b l h2, if_neg (show ¬ (b.toNat = 226 ∧ _) from fun h => by omega), contL1]
    rcases l with _ | ⟨d, l⟩
    · rw [if_neg (by simp)]; rfl
    · have hd := d.toNat_lt
      dsimp only
      simp only [List.head?_cons, Option.some.injEq, f133]
      by_cases h3 : 128 ≤ d.toNat ∧ d.toNat < 192
      · rw [if_pos h3, brkD_fin]
        by_cases h5 : b.toNat = 194 ∧ d.toNat = 133
        · rw [if_pos h5, show (b.toNat - 192) * 64 + (d.toNat - 128) = 133 from by omega]
          rfl
        · rw [if_neg h5]
          split
          · rfl
          · unfold brkD
            rw [if_neg (by dsimp only; omega)]
      · rw [if_neg h3, if_neg (by omega)]
        rfl
  by_cases h3 : 224 ≤ b.toNat ∧ b.toNat < 240
  · rw [decL_3 b l h3, if_neg (show ¬ (b.toNat = 194 ∧ _) from fun h => by omega)]
    rcases l with _ | ⟨d, _ | ⟨e, l⟩⟩
    · rw [if_neg (by simp)]; rfl
    · rw [if_neg (by simp), contL_short _ _ _ (by simp)]
      rfl
    · have hd := d.toNat_lt
      have he := e.toNat_lt
      simp only [List.take_succ_cons, List.take_zero, List.cons.injEq, and_true, f128, f168, f169]
      simp only [contL]
      by_cases h4 : 128 ≤ d.toNat ∧ d.toNat < 192
      · rw [if_pos h4]
        by_cases h5 : 128 ≤ e.toNat ∧ e.toNat < 192
        · rw [if_pos h5, brkD_fin]
          by_cases h7 : b.toNat = 226 ∧ (d.toNat = 128 ∧ e.toNat = 168 ∨ d.toNat = 128 ∧ e.toNat = 169)
          · rw [if_pos h7]
            rcases h7.2 with h8 | h8
            · rw [show ((b.toNat - 224) * 64 + (d.toNat - 128)) * 64 + (e.toNat - 128) = 8232 from by omega]
              rfl
            · rw [show ((b.toNat - 224) * 64 + (d.toNat - 128)) * 64 + (e.toNat - 128) = 8233 from by omega]
              rfl
          · rw [if_neg h7]
            split
            · rfl
            · rename_i h9
              unfold brkD
              rw [if_neg (by dsimp only; omega)]
        · rw [if_neg h5, if_neg (by omega)]
          rfl
      · rw [if_neg h4, if_neg (by omega)]
        rfl
  rw [if_neg (by omega), if_neg (by omega)]
  by_cases h4 : 240 ≤ b.toNat ∧ b.toNat < 248
  · rw [decL_4 b l h4]
    cases contL 3 (b.toNat - 240) l with
    | none => rfl
    | some c =>
      rw [brkD_fin]
      split
      · rfl
      · rename_i h9
        unfold brkD
        rw [if_neg (by dsimp only; omega)]
  · rw [decL_0 b l ⟨h1, by omega⟩]
    rfl

theorem brk_old {v : Int} (h : v = 11) : (v == 11) = true := by rw [h]; rfl
theorem brk_new {v : Int} (h : ¬ v = 11) : (v == 11) = false := by rw [beq_eq_false_iff_ne]; exact h

/-- The reference's break at a byte. -/
theorem break_ev (v : Int) (s : ByteArray) (hs : s.size ≤ 140737488351232) (i : Int) :
    Ev (fun k => targumref1_Break.f k v s i) (if 0 ≤ i then ((brkL (v == 11) (s.data.toList.drop i.toNat) : Nat) : Int) else 0) := by
  unfold targumref1_Break.f
  by_cases h0 : i < 0
  · rw [if_neg (by omega)]
    refine ev_if_pos h0 ?_
    refine Ev.step (fun k => by rw [targumref1_Break.j0]) ?_
    exact ev_if_pos rfl (Ev.now _)
  · rw [if_pos (by omega)]
    refine ev_if_neg h0 ?_
    obtain ⟨n, rfl⟩ : ∃ n : Nat, i = n := ⟨i.toNat, by omega⟩
    rw [Int.toNat_natCast]
    refine Ev.step (fun k => by rw [targumref1_Break.j0]) ?_
    by_cases h1 : (n : Int) ≥ (s.size : Int)
    · rw [List.drop_eq_nil_of_le (by simp; omega)]
      exact ev_if_pos (decide_eq_true h1) (Ev.now _)
    · have hn : n < s.size := by omega
      refine ev_if_neg (by rw [decide_eq_false h1]; decide) (ev_if_pos (by omega) (ev_if_pos (by omega) ?_))
      rw [bt_nat s n hn]
      have e13 := byte_eq (s[n]) 13
      have e10 := byte_eq (s[n]) 10
      have k13 : ((13 : UInt8).toNat : Int) = 13 := rfl
      have k10 : ((10 : UInt8).toNat : Int) = 10 := rfl
      rw [k13] at e13
      rw [k10] at e10
      have hd := drop_cons s n hn
      have j2f : s[n] ≠ 13 → s[n] ≠ 10 → Ev (fun k => targumref1_Break.j2 k v s n false) ((brkL (v == 11) (s.data.toList.drop n) : Nat) : Int) := by
        intro n13 n10
        refine Ev.step (fun k => by rw [targumref1_Break.j2]) (ev_if_neg (by decide) ?_)
        by_cases hv : v = 11
        · refine ev_if_pos hv ?_
          have hnx := next_ev s hs n
          rw [if_pos (by omega), Int.toNat_natCast, hd] at hnx
          rw [brk_old hv, hd, dec_break _ _ n13 n10]
          refine Ev.bind hnx ?_
          dsimp only
          unfold brkD
          generalize decL (s[n] :: s.data.toList.drop (n + 1)) = q
          by_cases q1 : q.1 = 133
          · refine ev_if_pos (by omega) ?_
            rw [if_pos (.inl q1)]
            exact Ev.now _
          · refine ev_if_neg (by omega) ?_
            by_cases q2 : q.1 = 8232
            · refine ev_if_pos (by omega) ?_
              rw [if_pos (.inr (.inl q2))]
              exact Ev.now _
            · refine ev_if_neg (by omega) ?_
              by_cases q3 : q.1 = 8233
              · refine ev_if_pos (by omega) ?_
                rw [if_pos (.inr (.inr q3))]
                exact Ev.now _
              · refine ev_if_neg (by omega) ?_
                rw [if_neg (by omega)]
                exact Ev.now _
        · refine ev_if_neg hv ?_
          rw [brk_new hv, hd]
          unfold brkL
          dsimp only
          rw [if_neg n13, if_neg n10, if_neg (by simp), if_neg (by simp)]
          exact Ev.now _
      have j1f : (s[n] = 13 → (s.data.toList.drop (n + 1)).head? ≠ some 10) → Ev (fun k => targumref1_Break.j1 k v s n false) ((brkL (v == 11) (s.data.toList.drop n) : Nat) : Int) := by
        intro hne
        refine Ev.step (fun k => by rw [targumref1_Break.j1]) (ev_if_neg (by decide) (ev_if_pos (by omega) (ev_if_pos (by omega) ?_)))
        rw [bt_nat s n hn]
        by_cases q10 : s[n] = 10
        · refine ev_if_pos (e10.2 q10) ?_
          refine Ev.step (fun k => by rw [targumref1_Break.j2]) (ev_if_pos rfl ?_)
          rw [hd]
          unfold brkL
          dsimp only
          rw [if_neg (by rw [q10]; decide), if_pos q10]
          exact Ev.now _
        · refine ev_if_neg (fun h => q10 (e10.1 h)) ?_
          by_cases q13 : s[n] = 13
          · rw [show (((s[n]).toNat : Int) == 13) = true from by rw [beq_iff_eq]; exact e13.2 q13]
            refine Ev.step (fun k => by rw [targumref1_Break.j2]) (ev_if_pos rfl ?_)
            rw [hd]
            unfold brkL
            dsimp only
            rw [if_pos q13, if_neg (hne q13)]
            exact Ev.now _
          · rw [show (((s[n]).toNat : Int) == 13) = false from by rw [beq_eq_false_iff_ne]; exact fun h => q13 (e13.1 h)]
            exact j2f q13 q10
      by_cases q13 : s[n] = 13
      · refine ev_if_pos (e13.2 q13) ?_
        rw [wrap_id (x := (n : Int) + 1) (by omega) (by omega)]
        by_cases h2 : (n : Int) + 1 < (s.size : Int)
        · refine ev_if_pos h2 (ev_if_pos (by omega) ?_)
          have hn1 : n + 1 < s.size := by omega
          rw [show (n : Int) + 1 = ((n + 1 : Nat) : Int) from by omega, bt_nat s (n + 1) hn1]
          have hh : (s.data.toList.drop (n + 1)).head? = some s[n + 1] := by rw [drop_cons s (n + 1) hn1]; rfl
          by_cases q10 : s[n + 1] = 10
          · rw [show (((s[n + 1]).toNat : Int) == 10) = true from by rw [q10]; rfl]
            refine Ev.step (fun k => by rw [targumref1_Break.j1]) (ev_if_pos rfl ?_)
            rw [hd]
            unfold brkL
            dsimp only
            rw [if_pos q13, if_pos (by rw [hh, q10])]
            exact Ev.now _
          · rw [show (((s[n + 1]).toNat : Int) == 10) = false from by
              rw [beq_eq_false_iff_ne]
              exact fun h => q10 ((byte_eq (s[n + 1]) 10).1 h)]
            exact j1f (fun _ => by rw [hh]; exact fun h => q10 (Option.some.inj h))
        · refine ev_if_neg h2 ?_
          refine j1f (fun _ => ?_)
          rw [List.drop_eq_nil_of_le (by simp; omega)]
          decide
      · exact ev_if_neg (fun h => q13 (e13.1 h)) (j1f (fun h => absurd h q13))

/-! ### the check of signs -/
def mayL (l : List UInt8) : Nat :=
  let q := decL l
  if q.1 = 9 ∨ q.1 = 10 ∨ q.1 = 13 ∨ (32 ≤ q.1 ∧ q.1 ≤ 126) ∨ q.1 = 133 then q.2
  else if (160 ≤ q.1 ∧ q.1 ≤ 65533 ∧ q.1 ≠ 65279) ∨ 65536 ≤ q.1 then q.2 else 0

theorem may_ev (s : ByteArray) (hs : s.size ≤ 140737488351232) (n : Nat) : Ev (fun k => targumref1_May.f k s (n : Int)) ((mayL (s.data.toList.drop n) : Nat) : Int) := by
  unfold targumref1_May.f
  have hnx := next_ev s hs n
  rw [if_pos (by omega), Int.toNat_natCast] at hnx
  refine Ev.bind hnx ?_
  dsimp only
  unfold mayL
  dsimp only
  generalize decL (s.data.toList.drop n) = q
  have yes : Ev (fun k => targumref1_May.j0 k (q.1 : Int) (q.2 : Int) true) ((q.2 : Nat) : Int) := Ev.step (fun k => by rw [targumref1_May.j0]) (ev_if_pos rfl (Ev.now _))
  have no : ¬ (q.1 = 9 ∨ q.1 = 10 ∨ q.1 = 13 ∨ (32 ≤ q.1 ∧ q.1 ≤ 126) ∨ q.1 = 133) → Ev (fun k => targumref1_May.j0 k (q.1 : Int) (q.2 : Int) false) ((if (160 ≤ q.1 ∧ q.1 ≤ 65533 ∧ q.1 ≠ 65279) ∨ 65536 ≤ q.1 then q.2 else 0 : Nat) : Int) := by
    intro hn
    refine Ev.step (fun k => by rw [targumref1_May.j0]) (ev_if_neg (by decide) ?_)
    by_cases h1 : q.1 ≥ 160
    · refine ev_if_pos (by omega) ?_
      by_cases h2 : q.1 ≤ 65533
      · refine ev_if_pos (by omega) ?_
        by_cases h3 : q.1 = 65279
        · refine ev_if_pos (by omega) (ev_if_neg (by omega) ?_)
          rw [if_neg (by omega)]
          exact Ev.now _
        · refine ev_if_neg (by omega) ?_
          rw [if_pos (by omega)]
          exact Ev.now _
      · refine ev_if_neg (by omega) ?_
        by_cases h3 : q.1 ≥ 65536
        · refine ev_if_pos (by omega) ?_
          rw [if_pos (by omega)]
          exact Ev.now _
        · refine ev_if_neg (by omega) ?_
          rw [if_neg (by omega)]
          exact Ev.now _
    · refine ev_if_neg (by omega) (ev_if_neg (by omega) ?_)
      rw [if_neg (by omega)]
      exact Ev.now _
  by_cases hc : q.1 = 9 ∨ q.1 = 10 ∨ q.1 = 13 ∨ (32 ≤ q.1 ∧ q.1 ≤ 126) ∨ q.1 = 133
  · rw [if_pos hc]
    by_cases h1 : q.1 = 9
    · exact ev_if_pos (by omega) yes
    · refine ev_if_neg (by omega) ?_
      by_cases h2 : q.1 = 10
      · exact ev_if_pos (by omega) yes
      · refine ev_if_neg (by omega) ?_
        by_cases h3 : q.1 = 13
        · exact ev_if_pos (by omega) yes
        · refine ev_if_neg (by omega) ?_
          by_cases h4 : 32 ≤ q.1
          · refine ev_if_pos (by omega) ?_
            by_cases h5 : q.1 ≤ 126
            · exact ev_if_pos (by omega) yes
            · refine ev_if_neg (by omega) ?_
              rw [show ((q.1 : Int) == 133) = true from by rw [beq_iff_eq]; omega]
              exact yes
          · refine ev_if_neg (by omega) ?_
            rw [show ((q.1 : Int) == 133) = true from by rw [beq_iff_eq]; omega]
            exact yes
  · rw [if_neg hc]
    refine ev_if_neg (by omega) (ev_if_neg (by omega) (ev_if_neg (by omega) ?_))
    have e : ((q.1 : Int) == 133) = false := by rw [beq_eq_false_iff_ne]; omega
    by_cases h4 : 32 ≤ q.1
    · refine ev_if_pos (by omega) (ev_if_neg (by omega) ?_)
      rw [e]
      exact no hc
    · refine ev_if_neg (by omega) ?_
      rw [e]
      exact no hc

theorem decL_le (l : List UInt8) : (decL l).2 ≤ l.length := by
  have key : ∀ (m c : Nat) (l : List UInt8) (n least : Nat), n = m + 1 → (finL n least (contL m c l)).2 ≤ l.length + 1 := by
    intro m c l n least hn
    by_cases h : l.length < m
    · rw [contL_short m c l h]
      exact Nat.zero_le _
    · unfold finL
      split
      · exact Nat.zero_le _
      · split
        · exact Nat.zero_le _
        · split
          · dsimp only; omega
          · exact Nat.zero_le _
  cases l with
  | nil => exact Nat.zero_le _
  | cons b l =>
    unfold decL
    dsimp only
    split
    · simp
    · split
      · exact key 1 _ l 2 128 rfl
      · split
        · exact key 2 _ l 3 2048 rfl
        · split
          · exact key 3 _ l 4 65536 rfl
          · exact Nat.zero_le _

theorem mayL_le (l : List UInt8) : mayL l ≤ l.length := by
  have := decL_le l
  unfold mayL
  dsimp only
  split
  · exact this
  · split
    · exact this
    · exact Nat.zero_le _

/-- The check of signs tells something. -/
theorem check_loop (s : ByteArray) (hs : s.size ≤ 140737488351232) : ∀ (d n : Nat), s.size - n ≤ d → n ≤ s.size → ∃ r, Ev (fun k => targumref1_Check.l0 k s (n : Int)) r := by
  intro d
  induction d with
  | zero =>
    intro n hd hn
    exact ⟨-1, Ev.step (fun k => by rw [targumref1_Check.l0]) (ev_if_neg (by omega) (Ev.now _))⟩
  | succ d ih =>
    intro n hd hn
    by_cases h : n < s.size
    · have hl := mayL_le (s.data.toList.drop n)
      simp at hl
      by_cases h0 : ((mayL (s.data.toList.drop n) : Nat) : Int) = 0
      · refine ⟨n, Ev.step (fun k => by rw [targumref1_Check.l0]) (ev_if_pos (by omega) (Ev.bind (may_ev s hs n) (ev_if_pos h0 (Ev.now _))))⟩
      · obtain ⟨r, hr⟩ := ih (n + mayL (s.data.toList.drop n)) (by omega) (by omega)
        refine ⟨r, Ev.step (fun k => by rw [targumref1_Check.l0]) (ev_if_pos (by omega) (Ev.bind (may_ev s hs n) (ev_if_neg h0 ?_)))⟩
        rw [wrap_id (by omega) (by omega), show (n : Int) + ((mayL (s.data.toList.drop n) : Nat) : Int) = ((n + mayL (s.data.toList.drop n) : Nat) : Int) from by omega]
        exact hr
    · exact ⟨-1, Ev.step (fun k => by rw [targumref1_Check.l0]) (ev_if_neg (by omega) (Ev.now _))⟩

theorem check_ev (s : ByteArray) (hs : s.size ≤ 140737488351232) : ∃ r, Ev (fun k => targumref1_Check.f k s) r := check_loop s hs s.size 0 (by omega) (by omega)

theorem few_ev (s : ByteArray) (most : Int) (hm : most ≤ 140737488351232) : ∃ r, Ev (fun k => targumhelp_Few.f k s most) r ∧ (r = true → (s.size : Int) ≤ most) := by
  by_cases h : (s.size : Int) ≤ most
  · obtain ⟨r, hr⟩ := check_ev s (by omega)
    exact ⟨decide (r < 0), by unfold targumhelp_Few.f; exact ev_if_pos h (Ev.bind hr (Ev.now _)), fun _ => h⟩
  · exact ⟨false, by unfold targumhelp_Few.f; exact ev_if_neg h (Ev.now _), fun h => by cases h⟩
end Go.Proofs.Ytgbnbjajaaggkaa.Q
