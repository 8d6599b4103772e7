/- What the reference tells of scalars and breaks: the printed functions of targumref1 told as plain functions of lists of bytes. No condition but sizes. -/
import Derived.Test.YtbdjcfaocmhdnaaQx3
import Derived.Test.YtbdjcfaocmhdnaaQx2
import Derived.Test.YtbdjcfaocmhdnaaQx1
import Derived.Test.YtbdjcfaocmhdnaaEvs
namespace Go.Proofs.Ytbdjcfaocmhdnaa.Q
open Go Go.RowKit Go.Proofs.YtbdjcfaocmhdnaaW.PrintWords Go.Proofs.YtbdjcfaocmhdnaaW.PrintLast Go.Proofs.YtbdjcfaocmhdnaaW.PrintMore
set_option linter.unusedVariables false
set_option linter.unusedSimpArgs false

/-- What so many bytes more make of a number; none: they aren't there, or aren't of that kind. -/
def contL : Nat → Nat → List UInt8 → Option Nat
  | 0, c, _ => some c
  | _ + 1, _, [] => none
  | m + 1, c, b :: l => if 128 ≤ b.toNat ∧ b.toNat < 192 then contL m (c * 64 + (b.toNat - 128)) l else none

def scalarN (c : Nat) : Bool := decide (c ≤ 1114111 ∧ (c < 55296 ∨ 57343 < c))

/-- A scalar of n bytes, not less than least. -/
def finL (n least : Nat) (o : Option Nat) : Nat × Nat :=
  match o with
  | none => (0, 0)
  | some c => if c < least then (0, 0) else if scalarN c = true then (c, n) else (0, 0)

/-- The scalar with which bytes begin, and how many bytes it has. -/
def decL : List UInt8 → Nat × Nat
  | [] => (0, 0)
  | b :: l =>
    let c := b.toNat
    if c < 128 then (c, 1)
    else if 192 ≤ c ∧ c < 224 then finL 2 128 (contL 1 (c - 192) l)
    else if 224 ≤ c ∧ c < 240 then finL 3 2048 (contL 2 (c - 224) l)
    else if 240 ≤ c ∧ c < 248 then finL 4 65536 (contL 3 (c - 240) l)
    else (0, 0)

theorem isScalar_eq (c : Nat) : targumref1_IsScalar.f (c : Int) = some (scalarN c) := by
  unfold targumref1_IsScalar.f scalarN
  rw [if_pos (by omega)]
  by_cases h1 : (c : Int) ≤ 1114111
  · rw [if_pos h1]
    by_cases h2 : (c : Int) < 55296
    · rw [if_pos h2, decide_eq_true (by omega)]
    · rw [if_neg h2]
      congr 1
      rw [decide_eq_decide]
      omega
  · rw [if_neg h1, decide_eq_false (by omega)]

theorem contL_short : ∀ (m c : Nat) (l : List UInt8), l.length < m → contL m c l = none
  | 0, _, _, h => by simp at h
  | m + 1, _, [], _ => rfl
  | m + 1, c, b :: l, h => by
    unfold contL
    split
    · exact contL_short m _ l (by simp at h; omega)
    · rfl

theorem next_loop (s : ByteArray) (hs : s.size ≤ 140737488351232) (i n least : Nat) (hi : i < s.size) (hn : n ≤ 4) : ∀ (d j c : Nat), n - j = d → 1 ≤ j → j ≤ n → c < 64 ^ j →
    Ev (fun k => targumref1_Next.l0 k s i c n least j) (((finL n least (contL (n - j) c (s.data.toList.drop (i + j)))).1 : Int), ((finL n least (contL (n - j) c (s.data.toList.drop (i + j)))).2 : Int)) := by
  intro d
  induction d with
  | zero =>
    intro j c hd h1 h2 hc
    obtain rfl : j = n := by omega
    refine Ev.step (fun k => by rw [targumref1_Next.l0]) ?_
    refine ev_if_neg (by omega) ?_
    rw [Nat.sub_self]
    unfold contL finL
    dsimp only
    by_cases hl : c < least
    · refine ev_if_pos (by omega) ?_
      rw [if_pos hl]
      exact Ev.now _
    · refine ev_if_neg (by omega) ?_
      rw [isScalar_eq, if_neg hl]
      refine Ev.bind (Ev.now _) ?_
      by_cases hsc : scalarN c = true
      · refine ev_if_pos hsc ?_
        rw [if_pos hsc]
        exact Ev.now _
      · refine ev_if_neg hsc ?_
        rw [if_neg hsc]
        exact Ev.now _
  | succ d ih =>
    intro j c hd h1 h2 hc
    have hc4 : c < 64 ^ 4 := Nat.lt_of_lt_of_le hc (Nat.pow_le_pow_right (by decide) (by omega))
    have hc5 : (64 : Nat) ^ 4 = 16777216 := by decide
    refine Ev.step (fun k => by rw [targumref1_Next.l0]) ?_
    refine ev_if_pos (by omega) ?_
    rw [wrap_id (x := (s.size : Int) - i) (by omega) (by omega)]
    by_cases hlen : n > s.size - i
    · refine ev_if_pos (by omega) ?_
      rw [contL_short _ _ _ (by simp; omega)]
      exact Ev.now _
    · refine ev_if_neg (by omega) ?_
      have hij : i + j < s.size := by omega
      rw [wrap_id (x := (i : Int) + j) (by omega) (by omega), show ((i : Int) + j) = ((i + j : Nat) : Int) from by omega]
      refine ev_if_pos (by omega) (ev_if_pos (by omega) ?_)
      rw [bt_nat s (i + j) hij, drop_cons s (i + j) hij, show n - j = (n - (j + 1)) + 1 from by omega]
      have hb := (s[i + j]).toNat_lt
      rw [contL]
      by_cases h3 : ((s[i + j]).toNat : Int) < 128
      · refine ev_if_pos h3 ?_
        rw [if_neg (by omega)]
        exact Ev.now _
      · refine ev_if_neg h3 ?_
        by_cases h4 : ((s[i + j]).toNat : Int) ≥ 192
        · refine ev_if_pos h4 ?_
          rw [if_neg (by omega)]
          exact Ev.now _
        · refine ev_if_neg h4 ?_
          rw [if_pos (by omega)]
          rw [wrap_id (x := (c : Int) * 64) (by omega) (by omega), wrap_id (x := ((s[i + j]).toNat : Int)) (by omega) (by omega), wrap_id (x := (c : Int) * 64 + ((s[i + j]).toNat : Int)) (by omega) (by omega), wrap_id (x := (c : Int) * 64 + ((s[i + j]).toNat : Int) - 128) (by omega) (by omega), wrap_id (x := (j : Int) + 1) (by omega) (by omega)]
          rw [show (c : Int) * 64 + ((s[i + j]).toNat : Int) - 128 = ((c * 64 + ((s[i + j]).toNat - 128) : Nat) : Int) from by omega, show (j : Int) + 1 = ((j + 1 : Nat) : Int) from by omega, show i + j + 1 = i + (j + 1) from by omega]
          refine ih (j + 1) (c * 64 + ((s[i + j]).toNat - 128)) (by omega) (by omega) (by omega) ?_
          rw [Nat.pow_succ]
          omega

theorem next_ev (s : ByteArray) (hs : s.size ≤ 140737488351232) (i : Int) :
    Ev (fun k => targumref1_Next.f k s i) (if 0 ≤ i then (((decL (s.data.toList.drop i.toNat)).1 : Int), ((decL (s.data.toList.drop i.toNat)).2 : Int)) else (0, 0)) := by
  unfold targumref1_Next.f
  by_cases h0 : i < 0
  · rw [if_neg (by omega)]
    refine ev_if_pos h0 ?_
    refine Ev.step (fun k => by rw [targumref1_Next.j0]) ?_
    exact ev_if_pos rfl (Ev.now _)
  · rw [if_pos (by omega)]
    refine ev_if_neg h0 ?_
    obtain ⟨n, rfl⟩ : ∃ n : Nat, i = n := ⟨i.toNat, by omega⟩
    rw [Int.toNat_natCast]
    refine Ev.step (fun k => by rw [targumref1_Next.j0]) ?_
    by_cases h1 : (n : Int) ≥ (s.size : Int)
    · rw [List.drop_eq_nil_of_le (by simp; omega)]
      exact ev_if_pos (decide_eq_true h1) (Ev.now _)
    · refine ev_if_neg (by rw [decide_eq_false h1]; decide) (ev_if_pos (by omega) (ev_if_pos (by omega) ?_))
      have hn : n < s.size := by omega
      have hb := (s[n]).toNat_lt
      rw [drop_cons s n hn, bt_nat s n hn, wrap_id (x := ((s[n]).toNat : Int)) (by omega) (by omega)]
      unfold decL
      dsimp only
      have loop := fun (m least c : Nat) (hm : m ≤ 4) (h1m : 1 ≤ m) (hc : c < 64) => next_loop s hs n m least hn hm (m - 1) 1 c rfl (Nat.le_refl _) h1m (by simpa using hc)
      by_cases h2 : ((s[n]).toNat : Int) < 128
      · refine ev_if_pos h2 ?_
        rw [if_pos (by omega)]
        exact Ev.now _
      · refine ev_if_neg h2 ?_
        rw [if_neg (by omega)]
        by_cases h3 : ((s[n]).toNat : Int) ≥ 192
        · refine ev_if_pos h3 ?_
          refine Ev.step (fun k => by rw [targumref1_Next.j1]) ?_
          by_cases h4 : ((s[n]).toNat : Int) < 224
          · refine ev_if_pos (decide_eq_true h4) ?_
            refine Ev.step (fun k => by rw [targumref1_Next.j3]) ?_
            rw [if_pos (by omega), wrap_id (x := ((s[n]).toNat : Int) - 192) (by omega) (by omega), show ((s[n]).toNat : Int) - 192 = (((s[n]).toNat - 192 : Nat) : Int) from by omega]
            exact loop 2 128 ((s[n]).toNat - 192) (by decide) (by decide) (by omega)
          · refine ev_if_neg (by rw [decide_eq_false h4]; decide) ?_
            rw [if_neg (by omega)]
            refine ev_if_pos (by omega) ?_
            refine Ev.step (fun k => by rw [targumref1_Next.j2]) ?_
            by_cases h5 : ((s[n]).toNat : Int) < 240
            · refine ev_if_pos (decide_eq_true h5) ?_
              refine Ev.step (fun k => by rw [targumref1_Next.j3]) ?_
              rw [if_pos (by omega), wrap_id (x := ((s[n]).toNat : Int) - 224) (by omega) (by omega), show ((s[n]).toNat : Int) - 224 = (((s[n]).toNat - 224 : Nat) : Int) from by omega]
              exact loop 3 2048 ((s[n]).toNat - 224) (by decide) (by decide) (by omega)
            · refine ev_if_neg (by rw [decide_eq_false h5]; decide) (ev_if_pos (by omega) ?_)
              rw [if_neg (by omega)]
              by_cases h6 : ((s[n]).toNat : Int) < 248
              · refine ev_if_pos h6 ?_
                refine Ev.step (fun k => by rw [targumref1_Next.j3]) ?_
                rw [if_pos (by omega), wrap_id (x := ((s[n]).toNat : Int) - 240) (by omega) (by omega), show ((s[n]).toNat : Int) - 240 = (((s[n]).toNat - 240 : Nat) : Int) from by omega]
                exact loop 4 65536 ((s[n]).toNat - 240) (by decide) (by decide) (by omega)
              · refine ev_if_neg h6 ?_
                rw [if_neg (by omega)]
                exact Ev.now _
        · refine ev_if_neg h3 ?_
          rw [if_neg (by omega), if_neg (by omega), if_neg (by omega)]
          refine Ev.step (fun k => by rw [targumref1_Next.j1]) ?_
          refine ev_if_neg (by decide) (ev_if_neg (by omega) ?_)
          refine Ev.step (fun k => by rw [targumref1_Next.j2]) ?_
          exact ev_if_neg (by decide) (ev_if_neg (by omega) (Ev.now _))
end Go.Proofs.Ytbdjcfaocmhdnaa.Q
