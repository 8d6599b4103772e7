/- The reference's breaks are the program's. No condition but sizes. -/
import Derived.Test.YtbdjcfaocmhdnaaRef1
namespace Go.Proofs.Ytbdjcfaocmhdnaa.Q
open Go Go.RowKit Go.Proofs.YtbdjcfaocmhdnaaW.PrintWords Go.Proofs.YtbdjcfaocmhdnaaW.PrintLast Go.Proofs.YtbdjcfaocmhdnaaW.PrintMore
set_option linter.unusedVariables false
set_option linter.unusedSimpArgs false

theorem nat_eq8 {b : UInt8} {k : Nat} (hk : k < 256) : b = UInt8.ofNat k ↔ b.toNat = k := by
  constructor
  · rintro rfl
    simp
    omega
  · intro h
    apply UInt8.toNat_inj.1
    simp
    omega

theorem contL1 (c : Nat) (l : List UInt8) : contL 1 c l = match l with | [] => none | b :: _ => if 128 ≤ b.toNat ∧ b.toNat < 192 then some (c * 64 + (b.toNat - 128)) else none := by
  cases l <;> simp [contL]

theorem decL_1 (b : UInt8) (l : List UInt8) (h : b.toNat < 128) : decL (b :: l) = (b.toNat, 1) := if_pos h
theorem decL_2 (b : UInt8) (l : List UInt8) (h : 192 ≤ b.toNat ∧ b.toNat < 224) : decL (b :: l) = finL 2 128 (contL 1 (b.toNat - 192) l) := (if_neg (by omega)).trans (if_pos h)
theorem decL_3 (b : UInt8) (l : List UInt8) (h : 224 ≤ b.toNat ∧ b.toNat < 240) : decL (b :: l) = finL 3 2048 (contL 2 (b.toNat - 224) l) := (if_neg (by omega)).trans ((if_neg (by omega)).trans (if_pos h))
theorem decL_4 (b : UInt8) (l : List UInt8) (h : 240 ≤ b.toNat ∧ b.toNat < 248) : decL (b :: l) = finL 4 65536 (contL 3 (b.toNat - 240) l) := (if_neg (by omega)).trans ((if_neg (by omega)).trans ((if_neg (by omega)).trans (if_pos h)))
theorem decL_0 (b : UInt8) (l : List UInt8) (h : ¬ b.toNat < 128 ∧ ¬ (192 ≤ b.toNat ∧ b.toNat < 248)) : decL (b :: l) = (0, 0) := (if_neg (by omega)).trans ((if_neg (by omega)).trans ((if_neg (by omega)).trans (if_neg (by omega))))

/-- Bytes behind whose scalar there is a break of the old version. -/
def brkD (q : Nat × Nat) : Nat := if q.1 = 133 ∨ q.1 = 8232 ∨ q.1 = 8233 then q.2 else 0

theorem brkD_fin (n least c : Nat) : brkD (finL n least (some c)) = if c < least ∨ scalarN c = false then 0 else brkD (c, n) := by
  unfold finL
  dsimp only
  by_cases h1 : c < least
  · rw [if_pos h1, if_pos (.inl h1)]; rfl
  · rw [if_neg h1]
    cases h2 : scalarN c
    · rw [if_neg (by decide), if_pos (.inr rfl)]; rfl
    · rw [if_pos rfl, if_neg (by simp [h1])]

/-- Where neither of the short breaks begins: by the scalar that begins there. -/
theorem dec_break (b : UInt8) (l : List UInt8) (h13 : b ≠ 13) (h10 : b ≠ 10) : brkL true (b :: l) = brkD (decL (b :: l)) := by
  have e194 : b = 194 ↔ b.toNat = 194 := nat_eq8 (k := 194) (by decide)
  have e226 : b = 226 ↔ b.toNat = 226 := nat_eq8 (k := 226) (by decide)
  have hb := b.toNat_lt
  have f133 : ∀ d : UInt8, d = 133 ↔ d.toNat = 133 := fun d => nat_eq8 (k := 133) (by decide)
  have f128 : ∀ d : UInt8, d = 128 ↔ d.toNat = 128 := fun d => nat_eq8 (k := 128) (by decide)
  have f168 : ∀ d : UInt8, d = 168 ↔ d.toNat = 168 := fun d => nat_eq8 (k := 168) (by decide)
  have f169 : ∀ d : UInt8, d = 169 ↔ d.toNat = 169 := fun d => nat_eq8 (k := 169) (by decide)
  unfold brkL
  dsimp only
  rw [if_neg h13, if_neg h10]
  simp only [true_and, e194, e226]
  by_cases h1 : b.toNat < 128
  · rw [decL_1 b l h1, if_neg (by omega), if_neg (by omega)]
    unfold brkD
    rw [if_neg (by dsimp only; omega)]
  by_cases h2 : 192 ≤ b.toNat ∧ b.toNat < 224
  · rw [decL_2 b l h2, if_neg (show ¬ (b.toNat = 226 ∧ _) from fun h => by omega), contL1]
    rcases l with _ | ⟨d, l⟩
    · rw [if_neg (by simp)]; rfl
    · have hd := d.toNat_lt
      dsimp only
      simp only [List.head?_cons, Option.some.injEq, f133]
      by_cases h3 : 128 ≤ d.toNat ∧ d.toNat < 192
      · rw [if_pos h3, brkD_fin]
        by_cases h5 : b.toNat = 194 ∧ d.toNat = 133
        · rw [if_pos h5, show (b.toNat - 192) * 64 + (d.toNat - 128) = 133 from by omega]
          rfl
        · rw [if_neg h5]
          split
          · rfl
          · unfold brkD
            rw [if_neg (by dsimp only; omega)]
      · rw [if_neg h3, if_neg (by omega)]
        rfl
  by_cases h3 : 224 ≤ b.toNat ∧ b.toNat < 240
  · rw [decL_3 b l h3, if_neg (show ¬ (b.toNat = 194 ∧ _) from fun h => by omega)]
    rcases l with _ | ⟨d, _ | ⟨e, l⟩⟩
    · rw [if_neg (by simp)]; rfl
    · rw [if_neg (by simp), contL_short _ _ _ (by simp)]
      rfl
    · have hd := d.toNat_lt
      have he := e.toNat_lt
      simp only [List.take_succ_cons, List.take_zero, List.cons.injEq, and_true, f128, f168, f169]
      simp only [contL]
      by_cases h4 : 128 ≤ d.toNat ∧ d.toNat < 192
      · rw [if_pos h4]
        by_cases h5 : 128 ≤ e.toNat ∧ e.toNat < 192
        · rw [if_pos h5, brkD_fin]
          by_cases h7 : b.toNat = 226 ∧ (d.toNat = 128 ∧ e.toNat = 168 ∨ d.toNat = 128 ∧ e.toNat = 169)
          · rw [if_pos h7]
            rcases h7.2 with h8 | h8
            · rw [show ((b.toNat - 224) * 64 + (d.toNat - 128)) * 64 + (e.toNat - 128) = 8232 from by omega]
              rfl
            · rw [show ((b.toNat - 224) * 64 + (d.toNat - 128)) * 64 + (e.toNat - 128) = 8233 from by omega]
              rfl
          · rw [if_neg h7]
            split
            · rfl
            · rename_i h9
              unfold brkD
              rw [if_neg (by dsimp only; omega)]
        · rw [if_neg h5, if_neg (by omega)]
          rfl
      · rw [if_neg h4, if_neg (by omega)]
        rfl
  rw [if_neg (by omega), if_neg (by omega)]
  by_cases h4 : 240 ≤ b.toNat ∧ b.toNat < 248
  · rw [decL_4 b l h4]
    cases contL 3 (b.toNat - 240) l with
    | none => rfl
    | some c =>
      rw [brkD_fin]
      split
      · rfl
      · rename_i h9
        unfold brkD
        rw [if_neg (by dsimp only; omega)]
  · rw [decL_0 b l ⟨h1, by omega⟩]
    rfl

theorem brk_old {v : Int} (h : v = 11) : (v == 11) = true := by rw [h]; rfl
theorem brk_new {v : Int} (h : ¬ v = 11) : (v == 11) = false := by rw [beq_eq_false_iff_ne]; exact h

/-- The reference's break at a byte. -/
theorem break_ev (v : Int) (s : ByteArray) (hs : s.size ≤ 140737488351232) (i : Int) :
    Ev (fun k => targumref1_Break.f k v s i) (if 0 ≤ i then ((brkL (v == 11) (s.data.toList.drop i.toNat) : Nat) : Int) else 0) := by
  unfold targumref1_Break.f
  by_cases h0 : i < 0
  · rw [if_neg (by omega)]
    refine ev_if_pos h0 ?_
    refine Ev.step (fun k => by rw [targumref1_Break.j0]) ?_
    exact ev_if_pos rfl (Ev.now _)
  · rw [if_pos (by omega)]
    refine ev_if_neg h0 ?_
    obtain ⟨n, rfl⟩ : ∃ n : Nat, i = n := ⟨i.toNat, by omega⟩
    rw [Int.toNat_natCast]
    refine Ev.step (fun k => by rw [targumref1_Break.j0]) ?_
    by_cases h1 : (n : Int) ≥ (s.size : Int)
    · rw [List.drop_eq_nil_of_le (by simp; omega)]
      exact ev_if_pos (decide_eq_true h1) (Ev.now _)
    · have hn : n < s.size := by omega
      refine ev_if_neg (by rw [decide_eq_false h1]; decide) (ev_if_pos (by omega) (ev_if_pos (by omega) ?_))
      rw [bt_nat s n hn]
      have e13 := byte_eq (s[n]) 13
      have e10 := byte_eq (s[n]) 10
      have k13 : ((13 : UInt8).toNat : Int) = 13 := rfl
      have k10 : ((10 : UInt8).toNat : Int) = 10 := rfl
      rw [k13] at e13
      rw [k10] at e10
      have hd := drop_cons s n hn
      have j2f : s[n] ≠ 13 → s[n] ≠ 10 → Ev (fun k => targumref1_Break.j2 k v s n false) ((brkL (v == 11) (s.data.toList.drop n) : Nat) : Int) := by
        intro n13 n10
        refine Ev.step (fun k => by rw [targumref1_Break.j2]) (ev_if_neg (by decide) ?_)
        by_cases hv : v = 11
        · refine ev_if_pos hv ?_
          have hnx := next_ev s hs n
          rw [if_pos (by omega), Int.toNat_natCast, hd] at hnx
          rw [brk_old hv, hd, dec_break _ _ n13 n10]
          refine Ev.bind hnx ?_
          dsimp only
          unfold brkD
          generalize decL (s[n] :: s.data.toList.drop (n + 1)) = q
          by_cases q1 : q.1 = 133
          · refine ev_if_pos (by omega) ?_
            rw [if_pos (.inl q1)]
            exact Ev.now _
          · refine ev_if_neg (by omega) ?_
            by_cases q2 : q.1 = 8232
            · refine ev_if_pos (by omega) ?_
              rw [if_pos (.inr (.inl q2))]
              exact Ev.now _
            · refine ev_if_neg (by omega) ?_
              by_cases q3 : q.1 = 8233
              · refine ev_if_pos (by omega) ?_
                rw [if_pos (.inr (.inr q3))]
                exact Ev.now _
              · refine ev_if_neg (by omega) ?_
                rw [if_neg (by omega)]
                exact Ev.now _
        · refine ev_if_neg hv ?_
          rw [brk_new hv, hd]
          unfold brkL
          dsimp only
          rw [if_neg n13, if_neg n10, if_neg (by simp), if_neg (by simp)]
          exact Ev.now _
      have j1f : (s[n] = 13 → (s.data.toList.drop (n + 1)).head? ≠ some 10) → Ev (fun k => targumref1_Break.j1 k v s n false) ((brkL (v == 11) (s.data.toList.drop n) : Nat) : Int) := by
        intro hne
        refine Ev.step (fun k => by rw [targumref1_Break.j1]) (ev_if_neg (by decide) (ev_if_pos (by omega) (ev_if_pos (by omega) ?_)))
        rw [bt_nat s n hn]
        by_cases q10 : s[n] = 10
        · refine ev_if_pos (e10.2 q10) ?_
          refine Ev.step (fun k => by rw [targumref1_Break.j2]) (ev_if_pos rfl ?_)
          rw [hd]
          unfold brkL
          dsimp only
          rw [if_neg (by rw [q10]; decide), if_pos q10]
          exact Ev.now _
        · refine ev_if_neg (fun h => q10 (e10.1 h)) ?_
          by_cases q13 : s[n] = 13
          · rw [show (((s[n]).toNat : Int) == 13) = true from by rw [beq_iff_eq]; exact e13.2 q13]
            refine Ev.step (fun k => by rw [targumref1_Break.j2]) (ev_if_pos rfl ?_)
            rw [hd]
            unfold brkL
            dsimp only
            rw [if_pos q13, if_neg (hne q13)]
            exact Ev.now _
          · rw [show (((s[n]).toNat : Int) == 13) = false from by rw [beq_eq_false_iff_ne]; exact fun h => q13 (e13.1 h)]
            exact j2f q13 q10
      by_cases q13 : s[n] = 13
      · refine ev_if_pos (e13.2 q13) ?_
        rw [wrap_id (x := (n : Int) + 1) (by omega) (by omega)]
        by_cases h2 : (n : Int) + 1 < (s.size : Int)
        · refine ev_if_pos h2 (ev_if_pos (by omega) ?_)
          have hn1 : n + 1 < s.size := by omega
          rw [show (n : Int) + 1 = ((n + 1 : Nat) : Int) from by omega, bt_nat s (n + 1) hn1]
          have hh : (s.data.toList.drop (n + 1)).head? = some s[n + 1] := by rw [drop_cons s (n + 1) hn1]; rfl
          by_cases q10 : s[n + 1] = 10
          · rw [show (((s[n + 1]).toNat : Int) == 10) = true from by rw [q10]; rfl]
            refine Ev.step (fun k => by rw [targumref1_Break.j1]) (ev_if_pos rfl ?_)
            rw [hd]
            unfold brkL
            dsimp only
            rw [if_pos q13, if_pos (by rw [hh, q10])]
            exact Ev.now _
          · rw [show (((s[n + 1]).toNat : Int) == 10) = false from by
              rw [beq_eq_false_iff_ne]
              exact fun h => q10 ((byte_eq (s[n + 1]) 10).1 h)]
            exact j1f (fun _ => by rw [hh]; exact fun h => q10 (Option.some.inj h))
        · refine ev_if_neg h2 ?_
          refine j1f (fun _ => ?_)
          rw [List.drop_eq_nil_of_le (by simp; omega)]
          decide
      · exact ev_if_neg (fun h => q13 (e13.1 h)) (j1f (fun h => absurd h q13))

end Go.Proofs.Ytbdjcfaocmhdnaa.Q
