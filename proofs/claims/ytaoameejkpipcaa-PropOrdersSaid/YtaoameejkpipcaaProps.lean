/- The plain law of properties: the program's and the reference's stops, blanks, names, properties, aliases are the same. No condition but sizes. -/
import Derived.Test.YtaoameejkpipcaaRefBrk
import Derived.Test.YtaoameejkpipcaaTagRef
import Derived.Test.YtaoameejkpipcaaQx2
import Derived.Test.YtaoameejkpipcaaQx9
import Derived.Test.YtaoameejkpipcaaQx8
import Derived.Test.YtaoameejkpipcaaPropsRef
import Derived.Test.YtaoameejkpipcaaQx11
import Derived.Test.YtaoameejkpipcaaQx3
namespace Go.Proofs.Ytaoameejkpipcaa.Q
open Go Go.RowKit Go.Proofs.YtaoameejkpipcaaW.PrintWords Go.Proofs.YtaoameejkpipcaaW.PrintLast Go.Proofs.YtaoameejkpipcaaW.PrintMore
set_option linter.unusedVariables false
set_option linter.unusedSimpArgs false

theorem blank_same (s : ByteArray) (i : Int) : targumref1_IsBlank.f s i = rows_Blank.f s i := rfl

/-- Is a blank at a byte? -/
def blankB (s : ByteArray) (i : Int) : Bool := decide (0 ≤ i ∧ i < (s.size : Int) ∧ (bt s i = 32 ∨ bt s i = 9))

theorem blank_eq (s : ByteArray) (i : Int) : rows_Blank.f s i = some (blankB s i) := by
  unfold rows_Blank.f blankB
  by_cases h0 : i ≥ 0
  · rw [if_pos h0]
    by_cases h1 : i < (s.size : Int)
    · rw [if_pos h1, if_pos (by omega)]
      by_cases h2 : bt s i = 32
      · rw [if_pos h2, decide_eq_true ⟨by omega, h1, .inl h2⟩]
      · rw [if_neg h2]
        congr 1
        rw [Bool.eq_iff_iff, beq_iff_eq, decide_eq_true_eq]
        constructor
        · exact fun h => ⟨by omega, h1, .inr h⟩
        · exact fun h => h.2.2.resolve_left h2
    · rw [if_neg h1, decide_eq_false (fun h => h1 h.2.1)]
  · rw [if_neg h0, decide_eq_false (fun h => h0 h.1)]

theorem indexByte_flow (c : UInt8) : decide (Lib.indexByte [44, 91, 93, 123, 125] c ≥ 0) = (c == 44 || c == 91 || c == 93 || c == 123 || c == 125) := all_bytes (p := fun c => decide (Lib.indexByte [44, 91, 93, 123, 125] c ≥ 0) = (c == 44 || c == 91 || c == 93 || c == 123 || c == 125)) (by decide +kernel) c
theorem sign_flow (c : UInt8) : targumref17_Sign.f (c.toNat : Int) = some (c == 44 || c == 91 || c == 93 || c == 123 || c == 125) := all_bytes (p := fun c => targumref17_Sign.f (c.toNat : Int) = some (c == 44 || c == 91 || c == 93 || c == 123 || c == 125)) (by decide +kernel) c

/-- Is a stop at a byte? -/
def stopB (v : Int) (s : ByteArray) (i : Int) (flow : Bool) : Bool :=
  decide ((s.size : Int) ≤ i) || blankB s i || decide (0 ≤ i ∧ 0 < brkL (v == 11) (s.data.toList.drop i.toNat)) ||
    (flow && decide (bt s i = 44 ∨ bt s i = 91 ∨ bt s i = 93 ∨ bt s i = 123 ∨ bt s i = 125))

theorem flow_bt (s : ByteArray) (n : Nat) (h : n < s.size) : (s[n] == 44 || s[n] == 91 || s[n] == 93 || s[n] == 123 || s[n] == 125) = decide (bt s (n : Int) = 44 ∨ bt s (n : Int) = 91 ∨ bt s (n : Int) = 93 ∨ bt s (n : Int) = 123 ∨ bt s (n : Int) = 125) := by
  rw [bt_nat s n h]
  have e : ∀ k : UInt8, (s[n] == k) = decide (((s[n]).toNat : Int) = (k.toNat : Int)) := fun k => by
    rw [Bool.eq_iff_iff, beq_iff_eq, decide_eq_true_eq]
    exact (byte_eq (s[n]) k).symm
  rw [e 44, e 91, e 93, e 123, e 125, Bool.eq_iff_iff]
  simp [or_assoc]

theorem stop_prog (v : Int) (s : ByteArray) (i : Int) (flow : Bool) (hs : s.size ≤ 140737488351232) (h0 : 0 ≤ i) : rows_Stop.f v s i flow = some (stopB v s i flow) := by
  unfold rows_Stop.f stopB
  by_cases h1 : i ≥ (s.size : Int)
  · rw [if_pos h1, decide_eq_true (by omega)]
    simp
  · rw [if_neg h1, decide_eq_false (by omega), blank_eq, Option.bind_some]
    cases hb : blankB s i
    · rw [if_neg (by decide)]
      unfold brk_Break.f
      rw [if_pos hs, if_pos h0, Option.bind_some]
      by_cases h2 : 0 < brkL (v == 11) (s.data.toList.drop i.toNat)
      · rw [if_pos (by omega), decide_eq_true ⟨h0, h2⟩]
        simp
      · rw [if_neg (by omega), decide_eq_false (fun h => h2 h.2)]
        cases flow
        · rw [if_neg (by decide)]
          simp
        · rw [if_pos rfl, if_pos h0, if_pos (by omega)]
          obtain ⟨n, rfl⟩ : ∃ n : Nat, i = n := ⟨i.toNat, by omega⟩
          have hn : n < s.size := by omega
          unfold strings_IndexByte.f
          rw [Option.bind_some]
          have e : (bt s (n : Int)).toNat.toUInt8 = s[n] := by
            rw [bt_nat s n hn, Int.toNat_natCast]
            simp
          rw [e]
          simp only [Bool.false_or, Bool.true_and]
          congr 1
          rw [← flow_bt s n hn]
          exact indexByte_flow _
    · rw [if_pos rfl]
      simp

theorem stop_ref (v : Int) (s : ByteArray) (i : Int) (flow : Bool) (hs : s.size ≤ 140737488351232) (h0 : 0 ≤ i) : Ev (fun k => targumref17_Stop.f k v s i flow) (stopB v s i flow) := by
  unfold targumref17_Stop.f stopB
  by_cases h1 : i ≥ (s.size : Int)
  · refine ev_if_pos h1 ?_
    rw [decide_eq_true (by omega)]
    simp only [Bool.true_or]
    exact Ev.now _
  · refine ev_if_neg h1 ?_
    rw [decide_eq_false (by omega), blank_same, blank_eq]
    refine Ev.bind (Ev.now _) ?_
    cases hb : blankB s i
    · refine ev_if_neg (by decide) ?_
      refine Ev.bind (break_ev v s hs i) ?_
      rw [if_pos h0]
      by_cases h2 : 0 < brkL (v == 11) (s.data.toList.drop i.toNat)
      · refine ev_if_pos (by omega) ?_
        rw [decide_eq_true ⟨h0, h2⟩]
        exact Ev.now _
      · refine ev_if_neg (by omega) ?_
        rw [decide_eq_false (fun h => h2 h.2)]
        cases flow
        · exact ev_if_neg (by decide) (Ev.now _)
        · refine ev_if_pos rfl (ev_if_pos h0 (ev_if_pos (by omega) ?_))
          obtain ⟨n, rfl⟩ : ∃ n : Nat, i = n := ⟨i.toNat, by omega⟩
          have hn : n < s.size := by omega
          rw [show targumref17_Sign.f (bt s (n : Int)) = some (decide (bt s (n : Int) = 44 ∨ bt s (n : Int) = 91 ∨ bt s (n : Int) = 93 ∨ bt s (n : Int) = 123 ∨ bt s (n : Int) = 125)) from by rw [← flow_bt s n hn, bt_nat s n hn]; exact sign_flow _]
          refine Ev.bind (Ev.now _) ?_
          simp only [Bool.false_or, Bool.true_and]
          exact Ev.now _
    · refine ev_if_pos rfl ?_
      simp only [Bool.false_or, Bool.true_or]
      exact Ev.now _

/-- How many blanks stand at a byte. -/
def blanksL : List UInt8 → Nat
  | [] => 0
  | c :: l => if c = 32 ∨ c = 9 then blanksL l + 1 else 0

theorem blanksL_le : ∀ l, blanksL l ≤ l.length
  | [] => Nat.le_refl _
  | c :: l => by
    unfold blanksL
    have := blanksL_le l
    split
    · simp; omega
    · simp

theorem blankB_nat (s : ByteArray) (n : Nat) : blankB s (n : Int) = true ↔ ∃ h : n < s.size, s[n] = 32 ∨ s[n] = 9 := by
  unfold blankB
  rw [decide_eq_true_eq]
  constructor
  · rintro ⟨_, h1, h2⟩
    have hn : n < s.size := by omega
    rw [bt_nat s n hn] at h2
    exact ⟨hn, h2.imp (byte_eq (s[n]) 32).1 (byte_eq (s[n]) 9).1⟩
  · rintro ⟨hn, h⟩
    refine ⟨by omega, by omega, ?_⟩
    rw [bt_nat s n hn]
    exact h.imp (byte_eq (s[n]) 32).2 (byte_eq (s[n]) 9).2

/-- The byte behind blanks. -/
def overN (s : ByteArray) (n : Nat) : Nat := n + blanksL (s.data.toList.drop n)

theorem overN_le (s : ByteArray) (n : Nat) (h : n ≤ s.size) : n ≤ overN s n ∧ overN s n ≤ s.size := by
  unfold overN
  have := blanksL_le (s.data.toList.drop n)
  simp at this
  omega

theorem overN_yes (s : ByteArray) (n : Nat) (h : blankB s (n : Int) = true) : overN s n = overN s (n + 1) ∧ n < s.size := by
  obtain ⟨hn, hb⟩ := (blankB_nat s n).1 h
  refine ⟨?_, hn⟩
  unfold overN
  rw [drop_cons s n hn, blanksL, if_pos hb]
  omega

theorem overN_no (s : ByteArray) (n : Nat) (h : ¬ blankB s (n : Int) = true) : overN s n = n := by
  unfold overN
  by_cases hn : n < s.size
  · rw [drop_cons s n hn, blanksL, if_neg (fun hb => h ((blankB_nat s n).2 ⟨hn, hb⟩))]
    rfl
  · rw [List.drop_eq_nil_of_le (by simp; omega)]
    rfl

theorem over_prog (s : ByteArray) (hs : s.size ≤ 140737488351232) : ∀ (d n : Nat), s.size - n ≤ d → Ev (fun k => rows_Over.l0 k s (n : Int)) ((overN s n : Nat) : Int) := by
  intro d
  induction d with
  | zero =>
    intro n hd
    have hb : ¬ blankB s (n : Int) = true := fun h => by have := (overN_yes s n h).2; omega
    refine Ev.step (fun k => by rw [rows_Over.l0]) ?_
    rw [blank_eq]
    refine Ev.bind (Ev.now _) (ev_if_neg hb ?_)
    rw [overN_no s n hb]
    exact Ev.now _
  | succ d ih =>
    intro n hd
    refine Ev.step (fun k => by rw [rows_Over.l0]) ?_
    rw [blank_eq]
    refine Ev.bind (Ev.now _) ?_
    by_cases hb : blankB s (n : Int) = true
    · obtain ⟨h1, h2⟩ := overN_yes s n hb
      refine ev_if_pos hb ?_
      rw [wrap_id (by omega) (by omega), h1, show (n : Int) + 1 = ((n + 1 : Nat) : Int) from by omega]
      exact ih (n + 1) (by omega)
    · refine ev_if_neg hb ?_
      rw [overN_no s n hb]
      exact Ev.now _

theorem over_ref (s : ByteArray) (hs : s.size ≤ 140737488351232) : ∀ (d n : Nat), s.size - n ≤ d → Ev (fun k => targumref17_over.l0 k s (n : Int)) ((overN s n : Nat) : Int) := by
  intro d
  induction d with
  | zero =>
    intro n hd
    have hb : ¬ blankB s (n : Int) = true := fun h => by have := (overN_yes s n h).2; omega
    refine Ev.step (fun k => by rw [targumref17_over.l0]) ?_
    rw [blank_same, blank_eq]
    refine Ev.bind (Ev.now _) (ev_if_neg hb ?_)
    rw [overN_no s n hb]
    exact Ev.now _
  | succ d ih =>
    intro n hd
    refine Ev.step (fun k => by rw [targumref17_over.l0]) ?_
    rw [blank_same, blank_eq]
    refine Ev.bind (Ev.now _) ?_
    by_cases hb : blankB s (n : Int) = true
    · obtain ⟨h1, h2⟩ := overN_yes s n hb
      refine ev_if_pos hb ?_
      rw [wrap_id (by omega) (by omega), h1, show (n : Int) + 1 = ((n + 1 : Nat) : Int) from by omega]
      exact ih (n + 1) (by omega)
    · refine ev_if_neg hb ?_
      rw [overN_no s n hb]
      exact Ev.now _

/-! ### names -/
def nameB (c : UInt8) : Bool := (97 ≤ c && c ≤ 122) || (65 ≤ c && c ≤ 90) || (48 ≤ c && c ≤ 57) || c == 45 || c == 95
theorem prop_sign_b (c : UInt8) : prop_sign.f (c.toNat : Int) = some (nameB c) := all_bytes (p := fun c => prop_sign.f (c.toNat : Int) = some (nameB c)) (by decide +kernel) c

/-- The byte behind a name. -/
def nameN (s : ByteArray) (n : Nat) : Nat := n + run nameB s n

theorem nameN_le (s : ByteArray) (n : Nat) (h : n ≤ s.size) : n ≤ nameN s n ∧ nameN s n ≤ s.size := by
  have := run_le nameB s n h
  unfold nameN
  omega

theorem name_prog (s : ByteArray) (hs : s.size ≤ 140737488351232) : ∀ (d n : Nat), s.size - n ≤ d → n ≤ s.size → Ev (fun k => prop_name.l0 k s (n : Int)) ((nameN s n : Nat) : Int) := by
  intro d
  induction d with
  | zero =>
    intro n hd hn
    refine Ev.step (fun k => by rw [prop_name.l0]) (ev_if_neg (by omega) ?_)
    unfold nameN
    rw [run_end nameB s n (by omega)]
    exact Ev.now _
  | succ d ih =>
    intro n hd hn
    refine Ev.step (fun k => by rw [prop_name.l0]) ?_
    by_cases h : n < s.size
    · refine ev_if_pos (by omega) (ev_if_pos (by omega) ?_)
      rw [bt_nat s n h, prop_sign_b]
      refine Ev.bind (Ev.now _) ?_
      by_cases hp : nameB s[n] = true
      · refine ev_if_pos hp ?_
        rw [wrap_id (by omega) (by omega), show (n : Int) + 1 = ((n + 1 : Nat) : Int) from by omega]
        have := ih (n + 1) (by omega) (by omega)
        unfold nameN at this ⊢
        rw [run_yes nameB s n h hp, show n + (run nameB s (n + 1) + 1) = n + 1 + run nameB s (n + 1) from by omega]
        exact this
      · refine ev_if_neg hp ?_
        unfold nameN
        rw [run_no nameB s n h (by simpa using hp)]
        exact Ev.now _
    · refine ev_if_neg (by omega) ?_
      unfold nameN
      rw [run_end nameB s n (by omega)]
      exact Ev.now _

theorem name_ref (s : ByteArray) (hs : s.size ≤ 140737488351232) (n : Nat) : ∀ (d j : Nat), s.size - (n + j) ≤ d → n + j ≤ s.size → Ev (fun k => targumref17_name.l0 k s (n : Int) (j : Int)) ((j + run nameB s (n + j) : Nat) : Int) := by
  intro d
  induction d with
  | zero =>
    intro j hd hn
    refine Ev.step (fun k => by rw [targumref17_name.l0]) ?_
    rw [wrap_id (x := (n : Int) + j) (by omega) (by omega)]
    refine ev_if_neg (by omega) ?_
    rw [run_end nameB s (n + j) (by omega)]
    exact Ev.now _
  | succ d ih =>
    intro j hd hn
    refine Ev.step (fun k => by rw [targumref17_name.l0]) ?_
    rw [wrap_id (x := (n : Int) + j) (by omega) (by omega)]
    by_cases h : n + j < s.size
    · refine ev_if_pos (by omega) (ev_if_pos (by omega) ?_)
      rw [show (n : Int) + j = ((n + j : Nat) : Int) from by omega, bt_nat s (n + j) h, letter_b]
      have go : nameB s[n + j] = true → Ev (fun k => targumref17_name.l0 k s (n : Int) (wrap64 ((j : Int) + 1))) ((j + run nameB s (n + j) : Nat) : Int) := by
        intro hp
        rw [wrap_id (by omega) (by omega), show (j : Int) + 1 = ((j + 1 : Nat) : Int) from by omega, run_yes nameB s (n + j) h hp, show j + (run nameB s (n + j + 1) + 1) = (j + 1) + run nameB s (n + (j + 1)) from by rw [Nat.add_assoc n j 1]; omega]
        exact ih (j + 1) (by omega) (by omega)
      have stay : nameB s[n + j] = false → (((j : Nat) : Int)) = ((j + run nameB s (n + j) : Nat) : Int) := by
        intro hp
        rw [run_no nameB s (n + j) h hp]
        rfl
      refine Ev.bind (Ev.now _) ?_
      by_cases h1 : (((97 : UInt8) ≤ s[n + j] && s[n + j] ≤ 122) || ((65 : UInt8) ≤ s[n + j] && s[n + j] ≤ 90)) = true
      · exact ev_if_pos h1 (go (by unfold nameB; rw [h1]; rfl))
      · refine ev_if_neg h1 ?_
        rw [digit_b]
        refine Ev.bind (Ev.now _) ?_
        by_cases h2 : ((48 : UInt8) ≤ s[n + j] && s[n + j] ≤ 57) = true
        · exact ev_if_pos h2 (go (by unfold nameB; rw [h2]; simp))
        · refine ev_if_neg h2 ?_
          by_cases h3 : s[n + j] = 45
          · exact ev_if_pos ((byte_eq (s[n + j]) 45).2 h3) (go (by unfold nameB; rw [h3]; rfl))
          · refine ev_if_neg (fun e => h3 ((byte_eq (s[n + j]) 45).1 e)) ?_
            by_cases h4 : s[n + j] = 95
            · exact ev_if_pos ((byte_eq (s[n + j]) 95).2 h4) (go (by unfold nameB; rw [h4]; rfl))
            · refine ev_if_neg (fun e => h4 ((byte_eq (s[n + j]) 95).1 e)) ?_
              rw [← stay (by
                unfold nameB
                rw [eq_false_of_ne_true h1, eq_false_of_ne_true h2]
                simp [h3, h4])]
              exact Ev.now _
    · refine ev_if_neg (by omega) ?_
      rw [run_end nameB s (n + j) (by omega)]
      exact Ev.now _
end Go.Proofs.Ytaoameejkpipcaa.Q
