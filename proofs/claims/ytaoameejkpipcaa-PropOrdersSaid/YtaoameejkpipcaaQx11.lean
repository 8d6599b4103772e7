-- Written by hookprint.py (a program of this project, over the kit's printer). Not trusted: Lean checks it.
import Derived.Test.YtaoameejkpipcaaQx0
import Derived.Test.YtaoameejkpipcaaQx8
import Derived.Test.YtaoameejkpipcaaQx9
namespace Go.Proofs.Ytaoameejkpipcaa.Q
open Go.RowKit Go.Proofs.YtaoameejkpipcaaW.PrintWords Go.Proofs.YtaoameejkpipcaaW.PrintLast Go.Proofs.YtaoameejkpipcaaW.PrintMore
attribute [local go_sem] max2_int min2_int max_two min_two max_three min_three max_four min_four   -- for this text's walks alone
set_option linter.unusedVariables false
set_option linter.unusedSimpArgs false

/-! ### targumref17_Alias: function 16 -/
def targumref17_Alias.f (k : Nat) (a0 : Int) (a1 : ByteArray) (a2 : Int) (a3 : Bool) : Option (ByteArray × Int × Bool) :=
  if a1.size ≤ 140737488351232 then
    if 0 ≤ a2 ∧ a2 < (a1.size : Int) ∧ bt a1 a2 = 42 then
      (targumref17_name.f k a1 (a2 + 1)).bind fun n =>
        if n = 0 then some (⟨#[]⟩, 0, false)
        else if 0 ≤ n ∧ a2 + 1 + n ≤ (a1.size : Int) then
          (targumref17_Stop.f k a0 a1 (a2 + 1 + n) a3).bind fun st =>
            if st = true then some (a1.extract (a2 + 1).toNat (a2 + 1 + n).toNat, a2 + 1 + n, true)
            else if a2 + 1 + n < (a1.size : Int) then
              (if bt a1 (a2 + 1 + n) = 58 then some (a1.extract (a2 + 1).toNat (a2 + 1 + n).toNat, a2 + 1 + n, true) else some (⟨#[]⟩, 0, false))
            else none
        else none
    else some (⟨#[]⟩, 0, false)
  else none
theorem targumref17_Alias.mono : ∀ a0 a1 a2 a3 k, LeO (targumref17_Alias.f k a0 a1 a2 a3) (targumref17_Alias.f (k + 1) a0 a1 a2 a3) := by
  intro a0 a1 a2 a3 k
  unfold targumref17_Alias.f
  exact LeO.ite (LeO.ite (LeO.bind (targumref17_name.mono _ _ _) fun n => LeO.ite (LeO.refl _) (LeO.ite (LeO.bind (targumref17_Stop.mono _ _ _ _ _) fun st => LeO.refl _) (LeO.refl _))) (LeO.refl _)) (LeO.refl _)
theorem targumref17_Alias.no (a0 : Int) (a1 : ByteArray) (a2 : Int) (a3 : Bool) (w : World) (hs : a1.size ≤ 140737488351232) (h : ¬ (0 ≤ a2 ∧ a2 < (a1.size : Int) ∧ bt a1 a2 = 42)) :
    Calls Try.prog 16 #[.int .i64 a0, .string a1, .int .i64 a2, .bool a3] w fun e w' => e = .returned (.tuple #[.string ⟨#[]⟩, .int .i64 0, .bool false]) ∧ Drawn0 w w' := by
  by_cases h1 : a2 < 0
  · clear h
    go_enter Try.func16, Try.ntmps16
    go_wp2
    go_ret3
    exact ⟨rfl, Drawn0.refl _⟩
  · obtain ⟨n, rfl⟩ : ∃ n : Nat, a2 = n := ⟨a2.toNat, by omega⟩
    clear h1
    by_cases h2 : n < a1.size
    · have h3 : (((a1[n]).toNat : Int) != 42) = true := by
        rw [bne_iff_ne]; intro e; exact h ⟨by omega, by omega, by simp [bt, h2, e]⟩
      have hd : decide (a1.size ≤ n) = false := decide_eq_false (by omega)
      clear h
      go_enter Try.func16, Try.ntmps16
      go_wp2
      go_ret3
      exact ⟨rfl, Drawn0.refl _⟩
    · have hd : decide (a1.size ≤ n) = true := decide_eq_true (by omega)
      clear h h2
      go_enter Try.func16, Try.ntmps16
      go_wp2
      go_ret3
      exact ⟨rfl, Drawn0.refl _⟩
set_option maxHeartbeats 4000000 in
theorem targumref17_Alias.calls (k : Nat) (a0 : Int) (a1 : ByteArray) (a2 : Int) (a3 : Bool) (r1 : ByteArray) (r2 : Int) (r3 : Bool) (w : World) (h : targumref17_Alias.f k a0 a1 a2 a3 = some (r1, r2, r3)) :
    Calls Try.prog 16 #[.int .i64 a0, .string a1, .int .i64 a2, .bool a3] w fun e w' => e = .returned (.tuple #[.string r1, .int .i64 r2, .bool r3]) ∧ Drawn0 w w' := by
  unfold targumref17_Alias.f at h
  split at h
  case isFalse => cases h
  rename_i hs
  by_cases hc : 0 ≤ a2 ∧ a2 < (a1.size : Int) ∧ bt a1 a2 = 42
  · rw [if_pos hc] at h
    obtain ⟨h0, h1, h42⟩ := hc
    obtain ⟨n, rfl⟩ : ∃ n : Nat, a2 = n := ⟨a2.toNat, by omega⟩
    have hn : n < a1.size := by omega
    have f42 : (((a1[n]).toNat : Int) != 42) = false := by
      rw [bne_eq_false_iff_eq]; rw [← h42]; simp [bt, hn]
    have hd : decide (a1.size ≤ n) = false := decide_eq_false (by omega)
    clear h42 h0 h1
    cases hq : targumref17_name.f k a1 ((n : Int) + 1) with
    | none => rw [hq] at h; cases h
    | some m =>
    rw [hq, Option.bind_some] at h
    have cN : ∀ w, Calls Try.prog 27 #[.string a1, .int .i64 ((n : Int) + 1)] w fun e' w' => e' = .returned (.int .i64 m) ∧ Drawn0 w w' := fun w => targumref17_name.calls k a1 ((n : Int) + 1) m w hq
    clear hq
    by_cases hm : m = 0
    · rw [if_pos hm] at h
      simp only [Option.some.injEq, Prod.mk.injEq] at h
      obtain ⟨rfl, rfl, rfl⟩ := h
      subst hm
      go_enter Try.func16, Try.ntmps16
      go_wp2_with ((with_reducible refine (cN _).mono ?_); rintro e w' ⟨rfl, ⟨n1, rfl⟩⟩)
      go_ret3
      exact ⟨rfl, ⟨n1, rfl⟩⟩
    · rw [if_neg hm] at h
      by_cases hb : 0 ≤ m ∧ (n : Int) + 1 + m ≤ (a1.size : Int)
      · rw [if_pos hb] at h
        obtain ⟨hb0, hb1⟩ := hb
        obtain ⟨m, rfl⟩ : ∃ m' : Nat, m = m' := ⟨m.toNat, by omega⟩
        have fm : (((m : Int)) == 0) = false := by rw [beq_eq_false_iff_ne]; exact hm
        obtain ⟨e, he⟩ : ∃ e : Nat, (n : Int) + 1 + m = e := ⟨n + 1 + m, by omega⟩
        have hen : n + 1 ≤ e ∧ e ≤ a1.size := by omega
        obtain ⟨hen1, hen2⟩ := hen
        have g3 : ((n : Int) + 1).toNat = n + 1 := by omega
        have g5 : (0 : Int) ≤ (n : Int) + 1 := by omega
        have g6 : (n : Int) + 1 ≤ e := by omega
        have g7 : (e : Int) ≤ a1.size := by omega
        have hsl : ∀ w, (Instr.slice 9 (.string a1) (some (.int .i64 ((n : Int) + 1))) (some (.int .i64 e)) none).run Try.prog w = .ok (.string (a1.extract (n + 1) e)) w := fun w => by
          simp [Instr.slice, Instr.sliceBounds, Instr.sliceBound, run_underlying Try.underlying9, asIntOf, g3, g5, g6, g7, hen2]
        rw [he, g3, Int.toNat_natCast] at h
        clear hm hb0 hb1
        cases hst : targumref17_Stop.f k a0 a1 e a3 with
        | none => rw [hst] at h; cases h
        | some st =>
        rw [hst, Option.bind_some] at h
        have cS : ∀ w, Calls Try.prog 28 #[.int .i64 a0, .string a1, .int .i64 e, .bool a3] w fun e w' => e = .returned (.bool st) ∧ Drawn0 w w' := fun w => targumref17_Stop.calls k a0 a1 e a3 st w hst
        clear hst
        cases st
        · rw [if_neg (by decide)] at h
          by_cases hlt : (e : Int) < a1.size
          · rw [if_pos hlt] at h
            have hlt' : e < a1.size := by omega
            by_cases h58 : bt a1 e = 58
            · rw [if_pos h58] at h
              simp only [Option.some.injEq, Prod.mk.injEq] at h
              obtain ⟨rfl, rfl, rfl⟩ := h
              have f58 : (((a1[e]).toNat : Int) != 58) = false := by
                rw [bne_eq_false_iff_eq, ← h58]; simp [bt, hlt']
              clear h58 hlt
              go_enter Try.func16, Try.ntmps16
              go_wp2_with (first | ((with_reducible refine (cN _).mono ?_); rintro e w' ⟨rfl, ⟨n1, rfl⟩⟩) | ((with_reducible refine (cS _).mono ?_); rintro e w' ⟨rfl, ⟨n2, rfl⟩⟩))
              go_ret3
              exact ⟨rfl, by repeat (first | exact Drawn0.refl _ | apply Drawn0.step)⟩
            · rw [if_neg h58] at h
              simp only [Option.some.injEq, Prod.mk.injEq] at h
              obtain ⟨rfl, rfl, rfl⟩ := h
              have f58 : (((a1[e]).toNat : Int) != 58) = true := by
                rw [bne_iff_ne]; intro e1; exact h58 (by simp [bt, hlt', e1])
              clear h58 hlt
              go_enter Try.func16, Try.ntmps16
              go_wp2_with (first | ((with_reducible refine (cN _).mono ?_); rintro e w' ⟨rfl, ⟨n1, rfl⟩⟩) | ((with_reducible refine (cS _).mono ?_); rintro e w' ⟨rfl, ⟨n2, rfl⟩⟩))
              go_ret3
              exact ⟨rfl, by repeat (first | exact Drawn0.refl _ | apply Drawn0.step)⟩
          · rw [if_neg hlt] at h; cases h
        · rw [if_pos rfl] at h
          simp only [Option.some.injEq, Prod.mk.injEq] at h
          obtain ⟨rfl, rfl, rfl⟩ := h
          go_enter Try.func16, Try.ntmps16
          go_wp2_with (first | ((with_reducible refine (cN _).mono ?_); rintro e w' ⟨rfl, ⟨n1, rfl⟩⟩) | ((with_reducible refine (cS _).mono ?_); rintro e w' ⟨rfl, ⟨n2, rfl⟩⟩))
          go_ret3
          exact ⟨rfl, by repeat (first | exact Drawn0.refl _ | apply Drawn0.step)⟩
      · rw [if_neg hb] at h; cases h
  · rw [if_neg hc] at h
    simp only [Option.some.injEq, Prod.mk.injEq] at h
    obtain ⟨rfl, rfl, rfl⟩ := h
    exact targumref17_Alias.no a0 a1 a2 a3 w hs hc


-- NOT PRINTED: function 3 (targumlaw21_PropTells)

end Go.Proofs.Ytaoameejkpipcaa.Q
