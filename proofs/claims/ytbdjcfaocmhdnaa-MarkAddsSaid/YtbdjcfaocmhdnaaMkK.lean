/- The laws' known of places: closed calls. No condition. -/
import Derived.Test.YtbdjcfaocmhdnaaMkC
namespace Go.Proofs.Ytbdjcfaocmhdnaa.Q
open Go Go.RowKit Go.Proofs Go.Proofs.Ytbdjcfaocmhdnaa.Fl Go.Proofs.YtbdjcfaocmhdnaaW.PrintWords Go.Proofs.YtbdjcfaocmhdnaaW.PrintLast Go.Proofs.YtbdjcfaocmhdnaaW.PrintMore
set_option linter.unusedVariables false
set_option linter.unusedSimpArgs false
theorem known_c0 (w : World) : Calls Try.prog 10 #[.int .i64 12, .string ⟨#[97, 98]⟩] w fun e w' => e = .returned (.complex .f64 0 4611686018427387904) ∧ Drawn0 w w' := by
  have h := Way_says 12 ⟨#[97, 98]⟩ (by decide) w
  have e1 : D ((way 12 ⟨#[97, 98]⟩).1 : Int) = 0 := by decide +kernel
  have e2 : D ((way 12 ⟨#[97, 98]⟩).2 : Int) = 4611686018427387904 := by decide +kernel
  rw [e1, e2] at h
  exact h
theorem known_c1 (w : World) : Calls Try.prog 10 #[.int .i64 12, .string ⟨#[97, 10, 98, 99]⟩] w fun e w' => e = .returned (.complex .f64 4607182418800017408 4611686018427387904) ∧ Drawn0 w w' := by
  have h := Way_says 12 ⟨#[97, 10, 98, 99]⟩ (by decide) w
  have e1 : D ((way 12 ⟨#[97, 10, 98, 99]⟩).1 : Int) = 4607182418800017408 := by decide +kernel
  have e2 : D ((way 12 ⟨#[97, 10, 98, 99]⟩).2 : Int) = 4611686018427387904 := by decide +kernel
  rw [e1, e2] at h
  exact h
theorem known_c2 (w : World) : Calls Try.prog 14 #[.int .i64 11, .complex .f64 4613937818241073152 4616189618054758400, .string ⟨#[120, 194, 133, 121]⟩] w fun e w' => e = .returned (.complex .f64 4616189618054758400 4607182418800017408) ∧ Drawn0 w w' := by
  have h := Go_says 11 3 4 ⟨#[120, 194, 133, 121]⟩ (by decide) (by decide) (by decide) w
  have e1 : D ((goZ (3, 4) (way 11 ⟨#[120, 194, 133, 121]⟩)).1 : Int) = 4616189618054758400 := by decide +kernel
  have e2 : D ((goZ (3, 4) (way 11 ⟨#[120, 194, 133, 121]⟩)).2 : Int) = 4607182418800017408 := by decide +kernel
  rw [e1, e2] at h
  have e3 : D 3 = 4613937818241073152 := by decide +kernel
  have e4 : D 4 = 4616189618054758400 := by decide +kernel
  rw [e3, e4] at h
  exact h
theorem known_c3 (w : World) : Calls Try.prog 14 #[.int .i64 12, .complex .f64 4613937818241073152 4616189618054758400, .string ⟨#[195, 169]⟩] w fun e w' => e = .returned (.complex .f64 4613937818241073152 4617315517961601024) ∧ Drawn0 w w' := by
  have h := Go_says 12 3 4 ⟨#[195, 169]⟩ (by decide) (by decide) (by decide) w
  have e1 : D ((goZ (3, 4) (way 12 ⟨#[195, 169]⟩)).1 : Int) = 4613937818241073152 := by decide +kernel
  have e2 : D ((goZ (3, 4) (way 12 ⟨#[195, 169]⟩)).2 : Int) = 4617315517961601024 := by decide +kernel
  rw [e1, e2] at h
  have e3 : D 3 = 4613937818241073152 := by decide +kernel
  have e4 : D 4 = 4616189618054758400 := by decide +kernel
  rw [e3, e4] at h
  exact h
theorem known_c4 (w : World) : Calls Try.prog 15 #[.int .i64 12, .string ⟨#[97, 98]⟩, .complex .f64 0 4617315517961601024] w fun e w' => e = .returned (.int .i64 (-1)) ∧ Drawn0 w w' := by
  have h := Off_says 12 0 5 ⟨#[97, 98]⟩ (by decide) (by decide) (by decide) w
  have e1 : offR 12 ⟨#[97, 98]⟩ (0, 5) = -1 := by decide +kernel
  have e3 : D 0 = 0 := D0
  have e4 : D 5 = 4617315517961601024 := by decide +kernel
  rw [e1, e3, e4] at h
  exact h
theorem known_c5 (w : World) : Calls Try.prog 17 #[.complex .f64 4607182418800017408 4621256167635550208, .complex .f64 4611686018427387904 0] w fun e w' => e = .returned (.bool true) ∧ Drawn0 w w' := by
  have h := Less_says 1 9 2 0 (by unfold small; decide) (by unfold small; decide) (by unfold small; decide) (by unfold small; decide) w
  have e0 : D 1 = 4607182418800017408 := by decide +kernel
  have e1 : D 9 = 4621256167635550208 := by decide +kernel
  have e2 : D 2 = 4611686018427387904 := by decide +kernel
  have e3 : D 0 = 0 := by decide +kernel
  rw [e0, e1, e2, e3] at h
  exact h
theorem known_c6 (w : World) : Calls Try.prog 17 #[.complex .f64 4607182418800017408 4611686018427387904, .complex .f64 4607182418800017408 4611686018427387904] w fun e w' => e = .returned (.bool false) ∧ Drawn0 w w' := by
  have h := Less_says 1 2 1 2 (by unfold small; decide) (by unfold small; decide) (by unfold small; decide) (by unfold small; decide) w
  have e0 : D 1 = 4607182418800017408 := by decide +kernel
  have e1 : D 2 = 4611686018427387904 := by decide +kernel
  rw [e0, e1] at h
  exact h
set_option maxHeartbeats 8000000 in
set_option maxRecDepth 100000 in
theorem known_says (w : World) : Calls Try.prog 8 #[] w fun e w' => e = .returned (.bool true) ∧ Drawn0 w w' := by
  have hd := Drawn0.refl w
  have k0 : (FloatKind.f64.format.order 0 0 == some .eq) = true := by decide +kernel
  have k1 : (FloatKind.f64.format.order 4607182418800017408 4607182418800017408 == some .eq) = true := by decide +kernel
  have k2 : (FloatKind.f64.format.order 4611686018427387904 4611686018427387904 == some .eq) = true := by decide +kernel
  have k3 : (FloatKind.f64.format.order 4613937818241073152 4613937818241073152 == some .eq) = true := by decide +kernel
  have k4 : (FloatKind.f64.format.order 4616189618054758400 4616189618054758400 == some .eq) = true := by decide +kernel
  have k5 : (FloatKind.f64.format.order 4617315517961601024 4617315517961601024 == some .eq) = true := by decide +kernel
  go_enter Try.func8, Try.ntmps8
  go_wp2_with (first | ((with_reducible refine (known_c0 _).mono ?_); rintro e w' ⟨rfl, hdb⟩; replace hd := drawn_trans hd hdb; clear hdb) | ((with_reducible refine (known_c1 _).mono ?_); rintro e w' ⟨rfl, hdb⟩; replace hd := drawn_trans hd hdb; clear hdb) | ((with_reducible refine (known_c2 _).mono ?_); rintro e w' ⟨rfl, hdb⟩; replace hd := drawn_trans hd hdb; clear hdb) | ((with_reducible refine (known_c3 _).mono ?_); rintro e w' ⟨rfl, hdb⟩; replace hd := drawn_trans hd hdb; clear hdb) | ((with_reducible refine (known_c4 _).mono ?_); rintro e w' ⟨rfl, hdb⟩; replace hd := drawn_trans hd hdb; clear hdb) | ((with_reducible refine (known_c5 _).mono ?_); rintro e w' ⟨rfl, hdb⟩; replace hd := drawn_trans hd hdb; clear hdb) | ((with_reducible refine (known_c6 _).mono ?_); rintro e w' ⟨rfl, hdb⟩; replace hd := drawn_trans hd hdb; clear hdb))
  go_ret
  exact ⟨rfl, hd⟩
end Go.Proofs.Ytbdjcfaocmhdnaa.Q
