/- Package tagname's row, at a function value. No condition. -/
import Derived.Test.YtaoameejkpipcaaShelf
import Derived.WalkKit
import Derived.LoopTactic
import Derived.Outline
import Derived.Below
import Derived.Deep.LoopGhost
import Derived.Lib.Hide
namespace Go.Proofs.Ytaoameejkpipcaa
open Go.RowKit
set_option linter.unusedVariables false
set_option linter.unusedSimpArgs false

/-! ### row, at a function value -/
def rowN (p : UInt8 → Bool) : List UInt8 → Nat
  | [] => 0
  | c :: l => if p c then rowN p l + 1 else 0

theorem row_any (F : Nat) (hF : ∀ args w, (callFunc F args).run Try.prog w = .ok (.enter F args) w) (p : UInt8 → Bool) (hp : ∀ (c : UInt8) w, Calls Try.prog F #[.int .u8 c.toNat] w fun e w' => e = .returned (.bool (p c)) ∧ ∃ n, w' = w.drewN n) (s : ByteArray) (hs : s.size ≤ 9223372036854775807) (w : World) :
   Calls Try.prog 33 #[.string s, .func (.func F) #[] #[]] w fun e w' => e = .returned (.int .i64 (rowN p s.data.toList)) ∧ ∃ n, w' = w.drewN n := by
  go_enter Try.func33, Try.ntmps33
  go_wp2
  go_loopw [5] (fun i wr => ∃ k : Nat, k ≤ s.size ∧ i = .int .i64 k ∧ rowN p s.data.toList = k + rowN p (s.data.toList.drop k) ∧ ∃ n, wr = w.drewN n) (fun i _ => s.size - (intOf i).toNat)
  case atStart => exact ⟨0, Nat.zero_le _, rfl, by simp, 0, rfl⟩
  case round =>
    obtain ⟨k, hk, rfl, H0, n, rfl⟩ := hrel
    have H := Lib.hid H0; clear H0
    by_cases hlt : k < s.size
    · have hd : s.data.toList.drop k = s[k] :: s.data.toList.drop (k + 1) := by
        rw [List.drop_eq_getElem_cons (by simpa using hlt)]; rfl
      by_cases hpk : p s[k] = true
      · have hp1 : ∀ w, Calls Try.prog F #[.int .u8 s[k].toNat] w fun e w' => e = .returned (.bool true) ∧ ∃ n, w' = w.drewN n := fun w => by have := hp s[k] w; rw [hpk] at this; exact this
        clear hp
        have H2 := Lib.hid hpk; clear hpk
        have H3 := Lib.hid hd; clear hd
        go_wp2_with (refine (hp1 _).mono ?_; rintro e w' ⟨rfl, n2, rfl⟩)
        go_roundw
        case rel => exact ⟨k + 1, by omega, by go_num, by rw [H.out, H3.out, rowN, if_pos H2.out]; omega, n + n2, rfl⟩
        case measure => simp [intOf]; omega
      · have hp1 : ∀ w, Calls Try.prog F #[.int .u8 s[k].toNat] w fun e w' => e = .returned (.bool false) ∧ ∃ n, w' = w.drewN n := fun w => by have := hp s[k] w; rw [eq_false_of_ne_true hpk] at this; exact this
        clear hp
        have H2 := Lib.hid hpk; clear hpk
        have H3 := Lib.hid hd; clear hd
        go_wp2_with (refine (hp1 _).mono ?_; rintro e w' ⟨rfl, n2, rfl⟩)
        go_ret
        exact ⟨by rw [H.out, H3.out, rowN, if_neg H2.out]; simp, n + n2, rfl⟩
    · have hd : s.data.toList.drop k = [] := by simp; omega
      have H3 := Lib.hid hd; clear hd
      go_wp2
      go_ret
      exact ⟨by rw [H.out, H3.out, rowN]; simp, n, rfl⟩
end Go.Proofs.Ytaoameejkpipcaa
