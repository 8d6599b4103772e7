/- What may stand in a text: brk.May, brk.Check. Conditions: sizes. -/
import Derived.Test.YthllhoodbfnlaaaDoorSq1
import Derived.Test.YthllhoodbfnlaaaDoorMiniY
import Derived.Test.YthllhoodbfnlaaaDoorShelf
namespace Go.Mini
open Go Go.RowKit Go.Proofs
set_option maxRecDepth 100000
set_option linter.unusedVariables false
set_option linter.unusedSimpArgs false

def unicode_utf8_DecodeRuneInString.n : Nat := 88
def unicode_utf8_DecodeRuneInString.s : List Value → Heap → VK → Prop
  | [.string s], h, K => K (.tuple #[.int .i32 (Lib.decodeGo s).1, .int .i64 (Lib.decodeGo s).2]) h
  | _, _, _ => False
theorem unicode_utf8_DecodeRuneInString.sm : SpecMono unicode_utf8_DecodeRuneInString.s := by
  intro vs h K K' hk hh; unfold unicode_utf8_DecodeRuneInString.s at hh ⊢; split at hh
  · exact hk _ _ hh
  · exact hh.elim
theorem unicode_utf8_DecodeRuneInString.sc : ∀ vs h K, unicode_utf8_DecodeRuneInString.s vs h K → ACalls Tryd.prog unicode_utf8_DecodeRuneInString.n vs h K := by
  intro vs h K hh; unfold unicode_utf8_DecodeRuneInString.s at hh; split at hh
  · rename_i s
    exact acalls_gl ⟨_, Tryd.func88, rfl, rfl⟩ rfl rfl (fun w hg => Tryd.utf8_DecodeRuneInString s w (hg.1 0 1 _ _ rfl rfl rfl rfl)) hh
  · exact hh.elim
theorem unicode_utf8_DecodeRuneInString.sd : SpecDet unicode_utf8_DecodeRuneInString.s := by
  intro vs h K hh; unfold unicode_utf8_DecodeRuneInString.s at hh; split at hh
  · exact ⟨_, hh, rfl⟩
  · exact hh.elim
def SU : CT := (extC HE unicode_utf8_DecodeRuneInString.n unicode_utf8_DecodeRuneInString.s)
theorem SU_ok : COk Tryd.prog SU := (extC_ok HE_ok unicode_utf8_DecodeRuneInString.sc unicode_utf8_DecodeRuneInString.sd)
theorem SU_mono : CMono SU := (extC_mono HE_mono unicode_utf8_DecodeRuneInString.sm)
def mayR (r : Int) : Bool := if r = 9 ∨ r = 10 ∨ r = 13 ∨ r = 133 then true else if r < 32 ∨ (126 < r ∧ r < 160) ∨ r = 65279 ∨ (65533 < r ∧ r < 65536) then false else true
def brk_may.s : List Value → Heap → VK → Prop
  | [.int .i32 r], h, K => K (.bool (mayR r)) h
  | _, _, _ => False
theorem brk_may.t (r : Int) (h : Heap) (K : VK) : mwp SU (lt0) brk_may.m (retK [.t 2] K) (argE 0 [.int .i32 r]) h = (br (decide (r = (9 : Int))) (br (decide (r = (9 : Int))) (K (Value.bool true) h) (br (decide (r < (32 : Int))) (br (decide (r < (32 : Int))) (K (Value.bool false) h) (K (Value.bool true) h)) (br (decide ((126 : Int) < r)) (br (decide (r < (160 : Int))) (br (decide (r < (160 : Int))) (K (Value.bool false) h) (K (Value.bool true) h)) (br (decide (r = (65279 : Int))) (br (decide (r = (65279 : Int))) (K (Value.bool false) h) (K (Value.bool true) h)) (br (decide ((65533 : Int) < r)) (br (decide (r < (65536 : Int))) (K (Value.bool false) h) (K (Value.bool true) h)) (K (Value.bool true) h)))) (br (decide (r = (65279 : Int))) (br (decide (r = (65279 : Int))) (K (Value.bool false) h) (K (Value.bool true) h)) (br (decide ((65533 : Int) < r)) (br (decide (r < (65536 : Int))) (K (Value.bool false) h) (K (Value.bool true) h)) (K (Value.bool true) h)))))) (br (decide (r = (10 : Int))) (br (decide (r = (10 : Int))) (K (Value.bool true) h) (br (decide (r < (32 : Int))) (br (decide (r < (32 : Int))) (K (Value.bool false) h) (K (Value.bool true) h)) (br (decide ((126 : Int) < r)) (br (decide (r < (160 : Int))) (br (decide (r < (160 : Int))) (K (Value.bool false) h) (K (Value.bool true) h)) (br (decide (r = (65279 : Int))) (br (decide (r = (65279 : Int))) (K (Value.bool false) h) (K (Value.bool true) h)) (br (decide ((65533 : Int) < r)) (br (decide (r < (65536 : Int))) (K (Value.bool false) h) (K (Value.bool true) h)) (K (Value.bool true) h)))) (br (decide (r = (65279 : Int))) (br (decide (r = (65279 : Int))) (K (Value.bool false) h) (K (Value.bool true) h)) (br (decide ((65533 : Int) < r)) (br (decide (r < (65536 : Int))) (K (Value.bool false) h) (K (Value.bool true) h)) (K (Value.bool true) h)))))) (br (decide (r = (13 : Int))) (br (decide (r = (13 : Int))) (K (Value.bool true) h) (br (decide (r < (32 : Int))) (br (decide (r < (32 : Int))) (K (Value.bool false) h) (K (Value.bool true) h)) (br (decide ((126 : Int) < r)) (br (decide (r < (160 : Int))) (br (decide (r < (160 : Int))) (K (Value.bool false) h) (K (Value.bool true) h)) (br (decide (r = (65279 : Int))) (br (decide (r = (65279 : Int))) (K (Value.bool false) h) (K (Value.bool true) h)) (br (decide ((65533 : Int) < r)) (br (decide (r < (65536 : Int))) (K (Value.bool false) h) (K (Value.bool true) h)) (K (Value.bool true) h)))) (br (decide (r = (65279 : Int))) (br (decide (r = (65279 : Int))) (K (Value.bool false) h) (K (Value.bool true) h)) (br (decide ((65533 : Int) < r)) (br (decide (r < (65536 : Int))) (K (Value.bool false) h) (K (Value.bool true) h)) (K (Value.bool true) h)))))) (br (decide (r = (133 : Int))) (K (Value.bool true) h) (br (decide (r < (32 : Int))) (br (decide (r < (32 : Int))) (K (Value.bool false) h) (K (Value.bool true) h)) (br (decide ((126 : Int) < r)) (br (decide (r < (160 : Int))) (br (decide (r < (160 : Int))) (K (Value.bool false) h) (K (Value.bool true) h)) (br (decide (r = (65279 : Int))) (br (decide (r = (65279 : Int))) (K (Value.bool false) h) (K (Value.bool true) h)) (br (decide ((65533 : Int) < r)) (br (decide (r < (65536 : Int))) (K (Value.bool false) h) (K (Value.bool true) h)) (K (Value.bool true) h)))) (br (decide (r = (65279 : Int))) (br (decide (r = (65279 : Int))) (K (Value.bool false) h) (K (Value.bool true) h)) (br (decide ((65533 : Int) < r)) (br (decide (r < (65536 : Int))) (K (Value.bool false) h) (K (Value.bool true) h)) (K (Value.bool true) h))))))))) := by kernel_rfl
theorem brk_may.c (r : Int) (h : Heap) (K : VK) (hh : K (.bool (mayR r)) h) : ACalls Tryd.prog brk_may.n [.int .i32 r] h K := by
  refine acalls_mk SU_ok brk_may.ok (LS := lt0) (by simp only [brk_may.m, LOk, and_true, true_and]) (Nat.le_of_ble_eq_true rfl) (Eq.mpr (brk_may.t r h K) ?_)
  have f1 : mayR r = true → K (.bool true) h := fun e => by rw [e] at hh; exact hh
  have f0 : mayR r = false → K (.bool false) h := fun e => by rw [e] at hh; exact hh
  clear hh
  unfold mayR at f1 f0
  repeat' (with_reducible refine br_intro (fun hb => ?_) (fun hb => ?_))
  all_goals simp only [decide_eq_true_eq, decide_eq_false_iff_not] at *
  all_goals first
    | (refine f1 ?_; (repeat' split) <;> first | rfl | (exfalso; omega))
    | (refine f0 ?_; (repeat' split) <;> first | rfl | (exfalso; omega))
theorem brk_may.sc : ∀ vs h K, brk_may.s vs h K → ACalls Tryd.prog brk_may.n vs h K := by
  intro vs h K hh; unfold brk_may.s at hh; split at hh
  · exact brk_may.c _ _ _ hh
  · exact hh.elim
theorem brk_may.sm : SpecMono brk_may.s := by
  intro vs h K K' hk hh; unfold brk_may.s at hh ⊢; split at hh
  · exact hk _ _ hh
  · exact hh.elim
theorem brk_may.sd : SpecDet brk_may.s := by
  intro vs h K hh; unfold brk_may.s at hh; split at hh
  · exact ⟨_, hh, rfl⟩
  · exact hh.elim

theorem g0 (l : List UInt8) (k : Nat) : (ByteArray.mk l.toArray).get! k = l.getD k 0 := by
  simp [ByteArray.get!, List.getD_eq_getElem?_getD]
  rfl
theorem decG (l : List UInt8) (_ : l ≠ []) : Utf8.decode ⟨l.toArray⟩ 0 = (let b := fun k => (l.getD k 0).toNat
  let cont := fun k => decide (k < l.length) && (b k / 64 == 2)
  if b 0 < 128 then (b 0, 1)
  else if (b 0 / 32 == 6 && cont 1) = true then (if (b 0 % 32) * 64 + b 1 % 64 ≥ 128 then ((b 0 % 32) * 64 + b 1 % 64, 2) else (65533, 1))
  else if (b 0 / 16 == 14 && cont 1 && cont 2) = true then (let c := (b 0 % 16) * 4096 + (b 1 % 64) * 64 + b 2 % 64; if (decide (c ≥ 2048) && Utf8.valid c) = true then (c, 3) else (65533, 1))
  else if (b 0 / 8 == 30 && cont 1 && cont 2 && cont 3) = true then (let c := (b 0 % 8) * 262144 + (b 1 % 64) * 4096 + (b 2 % 64) * 64 + b 3 % 64; if (decide (c ≥ 65536) && Utf8.valid c) = true then (c, 4) else (65533, 1))
  else (65533, 1)) := by
  unfold Utf8.decode
  simp only [g0, Nat.zero_add, ByteArray.size, List.size_toArray]
  rfl
theorem valid_iff (c : Nat) : Utf8.valid (c : Int) = scalarN c := by
  unfold Utf8.valid scalarN
  rw [Bool.eq_iff_iff]
  simp only [Bool.or_eq_true, Bool.and_eq_true, decide_eq_true_eq]
  omega
theorem d32 (x : Nat) : x / 32 = 6 ↔ 192 ≤ x ∧ x < 224 := by omega
theorem d16 (x : Nat) : x / 16 = 14 ↔ 224 ≤ x ∧ x < 240 := by omega
theorem d8 (x : Nat) : x / 8 = 30 ↔ 240 ≤ x ∧ x < 248 := by omega
theorem d64 (x : Nat) : x / 64 = 2 ↔ 128 ≤ x ∧ x < 192 := by omega
set_option maxHeartbeats 4000000 in
/-- What Go's decoder tells, by the reference's. -/
theorem dec_eq (s : ByteArray) : Lib.decodeGo s = if (decL (lst s)).2 = 0 then (65533, if s.size = 0 then 0 else 1) else decL (lst s) := by
  obtain ⟨⟨l⟩⟩ := s
  show Lib.decodeGo ⟨l.toArray⟩ = if (decL l).2 = 0 then (65533, if l.length = 0 then 0 else 1) else decL l
  cases l with
  | nil => rfl
  | cons b0 t =>
    have e : Lib.decodeGo ⟨(b0 :: t).toArray⟩ = Utf8.decode ⟨(b0 :: t).toArray⟩ 0 := if_neg (by simp [ByteArray.size])
    rw [e, decG _ (by simp)]
    have k0 := b0.toNat_lt
    rcases t with _ | ⟨b1, _ | ⟨b2, _ | ⟨b3, t⟩⟩⟩
    all_goals
      simp only [List.getD_cons_zero, List.getD_cons_succ, List.getD_nil, List.length_cons, List.length_nil, decL, contL, finL, Bool.and_eq_true, beq_iff_eq, decide_eq_true_eq, ge_iff_le, valid_iff, scalarN, d32, d16, d8, d64]
    · have z : UInt8.toNat 0 = 0 := rfl
      by_cases c1 : b0.toNat < 128
      · simp [c1]
      · simp only [c1, if_false, z, Nat.lt_irrefl, false_and, and_false, Nat.not_lt_zero, Nat.reduceLeDiff, Nat.reduceLT, Nat.zero_add]
        repeat' split
        all_goals first | rfl | (exfalso; omega) | (simp_all; done)
    · have z : UInt8.toNat 0 = 0 := rfl
      have k1 := b1.toNat_lt
      by_cases c1 : b0.toNat < 128
      · simp [c1]
      · by_cases c2 : 192 ≤ b0.toNat ∧ b0.toNat < 224
        · by_cases c3 : 128 ≤ b1.toNat ∧ b1.toNat < 192
          · have e1 : (b0.toNat - 192) * 64 + (b1.toNat - 128) = b0.toNat % 32 * 64 + b1.toNat % 64 := by omega
            have q : b0.toNat % 32 * 64 + b1.toNat % 64 < 2048 := by omega
            rw [if_neg c1, if_neg c1, if_pos c2, if_pos c3, e1, if_pos ⟨c2, by omega, c3⟩]
            generalize b0.toNat % 32 * 64 + b1.toNat % 64 = c at *
            simp only
            repeat' split
            all_goals first | rfl | (exfalso; omega) | (simp_all; done) | (simp_all; omega)
          · rw [if_neg c1, if_neg c1, if_pos c2, if_neg c3, if_neg (fun h => c3 h.2.2), if_neg (fun h => by omega), if_neg (fun h => by omega)]
            rfl
        · rw [if_neg c1, if_neg c1, if_neg c2, if_neg (fun h => c2 h.1)]
          simp only [z, false_and, and_false, Nat.not_lt_zero, Nat.reduceLeDiff, Nat.reduceLT, Nat.zero_add, Nat.reduceAdd, if_false]
          repeat' split
          all_goals first | rfl | (exfalso; omega) | (simp_all; done)
    · have z : UInt8.toNat 0 = 0 := rfl
      have k1 := b1.toNat_lt
      have k2 := b2.toNat_lt
      by_cases c1 : b0.toNat < 128
      · simp [c1]
      · by_cases c2 : 192 ≤ b0.toNat ∧ b0.toNat < 224
        · by_cases c3 : 128 ≤ b1.toNat ∧ b1.toNat < 192
          · have e1 : (b0.toNat - 192) * 64 + (b1.toNat - 128) = b0.toNat % 32 * 64 + b1.toNat % 64 := by omega
            have q : b0.toNat % 32 * 64 + b1.toNat % 64 < 2048 := by omega
            rw [if_neg c1, if_neg c1, if_pos c2, if_pos c3, e1, if_pos ⟨c2, by omega, c3⟩]
            generalize b0.toNat % 32 * 64 + b1.toNat % 64 = c at *
            simp only
            repeat' split
            all_goals first | rfl | (exfalso; omega) | (simp_all; done) | (simp_all; omega)
          · rw [if_neg c1, if_neg c1, if_pos c2, if_neg c3, if_neg (fun h => c3 h.2.2), if_neg (fun h => by omega), if_neg (fun h => by omega)]
            rfl
        · by_cases c4 : 224 ≤ b0.toNat ∧ b0.toNat < 240
          · by_cases c3 : 128 ≤ b1.toNat ∧ b1.toNat < 192
            · by_cases c5 : 128 ≤ b2.toNat ∧ b2.toNat < 192
              · have e1 : ((b0.toNat - 224) * 64 + (b1.toNat - 128)) * 64 + (b2.toNat - 128) = b0.toNat % 16 * 4096 + b1.toNat % 64 * 64 + b2.toNat % 64 := by omega
                have q : b0.toNat % 16 * 4096 + b1.toNat % 64 * 64 + b2.toNat % 64 < 65536 := by omega
                rw [if_neg c1, if_neg c1, if_neg c2, if_pos c4, if_pos c3, if_pos c5, e1, if_neg (fun h => c2 h.1), if_pos ⟨⟨c4, by omega, c3⟩, by omega, c5⟩]
                generalize b0.toNat % 16 * 4096 + b1.toNat % 64 * 64 + b2.toNat % 64 = c at *
                simp only
                repeat' split
                all_goals first | rfl | (exfalso; omega) | (simp_all; done) | (simp_all; omega)
              · rw [if_neg c1, if_neg c1, if_neg c2, if_pos c4, if_pos c3, if_neg c5, if_neg (fun h => c2 h.1), if_neg (fun h => c5 h.2.2), if_neg (fun h => by omega)]
                rfl
            · rw [if_neg c1, if_neg c1, if_neg c2, if_pos c4, if_neg c3, if_neg (fun h => c2 h.1), if_neg (fun h => c3 h.1.2.2), if_neg (fun h => by omega)]
              rfl
          · rw [if_neg c1, if_neg c1, if_neg c2, if_neg c4, if_neg (fun h => c2 h.1), if_neg (fun h => c4 h.1.1), if_neg (fun h => by omega)]
            repeat' split
            all_goals first | rfl | (exfalso; omega) | (simp_all; done)
    · have k1 := b1.toNat_lt
      have k2 := b2.toNat_lt
      have k3 := b3.toNat_lt
      by_cases c1 : b0.toNat < 128
      · simp [c1]
      · by_cases c2 : 192 ≤ b0.toNat ∧ b0.toNat < 224
        · by_cases c3 : 128 ≤ b1.toNat ∧ b1.toNat < 192
          · have e1 : (b0.toNat - 192) * 64 + (b1.toNat - 128) = b0.toNat % 32 * 64 + b1.toNat % 64 := by omega
            have q : b0.toNat % 32 * 64 + b1.toNat % 64 < 2048 := by omega
            rw [if_neg c1, if_neg c1, if_pos c2, if_pos c3, e1, if_pos ⟨c2, by omega, c3⟩]
            generalize b0.toNat % 32 * 64 + b1.toNat % 64 = c at *
            simp only
            repeat' split
            all_goals first | rfl | (exfalso; omega) | (simp_all; done) | (simp_all; omega)
          · rw [if_neg c1, if_neg c1, if_pos c2, if_neg c3, if_neg (fun h => c3 h.2.2), if_neg (fun h => by omega), if_neg (fun h => by omega)]
            rfl
        · by_cases c4 : 224 ≤ b0.toNat ∧ b0.toNat < 240
          · by_cases c3 : 128 ≤ b1.toNat ∧ b1.toNat < 192
            · by_cases c5 : 128 ≤ b2.toNat ∧ b2.toNat < 192
              · have e1 : ((b0.toNat - 224) * 64 + (b1.toNat - 128)) * 64 + (b2.toNat - 128) = b0.toNat % 16 * 4096 + b1.toNat % 64 * 64 + b2.toNat % 64 := by omega
                have q : b0.toNat % 16 * 4096 + b1.toNat % 64 * 64 + b2.toNat % 64 < 65536 := by omega
                rw [if_neg c1, if_neg c1, if_neg c2, if_pos c4, if_pos c3, if_pos c5, e1, if_neg (fun h => c2 h.1), if_pos ⟨⟨c4, by omega, c3⟩, by omega, c5⟩]
                generalize b0.toNat % 16 * 4096 + b1.toNat % 64 * 64 + b2.toNat % 64 = c at *
                simp only
                repeat' split
                all_goals first | rfl | (exfalso; omega) | (simp_all; done) | (simp_all; omega)
              · rw [if_neg c1, if_neg c1, if_neg c2, if_pos c4, if_pos c3, if_neg c5, if_neg (fun h => c2 h.1), if_neg (fun h => c5 h.2.2), if_neg (fun h => by omega)]
                rfl
            · rw [if_neg c1, if_neg c1, if_neg c2, if_pos c4, if_neg c3, if_neg (fun h => c2 h.1), if_neg (fun h => c3 h.1.2.2), if_neg (fun h => by omega)]
              rfl
          · by_cases c6 : 240 ≤ b0.toNat ∧ b0.toNat < 248
            · by_cases c3 : (128 ≤ b1.toNat ∧ b1.toNat < 192) ∧ (128 ≤ b2.toNat ∧ b2.toNat < 192) ∧ (128 ≤ b3.toNat ∧ b3.toNat < 192)
              · have e1 : (((b0.toNat - 240) * 64 + (b1.toNat - 128)) * 64 + (b2.toNat - 128)) * 64 + (b3.toNat - 128) = b0.toNat % 8 * 262144 + b1.toNat % 64 * 4096 + b2.toNat % 64 * 64 + b3.toNat % 64 := by omega
                rw [if_neg c1, if_neg c1, if_neg c2, if_neg c4, if_pos c6, if_pos c3.1, if_pos c3.2.1, if_pos c3.2.2, e1, if_neg (fun h => c2 h.1), if_neg (fun h => c4 h.1.1), if_pos ⟨⟨⟨c6, by omega, c3.1⟩, by omega, c3.2.1⟩, by omega, c3.2.2⟩]
                generalize b0.toNat % 8 * 262144 + b1.toNat % 64 * 4096 + b2.toNat % 64 * 64 + b3.toNat % 64 = c at *
                simp only
                repeat' split
                all_goals first | rfl | (exfalso; omega) | (simp_all; done) | (simp_all; omega)
              · rw [if_neg c1, if_neg c1, if_neg c2, if_neg c4, if_pos c6, if_neg (fun h => c2 h.1), if_neg (fun h => c4 h.1.1), if_neg (fun h => c3 ⟨h.1.1.2.2, h.1.2.2, h.2.2⟩)]
                by_cases a1 : 128 ≤ b1.toNat ∧ b1.toNat < 192
                · rw [if_pos a1]
                  by_cases a2 : 128 ≤ b2.toNat ∧ b2.toNat < 192
                  · rw [if_pos a2, if_neg (fun h => c3 ⟨a1, a2, h⟩)]
                    rfl
                  · rw [if_neg a2]
                    rfl
                · rw [if_neg a1]
                  rfl
            · rw [if_neg c1, if_neg c1, if_neg c2, if_neg c4, if_neg c6, if_neg (fun h => c2 h.1), if_neg (fun h => c4 h.1.1), if_neg (fun h => c6 h.1.1.1)]
              rfl
theorem finL_one (n least : Nat) (o : Option Nat) (hn : 2 ≤ n) : (finL n least o).2 ≠ 1 := by
  unfold finL
  repeat' split
  all_goals (simp only; omega)
theorem decL_one (l : List UInt8) : (decL l).2 = 1 → (decL l).1 < 128 := by
  cases l with
  | nil => intro h; simp [decL] at h
  | cons b l =>
    unfold decL
    dsimp only
    repeat' split
    · intro _; assumption
    · intro h; exact absurd h (finL_one _ _ _ (by omega))
    · intro h; exact absurd h (finL_one _ _ _ (by omega))
    · intro h; exact absurd h (finL_one _ _ _ (by omega))
    · intro h; cases h
theorem mayR_eq (c : Nat) : mayR (c : Int) = mayC (c : Int) := by
  rw [Bool.eq_iff_iff]
  unfold mayR mayC
  simp only [Bool.or_eq_true, Bool.and_eq_true, decide_eq_true_eq, Bool.not_eq_true', decide_eq_false_iff_not]
  repeat' split
  all_goals (simp only [true_iff, Bool.false_eq_true, false_iff]; omega)
def SW : CT := (extC SU brk_may.n brk_may.s)
theorem SW_ok : COk Tryd.prog SW := (extC_ok SU_ok brk_may.sc brk_may.sd)
theorem SW_mono : CMono SW := (extC_mono SU_mono brk_may.sm)
def brk_May.s : List Value → Heap → VK → Prop
  | [.string s, .int .i64 i], h, K => (s.size ≤ 1000000) ∧ K (.int .i64 (mayI s i)) h
  | _, _, _ => False
theorem brk_May.t (s : ByteArray) (i : Int) (h : Heap) (K : VK) : mwp SW (lt0) brk_May.m (retK [.t 4] K) (argE 0 [.string s, .int .i64 i]) h = (br (decide (i < (0 : Int))) (K (Value.int IntKind.i64 (0 : Int)) h) (br (decide ((↑s.size : Int) ≤ i)) (K (Value.int IntKind.i64 (0 : Int)) h) (((0 : Int) ≤ i ∧ i ≤ (↑s.size : Int)) ∧ br (decide ((↑(Lib.decodeGo (s.extract i.toNat s.size)).fst : Int) = (65533 : Int))) (br (decide ((↑(Lib.decodeGo (s.extract i.toNat s.size)).snd : Int) ≤ (1 : Int))) (K (Value.int IntKind.i64 (0 : Int)) h) (br (!mayR (↑(Lib.decodeGo (s.extract i.toNat s.size)).fst : Int)) (K (Value.int IntKind.i64 (0 : Int)) h) (K (Value.int IntKind.i64 (↑(Lib.decodeGo (s.extract i.toNat s.size)).snd : Int)) h))) (br (!mayR (↑(Lib.decodeGo (s.extract i.toNat s.size)).fst : Int)) (K (Value.int IntKind.i64 (0 : Int)) h) (K (Value.int IntKind.i64 (↑(Lib.decodeGo (s.extract i.toNat s.size)).snd : Int)) h))))) := by kernel_rfl
theorem brk_May.c (s : ByteArray) (i : Int) (h : Heap) (K : VK) (hp : s.size ≤ 1000000) (hh : K (.int .i64 (mayI s i)) h) : ACalls Tryd.prog brk_May.n [.string s, .int .i64 i] h K := by
  refine acalls_mk SW_ok brk_May.ok (LS := lt0) (by simp only [brk_May.m, LOk, and_true, true_and]) (Nat.le_of_ble_eq_true rfl) (Eq.mpr (brk_May.t s i h K) ?_)
  have l0 : i < 0 → mayI s i = 0 := fun h => by unfold mayI nextI; rw [if_neg (by omega)]; cases mayC ((0 : Nat) : Int) <;> rfl
  refine br_intro (fun hb => ?_) (fun hb => br_intro (fun hc => ?_) (fun hc => ?_))
  · simp only [decide_eq_true_eq] at hb
    exact kint hh (l0 hb)
  · simp only [decide_eq_true_eq, decide_eq_false_iff_not] at hb hc
    refine kint hh ?_
    have e : (lst s).drop i.toNat = [] := List.drop_eq_nil_of_le (by rw [show (lst s).length = s.size from Array.length_toList]; omega)
    unfold mayI nextI
    rw [if_pos (by omega), e]
    show (bif mayC ((0 : Nat) : Int) then ((0 : Nat) : Int) else 0) = 0
    cases mayC ((0 : Nat) : Int) <;> rfl
  · simp only [decide_eq_false_iff_not] at hb hc
    refine ⟨⟨by omega, by omega⟩, ?_⟩
    have hl : (lst s).length = s.size := Array.length_toList
    have e : lst (s.extract i.toNat s.size) = (lst s).drop i.toNat := by
      rw [lst_ext, List.take_of_length_le (by rw [List.length_drop]; omega)]
    have em : mayI s i = bif mayC ((decL ((lst s).drop i.toNat)).1 : Int) then ((decL ((lst s).drop i.toNat)).2 : Int) else 0 := by
      unfold mayI nextI; rw [if_pos (by omega)]
    rw [dec_eq, e]
    have h1 := decL_one ((lst s).drop i.toNat)
    rw [em] at hh
    generalize decL ((lst s).drop i.toNat) = q at *
    obtain ⟨c, n⟩ := q
    dsimp only at *
    by_cases hn : n = 0
    · subst hn
      rw [if_pos rfl]
      have hh : K (.int .i64 0) h := kint hh (by cases mayC (c : Int) <;> rfl)
      refine br_intro (fun _ => br_intro (fun _ => hh) (fun hf => ?_)) (fun hf => by simp at hf)
      simp only [decide_eq_false_iff_not] at hf
      split at hf <;> omega
    · rw [if_neg hn]
      dsimp only
      have fin : br (!mayR (c : Int)) (K (Value.int .i64 0) h) (K (Value.int .i64 (n : Int)) h) := by
        rw [mayR_eq]
        cases hm : mayC (c : Int) with
        | true => rw [hm] at hh; exact hh
        | false => rw [hm] at hh; exact hh
      refine br_intro (fun hr => br_intro (fun hs => ?_) (fun _ => fin)) (fun _ => fin)
      simp only [decide_eq_true_eq] at hr hs
      have := h1 (by omega)
      omega
theorem brk_May.sc : ∀ vs h K, brk_May.s vs h K → ACalls Tryd.prog brk_May.n vs h K := by
  intro vs h K hh; unfold brk_May.s at hh; split at hh
  · exact brk_May.c _ _ _ _ hh.1 hh.2
  · exact hh.elim
theorem brk_May.sm : SpecMono brk_May.s := by
  intro vs h K K' hk hh; unfold brk_May.s at hh ⊢; split at hh
  · exact ⟨hh.1, hk _ _ hh.2⟩
  · exact hh.elim
theorem brk_May.sd : SpecDet brk_May.s := by
  intro vs h K hh; unfold brk_May.s at hh; split at hh
  · exact ⟨_, hh.2, hh.1, rfl⟩
  · exact hh.elim

def SX : CT := (extC SW brk_May.n brk_May.s)
theorem SX_ok : COk Tryd.prog SX := (extC_ok SW_ok brk_May.sc brk_May.sd)
theorem SX_mono : CMono SX := (extC_mono SW_mono brk_May.sm)
def brk_Check.sp0 : LSpec := ⟨brk_Check.cs0, brk_Check.ts0, fun vs h K => ∃ (s : ByteArray) (q : Int) (i : Int) (k : Nat), (vs = [.string s, .int .i64 q, .int .i64 i] ∧ (s.size ≤ 1000000 ∧ 0 ≤ i ∧ s.size - i + 5 < k ∧ i ≤ s.size + 4)) ∧ ((chkF s k i = -1 → ∀ i' : Int, K (.exit 0) [.string s, .int .i64 q, .int .i64 i'] h) ∧ (chkF s k i ≠ -1 → ∀ i' : Int, K .ret [.string s, .int .i64 (chkF s k i), .int .i64 i'] h))⟩
theorem brk_Check.spm0 : LSpecMono brk_Check.sp0 := by
  rintro vs h K K' hk ⟨s, q, i, k, h3, h4⟩
  exact ⟨s, q, i, k, h3, ⟨fun e i' => hk _ _ _ (h4.1 e i'), fun e i' => hk _ _ _ (h4.2 e i')⟩⟩
theorem brk_Check.t0 (s : ByteArray) (q : Int) (i : Int) (k : Nat) (h : Heap) (E : Env) (N : List Value → Heap → Prop) (K : LK) : mwp SX (lt0) brk_Check.l0 (lK brk_Check.cs0 N K) (zipE brk_Check.cs0 [.string s, .int .i64 q, .int .i64 i] ++ E) h = (br (decide (i < (↑s.size : Int))) (s.size ≤ (1000000 : Nat) ∧ br (decide (mayI s i = (0 : Int))) (K Exit.ret [Value.string s, Value.int IntKind.i64 i, Value.int IntKind.i64 i] h) (rng IntKind.i64 (i + mayI s i) ∧ N [Value.string s, Value.int IntKind.i64 q, Value.int IntKind.i64 (i + mayI s i)] h)) (K (Exit.exit (0 : Nat)) [Value.string s, Value.int IntKind.i64 q, Value.int IntKind.i64 i] h)) := by kernel_rfl
theorem brk_Check.lo0 : LOk1 Tryd.prog brk_Check.nt brk_Check.sp0 (.loop 0 brk_Check.l0) := by
  refine loop_res (σ := ByteArray × Int × Int × Nat) SX_ok SX_mono (lt0_mono) (LS := lt0) (by simp only [brk_Check.l0, LOk, and_true, true_and]) rfl rfl (fun ⟨s, q, i, k⟩ => [.string s, .int .i64 q, .int .i64 i]) (fun ⟨s, q, i, k⟩ h => s.size ≤ 1000000 ∧ 0 ≤ i ∧ s.size - i + 5 < k ∧ i ≤ s.size + 4) (fun ⟨s, q, i, k⟩ => k) (fun ⟨s, q, i, k⟩ K h => (chkF s k i = -1 → ∀ i' : Int, K (.exit 0) [.string s, .int .i64 q, .int .i64 i'] h) ∧ (chkF s k i ≠ -1 → ∀ i' : Int, K .ret [.string s, .int .i64 (chkF s k i), .int .i64 i'] h)) ?_ ?_
  · rintro vs h K ⟨s, q, i, k, ⟨h1, h2⟩, h3⟩
    exact ⟨⟨s, q, i, k⟩, h1, h2, h3⟩
  rintro ⟨s, q, i, k⟩ E h N K hE hp hN hK
  dsimp only at hp hN hK
  refine Eq.mpr (brk_Check.t0 s q i k h E N K) ?_
  obtain ⟨h1, h2, h3, h4⟩ := hp
  obtain ⟨k, rfl⟩ : ∃ k', k = k' + 1 := ⟨k - 1, by omega⟩
  have hm := mayI_le s i
  rw [chkF] at hK
  refine br_intro (fun hb => ?_) (fun hb => ?_)
  · simp only [decide_eq_true_eq] at hb
    rw [if_neg (by omega)] at hK
    refine ⟨h1, br_intro (fun hc => ?_) (fun hc => ?_)⟩
    · simp only [decide_eq_true_eq] at hc
      rw [if_pos hc] at hK
      exact hK.2 (by omega) i
    · simp only [decide_eq_false_iff_not] at hc
      rw [if_neg hc] at hK
      exact ⟨by simp only [rng]; omega, hN (s, q, i + mayI s i, k) h ⟨h1, by dsimp only; omega, by dsimp only; omega, by dsimp only; omega⟩ (by dsimp only; omega) hK⟩
  · simp only [decide_eq_false_iff_not] at hb
    rw [if_pos (by omega)] at hK
    exact hK.1 rfl i

def brk_Check.LS : LT := (extL lt0 0 brk_Check.sp0)
theorem brk_Check.LS_mono : LMono brk_Check.LS := (extL_mono lt0_mono brk_Check.spm0)
def brk_Check.s : List Value → Heap → VK → Prop
  | [.string s], h, K => (s.size ≤ 1000000) ∧ K (.int .i64 (chkI s)) h
  | _, _, _ => False
theorem brk_Check.t (s : ByteArray) (h : Heap) (K : VK) : mwp SX (brk_Check.LS) brk_Check.m (retK [.t 2] K) (argE 0 [.string s]) h = (∃ (s_1 : ByteArray), ∃ (q : Int), ∃ (i : Int), ∃ (k : Nat), ([Value.string s, Value.int IntKind.i64 (0 : Int), Value.int IntKind.i64 (0 : Int)] = [Value.string s_1, Value.int IntKind.i64 q, Value.int IntKind.i64 i] ∧ s_1.size ≤ (1000000 : Nat) ∧ (0 : Int) ≤ i ∧ (↑s_1.size : Int) - i + (5 : Int) < (↑k : Int) ∧ i ≤ (↑s_1.size : Int) + (4 : Int)) ∧ (chkF s_1 k i = (-1 : Int) → ∀ (i' : Int), K (Value.int IntKind.i64 (-1 : Int)) h) ∧ (chkF s_1 k i ≠ (-1 : Int) → ∀ (i' : Int), K (Value.int IntKind.i64 (chkF s_1 k i)) h)) := by kernel_rfl
theorem brk_Check.c (s : ByteArray) (h : Heap) (K : VK) (hp : s.size ≤ 1000000) (hh : K (.int .i64 (chkI s)) h) : ACalls Tryd.prog brk_Check.n [.string s] h K := by
  refine acalls_mk SX_ok brk_Check.ok (LS := brk_Check.LS) (by simp only [brk_Check.m, LOk, and_true, true_and]; (repeat' apply And.intro) <;> first | trivial | exact brk_Check.lo0) (Nat.le_of_ble_eq_true rfl) (Eq.mpr (brk_Check.t s h K) ?_)
  refine ⟨s, 0, 0, s.size + 6, ⟨rfl, hp, by omega, by omega, by omega⟩, fun e i' => ?_, fun e i' => hh⟩
  unfold chkI at hh
  rw [e] at hh
  exact hh
theorem brk_Check.sc : ∀ vs h K, brk_Check.s vs h K → ACalls Tryd.prog brk_Check.n vs h K := by
  intro vs h K hh; unfold brk_Check.s at hh; split at hh
  · exact brk_Check.c _ _ _ hh.1 hh.2
  · exact hh.elim
theorem brk_Check.sm : SpecMono brk_Check.s := by
  intro vs h K K' hk hh; unfold brk_Check.s at hh ⊢; split at hh
  · exact ⟨hh.1, hk _ _ hh.2⟩
  · exact hh.elim
theorem brk_Check.sd : SpecDet brk_Check.s := by
  intro vs h K hh; unfold brk_Check.s at hh; split at hh
  · exact ⟨_, hh.2, hh.1, rfl⟩
  · exact hh.elim


end Go.Mini
