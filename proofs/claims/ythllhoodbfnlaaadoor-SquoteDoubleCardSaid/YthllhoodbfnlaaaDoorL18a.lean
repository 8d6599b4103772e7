/- The law's known cases (texts in single quotes). Conditions: none. -/
import Derived.Test.YthllhoodbfnlaaaDoorSq3
namespace Go.Mini
open Go Go.RowKit Go.Proofs
set_option maxRecDepth 100000
set_option linter.unusedVariables false
set_option linter.unusedSimpArgs false

def SZ : CT := (extC (extC SY squote_Read.n squote_Read.s) squote_Write.n squote_Write.s)
theorem SZ_ok : COk Tryd.prog SZ := (extC_ok (extC_ok SY_ok squote_Read.sc squote_Read.sd) squote_Write.sc squote_Write.sd)
theorem SZ_mono : CMono SZ := (extC_mono (extC_mono SY_mono squote_Read.sm) squote_Write.sm)
def targumlaw18_known.s : List Value → Heap → VK → Prop
  | [], h, K => K (.bool true) h
  | _, _, _ => False
theorem targumlaw18_known.t  (K : VK) : mwp SZ (lt0) targumlaw18_known.m (retK [.t 0] K) (argE 0 []) (lit []) = (((ByteArray.mk #[(39 : UInt8), (105 : UInt8), (116 : UInt8), (39 : UInt8), (39 : UInt8), (115 : UInt8), (39 : UInt8)]).size ≤ (1000000 : Nat) ∧ (-10000000 : Int) ≤ (0 : Int) ∧ (0 : Int) ≤ (10000000 : Int)) ∧ ((ByteArray.mk #[(39 : UInt8), (97 : UInt8)]).size ≤ (1000000 : Nat) ∧ (-10000000 : Int) ≤ (0 : Int) ∧ (0 : Int) ≤ (10000000 : Int)) ∧ (ByteArray.mk #[(105 : UInt8), (116 : UInt8), (39 : UInt8), (115 : UInt8)]).size ≤ (1000000 : Nat) ∧ (ByteArray.mk #[(32 : UInt8), (97 : UInt8)]).size ≤ (1000000 : Nat) ∧ K (Value.bool !wrOk (ByteArray.mk #[(32 : UInt8), (97 : UInt8)])) (Heap.mk (2 : Nat) [some (Blk.mk (30 : Nat) (2 : Nat) ([] ++ [Value.int IntKind.i64 (sqC (sqI (11 : Int) (ByteArray.mk #[(39 : UInt8), (105 : UInt8), (116 : UInt8), (39 : UInt8), (39 : UInt8), (115 : UInt8), (39 : UInt8)]) (0 : Int))), Value.int IntKind.i64 (sqO (sqI (11 : Int) (ByteArray.mk #[(39 : UInt8), (105 : UInt8), (116 : UInt8), (39 : UInt8), (39 : UInt8), (115 : UInt8), (39 : UInt8)]) (0 : Int)))] ++ []) true), some (Blk.mk (30 : Nat) (2 : Nat) ([] ++ [Value.int IntKind.i64 (sqC (sqI (11 : Int) (ByteArray.mk #[(39 : UInt8), (97 : UInt8)]) (0 : Int))), Value.int IntKind.i64 (sqO (sqI (11 : Int) (ByteArray.mk #[(39 : UInt8), (97 : UInt8)]) (0 : Int)))] ++ []) true)])) := by kernel_rfl
theorem targumlaw18_known.c  (h : Heap) (K : VK) (hh : K (.bool true) h) : ACalls Tryd.prog targumlaw18_known.n [] h K := by
  refine ACalls.alone rfl (acalls_mk SZ_ok targumlaw18_known.ok (LS := lt0) (by simp only [targumlaw18_known.m, LOk, and_true, true_and]) (Nat.le_of_ble_eq_true rfl) (Eq.mpr (targumlaw18_known.t  (fun v _ => ck (cleanT v) (K v h))) ?_))
  have e : wrOk (ByteArray.mk #[32, 97]) = false := by kernel_rfl
  refine ⟨⟨by decide, by decide, by decide⟩, ⟨by decide, by decide, by decide⟩, by decide, by decide, ck_iff.2 ⟨rfl, ?_⟩⟩
  rw [e]
  exact hh
theorem targumlaw18_known.sc : ∀ vs h K, targumlaw18_known.s vs h K → ACalls Tryd.prog targumlaw18_known.n vs h K := by
  intro vs h K hh; unfold targumlaw18_known.s at hh; split at hh
  · exact targumlaw18_known.c  _ _ hh
  · exact hh.elim
theorem targumlaw18_known.sm : SpecMono targumlaw18_known.s := by
  intro vs h K K' hk hh; unfold targumlaw18_known.s at hh ⊢; split at hh
  · exact hk _ _ hh
  · exact hh.elim
theorem targumlaw18_known.sd : SpecDet targumlaw18_known.s := by
  intro vs h K hh; unfold targumlaw18_known.s at hh; split at hh
  · exact ⟨_, hh, rfl⟩
  · exact hh.elim

end Go.Mini
