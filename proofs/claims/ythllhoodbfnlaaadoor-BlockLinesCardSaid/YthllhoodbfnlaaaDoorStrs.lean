/- Package strings: what the code calls of it, out of the library's contracts. Conditions: sizes. -/
import Derived.Test.YthllhoodbfnlaaaDoorCodC
import Derived.Test.YthllhoodbfnlaaaDoorBrk
import Derived.Test.YthllhoodbfnlaaaDoorMiniV
import Derived.Test.YthllhoodbfnlaaaDoorShelf
import Derived.Shelf.Strings.SlTrimAscii
namespace Go.Mini
open Go Go.RowKit Go.Proofs
set_option maxRecDepth 100000
set_option linter.unusedVariables false
set_option linter.unusedSimpArgs false

/-! ### IndexByte -/
def idxB (s : ByteArray) (c : Int) : Int := Lib.indexByte (lst s) c.toNat.toUInt8
theorem indexByte_mem : ∀ (l : List UInt8) (c : UInt8), 0 ≤ Lib.indexByte l c ↔ c ∈ l
  | [], c => by simp [Lib.indexByte]
  | b :: l, c => by
    have ih := indexByte_mem l c
    have hm : -1 ≤ Lib.indexByte l c := by
      clear ih
      induction l with
      | nil => simp [Lib.indexByte]
      | cons a l ih => unfold Lib.indexByte; split; omega; split; omega; omega
    unfold Lib.indexByte
    by_cases h : b = c
    · simp [h]
    · rw [if_neg (by simpa using h)]
      simp only [List.mem_cons, Ne.symm h, false_or, ← ih]
      split
      · rename_i h1
        simp only [beq_iff_eq] at h1
        omega
      · rename_i h1
        simp only [beq_iff_eq] at h1
        omega
def internal_stringslite_IndexByte.n : Nat := 110
def internal_stringslite_IndexByte.s : List Value → Heap → VK → Prop
  | [.string s, .int .u8 c], h, K => K (.int .i64 (idxB s c)) h
  | _, _, _ => False
theorem internal_stringslite_IndexByte.sm : SpecMono internal_stringslite_IndexByte.s := by
  intro vs h K K' hk hh; unfold internal_stringslite_IndexByte.s at hh ⊢; split at hh
  · exact hk _ _ hh
  · exact hh.elim
theorem internal_stringslite_IndexByte.sc : ∀ vs h K, internal_stringslite_IndexByte.s vs h K → ACalls Tryd.prog internal_stringslite_IndexByte.n vs h K := by
  intro vs h K hh; unfold internal_stringslite_IndexByte.s at hh; split at hh
  · rename_i s c
    exact acalls_of ⟨_, Tryd.func110, rfl, rfl⟩ rfl rfl (fun w => (Tryd.stringslite_IndexByte s c w).mono fun e w' ⟨h1, h2⟩ => ⟨h1, h2 ▸ Below.refl _ _⟩) hh
  · exact hh.elim
theorem internal_stringslite_IndexByte.sd : SpecDet internal_stringslite_IndexByte.s := by
  intro vs h K hh; unfold internal_stringslite_IndexByte.s at hh; split at hh
  · exact ⟨_, hh, rfl⟩
  · exact hh.elim
def ST0 : CT := (extC noC internal_stringslite_IndexByte.n internal_stringslite_IndexByte.s)
theorem ST0_ok : COk Tryd.prog ST0 := (extC_ok noC_ok internal_stringslite_IndexByte.sc internal_stringslite_IndexByte.sd)
theorem ST0_mono : CMono ST0 := (extC_mono noC_mono internal_stringslite_IndexByte.sm)

def strings_IndexByte.s : List Value → Heap → VK → Prop
  | [.string s, .int .u8 c], h, K => K (.int .i64 (idxB s c)) h
  | _, _, _ => False
theorem strings_IndexByte.t (s : ByteArray) (c : Int) (h : Heap) (K : VK) : mwp ST0 (lt0) strings_IndexByte.m (retK [.t 4] K) (argE 0 [.string s, .int .u8 c]) h = (K (Value.int IntKind.i64 (idxB s c)) h) := by kernel_rfl
theorem strings_IndexByte.c (s : ByteArray) (c : Int) (h : Heap) (K : VK) (hh : K (.int .i64 (idxB s c)) h) : ACalls Tryd.prog strings_IndexByte.n [.string s, .int .u8 c] h K := by
  refine acalls_mk ST0_ok strings_IndexByte.ok (LS := lt0) (by simp only [strings_IndexByte.m, LOk, and_true, true_and]) (Nat.le_of_ble_eq_true rfl) (Eq.mpr (strings_IndexByte.t s c h K) ?_)
  exact hh
theorem strings_IndexByte.sc : ∀ vs h K, strings_IndexByte.s vs h K → ACalls Tryd.prog strings_IndexByte.n vs h K := by
  intro vs h K hh; unfold strings_IndexByte.s at hh; split at hh
  · exact strings_IndexByte.c _ _ _ _ hh
  · exact hh.elim
theorem strings_IndexByte.sm : SpecMono strings_IndexByte.s := by
  intro vs h K K' hk hh; unfold strings_IndexByte.s at hh ⊢; split at hh
  · exact hk _ _ hh
  · exact hh.elim
theorem strings_IndexByte.sd : SpecDet strings_IndexByte.s := by
  intro vs h K hh; unfold strings_IndexByte.s at hh; split at hh
  · exact ⟨_, hh, rfl⟩
  · exact hh.elim

/-! ### TrimLeft, Trim -/
def strOf (l : List UInt8) : ByteArray := ⟨l.toArray⟩
theorem lst_strOf (l : List UInt8) : lst (strOf l) = l := by simp [lst, strOf]
theorem strOf_lst (s : ByteArray) : strOf (lst s) = s := by simp [lst, strOf]
theorem strOf_size (l : List UInt8) : (strOf l).size = l.length := by simp [strOf, ByteArray.size]
def strings_TrimLeft.s : List Value → Heap → VK → Prop
  | [.string s, .string t], h, K => t = ⟨#[32]⟩ ∧ K (.string (strOf (Lib.trimLeftB (lst s) 32))) h
  | _, _, _ => False
theorem strings_TrimLeft.sm : SpecMono strings_TrimLeft.s := by
  intro vs h K K' hk hh; unfold strings_TrimLeft.s at hh ⊢; split at hh
  · exact ⟨hh.1, hk _ _ hh.2⟩
  · exact hh.elim
theorem strings_TrimLeft.sc : ∀ vs h K, strings_TrimLeft.s vs h K → ACalls Tryd.prog strings_TrimLeft.n vs h K := by
  intro vs h K hh; unfold strings_TrimLeft.s at hh; split at hh
  · rename_i s t
    obtain ⟨rfl, hh⟩ := hh
    exact acalls_of ⟨_, Tryd.func82, rfl, rfl⟩ rfl rfl (fun w => (Tryd.strings_TrimLeft_one s 32 (by decide) w).mono fun e w' ⟨h1, h2⟩ => ⟨h1, h2 ▸ Below.refl _ _⟩) hh
  · exact hh.elim
def strings_Trim.s : List Value → Heap → VK → Prop
  | [.string s, .string t], h, K => (s.size ≤ 1000000 ∧ t.size ≤ 1000000 ∧ t.data.toList.all (fun b => decide (b.toNat < 128)) = true) ∧ K (.string (strOf (Lib.trimS (lst s) (lst t)))) h
  | _, _, _ => False
theorem strings_Trim.sm : SpecMono strings_Trim.s := by
  intro vs h K K' hk hh; unfold strings_Trim.s at hh ⊢; split at hh
  · exact ⟨hh.1, hk _ _ hh.2⟩
  · exact hh.elim
theorem strings_Trim.sc : ∀ vs h K, strings_Trim.s vs h K → ACalls Tryd.prog strings_Trim.n vs h K := by
  intro vs h K hh; unfold strings_Trim.s at hh; split at hh
  · rename_i s t
    exact acalls_of ⟨_, Tryd.func48, rfl, rfl⟩ rfl rfl (fun w => Any.strings_Trim_laid Tryd.lays160 (by kernel_rfl) s t w (by omega) (by omega) (ascii_of_all hh.1.2.2)) hh.2
  · exact hh.elim

theorem strings_TrimLeft.sd : SpecDet strings_TrimLeft.s := by
  intro vs h K hh; unfold strings_TrimLeft.s at hh; split at hh
  · exact ⟨_, hh.2, hh.1, rfl⟩
  · exact hh.elim
theorem strings_Trim.sd : SpecDet strings_Trim.s := by
  intro vs h K hh; unfold strings_Trim.s at hh; split at hh
  · exact ⟨_, hh.2, hh.1, rfl⟩
  · exact hh.elim
/-! ### Repeat -/
def strings_Repeat.n : Nat := 59
def strings_Repeat.s : List Value → Heap → VK → Prop
  | [.string s, .int .i64 c], h, K => (0 ≤ c ∧ c ≤ 1000000 ∧ s.size ≤ 1000000) ∧ K (.string (strOf (Lib.repeatL (lst s) c.toNat))) h
  | _, _, _ => False
theorem strings_Repeat.sm : SpecMono strings_Repeat.s := by
  intro vs h K K' hk hh; unfold strings_Repeat.s at hh ⊢; split at hh
  · exact ⟨hh.1, hk _ _ hh.2⟩
  · exact hh.elim
theorem strings_Repeat.sc : ∀ vs h K, strings_Repeat.s vs h K → ACalls Tryd.prog strings_Repeat.n vs h K := by
  intro vs h K hh; unfold strings_Repeat.s at hh; split at hh
  · rename_i s c
    obtain ⟨⟨h0, h1, h2⟩, hh⟩ := hh
    obtain ⟨n, rfl⟩ : ∃ n : Nat, c = n := ⟨c.toNat, by omega⟩
    exact acalls_of ⟨_, Tryd.func59, rfl, rfl⟩ rfl rfl (fun w => Tryd.strings_Repeat s n w (by omega) (Nat.le_trans (Nat.mul_le_mul h2 (show n ≤ 1000000 by omega)) (by decide))) hh
  · exact hh.elim
theorem strings_Repeat.sd : SpecDet strings_Repeat.s := by
  intro vs h K hh; unfold strings_Repeat.s at hh; split at hh
  · exact ⟨_, hh.2, hh.1, rfl⟩
  · exact hh.elim
end Go.Mini
