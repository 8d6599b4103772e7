/- The base: blanks, breaks, stops, over the bytes of a text, and what the code of package rows tells of them. Conditions: sizes. -/
import Derived.Test.YthllhoodbfnlaaaDoorCodA
import Derived.Test.YthllhoodbfnlaaaDoorMiniK
namespace Go.Mini
open Go Go.Proofs
set_option maxRecDepth 100000
set_option linter.unusedVariables false
set_option linter.unusedSimpArgs false

theorem kbool {K : VK} {b c : Bool} {h : Heap} (hh : K (.bool b) h) (e : b = c) : K (.bool c) h := e ▸ hh
theorem kint {K : VK} {k : IntKind} {b c : Int} {h : Heap} (hh : K (.int k b) h) (e : b = c) : K (.int k c) h := e ▸ hh
theorem byteAt_out {s : ByteArray} {n : Nat} (h : s.size ≤ n) : byteAt s n = 0 := by
  unfold byteAt
  rw [List.getD_eq_getElem?_getD, List.getElem?_eq_none (by rw [Array.length_toList]; exact h)]
  rfl
abbrev lst (s : ByteArray) : List UInt8 := s.data.toList
theorem drop_lt {s : ByteArray} {n : Nat} (h : n < s.size) : (lst s).drop n = byteAt s n :: (lst s).drop (n + 1) := by
  have h' : n < (lst s).length := by rw [Array.length_toList]; exact h
  rw [List.drop_eq_getElem_cons h']
  congr 1
  unfold byteAt
  rw [List.getD_eq_getElem?_getD, List.getElem?_eq_getElem h']
  rfl
theorem drop_ge {s : ByteArray} {n : Nat} (h : s.size ≤ n) : (lst s).drop n = [] := List.drop_of_length_le (by rw [Array.length_toList]; exact h)
theorem lst_ext (s : ByteArray) (a b : Nat) : lst (s.extract a b) = ((lst s).drop a).take (b - a) := by
  simp [lst, ByteArray.data_extract, Array.toList_extract, List.extract_eq_take_drop]

/-! ### Blanks -/
def isBl (c : UInt8) : Bool := decide ((c.toNat : Int) = 32) || decide ((c.toNat : Int) = 9)
def blankI (s : ByteArray) (i : Int) : Bool := decide (0 ≤ i) && isBl (byteAt s i.toNat)
theorem blankI_lt {s : ByteArray} {i : Int} (h : blankI s i = true) : 0 ≤ i ∧ i < s.size := by
  unfold blankI at h
  simp only [Bool.and_eq_true, decide_eq_true_eq] at h
  refine ⟨h.1, ?_⟩
  rcases Nat.lt_or_ge i.toNat s.size with h1 | h1
  · omega
  · rw [byteAt_out h1] at h; exact absurd h.2 (by decide)
def S0 : CT := noC
theorem S0_ok : COk Tryd.prog S0 := noC_ok
theorem S0_mono : CMono S0 := noC_mono

def rows_Blank.s : List Value → Heap → VK → Prop
  | [.string s, .int .i64 i], h, K => K (.bool (blankI s i)) h
  | _, _, _ => False
theorem rows_Blank.t (s : ByteArray) (i : Int) (h : Heap) (K : VK) : mwp S0 (lt0) rows_Blank.m (retK [.t 4] K) (argE 0 [.string s, .int .i64 i]) h = (br (decide ((0 : Int) ≤ i)) (br (decide (i < (↑s.size : Int))) (((0 : Int) ≤ i ∧ i < (↑s.size : Int)) ∧ br (decide ((↑(byteAt s i.toNat).toNat : Int) = (32 : Int))) (K (Value.bool true) h) (((0 : Int) ≤ i ∧ i < (↑s.size : Int)) ∧ K (Value.bool (decide ((↑(byteAt s i.toNat).toNat : Int) = (9 : Int)))) h)) (K (Value.bool false) h)) (K (Value.bool false) h)) := by kernel_rfl
theorem rows_Blank.c (s : ByteArray) (i : Int) (h : Heap) (K : VK) (hh : K (.bool (blankI s i)) h) : ACalls Tryd.prog rows_Blank.n [.string s, .int .i64 i] h K := by
  refine acalls_mk S0_ok rows_Blank.ok (LS := lt0) (by simp only [rows_Blank.m, LOk, and_true, true_and]) (Nat.le_of_ble_eq_true rfl) (Eq.mpr (rows_Blank.t s i h K) ?_)
  have ho : ¬ i < s.size → ((byteAt s i.toNat).toNat : Int) = 0 := fun h1 => by rw [byteAt_out (by omega)]; rfl
  unfold blankI isBl at hh
  repeat' (first | with_reducible refine br_intro (fun hb => ?_) (fun hb => ?_) | refine And.intro ?_ ?_)
  all_goals (simp only [decide_eq_true_eq, decide_eq_false_iff_not] at *)
  all_goals first | omega | (refine kbool hh ?_; rw [Bool.eq_iff_iff]; simp; omega)
theorem rows_Blank.sc : ∀ vs h K, rows_Blank.s vs h K → ACalls Tryd.prog rows_Blank.n vs h K := by
  intro vs h K hh; unfold rows_Blank.s at hh; split at hh
  · exact rows_Blank.c _ _ _ _ hh
  · exact hh.elim
theorem rows_Blank.sm : SpecMono rows_Blank.s := by
  intro vs h K K' hk hh; unfold rows_Blank.s at hh ⊢; split at hh
  · exact hk _ _ hh
  · exact hh.elim
theorem rows_Blank.sd : SpecDet rows_Blank.s := by
  intro vs h K hh; unfold rows_Blank.s at hh; split at hh
  · exact ⟨_, hh, rfl⟩
  · exact hh.elim

def targumref1_IsBlank.s : List Value → Heap → VK → Prop
  | [.string s, .int .i64 i], h, K => K (.bool (blankI s i)) h
  | _, _, _ => False
theorem targumref1_IsBlank.t (s : ByteArray) (i : Int) (h : Heap) (K : VK) : mwp S0 (lt0) targumref1_IsBlank.m (retK [.t 4] K) (argE 0 [.string s, .int .i64 i]) h = (br (decide ((0 : Int) ≤ i)) (br (decide (i < (↑s.size : Int))) (((0 : Int) ≤ i ∧ i < (↑s.size : Int)) ∧ br (decide ((↑(byteAt s i.toNat).toNat : Int) = (32 : Int))) (K (Value.bool true) h) (((0 : Int) ≤ i ∧ i < (↑s.size : Int)) ∧ K (Value.bool (decide ((↑(byteAt s i.toNat).toNat : Int) = (9 : Int)))) h)) (K (Value.bool false) h)) (K (Value.bool false) h)) := by kernel_rfl
theorem targumref1_IsBlank.c (s : ByteArray) (i : Int) (h : Heap) (K : VK) (hh : K (.bool (blankI s i)) h) : ACalls Tryd.prog targumref1_IsBlank.n [.string s, .int .i64 i] h K := by
  refine acalls_mk S0_ok targumref1_IsBlank.ok (LS := lt0) (by simp only [targumref1_IsBlank.m, LOk, and_true, true_and]) (Nat.le_of_ble_eq_true rfl) (Eq.mpr (targumref1_IsBlank.t s i h K) ?_)
  have ho : ¬ i < s.size → ((byteAt s i.toNat).toNat : Int) = 0 := fun h1 => by rw [byteAt_out (by omega)]; rfl
  unfold blankI isBl at hh
  repeat' (first | with_reducible refine br_intro (fun hb => ?_) (fun hb => ?_) | refine And.intro ?_ ?_)
  all_goals (simp only [decide_eq_true_eq, decide_eq_false_iff_not] at *)
  all_goals first | omega | (refine kbool hh ?_; rw [Bool.eq_iff_iff]; simp; omega)
theorem targumref1_IsBlank.sc : ∀ vs h K, targumref1_IsBlank.s vs h K → ACalls Tryd.prog targumref1_IsBlank.n vs h K := by
  intro vs h K hh; unfold targumref1_IsBlank.s at hh; split at hh
  · exact targumref1_IsBlank.c _ _ _ _ hh
  · exact hh.elim
theorem targumref1_IsBlank.sm : SpecMono targumref1_IsBlank.s := by
  intro vs h K K' hk hh; unfold targumref1_IsBlank.s at hh ⊢; split at hh
  · exact hk _ _ hh
  · exact hh.elim
theorem targumref1_IsBlank.sd : SpecDet targumref1_IsBlank.s := by
  intro vs h K hh; unfold targumref1_IsBlank.s at hh; split at hh
  · exact ⟨_, hh, rfl⟩
  · exact hh.elim

/-! ### Package strings -/
def hp (s p : ByteArray) : Bool := (lst p).isPrefixOf (lst s)
theorem hp_is (s p : ByteArray) : hp s p = (decide ((p.size : Int) ≤ s.size) && decide (s.extract 0 p.size = p)) := by
  rw [Bool.eq_iff_iff]
  simp only [hp, List.isPrefixOf_iff_prefix, Bool.and_eq_true, decide_eq_true_eq]
  have e : s.extract 0 p.size = p ↔ (lst s).take p.size = lst p := by
    rw [← List.drop_zero (l := lst s), ← Nat.sub_zero p.size, ← lst_ext, Nat.sub_zero]
    constructor
    · intro h; rw [h]
    · intro h; exact ByteArray.ext (Array.ext' h)
  rw [e]
  have hl : (lst p).length = p.size := Array.length_toList
  have hl2 : (lst s).length = s.size := Array.length_toList
  constructor
  · intro h
    have h1 := h.length_le
    exact ⟨by omega, by rw [← hl]; exact (List.prefix_iff_eq_take.1 h).symm⟩
  · rintro ⟨h1, h2⟩
    rw [← h2]
    exact List.take_prefix _ _

def internal_stringslite_HasPrefix.s : List Value → Heap → VK → Prop
  | [.string s, .string p], h, K => K (.bool (hp s p)) h
  | _, _, _ => False
theorem internal_stringslite_HasPrefix.t (s p : ByteArray) (h : Heap) (K : VK) : mwp S0 (lt0) internal_stringslite_HasPrefix.m (retK [.t 4] K) (argE 0 [.string s, .string p]) h = (br (decide ((↑p.size : Int) ≤ (↑s.size : Int))) (((0 : Int) ≤ (↑p.size : Int) ∧ (↑p.size : Int) ≤ (↑s.size : Int)) ∧ K (Value.bool (decide (s.extract (0 : Nat) (↑p.size : Int).toNat = p))) h) (K (Value.bool false) h)) := by kernel_rfl
theorem internal_stringslite_HasPrefix.c (s p : ByteArray) (h : Heap) (K : VK) (hh : K (.bool (hp s p)) h) : ACalls Tryd.prog internal_stringslite_HasPrefix.n [.string s, .string p] h K := by
  refine acalls_mk S0_ok internal_stringslite_HasPrefix.ok (LS := lt0) (by simp only [internal_stringslite_HasPrefix.m, LOk, and_true, true_and]) (Nat.le_of_ble_eq_true rfl) (Eq.mpr (internal_stringslite_HasPrefix.t s p h K) ?_)
  rw [hp_is] at hh
  refine br_intro (fun hb => ?_) (fun hb => ?_)
  · simp only [decide_eq_true_eq] at hb
    refine ⟨by omega, kbool hh ?_⟩
    simp [hb]
  · exact kbool hh (by rw [hb, Bool.false_and])
theorem internal_stringslite_HasPrefix.sc : ∀ vs h K, internal_stringslite_HasPrefix.s vs h K → ACalls Tryd.prog internal_stringslite_HasPrefix.n vs h K := by
  intro vs h K hh; unfold internal_stringslite_HasPrefix.s at hh; split at hh
  · exact internal_stringslite_HasPrefix.c _ _ _ _ hh
  · exact hh.elim
theorem internal_stringslite_HasPrefix.sm : SpecMono internal_stringslite_HasPrefix.s := by
  intro vs h K K' hk hh; unfold internal_stringslite_HasPrefix.s at hh ⊢; split at hh
  · exact hk _ _ hh
  · exact hh.elim
theorem internal_stringslite_HasPrefix.sd : SpecDet internal_stringslite_HasPrefix.s := by
  intro vs h K hh; unfold internal_stringslite_HasPrefix.s at hh; split at hh
  · exact ⟨_, hh, rfl⟩
  · exact hh.elim

def SA : CT := (extC (extC (extC S0 rows_Blank.n rows_Blank.s) targumref1_IsBlank.n targumref1_IsBlank.s) internal_stringslite_HasPrefix.n internal_stringslite_HasPrefix.s)
theorem SA_ok : COk Tryd.prog SA := (extC_ok (extC_ok (extC_ok S0_ok rows_Blank.sc rows_Blank.sd) targumref1_IsBlank.sc targumref1_IsBlank.sd) internal_stringslite_HasPrefix.sc internal_stringslite_HasPrefix.sd)
theorem SA_mono : CMono SA := (extC_mono (extC_mono (extC_mono S0_mono rows_Blank.sm) targumref1_IsBlank.sm) internal_stringslite_HasPrefix.sm)

def strings_HasPrefix.s : List Value → Heap → VK → Prop
  | [.string s, .string p], h, K => K (.bool (hp s p)) h
  | _, _, _ => False
theorem strings_HasPrefix.t (s p : ByteArray) (h : Heap) (K : VK) : mwp SA (lt0) strings_HasPrefix.m (retK [.t 4] K) (argE 0 [.string s, .string p]) h = (K (Value.bool (hp s p)) h) := by kernel_rfl
theorem strings_HasPrefix.c (s p : ByteArray) (h : Heap) (K : VK) (hh : K (.bool (hp s p)) h) : ACalls Tryd.prog strings_HasPrefix.n [.string s, .string p] h K := by
  refine acalls_mk SA_ok strings_HasPrefix.ok (LS := lt0) (by simp only [strings_HasPrefix.m, LOk, and_true, true_and]) (Nat.le_of_ble_eq_true rfl) (Eq.mpr (strings_HasPrefix.t s p h K) ?_)
  exact hh
theorem strings_HasPrefix.sc : ∀ vs h K, strings_HasPrefix.s vs h K → ACalls Tryd.prog strings_HasPrefix.n vs h K := by
  intro vs h K hh; unfold strings_HasPrefix.s at hh; split at hh
  · exact strings_HasPrefix.c _ _ _ _ hh
  · exact hh.elim
theorem strings_HasPrefix.sm : SpecMono strings_HasPrefix.s := by
  intro vs h K K' hk hh; unfold strings_HasPrefix.s at hh ⊢; split at hh
  · exact hk _ _ hh
  · exact hh.elim
theorem strings_HasPrefix.sd : SpecDet strings_HasPrefix.s := by
  intro vs h K hh; unfold strings_HasPrefix.s at hh; split at hh
  · exact ⟨_, hh, rfl⟩
  · exact hh.elim

/-! ### Over blanks -/
def bls : List UInt8 → Nat
  | [] => 0
  | c :: l => if isBl c then bls l + 1 else 0
def overI (s : ByteArray) (i : Int) : Int := if 0 ≤ i then i + bls ((lst s).drop i.toNat) else i
theorem overI_true {s : ByteArray} {i : Int} (h : blankI s i = true) : overI s (i + 1) = overI s i := by
  obtain ⟨h1, h2⟩ := blankI_lt h
  unfold overI
  rw [if_pos h1, if_pos (by omega), drop_lt (n := i.toNat) (by omega)]
  unfold blankI at h
  simp only [Bool.and_eq_true] at h
  rw [bls, if_pos h.2, show (i + 1).toNat = i.toNat + 1 from by omega]
  omega
theorem overI_false {s : ByteArray} {i : Int} (h : blankI s i = false) : overI s i = i := by
  unfold overI
  split
  · rename_i h0
    rcases Nat.lt_or_ge i.toNat s.size with h1 | h1
    · rw [drop_lt h1, bls, if_neg]
      · omega
      · unfold blankI at h; simp [h0] at h; simp [h]
    · rw [drop_ge h1]; simp [bls]
  · rfl
theorem bls_le : ∀ l : List UInt8, bls l ≤ l.length
  | [] => Nat.le_refl _
  | c :: l => by unfold bls; split; simp; exact bls_le l; simp
theorem overI_ge (s : ByteArray) (i : Int) : i ≤ overI s i := by unfold overI; split <;> omega
theorem overI_le (s : ByteArray) (i : Int) (h : i ≤ s.size) : overI s i ≤ s.size := by
  unfold overI
  split
  · have := bls_le ((lst s).drop i.toNat)
    rw [List.length_drop, Array.length_toList] at this
    have : s.data.size = s.size := rfl
    omega
  · omega

def rows_Over.sp0 : LSpec := ⟨rows_Over.cs0, rows_Over.ts0, fun vs h K => match vs with
  | [.string s, .int .i64 i] => (s.size ≤ 1000000) ∧ (K (.exit 0) [.string s, .int .i64 (overI s i)] h)
  | _ => False⟩
theorem rows_Over.spm0 : LSpecMono rows_Over.sp0 := by
  intro vs h K K' hk hh; unfold rows_Over.sp0 at hh ⊢; dsimp only at hh ⊢; split at hh
  · refine ⟨hh.1, ?_⟩; exact hk _ _ _ hh.2
  · exact hh.elim
theorem rows_Over.t0 (s : ByteArray) (i : Int) (h : Heap) (E : Env) (N : List Value → Heap → Prop) (K : LK) : mwp SA (lt0) rows_Over.l0 (lK rows_Over.cs0 N K) (zipE rows_Over.cs0 [.string s, .int .i64 i] ++ E) h = (br (blankI s i) (rng IntKind.i64 (i + (1 : Int)) ∧ N [Value.string s, Value.int IntKind.i64 (i + (1 : Int))] h) (K (Exit.exit (0 : Nat)) [Value.string s, Value.int IntKind.i64 i] h)) := by kernel_rfl
theorem rows_Over.lo0 : LOk1 Tryd.prog rows_Over.nt rows_Over.sp0 (.loop 0 rows_Over.l0) := by
  refine loop_res (σ := ByteArray × Int) SA_ok SA_mono (lt0_mono) (LS := lt0) (by simp only [rows_Over.l0, LOk, and_true, true_and]) rfl rfl (fun ⟨s, i⟩ => [.string s, .int .i64 i]) (fun ⟨s, i⟩ h => s.size ≤ 1000000) (fun ⟨s, i⟩ => (s.size - i).toNat) (fun ⟨s, i⟩ K h => K (.exit 0) [.string s, .int .i64 (overI s i)] h) ?_ ?_
  · intro vs h K hh; unfold rows_Over.sp0 at hh; dsimp only at hh; split at hh
    · exact ⟨(_, _), rfl, hh⟩
    · exact hh.elim
  rintro ⟨s, i⟩ E h N K hE hp hN hK
  dsimp only at hp hN hK
  refine Eq.mpr (rows_Over.t0 s i h E N K) ?_
  refine br_intro (fun hb => ?_) (fun hb => ?_)
  · have h1 := blankI_lt hb
    exact ⟨by simp only [rng]; omega, hN (s, i + 1) h hp (by dsimp only; omega) (by dsimp only; rw [overI_true hb]; exact hK)⟩
  · rw [overI_false hb] at hK
    exact hK

def rows_Over.LS : LT := (extL lt0 0 rows_Over.sp0)
theorem rows_Over.LS_mono : LMono rows_Over.LS := (extL_mono lt0_mono rows_Over.spm0)
def rows_Over.s : List Value → Heap → VK → Prop
  | [.string s, .int .i64 i], h, K => (s.size ≤ 1000000) ∧ K (.int .i64 (overI s i)) h
  | _, _, _ => False
theorem rows_Over.t (s : ByteArray) (i : Int) (h : Heap) (K : VK) : mwp SA (rows_Over.LS) rows_Over.m (retK [.t 4] K) (argE 0 [.string s, .int .i64 i]) h = (s.size ≤ (1000000 : Nat) ∧ K (Value.int IntKind.i64 (overI s i)) h) := by kernel_rfl
theorem rows_Over.c (s : ByteArray) (i : Int) (h : Heap) (K : VK) (hp : s.size ≤ 1000000) (hh : K (.int .i64 (overI s i)) h) : ACalls Tryd.prog rows_Over.n [.string s, .int .i64 i] h K := by
  refine acalls_mk SA_ok rows_Over.ok (LS := rows_Over.LS) (by simp only [rows_Over.m, LOk, and_true, true_and]; (repeat' apply And.intro) <;> first | trivial | exact rows_Over.lo0) (Nat.le_of_ble_eq_true rfl) (Eq.mpr (rows_Over.t s i h K) ?_)
  exact ⟨hp, hh⟩
theorem rows_Over.sc : ∀ vs h K, rows_Over.s vs h K → ACalls Tryd.prog rows_Over.n vs h K := by
  intro vs h K hh; unfold rows_Over.s at hh; split at hh
  · exact rows_Over.c _ _ _ _ hh.1 hh.2
  · exact hh.elim
theorem rows_Over.sm : SpecMono rows_Over.s := by
  intro vs h K K' hk hh; unfold rows_Over.s at hh ⊢; split at hh
  · exact ⟨hh.1, hk _ _ hh.2⟩
  · exact hh.elim
theorem rows_Over.sd : SpecDet rows_Over.s := by
  intro vs h K hh; unfold rows_Over.s at hh; split at hh
  · exact ⟨_, hh.2, hh.1, rfl⟩
  · exact hh.elim


def targumref17_over.LS : LT := lt0
theorem targumref17_over.LS_mono : LMono targumref17_over.LS := lt0_mono

end Go.Mini
