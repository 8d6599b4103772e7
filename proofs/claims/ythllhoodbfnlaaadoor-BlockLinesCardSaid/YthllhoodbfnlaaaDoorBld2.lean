/- Builders beside other rows: the rows that stay are told one by one. Conditions: sizes. -/
import Derived.Test.YthllhoodbfnlaaaDoorBld
import Derived.Test.YthllhoodbfnlaaaDoorStrs
import Derived.Test.YthllhoodbfnlaaaDoorMiniV
namespace Go.Mini
open Go Go.RowKit Go.Proofs
set_option maxRecDepth 100000
set_option linter.unusedVariables false
set_option linter.unusedSimpArgs false

theorem rows_all : ∀ (m : Nat) (l l' : List (Option Blk)), m ≤ l.length → m ≤ l'.length → (∀ k, k < m → mrow l' k = mrow l k) → l' = l.take m ++ l'.drop m
  | 0, l, l', _, _, _ => by simp
  | m + 1, [], l', h1, _, _ => by simp at h1
  | m + 1, x :: l, [], _, h2, _ => by simp at h2
  | m + 1, x :: l, y :: l', h1, h2, h => by
    have e : y = x := h 0 (by omega)
    have := rows_all m l l' (by simpa using h1) (by simpa using h2) (fun k hk => h (k + 1) (by omega))
    rw [e, List.take_succ_cons, List.drop_succ_cons, List.cons_append, ← this]
theorem rows_cut : ∀ (m i : Nat) (l l' : List (Option Blk)), i < m → m ≤ l.length → m ≤ l'.length → (∀ k, k < m → k ≠ i → mrow l' k = mrow l k) → l' = mput (l.take m) i (mrow l' i) ++ l'.drop m
  | 0, i, l, l', hi, _, _, _ => by omega
  | m + 1, i, [], l', _, h1, _, _ => by simp at h1
  | m + 1, i, x :: l, [], _, _, h2, _ => by simp at h2
  | m + 1, 0, x :: l, y :: l', hi, h1, h2, h => by
    have := rows_all m l l' (by simpa using h1) (by simpa using h2) (fun k hk => h (k + 1) (by omega) (by omega))
    rw [List.take_succ_cons, List.drop_succ_cons]
    show y :: l' = y :: (l.take m ++ l'.drop m)
    rw [← this]
  | m + 1, i + 1, x :: l, y :: l', hi, h1, h2, h => by
    have e : y = x := h 0 (by omega) (by omega)
    have := rows_cut m i l l' (by omega) (by simpa using h1) (by simpa using h2) (fun k hk hki => h (k + 1) (by omega) (by omega))
    rw [List.take_succ_cons, List.drop_succ_cons, e]
    show x :: l' = x :: (mput (l.take m) i (mrow l' i) ++ l'.drop m)
    rw [← this]
/-- A heap's first m rows but row i, and others. -/
def cutH (m : Nat) (h : Heap) (i : Nat) (n : Nat) (b : Option Blk) (R : List (Option Blk)) : Heap := Heap.mk n (mput (h.l.take m) i b ++ R)
/-- A builder at row i among m rows. -/
structure BldM (m : Nat) (h : Heap) (i : Nat) (l : List UInt8) : Prop where
  bld : BldS TB TU ⟨m, h.l.take m⟩ h i l
  lt : i + 1 < m
  len : m ≤ h.l.length
  last : ∃ b, mrow h.l (m - 1) = some b
theorem mrow_len {l : List (Option Blk)} {k : Nat} {b : Blk} (h : mrow l k = some b) : k < l.length := by
  rcases Nat.lt_or_ge k l.length with h1 | h1
  · exact h1
  · rw [mrow_getD, List.getD_eq_getElem?_getD, List.getElem?_eq_none h1] at h; cases h
theorem mrow_take {l : List (Option Blk)} {m k : Nat} (h : k < m) : mrow (l.take m) k = mrow l k := by
  rw [mrow_getD, mrow_getD, List.getD_eq_getElem?_getD, List.getD_eq_getElem?_getD, List.getElem?_take, if_pos h]
/-- A heap that keeps them has this form. -/
theorem cut_of {m : Nat} {h h' : Heap} {i : Nat} (hi : i + 1 < m) (hlen : m ≤ h.l.length) (hlast : ∃ b, mrow h.l (m - 1) = some b) (B : keepsX i ⟨m, h.l.take m⟩ h') :
    h' = cutH m h i h'.n (mrow h'.l i) (h'.l.drop m) ∧ m ≤ h'.l.length ∧ ∃ b, mrow h'.l (m - 1) = some b := by
  have hk : ∀ k, k < m → k ≠ i → mrow h'.l k = mrow h.l k := fun k h1 h2 => by
    have := B.2 k h1 h2
    rw [show (Heap.mk m (h.l.take m)).g k = mrow (h.l.take m) k from rfl, mrow_take h1] at this
    exact this
  have hl' : ∃ b, mrow h'.l (m - 1) = some b := by
    obtain ⟨b, hb⟩ := hlast
    exact ⟨b, by rw [hk (m - 1) (by omega) (by omega)]; exact hb⟩
  have hm' : m ≤ h'.l.length := by obtain ⟨b, hb⟩ := hl'; have := mrow_len hb; omega
  refine ⟨?_, hm', hl'⟩
  unfold cutH
  rw [← rows_cut m i h.l h'.l (by omega) hlen hm' hk]
theorem BldM.of {m : Nat} {h h' : Heap} {i : Nat} {l : List UInt8} (hi : i + 1 < m) (hlen : m ≤ h.l.length) (hlast : ∃ b, mrow h.l (m - 1) = some b) (B : BldS TB TU ⟨m, h.l.take m⟩ h' i l) : BldM m h' i l := by
  obtain ⟨_, h2, h3⟩ := cut_of hi hlen hlast B.keep
  exact ⟨⟨⟨B.keep.1, fun k hk _ => (mrow_take hk).symm⟩, B.lt, B.ex⟩, hi, h2, h3⟩

def bwsM (m : Nat) : List Value → Heap → VK → Prop
  | [.pointer (some ⟨i, 0, none⟩), .string s], h, K => ∃ l : List UInt8, BldM m h i l ∧ l.length + s.size ≤ 100000000000000 ∧ ∀ n b R, BldM m (cutH m h i n b R) i (l ++ lst s) → K (.tuple #[.int .i64 s.size, .nilIface]) (cutH m h i n b R)
  | _, _, _ => False
def bstrM (m : Nat) : List Value → Heap → VK → Prop
  | [.pointer (some ⟨i, 0, none⟩)], h, K => ∃ l : List UInt8, BldM m h i l ∧ l.length ≤ 100000000000000 ∧ ∀ n b R, K (.string (strOf l)) (cutH m h i n b R)
  | _, _, _ => False
theorem bwsM_sc (m : Nat) : ∀ vs h K, bwsM m vs h K → ACalls Tryd.prog 38 vs h K := by
  intro vs h K hh
  unfold bwsM at hh
  split at hh
  · obtain ⟨l, B, hl, hK⟩ := hh
    refine bws.sc _ _ _ ⟨_, _, _, l, rfl, B.bld, hl, fun h' B' => ?_⟩
    have e := (cut_of B.lt B.len B.last B'.keep).1
    have B2 := BldM.of B.lt B.len B.last B'
    rw [e] at B2 ⊢
    exact hK _ _ _ B2
  · exact hh.elim
theorem bwsM_sm (m : Nat) : SpecMono (bwsM m) := by
  intro vs h K K' hk hh
  unfold bwsM at hh ⊢
  split at hh
  · obtain ⟨l, B, hl, hK⟩ := hh
    exact ⟨l, B, hl, fun n b R hB => hk _ _ (hK n b R hB)⟩
  · exact hh.elim
theorem bwsM_sd (m : Nat) : SpecDet (bwsM m) := by
  intro vs h K hh
  unfold bwsM at hh
  split at hh
  · obtain ⟨l, B, hl, hK⟩ := hh
    exact B.bld.froze.elim
  · exact hh.elim
theorem bstrM_sc (m : Nat) : ∀ vs h K, bstrM m vs h K → ACalls Tryd.prog 39 vs h K := by
  intro vs h K hh
  unfold bstrM at hh
  split at hh
  · obtain ⟨l, B, hl, hK⟩ := hh
    refine bstr.sc _ _ _ ⟨_, _, l, rfl, B.bld, hl, fun h' B' => ?_⟩
    rw [(cut_of B.lt B.len B.last B').1]
    exact hK _ _ _
  · exact hh.elim
theorem bstrM_sm (m : Nat) : SpecMono (bstrM m) := by
  intro vs h K K' hk hh
  unfold bstrM at hh ⊢
  split at hh
  · obtain ⟨l, B, hl, hK⟩ := hh
    exact ⟨l, B, hl, fun n b R => hk _ _ (hK n b R)⟩
  · exact hh.elim
theorem bstrM_sd (m : Nat) : SpecDet (bstrM m) := by
  intro vs h K hh
  unfold bstrM at hh
  split at hh
  · obtain ⟨l, B, hl, hK⟩ := hh
    exact B.bld.froze.elim
  · exact hh.elim
/-- A new builder among the rows. -/
theorem BldM.start {m : Nat} {h : Heap} {i : Nat} (hi : i + 1 < m) (hn : m ≤ h.n) (hlast : ∃ b, mrow h.l (m - 1) = some b) (hg : mrow h.l i = some ⟨TB, 2, [.pointer none, .slice none 0 0], true⟩) : BldM m h i [] := by
  have hlen : m ≤ h.l.length := by obtain ⟨b, hb⟩ := hlast; have := mrow_len hb; omega
  exact ⟨⟨⟨hn, fun k hk _ => (mrow_take hk).symm⟩, by omega, _, _, hg, .inl rfl, .inl ⟨rfl, rfl⟩⟩, hi, hlen, hlast⟩
end Go.Mini
