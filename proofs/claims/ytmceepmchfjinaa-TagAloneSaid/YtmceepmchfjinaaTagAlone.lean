/- The plain law of TagAlone: a sign alone says that there is no type to look for; with something behind it it is a type of the document's own, or its handle's. -/
import Derived.Test.YtmceepmchfjinaaTagRows
import Derived.Test.YtmceepmchfjinaaTagLists
import Derived.Test.YtmceepmchfjinaaAloneC
namespace Go.Proofs.Ytmceepmchfjinaa.Q
open Go.RowKit Go.Proofs.YtmceepmchfjinaaW.PrintWords Go.Proofs.YtmceepmchfjinaaW.PrintLast Go.Proofs.YtmceepmchfjinaaW.PrintMore
set_option linter.unusedVariables false
set_option linter.unusedSimpArgs false

def aloneL : List UInt8 := [95, 46, 126, 42, 39, 40, 41, 59, 47, 63, 58, 64, 38, 61, 43, 36, 35, 37]
theorem alone_signs (c : UInt8) (h : c ∈ aloneL) : shortB c = true ∧ handB c = false ∧ c ≠ 33 ∧ c ≠ 60 := by
  revert h
  exact all_bytes (p := fun c => c ∈ aloneL → shortB c = true ∧ handB c = false ∧ c ≠ 33 ∧ c ≠ 60) (by decide +kernel) c

theorem rowN_none (p : UInt8 → Bool) : ∀ l : List UInt8, (∀ c ∈ l, p c = false) → rowN p l = 0
  | [], _ => rfl
  | c :: l, h => by
    rw [rowN, if_neg (by rw [h c (by simp)]; decide)]

theorem list_at (t : ByteArray) (L : List UInt8) (h : t.data.toList = L) (i : Nat) (hi : i < t.size) : ∃ c, L[i]? = some c ∧ t[i] = c := by
  refine ⟨t[i], ?_, rfl⟩
  subst h
  rw [List.getElem?_eq_getElem (by simpa using hi)]
  simp [ByteArray.getElem_eq_getElem_data]

theorem alone_spec (x t : ByteArray) (hx : ∀ c ∈ x.data.toList, c ∈ aloneL) (ht : t.data.toList = 33 :: x.data.toList) : specR t 0 = (false, ⟨#[33]⟩, x, ((1 + x.size : Nat) : Int), true) := by
  have hsz : t.size = x.size + 1 := by
    rw [size_list t _ ht]
    simp
  have h33 : t[0]'(by omega) = 33 := at_list t _ ht 0 (by omega) 33 rfl
  have h1 : ∀ h : 1 < t.size, t[1] ≠ 33 ∧ t[1] ≠ 60 := by
    intro h
    obtain ⟨c, hc, e⟩ := list_at t _ ht 1 h
    rw [e]
    rw [List.getElem?_cons_succ] at hc
    have := alone_signs c (hx c (List.mem_of_getElem? hc))
    exact ⟨this.2.2.1, this.2.2.2⟩
  have hhand : run handB t 1 = 0 := by
    unfold run
    rw [ht]
    exact rowN_none handB _ fun c hc => (alone_signs c (hx c hc)).2.1
  have hat : handAt t 0 = 1 := by
    unfold handAt
    simp only [Nat.zero_add, Nat.add_zero, hhand]
    split
    · rename_i h
      rw [if_neg (h1 h).1]
    · rfl
  have hshort : run shortB t 1 = x.size := by
    unfold run
    rw [ht]
    show rowN shortB x.data.toList = x.size
    have := (rowN_all shortB x.data.toList).2 fun c hc => (alone_signs c (hx c hc)).1
    rw [this]
    simp
  have hex : t.extract 1 (1 + x.size) = x := by
    apply ByteArray.ext
    rw [ByteArray.data_extract]
    apply Array.toList_inj.1
    rw [Array.toList_extract, ht, List.extract_eq_take_drop]
    show List.take (1 + x.size - 1) x.data.toList = x.data.toList
    have e : 1 + x.size - 1 = x.data.toList.length := by simp
    rw [e, List.take_length]
  unfold specR
  rw [dif_neg (by rintro ⟨h, e⟩; exact (h1 (by omega)).2 e), hat]
  simp only [Nat.zero_add, hshort]
  rw [if_neg (by rintro ⟨_, h⟩; exact h rfl), hex]
  have e : t.extract 0 1 = ⟨#[33]⟩ := one_byte t 0 (by omega) h33
  rw [e]

theorem alone_read (x : ByteArray) (hs : x.size ≤ 1000) (hx : ∀ c ∈ x.data.toList, c ∈ aloneL) : tagname_Read.f ((⟨#[33]⟩ : ByteArray) ++ x) 0 = some (false, ⟨#[33]⟩, x, 1 + (x.size : Int), true) := by
  have ht : ((⟨#[33]⟩ : ByteArray) ++ x).data.toList = 33 :: x.data.toList := by simp [ByteArray.data_append]
  have hsz := size_list _ _ ht
  have hlen : (33 :: x.data.toList).length = x.size + 1 := by simp
  have h := read_at ((⟨#[33]⟩ : ByteArray) ++ x) 0 (by omega) (by omega) (at_list _ _ ht 0 (by omega) 33 rfl)
  rw [alone_spec x _ hx ht] at h
  have e : ((1 + x.size : Nat) : Int) = 1 + (x.size : Int) := by omega
  rw [e] at h
  exact h

theorem pairs_snoc (l : List S39) (a b : ByteArray) : pairs (l ++ [⟨a, b⟩]) = pairs l ++ [(a, b)] := by simp [pairs]

theorem nil_toList (x : ByteArray) : x.toList = [] ↔ x.size = 0 := by
  rw [ByteArray.toList_eq]
  constructor
  · intro h
    have := congrArg List.length h
    simpa using this
  · intro h
    apply List.eq_nil_of_length_eq_zero
    simpa using h

theorem bang_list : (⟨#[33]⟩ : ByteArray).toList = [33] := by rw [ByteArray.toList_eq]

theorem alone_one (x p : ByteArray) (l : List S39) : expandS false ⟨#[33]⟩ x (pairs (l ++ [⟨⟨#[33]⟩, p⟩])) = (if x.size = 0 then (⟨#[33]⟩ : ByteArray) else p ++ x, true) := by
  unfold expandS
  rw [if_neg (by decide)]
  by_cases h : x.size = 0
  · rw [if_pos ⟨bang_list, (nil_toList x).2 h⟩, if_pos h]
  · rw [if_neg (fun e => h ((nil_toList x).1 e.2)), if_neg h, pairs_snoc]
    unfold theH
    rw [lastH_snoc, if_pos rfl]

theorem alone_two (x p : ByteArray) : expandS false ⟨#[33]⟩ x (pairs [⟨⟨#[33, 33]⟩, p⟩]) = ((⟨#[33]⟩ : ByteArray) ++ x, true) := by
  unfold expandS
  rw [if_neg (by decide)]
  by_cases h : x.size = 0
  · rw [if_pos ⟨bang_list, (nil_toList x).2 h⟩]
    have : x = ⟨#[]⟩ := toList_inj.1 (by rw [(nil_toList x).2 h, ByteArray.toList_eq])
    subst this
    rfl
  · rw [if_neg (fun e => h ((nil_toList x).1 e.2))]
    have h1 : theH ⟨#[33]⟩ (pairs [⟨⟨#[33, 33]⟩, p⟩]) = some ⟨#[33]⟩ := by
      unfold theH
      have : lastH ⟨#[33]⟩ (pairs [⟨⟨#[33, 33]⟩, p⟩]) = none := by
        show (match lastH ⟨#[33]⟩ [] with | some q => some q | none => if (⟨#[33, 33]⟩ : ByteArray) = ⟨#[33]⟩ then some p else none) = none
        show (if (⟨#[33, 33]⟩ : ByteArray) = ⟨#[33]⟩ then some p else none) = none
        rw [if_neg (by decide)]
      rw [this]
      show baseH ⟨#[33]⟩ = _
      unfold baseH
      rw [if_pos bang_list]
    rw [h1]

theorem alone_core (x p : ByteArray) (l : List S39) (hx : x.size ≤ 1000) (hp : p.size ≤ 140737488351232) (hn : l.length ≤ 30) (hl : ∀ x ∈ l, x.f1.size ≤ 140737488351232) : targumlaw12_TagAlone.core false ⟨#[33]⟩ x x l p = some true := by
  unfold targumlaw12_TagAlone.core
  rw [expand_prog false ⟨#[33]⟩ x _ (by omega) (by simp; omega) (by
    intro y hy
    rw [List.mem_append] at hy
    rcases hy with hy | hy
    · exact hl y hy
    · have : y = ⟨⟨#[33]⟩, p⟩ := by simpa using hy
      subst this
      exact hp), alone_one]
  rw [Option.bind_some, expand_prog false ⟨#[33]⟩ x _ (by omega) (by simp) (by
    intro y hy
    have : y = ⟨⟨#[33, 33]⟩, p⟩ := by simpa using hy
    subst this
    exact hp), alone_two, Option.bind_some]
  exact if_pos ⟨rfl, rfl, by omega, rfl, rfl⟩
end Go.Proofs.Ytmceepmchfjinaa.Q
