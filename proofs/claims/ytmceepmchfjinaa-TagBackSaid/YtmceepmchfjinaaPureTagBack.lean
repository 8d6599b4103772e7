/- The plain law of TagBack: what is written is read whole, whatever may stand behind it, and expands to itself. -/
import Derived.Test.YtmceepmchfjinaaTagSame
import Derived.Test.YtmceepmchfjinaaPureDefTagBack
namespace Go.Proofs.Ytmceepmchfjinaa.Q
open Go.RowKit Go.Proofs.YtmceepmchfjinaaW.PrintWords Go.Proofs.YtmceepmchfjinaaW.PrintLast Go.Proofs.YtmceepmchfjinaaW.PrintMore
set_option linter.unusedVariables false
set_option linter.unusedSimpArgs false

theorem rowN_stop (p : UInt8 → Bool) (d : UInt8) (r : List UInt8) (hd : p d = false) : ∀ l : List UInt8, (∀ c ∈ l, p c = true) → rowN p (l ++ d :: r) = l.length
  | [], _ => by
    show rowN p (d :: r) = 0
    rw [rowN, if_neg (by rw [hd]; decide)]
  | c :: l, h => by
    show rowN p (c :: (l ++ d :: r)) = (c :: l).length
    rw [rowN, if_pos (h c (by simp)), rowN_stop p d r hd l (fun x hx => h x (by simp [hx]))]
    rfl

theorem at_list (t : ByteArray) (L : List UInt8) (h : t.data.toList = L) (i : Nat) (hi : i < t.size) (c : UInt8) (hc : L[i]? = some c) : t[i] = c := by
  subst h
  have h2 : i < t.data.toList.length := by simpa using hi
  rw [List.getElem?_eq_getElem h2] at hc
  have h3 := Option.some.inj hc
  rw [← h3]
  simp [ByteArray.getElem_eq_getElem_data]

theorem size_list (t : ByteArray) (L : List UInt8) (h : t.data.toList = L) : t.size = L.length := by
  subst h
  simp

theorem good_all (s : ByteArray) (h : goodB s = true) : 0 < s.size ∧ ∀ c ∈ s.data.toList, signB c = true := by
  unfold goodB at h
  rw [Bool.and_eq_true] at h
  refine ⟨of_decide_eq_true h.1, ?_⟩
  have h2 := of_decide_eq_true h.2
  unfold run at h2
  rw [List.drop_zero] at h2
  exact (rowN_all signB _).1 (by rw [h2]; simp)

theorem back_list (s rest : ByteArray) : ((⟨#[120]⟩ : ByteArray) ++ (((⟨#[33, 60]⟩ : ByteArray) ++ s) ++ (⟨#[62]⟩ : ByteArray)) ++ rest).data.toList = 120 :: 33 :: 60 :: (s.data.toList ++ 62 :: rest.data.toList) := by
  simp [ByteArray.data_append]

theorem back_spec (s rest : ByteArray) (h0 : 0 < s.size) (hg : ∀ c ∈ s.data.toList, signB c = true) (t : ByteArray) (ht : t.data.toList = 120 :: 33 :: 60 :: (s.data.toList ++ 62 :: rest.data.toList)) :
    1 < t.size ∧ (∀ h : 1 < t.size, t[1] = 33) ∧ specR t 1 = (true, ⟨#[]⟩, s, ((s.size + 4 : Nat) : Int), true) := by
  have hsz : t.size = s.size + 4 + rest.size := by
    rw [size_list t _ ht]
    simp
    omega
  have hrun : run signB t (1 + 2) = s.size := by
    unfold run
    rw [ht]
    show rowN signB (s.data.toList ++ 62 :: rest.data.toList) = s.size
    rw [rowN_stop signB 62 _ (by decide) _ hg]
    simp
  refine ⟨by omega, fun h => at_list t _ ht 1 h 33 rfl, ?_⟩
  unfold specR
  rw [dif_pos ⟨by omega, at_list t _ ht 2 (by omega) 60 rfl⟩]
  have h62 : ∀ h : 1 + 2 + s.size < t.size, t[1 + 2 + s.size] = 62 := by
    intro h
    refine at_list t _ ht _ h 62 ?_
    have e : 1 + 2 + s.size = s.size + 1 + 1 + 1 := by omega
    rw [e, List.getElem?_cons_succ, List.getElem?_cons_succ, List.getElem?_cons_succ, List.getElem?_append_right (by simp)]
    simp
  have hex : t.extract (1 + 2) (1 + 2 + s.size) = s := by
    apply ByteArray.ext
    rw [ByteArray.data_extract]
    apply Array.toList_inj.1
    rw [Array.toList_extract, ht, List.extract_eq_take_drop]
    show List.take (1 + 2 + s.size - (1 + 2)) (s.data.toList ++ 62 :: rest.data.toList) = s.data.toList
    have e : 1 + 2 + s.size - (1 + 2) = s.data.toList.length := by simp
    rw [e, List.take_left]
  simp only [hrun]
  rw [dif_pos (by omega), if_neg]
  · rw [hex]
    have e : 1 + 2 + s.size + 1 = s.size + 4 := by omega
    rw [e]
  · rintro (h | h)
    · omega
    · exact h (h62 (by omega))

theorem Pure.TagBack : targumlaw12_TagBack.Pure := by
  intro s rest l hs hr hl
  refine Ev.rounds (r := true) ?_
  unfold targumlaw12_TagBack.f
  rw [known_true]
  refine Ev.bind (Ev.now _) (ev_if_pos rfl ?_)
  have yes : Ev (fun k => targumlaw12_TagBack.j0 k s rest l true) true := by
    refine Ev.step (fun k => by rw [targumlaw12_TagBack.j0]) ?_
    exact ev_if_pos rfl (Ev.now _)
  by_cases h1 : (s.size : Int) > 100
  · exact ev_if_pos h1 yes
  refine ev_if_neg h1 ?_
  by_cases h2 : (rest.size : Int) > 50
  · exact ev_if_pos h2 yes
  refine ev_if_neg h2 ?_
  by_cases h3 : (l.length : Int) > 30
  · rw [decide_eq_true h3]
    exact yes
  rw [decide_eq_false h3]
  refine Ev.step (fun k => by rw [targumlaw12_TagBack.j0]) ?_
  refine ev_if_neg (by decide) ?_
  rw [write_prog s (by omega), good_prog s (by omega)]
  refine Ev.bind (Ev.now _) (Ev.bind (Ev.now _) ?_)
  by_cases hg : goodB s = true
  · refine ev_if_pos hg ?_
    have hw : writeB s = ((⟨#[33, 60]⟩ : ByteArray) ++ s) ++ (⟨#[62]⟩ : ByteArray) := if_pos hg
    have hws : (writeB s).size = s.size + 3 := by
      rw [hw, size_list _ (33 :: 60 :: (s.data.toList ++ [62])) (by simp [ByteArray.data_append])]
      simp
    have hga := good_all s hg
    have ht := back_list s rest
    rw [← hw] at ht
    have hsp := back_spec s rest hga.1 hga.2 _ ht
    have hts : ((⟨#[120]⟩ : ByteArray) ++ writeB s).size = s.size + 4 := by
      rw [ByteArray.size_append, hws]
      show 1 + (s.size + 3) = _
      omega
    have hts2 : (((⟨#[120]⟩ : ByteArray) ++ writeB s) ++ rest).size = s.size + 4 + rest.size := by
      rw [ByteArray.size_append, hts]
    refine ev_if_pos (by omega) (ev_if_pos (by omega) ?_)
    have hread := read_at (((⟨#[120]⟩ : ByteArray) ++ writeB s) ++ rest) 1 (by omega) hsp.1 (hsp.2.1 hsp.1)
    rw [hsp.2.2] at hread
    have hread2 : tagname_Read.f (((⟨#[120]⟩ : ByteArray) ++ writeB s) ++ rest) 1 = _ := hread
    rw [hread2]
    refine Ev.bind (Ev.now _) ?_
    have hx := expand_prog true ⟨#[]⟩ s l (by omega) (by omega) (fun x hx => (hl.1 x hx).2)
    have hx2 : expandS true ⟨#[]⟩ s (pairs l) = (s, true) := by
      unfold expandS
      exact if_pos rfl
    rw [hx2] at hx
    rw [show tagname_Expand.f (true, (⟨#[]⟩ : ByteArray), s, ((s.size + 4 : Nat) : Int), true).1 (true, (⟨#[]⟩ : ByteArray), s, ((s.size + 4 : Nat) : Int), true).2.1 (true, (⟨#[]⟩ : ByteArray), s, ((s.size + 4 : Nat) : Int), true).2.2.1 l = some (s, true) from hx]
    refine Ev.bind (Ev.now _) (ev_if_pos rfl (ev_if_pos ?_ (ev_if_pos ?_ (ev_if_pos rfl ?_))))
    · rw [hws, wrap_id (by omega) (by omega)]
      show ((s.size + 4 : Nat) : Int) = 1 + ((s.size + 3 : Nat) : Int)
      omega
    · rw [Bool.and_eq_true, Bool.and_eq_true, beq_iff_eq, beq_iff_eq]
      exact ⟨rfl, by rw [ByteArray.toList_eq], rfl⟩
    · rw [beq_self_eq_true]
      exact Ev.now _
  · refine ev_if_neg hg ?_
    have hw : writeB s = ⟨#[]⟩ := if_neg hg
    rw [hw, ByteArray.toList_eq]
    exact Ev.now _
end Go.Proofs.Ytmceepmchfjinaa.Q
