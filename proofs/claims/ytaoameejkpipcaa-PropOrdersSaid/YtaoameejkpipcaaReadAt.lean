/- What the properties' reader does at a tag between < and >, at an anchor, at anything else, told over lists of bytes. No condition but sizes. -/
import Derived.Test.YtaoameejkpipcaaAliasAt
namespace Go.Proofs.Ytaoameejkpipcaa.Q
open Go Go.RowKit Go.Proofs.YtaoameejkpipcaaW.PrintWords Go.Proofs.YtaoameejkpipcaaW.PrintLast Go.Proofs.YtaoameejkpipcaaW.PrintMore
set_option linter.unusedVariables false
set_option linter.unusedSimpArgs false

theorem drop_more {l a b : List UInt8} {n m : Nat} (h : l.drop n = a ++ b) (hm : m = n + a.length) : l.drop m = b := by
  rw [hm, ← List.drop_drop, h]
  simp

theorem drop_len {l r : List UInt8} {n : Nat} (h : l.drop n = r) (hr : r ≠ []) : l.length = n + r.length := by
  have := congrArg List.length h
  rw [List.length_drop] at this
  have := List.length_pos_iff.2 hr
  omega

theorem both_ev (v : Int) (s : ByteArray) (flow : Bool) (p : prop_Read.St) (n e : Nat) (rest : List UInt8) (r : prop_Read.R) (hs : s.size ≤ 1000000) (he : e ≤ s.size) (hd : s.data.toList.drop e = rest) (hst : stopL (v == 11) flow rest = true)
    (h : Ev (fun k => prop_Read.l0 k v s flow { p with has := true, pat := if p.has = true then p.pat else (n : Int), pend := (e : Int) } ((e + blanksL rest : Nat) : Int)) r) :
    Ev (fun k => prop_Read.both k v s flow (prop_Read.l0 k v s flow) p n e true) r := by
  unfold prop_Read.both
  refine ev_if_pos rfl ?_
  have st := stop_prog v s (e : Int) flow (by omega) (by omega)
  rw [stopB_list v s e flow he, hd, hst] at st
  rw [st]
  refine Ev.bind (Ev.now _) (ev_if_pos rfl (Ev.bind ?_ h))
  unfold rows_Over.f
  rw [← hd]
  exact over_prog s (by omega) s.size e (by omega)

theorem anchor_ev (v : Int) (s : ByteArray) (flow : Bool) (p : prop_Read.St) (n : Nat) (nm rest : List UInt8) (r : prop_Read.R) (hs : s.size ≤ 1000000) (hd : s.data.toList.drop n = 38 :: (nm ++ rest)) (hn : nm ≠ []) (hall : ∀ c ∈ nm, nameB c = true) (hr : ∀ c ∈ rest.head?, nameB c = false)
    (ha : p.anchor.toList = []) (hst : stopL (v == 11) flow rest = true)
    (h : Ev (fun k => prop_Read.l0 k v s flow { p with anchor := ⟨nm.toArray⟩, pname := (n : Int) + 1, has := true, pat := if p.has = true then p.pat else (n : Int), pend := ((n + 1 + nm.length : Nat) : Int) } ((n + 1 + nm.length + blanksL rest : Nat) : Int)) r) :
    Ev (fun k => prop_Read.l0 k v s flow p (n : Int)) r := by
  have hlen := drop_len hd (by simp)
  rw [← size_list, List.length_cons, List.length_append] at hlen
  have hl : 0 < nm.length := List.length_pos_iff.2 hn
  have hb := bt_list s n 38 _ hd
  have d1 : s.data.toList.drop (n + 1) = nm ++ rest := drop_more (a := [38]) hd rfl
  have d2 : s.data.toList.drop (n + 1 + nm.length) = rest := drop_more d1 rfl
  have hrun : run nameB s (n + 1) = nm.length := by unfold run; rw [d1, rowN_append _ _ _ hall, rowN_stop _ _ hr]; rfl
  have np : Ev (fun k => prop_name.f k s ((n : Int) + 1)) ((n + 1 + nm.length : Nat) : Int) := by
    rw [← hrun]
    exact name_prog s (by omega) s.size (n + 1) (by omega) (by omega)
  have ex : s.extract (n + 1) (n + 1 + nm.length) = ⟨nm.toArray⟩ := ba_ext (by rw [extract_list, d1]; simp)
  refine Ev.step (fun k => by rw [prop_Read.l0]) (ev_if_neg (by omega) (ev_if_neg (by rw [hb.2]; decide) (ev_if_pos (by rw [hb.2]; rfl) (ev_if_pos ha (Ev.bind np (ev_if_pos (show (n : Int) + 1 ≤ ((n + 1 + nm.length : Nat) : Int) ∧ ((n + 1 + nm.length : Nat) : Int) ≤ (s.size : Int) from by omega) ?_))))))
  rw [decide_eq_true (by omega), show ((n : Int) + 1).toNat = n + 1 from by omega, Int.toNat_natCast, ex]
  exact both_ev v s flow _ n (n + 1 + nm.length) rest r hs (by omega) d2 hst h

theorem tag_ev (v : Int) (s : ByteArray) (flow : Bool) (p : prop_Read.St) (n : Nat) (tg rest : List UInt8) (r : prop_Read.R) (hs : s.size ≤ 1000000) (hd : s.data.toList.drop n = 33 :: 60 :: (tg ++ 62 :: rest)) (hn : tg ≠ []) (hall : ∀ c ∈ tg, signB c = true)
    (ht : p.tagged = false) (hst : stopL (v == 11) flow rest = true)
    (h : Ev (fun k => prop_Read.l0 k v s flow { p with tagged := true, verb := true, handle := ⟨#[]⟩, suffix := ⟨tg.toArray⟩, has := true, pat := if p.has = true then p.pat else (n : Int), pend := ((n + 3 + tg.length : Nat) : Int) } ((n + 3 + tg.length + blanksL rest : Nat) : Int)) r) :
    Ev (fun k => prop_Read.l0 k v s flow p (n : Int)) r := by
  have hlen := drop_len hd (by simp)
  rw [← size_list, List.length_cons, List.length_cons, List.length_append, List.length_cons] at hlen
  have hl : 0 < tg.length := List.length_pos_iff.2 hn
  have hb := bt_list s n 33 _ hd
  have hlt : n < s.size := hb.1
  have h33 : s[n] = 33 := (byte_eq _ _).1 (by rw [← bt_nat s n hlt]; exact hb.2)
  have d1 : s.data.toList.drop (n + 1) = 60 :: (tg ++ 62 :: rest) := drop_more (a := [33]) hd rfl
  have d2 : s.data.toList.drop (n + 2) = tg ++ 62 :: rest := drop_more (a := [33, 60]) hd rfl
  have d3 : s.data.toList.drop (n + 2 + tg.length) = 62 :: rest := drop_more d2 rfl
  have d4 : s.data.toList.drop (n + 3 + tg.length) = rest := drop_more (a := [62]) d3 (by simp; omega)
  have hb1 := bt_list s (n + 1) 60 _ d1
  have hlt1 : n + 1 < s.size := hb1.1
  have h60 : s[n + 1] = 60 := (byte_eq _ _).1 (by rw [← bt_nat s (n + 1) hlt1]; exact hb1.2)
  have hb3 := bt_list s (n + 2 + tg.length) 62 _ d3
  have hrun : run signB s (n + 2) = tg.length := by unfold run; rw [d2, rowN_append _ _ _ hall, rowN_stop _ _ (by intro c hc; simp at hc; rw [← hc]; decide)]; rfl
  have ex : s.extract (n + 2) (n + 2 + tg.length) = ⟨tg.toArray⟩ := ba_ext (by rw [extract_list, d2]; simp)
  have hsp : specR s n = (true, ⟨#[]⟩, ⟨tg.toArray⟩, ((n + 3 + tg.length : Nat) : Int), true) := by
    unfold specR
    rw [dif_pos ⟨hlt1, h60⟩]
    have hlt3 : n + 2 + run signB s (n + 2) < s.size := by rw [hrun]; exact hb3.1
    rw [dif_pos hlt3]
    have h62 : s[n + 2 + run signB s (n + 2)] = 62 := by
      refine (byte_eq _ _).1 (?_ : (((s[n + 2 + run signB s (n + 2)]).toNat : Nat) : Int) = _)
      rw [← bt_nat s _ hlt3, hrun]
      exact hb3.2
    rw [if_neg (by rw [h62, hrun]; simp; exact hn)]
    rw [hrun, ex]
    congr 5
    omega
  have pr := read_at s n hs hlt h33
  refine Ev.step (fun k => by rw [prop_Read.l0]) (ev_if_neg (by omega) (ev_if_pos (by rw [hb.2]; rfl) (ev_if_neg (by rw [ht]; decide) ?_)))
  rw [pr, hsp]
  refine Ev.bind (Ev.now _) ?_
  exact both_ev v s flow _ n (n + 3 + tg.length) rest r hs (by omega) d4 hst h

/-- Neither a tag nor an anchor stands there. -/
theorem out_ev (v : Int) (s : ByteArray) (flow : Bool) (p : prop_Read.St) (n : Nat) (hd : ∀ c ∈ (s.data.toList.drop n).head?, c ≠ 33 ∧ c ≠ 38) : Ev (fun k => prop_Read.l0 k v s flow p (n : Int)) (p.out n) := by
  refine Ev.step (fun k => by rw [prop_Read.l0]) ?_
  by_cases h : (n : Int) < 0 ∨ (n : Int) ≥ (s.size : Int)
  · exact ev_if_pos h (Ev.now _)
  · have hn : n < s.size := by omega
    have hc := hd s[n] (by rw [drop_cons s n hn]; rfl)
    refine ev_if_neg h (ev_if_neg ?_ (ev_if_neg ?_ (Ev.now _)))
    · rw [bt_nat s n hn]; exact fun e => hc.1 ((byte_eq _ 33).1 e)
    · rw [bt_nat s n hn]; exact fun e => hc.2 ((byte_eq _ 38).1 e)

theorem twice_tag (v : Int) (s : ByteArray) (flow : Bool) (p : prop_Read.St) (n : Nat) (l : List UInt8) (hd : s.data.toList.drop n = 33 :: l) (ht : p.tagged = true) : Ev (fun k => prop_Read.l0 k v s flow p (n : Int)) (prop_Read.wrong n) := by
  have hb := bt_list s n 33 _ hd
  exact Ev.step (fun k => by rw [prop_Read.l0]) (ev_if_neg (by omega) (ev_if_pos (by rw [hb.2]; rfl) (ev_if_pos ht (Ev.now _))))
theorem twice_anchor (v : Int) (s : ByteArray) (flow : Bool) (p : prop_Read.St) (n : Nat) (l : List UInt8) (hd : s.data.toList.drop n = 38 :: l) (ha : ¬ p.anchor.toList = []) : Ev (fun k => prop_Read.l0 k v s flow p (n : Int)) (prop_Read.wrong n) := by
  have hb := bt_list s n 38 _ hd
  exact Ev.step (fun k => by rw [prop_Read.l0]) (ev_if_neg (by omega) (ev_if_neg (by rw [hb.2]; decide) (ev_if_pos (by rw [hb.2]; rfl) (ev_if_neg ha (Ev.now _)))))

theorem prop_read_l0 (v : Int) (s : ByteArray) (flow : Bool) (n : Int) (r : prop_Read.R) (hs : s.size ≤ 1000000) (h : Ev (fun k => prop_Read.l0 k v s flow prop_Read.zero n) r) : Ev (fun k => prop_Read.f k v s n flow) r := by
  unfold prop_Read.f
  exact ev_if_pos (by omega) h

theorem name_sign (c : UInt8) (h : nameB c = true) : signB c = true := by
  have : ∀ c : UInt8, nameB c = true → signB c = true := all_bytes (p := fun c => nameB c = true → signB c = true) (by decide +kernel)
  exact this c h
end Go.Proofs.Ytaoameejkpipcaa.Q
