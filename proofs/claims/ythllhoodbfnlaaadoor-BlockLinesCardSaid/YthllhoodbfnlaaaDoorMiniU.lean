/- Mini: calls told over one row that was handed on: it is read, and new rows come back; or it is written. No condition. -/
import Derived.Test.YthllhoodbfnlaaaDoorMiniW
namespace Go.Mini
open Go Go.RowKit
set_option linter.unusedVariables false
set_option linter.unusedSimpArgs false
section
variable {P : Program} {w0 : Org P} {w : World} {μ : Mu} {h h' : Heap} {K K' : VK}

theorem blt_iff {a b : Nat} : Nat.blt a b = true ↔ a < b := by rw [Nat.blt_eq]
theorem Rep.ext (hr : Rep w0 μ h w) (e : ∀ k, h'.g k = h.g k) (en : h'.n = h.n) : Rep w0 μ h' w :=
  ⟨hr.below, fun i b hi => by rw [en]; exact hr.fin i b (by rw [← e]; exact hi), fun i b hi => by rw [en]; exact hr.reads i b (by rw [← e]; exact hi), fun i b hi => hr.ghost i b (by rw [← e]; exact hi),
    fun i b hi => hr.owns i b (by rw [← e]; exact hi), fun i b hi => hr.old i b (by rw [← e]; exact hi), hr.rest, fun i b hi => hr.free i b (by rw [← e]; exact hi), fun i b hi => hr.sz i b (by rw [← e]; exact hi),
    fun i b hi => hr.d0 i b (by rw [← e]; exact hi), fun i j b c hij hi hj => hr.apart i j b c hij (by rw [← e]; exact hi) (by rw [← e]; exact hj)⟩
/-- The same heap, told otherwise. -/
theorem ACalls.same {f : Nat} {vs : List Value} (hh : ACalls P f vs h K') (hk : ∀ v h', (∀ i b, h.g i = some b → i < h.n) → K' v h' → ∃ h'', h''.n = h'.n ∧ (∀ k, k < h'.n → h''.g k = h'.g k) ∧ (∀ k, h'.n ≤ k → h''.g k = none) ∧ K v h'') : ACalls P f vs h K := by
  refine ⟨hh.1, fun w0 μ w vs' hr hv => (hh.2 w0 μ w vs' hr hv).mono ?_⟩
  rintro e w' ⟨v, v', h', μ', h1, h2, h3, h4, h5⟩
  obtain ⟨h'', q1, q2, q3, q4⟩ := hk v h' hr.fin h5
  have e : ∀ k, h''.g k = h'.g k := fun k => by
    rcases Nat.lt_or_ge k h'.n with hlt | hge
    · exact q2 k hlt
    · rw [q3 k hge]
      cases hx : h'.g k with
      | none => rfl
      | some b => have := h3.fin k b hx; omega
  exact ⟨v, v', h'', μ', h1, by rw [q1]; exact h2, h3.ext e q1, by rw [q1]; exact h4, q4⟩

theorem renA_clean {ρ : Nat → Option Nat} {v : Value} (h : clean v = true) : renA ρ v = v := by
  unfold clean at h
  unfold renA
  split at h
  · rename_i cs
    dsimp only
    congr 1
    exact Array.toList_inj.1 (by simpa using (List.map_congr_left (g := id) fun v hv => ren_flat (List.all_eq_true.1 h v hv)).trans (List.map_id _))
  · rename_i hne
    split
    · rename_i cs; exact absurd rfl (hne cs)
    · exact ren_flat h
theorem renT_clean {ρ : Nat → Option Nat} {v : Value} (h : cleanT v = true) : renT ρ v = v := by
  unfold cleanT at h
  unfold renT
  split at h
  · rename_i cs
    dsimp only
    congr 1
    exact Array.toList_inj.1 (by simpa using (List.map_congr_left (g := id) fun v hv => renA_clean (List.all_eq_true.1 h v hv)).trans (List.map_id _))
  · rename_i hne
    split
    · rename_i cs; exact absurd rfl (hne cs)
    · exact renA_clean h
theorem view_one {r : Nat} {b : Blk} {o : Bool} (hr : Nat.blt r h.n = true) (hg : h.g r = some ⟨b.ty, b.sz, b.cells, o⟩) (hfl : b.cells.all flatV = true) (ho : b.own = true → o = true) : View (fun j => [some r].getD j none) (lit [some b]) h := by
  have hg0 : ∀ {j c}, (lit [some b]).g j = some c → j = 0 ∧ c = b := fun {j c} hj => by
    rw [lit_g] at hj
    cases j with
    | zero => exact ⟨rfl, (Option.some.inj hj).symm⟩
    | succ j => simp at hj
  have hρ : ∀ {j k}, ([some r] : List (Option Nat)).getD j none = some k → k = r := fun {j k} hj => by
    cases j with
    | zero => exact (Option.some.inj hj).symm
    | succ j => simp at hj
  refine ⟨fun j k hj hk => ?_, fun j c hj => ?_, fun i j c d k hi hj _ _ => ?_, fun j c k hj hk => ?_, fun j c hj hk => ?_⟩
  · rw [hρ hk]; exact blt_iff.1 hr
  · obtain ⟨rfl, _⟩ := hg0 hj; exact Nat.zero_lt_one
  · rw [(hg0 hi).1, (hg0 hj).1]
  · obtain ⟨rfl, rfl⟩ := hg0 hj
    rw [hρ hk]
    refine ⟨List.all_eq_true.2 fun v hv => okF_flat (List.all_eq_true.1 hfl v hv), o, ?_, ho⟩
    rw [hg]
    congr 2
    exact ((List.map_congr_left (g := id) fun v hv => ren_flat (List.all_eq_true.1 hfl v hv)).trans (List.map_id _)).symm
  · obtain ⟨rfl, rfl⟩ := hg0 hj
    cases hk
/-- One row is read; rows of its own come back. -/
theorem ACalls.reads1 {f : Nat} {vsc : List Value} {r : Nat} {b : Blk} {o : Bool} {v0 : Value} {L : List Blk} (hr : Nat.blt r h.n = true) (hg : h.g r = some ⟨b.ty, b.sz, b.cells, o⟩) (hfl : b.cells.all flatV = true) (hb : b.own = false) (hok : vsc.all (okT 1) = true) (hL : L.all (·.own) = true)
    (hh : ACalls P f vsc (lit [some b]) (InV 1 fun v h' => v = v0 ∧ h' = lit ((b :: L).map some))) (hK : K (renT (tgt [some r] h.n 1) v0) (addAll h (L.map (renB (tgt [some r] h.n 1))))) :
    ACalls P f (vsc.map (renT fun j => [some r].getD j none)) h K := by
  have h1 : ACalls P f vsc (lit [some b]) (fun v h' => v = v0 ∧ h' = lit ((b :: L).map some)) := ACalls.inV hh
  refine ACalls.same (K' := fun v h' => v = renT (tgt [some r] h.n 1) v0 ∧ h' = after [some r] h (lit [some b]) (lit ((b :: L).map some))) ?_ ?_
  · exact ACalls.frame [some r] rfl (view_one hr hg hfl (fun e => by rw [hb] at e; cases e)) hok (h1.mono fun v h' ⟨q1, q2⟩ => ⟨by rw [q1]; rfl, by rw [q2]⟩)
  · rintro v h' hfin ⟨rfl, rfl⟩
    have hlen : (lit ((b :: L).map some)).n = L.length + 1 := by simp [lit]
    have hn : (after [some r] h (lit [some b]) (lit ((b :: L).map some))).n = h.n + L.length := by
      show h.n + ((lit ((b :: L).map some)).n - 1) = _
      rw [hlen]; omega
    refine ⟨_, by rw [hn]; simp [addAll], fun k hk => ?_, fun k hk => ?_, hK⟩
    · rw [hn] at hk
      have e1 : (after [some r] h (lit [some b]) (lit ((b :: L).map some))).g k = afterAt [some r] h (lit [some b]) (lit ((b :: L).map some)) k := by
        show mrow (rowsBy _ _ 0) k = _
        rw [rowsBy_at, Nat.zero_add, if_pos]
        show k < h.n + ((lit ((b :: L).map some)).n - 1)
        rw [hlen]; omega
      rw [e1, addAll_g, List.length_map]
      unfold afterAt
      by_cases h2 : k < h.n
      · rw [if_neg (by omega), show Nat.blt k h.n = true from blt_iff.2 h2]
        have : idx (lit [some b]) k [some r] 0 = none := by
          have e : (lit [some b]).g 0 = some b := rfl
          simp only [idx, e, hb, Bool.and_false, cond_false]
        rw [this]; rfl
      · rw [if_pos (by omega), show Nat.blt k h.n = false from by cases e : Nat.blt k h.n; rfl; exact absurd (blt_iff.1 e) h2]
        show _ = back [some r] h (lit [some b]) (lit ((b :: L).map some)) (k - h.n + 1)
        unfold back
        have hlt : k - h.n < L.length := by omega
        have e : (lit ((b :: L).map some)).g (k - h.n + 1) = some L[k - h.n] := by
          rw [lit_g, List.getD_eq_getElem?_getD, List.map_cons, List.getElem?_cons_succ, List.getElem?_map, List.getElem?_eq_getElem hlt]; rfl
        rw [e]
        dsimp only
        rw [show L[k - h.n].own = true from List.all_eq_true.1 hL _ (List.getElem_mem hlt), List.getElem?_map, List.getElem?_eq_getElem hlt]
        rfl
    · rw [hn] at hk
      rw [addAll_g, List.length_map, if_neg (by omega)]
      cases hx : h.g k with
      | none => rfl
      | some c => have := hfin k c hx; omega
/-- One row is written; a plain value comes back. -/
theorem ACalls.writes1 {f : Nat} {vsc : List Value} {r : Nat} {b b2 : Blk} {v0 : Value} (hr : Nat.blt r h.n = true) (hg : h.g r = some b) (hfl : b.cells.all flatV = true) (hfl2 : b2.cells.all flatV = true) (hb : b.own = true) (hb2 : b2.own = true) (hok : vsc.all (okT 1) = true) (hv : cleanT v0 = true)
    (hh : ACalls P f vsc (lit [some b]) (InV 1 fun v h' => v = v0 ∧ h' = lit [some b2])) (hK : K v0 (h.upd r (some b2))) :
    ACalls P f (vsc.map (renT fun j => [some r].getD j none)) h K := by
  have h1 : ACalls P f vsc (lit [some b]) (fun v h' => v = v0 ∧ h' = lit [some b2]) := ACalls.inV hh
  have hlt := blt_iff.1 hr
  refine ACalls.same (K' := fun v h' => v = renT (tgt [some r] h.n 1) v0 ∧ h' = after [some r] h (lit [some b]) (lit [some b2])) ?_ ?_
  · exact ACalls.frame [some r] rfl (view_one (b := b) (o := b.own) hr (by rw [hg]) hfl (fun e => e)) hok (h1.mono fun v h' ⟨q1, q2⟩ => ⟨by rw [q1]; rfl, by rw [q2]⟩)
  · rintro v h' hfin ⟨rfl, rfl⟩
    have hn : (after [some r] h (lit [some b]) (lit [some b2])).n = h.n := rfl
    refine ⟨h.upd r (some b2), rfl, fun k hk => ?_, fun k hk => ?_, ?_⟩
    · rw [hn] at hk
      have e1 : (after [some r] h (lit [some b]) (lit [some b2])).g k = afterAt [some r] h (lit [some b]) (lit [some b2]) k := by
        show mrow (rowsBy _ _ 0) k = _
        rw [rowsBy_at, Nat.zero_add, if_pos]
        exact hk
      have e0 : (lit [some b]).g 0 = some b := rfl
      rw [e1, Heap.upd_g]
      unfold afterAt
      rw [show Nat.blt k h.n = true from blt_iff.2 hk]
      simp only [cond_true, idx, e0, hb, Bool.and_true]
      by_cases e : k = r
      · subst e
        rw [if_pos rfl, Nat.beq_refl]
        show some b2 = back [some k] h (lit [some b]) (lit [some b2]) 0
        unfold back
        rw [show (lit [some b2]).g 0 = some b2 from rfl]
        dsimp only
        rw [hb2]
        show some b2 = some (renB _ b2)
        congr 1
        unfold renB
        rw [show b2.cells.map (ren (tgt [some k] h.n (lit [some b]).n)) = b2.cells from (List.map_congr_left (g := id) fun v hv => ren_flat (List.all_eq_true.1 hfl2 v hv)).trans (List.map_id _)]
      · rw [if_neg e, show Nat.beq r k = false from by cases hx : Nat.beq r k; rfl; exact absurd (Nat.eq_of_beq_eq_true hx).symm e]
        rfl
    · rw [hn] at hk
      rw [Heap.upd_g, if_neg (by omega)]
      cases hx : h.g k with
      | none => rfl
      | some c => have := hfin k c hx; omega
    · rw [renT_clean hv]; exact hK
end
end Go.Mini
