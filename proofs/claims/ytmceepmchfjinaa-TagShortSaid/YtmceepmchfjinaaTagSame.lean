/- The plain law of tags: both expand, judge and write the same. -/
import Derived.Test.YtmceepmchfjinaaTagRef
namespace Go.Proofs.Ytmceepmchfjinaa.Q
open Go.RowKit Go.Proofs.YtmceepmchfjinaaW.PrintWords Go.Proofs.YtmceepmchfjinaaW.PrintLast Go.Proofs.YtmceepmchfjinaaW.PrintMore
set_option linter.unusedVariables false
set_option linter.unusedSimpArgs false

theorem known_true : targumlaw12_known.f = some true := by decide +kernel

theorem toList_inj {a b : ByteArray} : a.toList = b.toList ↔ a = b := by
  rw [ByteArray.toList_eq, ByteArray.toList_eq]
  constructor
  · intro h
    exact ByteArray.ext (Array.ext' h)
  · rintro rfl
    rfl

/-! ### Good, Write -/
theorem rowN_all (p : UInt8 → Bool) : ∀ l : List UInt8, rowN p l = l.length ↔ ∀ c ∈ l, p c = true
  | [] => by simp [rowN]
  | c :: l => by
    unfold rowN
    have := rowN_le p l
    have ih := rowN_all p l
    cases h : p c
    · simp [h]
    · simp [h, ih]

def goodB (s : ByteArray) : Bool := decide (0 < s.size) && decide (run signB s 0 = s.size)

theorem good_prog (s : ByteArray) (hs : s.size ≤ 1000000) : tagname_Good.f s = some (goodB s) := by
  have hr := row_at s 0 20 signB hs (.inl rfl) pred_sign
  have e : s.extract 0 s.size = s := by simp
  rw [e] at hr
  unfold tagname_Good.f goodB
  by_cases h0 : s.size = 0
  · have : s.toList = [] := by
      rw [ByteArray.toList_eq]
      exact List.eq_nil_of_length_eq_zero (by simpa using h0)
    rw [if_pos this, decide_eq_false (by omega), Bool.false_and]
  · have : ¬ s.toList = [] := by
      intro h
      rw [ByteArray.toList_eq] at h
      have h1 := congrArg List.length h
      rw [Array.length_toList, List.length_nil] at h1
      exact h0 h1
    rw [if_neg this, hr, Option.bind_some, decide_eq_true (by omega), Bool.true_and]
    congr 1
    rw [Bool.eq_iff_iff, beq_iff_eq, decide_eq_true_iff]
    omega

theorem good_ref_run (s : ByteArray) (hs : s.size ≤ 1000000) : ∀ (d q : Nat), q ≤ s.size → s.size - q = d → Ev (fun k => targumref12_Good.l0 k s (q : Int)) (decide (0 < s.size) && decide (q + run signB s q = s.size)) := by
  intro d
  induction d with
  | zero =>
    intro q h2 h3
    refine Ev.step (fun k => by rw [targumref12_Good.l0]) ?_
    rw [run_end _ _ _ (by omega), decide_eq_true (p := q + 0 = s.size) (by omega), Bool.and_true]
    refine ev_if_neg (by omega) ?_
    have e : decide ((s.size : Int) > 0) = decide (0 < s.size) := by
      rw [Bool.eq_iff_iff]
      simp
    rw [e]
    exact Ev.now _
  | succ d ih =>
    intro q h2 h3
    have hlt : q < s.size := by omega
    refine Ev.step (fun k => by rw [targumref12_Good.l0]) ?_
    refine ev_if_pos (by omega) (ev_if_pos (by omega) ?_)
    rw [bt_nat s q hlt]
    refine Ev.bind (ref_sign s[q]) ?_
    cases hb : signB s[q] with
    | true =>
      refine ev_if_pos rfl ?_
      have e2 : wrap64 ((q : Int) + 1) = ((q + 1 : Nat) : Int) := by rw [wrap_id (by omega) (by omega)]; omega
      rw [e2, run_yes signB s q hlt hb]
      have := ih (q + 1) (by omega) (by omega)
      rw [show q + (run signB s (q + 1) + 1) = q + 1 + run signB s (q + 1) from by omega]
      exact this
    | false =>
      rw [run_no signB s q hlt hb, decide_eq_false (p := q + 0 = s.size) (by omega), Bool.and_false]
      exact ev_if_neg (by decide) (Ev.now _)

theorem good_ref (s : ByteArray) (hs : s.size ≤ 1000000) : Ev (fun k => targumref12_Good.f k s) (goodB s) := by
  have := good_ref_run s hs s.size 0 (by omega) (by omega)
  rw [Nat.zero_add] at this
  exact this

def writeB (s : ByteArray) : ByteArray := if goodB s = true then ((⟨#[33, 60]⟩ : ByteArray) ++ s) ++ (⟨#[62]⟩ : ByteArray) else ⟨#[]⟩

theorem write_prog (s : ByteArray) (hs : s.size ≤ 1000000) : tagname_Write.f s = some (writeB s) := by
  unfold tagname_Write.f
  rw [if_pos (by omega), good_prog s hs]
  rfl

theorem write_ref (s : ByteArray) (hs : s.size ≤ 1000000) : Ev (fun k => targumref12_Write.f k s) (writeB s) := by
  unfold targumref12_Write.f
  refine Ev.bind (good_ref s hs) ?_
  cases hg : goodB s
  · have hw : writeB s = ⟨#[]⟩ := if_neg (by rw [hg]; decide)
    rw [hw]
    exact ev_if_neg (by decide) (Ev.now _)
  · have hw : writeB s = ((⟨#[33, 60]⟩ : ByteArray) ++ s) ++ (⟨#[62]⟩ : ByteArray) := if_pos hg
    rw [hw]
    refine ev_if_pos rfl (ev_if_pos (by omega) (ev_if_pos ?_ (Ev.now _)))
    rw [ByteArray.size_append]
    show 2 + s.size + 1 ≤ _
    omega

/-! ### Expand -/
def lastH (h : ByteArray) : List (ByteArray × ByteArray) → Option ByteArray
  | [] => none
  | p :: l => match lastH h l with | some q => some q | none => if p.1 = h then some p.2 else none

theorem lastH_snoc (h : ByteArray) (p : ByteArray × ByteArray) : ∀ l, lastH h (l ++ [p]) = if p.1 = h then some p.2 else lastH h l
  | [] => by simp [lastH]
  | q :: l => by
    simp only [List.cons_append, lastH, lastH_snoc h p l]
    by_cases hp : p.1 = h
    · simp [hp]
    · simp [hp]

theorem lastH_mem (h : ByteArray) : ∀ (l : List (ByteArray × ByteArray)) (q : ByteArray), lastH h l = some q → ∃ p ∈ l, p.2 = q
  | [], q => by simp [lastH]
  | p :: l, q => by
    intro hq
    unfold lastH at hq
    cases hl : lastH h l with
    | some r =>
      rw [hl] at hq
      obtain rfl := Option.some.inj hq
      obtain ⟨p', hp', e⟩ := lastH_mem h l r hl
      exact ⟨p', List.mem_cons_of_mem _ hp', e⟩
    | none =>
      rw [hl] at hq
      simp only at hq
      split at hq
      · obtain rfl := Option.some.inj hq
        exact ⟨p, List.mem_cons_self, rfl⟩
      · cases hq

theorem lastH_cons (h : ByteArray) (p : ByteArray × ByteArray) (l : List (ByteArray × ByteArray)) : lastH h (p :: l) = match lastH h l with | some q => some q | none => if p.1 = h then some p.2 else none := rfl

theorem getA_fold (h : ByteArray) : ∀ (l base : List (ByteArray × ByteArray)), getA h (l.foldl (fun m p => putA p.1 p.2 m) base) = (match lastH h l with | some q => some q | none => getA h base)
  | [], base => rfl
  | p :: l, base => by
    rw [List.foldl_cons, getA_fold h l, getA_putA, lastH_cons]
    cases hl : lastH h l with
    | some q => rfl
    | none =>
      by_cases hp : p.1 = h
      · simp [hp]
      · simp [hp]

/-- What stands for a handle, if no one is given. -/
def baseH (h : ByteArray) : Option ByteArray := if h.toList = [33] then some ⟨#[33]⟩ else if h.toList = [33, 33] then some ⟨#[116, 97, 103, 58, 121, 97, 109, 108, 46, 111, 114, 103, 44, 50, 48, 48, 50, 58]⟩ else none
def theH (h : ByteArray) (l : List (ByteArray × ByteArray)) : Option ByteArray := match lastH h l with | some q => some q | none => baseH h

theorem getA_handles (h : ByteArray) (l : List (ByteArray × ByteArray)) : getA h (handles l) = theH h l := by
  unfold handles theH
  rw [getA_fold]
  have hb : getA h [((⟨#[33]⟩ : ByteArray), (⟨#[33]⟩ : ByteArray)), (⟨#[33, 33]⟩, ⟨#[116, 97, 103, 58, 121, 97, 109, 108, 46, 111, 114, 103, 44, 50, 48, 48, 50, 58]⟩)] = baseH h := by
    have e1 : (⟨#[33]⟩ : ByteArray) = h ↔ h.toList = [33] := by
      constructor
      · rintro rfl
        rw [ByteArray.toList_eq]
      · intro e
        exact (toList_inj.1 (by rw [e, ByteArray.toList_eq])).symm
    have e2 : (⟨#[33, 33]⟩ : ByteArray) = h ↔ h.toList = [33, 33] := by
      constructor
      · rintro rfl
        rw [ByteArray.toList_eq]
      · intro e
        exact (toList_inj.1 (by rw [e, ByteArray.toList_eq])).symm
    unfold getA baseH
    by_cases h1 : h.toList = [33]
    · rw [if_pos (e1.2 h1), if_pos h1]
    · rw [if_neg (fun e => h1 (e1.1 e)), if_neg h1]
      unfold getA
      by_cases h2 : h.toList = [33, 33]
      · rw [if_pos (e2.2 h2), if_pos h2]
      · rw [if_neg (fun e => h2 (e2.1 e)), if_neg h2]
        rfl
  rw [hb]

def expandS (v : Bool) (h s : ByteArray) (l : List (ByteArray × ByteArray)) : ByteArray × Bool :=
  if v = true then (s, true) else if h.toList = [33] ∧ s.toList = [] then (⟨#[33]⟩, true) else match theH h l with | some p => (p ++ s, true) | none => (⟨#[]⟩, false)

theorem baseH_size {h q : ByteArray} (hq : baseH h = some q) : q.size ≤ 18 := by
  unfold baseH at hq
  split at hq
  · obtain rfl := Option.some.inj hq
    decide
  · split at hq
    · obtain rfl := Option.some.inj hq
      decide
    · cases hq

def pairs (l : List S39) : List (ByteArray × ByteArray) := l.map fun x => (x.f0, x.f1)

theorem theH_size {h q : ByteArray} {l : List S39} (hl : ∀ x ∈ l, x.f1.size ≤ 140737488351232) (hq : theH h (pairs l) = some q) : q.size ≤ 140737488351232 := by
  unfold theH at hq
  cases hh : lastH h (pairs l) with
  | some r =>
    rw [hh] at hq
    obtain rfl := Option.some.inj hq
    obtain ⟨p, hp, rfl⟩ := lastH_mem h _ _ hh
    obtain ⟨x, hx, rfl⟩ := List.mem_map.1 hp
    exact hl x hx
  | none =>
    rw [hh] at hq
    have := baseH_size hq
    omega

theorem expand_prog (v : Bool) (h s : ByteArray) (l : List S39) (hs : s.size ≤ 140737488351232) (hn : l.length ≤ 140737488351232) (hl : ∀ x ∈ l, x.f1.size ≤ 140737488351232) : tagname_Expand.f v h s l = some (expandS v h s (pairs l)) := by
  unfold tagname_Expand.f
  rw [if_pos (by omega)]
  unfold expandF expandS
  cases v
  · simp only [Bool.false_eq_true, if_false]
    have e : ((h.toList == [33] && s.toList.isEmpty) = true) ↔ (h.toList = [33] ∧ s.toList = []) := by
      rw [Bool.and_eq_true, beq_iff_eq, List.isEmpty_iff]
    by_cases hc : h.toList = [33] ∧ s.toList = []
    · rw [if_pos (e.2 hc), if_pos hc]
    · rw [if_neg (fun x => hc (e.1 x)), if_neg hc, getA_handles]
      show (match theH h (pairs l) with | none => _ | some p => _) = _
      cases hq : theH h (pairs l) with
      | none => rfl
      | some q =>
        have := theH_size hl hq
        simp only
        rw [if_pos (by omega)]
  · rfl

theorem expand_ref_run (v : Bool) (h s : ByteArray) (l : List S39) (hs : s.size ≤ 140737488351232) (hn : l.length ≤ 140737488351232) (hl : ∀ x ∈ l, x.f1.size ≤ 140737488351232) : ∀ j : Nat, j ≤ l.length →
    Ev (fun k => targumref12_Expand.l0 k l ((j : Int) - 1) v h s) (match theH h (pairs (l.take j)) with | some p => (p ++ s, true) | none => (⟨#[]⟩, false)) := by
  intro j
  induction j with
  | zero =>
    intro _
    refine Ev.step (fun k => by rw [targumref12_Expand.l0]) ?_
    refine ev_if_neg (by omega) ?_
    have e : theH h (pairs (l.take 0)) = baseH h := rfl
    rw [e]
    by_cases h1 : h.toList = [33]
    · have eb : baseH h = some ⟨#[33]⟩ := if_pos h1
      rw [eb]
      exact ev_if_pos h1 (ev_if_pos (by omega) (Ev.now _))
    · refine ev_if_neg h1 ?_
      by_cases h2 : h.toList = [33, 33]
      · have eb : baseH h = some ⟨#[116, 97, 103, 58, 121, 97, 109, 108, 46, 111, 114, 103, 44, 50, 48, 48, 50, 58]⟩ := (if_neg h1).trans (if_pos h2)
        rw [eb]
        exact ev_if_pos h2 (ev_if_pos (by omega) (Ev.now _))
      · have eb : baseH h = none := (if_neg h1).trans (if_neg h2)
        rw [eb]
        exact ev_if_neg h2 (Ev.now _)
  | succ j ih =>
    intro hj
    have hlt : j < l.length := by omega
    have e0 : ((j + 1 : Nat) : Int) - 1 = (j : Int) := by omega
    have erd : rd_T39 l (j : Int) = l[j] := by unfold rd_T39; simp [hlt, List.getD]
    rw [e0]
    refine Ev.step (fun k => by rw [targumref12_Expand.l0]) ?_
    refine ev_if_pos (by omega) (ev_if_pos (by omega) (ev_if_pos (by omega) ?_))
    rw [erd]
    have et : pairs (l.take (j + 1)) = pairs (l.take j) ++ [((l[j]).f0, (l[j]).f1)] := by
      unfold pairs
      rw [List.take_succ_eq_append_getElem hlt, List.map_append]
      rfl
    have eth : theH h (pairs (l.take (j + 1))) = if (l[j]).f0 = h then some (l[j]).f1 else theH h (pairs (l.take j)) := by
      unfold theH
      rw [et, lastH_snoc]
      by_cases hp : (l[j]).f0 = h
      · simp [hp]
      · simp [hp]
    rw [eth]
    by_cases hp : (l[j]).f0 = h
    · have eb : (if (l[j]).f0 = h then some (l[j]).f1 else theH h (pairs (l.take j))) = some (l[j]).f1 := if_pos hp
      rw [eb]
      have := hl (l[j]) (List.getElem_mem hlt)
      exact ev_if_pos (toList_inj.2 hp) (ev_if_pos (by omega) (Ev.now _))
    · have eb : (if (l[j]).f0 = h then some (l[j]).f1 else theH h (pairs (l.take j))) = theH h (pairs (l.take j)) := if_neg hp
      rw [eb]
      have e1 : wrap64 ((j : Int) - 1) = (j : Int) - 1 := wrap_id (by omega) (by omega)
      rw [e1]
      exact ev_if_neg (fun x => hp (toList_inj.1 x)) (ih (by omega))

theorem expand_ref (v : Bool) (h s : ByteArray) (l : List S39) (hs : s.size ≤ 140737488351232) (hn : l.length ≤ 140737488351232) (hl : ∀ x ∈ l, x.f1.size ≤ 140737488351232) : Ev (fun k => targumref12_Expand.f k v h s l) (expandS v h s (pairs l)) := by
  unfold targumref12_Expand.f
  cases v
  · refine ev_if_neg (by decide) ?_
    have rest : (¬ (h.toList = [33] ∧ s.toList = [])) → Ev (fun k => targumref12_Expand.j0 k l false false h s) (expandS false h s (pairs l)) := by
      intro hc
      refine Ev.step (fun k => by rw [targumref12_Expand.j0]) ?_
      refine ev_if_neg (by decide) ?_
      have e : wrap64 ((l.length : Int) - 1) = (l.length : Int) - 1 := wrap_id (by omega) (by omega)
      rw [e]
      have := expand_ref_run false h s l hs hn hl l.length (Nat.le_refl _)
      rw [List.take_length] at this
      have hx : expandS false h s (pairs l) = (match theH h (pairs l) with | some p => (p ++ s, true) | none => (⟨#[]⟩, false)) := by
        unfold expandS
        simp only [Bool.false_eq_true, if_false, if_neg hc]
      rw [hx]
      exact this
    by_cases h1 : h.toList = [33]
    · refine ev_if_pos h1 ?_
      by_cases h2 : s.toList = []
      · have e : (s.toList == ([] : List UInt8)) = true := by rw [beq_iff_eq]; exact h2
        rw [e]
        have hx : expandS false h s (pairs l) = (⟨#[33]⟩, true) := by
          unfold expandS
          simp only [Bool.false_eq_true, if_false, if_pos (And.intro h1 h2)]
        rw [hx]
        refine Ev.step (fun k => by rw [targumref12_Expand.j0]) ?_
        exact ev_if_pos rfl (Ev.now _)
      · have e : (s.toList == ([] : List UInt8)) = false := by rw [beq_eq_false_iff_ne]; exact h2
        rw [e]
        exact rest (fun x => h2 x.2)
    · exact ev_if_neg h1 (rest (fun x => h1 x.1))
  · exact ev_if_pos rfl (Ev.now _)
end Go.Proofs.Ytmceepmchfjinaa.Q
