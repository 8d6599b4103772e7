/- Mini: a region in which a choice between temporaries may come on either side of a write. No condition. -/
import Derived.Test.YthllhoodbfnlaaaDoorMiniQ
namespace Go.Mini
open Go
set_option linter.unusedVariables false
set_option linter.unusedSimpArgs false
section
variable {P : Program} {ops : Array Oper} {Q : Exit → Act → World → Prop} {md : Region.Mode} {n l : Nat}

theorem addEdge_size : (addEdge ops n l).size = ops.size := by unfold addEdge; split <;> simp
theorem addEdge_ne {i : Nat} (h : i ≠ n) : (addEdge ops n l)[i]? = ops[i]? := by
  unfold addEdge
  split
  · rw [Array.getElem?_setIfInBounds_ne (Ne.symm h)]
  · rfl
theorem addEdge_eq {on : Oper} (h : ops[n]? = some on) : (addEdge ops n l)[n]? = some { on with after := on.after.push ⟨l, .data⟩ } := by
  unfold addEdge
  have hlt : n < ops.size := (Array.getElem?_eq_some_iff.1 h).1
  rw [h]
  simp [hlt]
theorem addEdge_map (i : Nat) : ((addEdge ops n l)[i]?).bind (·.dst) = (ops[i]?).bind (·.dst) := by
  by_cases h : i = n
  · subst h
    cases hn : ops[i]? with
    | none => unfold addEdge; rw [hn]; simp [hn]
    | some o => rw [addEdge_eq hn]; rfl
  · rw [addEdge_ne h]
theorem addEdge_yielded (tmps : Array Value) : yielded (addEdge ops n l) tmps = yielded ops tmps := by
  funext i
  unfold yielded
  rw [addEdge_map]
theorem addEdge_wpOp {i : Nat} {K : Act → World → Prop} {a : Act} {w : World} : wpOp P (addEdge ops n l) Q i K a w ↔ wpOp P ops Q i K a w := by
  unfold wpOp
  by_cases h : i = n
  · subst h
    cases hn : ops[i]? with
    | none => unfold addEdge; rw [hn]; simp [hn]
    | some o => rw [addEdge_eq hn, addEdge_yielded]; exact Iff.rfl
  · rw [addEdge_ne h, addEdge_yielded]
structure Closed (md : Region.Mode) (ops : Array Oper) (listed : Array Bool) : Prop where
  size : listed.size = ops.size
  closed : ∀ j oj, ops[j]? = some oj → listed.getD j false = true → ∀ e ∈ oj.after, Region.binds md e = true → listed.getD e.on false = true
theorem Closed.set {i : Nat} {listed : Array Bool} (c : Closed md ops listed) (hi : i ∈ Region.ready md ops listed) : Closed md ops (listed.setIfInBounds i true) := by
  obtain ⟨_, oi, hoi, hall⟩ := mem_ready.1 hi
  refine ⟨by simp [c.size], fun j oj hj hl e he hb => ?_⟩
  by_cases hij : i = j
  · subst hij
    obtain rfl : oj = oi := Option.some.inj (hj.symm.trans hoi)
    exact getD_set_true (hall e he hb)
  · rw [getD_set_ne false hij] at hl
    exact getD_set_true (c.closed j oj hj hl e he hb)
theorem getD_all {listed : Array Bool} {i : Nat} (hs : i < listed.size) : listed.getD i true = listed.getD i false := by simp [hs]
/-- A choice between temporaries: what it yields, it yields in every world. -/
theorem pure_yields {o : Oper} (ho : pureR o = true) (hQ1 : ∀ c a w, ¬ Q (.panic c) a w) (hQ2 : ¬ LetsOut Q) {i : Nat} (hi : ops[i]? = some o) {K : Act → World → Prop} {a : Act} {w : World} (h : wpOp P ops Q i K a w) :
    ∃ v, Yields P ops o v a ∧ K (a.put o.dst v) w := by
  unfold pureR at ho
  split at ho
  · rename_i c x y hop hg
    have hw : Region.wanted o (yielded ops a.tmps) = true := by simp [Region.wanted, hg]
    unfold wpOp at h
    simp only [hi, hw, if_true] at h
    rcases h with h | h
    · unfold Oper.wp at h
      cases hc : a.eval c with
      | bool b =>
        have run : ∀ w, (execOp a.eval o).run P w = .ok (.value (if b then a.eval x else a.eval y)) w := fun w => by
          cases b <;> simp [execOp, hop, hc, asBool]
        rw [run w] at h
        exact ⟨_, .inl ⟨hw, run⟩, h⟩
      | _ => 
        exfalso
        simp [execOp, hop, hc, asBool, Oper.upon, throw, throwThe, MonadExceptOf.throw] at h
        try exact hQ1 _ _ _ h
    · exact absurd h.2 hQ2
  · cases ho

theorem ready_edge {on : Oper} (hn : ops[n]? = some on) {i : Nat} {listed : Array Bool} : i ∈ Region.ready md (addEdge ops n l) listed → i ∈ Region.ready md ops listed := by
  intro h
  rw [mem_ready] at *
  obtain ⟨h0, o, ho, hall⟩ := h
  by_cases hi : i = n
  · subst hi
    rw [addEdge_eq hn] at ho
    obtain rfl := Option.some.inj ho
    exact ⟨h0, on, hn, fun e he hb => hall e (by simp [he]) hb⟩
  · rw [addEdge_ne hi] at ho
    exact ⟨h0, o, ho, hall⟩
theorem ready_back {on : Oper} (hn : ops[n]? = some on) {i : Nat} {listed : Array Bool} (h : i ∈ Region.ready md ops listed) (hl : i = n → listed.getD l false = true) : i ∈ Region.ready md (addEdge ops n l) listed := by
  rw [mem_ready] at *
  obtain ⟨h0, o, ho, hall⟩ := h
  by_cases hi : i = n
  · subst hi
    refine ⟨h0, _, addEdge_eq hn, fun e he hb => ?_⟩
    obtain rfl : o = on := Option.some.inj (ho.symm.trans hn)
    simp only [Array.mem_push] at he
    rcases he with he | rfl
    · exact hall e he hb
    · exact hl rfl
  · exact ⟨h0, o, by rw [addEdge_ne hi]; exact ho, hall⟩

theorem wpAny_late {on ol : Oper} (hn : ops[n]? = some on) (hl : ops[l]? = some ol) (hnl : n ≠ l) (hp : pureR ol = true) (hsel : Region.noSelect ops = true) (hap : ol.apart ops on = true)
    (hcl : ∀ e ∈ ol.after, Region.binds md e = true → ∃ e' ∈ on.after, Region.binds md e' = true ∧ (e'.on = e.on ∨ ∃ o', ops[e'.on]? = some o' ∧ ∃ e'' ∈ o'.after, Region.binds md e'' = true ∧ e''.on = e.on))
    (hfree : ∀ j oj, ops[j]? = some oj → j ≠ l → (∃ e ∈ ol.after, Region.binds md e = true ∧ e.on = j) ∨ (∃ e ∈ oj.after, Region.binds md e = true ∧ e.on = l) ∨ ol.apart ops oj = true)
    (hQ1 : ∀ c a w, ¬ Q (.panic c) a w) (hQ2 : ¬ LetsOut Q) :
    ∀ (g : Nat) (listed : Array Bool) (a : Act) (w : World), Closed md ops listed → wpAny P md (addEdge ops n l) Q g listed a w → wpAny P md ops Q g listed a w := by
  have ltl : l < ops.size := (Array.getElem?_eq_some_iff.1 hl).1
  -- where n may come up and l has not, l may come up
  have up : ∀ {listed : Array Bool}, Closed md ops listed → n ∈ Region.ready md ops listed → listed.getD l false = false → l ∈ Region.ready md ops listed := fun {listed} c hr hun => by
    obtain ⟨h0, o, ho, hall⟩ := mem_ready.1 hr
    obtain rfl : o = on := Option.some.inj (ho.symm.trans hn)
    refine mem_ready.2 ⟨by rw [getD_all (by rw [c.size]; exact ltl)]; exact hun, ol, hl, fun e he hb => ?_⟩
    obtain ⟨e', he', hb', h1 | ⟨o', ho', e'', he'', hb'', h2⟩⟩ := hcl e he hb
    · rw [← h1]; exact hall e' he' hb'
    · rw [← h2]; exact c.closed _ o' ho' (hall e' he' hb') e'' he'' hb''
  intro g
  induction g using Nat.strongRecOn with
  | ind g ih =>
  cases g with
  | zero =>
    intro listed a w c h
    refine ⟨?_, h.2⟩
    rcases hr : Region.ready md ops listed with _ | ⟨i, r⟩
    · rfl
    · exfalso
      have hi : i ∈ Region.ready md ops listed := by rw [hr]; exact List.mem_cons_self ..
      cases hun : listed.getD l false with
      | true => have := ready_back (l := l) hn hi (fun _ => hun); rw [h.1] at this; cases this
      | false =>
        by_cases hin : i = n
        · subst hin
          have := ready_back (l := l) hn (up c hi hun) (fun e => absurd e.symm hnl)
          rw [h.1] at this; cases this
        · have := ready_back (l := l) hn hi (fun e => absurd e hin); rw [h.1] at this; cases this
  | succ g =>
    intro listed a w c h
    refine ⟨fun h0 => h.1 ?_, fun i hi => ?_⟩
    · rcases hr : Region.ready md (addEdge ops n l) listed with _ | ⟨i, r⟩
      · rfl
      · have := ready_edge hn (show i ∈ Region.ready md (addEdge ops n l) listed from by rw [hr]; exact List.mem_cons_self ..)
        rw [h0] at this; cases this
    by_cases hin : i = n ∧ listed.getD l false = false
    · obtain ⟨rfl, hun⟩ := hin
      have hlr := up c hi hun
      have hlr' := ready_back (l := l) hn hlr (fun e => absurd e.symm hnl)
      have h1 := addEdge_wpOp.1 (h.2 l hlr')
      obtain ⟨v, hy, h2⟩ := pure_yields hp hQ1 hQ2 hl h1
      -- n behind l
      have hi2 : i ∈ Region.ready md ops (listed.setIfInBounds l true) := ready_mono hi hnl
      have hll : (listed.setIfInBounds l true).getD l false = true := by simp [c.size, ltl]
      have hi3 := ready_back (l := l) hn hi2 (fun _ => hll)
      cases g with
      | zero => rw [h2.1] at hi3; cases hi3
      | succ g =>
        have h3 := addEdge_wpOp.1 (h2.2 i hi3)
        have hs := Region.noSelect_spec hsel
        have h4 := wpOp_put hn hap (fun cs b => hs l ol cs b hl) (fun cs b => hs i on cs b hn) (fun c a w hq => absurd hq (hQ1 c _ w)) hy h3
        refine wpOp_mono (fun a' w' h5 => ?_) h4
        have c1 := c.set hi
        have hlr2 : l ∈ Region.ready md ops (listed.setIfInBounds i true) := ready_mono hlr (Ne.symm hnl)
        refine wpAny_first hl hs (fun c a w hq => absurd hq (hQ1 c _ w)) g (listed.setIfInBounds i true) a' w' (fun j oj hj hjl hju hno => ?_) hlr2 h5.1 ?_
        · rcases hfree j oj hj hjl with ⟨e, he, hb, rfl⟩ | ⟨e, he, hb, h6⟩ | h6
          · obtain ⟨_, o, ho, hall⟩ := mem_ready.1 hlr2
            obtain rfl : o = ol := Option.some.inj (ho.symm.trans hl)
            have := hall e he hb
            rw [← getD_all (by rw [c1.size]; exact (Array.getElem?_eq_some_iff.1 hj).1), hju] at this
            cases this
          · exact absurd h6 (hno e he hb)
          · exact h6
        · refine ih g (by omega) _ _ _ (c1.set hlr2) ?_
          rw [Array.setIfInBounds_comm _ _ hnl]
          exact h5.2
    · have hl' : i = n → listed.getD l false = true := fun e => by
        cases hun : listed.getD l false with
        | true => rfl
        | false => exact absurd ⟨e, hun⟩ hin
      exact wpOp_mono (fun a' w' h1 => ih g (by omega) _ a' w' (c.set hi) h1) (addEdge_wpOp.1 (h.2 i (ready_back hn hi hl')))
theorem lateN_spec {p : Nat × Nat} (h : lateN ops = some p) : lateB ops p.1 p.2 = true ∧ Region.lexTailB .any (addEdge ops p.1 p.2) p.1 = true ∧ ∀ o ∈ (addEdge ops p.1 p.2).toList.take p.1, quietR o.op = true := by
  have := List.find?_some h
  simp only [Bool.and_eq_true, List.all_eq_true] at this
  exact ⟨this.1.1, this.1.2, this.2⟩
/-- Such a region. -/
theorem wp_region_late {C : World → Prop} {id : Nat} {a : Act} {w : World} {p : Nat × Nat} (hp : lateN ops = some p) (hm : P.follows .mixedOrders = true) (hC : C { w with drawn := w.drawn + 1 }) (hQ1 : ∀ c a w, ¬ Q (.panic c) a w) (hQ2 : ¬ LetsOut Q)
    (h : wpQuiet P (addEdge ops p.1 p.2) C (fun a' => ∀ w', C w' → wpList P (addEdge ops p.1 p.2) Q ((addEdge ops p.1 p.2).toList.drop p.1) a' w') ((addEdge ops p.1 p.2).toList.take p.1) a) : (Code.region id ops true).wp P Q a w := by
  obtain ⟨h1, h2, _⟩ := lateN_spec hp
  have e0 : (addEdge ops p.1 p.2).toList.toArray = addEdge ops p.1 p.2 := by simp
  refine wp_region_any hm ?_
  have key := wpAny_quiet_tail (P := P) (Q := Q) (l := (addEdge ops p.1 p.2).toList) (a := a) (w := w) (C := C) p.1 (by rw [e0]; exact h2) hC (by rw [e0]; exact h)
  rw [e0, addEdge_size] at key
  unfold lateB at h1
  split at h1
  · rename_i on ol hn hl
    simp only [Bool.and_eq_true, Bool.not_eq_true', beq_eq_false_iff_ne, ne_eq] at h1
    obtain ⟨⟨⟨⟨⟨hne, hpu⟩, hsel⟩, hap⟩, hcl⟩, hfr⟩ := h1
    refine wpAny_late (n := p.1) (l := p.2) hn hl hne hpu hsel hap (fun e he hb => ?_) (fun j oj hj hjl => ?_) hQ1 hQ2 _ _ a _ ⟨by simp, fun j oj _ hf => ?_⟩ key
    · have := Array.all_eq_true_iff_forall_mem.1 hcl e he
      simp only [hb, Bool.not_true, Bool.false_or] at this
      obtain ⟨e', he', h3⟩ := Array.any_eq_true'.1 this
      simp only [Bool.and_eq_true, Bool.or_eq_true, beq_iff_eq] at h3
      obtain ⟨h4, h5⟩ := h3
      refine ⟨e', he', h4, ?_⟩
      rcases h5 with h5 | h5
      · exact .inl h5
      · split at h5
        · rename_i o' ho'
          obtain ⟨e'', he'', h6⟩ := Array.any_eq_true'.1 h5
          simp only [Bool.and_eq_true, beq_iff_eq] at h6
          exact .inr ⟨o', ho', e'', he'', h6.1, h6.2⟩
        · cases h5
    · have := List.all_eq_true.1 hfr j (List.mem_range.2 (Array.getElem?_eq_some_iff.1 hj).1)
      simp only [hj, Bool.or_eq_true, beq_iff_eq] at this
      rcases this with h3 | ⟨h3 | h3⟩ | h3
      · exact absurd h3 hjl
      · obtain ⟨e, he, h4⟩ := Array.any_eq_true'.1 h3
        simp only [Bool.and_eq_true, beq_iff_eq] at h4
        exact .inl ⟨e, he, h4.1, h4.2⟩
      · rename_i h3
        obtain ⟨e, he, h4⟩ := Array.any_eq_true'.1 h3
        simp only [Bool.and_eq_true, beq_iff_eq] at h4
        exact .inr (.inl ⟨e, he, h4.1, h4.2⟩)
      · exact .inr (.inr h3)
    · rw [getD_replicate_false] at hf; cases hf
  · cases h1
end
end Go.Mini
