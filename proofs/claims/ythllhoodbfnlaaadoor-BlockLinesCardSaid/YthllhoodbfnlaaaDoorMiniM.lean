/- Mini: a drawn region whose pure operations may be taken first, the rest being in order. No condition. -/
import Derived.Test.YthllhoodbfnlaaaDoorMiniJ
namespace Go.Mini
open Go
set_option linter.unusedVariables false
set_option linter.unusedSimpArgs false
section
variable {P : Program} {ops : Array Oper} {Q : Exit → Act → World → Prop} {α β : Type}

/-- What it yields it yields in every world. -/
def Indep (P : Program) (m : Sem α) : Prop := ∀ w v w1, m.run P w = .ok v w1 → ∀ w', m.run P w' = .ok v w'
theorem Indep.pure (a : α) : Indep P (Pure.pure a : Sem α) := fun w v w1 h w' => by
  simp at h ⊢
  exact h.1
theorem Indep.halt (h : Halt) : Indep P (Sem.halt h : Sem α) := fun w v w1 hh w' => by simp [Sem.run] at hh
theorem Indep.bind {m : Sem α} {f : α → Sem β} (hm : Indep P m) (hf : ∀ a, Indep P (f a)) : Indep P (m >>= f) := fun w v w1 h w' => by
  rw [Sem.run_bind] at h ⊢
  cases hr : m.run P w with
  | ok a w2 =>
    rw [hr] at h
    rw [hm w a w2 hr w']
    exact hf a w2 v w1 h w'
  | halt x w2 => rw [hr] at h; simp [Result.andThen] at h
theorem Indep.program : Indep P program := fun w v w1 h w' => by
  have e : ∀ w, Sem.run P Go.program w = .ok P w := fun w => rfl
  rw [e] at h ⊢
  cases h; rfl
theorem Indep.stuck (s : String) : Indep P (Go.stuck s : Sem α) := Indep.halt _
def Never (P : Program) (m : Sem α) : Prop := ∀ w v w1, m.run P w ≠ .ok v w1
theorem Never.indep {m : Sem α} (h : Never P m) : Indep P m := fun w v w1 hh => absurd hh (h w v w1)
theorem Never.goPanic (v : Value) : Never P (Go.goPanic v : Sem α) := fun w u w1 hh => by simp [Go.goPanic, Sem.run] at hh
theorem Never.bind {m : Sem α} {f : α → Sem β} (hf : ∀ a, Never P (f a)) : Never P (m >>= f) := fun w v w1 h => by
  rw [Sem.run_bind] at h
  cases hr : m.run P w with
  | ok a w2 => rw [hr] at h; exact hf a w2 v w1 h
  | halt x w2 => rw [hr] at h; simp [Result.andThen] at h
theorem Never.runtimePanic (e : RuntimeError) : Never P (Go.runtimePanic e : Sem α) := by
  unfold Go.runtimePanic
  refine Never.bind fun p => ?_
  dsimp only
  split <;> first
    | exact Never.goPanic _
    | exact Never.bind fun _ => Never.bind fun _ => Never.goPanic _
theorem Indep.runtimePanic (e : RuntimeError) : Indep P (Go.runtimePanic e : Sem α) := (Never.runtimePanic e).indep
theorem Indep.underlying (t : TypeId) : Indep P (Go.underlying t) := by
  unfold Go.underlying
  refine Indep.bind Indep.program fun p => ?_
  split
  · exact Indep.pure _
  · exact Indep.stuck _
theorem Indep.sizeOf (t : TypeId) : Indep P (Go.sizeOf t) := by
  unfold Go.sizeOf Go.typeInfo
  refine Indep.bind (Indep.bind Indep.program fun p => ?_) fun i => Indep.pure _
  split
  · exact Indep.pure _
  · exact Indep.stuck _
theorem Indep.asBool (v : Value) : Indep P (Go.asBool v) := by
  unfold Go.asBool
  split
  · exact Indep.pure _
  · exact Indep.stuck _
theorem Indep.asAddr (v : Value) : Indep P (Go.asAddr v) := by
  unfold Go.asAddr
  split
  · exact Indep.pure _
  · exact Indep.runtimePanic _
  · exact Indep.stuck _
theorem Indep.asIntOf (v : Value) : Indep P (Go.asIntOf v) := by
  unfold Go.asIntOf
  split
  · exact Indep.pure _
  · exact Indep.halt _
  · exact Indep.stuck _
theorem Indep.sliceBound (x : Value) (y : Nat) (c : BoundsCode) : Indep P (Instr.sliceBound x y c) := by
  unfold Instr.sliceBound
  refine Indep.bind (Indep.asIntOf _) fun p => ?_
  split
  split
  · exact Indep.pure _
  · exact (show Never P (Go.boundsPanic _ _ _ _ : Sem Nat) from by
      unfold Go.boundsPanic
      dsimp only
      split <;> exact Never.bind fun _ => Never.runtimePanic _).indep
theorem Indep.sliceBounds (b : Bool) (len cap : Nat) (lo hi : Option Value) : Indep P (Instr.sliceBounds b len cap lo hi none) := by
  unfold Instr.sliceBounds
  refine Indep.bind (Indep.pure _) fun m => ?_
  cases hi with
  | none =>
    cases lo with
    | none => exact Indep.pure _
    | some v => exact Indep.bind (Indep.pure _) fun h => Indep.bind (Indep.sliceBound _ _ _) fun l => Indep.pure _
  | some u =>
    cases lo with
    | none => exact Indep.bind (Indep.sliceBound _ _ _) fun h => Indep.bind (Indep.pure _) fun l => Indep.pure _
    | some v => exact Indep.bind (Indep.sliceBound _ _ _) fun h => Indep.bind (Indep.sliceBound _ _ _) fun l => Indep.pure _
theorem Indep.slice (t : TypeId) (x : Value) (lo hi : Option Value) : Indep P (Instr.slice t x lo hi none) := by
  unfold Instr.slice
  refine Indep.bind (Indep.underlying _) fun d => ?_
  split
  · exact Indep.bind (Indep.sliceBounds _ _ _ _ _) fun p => Indep.pure _
  · exact Indep.bind (Indep.sliceBounds _ _ _ _ _) fun p => Indep.bind (Indep.sizeOf _) fun _ => Indep.pure _
  · refine Indep.bind (Indep.asAddr _) fun a => Indep.bind (Indep.underlying _) fun d => ?_
    split
    · exact Indep.bind (Indep.sliceBounds _ _ _ _ _) fun p => Indep.bind (Indep.sizeOf _) fun _ => Indep.pure _
    · exact Indep.stuck _
  · exact Indep.stuck _
theorem Indep.sureAddr (v : Value) : Indep P (Instr.sureAddr v) := by
  unfold Instr.sureAddr
  split
  · exact Indep.pure _
  all_goals first | exact Indep.stuck _ | exact Indep.halt _ | exact Indep.runtimePanic _
theorem Indep.sliceAt (t : TypeId) (x : Value) (lo hi : Option Value) : Indep P (Instr.sliceAt t x lo hi none) := by
  unfold Instr.sliceAt
  refine Indep.bind (Indep.underlying _) fun d => ?_
  split
  · exact Indep.bind (Indep.sureAddr _) fun a => Indep.bind (Indep.sliceBounds _ _ _ _ _) fun p => Indep.bind (Indep.sizeOf _) fun _ => Indep.pure _
  · exact Indep.slice _ _ _ _

/-- A pure operation: what it yields, it yields in every world. -/
theorem pureY_yields {o : Oper} (ho : pureY o = true) (hQ1 : ∀ c a w, ¬ Q (.panic c) a w) (hQ2 : ¬ LetsOut Q) {K : Act → World → Prop} {a : Act} {w : World} (h : o.wp P a w K Q ∨ (o.asks P a w ∧ LetsOut Q)) :
    ∃ v, Yields P ops o v a ∧ K (a.put o.dst v) w := by
  have h : o.wp P a w K Q := h.resolve_right fun h => hQ2 h.2
  have key : ∀ m : Sem Value, Indep P m → (execOp a.eval o = do Pure.pure (.value (← m))) → o.guard = none → ∃ v, Yields P ops o v a ∧ K (a.put o.dst v) w := fun m hm he hg => by
    unfold Oper.wp at h
    rw [he, Sem.run_bind] at h
    have hw : Region.wanted o (yielded ops a.tmps) = true := by simp [Region.wanted, hg]
    cases hr : m.run P w with
    | ok v w2 =>
      have e2 : w2 = w := by
        have := hm w v w2 hr w
        rw [hr] at this
        cases this; rfl
      subst e2
      rw [hr] at h
      refine ⟨v, .inl ⟨hw, fun w' => ?_⟩, by simpa [Result.andThen, Oper.upon] using h⟩
      rw [he, Sem.run_bind, hm _ v _ hr w']
      simp [Result.andThen]
    | halt x w2 =>
      rw [hr] at h
      cases x with
      | panic c => exact absurd (show Q (.panic [{ v := c, recovered := false }]) a w2 from h) (hQ1 _ _ _)
      | _ => exact h.elim
  unfold pureY at ho
  split at ho
  · rename_i x hop hg; exact key (Pure.pure (a.eval x)) (Indep.pure _) (by simp [execOp, hop]) hg
  · rename_i x hop hg; exact key (Pure.pure (a.eval x)) (Indep.pure _) (by simp [execOp, hop]) hg
  · rename_i c x y hop hg
    exact key (do Pure.pure (if ← Go.asBool (a.eval c) then a.eval x else a.eval y)) (Indep.bind (Indep.asBool _) fun _ => Indep.pure _) (by simp [execOp, hop]) hg
  · rename_i t x lo hi hop hg
    exact key (Instr.sliceAt t (a.eval x) (lo.map a.eval) (hi.map a.eval) none) (Indep.sliceAt _ _ _ _) (by simp [execOp, hop]) hg
  · cases ho

theorem wpAny_seqL (hsel : Region.noSelect ops = true) : ∀ (rs : List Nat) (listed : Array Bool) (a : Act) (w : World), seqL ops rs listed = true → wpList P ops Q (rs.filterMap (ops[·]?)) a w → wpAny P .any ops Q rs.length listed a w
  | [], listed, a, w, hB, h => ⟨by simpa [seqL] using hB, h⟩
  | k :: rs, listed, a, w, hB, h => by
    simp only [seqL, Bool.and_eq_true, decide_eq_true_eq] at hB
    have hk : k ∈ Region.ready .any ops listed := by rw [hB.1]; exact List.mem_cons_self ..
    obtain ⟨_, o, ho, _⟩ := mem_ready.1 hk
    rw [List.filterMap_cons, ho] at h
    refine ⟨fun h1 => (by rw [hB.1] at h1; cases h1), fun i hi => ?_⟩
    rw [hB.1] at hi
    obtain rfl : i = k := by simpa using hi
    have hw : wpOp P ops Q i (wpList P ops Q (rs.filterMap (ops[·]?))) a w := by unfold wpOp; simp only [ho]; exact h
    exact wpOp_mono (fun a' w' h' => wpAny_seqL hsel rs _ a' w' hB.2 h') hw
theorem wpAny_perm (hsel : Region.noSelect ops = true) (hQ1 : ∀ c a w, ¬ Q (.panic c) a w) (hQ2 : ¬ LetsOut Q) (rs : List Nat) : ∀ (ps : List Nat) (listed : Array Bool) (a : Act) (w : World), permB ops rs ps listed = true → wpList P ops Q ((ps ++ rs).filterMap (ops[·]?)) a w → wpAny P .any ops Q (ps.length + rs.length) listed a w
  | [], listed, a, w, hB, h => by rw [List.length_nil, Nat.zero_add]; exact wpAny_seqL hsel rs listed a w hB h
  | p :: ps, listed, a, w, hB, h => by
    unfold permB at hB
    split at hB
    · rename_i o ho
      simp only [Bool.and_eq_true] at hB
      obtain ⟨⟨⟨hpu, hr⟩, hf⟩, hB'⟩ := hB
      rw [List.cons_append, List.filterMap_cons, ho] at h
      have hg : o.guard = none := by
        unfold pureY at hpu
        split at hpu <;> first | assumption | cases hpu
      have hw : Region.wanted o (yielded ops a.tmps) = true := by simp [Region.wanted, hg]
      simp only [wpList, hw, if_true] at h
      obtain ⟨v, hy, hK⟩ := pureY_yields (ops := ops) hpu hQ1 hQ2 h
      have := wpAny_perm hsel hQ1 hQ2 rs ps _ _ w hB' hK
      rw [List.length_cons, show ps.length + 1 + rs.length = ps.length + rs.length + 1 from by omega]
      exact wpAny_take ho hsel hf hr (fun c a w hq => absurd hq (hQ1 c _ w)) hy this
    · cases hB
theorem permN_spec {l : List Nat} (h : permN ops = some l) : ∃ ps rs, l = ps ++ rs ∧ Region.noSelect ops = true ∧ ps.length + rs.length = ops.size ∧ permB ops rs ps (Array.replicate ops.size false) = true := by
  unfold permN at h
  simp only at h
  split at h
  · rename_i hc
    simp only [Bool.and_eq_true, beq_iff_eq] at hc
    exact ⟨_, _, (Option.some.inj h).symm, hc.1.1, hc.1.2, hc.2⟩
  · cases h
theorem wp_region_perm {id : Nat} {a : Act} {w : World} {l : List Nat} (hp : permN ops = some l) (hm : P.follows .mixedOrders = true) (hQ1 : ∀ c a w, ¬ Q (.panic c) a w) (hQ2 : ¬ LetsOut Q)
    (h : wpList P ops Q (l.filterMap (ops[·]?)) a { w with drawn := w.drawn + 1 }) : (Code.region id ops true).wp P Q a w := by
  obtain ⟨ps, rs, rfl, h1, h2, h3⟩ := permN_spec hp
  refine wp_region_any hm ?_
  rw [← h2]
  rw [← h2] at h3
  exact wpAny_perm h1 hQ1 hQ2 rs ps _ a _ h3 h
end
end Go.Mini
