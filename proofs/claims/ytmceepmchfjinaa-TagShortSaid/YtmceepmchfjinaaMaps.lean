/- Maps that a call made itself, told as lists of pairs (enc: how a key is written as a value, dec: an element): a look-up and a store, at the operation, for the walk. Keys: strings, whole numbers. No condition. -/
import Derived.Maps.Own
import Derived.Maps.OwnOps
namespace Go.Proofs.Ytmceepmchfjinaa
open Go.ChangeMaps (setBlock heap_setBlock_same heap_setBlock_other)
set_option linter.unusedVariables false
set_option linter.unusedSimpArgs false

section
variable {κ ν : Type} [DecidableEq κ]

/-- The element at a key. -/
def getA (x : κ) : List (κ × ν) → Option ν
  | [] => none
  | (a, b) :: l => if a = x then some b else getA x l

/-- A store. -/
def putA (x : κ) (v : ν) : List (κ × ν) → List (κ × ν)
  | [] => [(x, v)]
  | (a, b) :: l => if a = x then (x, v) :: l else (a, b) :: putA x v l

theorem getA_putA (x y : κ) (v : ν) : ∀ l : List (κ × ν), getA y (putA x v l) = if x = y then some v else getA y l
  | [] => by simp [putA, getA]
  | (a, b) :: l => by
    unfold putA
    by_cases h : a = x
    · subst h
      by_cases h2 : a = y <;> simp [getA, h2]
    · by_cases h2 : a = y
      · subst h2
        simp [getA, h, Ne.symm h]
      · simp [getA, h, h2, getA_putA x y v l]

/-- Where a key stands first. -/
def idxA (x : κ) : List (κ × ν) → Nat → Option (Nat × ν)
  | [], _ => none
  | (a, b) :: l, i => if a = x then some (i, b) else idxA x l (i + 1)

theorem idxA_none (x : κ) : ∀ (l : List (κ × ν)) (i : Nat), idxA x l i = none → getA x l = none ∧ ∀ v, putA x v l = l ++ [(x, v)]
  | [], _ => by simp [getA, putA]
  | (a, b) :: l, i => by
    intro h
    unfold idxA at h
    by_cases h2 : a = x
    · simp [h2] at h
    · simp only [if_neg h2] at h
      obtain ⟨h3, h4⟩ := idxA_none x l (i + 1) h
      simp [getA, putA, h2, h3, h4]

theorem idxA_some (x : κ) : ∀ (l : List (κ × ν)) (i j : Nat) (b : ν), idxA x l i = some (j, b) → i ≤ j ∧ l[j - i]? = some (x, b) ∧ getA x l = some b ∧ ∀ v, putA x v l = l.set (j - i) (x, v)
  | [], _, _, _ => by simp [idxA]
  | (a, c) :: l, i, j, b => by
    intro h
    unfold idxA at h
    by_cases h2 : a = x
    · subst h2
      simp only [if_true, Option.some.injEq, Prod.mk.injEq] at h
      obtain ⟨rfl, rfl⟩ := h
      simp [getA, putA]
    · simp only [if_neg h2] at h
      obtain ⟨h3, h4, h5, h6⟩ := idxA_some x l (i + 1) j b h
      obtain ⟨n, rfl⟩ : ∃ n, j = i + 1 + n := ⟨j - (i + 1), by omega⟩
      have e1 : i + 1 + n - i = n + 1 := by omega
      have e2 : i + 1 + n - (i + 1) = n := by omega
      rw [e1]
      rw [e2] at h4 h6
      exact ⟨by omega, by simpa using h4, by simp [getA, h2, h5], fun v => by simp [putA, h2, h6]⟩
end

/-- What the laws need of the keys. -/
structure KeyOk {κ : Type} [DecidableEq κ] (P : Program) (k : TypeId) (enc : κ → Value) : Prop where
  check : ∀ (w : World) (em : Bool) (x : κ), (Instr.checkKey em 10000 k (enc x)).run P w = .ok () w
  find : ∀ (w : World) (x : κ) (es : List MapEntry) (l : List (κ × Value)), es.map (fun e => (e.key, e.val)) = l.map (fun p => (enc p.1, p.2)) → (Instr.findKey k (enc x) es).run P w = .ok (idxA x l 0) w
  stays : ∀ (w : World) (x : κ), (Instr.keyThatStays (enc x) (enc x)).run P w = .ok (enc x) w

theorem findNow_of {κ : Type} [DecidableEq κ] {d : TypeDesc} {enc : κ → Value} (hs : ∀ a b : κ, Instr.sameNow d (enc a) (enc b) = some (decide (b = a))) (x : κ) : ∀ (es : List MapEntry) (l : List (κ × Value)) (i : Nat),
    es.map (fun e => (e.key, e.val)) = l.map (fun p => (enc p.1, p.2)) → Instr.findNow d (enc x) es i = some (idxA x l i)
  | [], [], _ => by simp [Instr.findNow, idxA]
  | [], _ :: _, _ => by simp
  | _ :: _, [], _ => by simp
  | e :: es, (a, b) :: l, i => by
    intro h
    simp only [List.map_cons, List.cons.injEq, Prod.mk.injEq] at h
    unfold Instr.findNow idxA
    rw [h.1.1, hs]
    by_cases h2 : a = x
    · simp [h2, h.1.2]
    · simp [h2, findNow_of hs x es l (i + 1) h.2]

theorem run_findKey_of {P : Program} {k : TypeId} {d : TypeDesc} (hk : P.underlying k = some d) {v : Value} {es : List MapEntry} {r : Option (Nat × Value)} (h : Instr.findNow d v es 0 = some r) (w : World) : (Instr.findKey k v es).run P w = .ok r w := by
  simp [Instr.findKey, run_underlying hk, Result.andThen, h]

theorem keysOf {κ : Type} [DecidableEq κ] {P : Program} {k : TypeId} {d : TypeDesc} {enc : κ → Value} (hk : P.underlying k = some d) (hd : ∀ x, MapKept.IsKey d (enc x)) (hi : ∀ a b : κ, enc a = enc b → a = b) : KeyOk P k enc where
  check := fun w em x => MapKept.run_checkKey hk (hd x) em 9999
  find := fun w x es l h => run_findKey_of hk (findNow_of (fun a b => by
    obtain ⟨r, hr, hiff⟩ := MapKept.sameNow_of_keys (hd a) (hd b)
    rw [hr]
    congr 1
    cases r
    · exact (decide_eq_false (fun e => by subst e; exact absurd (hiff.2 rfl) (by simp))).symm
    · exact (decide_eq_true (hi _ _ (hiff.1 rfl)).symm).symm) x es l 0 h) w
  stays := fun w x => MapKept.run_keyThatStays (hd x)

theorem strKeys {P : Program} {k : TypeId} (hk : P.underlying k = some .string) : KeyOk P k Value.string := keysOf hk (fun _ => trivial) (fun _ _ h => by injection h)
theorem intKeys {P : Program} {k : TypeId} {q : IntKind} (hk : P.underlying k = some (.int q)) : KeyOk P k (Value.int q) := keysOf hk (fun _ => rfl) (fun _ _ h => by injection h)

section
variable {κ ν : Type}
/-- Block B holds the map. -/
def MapRep (enc : κ → Value) (dec : ν → Value) (w : World) (B : Nat) (l : List (κ × ν)) : Prop :=
  ∃ es c, w.heap[B]? = some (.map es c) ∧ es.toList.map (fun e => (e.key, e.val)) = l.map (fun p => (enc p.1, dec p.2))

theorem MapRep.made (enc : κ → Value) (dec : ν → Value) (w : World) : MapRep enc dec (w.alloc (.map #[] 0)) w.heap.size ([] : List (κ × ν)) :=
  ⟨#[], 0, (MapKept.heap_alloc w _).1, by simp⟩

theorem MapRep.lt {enc : κ → Value} {dec : ν → Value} {w : World} {B : Nat} {l : List (κ × ν)} (h : MapRep enc dec w B l) : B < w.heap.size := by
  obtain ⟨es, c, hb, _⟩ := h
  exact (Array.getElem?_eq_some_iff.1 hb).1

theorem MapRep.move {enc : κ → Value} {dec : ν → Value} {w w' : World} {B : Nat} {l : List (κ × ν)} (h : MapRep enc dec w B l) (hm : w'.heap[B]? = w.heap[B]?) : MapRep enc dec w' B l := by
  obtain ⟨es, c, hb, hl⟩ := h
  exact ⟨es, c, hm.trans hb, hl⟩

theorem MapRep.alloc {enc : κ → Value} {dec : ν → Value} {w : World} {B : Nat} {l : List (κ × ν)} (h : MapRep enc dec w B l) (o : Obj) : MapRep enc dec (w.alloc o) B l :=
  h.move (RowKit.Below.heap_alloc w o B h.lt)

theorem MapRep.below {enc : κ → Value} {dec : ν → Value} {w w' : World} {B : Nat} {l : List (κ × ν)} (h : MapRep enc dec w B l) (hb : RowKit.Below w.heap.size w w') : MapRep enc dec w' B l :=
  h.move (hb.block B h.lt)

theorem MapRep.far {enc : κ → Value} {dec : ν → Value} {w : World} {B : Nat} {l : List (κ × ν)} (h : MapRep enc dec w B l) {p : Addr} (hp : B ≠ p.block) (u : Value) : MapRep enc dec (w.setCell p u) B l :=
  h.move (RowKit.Below.heap_setCell w p u B hp)
end

section
variable {κ ν : Type} [DecidableEq κ] {P : Program} {k e t : TypeId} {enc : κ → Value} {dec : ν → Value} {w : World} {B : Nat} {l : List (κ × ν)}

theorem idxA_map (x : κ) : ∀ (l : List (κ × ν)) (i : Nat), idxA x (l.map fun p => (p.1, dec p.2)) i = (idxA x l i).map fun q => (q.1, dec q.2)
  | [], _ => by simp [idxA]
  | (a, b) :: l, i => by
    unfold idxA
    by_cases h : a = x
    · simp [h]
    · simp only [List.map_cons, if_neg h]
      exact idxA_map x l (i + 1)

theorem MapRep.find (h : MapRep enc dec w B l) (K : KeyOk P k enc) (x : κ) :
    ∃ es c, w.heap[B]? = some (.map es c) ∧ es.toList.map (fun e => (e.key, e.val)) = l.map (fun p => (enc p.1, dec p.2)) ∧ (Instr.findKey k (enc x) es.toList).run P w = .ok ((idxA x l 0).map fun q => (q.1, dec q.2)) w := by
  obtain ⟨es, c, hb, hl⟩ := h
  refine ⟨es, c, hb, hl, ?_⟩
  rw [K.find w x es.toList (l.map fun p => (p.1, dec p.2)) (by rw [hl]; simp), idxA_map]

theorem MapRep.look (h : MapRep enc dec w B l) (K : KeyOk P k enc) (ht : P.underlying t = some (.map k e)) {z : Value} (hz : (zeroValue e).run P w = .ok z w) (x : κ) (ok : Bool) :
    (Instr.lookup t (.map (some B)) (enc x) ok).run P w = .ok (if ok then .tuple #[((getA x l).map dec).getD z, .bool (getA x l).isSome] else ((getA x l).map dec).getD z) w := by
  obtain ⟨es, c, hb, _, hf⟩ := h.find K x
  have hc := K.check w es.isEmpty x
  cases hi : idxA x l 0 with
  | none =>
    have hg := (idxA_none x l 0 hi).1
    rw [hi] at hf
    cases ok <;> simp [Instr.lookup, run_underlying ht, Result.andThen, getObj, Sem.run, hb, hc, hf, hz, hg]
  | some q =>
    obtain ⟨j, b⟩ := q
    have hg := (idxA_some x l 0 j b hi).2.2.1
    rw [hi] at hf
    cases ok <;> simp [Instr.lookup, run_underlying ht, Result.andThen, getObj, Sem.run, hb, hc, hf, hg]

theorem MapRep.store (h : MapRep enc dec w B l) (K : KeyOk P k enc) (ht : P.underlying t = some (.map k e)) (x : κ) (v : ν) :
    ∃ w', (Instr.mapUpdate t (.map (some B)) (enc x) (dec v)).run P w = .ok () w' ∧ MapRep enc dec w' B (putA x v l) ∧ w.grownBy w' (some B) := by
  obtain ⟨es, c, hb, hl, hf⟩ := h.find K x
  have hc := K.check w false x
  cases hi : idxA x l 0 with
  | none =>
    have hp := (idxA_none x l 0 hi).2 v
    rw [hi] at hf
    refine ⟨setBlock w B (.map (es.push { key := enc x, val := dec v, born := c }) (c + 1)), ?_, ⟨_, _, heap_setBlock_same hb _, ?_⟩, ⟨rfl, rfl, rfl, by simp [setBlock], fun i _ hi => heap_setBlock_other hb _ (fun e => hi (by rw [e]))⟩⟩
    · simp [Instr.mapUpdate, run_underlying ht, Result.andThen, getObj, setObj, Sem.run, hb, hc, hf, setBlock]
    · rw [hp]; simp [hl]
  | some q =>
    obtain ⟨j, b⟩ := q
    obtain ⟨_, hlj, _, hp⟩ := idxA_some x l 0 j b hi
    have hst := K.stays w x
    rw [hi] at hf
    rw [Nat.sub_zero] at hlj hp
    have h1 : (es.toList.map (fun e => (e.key, e.val)))[j]? = some (enc x, dec b) := by rw [hl, List.getElem?_map, hlj]; rfl
    rw [List.getElem?_map, Array.getElem?_toList] at h1
    cases hej : es[j]? with
    | none => rw [hej] at h1; cases h1
    | some e0 =>
      rw [hej] at h1
      simp only [Option.map_some, Option.some.injEq, Prod.mk.injEq] at h1
      refine ⟨setBlock w B (.map (es.modify j fun e => { e with key := enc x, val := dec v }) c), ?_, ⟨_, _, heap_setBlock_same hb _, ?_⟩, ⟨rfl, rfl, rfl, by simp [setBlock], fun i _ hi => heap_setBlock_other hb _ (fun e => hi (by rw [e]))⟩⟩
      · simp [Instr.mapUpdate, run_underlying ht, Result.andThen, getObj, setObj, Sem.run, hb, hc, hf, setBlock, hej, h1.1, hst]
      · rw [hp v, List.map_set, ← hl]
        apply List.ext_getElem?
        intro i
        rw [List.getElem?_map, List.getElem?_set, Array.getElem?_toList, Array.getElem?_modify]
        by_cases hij : j = i
        · subst hij
          simp [hej, (Array.getElem?_eq_some_iff.1 hej).1]
        · simp [hij, List.getElem?_map]

end

/-- A look-up, at the operation. -/
theorem wpList_lookup_rep {κ ν : Type} [DecidableEq κ] {P : Program} (w : World) {ops : Array Oper} {rest : List Oper} {o : Oper} {a : Act} {Q : Exit → Act → World → Prop}
    (hg : o.guard = none) (m x : Operand) (t : TypeId) (ok : Bool) (hop : o.op = Op.lookup t m x ok) (k e : TypeId) {enc : κ → Value} (K : KeyOk P k enc) (ht : P.underlying t = some (.map k e))
    (dec : ν → Value) (z : Value) (hz : (zeroValue e).run P w = .ok z w) (B : Nat) (l : List (κ × ν))
    (hm : a.eval m = .map (some B)) (hr : MapRep enc dec w B l) (key : κ) (hx : a.eval x = enc key)
    (hK : wpList P ops Q rest (a.put o.dst (if ok then .tuple #[((getA key l).map dec).getD z, .bool (getA key l).isSome] else ((getA key l).map dec).getD z)) w) :
    wpList P ops Q (o :: rest) a w := by
  refine wpList_plain hg fun K' hK' => ?_
  have hrun := hr.look K ht hz key ok
  unfold Oper.wp
  simp only [execOp, hop, hm, hx]
  cases ok
  · simp only [Bool.false_eq_true, if_false] at hrun hK
    simp [hrun, Result.andThen]
    exact hK' _ _ hK
  · simp only [if_true] at hrun hK
    simp [hrun, Result.andThen]
    exact hK' _ _ hK

/-- A store, at the operation. -/
theorem wpList_store_rep {κ ν : Type} [DecidableEq κ] {P : Program} (w : World) {ops : Array Oper} {rest : List Oper} {o : Oper} {a : Act} {Q : Exit → Act → World → Prop}
    (hg : o.guard = none) (m x v : Operand) (t : TypeId) (hop : o.op = Op.mapUpdate t m x v ∨ o.op = Op.insert t m x v) (k e : TypeId) {enc : κ → Value} (K : KeyOk P k enc) (ht : P.underlying t = some (.map k e))
    (dec : ν → Value) (B : Nat) (l : List (κ × ν))
    (hm : a.eval m = .map (some B)) (hr : MapRep enc dec w B l) (key : κ) (hx : a.eval x = enc key) (val : ν) (hv : a.eval v = dec val)
    (hK : ∀ w', MapRep enc dec w' B (putA key val l) → w.grownBy w' (some B) → wpList P ops Q rest (a.put o.dst undef) w') :
    wpList P ops Q (o :: rest) a w := by
  refine wpList_plain hg fun K' hK' => ?_
  obtain ⟨w', hrun, r1, r2⟩ := hr.store K ht key val
  unfold Oper.wp
  rcases hop with hop | hop
  · simp [execOp, hop, hm, hx, hv, hrun, Result.andThen]
    exact hK' _ _ (hK w' r1 r2)
  · simp [execOp, hop, hm, hx, hv, hrun, Result.andThen]
    exact hK' _ _ (hK w' r1 r2)

end Go.Proofs.Ytmceepmchfjinaa
