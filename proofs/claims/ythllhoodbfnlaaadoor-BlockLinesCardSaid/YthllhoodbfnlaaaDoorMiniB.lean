/- Mini: how the heap of numbered rows stands for memory; what an operation does to both. No condition. -/
import Derived.Test.YthllhoodbfnlaaaDoorMiniA
import Derived.Shelf.Unicode.DecodeSlow
namespace Go.Mini
open Go Go.RowKit
set_option linter.unusedVariables false
set_option linter.unusedSimpArgs false

structure Loc where
  r : Nat
  d : Nat
  n : Nat
  sz : Nat
abbrev Mu := Nat → Loc

inductive FR (μ : Mu) (n : Nat) : Value → Value → Prop
  | same {v : Value} (h : flatV v = true) : FR μ n v v
  | ptr {i o : Nat} (h : i < n) (hz : (μ i).n ≠ 0) : FR μ n (.pointer (some ⟨i, o, none⟩)) (.pointer (some ⟨(μ i).r, (μ i).d + o, none⟩))
  | slc {i o k c : Nat} (h : i < n) (hk : k ≤ c) (hc : (μ i).d + o + c * (μ i).sz ≤ (μ i).n) (hz : (μ i).n ≠ 0) : FR μ n (.slice (some ⟨i, o, none⟩) k k) (.slice (some ⟨(μ i).r, (μ i).d + o, none⟩) k c)
  | slc0 {i o o' : Nat} (h : i < n) (hz : (μ i).n ≠ 0) : FR μ n (.slice (some ⟨i, o, none⟩) 0 0) (.slice (some ⟨(μ i).r, o', none⟩) 0 0)
  | nil {i o : Nat} (h : i < n) (hz : (μ i).n = 0) : FR μ n (.slice (some ⟨i, o, none⟩) 0 0) (.slice none 0 0)

inductive All2 {α β : Type} (R : α → β → Prop) : List α → List β → Prop
  | nil : All2 R [] []
  | cons {a : α} {b : β} {l : List α} {m : List β} (h : R a b) (t : All2 R l m) : All2 R (a :: l) (b :: m)

inductive AR (μ : Mu) (n : Nat) : Value → Value → Prop
  | one {v v' : Value} (h : FR μ n v v') : AR μ n v v'
  | agg {cs cs' : List Value} (h : All2 (FR μ n) cs cs') : AR μ n (.agg cs.toArray) (.agg cs'.toArray)

inductive VR (μ : Mu) (n : Nat) : Value → Value → Prop
  | one {v v' : Value} (h : AR μ n v v') : VR μ n v v'
  | tup {vs vs' : List Value} (h : All2 (AR μ n) vs vs') : VR μ n (.tuple vs.toArray) (.tuple vs'.toArray)

section all2
variable {α β : Type} {R S : α → β → Prop} {l : List α} {m : List β}
theorem All2.mono (h : All2 R l m) (hs : ∀ a b, R a b → S a b) : All2 S l m := by
  induction h with
  | nil => exact .nil
  | cons h _ ih => exact .cons (hs _ _ h) ih
theorem All2.length (h : All2 R l m) : l.length = m.length := by
  induction h with
  | nil => rfl
  | cons _ _ ih => simp [ih]
theorem All2.get (h : All2 R l m) : ∀ {j : Nat} {a : α}, l[j]? = some a → ∃ b, m[j]? = some b ∧ R a b := by
  induction h with
  | nil => intro j a h; cases h
  | cons h _ ih =>
    intro j x hx
    cases j with
    | zero => simp at hx; subst hx; exact ⟨_, rfl, h⟩
    | succ j => exact ih (by simpa using hx)
theorem All2.append {l' : List α} {m' : List β} (h : All2 R l m) (h' : All2 R l' m') : All2 R (l ++ l') (m ++ m') := by
  induction h with
  | nil => exact h'
  | cons h _ ih => exact .cons h ih
theorem All2.take (h : All2 R l m) : ∀ (k : Nat), All2 R (l.take k) (m.take k) := by
  induction h with
  | nil => intro k; simpa using All2.nil
  | cons h _ ih => intro k; cases k with
    | zero => exact .nil
    | succ k => exact .cons h (ih k)
theorem All2.drop (h : All2 R l m) : ∀ (k : Nat), All2 R (l.drop k) (m.drop k) := by
  induction h with
  | nil => intro k; simpa using All2.nil
  | cons h t ih => intro k; cases k with
    | zero => exact .cons h t
    | succ k => exact ih k
theorem All2.of_get : ∀ {l : List α} {m : List β}, l.length = m.length → (∀ (j : Nat) (a : α) (b : β), l[j]? = some a → m[j]? = some b → R a b) → All2 R l m
  | [], [], _, _ => .nil
  | a :: l, b :: m, h, hg => .cons (hg 0 a b rfl rfl) (All2.of_get (by simpa using h) fun j x y hx hy => hg (j + 1) x y (by simpa using hx) (by simpa using hy))
theorem All2.same {R : α → α → Prop} : ∀ {l : List α}, (∀ a ∈ l, R a a) → All2 R l l
  | [], _ => .nil
  | a :: l, h => .cons (h a (List.mem_cons_self ..)) (All2.same fun x hx => h x (List.mem_cons_of_mem _ hx))
end all2

def Ext (n : Nat) (μ : Mu) (n' : Nat) (μ' : Mu) : Prop := n ≤ n' ∧ ∀ i, i < n → μ' i = μ i
theorem Ext.refl (n : Nat) (μ : Mu) : Ext n μ n μ := ⟨Nat.le_refl _, fun _ _ => rfl⟩
theorem Ext.trans {n n' n'' : Nat} {μ μ' μ'' : Mu} (h : Ext n μ n' μ') (k : Ext n' μ' n'' μ'') : Ext n μ n'' μ'' :=
  ⟨Nat.le_trans h.1 k.1, fun i hi => (k.2 i (Nat.lt_of_lt_of_le hi h.1)).trans (h.2 i hi)⟩

section ext
variable {n n' : Nat} {μ μ' : Mu} {v v' : Value}
theorem FR.ext (h : FR μ n v v') (x : Ext n μ n' μ') : FR μ' n' v v' := by
  cases h with
  | same h => exact .same h
  | ptr h hz => rw [← x.2 _ h] at hz ⊢; exact .ptr (Nat.lt_of_lt_of_le h x.1) hz
  | slc h hk hc hz => rw [← x.2 _ h] at hc hz ⊢; exact .slc (Nat.lt_of_lt_of_le h x.1) hk hc hz
  | slc0 h hz => rw [← x.2 _ h] at hz ⊢; exact .slc0 (Nat.lt_of_lt_of_le h x.1) hz
  | nil h hz => rw [← x.2 _ h] at hz; exact .nil (Nat.lt_of_lt_of_le h x.1) hz
theorem AR.ext (h : AR μ n v v') (x : Ext n μ n' μ') : AR μ' n' v v' := by
  cases h with
  | one h => exact .one (h.ext x)
  | agg h => exact .agg (h.mono fun _ _ h => h.ext x)
theorem VR.ext (h : VR μ n v v') (x : Ext n μ n' μ') : VR μ' n' v v' := by
  cases h with
  | one h => exact .one (h.ext x)
  | tup h => exact .tup (h.mono fun _ _ h => h.ext x)
theorem FR.oneCell (h : FR μ n v v') : v'.oneCell' = true := by
  cases h with
  | same h => cases v <;> simp_all [flatV, Value.oneCell']
  | _ => rfl
theorem FR.of_flat (h : FR μ n v v') (hf : flatV v = true) : v' = v := by
  cases h with
  | same h => rfl
  | ptr h => cases hf
  | slc h hk hc => cases hf
  | slc0 h => cases hf
  | nil h => cases hf
theorem FR.flatness (h : FR μ n v v') : (∀ cs, v ≠ .agg cs) ∧ (∀ cs, v ≠ .tuple cs) ∧ (∀ cs, v' ≠ .agg cs) ∧ (∀ cs, v' ≠ .tuple cs) := by
  cases h with
  | same h => cases v <;> simp_all [flatV]
  | _ => simp
theorem FR.cells (h : FR μ n v v') : vcells v = [v] ∧ v'.cells = #[v'] := by
  cases h with
  | same h => cases v <;> simp_all [flatV, vcells, Value.cells]
  | _ => exact ⟨rfl, rfl⟩
theorem VR.flat (h : VR μ n v v') (hf : flatV v = true) : v' = v := by
  cases h with
  | one h => cases h with
    | one h => exact h.of_flat hf
    | agg h => cases hf
  | tup h => cases hf
theorem VR.of_clean (h : clean v = true) : VR μ n v v := by
  unfold clean at h
  split at h
  · rename_i cs
    refine .one ?_
    have := AR.agg (μ := μ) (n := n) (cs := cs.toList) (cs' := cs.toList) (All2.same fun a ha => .same (List.all_eq_true.1 h a ha))
    simpa using this
  · exact .one (.one (.same h))
theorem VR.cells (h : VR μ n v v') (hv : 0 < (vcells v).length) : All2 (FR μ n) (vcells v) v'.cells.toList := by
  cases h with
  | one h => cases h with
    | one h => rw [h.cells.1, h.cells.2]; exact .cons h .nil
    | agg h => simpa [vcells, Value.cells] using h
  | tup h => simp [vcells] at hv
theorem VR.ptr {i o : Nat} (h : VR μ n (.pointer (some ⟨i, o, none⟩)) v') : i < n ∧ v' = .pointer (some ⟨(μ i).r, (μ i).d + o, none⟩) := by
  cases h with
  | one h => cases h with
    | one h => cases h with
      | same h => cases h
      | ptr h hz => exact ⟨h, rfl⟩
theorem VR.ptrz {i o : Nat} (h : VR μ n (.pointer (some ⟨i, o, none⟩)) v') : (μ i).n ≠ 0 := by
  cases h with
  | one h => cases h with
    | one h => cases h with
      | same h => cases h
      | ptr h hz => exact hz
theorem VR.ptr' {p : Addr} (h : VR μ n (.pointer (some p)) v') : ∃ q, v' = .pointer (some q) := by
  cases h with
  | one h => cases h with
    | one h => cases h with
      | same h => cases h
      | ptr h => exact ⟨_, rfl⟩
theorem VR.agg {cs : Array Value} (h : VR μ n (.agg cs) v') : ∃ cs' : List Value, v' = .agg cs'.toArray ∧ All2 (FR μ n) cs.toList cs' := by
  cases h with
  | one h => cases h with
    | one h => exact absurd rfl (h.flatness.1 _)
    | agg h => exact ⟨_, rfl, h⟩
theorem VR.slc {i o k c : Nat} (h : VR μ n (.slice (some ⟨i, o, none⟩) k c) v') : i < n ∧ k = c ∧
    ((∃ c', v' = .slice (some ⟨(μ i).r, (μ i).d + o, none⟩) k c' ∧ k ≤ c' ∧ (μ i).d + o + c' * (μ i).sz ≤ (μ i).n ∧ (μ i).n ≠ 0) ∨ (k = 0 ∧ (μ i).n ≠ 0 ∧ ∃ o', v' = .slice (some ⟨(μ i).r, o', none⟩) 0 0) ∨ (k = 0 ∧ (μ i).n = 0 ∧ v' = .slice none 0 0)) := by
  cases h with
  | one h => cases h with
    | one h => cases h with
      | same h => cases h
      | slc h hk hc hz => exact ⟨h, rfl, .inl ⟨_, rfl, hk, hc, hz⟩⟩
      | slc0 h hz => exact ⟨h, rfl, .inr (.inl ⟨rfl, hz, _, rfl⟩)⟩
      | nil h hz => exact ⟨h, rfl, .inr (.inr ⟨rfl, hz, rfl⟩)⟩
theorem VR.tuple {vs : Array Value} (h : VR μ n (.tuple vs) v') : ∃ vs' : List Value, v' = .tuple vs'.toArray ∧ All2 (AR μ n) vs.toList vs' := by
  cases h with
  | one h => cases h with
    | one h => exact absurd rfl (h.flatness.2.1 _)
  | tup h => exact ⟨_, rfl, h⟩
end ext

/-- What the library's globals hold from the beginning on, where the program has them: the tables of unicode/utf8; bytealg.MaxLen. -/
def Gl (P : Program) (w : World) : Prop :=
  (∀ i j g g', P.globals[i]? = some g → P.globals[j]? = some g' → g.name = "unicode/utf8.first" → g'.name = "unicode/utf8.acceptRanges" → Lib.Utf8Tabs i j w) ∧
  (∀ i g, P.globals[i]? = some g → g.name = "internal/bytealg.MaxLen" → ∃ m, w.cell? ⟨i, 0, none⟩ = some (.int .i64 m))
theorem cell_lt {w : World} {i k : Nat} {v : Value} (h : w.cell? ⟨i, k, none⟩ = some v) : i < w.heap.size := by
  rcases Nat.lt_or_ge i w.heap.size with h1 | h1
  · exact h1
  · unfold World.cell? at h
    simp [Array.getElem?_eq_none h1] at h
theorem Gl.below {P : Program} {w w' : World} (hg : Gl P w) (hb : Below w.heap.size w w') : Gl P w' := by
  have tr : ∀ {i k v}, w.cell? ⟨i, k, none⟩ = some v → w'.cell? ⟨i, k, none⟩ = some v := fun h => by rw [hb.cell (cell_lt h)]; exact h
  refine ⟨fun i j g g' h1 h2 h3 h4 => ?_, fun i g h1 h2 => ?_⟩
  · obtain ⟨q1, q2⟩ := hg.1 i j g g' h1 h2 h3 h4
    exact ⟨fun c hc => tr (q1 c hc), fun c hc => ⟨tr (q2 c hc).1, tr (q2 c hc).2⟩⟩
  · obtain ⟨m, hm⟩ := hg.2 i g h1 h2
    exact ⟨m, tr hm⟩
/-- Where a call began; rows that are another one's: what they hold stays. -/
structure Org (P : Program) where
  w : World
  c : Nat → Option Obj
  gl : Gl P w

structure Rep {P : Program} (w0 : Org P) (μ : Mu) (h : Heap) (w : World) : Prop where
  below : Below w0.w.heap.size w0.w w
  fin : ∀ i b, h.g i = some b → i < h.n
  reads : ∀ i b, h.g i = some b → ∀ j v, b.cells[j]? = some v → ∃ v', w.cell? ⟨(μ i).r, (μ i).d + j, none⟩ = some v' ∧ FR μ h.n v v'
  ghost : ∀ i b, h.g i = some b → (μ i).n = 0 → b.cells = []
  owns : ∀ i b, h.g i = some b → b.own = true → (μ i).n ≠ 0 → w0.w.heap.size ≤ (μ i).r ∧ ∃ cs, w.heap[(μ i).r]? = some (.cells cs b.ty (0, 0)) ∧ cs.size = (μ i).n ∧ (μ i).d + b.cells.length ≤ (μ i).n
  old : ∀ i b, h.g i = some b → b.own = false → (μ i).n ≠ 0 → (μ i).r < w0.w.heap.size ∨ w0.c (μ i).r ≠ none
  rest : ∀ k o, w0.c k = some o → w.heap[k]? = some o
  free : ∀ i b, h.g i = some b → b.own = true → (μ i).n ≠ 0 → w0.c (μ i).r = none
  sz : ∀ i b, h.g i = some b → (μ i).sz = b.sz
  d0 : ∀ i b, h.g i = some b → b.own = true → (μ i).d = 0
  apart : ∀ i j b c, i ≠ j → h.g i = some b → h.g j = some c → b.own = true → c.own = true → (μ i).n ≠ 0 → (μ j).n ≠ 0 → (μ i).r ≠ (μ j).r

theorem Rep.gl {P : Program} {w0 : Org P} {μ : Mu} {h : Heap} {w : World} (hr : Rep w0 μ h w) : Gl P w := w0.gl.below hr.below
theorem Rep.nz {P : Program} {w0 : Org P} {μ : Mu} {h : Heap} {w : World} (hr : Rep w0 μ h w) {i : Nat} {b : Blk} (hi : h.g i = some b) {j : Nat} {v : Value} (hv : b.cells[j]? = some v) : (μ i).n ≠ 0 := fun hz => by
  rw [hr.ghost i b hi hz] at hv; cases hv

def ER (nt : NT) (μ : Mu) (n : Nat) (e : Env) (a : Act) : Prop :=
  a.tmps.size = nt.n ∧ a.defers = [] ∧ ∀ t v, e.get t = some v → VR μ n v (a.tmps.getD t undef)

section
variable {P : Program} {nt : NT} {w0 : Org P} {w : World} {μ μ' : Mu} {h : Heap} {e : Env} {a : Act} {n n' : Nat}

theorem ER.ext (he : ER nt μ n e a) (x : Ext n μ n' μ') : ER nt μ' n' e a := ⟨he.1, he.2.1, fun t v ht => (he.2.2 t v ht).ext x⟩
theorem ER.put (he : ER nt μ n e a) {d : Option Nat} (hd : d.all (· < nt.n) = true) {v v' : Value} (hv : VR μ n v v') : ER nt μ n (e.put d v) (a.put d v') := by
  cases d with
  | none => exact he
  | some d =>
    have hd' : d < nt.n := by simpa using hd
    refine ⟨by simp [Act.put, he.1], by simpa [Act.put] using he.2.1, fun t u ht => ?_⟩
    simp only [Env.put, Env.get_if] at ht
    by_cases hdt : d = t
    · subst hdt
      rw [if_pos rfl] at ht
      obtain rfl := Option.some.inj ht
      simp [Act.put, Array.getD, he.1, hd']
      exact hv
    · rw [if_neg hdt] at ht
      have := he.2.2 t u ht
      simpa [Act.put, Array.getD_eq_getD_getElem?, Array.getElem?_setIfInBounds, hdt] using this

theorem ER.told (he : ER nt μ n e a) {t : Nat} {b : Bool} (hb : e.get t = some (.bool b)) : ER nt μ n ((t, .bool b) :: e) a := by
  refine ⟨he.1, he.2.1, fun u v hu => ?_⟩
  simp only [Env.get_if] at hu
  by_cases h : t = u
  · rw [if_pos h] at hu
    obtain rfl := Option.some.inj hu
    subst h
    exact he.2.2 t _ hb
  · rw [if_neg h] at hu
    exact he.2.2 u v hu

theorem VR.undef : VR μ n undef undef := VR.tup (vs := []) (vs' := []) .nil

theorem cmo_ev {x : Operand} {y : MO} (hc : cmo x = some y) (he : ER nt μ n e a) {v : Value} (hv : y.ev e = some v) : VR μ n v (a.eval x) := by
  cases x with
  | tmp t =>
    simp only [cmo, Option.some.injEq] at hc
    subst hc
    exact he.2.2 t v hv
  | const u =>
    simp only [cmo] at hc
    split at hc
    · rename_i hcl
      simp only [Option.some.injEq] at hc
      subst hc
      simp only [MO.ev, Option.some.injEq] at hv
      subst hv
      exact VR.of_clean hcl
    · cases hc
  | global g => cases hc
  | func f =>
    simp only [cmo, Option.some.injEq] at hc
    subst hc
    simp only [MO.ev, Option.some.injEq] at hv
    subst hv
    exact .one (.one (.same rfl))

/-- What an operation comes to. -/
def Does (P : Program) (o : Oper) (a : Act) (w0 : Org P) (μ : Mu) (n : Nat) (w : World) (K : VK) : Prop :=
  ∃ v h' μ' w' v', K v h' ∧ ((execOp a.eval o).run P w = .ok (.value v') w' ∨ (v' = Go.undef ∧ (execOp a.eval o).run P w = .ok .skip w')) ∧ Ext n μ h'.n μ' ∧ Rep w0 μ' h' w' ∧ VR μ' h'.n v v' ∧ (quietR o.op = true → w' = w)

theorem does_pure {o : Oper} {K : VK} {v v' : Value} (hr : Rep w0 μ h w) (hK : K v h) (hrun : (execOp a.eval o).run P w = .ok (.value v') w) (hv : VR μ h.n v v') : Does P o a w0 μ h.n w K :=
  ⟨v, h, μ, w, v', hK, .inl hrun, Ext.refl _ _, hr, hv, fun _ => rfl⟩

theorem VR.same {v : Value} (hf : flatV v = true) : VR μ n v v := .one (.one (.same hf))

theorem wrap_rng {k : IntKind} {x : Int} (hx : rng k x) : k.wrap x = x := by
  cases k <;> simp only [rng] at hx <;> simp only [IntKind.wrap, IntKind.bits, IntKind.signed, Bool.true_and, Bool.false_and, Bool.false_eq_true, if_false] <;> (try split) <;> simp_all <;> omega

theorem run_bin_int {op : BinOp} {k : IntKind} {x y : Int} {K : VK} {o : Oper} {t ty : TypeId} {ox oy : Operand} (hop : o.op = .binOp op t ox oy ty) (hr : Rep w0 μ h w) (hx : a.eval ox = .int k x) (hy : a.eval oy = .int k y)
    (hK : ibin op k x y h K) : Does P o a w0 μ h.n w K := by
  unfold ibin at hK
  split at hK
  · exact does_pure hr hK.2 (v' := .int k (x + y)) (by simp [execOp, hop, hx, hy, eqGuard, binOp, Op.intArith, wrap_rng hK.1]) (.same rfl)
  · exact does_pure hr hK.2 (v' := .int k (x - y)) (by simp [execOp, hop, hx, hy, eqGuard, binOp, Op.intArith, wrap_rng hK.1]) (.same rfl)
  · exact does_pure hr hK.2 (v' := .int k (x * y)) (by simp [execOp, hop, hx, hy, eqGuard, binOp, Op.intArith, wrap_rng hK.1]) (.same rfl)
  · exact does_pure hr hK.2.2 (v' := .int k (x.tdiv y)) (by simp [execOp, hop, hx, hy, eqGuard, binOp, Op.intDiv, wrap_rng hK.2.1, hK.1]) (.same rfl)
  · exact does_pure hr hK.2 (v' := .int k (x.tmod y)) (by simp [execOp, hop, hx, hy, eqGuard, binOp, Op.intDiv, hK.1]) (.same rfl)
  · exact does_pure hr hK (v' := .bool (decide (x = y))) (by simp [execOp, hop, hx, hy, eqGuard, binOp, Op.intCmp]; rw [Bool.eq_iff_iff]; simp) (.same rfl)
  · exact does_pure hr hK (v' := .bool (!decide (x = y))) (by simp [execOp, hop, hx, hy, eqGuard, binOp, Op.intCmp]; rw [Bool.eq_iff_iff]; simp) (.same rfl)
  · exact does_pure hr hK (v' := .bool (decide (x < y))) (by simp [execOp, hop, hx, hy, eqGuard, binOp, Op.intCmp]) (.same rfl)
  · exact does_pure hr hK (v' := .bool (decide (x ≤ y))) (by simp [execOp, hop, hx, hy, eqGuard, binOp, Op.intCmp]) (.same rfl)
  · exact does_pure hr hK (v' := .bool (decide (y < x))) (by simp [execOp, hop, hx, hy, eqGuard, binOp, Op.intCmp]) (.same rfl)
  · exact does_pure hr hK (v' := .bool (decide (y ≤ x))) (by simp [execOp, hop, hx, hy, eqGuard, binOp, Op.intCmp]) (.same rfl)
  · exact does_pure hr hK (by simp [execOp, hop, hx, hy, eqGuard, binOp, Op.intBits]) (.same rfl)
  · exact does_pure hr hK (by simp [execOp, hop, hx, hy, eqGuard, binOp, Op.intBits]) (.same rfl)
  · exact does_pure hr hK (by simp [execOp, hop, hx, hy, eqGuard, binOp, Op.intBits]) (.same rfl)
  · exact does_pure hr hK (by simp [execOp, hop, hx, hy, eqGuard, binOp, Op.intBits]) (.same rfl)
  · exact hK.elim
  · exact hK.elim

theorem run_sh_int {op : BinOp} {k k' : IntKind} {x y : Int} {K : VK} {o : Oper} {t ty : TypeId} {ox oy : Operand} (hop : o.op = .binOp op t ox oy ty) (hr : Rep w0 μ h w) (hx : a.eval ox = .int k x) (hy : a.eval oy = .int k' y)
    (hK : shbin op k x y h K) : Does P o a w0 μ h.n w K := by
  unfold shbin at hK
  split at hK
  · have hy0 : ¬ y < 0 := by have := hK.1; omega
    exact does_pure hr hK.2 (by simp [execOp, hop, hx, hy, eqGuard, binOp, Op.shift, hy0]) (.same rfl)
  · have hy0 : ¬ y < 0 := by have := hK.1; omega
    exact does_pure hr hK.2 (by simp [execOp, hop, hx, hy, eqGuard, binOp, Op.shift, hy0]) (.same rfl)
  · exact hK.elim
end
end Go.Mini
