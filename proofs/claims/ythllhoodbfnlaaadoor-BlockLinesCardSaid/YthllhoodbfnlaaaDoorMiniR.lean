/- Mini: numbers of rows turned: a call told over a small heap holds in every heap that it is a part of; behind a round of a loop rows get small numbers again. No condition. -/
import Derived.Test.YthllhoodbfnlaaaDoorMiniP
namespace Go.Mini
open Go Go.RowKit
set_option linter.unusedVariables false
set_option linter.unusedSimpArgs false

def okF (n : Nat) : Value → Bool
  | .pointer (some ⟨i, _, none⟩) => Nat.blt i n
  | .slice (some ⟨i, _, none⟩) k c => Nat.blt i n && Nat.beq k c
  | v => flatV v
def okA (n : Nat) : Value → Bool
  | .agg cs => cs.toList.all (okF n)
  | v => okF n v
def okT (n : Nat) : Value → Bool
  | .tuple vs => vs.toList.all (okA n)
  | v => okA n v
/-- A value that stands for nothing. -/
def badV : Value := .slice none 1 0
/-- Numbers turned; a row without a number is one that stands nowhere: its slices are nil. -/
def ren (ρ : Nat → Option Nat) : Value → Value
  | .pointer (some ⟨i, o, s⟩) => match ρ i with
    | some m => .pointer (some ⟨m, o, s⟩)
    | none => badV
  | .slice (some ⟨i, o, s⟩) k c => match ρ i with
    | some m => .slice (some ⟨m, o, s⟩) k c
    | none => match k with
      | 0 => .slice none 0 0
      | _ => badV
  | v => v
def renA (ρ : Nat → Option Nat) : Value → Value
  | .agg cs => .agg (cs.toList.map (ren ρ)).toArray
  | v => ren ρ v
def renT (ρ : Nat → Option Nat) : Value → Value
  | .tuple vs => .tuple (vs.toList.map (renA ρ)).toArray
  | v => renA ρ v
def szAt (hc : Heap) (i : Nat) : Nat := match hc.g i with
  | some b => b.sz
  | none => 0
/-- Where the rows of a part lie. -/
def Mu.via (μ : Mu) (ρ : Nat → Option Nat) (hc : Heap) : Mu := fun i => match ρ i with
  | some k => μ k
  | none => ⟨0, 0, 0, szAt hc i⟩
def renB (ρ : Nat → Option Nat) (b : Blk) : Blk := ⟨b.ty, b.sz, b.cells.map (ren ρ), b.own⟩

section
variable {P : Program} {w0 : Org P} {w w1 : World} {μ μ' : Mu} {h hc h' : Heap} {n n' N : Nat} {ρ : Nat → Option Nat} {v v' : Value}

theorem blt_false {a b : Nat} : Nat.blt a b = false ↔ b ≤ a := by
  cases hb : Nat.blt a b with
  | true => have : a < b := by simpa using hb
            simp; omega
  | false =>
    have : ¬ a < b := fun h => by rw [show Nat.blt a b = true from by simpa using h] at hb; cases hb
    simp; omega
theorem Mu.via_some {i k : Nat} (h : ρ i = some k) : μ.via ρ hc i = μ k := by simp [Mu.via, h]
theorem Mu.via_none {i : Nat} (h : ρ i = none) : μ.via ρ hc i = ⟨0, 0, 0, szAt hc i⟩ := by simp [Mu.via, h]
theorem Mu.via_ne {i : Nat} (h : (μ.via ρ hc i).n ≠ 0) : ∃ k, ρ i = some k := by
  cases hk : ρ i with
  | some k => exact ⟨k, rfl⟩
  | none => rw [Mu.via_none hk] at h; exact absurd rfl h
theorem badV_no (h : FR μ n badV v') : False := by
  cases h with
  | same hf => cases hf
theorem ren_flat (h : flatV v = true) : ren ρ v = v := by
  unfold ren
  split
  · cases h
  · unfold flatV at h; split at h <;> simp_all
  · rfl

theorem FR.cmp (hv : okF n v = true) (h : FR μ N (ren ρ v) v') : FR (μ.via ρ hc) n v v' := by
  unfold okF at hv
  split at hv
  · rename_i i o
    have hi : i < n := by simpa using hv
    cases hk : ρ i with
    | none => simp only [ren, hk] at h; exact (badV_no h).elim
    | some k =>
      simp only [ren, hk] at h
      have e : μ.via ρ hc i = μ k := Mu.via_some hk
      have hz := (VR.one (.one h)).ptrz
      obtain ⟨_, rfl⟩ := (VR.one (.one h)).ptr
      rw [← e] at hz ⊢
      exact .ptr hi hz
  · rename_i i o k c
    simp only [Bool.and_eq_true, Nat.blt_eq, Nat.beq_eq] at hv
    obtain ⟨hi, rfl⟩ := hv
    cases hk : ρ i with
    | none =>
      simp only [ren, hk] at h
      cases k with
      | zero =>
        have : v' = .slice none 0 0 := h.of_flat rfl
        subst this
        exact .nil hi (by rw [Mu.via_none hk])
      | succ k => exact (badV_no h).elim
    | some m =>
      simp only [ren, hk] at h
      have e : μ.via ρ hc i = μ m := Mu.via_some hk
      cases h with
      | same hf => cases hf
      | slc h1 h2 h3 hz => rw [← e] at h3 hz ⊢; exact .slc hi h2 h3 hz
      | slc0 h1 hz => rw [← e] at hz ⊢; exact .slc0 hi hz
      | nil h1 hz => rw [← e] at hz; exact .nil hi hz
  · rename_i v h1 h2
    rw [ren_flat hv] at h
    rw [h.of_flat hv]
    exact .same hv

/-- Each row has a number there, or stands nowhere. -/
def Put (ρ : Nat → Option Nat) (μ μ' : Mu) (n N : Nat) : Prop := ∀ i, i < n → (∃ k, ρ i = some k ∧ μ i = μ' k ∧ k < N) ∨ (ρ i = none ∧ (μ i).n = 0)
theorem FR.put (hρ : Put ρ μ μ' n N) (h : FR μ n v v') : FR μ' N (ren ρ v) v' := by
  cases h with
  | same hf => rw [ren_flat hf]; exact .same hf
  | ptr hi hz =>
    rcases hρ _ hi with ⟨k, h1, h2, h3⟩ | ⟨h1, h2⟩
    · simp only [ren, h1]; rw [h2] at hz ⊢; exact .ptr h3 hz
    · exact absurd h2 hz
  | slc hi hk hc hz =>
    rcases hρ _ hi with ⟨k, h1, h2, h3⟩ | ⟨h1, h2⟩
    · simp only [ren, h1]; rw [h2] at hc hz ⊢; exact .slc h3 hk hc hz
    · exact absurd h2 hz
  | slc0 hi hz =>
    rcases hρ _ hi with ⟨k, h1, h2, h3⟩ | ⟨h1, h2⟩
    · simp only [ren, h1]; rw [h2] at hz ⊢; exact .slc0 h3 hz
    · exact absurd h2 hz
  | nil hi hz =>
    rcases hρ _ hi with ⟨k, h1, h2, h3⟩ | ⟨h1, h2⟩
    · simp only [ren, h1]; rw [h2] at hz; exact .nil h3 hz
    · simp only [ren, h1]; exact .same rfl

theorem All2.of_map {α β γ : Type} {R : β → γ → Prop} {f : α → β} : ∀ {l : List α} {m : List γ}, All2 R (l.map f) m → All2 (fun a c => R (f a) c) l m
  | [], _, h => by cases h; exact .nil
  | a :: l, _, h => by cases h with | cons h t => exact .cons h (All2.of_map t)
theorem All2.to_map {α β γ : Type} {R : β → γ → Prop} {f : α → β} : ∀ {l : List α} {m : List γ}, All2 (fun a c => R (f a) c) l m → All2 R (l.map f) m
  | [], _, h => by cases h; exact .nil
  | a :: l, _, h => by cases h with | cons h t => exact .cons h (All2.to_map t)
theorem All2.mono_mem {α β : Type} {R S : α → β → Prop} : ∀ {l : List α} {m : List β}, All2 R l m → (∀ a ∈ l, ∀ b, R a b → S a b) → All2 S l m
  | _, _, .nil, _ => .nil
  | _, _, .cons h t, hs => .cons (hs _ (List.mem_cons_self ..) _ h) (t.mono_mem fun a ha b => hs a (List.mem_cons_of_mem _ ha) b)

theorem AR.cmp (hv : okA n v = true) (h : AR μ N (renA ρ v) v') : AR (μ.via ρ hc) n v v' := by
  unfold okA at hv
  split at hv
  · rename_i cs
    have h' : AR μ N (.agg (cs.toList.map (ren ρ)).toArray) v' := h
    obtain ⟨cs', rfl, hall⟩ := (VR.one h').agg
    have := AR.agg (μ := μ.via ρ hc) (n := n) (cs := cs.toList) (cs' := cs') ((All2.of_map hall).mono_mem fun a ha b hb => FR.cmp (List.all_eq_true.1 hv a ha) hb)
    simpa using this
  · rename_i u hne
    have e : renA ρ v = ren ρ v := by unfold renA; split; rename_i cs; exact absurd rfl (hne cs); rfl
    rw [e] at h
    generalize hu : ren ρ v = u at h
    cases h with
    | one h => subst hu; exact .one (h.cmp hv)
    | agg h =>
      exfalso
      unfold ren badV at hu
      split at hu
      · split at hu <;> cases hu
      · split at hu
        · cases hu
        · split at hu <;> cases hu
      · exact hne _ hu
theorem AR.put (hρ : Put ρ μ μ' n N) (h : AR μ n v v') : AR μ' N (renA ρ v) v' := by
  cases h with
  | one h =>
    have e : renA ρ v = ren ρ v := by unfold renA; split; rename_i cs; exact absurd rfl (h.flatness.1 cs); rfl
    rw [e]
    exact .one (h.put hρ)
  | agg h => exact .agg (All2.to_map (h.mono fun a b hab => hab.put hρ))
theorem VR.cmp (hv : okT n v = true) (h : VR μ N (renT ρ v) v') : VR (μ.via ρ hc) n v v' := by
  unfold okT at hv
  split at hv
  · rename_i vs
    have h' : VR μ N (.tuple (vs.toList.map (renA ρ)).toArray) v' := h
    obtain ⟨vs', rfl, hall⟩ := h'.tuple
    have := VR.tup (μ := μ.via ρ hc) (n := n) (vs := vs.toList) (vs' := vs') ((All2.of_map hall).mono_mem fun a ha b hb => AR.cmp (List.all_eq_true.1 hv a ha) hb)
    simpa using this
  · rename_i u hne
    have e : renT ρ v = renA ρ v := by unfold renT; split; rename_i cs; exact absurd rfl (hne cs); rfl
    rw [e] at h
    generalize hu : renA ρ v = u at h
    cases h with
    | one h => subst hu; exact .one (h.cmp hv)
    | tup h =>
      exfalso
      unfold renA ren badV at hu
      split at hu
      · cases hu
      · split at hu
        · split at hu <;> cases hu
        · split at hu
          · cases hu
          · split at hu <;> cases hu
        · exact hne _ hu
theorem VR.put (hρ : Put ρ μ μ' n N) (h : VR μ n v v') : VR μ' N (renT ρ v) v' := by
  cases h with
  | one h =>
    have e : renT ρ v = renA ρ v := by
      unfold renT
      split
      · rename_i cs
        cases h with
        | one h => exact absurd rfl (h.flatness.2.1 cs)
      · rfl
    rw [e]
    exact .one (h.put hρ)
  | tup h => exact .tup (All2.to_map (h.mono fun a b hab => hab.put hρ))

/-- hc is a part of h, its rows' numbers turned; rows without a number are empty ones. -/
structure View (ρ : Nat → Option Nat) (hc h : Heap) : Prop where
  lt : ∀ j k, j < hc.n → ρ j = some k → k < h.n
  fin : ∀ j b, hc.g j = some b → j < hc.n
  inj : ∀ i j b c k, hc.g i = some b → hc.g j = some c → ρ i = some k → ρ j = some k → i = j
  g : ∀ j b k, hc.g j = some b → ρ j = some k → b.cells.all (okF hc.n) = true ∧ ∃ o, h.g k = some ⟨b.ty, b.sz, b.cells.map (ren ρ), o⟩ ∧ (b.own = true → o = true)
  gh : ∀ j b, hc.g j = some b → ρ j = none → b.cells = []

theorem View.numd (V : View ρ hc h) {i j : Nat} {b : Blk} {v : Value} (hi : hc.g i = some b) (hv : b.cells[j]? = some v) : ∃ k, ρ i = some k := by
  cases hk : ρ i with
  | some k => exact ⟨k, rfl⟩
  | none => rw [V.gh i b hi hk] at hv; cases hv
theorem View.reads (V : View ρ hc h) (hr : Rep w0 μ h w) : ∀ i b, hc.g i = some b → ∀ j v, b.cells[j]? = some v → ∃ v', w.cell? ⟨(μ.via ρ hc i).r, (μ.via ρ hc i).d + j, none⟩ = some v' ∧ FR (μ.via ρ hc) hc.n v v' := fun i b hi j v hv => by
  obtain ⟨k, hk⟩ := V.numd hi hv
  rw [Mu.via_some hk]
  obtain ⟨h1, o, h2, h3⟩ := V.g i b k hi hk
  obtain ⟨v', h4, h5⟩ := hr.reads k _ h2 j (ren ρ v) (by simp [hv])
  exact ⟨v', h4, h5.cmp (List.all_eq_true.1 h1 v (List.mem_of_getElem? hv))⟩
theorem View.ghost (V : View ρ hc h) (hr : Rep w0 μ h w) : ∀ i b, hc.g i = some b → (μ.via ρ hc i).n = 0 → b.cells = [] := fun i b hi hz => by
  cases hk : ρ i with
  | none => exact V.gh i b hi hk
  | some k =>
    rw [Mu.via_some hk] at hz
    obtain ⟨_, o, h2, _⟩ := V.g i b k hi hk
    simpa using hr.ghost k _ h2 hz
theorem View.sz (V : View ρ hc h) (hr : Rep w0 μ h w) : ∀ i b, hc.g i = some b → (μ.via ρ hc i).sz = b.sz := fun i b hi => by
  cases hk : ρ i with
  | none => rw [Mu.via_none hk]; simp [szAt, hi]
  | some k =>
    rw [Mu.via_some hk]
    obtain ⟨_, o, h2, _⟩ := V.g i b k hi hk
    have := hr.sz k _ h2
    exact this

/-! ### Small numbers again -/
structure Cmp (n : Nat) (ρ : Nat → Option Nat) (hc h : Heap) : Prop where
  view : View ρ hc h
  own : ∀ j b b' k, hc.g j = some b → ρ j = some k → h.g k = some b' → b'.own = b.own
  le : n ≤ hc.n
  low : ∀ j, j < n → ρ j = some j

theorem Rep.cmp (hr : Rep w0 μ h w) (V : Cmp n ρ hc h) : Rep w0 (μ.via ρ hc) hc w := by
  have get : ∀ {j b k}, hc.g j = some b → ρ j = some k → ∃ cs, h.g k = some ⟨b.ty, b.sz, cs, b.own⟩ ∧ cs.length = b.cells.length := fun {j b k} hj hk => by
    obtain ⟨_, o, h2, _⟩ := V.view.g j b k hj hk
    have := V.own j b _ k hj hk h2
    simp only at this
    subst this
    exact ⟨_, h2, by simp⟩
  refine ⟨hr.below, V.view.fin, V.view.reads hr, V.view.ghost hr, fun i b hi ho hz => ?_, fun i b hi ho hz => ?_, hr.rest, fun i b hi ho hz => ?_, V.view.sz hr, fun i b hi ho => ?_, fun i j b c hij hi hj hb hc zi zj => ?_⟩
  · obtain ⟨k, hk⟩ := Mu.via_ne hz
    rw [Mu.via_some hk] at hz ⊢
    obtain ⟨cs, h1, h2⟩ := get hi hk
    have := hr.owns _ _ h1 ho hz
    simp only [h2] at this
    exact this
  · obtain ⟨k, hk⟩ := Mu.via_ne hz
    rw [Mu.via_some hk] at hz ⊢
    obtain ⟨cs, h1, h2⟩ := get hi hk; exact hr.old _ _ h1 ho hz
  · obtain ⟨k, hk⟩ := Mu.via_ne hz
    rw [Mu.via_some hk] at hz ⊢
    obtain ⟨cs, h1, h2⟩ := get hi hk; exact hr.free _ _ h1 ho hz
  · cases hk : ρ i with
    | none => rw [Mu.via_none hk]
    | some k =>
      rw [Mu.via_some hk]
      obtain ⟨cs, h1, h2⟩ := get hi hk; exact hr.d0 _ _ h1 ho
  · obtain ⟨k, hk⟩ := Mu.via_ne zi
    obtain ⟨m, hm⟩ := Mu.via_ne zj
    rw [Mu.via_some hk] at zi ⊢
    rw [Mu.via_some hm] at zj ⊢
    obtain ⟨cs, h1, h2⟩ := get hi hk
    obtain ⟨cs', h1', h2'⟩ := get hj hm
    exact hr.apart _ _ _ _ (fun e => hij (V.view.inj i j b c k hi hj hk (e ▸ hm))) h1 h1' hb hc zi zj

/-! ### A call over a part of the heap -/
def tgt (ρl : List (Option Nat)) (n m : Nat) (j : Nat) : Option Nat := bif Nat.blt j m then ρl.getD j none else some (n + (j - m))
/-- The place of a row that was handed on. -/
def idx (hc : Heap) (k : Nat) : List (Option Nat) → Nat → Option Nat
  | [], _ => none
  | none :: l, j => idx hc k l (j + 1)
  | some i :: l, j => bif Nat.beq i k && (match hc.g j with | some b => b.own | none => false) then some j else idx hc k l (j + 1)
def back (ρl : List (Option Nat)) (h hc h' : Heap) (j : Nat) : Option Blk := match h'.g j with
  | some b => bif b.own then some (renB (tgt ρl h.n hc.n) b) else none
  | none => none
/-- The heap behind the call. -/
def afterAt (ρl : List (Option Nat)) (h hc h' : Heap) (k : Nat) : Option Blk := bif Nat.blt k h.n then (match idx hc k ρl 0 with | some j => back ρl h hc h' j | none => h.g k) else back ρl h hc h' (k - h.n + hc.n)
/-- The rows 0 .. n - 1 by a rule. -/
def rowsBy (f : Nat → Option Blk) : Nat → Nat → List (Option Blk)
  | 0, _ => []
  | n + 1, k => f k :: rowsBy f n (k + 1)
theorem rowsBy_at (f : Nat → Option Blk) : ∀ (n k j : Nat), mrow (rowsBy f n k) j = if j < n then f (k + j) else none
  | 0, k, j => by rw [rowsBy, mrow_nil]; simp
  | n + 1, k, 0 => by simp [rowsBy, mrow]
  | n + 1, k, j + 1 => by rw [rowsBy, mrow, rowsBy_at f n (k + 1) j, show k + 1 + j = k + (j + 1) from by omega]; simp
def after (ρl : List (Option Nat)) (h hc h' : Heap) : Heap := ⟨h.n + (h'.n - hc.n), rowsBy (afterAt ρl h hc h') (h.n + (h'.n - hc.n)) 0⟩
theorem after_g {ρl : List (Option Nat)} {h hc h' : Heap} {k : Nat} {b : Blk} (hk : (after ρl h hc h').g k = some b) : afterAt ρl h hc h' k = some b := by
  have : mrow (rowsBy (afterAt ρl h hc h') (h.n + (h'.n - hc.n)) 0) k = some b := hk
  rw [rowsBy_at, Nat.zero_add] at this
  split at this
  · exact this
  · cases this

theorem idx_some : ∀ {l : List (Option Nat)} {a j : Nat} {k : Nat}, idx hc k l a = some j → a ≤ j ∧ l.getD (j - a) none = some k ∧ j - a < l.length ∧ ∃ b, hc.g j = some b ∧ b.own = true
  | none :: l, a, j, k, h => by
    unfold idx at h
    obtain ⟨h1, h2, h3, h4⟩ := idx_some (l := l) h
    have e : j - a = (j - (a + 1)) + 1 := by omega
    refine ⟨by omega, by rw [e]; simpa using h2, by rw [e]; simp; omega, h4⟩
  | some i :: l, a, j, k, h => by
    unfold idx at h
    cases hb : (Nat.beq i k && (match hc.g a with | some b => b.own | none => false)) with
    | true =>
      rw [hb] at h
      obtain rfl := Option.some.inj h
      simp only [Bool.and_eq_true] at hb
      obtain ⟨h1, h2⟩ := hb
      refine ⟨Nat.le_refl _, by simpa using h1, by simp, ?_⟩
      split at h2
      · rename_i b hb'; exact ⟨b, hb', h2⟩
      · cases h2
    | false =>
      rw [hb] at h
      obtain ⟨h1, h2, h3, h4⟩ := idx_some (l := l) h
      have e : j - a = (j - (a + 1)) + 1 := by omega
      refine ⟨by omega, by rw [e]; simpa using h2, by rw [e]; simp; omega, h4⟩
theorem idx_none : ∀ {l : List (Option Nat)} {a : Nat} {k : Nat}, idx hc k l a = none → ∀ j b, a ≤ j → j - a < l.length → hc.g j = some b → b.own = true → l.getD (j - a) none ≠ some k
  | [], a, k, h, j, b, h1, h2, _, _ => by simp at h2
  | none :: l, a, k, h, j, b, h1, h2, h3, h4 => by
    unfold idx at h
    by_cases e : j = a
    · subst e
      rw [Nat.sub_self]
      simp
    · have e2 : j - a = (j - (a + 1)) + 1 := by omega
      rw [e2]
      simp only [List.getD_cons_succ]
      exact idx_none (l := l) h j b (by omega) (by simp at h2; omega) h3 h4
  | some i :: l, a, k, h, j, b, h1, h2, h3, h4 => by
    unfold idx at h
    cases hb : (Nat.beq i k && (match hc.g a with | some b => b.own | none => false)) with
    | true => rw [hb] at h; cases h
    | false =>
      rw [hb] at h
      by_cases e : j = a
      · subst e
        rw [h3] at hb
        simp only [h4, Bool.and_true] at hb
        rw [Nat.sub_self]
        simp only [List.getD_cons_zero, ne_eq, Option.some.injEq]
        intro e
        subst e
        simp at hb
      · have e2 : j - a = (j - (a + 1)) + 1 := by omega
        rw [e2]
        simp only [List.getD_cons_succ]
        exact idx_none (l := l) h j b (by omega) (by simp at h2; omega) h3 h4
theorem tgt_lt {ρl : List (Option Nat)} {n m j : Nat} (h : j < m) : tgt ρl n m j = ρl.getD j none := by
  unfold tgt
  rw [show Nat.blt j m = true from by simpa using h]
  rfl
theorem tgt_ge {ρl : List (Option Nat)} {n m j : Nat} (h : m ≤ j) : tgt ρl n m j = some (n + (j - m)) := by
  unfold tgt
  rw [blt_false.2 h]
  rfl
open Classical in
/-- All rows but those that are handed on. -/
noncomputable def Org.but {P : Program} (w0 : Org P) (w : World) (S : Nat → Prop) : Org P := ⟨w0.w, fun r => if S r then none else w.heap[r]?, w0.gl⟩

theorem ACalls.frame {f : Nat} {vsc : List Value} {K : VK} (ρl : List (Option Nat)) (hlen : ρl.length = hc.n) (V : View (fun j => ρl.getD j none) hc h) (hok : vsc.all (okT hc.n) = true)
    (hh : ACalls P f vsc hc fun v h' => K (renT (tgt ρl h.n hc.n) v) (after ρl h hc h')) : ACalls P f (vsc.map (renT fun j => ρl.getD j none)) h K := by
  refine ⟨hh.1, fun w0 μ w vs' hr hall => ?_⟩
  obtain ⟨ρ, hρ⟩ : ∃ ρ : Nat → Option Nat, (fun j => ρl.getD j none) = ρ := ⟨_, rfl⟩
  rw [hρ] at V hall
  have hρ' : ∀ j, ρl.getD j none = ρ j := fun j => by rw [← hρ]
  obtain ⟨μc, hμc⟩ : ∃ μc : Mu, μ.via ρ hc = μc := ⟨_, rfl⟩
  have vsome : ∀ {i k}, ρ i = some k → μc i = μ k := fun h => by rw [← hμc]; exact Mu.via_some h
  have vne : ∀ {i}, (μc i).n ≠ 0 → ∃ k, ρ i = some k := fun h => by rw [← hμc] at h; exact Mu.via_ne h
  let S : Nat → Prop := fun r => ∃ j b, hc.g j = some b ∧ b.own = true ∧ (μc j).n ≠ 0 ∧ (μc j).r = r
  have own : ∀ {j b k}, hc.g j = some b → b.own = true → ρ j = some k → ∃ cs, h.g k = some ⟨b.ty, b.sz, cs, true⟩ ∧ cs.length = b.cells.length := fun {j b k} hj ho hk => by
    obtain ⟨_, o, h2, h3⟩ := V.g j b k hj hk
    obtain rfl := h3 ho
    exact ⟨_, h2, by simp⟩
  have cIn : ∀ {r}, S r → (w0.but w S).c r = none := fun {r} h => by simp [Org.but, h]
  have cOut : ∀ {r}, ¬ S r → (w0.but w S).c r = w.heap[r]? := fun {r} h => by simp [Org.but, h]
  have hrc : Rep (w0.but w S) μc hc w := by
    refine ⟨hr.below, V.fin, by rw [← hμc]; exact V.reads hr, by rw [← hμc]; exact V.ghost hr, fun i b hi ho hz => ?_, fun i b hi ho hz => ?_, fun k o hk => ?_, fun i b hi ho hz => ?_, by rw [← hμc]; exact V.sz hr, fun i b hi ho => ?_, fun i j b c hij hi hj hb hc' zi zj => ?_⟩
    · obtain ⟨k, hk⟩ := vne hz
      rw [vsome hk] at hz ⊢
      obtain ⟨cs, h1, h2⟩ := own hi ho hk
      have := hr.owns _ _ h1 rfl hz
      simp only [h2] at this
      exact this
    · obtain ⟨k, hk⟩ := vne hz
      obtain ⟨_, o, h2, _⟩ := V.g i b k hi hk
      have hnS : ¬ S (μc i).r := by
        rintro ⟨j, b2, h3, h4, h5, h6⟩
        obtain ⟨m, hm⟩ := vne h5
        obtain ⟨cs, h7, _⟩ := own h3 h4 hm
        have hne : i ≠ j := fun e => by subst e; rw [hi] at h3; obtain rfl := Option.some.inj h3; rw [ho] at h4; cases h4
        rw [vsome hk] at h6 hz
        rw [vsome hm] at h5 h6
        exact hr.ne (fun e => hne (V.inj i j b b2 k hi h3 hk (by rw [e]; exact hm))) h2 h7 rfl hz h5 h6.symm
      rw [vsome hk] at hz hnS ⊢
      cases o with
      | true =>
        right
        obtain ⟨_, cs, h3, _⟩ := hr.owns _ _ h2 rfl hz
        rw [cOut hnS, h3]
        exact fun e => by cases e
      | false =>
        rcases hr.old _ _ h2 rfl hz with h3 | h3
        · exact .inl h3
        · right
          obtain ⟨o, ho'⟩ := Option.ne_none_iff_exists'.1 h3
          rw [cOut hnS, hr.rest _ o ho']
          exact fun e => by cases e
    · by_cases hS : S k
      · rw [cIn hS] at hk; cases hk
      · rw [cOut hS] at hk; exact hk
    · exact cIn ⟨i, b, hi, ho, hz, rfl⟩
    · cases hk : ρ i with
      | none => rw [← hμc, Mu.via_none hk]
      | some k => rw [vsome hk]; obtain ⟨cs, h1, h2⟩ := own hi ho hk; exact hr.d0 _ _ h1 rfl
    · obtain ⟨k, hk⟩ := vne zi
      obtain ⟨m, hm⟩ := vne zj
      rw [vsome hk] at zi ⊢
      rw [vsome hm] at zj ⊢
      obtain ⟨cs, h1, _⟩ := own hi hb hk
      obtain ⟨cs', h1', _⟩ := own hj hc' hm
      exact hr.apart _ _ _ _ (fun e => hij (V.inj i j b c k hi hj hk (by rw [e]; exact hm))) h1 h1' rfl rfl zi zj
  have hallc : All2 (VR μc hc.n) vsc vs' := by
    rw [← hμc]
    exact (All2.of_map hall).mono_mem fun a ha b hb => VR.cmp (List.all_eq_true.1 hok a ha) hb
  refine (hh.2 _ _ w vs' hrc hallc).mono ?_
  rintro e w' ⟨v, v', h', μ', rfl, hx, hr', hv, hK⟩
  let μr : Mu := fun k => if k < h.n then μ k else μ' (k - h.n + hc.n)
  have hn := hx.1
  have tg : Put (tgt ρl h.n hc.n) μ' μr h'.n (h.n + (h'.n - hc.n)) := fun j hj => by
    by_cases hjc : j < hc.n
    · rw [tgt_lt hjc, hρ' j]
      cases hk : ρ j with
      | none =>
        right
        refine ⟨rfl, ?_⟩
        rw [hx.2 j hjc, ← hμc, Mu.via_none hk]
      | some k =>
        left
        have := V.lt j k hjc hk
        refine ⟨k, rfl, ?_, by omega⟩
        rw [hx.2 j hjc, vsome hk]
        simp only [μr, if_pos this]
    · rw [tgt_ge (by omega)]
      left
      refine ⟨_, rfl, ?_, by omega⟩
      have h1 : ¬ h.n + (j - hc.n) < h.n := by omega
      simp only [μr, if_neg h1]
      congr 1
      omega
  have tgs : ∀ {j k}, j < h'.n → tgt ρl h.n hc.n j = some k → μ' j = μr k ∧ k < h.n + (h'.n - hc.n) := fun {j k} hj hk => by
    rcases tg j hj with ⟨m, h1, h2, h3⟩ | ⟨h1, _⟩
    · rw [hk] at h1; obtain rfl := Option.some.inj h1; exact ⟨h2, h3⟩
    · rw [hk] at h1; cases h1
  have xr : Ext h.n μ (h.n + (h'.n - hc.n)) μr := ⟨by omega, fun i hi => by simp only [μr, if_pos hi]⟩
  -- rows of the heap behind the call
  have kinds : ∀ {k b}, (after ρl h hc h').g k = some b → (h.g k = some b ∧ k < h.n ∧ ∀ j c, hc.g j = some c → c.own = true → ρ j ≠ some k) ∨ (∃ j b0, h'.g j = some b0 ∧ b0.own = true ∧ b = renB (tgt ρl h.n hc.n) b0 ∧ tgt ρl h.n hc.n j = some k ∧ j < h'.n) := fun {k b} hk => by
    replace hk := after_g hk
    unfold afterAt at hk
    have back_some : ∀ {j}, back ρl h hc h' j = some b → ∃ b0, h'.g j = some b0 ∧ b0.own = true ∧ b = renB (tgt ρl h.n hc.n) b0 := fun {j} hb => by
      unfold back at hb
      split at hb
      · rename_i b0 h0
        cases ho : b0.own with
        | true => rw [ho] at hb; exact ⟨b0, h0, ho, (Option.some.inj hb).symm⟩
        | false => rw [ho] at hb; cases hb
      · cases hb
    cases hlt : Nat.blt k h.n with
    | true =>
      rw [hlt] at hk
      have hlt' : k < h.n := by simpa using hlt
      dsimp only [cond] at hk
      split at hk
      · rename_i j hj
        obtain ⟨_, h2, h3, h4⟩ := idx_some hj
        obtain ⟨b0, q1, q2, q3⟩ := back_some hk
        refine .inr ⟨j, b0, q1, q2, q3, ?_, hr'.fin j b0 q1⟩
        rw [tgt_lt (by omega)]
        exact h2
      · rename_i hj
        exact .inl ⟨hk, hlt', fun j c h1 h2 => by
          have := idx_none hj j c (Nat.zero_le _) (by have := V.fin j c h1; omega) h1 h2
          rw [Nat.sub_zero, hρ'] at this
          exact this⟩
    | false =>
      rw [hlt] at hk
      have hge : h.n ≤ k := blt_false.1 hlt
      dsimp only [cond] at hk
      obtain ⟨b0, q1, q2, q3⟩ := back_some hk
      refine .inr ⟨k - h.n + hc.n, b0, q1, q2, q3, ?_, hr'.fin _ b0 q1⟩
      rw [tgt_ge (by omega)]
      congr 1
      omega
  -- kept rows
  have keptS : ∀ {k b}, h.g k = some b → (μ k).n ≠ 0 → (∀ j c, hc.g j = some c → c.own = true → ρ j ≠ some k) → ¬ S (μ k).r := fun {k b} hk hz hne => by
    rintro ⟨j, c, h1, h2, h3, h5⟩
    obtain ⟨m, hm⟩ := vne h3
    obtain ⟨cs, h4, _⟩ := own h1 h2 hm
    rw [vsome hm] at h3 h5
    exact hr.ne (fun e => hne j c h1 h2 (by rw [e]; exact hm)) hk h4 rfl hz h3 h5.symm
  have keep : ∀ {r o}, ¬ S r → w.heap[r]? = some o → w'.heap[r]? = some o := fun {r o} hS ho => hr'.rest r o (by rw [cOut hS]; exact ho)
  have outS : ∀ {r}, S r → w0.c r = none := fun {r} => by
    rintro ⟨i, c, q1, q2, q3, q5⟩
    obtain ⟨m, hm⟩ := vne q3
    obtain ⟨cs, q4, _⟩ := own q1 q2 hm
    rw [vsome hm] at q3 q5
    have := hr.free _ _ q4 rfl q3
    rw [q5] at this
    exact this
  have free' : ∀ {j b0}, h'.g j = some b0 → b0.own = true → (μ' j).n ≠ 0 → w0.c (μ' j).r = none := fun {j b0} h1 h2 hz => by
    cases hc0 : w0.c (μ' j).r with
    | none => rfl
    | some o =>
      exfalso
      have h3 := hr'.free j b0 h1 h2 hz
      have h4 := hr.rest _ o hc0
      have hS : ¬ S (μ' j).r := fun hS => by rw [outS hS] at hc0; cases hc0
      rw [cOut hS, h4] at h3
      cases h3
  refine ⟨renT (tgt ρl h.n hc.n) v, v', after ρl h hc h', μr, rfl, xr, ?_, hv.put tg, hK⟩
  refine ⟨hr'.below, fun k b hk => ?_, fun k b hk j u hu => ?_, fun k b hk hz => ?_, fun k b hk ho hz => ?_, fun k b hk ho hz => ?_, fun k o hk => ?_, fun k b hk ho hz => ?_, fun k b hk => ?_, fun k b hk ho => ?_, fun k l b c hkl hk hl hb hc0 zk zl => ?_⟩
  · rcases kinds hk with ⟨h1, h2, _⟩ | ⟨j, b0, h1, h2, h3, h4, h5⟩
    · show k < h.n + _; omega
    · exact (tgs h5 h4).2
  · rcases kinds hk with ⟨h1, h2, h3⟩ | ⟨i, b0, h1, h2, rfl, h4, h5⟩
    · obtain ⟨u', h4, h5⟩ := hr.reads k b h1 j u hu
      rw [xr.2 k h2]
      refine ⟨u', ?_, h5.ext xr⟩
      have hS := keptS h1 (hr.nz h1 hu) h3
      have hlt := World.block_lt_of_cell? w _ h4
      have : w'.heap[(μ k).r]? = w.heap[(μ k).r]? := by
        rw [Array.getElem?_eq_getElem hlt]
        exact keep hS (Array.getElem?_eq_getElem hlt)
      rw [World.cell?_of_block (w := w) this]
      exact h4
    · obtain ⟨u0, q1, rfl⟩ : ∃ u0, b0.cells[j]? = some u0 ∧ u = ren (tgt ρl h.n hc.n) u0 := by
        simp only [renB, List.getElem?_map, Option.map_eq_some_iff] at hu
        obtain ⟨u0, q1, q2⟩ := hu
        exact ⟨u0, q1, q2.symm⟩
      obtain ⟨u', q2, q3⟩ := hr'.reads i b0 h1 j u0 q1
      rw [← (tgs h5 h4).1]
      exact ⟨u', q2, q3.put tg⟩
  · rcases kinds hk with ⟨h1, h2, h3⟩ | ⟨i, b0, h1, h2, rfl, h4, h5⟩
    · rw [xr.2 k h2] at hz; exact hr.ghost k b h1 hz
    · rw [← (tgs h5 h4).1] at hz
      simp [renB, hr'.ghost i b0 h1 hz]
  · rcases kinds hk with ⟨h1, h2, h3⟩ | ⟨i, b0, h1, h2, rfl, h4, h5⟩
    · rw [xr.2 k h2] at hz ⊢
      obtain ⟨q1, cs, q2, q3⟩ := hr.owns k b h1 ho hz
      exact ⟨q1, cs, keep (keptS h1 hz h3) q2, q3⟩
    · rw [← (tgs h5 h4).1] at hz ⊢
      have := hr'.owns i b0 h1 h2 hz
      simp only [renB, List.length_map]
      exact this
  · rcases kinds hk with ⟨h1, h2, h3⟩ | ⟨i, b0, h1, h2, rfl, h4, h5⟩
    · rw [xr.2 k h2] at hz ⊢; exact hr.old k b h1 ho hz
    · have : b0.own = false := ho
      rw [h2] at this; cases this
  · exact keep (fun hS => by rw [outS hS] at hk; cases hk) (hr.rest k o hk)
  · rcases kinds hk with ⟨h1, h2, h3⟩ | ⟨i, b0, h1, h2, rfl, h4, h5⟩
    · rw [xr.2 k h2] at hz ⊢; exact hr.free k b h1 ho hz
    · rw [← (tgs h5 h4).1] at hz ⊢; exact free' h1 h2 hz
  · rcases kinds hk with ⟨h1, h2, h3⟩ | ⟨i, b0, h1, h2, rfl, h4, h5⟩
    · rw [xr.2 k h2]; exact hr.sz k b h1
    · rw [← (tgs h5 h4).1]; exact hr'.sz i b0 h1
  · rcases kinds hk with ⟨h1, h2, h3⟩ | ⟨i, b0, h1, h2, rfl, h4, h5⟩
    · rw [xr.2 k h2]; exact hr.d0 k b h1 ho
    · rw [← (tgs h5 h4).1]; exact hr'.d0 i b0 h1 h2
  · have cross : ∀ {k b i b0}, h.g k = some b → b.own = true → (μ k).n ≠ 0 → (∀ j c, hc.g j = some c → c.own = true → ρ j ≠ some k) → h'.g i = some b0 → b0.own = true → (μ' i).n ≠ 0 → (μ k).r ≠ (μ' i).r := fun {k b i b0} q1 q2 zk q3 q4 q5 zi e => by
      obtain ⟨_, cs, q6, _⟩ := hr.owns k b q1 q2 zk
      have q7 := hr'.free i b0 q4 q5 zi
      rw [← e, cOut (keptS q1 zk q3), q6] at q7
      cases q7
    rcases kinds hk with ⟨h1, h2, h3⟩ | ⟨i, b0, h1, h2, rfl, h4, h5⟩ <;> rcases kinds hl with ⟨h1', h2', h3'⟩ | ⟨i', b0', h1', h2', rfl, h4', h5'⟩
    · rw [xr.2 k h2] at zk ⊢; rw [xr.2 l h2'] at zl ⊢; exact hr.apart k l b c hkl h1 h1' hb hc0 zk zl
    · rw [xr.2 k h2] at zk ⊢; rw [← (tgs h5' h4').1] at zl ⊢; exact cross h1 hb zk h3 h1' h2' zl
    · rw [xr.2 l h2'] at zl ⊢; rw [← (tgs h5 h4).1] at zk ⊢; exact (cross h1' hc0 zl h3' h1 h2 zk).symm
    · rw [← (tgs h5 h4).1] at zk ⊢; rw [← (tgs h5' h4').1] at zl ⊢
      exact hr'.apart i i' b0 b0' (fun e => hkl (by subst e; rw [h4] at h4'; exact Option.some.inj h4')) h1 h1' h2 h2' zk zl
end
end Go.Mini
