/- Arguments as they came in, told by their kinds: a number, a bool, a text, a slice of such, a struct of such, to whatever depth. No condition but what the reading itself says: each text and each slice takes at most 2^47 - 4096 bytes. -/
import Derived.Test.YtbdjcfaocmhdnaaWMore
import Derived.ProofKit
import Derived.OpenShut
import Derived.ShutString
import Derived.ChangeOld
import Derived.SizedLaws
import Derived.Deep.Slices
import Derived.Deep.Fields
import Derived.ChangeSame
namespace Go.Proofs.YtbdjcfaocmhdnaaW.PrintWords
open Go.RowKit Go.ChangeShapes Go.WideShapes Go.Deep
set_option linter.unusedVariables false
set_option linter.unusedSimpArgs false

/-- Whatever is read at type t is of the kind d, and of the sizes S. -/
def Opens {α : Type} (d : Kd α) (P : Program) (t : TypeId) (S : α → Prop) : Prop :=
  ∀ {H : Type} (enc : TypeId × Value → H) (w : World) (base : Nat) (spare : Nat → Bool) (held : Bool) (fuel : Nat) (cs : List Value) (x : DataW H × List MemPlace), DataW.trod enc P w base spare held fuel t cs = some x → (∀ n ∈ x.1.weights P t, n ≤ reachBytes) → ∃ a, d.K w a cs ∧ S a

theorem opens_int {P : Program} {t : TypeId} {k : IntKind} (ht : P.underlying t = some (.int k)) : Opens (Kd.int k) P t (fun n => (Lit.int k n).wf = true) := by
  intro H enc w base spare held fuel cs x h _
  obtain ⟨n, rfl, _, hw⟩ := DataW.trod_int ht h
  exact ⟨n, rfl, hw⟩

theorem opens_bool {P : Program} {t : TypeId} (ht : P.underlying t = some .bool) : Opens Kd.bool P t (fun _ => True) := by
  intro H enc w base spare held fuel cs x h _
  obtain ⟨b, rfl, _⟩ := DataW.trod_bool ht h
  exact ⟨b, rfl, trivial⟩

theorem opens_string {P : Program} {t : TypeId} (ht : P.underlying t = some .string) : Opens Kd.string P t (fun s => s.size ≤ 140737488351232) := by
  intro H enc w base spare held fuel cs x h hn
  obtain ⟨s, rfl, rfl, _⟩ := DataW.trod_string ht h
  refine ⟨s, rfl, ?_⟩
  have h1 := hn s.data.toList.length (by simp [DataW.weights])
  have h2 : s.data.toList.length = s.size := by simp
  rw [h2] at h1
  exact h1

theorem weights_all {H : Type} {P : Program} {e : TypeId} : ∀ (l : List (DataW H)) (d : DataW H), d ∈ l → ∀ n ∈ d.weights P e, n ∈ DataW.weightsAll P e l
  | [], _, h => by cases h
  | x :: l, d, h => by
    intro n hn
    unfold DataW.weightsAll
    rcases List.mem_cons.1 h with rfl | h
    · exact List.mem_append_left _ hn
    · exact List.mem_append_right _ (weights_all l d h n hn)

theorem opens_slice {α : Type} {d : Kd α} {S : α → Prop} {P : Program} {t e : TypeId} {b : Nat} (ht : P.underlying t = some (.slice e)) (hsz : P.cellsOf e = d.sz) (hb : P.bytesOf e = b) (hd : Opens d P e S) :
    Opens (Kd.slice e d) P t (fun xs => (∀ x ∈ xs, S x) ∧ xs.length * b ≤ 140737488351232) := by
  intro H enc w base spare held fuel cs x h hn
  rcases open_slice ht h with ⟨rfl, rfl⟩ | ⟨a, len, cap, m, n, D, Pl, rfl, _, hl, hm, hmm, rfl, hi⟩
  · exact ⟨[], ⟨none, 0, rfl, Nat.le_refl _, rfl, by simp, fun h => by simp at h⟩, by simp⟩
  · have hlm : len ≤ m := by rw [hmm]; split <;> omega
    have key : ∀ i, i < len → ∃ y cs', cs'.length = d.sz ∧ d.K w y cs' ∧ S y ∧ ∀ j u, cs'[j]? = some u → w.cell? (a.add (i * d.sz + j)) = some u := by
      intro i hil
      obtain ⟨cs', hc, htr⟩ := hi i (by omega)
      obtain ⟨y, hk, hs⟩ := hd enc w base spare held n cs' _ htr (fun q hq => hn q (by
        simp only [DataW.weights, ht]
        exact List.mem_cons_of_mem _ (List.mem_append_left _ (weights_all _ _ (List.mem_map.2 ⟨i, List.mem_range.2 hil, rfl⟩) q hq))))
      obtain ⟨_, hlen, hat⟩ := World.cells?_some hc
      refine ⟨y, cs', hlen.trans hsz, hk, hs, fun j u hj => ?_⟩
      have hjl : j < P.cellsOf e := by rw [← hlen]; exact (List.getElem?_eq_some_iff.1 hj).1
      have := hat j hjl
      rw [hj, hsz] at this
      rw [← this, Go.Deep.add_add]
    have all : ∀ k, k ≤ len → ∃ xs : List α, xs.length = k ∧ ∀ j p, xs[j]? = some p → S p ∧ ∃ c, c.length = d.sz ∧ d.K w p c ∧ ∀ i u, c[i]? = some u → w.cell? (a.add (j * d.sz + i)) = some u := by
      intro k
      induction k with
      | zero => exact fun _ => ⟨[], rfl, fun j p hj => by simp at hj⟩
      | succ k ih =>
        intro hk
        obtain ⟨xs, hxl, hx⟩ := ih (by omega)
        obtain ⟨y, cs', h1, h2, h3, h4⟩ := key k (by omega)
        refine ⟨xs ++ [y], by simp [hxl], fun j p hj => ?_⟩
        rcases Nat.lt_or_ge j k with hjk | hjk
        · rw [List.getElem?_append_left (by omega)] at hj
          exact hx j p hj
        · rw [List.getElem?_append_right (by omega)] at hj
          have hj0 : j - xs.length = 0 := by
            have := (List.getElem?_eq_some_iff.1 hj).1
            simp at this
            omega
          rw [hj0] at hj
          simp only [List.getElem?_cons_zero, Option.some.injEq] at hj
          subst hj
          have : j = k := by omega
          subst this
          exact ⟨h3, cs', h1, h2, h4⟩
    obtain ⟨xs, hxl, hx⟩ := all len (Nat.le_refl _)
    refine ⟨xs, ⟨some a, cap, by rw [hxl], by omega, rfl, ?_, fun _ => ⟨a, rfl, fun j p hj => (hx j p hj).2⟩⟩, ⟨fun x hxm => ?_, ?_⟩⟩
    · unfold maxLen at hm
      omega
    · obtain ⟨j, hj⟩ := List.mem_iff_getElem?.1 hxm
      exact (hx j x hj).1
    · have h1 := hn ((List.length ((List.range len).map D) + List.length ((List.range (m - len)).map fun j => D (len + j))) * P.bytesOf e) (by simp only [DataW.weights, ht]; exact List.mem_cons_self)
      simp only [List.length_map, List.length_range, hb] at h1
      rw [hxl]
      have h2 : len * b ≤ (len + (m - len)) * b := Nat.mul_le_mul_right _ (by omega)
      exact Nat.le_trans h2 h1

/-- A struct's fields from one on, that stand from cell o on. -/
def OpensF {α : Type} (d : Kd α) (P : Program) (fs : List Field) (o : Nat) (S : α → Prop) : Prop :=
  ∀ {H : Type} (enc : TypeId × Value → H) (w : World) (base : Nat) (spare : Nat → Bool) (held : Bool) (n : Nat) (cs : List Value) (xs : List (DataW H × List MemPlace)),
    (∀ (i : Nat) (f : Field), fs[i]? = some f → DataW.trod enc P w base spare held n f.type ((cs.drop f.offset).take (P.cellsOf f.type)) = xs[i]?) → xs.length = fs.length → o + d.sz ≤ cs.length →
    (∀ n ∈ DataW.weightsEach P (fs.map (·.type)) (xs.map (·.1)), n ≤ reachBytes) → ∃ a, d.K w a ((cs.drop o).take d.sz) ∧ S a

theorem opensF_one {α : Type} {d : Kd α} {S : α → Prop} {P : Program} {f : Field} {o : Nat} (ho : f.offset = o) (hsz : P.cellsOf f.type = d.sz) (hd : Opens d P f.type S) : OpensF d P [f] o S := by
  intro H enc w base spare held n cs xs hx hl hle hn
  match xs, hl with
  | [x], _ =>
    have h := hx 0 f rfl
    rw [ho, hsz] at h
    exact hd enc w base spare held n _ x h (fun q hq => hn q (by simp [DataW.weightsEach, hq]))

theorem opensF_cons {α β : Type} {d1 : Kd α} {d2 : Kd β} {S1 : α → Prop} {S2 : β → Prop} {P : Program} {f : Field} {fs : List Field} {o : Nat} (ho : f.offset = o) (hsz : P.cellsOf f.type = d1.sz) (hd : Opens d1 P f.type S1) (hfs : OpensF d2 P fs (o + d1.sz) S2) :
    OpensF (Kd.pair d1 d2) P (f :: fs) o (fun x => S1 x.1 ∧ S2 x.2) := by
  intro H enc w base spare held n cs xs hx hl hle hn
  match xs, hl with
  | x :: xs, hl =>
    have hle' : o + (d1.sz + d2.sz) ≤ cs.length := hle
    have h := hx 0 f rfl
    rw [ho, hsz] at h
    obtain ⟨a, ha, hs⟩ := hd enc w base spare held n _ x h (fun q hq => hn q (by simp [DataW.weightsEach, hq]))
    obtain ⟨b, hb, ht⟩ := hfs enc w base spare held n cs xs (fun i g hg => hx (i + 1) g hg) (by simpa using hl) (by omega) (fun q hq => hn q (by simp only [List.map_cons, DataW.weightsEach]; exact List.mem_append_right _ hq))
    refine ⟨(a, b), ⟨(cs.drop o).take d1.sz, (cs.drop (o + d1.sz)).take d2.sz, ?_, ha, hb⟩, hs, ht⟩
    show (cs.drop o).take (d1.sz + d2.sz) = _
    rw [List.take_add, List.drop_drop]

theorem opens_struct {α β : Type} {d : Kd α} {S : α → Prop} {P : Program} {t : TypeId} {fs : Array Field} {f : β → α} (g : α → β) (hfg : ∀ a, f (g a) = a) (ht : P.underlying t = some (.struct fs)) (hsz : P.cellsOf t = d.sz) (hd : OpensF d P fs.toList 0 S) :
    Opens (Kd.iso d f) P t (fun x => S (f x)) := by
  intro H enc w base spare held fuel cs x h hn
  obtain ⟨xs, n, _, rfl, hcl, hxl, hx⟩ := DataW.trod_struct ht h
  obtain ⟨a, ha, hs⟩ := hd enc w base spare held n cs xs (fun i f hf => hx i f (by rw [← Array.getElem?_toList]; exact hf)) (by simpa using hxl) (by omega) (fun q hq => hn q (by simp only [DataW.weights, ht]; exact hq))
  refine ⟨g a, ?_, by show S (f (g a)); rw [hfg]; exact hs⟩
  show d.K w (f (g a)) cs
  rw [hfg]
  rw [List.drop_zero, List.take_of_length_le (by omega)] at ha
  exact ha
end Go.Proofs.YtbdjcfaocmhdnaaW.PrintWords
