/- Mini: a law's call: arguments that were there, read by rows of numbers; the answer, and what stays. No condition. -/
import Derived.Test.YthllhoodbfnlaaaDoorMiniW
import Derived.WideShapes
import Derived.Deep.Slices
namespace Go.Mini
open Go Go.RowKit Go.Deep
set_option linter.unusedVariables false
set_option linter.unusedSimpArgs false

/-- A row of plain values that was there. -/
structure Seen (w : World) (b : Blk) (c : Loc) : Prop where
  own : b.own = false
  sz : c.sz = b.sz
  gh : c.n = 0 → b.cells = []
  at_ : c.n ≠ 0 → c.r < w.heap.size
  flat : b.cells.all flatV = true
  reads : ∀ j v, b.cells[j]? = some v → w.cell? ⟨c.r, c.d + j, none⟩ = some v

def locs (L : List (Blk × Loc)) : Mu := fun i => (L.getD i (⟨0, 0, [], false⟩, ⟨0, 0, 0, 0⟩)).2
theorem Rep.seen {P : Program} {w : World} {hg : Gl P w} {L : List (Blk × Loc)} (hs : ∀ x ∈ L, Seen w x.1 x.2) : Rep ⟨w, fun _ => none, hg⟩ (locs L) (lit (L.map fun x => some x.1)) w := by
  have get : ∀ {i b}, (lit (L.map fun x => some x.1)).g i = some b → ∃ c, L[i]? = some (b, c) ∧ locs L i = c ∧ Seen w b c := fun {i b} hi => by
    rw [lit_g, List.getD_eq_getElem?_getD, List.getElem?_map] at hi
    cases hx : L[i]? with
    | none => rw [hx] at hi; cases hi
    | some x =>
      rw [hx] at hi
      obtain rfl : x.1 = b := by simpa using hi
      exact ⟨x.2, rfl, by simp [locs, List.getD_eq_getElem?_getD, hx], hs x (List.mem_of_getElem? hx)⟩
  refine ⟨Below.refl _ _, fin_lit, fun i b hi j v hv => ?_, fun i b hi hz => ?_, fun i b hi ho => ?_, fun i b hi _ hz => ?_, fun k o hk => (by cases hk), fun i b hi ho => ?_, fun i b hi => ?_, fun i b hi ho => ?_, fun i j b c hij hi hj hb => ?_⟩
  · obtain ⟨c, h1, h2, h3⟩ := get hi
    rw [h2]
    exact ⟨v, h3.reads j v hv, .same (List.all_eq_true.1 h3.flat v (List.mem_of_getElem? hv))⟩
  · obtain ⟨c, h1, h2, h3⟩ := get hi
    rw [h2] at hz; exact h3.gh hz
  · obtain ⟨c, h1, h2, h3⟩ := get hi
    rw [h3.own] at ho; cases ho
  · obtain ⟨c, h1, h2, h3⟩ := get hi
    rw [h2] at hz ⊢; exact .inl (h3.at_ hz)
  · obtain ⟨c, h1, h2, h3⟩ := get hi
    rw [h3.own] at ho; cases ho
  · obtain ⟨c, h1, h2, h3⟩ := get hi
    rw [h2]; exact h3.sz
  · obtain ⟨c, h1, h2, h3⟩ := get hi
    rw [h3.own] at ho; cases ho
  · obtain ⟨c, h1, h2, h3⟩ := get hi
    rw [h3.own] at hb; cases hb

theorem ACalls.law {P : Program} {f : Nat} {vs vs' : List Value} {w : World} (hg : Gl P w) (L : List (Blk × Loc)) (hs : ∀ x ∈ L, Seen w x.1 x.2) (hh : ACalls P f vs (lit (L.map fun x => some x.1)) (fun v _ => v = .bool true)) (hv : All2 (VR (locs L) L.length) vs vs') :
    Calls P f vs'.toArray w fun e w' => e = .returned (.bool true) ∧ Below w.heap.size w w' := by
  have hn : (lit (L.map fun x => some x.1)).n = L.length := by simp [lit]
  refine (hh.2 ⟨w, fun _ => none, hg⟩ (locs L) w vs' (Rep.seen hs) (by rw [hn]; exact hv)).mono ?_
  rintro e w' ⟨v, v', h', μ', rfl, hx, hr, hvr, rfl⟩
  have : v' = .bool true := hvr.flat rfl
  subst this
  exact ⟨rfl, hr.below⟩

section
variable {H : Type} {enc : TypeId × Value → H} {P : Program} {w : World} {base b0 : Nat} {spare : Nat → Bool} {held : Bool}

theorem list_of {α : Type} {p : Nat → α → Prop} : ∀ n, (∀ i, i < n → ∃ a, p i a) → ∃ l : List α, l.length = n ∧ ∀ j b, l[j]? = some b → p j b
  | 0, _ => ⟨[], rfl, fun j b hj => by cases hj⟩
  | n + 1, h => by
    obtain ⟨l, hl, hp⟩ := list_of n fun i hi => h i (by omega)
    obtain ⟨a, ha⟩ := h n (by omega)
    refine ⟨l ++ [a], by simp [hl], fun j b hj => ?_⟩
    by_cases hjl : j < l.length
    · rw [List.getElem?_append_left hjl] at hj; exact hp j b hj
    · have hj2 : j < (l ++ [a]).length := (List.getElem?_eq_some_iff.1 hj).1
      simp only [List.length_append, List.length_singleton] at hj2
      obtain rfl : j = n := by omega
      rw [List.getElem?_append_right (by omega), hl, Nat.sub_self] at hj
      obtain rfl : a = b := by simpa using hj
      exact ha
/-- A slice of one-cell values that came in: a row that is seen. -/
theorem seen_slice {t e : TypeId} {v : Value} {x : DataW H × List MemPlace} {fuel : Nat} {α : Type} (val : α → Value) (hfl : ∀ a, flatV (val a) = true) (ht : P.underlying t = some (.slice e)) (hc : P.cellsOf e = 1) (hval : Value.okWide P w .any b0 t v) (h : DataW.trod enc P w base spare held fuel t [v] = some x)
    (one : ∀ {n : Nat} {u : Value} {y : DataW H × List MemPlace}, DataW.trod enc P w base spare held n e [u] = some y → ∃ a, u = val a) :
    ∃ (l : List α) (c : Loc), Seen w ⟨e, 1, l.map val, false⟩ c ∧ ∀ (μ : Mu) (n i : Nat), i < n → μ i = c → VR μ n (.slice (some ⟨i, 0, none⟩) l.length l.length) v := by
  rcases open_slice1 ht hc h with ⟨hv, _⟩ | ⟨a, len, cap, m, n, V, D, Pl, hv, _, hlc, _, hm, _, hel⟩
  · obtain rfl : v = .slice none 0 0 := by simpa using hv
    exact ⟨[], ⟨0, 0, 0, 1⟩, ⟨rfl, rfl, fun _ => rfl, fun h => absurd rfl h, rfl, fun j v hv => by cases hv⟩, fun μ n i hi hμ => .one (.one (.nil hi (by rw [hμ])))⟩
  · obtain rfl : v = .slice (some a) len cap := by simpa using hv
    have hok : len ≤ cap ∧ (cap : Int) ≤ IntKind.i64.max ∧ w.has P .any b0 a e cap := by
      have := hval
      simp only [Value.okWide, ht, Cell.okWide, Cell.ok] at this
      exact this
    obtain ⟨_, _, _, hsp, row, cells, hshape, _⟩ := hok
    have hlt : a.block < w.heap.size := by
      unfold World.shape? at hshape
      cases hb : w.heap[a.block]? with
      | none => rw [hb] at hshape; cases hshape
      | some o => exact (Array.getElem?_eq_some_iff.1 hb).1
    obtain ⟨blk, off, spot⟩ := a
    simp only at hsp
    subst hsp
    have hlm : len ≤ m := by rw [hm]; split <;> omega
    have each : ∀ i, i < len → ∃ a : α, w.cell? ⟨blk, off + i, none⟩ = some (val a) := fun i hi => by
      obtain ⟨h1, h2⟩ := hel i (by omega)
      obtain ⟨a, ha⟩ := one h2
      rw [add_lit0] at h1
      exact ⟨a, by rw [h1, ha]⟩
    obtain ⟨l, hl, hlv⟩ := list_of (p := fun j b => w.cell? ⟨blk, off + j, none⟩ = some (val b)) len each
    refine ⟨l, ⟨blk, off, off + cap + 1, 1⟩, ⟨rfl, rfl, fun h => by simp at h, fun _ => hlt, List.all_eq_true.2 fun u hu => ?_, fun j u hu => ?_⟩, fun μ n i hi hμ => ?_⟩
    · obtain ⟨b, _, rfl⟩ := List.mem_map.1 hu; exact hfl b
    · simp only [List.getElem?_map, Option.map_eq_some_iff] at hu
      obtain ⟨b, h1, rfl⟩ := hu
      exact hlv j b h1
    · have := FR.slc (μ := μ) (n := n) (i := i) (o := 0) (k := l.length) (c := cap) hi (by omega) (by rw [hμ]; simp) (by rw [hμ]; simp)
      rw [hμ] at this
      rw [hl] at this ⊢
      exact .one (.one this)
theorem u8_of {n : Int} (h : (Lit.int .u8 n).wf = true) : ∃ b : UInt8, n = b.toNat := by
  have hr : 0 ≤ n ∧ n ≤ 255 := by
    simp only [Lit.wf, IntKind.min, IntKind.max, IntKind.signed, IntKind.bits] at h
    simp at h
    omega
  exact ⟨UInt8.ofNat n.toNat, by simp; omega⟩
/-- A slice of bytes that came in. -/
theorem seen_bytes {t e : TypeId} {v : Value} {x : DataW H × List MemPlace} {fuel : Nat} (ht : P.underlying t = some (.slice e)) (he : P.underlying e = some (.int .u8)) (hc : P.cellsOf e = 1) (hval : Value.okWide P w .any b0 t v) (h : DataW.trod enc P w base spare held fuel t [v] = some x) :
    ∃ (l : List UInt8) (c : Loc), Seen w ⟨e, 1, byV l, false⟩ c ∧ ∀ (μ : Mu) (n i : Nat), i < n → μ i = c → VR μ n (.slice (some ⟨i, 0, none⟩) l.length l.length) v :=
  seen_slice (fun b : UInt8 => .int .u8 b.toNat) (fun _ => rfl) ht hc hval h fun hy => by
    obtain ⟨n, h1, _, hw⟩ := DataW.trod_int he hy
    obtain ⟨b, rfl⟩ := u8_of hw
    exact ⟨b, by simpa using h1⟩
/-- A slice of texts that came in. -/
theorem seen_strings {t e : TypeId} {v : Value} {x : DataW H × List MemPlace} {fuel : Nat} (ht : P.underlying t = some (.slice e)) (he : P.underlying e = some .string) (hc : P.cellsOf e = 1) (hval : Value.okWide P w .any b0 t v) (h : DataW.trod enc P w base spare held fuel t [v] = some x) :
    ∃ (l : List ByteArray) (c : Loc), Seen w ⟨e, 1, l.map Value.string, false⟩ c ∧ ∀ (μ : Mu) (n i : Nat), i < n → μ i = c → VR μ n (.slice (some ⟨i, 0, none⟩) l.length l.length) v :=
  seen_slice Value.string (fun _ => rfl) ht hc hval h fun hy => by
    obtain ⟨s, h1, _⟩ := DataW.trod_string he hy
    exact ⟨s, by simpa using h1⟩
/-- A slice of bools that came in. -/
theorem seen_bools {t e : TypeId} {v : Value} {x : DataW H × List MemPlace} {fuel : Nat} (ht : P.underlying t = some (.slice e)) (he : P.underlying e = some .bool) (hc : P.cellsOf e = 1) (hval : Value.okWide P w .any b0 t v) (h : DataW.trod enc P w base spare held fuel t [v] = some x) :
    ∃ (l : List Bool) (c : Loc), Seen w ⟨e, 1, l.map Value.bool, false⟩ c ∧ ∀ (μ : Mu) (n i : Nat), i < n → μ i = c → VR μ n (.slice (some ⟨i, 0, none⟩) l.length l.length) v :=
  seen_slice Value.bool (fun _ => rfl) ht hc hval h fun hy => by
    obtain ⟨s, h1, _⟩ := DataW.trod_bool he hy
    exact ⟨s, by simpa using h1⟩
end
end Go.Mini
