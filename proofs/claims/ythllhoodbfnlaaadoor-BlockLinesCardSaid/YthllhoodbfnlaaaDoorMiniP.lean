/- Mini: a strings.Builder that the call made itself: two rows. No condition. -/
import Derived.Test.YthllhoodbfnlaaaDoorMiniK
import Derived.Lib.Builder
import Derived.Lib.FrozenHead2
namespace Go.Mini
open Go Go.RowKit
set_option linter.unusedVariables false
set_option linter.unusedSimpArgs false

section
variable {P : Program} {w0 : Org P} {w w1 : World} {μ : Mu} {h : Heap}

/-- Behind what changes one row that has no number. -/
theorem Rep.grown (hr : Rep w0 μ h w) {r : Nat} (hg : w.grownBy w1 (some r)) (h0 : w0.w.heap.size ≤ r) (hfr : w0.c r = none) (hne : ∀ i b, h.g i = some b → b.own = true → (μ i).n ≠ 0 → (μ i).r ≠ r) : Rep w0 μ h w1 := by
  have hne' : ∀ i b, h.g i = some b → (μ i).n ≠ 0 → (μ i).r ≠ r := fun i b hi hz => by
    cases hco : b.own with
    | true => exact hne i b hi hco hz
    | false =>
      rcases hr.old i b hi hco hz with h | h
      · omega
      · intro e; rw [e] at h; exact h hfr
  refine ⟨hr.below.grown hg hr.below.size (fun k hk => by obtain rfl := Option.some.inj hk; exact h0), hr.fin, fun i b hi j v hv => ?_, hr.ghost, fun i b hi ho hz => ?_, hr.old, fun k o hk => ?_, hr.free, hr.sz, hr.d0, hr.apart⟩
  · obtain ⟨v', hc, hf⟩ := hr.reads i b hi j v hv
    refine ⟨v', ?_, hf⟩
    rw [World.cell?_of_block (w := w) (hg.block _ (World.block_lt_of_cell? w _ hc) (fun e => hne' i b hi (hr.nz hi hv) (Option.some.inj e)))]
    exact hc
  · obtain ⟨h1, cs, h2, h3⟩ := hr.owns i b hi ho hz
    exact ⟨h1, cs, by rw [hg.block _ (Array.getElem?_eq_some_iff.1 h2).1 (fun e => hne i b hi ho hz (Option.some.inj e))]; exact h2, h3⟩
  · have h2 := hr.rest k o hk
    rw [hg.block _ (Array.getElem?_eq_some_iff.1 h2).1 (fun e => by rw [Option.some.inj e, hfr] at hk; cases hk)]; exact h2

theorem mput_self : ∀ (l : List (Option Blk)) (i : Nat) (b : Blk), mrow l i = some b → mput l i (some b) = l
  | [], i, b, h => by rw [mrow_nil] at h; cases h
  | x :: l, 0, b, h => by rw [mput, ← h]; rfl
  | x :: l, i + 1, b, h => by rw [mput, mput_self l i b h]
theorem Heap.upd_self {i : Nat} {b : Blk} (hi : h.g i = some b) : h.upd i (some b) = h := by
  cases h
  simp only [Heap.upd, Heap.mk.injEq, true_and]
  exact mput_self _ _ _ hi

theorem lies0 {e : TypeId} (hc : 0 < P.cellsOf e) (count : Nat) (hn : 1 ≤ count) : liesAt P P.depth e count 0 e 1 = true := by
  have hd : P.depth = (2 * (P.types.size + Made.depth) + 1) + 1 := rfl
  rw [hd]
  simp only [liesAt, Bool.or_eq_true]
  left
  rw [hd]
  have : P.cellsOf e ≠ 0 := by omega
  simp [Go.rowAt, this, hn, sameLayout]

theorem grown_freeze (w : World) (g n : Nat) : w.grownBy (w.freeze ⟨g, 0, none⟩ n) (some g) := by
  unfold World.freeze
  split
  · exact ⟨rfl, rfl, rfl, Nat.le_refl _, fun _ _ _ => rfl⟩
  · refine ⟨rfl, rfl, rfl, by simp, fun k _ hk => ?_⟩
    have hne : g ≠ k := fun e => hk (by simp [e])
    simp only [Array.getElem?_modify]
    rw [if_neg hne]

/-- The bytes of a list, as values. -/
def byV (l : List UInt8) : List Value := l.map fun b => .int .u8 b.toNat
theorem byV_len (l : List UInt8) : (byV l).length = l.length := by simp [byV]
theorem byV_app (l m : List UInt8) : byV (l ++ m) = byV l ++ byV m := by simp [byV]

/-- The rows of h as they were, but row i. -/
def keepsX (i : Nat) (h h' : Heap) : Prop := h.n ≤ h'.n ∧ ∀ k, k < h.n → k ≠ i → h'.g k = h.g k
/-- A builder at number i, holding l; the other rows of h0 as they were. T: the builder's type, U: the bytes'. -/
structure BldS (T U : Nat) (h0 h : Heap) (i : Nat) (l : List UInt8) : Prop where
  keep : keepsX i h0 h
  lt : i < h.n
  ex : ∃ p buf, h.g i = some ⟨T, 2, [p, buf], true⟩ ∧ (p = .pointer none ∨ p = .pointer (some ⟨i, 0, none⟩)) ∧
    ((buf = .slice none 0 0 ∧ l = []) ∨ ∃ j, buf = .slice (some ⟨j, 0, none⟩) l.length l.length ∧ h.g j = some ⟨U, 1, byV l, true⟩ ∧ j ≠ i ∧ h0.n ≤ j ∧ j < h.n ∧ l ≠ [])

theorem keeps.refl (h : Heap) : keeps h h := ⟨Nat.le_refl _, fun _ _ => rfl⟩
theorem keeps.add {h0 h : Heap} (k : keeps h0 h) (b : Blk) : keeps h0 (h.add b) := ⟨Nat.le_succ_of_le k.1, fun i hi => by
  have := k.1
  rw [Heap.add_g, if_neg (by omega)]; exact k.2 i hi⟩
theorem keeps.upd {h0 h : Heap} (k : keeps h0 h) {i : Nat} (hi : h0.n ≤ i) (b : Option Blk) : keeps h0 (h.upd i b) := ⟨k.1, fun j hj => by
  rw [Heap.upd_g, if_neg (by omega)]; exact k.2 j hj⟩
theorem keepsX.add {i : Nat} {h0 h : Heap} (k : keepsX i h0 h) (b : Blk) : keepsX i h0 (h.add b) := ⟨Nat.le_succ_of_le k.1, fun j hj hi => by
  have := k.1
  rw [Heap.add_g, if_neg (by omega)]; exact k.2 j hj hi⟩
theorem keepsX.upd {i : Nat} {h0 h : Heap} (k : keepsX i h0 h) {j : Nat} (hj : h0.n ≤ j) (b : Option Blk) : keepsX i h0 (h.upd j b) := ⟨k.1, fun m hm hi => by
  rw [Heap.upd_g, if_neg (by omega)]; exact k.2 m hm hi⟩
theorem keepsX.updI {i : Nat} {h0 h : Heap} (k : keepsX i h0 h) (b : Option Blk) : keepsX i h0 (h.upd i b) := ⟨k.1, fun m hm hi => by
  rw [Heap.upd_g, if_neg hi]; exact k.2 m hm hi⟩
theorem keeps.toX {i : Nat} {h0 h : Heap} (k : keeps h0 h) : keepsX i h0 h := ⟨k.1, fun j hj _ => k.2 j hj⟩
theorem keepsX.keeps {i : Nat} {h0 h : Heap} (k : keepsX i h0 h) (hi : h0.n ≤ i) : keeps h0 h := ⟨k.1, fun j hj => k.2 j hj (by omega)⟩
theorem Heap.add_self (h : Heap) (b : Blk) : (h.add b).g h.n = some b := Heap.add_g.trans (if_pos rfl)
theorem Heap.add_ne (h : Heap) (b : Blk) {i : Nat} (hi : i ≠ h.n) : (h.add b).g i = h.g i := Heap.add_g.trans (if_neg hi)
theorem Heap.upd_at (h : Heap) (i : Nat) (b : Option Blk) : (h.upd i b).g i = b := Heap.upd_g.trans (if_pos rfl)
theorem Heap.upd_ne (h : Heap) {i j : Nat} (b : Option Blk) (hi : j ≠ i) : (h.upd i b).g j = h.g j := Heap.upd_g.trans (if_neg hi)

/-- A builder anew. -/
theorem BldS.new (T U : Nat) (h : Heap) : BldS T U h (h.add ⟨T, 2, [.pointer none, .slice none 0 0], true⟩) h.n [] :=
  ⟨((keeps.refl h).add _).toX, Nat.lt_succ_self _, _, _, h.add_self _, .inl rfl, .inl ⟨rfl, rfl⟩⟩
/-- A builder anew, among other rows. -/
theorem BldS.at0 {T U : Nat} {h : Heap} {i : Nat} (hi : i < h.n) (hg : h.g i = some ⟨T, 2, [.pointer none, .slice none 0 0], true⟩) : BldS T U h h i [] :=
  ⟨(keeps.refl h).toX, hi, _, _, hg, .inl rfl, .inl ⟨rfl, rfl⟩⟩
/-- Behind a new row. -/
theorem BldS.add {T U : Nat} {h0 h : Heap} {i : Nat} {l : List UInt8} (B : BldS T U h0 h i l) (b : Blk) : BldS T U h0 (h.add b) i l := by
  obtain ⟨p, buf, h1, h2, h3⟩ := B.ex
  have hl := B.lt
  refine ⟨B.keep.add b, Nat.lt_succ_of_lt hl, p, buf, by rw [h.add_ne b (by omega)]; exact h1, h2, ?_⟩
  rcases h3 with h3 | ⟨j, q1, q2, q3, q4, q5, q6⟩
  · exact .inl h3
  · exact .inr ⟨j, q1, by rw [h.add_ne b (by omega)]; exact q2, q3, q4, Nat.lt_succ_of_lt q5, q6⟩
end
end Go.Mini
