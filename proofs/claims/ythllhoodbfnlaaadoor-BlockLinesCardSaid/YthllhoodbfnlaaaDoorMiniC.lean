/- Mini: memory: new rows, stores, appends, against the heap of numbered rows. No condition. -/
import Derived.Test.YthllhoodbfnlaaaDoorMiniB
import Derived.Laws.AppendOwn
import Derived.Laws.CopyOwn
import Derived.Lib.FrozenHead
namespace Go.Mini
open Go Go.RowKit
set_option linter.unusedVariables false
set_option linter.unusedSimpArgs false

def Mu.put (μ : Mu) (n : Nat) (l : Loc) : Mu := fun j => if j = n then l else μ j
theorem Mu.put_self (μ : Mu) (n : Nat) (l : Loc) : μ.put n l n = l := by simp [Mu.put]

section
variable {P : Program} {w0 : Org P} {w w1 : World} {μ : Mu} {h : Heap}

theorem Ext.put (n : Nat) (μ : Mu) (l : Loc) : Ext n μ (n + 1) (μ.put n l) :=
  ⟨Nat.le_succ n, fun i hi => by simp [Mu.put, Nat.ne_of_lt hi]⟩

theorem add_lit0 (b o j : Nat) : (⟨b, o, none⟩ : Addr).add j = ⟨b, o + j, none⟩ := by unfold Addr.add; split <;> simp_all

/-- Behind what changes nothing that stood there. -/
theorem Rep.on (hr : Rep w0 μ h w) (hb : Below w.heap.size w w1) : Rep w0 μ h w1 := by
  have hlt : ∀ {a : Addr} {v : Value}, w.cell? a = some v → w1.cell? a = some v := fun {a v} hc => by
    rw [World.cell?_of_block (hb.block a.block (World.block_lt_of_cell? w a hc))]; exact hc
  refine ⟨hr.below.trans (hb.mono hr.below.size), hr.fin, fun i b hi j v hv => ?_, hr.ghost, fun i b hi ho hz => ?_, hr.old, fun k o hk => ?_, hr.free, hr.sz, hr.d0, hr.apart⟩
  · obtain ⟨v', hc, hf⟩ := hr.reads i b hi j v hv
    exact ⟨v', hlt hc, hf⟩
  · obtain ⟨h1, cs, h2, h3⟩ := hr.owns i b hi ho hz
    exact ⟨h1, cs, by rw [hb.block _ (Array.getElem?_eq_some_iff.1 h2).1]; exact h2, h3⟩
  · have h2 := hr.rest k o hk
    rw [hb.block _ (Array.getElem?_eq_some_iff.1 h2).1]; exact h2

theorem Rep.blk_lt (hr : Rep w0 μ h w) {i : Nat} {b : Blk} (hi : h.g i = some b) (ho : b.own = true) (hz : (μ i).n ≠ 0) : (μ i).r < w.heap.size := by
  obtain ⟨_, cs, h2, _⟩ := hr.owns i b hi ho hz
  exact (Array.getElem?_eq_some_iff.1 h2).1

theorem Rep.fresh (hr : Rep w0 μ h w) {r : Nat} (h0 : w.heap.size ≤ r) : w0.c r = none := by
  cases hc : w0.c r with
  | none => rfl
  | some o => have := (Array.getElem?_eq_some_iff.1 (hr.rest r o hc)).1; omega

/-- Another number's row. -/
theorem Rep.ne (hr : Rep w0 μ h w) {i j : Nat} {b c : Blk} (hji : j ≠ i) (hj : h.g j = some c) (hi : h.g i = some b) (ho : b.own = true) (zj : (μ j).n ≠ 0) (zi : (μ i).n ≠ 0) : (μ j).r ≠ (μ i).r := by
  cases hco : c.own with
  | true => exact hr.apart j i c b hji hj hi hco ho zj zi
  | false =>
    rcases hr.old j c hj hco zj with h | h
    · have := (hr.owns i b hi ho zi).1; omega
    · intro e; rw [e] at h; exact h (hr.free i b hi ho zi)
theorem Rep.rest_set (hr : Rep w0 μ h w) {i : Nat} {b : Blk} (hi : h.g i = some b) (ho : b.own = true) (zi : (μ i).n ≠ 0) (cs : Array Value) : ∀ k o, w0.c k = some o → (w.setRow (μ i).r cs).heap[k]? = some o := fun k o hk => by
  have hne : k ≠ (μ i).r := fun e => by rw [e, hr.free i b hi ho zi] at hk; cases hk
  rw [setRow_other w (μ i).r k cs hne]
  exact hr.rest k o hk

/-- A block falls out of sight. -/
theorem Rep.drop (hr : Rep w0 μ h w) (i : Nat) : Rep w0 μ (h.upd i none) w := by
  have hg : ∀ {j b}, (h.upd i none).g j = some b → h.g j = some b := fun {j b} hj => by
    simp only [Heap.upd_g] at hj
    split at hj
    · cases hj
    · exact hj
  exact ⟨hr.below, fun j b hj => hr.fin j b (hg hj), fun j b hj => hr.reads j b (hg hj), fun j b hj => hr.ghost j b (hg hj), fun j b hj => hr.owns j b (hg hj), fun j b hj => hr.old j b (hg hj), hr.rest, fun j b hj => hr.free j b (hg hj), fun j b hj => hr.sz j b (hg hj), fun j b hj => hr.d0 j b (hg hj), fun j k b c hjk hj hk => hr.apart j k b c hjk (hg hj) (hg hk)⟩

/-- A new number, for a row of its own that no other number has. -/
theorem Rep.push (hr : Rep w0 μ h w) (l : Loc) (b : Blk) (ho : b.own = true) (hsz : l.sz = b.sz) (h0 : w0.w.heap.size ≤ l.r) {cs : Array Value} (hcs : w.heap[l.r]? = some (.cells cs b.ty (0, 0))) (hn : cs.size = l.n) (hd : l.d + b.cells.length ≤ l.n) (hd0 : l.d = 0) (hfr : w0.c l.r = none)
    (hc : ∀ j v, b.cells[j]? = some v → ∃ v', cs[l.d + j]? = some v' ∧ FR μ h.n v v') (hap : ∀ i c, h.g i = some c → c.own = true → (μ i).n ≠ 0 → (μ i).r ≠ l.r) : Rep w0 (μ.put h.n l) (h.add b) w := by
  have x := Ext.put h.n μ l
  have hnew : (μ.put h.n l) h.n = l := by simp [Mu.put]
  have hold : ∀ {i c}, h.g i = some c → (μ.put h.n l) i = μ i := fun {i c} hi => x.2 i (hr.fin i c hi)
  have hg : ∀ {i c}, (h.add b).g i = some c → (i = h.n ∧ c = b) ∨ (i ≠ h.n ∧ h.g i = some c) := fun {i c} hi => by
    simp only [Heap.add_g] at hi
    split at hi
    · rename_i e; exact .inl ⟨e, (Option.some.inj hi).symm⟩
    · rename_i e; exact .inr ⟨e, hi⟩
  refine ⟨hr.below, fun i c hi => ?_, fun i c hi j v hv => ?_, fun i c hi hz => ?_, fun i c hi hco hz => ?_, fun i c hi hco hz => ?_, hr.rest, fun i c hi hco hz => ?_, fun i c hi => ?_, fun i c hi hco => ?_, fun i j b' c hij hi hj hbo hco zi zj => ?_⟩
  · rcases hg hi with ⟨rfl, rfl⟩ | ⟨hne, hi⟩
    · exact Nat.lt_succ_self _
    · exact Nat.lt_succ_of_lt (hr.fin i c hi)
  · rcases hg hi with ⟨rfl, rfl⟩ | ⟨hne, hi⟩
    · rw [hnew]
      obtain ⟨v', h1, h2⟩ := hc j v hv
      refine ⟨v', ?_, h2.ext x⟩
      rw [cell_of_row w l.r _ cs c.ty (0, 0) hcs]
      exact h1
    · rw [hold hi]
      obtain ⟨v', h1, h2⟩ := hr.reads i c hi j v hv
      exact ⟨v', h1, h2.ext x⟩
  · rcases hg hi with ⟨rfl, rfl⟩ | ⟨hne, hi⟩
    · rw [hnew] at hz
      exact List.eq_nil_of_length_eq_zero (by omega)
    · rw [hold hi] at hz
      exact hr.ghost i c hi hz
  · rcases hg hi with ⟨rfl, rfl⟩ | ⟨hne, hi⟩
    · rw [hnew]
      exact ⟨h0, cs, hcs, hn, hd⟩
    · rw [hold hi] at hz ⊢
      exact hr.owns i c hi hco hz
  · rcases hg hi with ⟨rfl, rfl⟩ | ⟨hne, hi⟩
    · rw [ho] at hco; cases hco
    · rw [hold hi] at hz ⊢
      exact hr.old i c hi hco hz
  · rcases hg hi with ⟨rfl, rfl⟩ | ⟨hne, hi⟩
    · rw [hnew]; exact hfr
    · rw [hold hi] at hz ⊢
      exact hr.free i c hi hco hz
  · rcases hg hi with ⟨rfl, rfl⟩ | ⟨hne, hi⟩
    · rw [hnew]; exact hsz
    · rw [hold hi]
      exact hr.sz i c hi
  · rcases hg hi with ⟨rfl, rfl⟩ | ⟨hne, hi⟩
    · rw [hnew]; exact hd0
    · rw [hold hi]
      exact hr.d0 i c hi hco
  · rcases hg hi with ⟨e1, e2⟩ | ⟨hne, hi'⟩ <;> rcases hg hj with ⟨e3, e4⟩ | ⟨hne', hj'⟩
    · exact absurd (e1.trans e3.symm) hij
    · rw [hold hj'] at zj; rw [e1, hnew, hold hj']; exact (hap j c hj' hco zj).symm
    · rw [hold hi'] at zi; rw [e3, hnew, hold hi']; exact hap i b' hi' hbo zi
    · rw [hold hi'] at zi ⊢; rw [hold hj'] at zj ⊢; exact hr.apart i j b' c hij hi' hj' hbo hco zi zj

/-- A new number for nothing: an empty row that stands nowhere; nil is a slice of it. -/
theorem Rep.pushGhost (hr : Rep w0 μ h w) (T sz : Nat) : Rep w0 (μ.put h.n ⟨0, 0, 0, sz⟩) (h.add ⟨T, sz, [], true⟩) w := by
  have x := Ext.put h.n μ ⟨0, 0, 0, sz⟩
  have hnew : (μ.put h.n ⟨0, 0, 0, sz⟩) h.n = ⟨0, 0, 0, sz⟩ := by simp [Mu.put]
  have hold : ∀ {i c}, h.g i = some c → (μ.put h.n ⟨0, 0, 0, sz⟩) i = μ i := fun {i c} hi => x.2 i (hr.fin i c hi)
  have hg : ∀ {i c}, (h.add ⟨T, sz, [], true⟩).g i = some c → (i = h.n ∧ c = ⟨T, sz, [], true⟩) ∨ (i ≠ h.n ∧ h.g i = some c) := fun {i c} hi => by
    simp only [Heap.add_g] at hi
    split at hi
    · rename_i e; exact .inl ⟨e, (Option.some.inj hi).symm⟩
    · rename_i e; exact .inr ⟨e, hi⟩
  refine ⟨hr.below, fun i c hi => ?_, fun i c hi j v hv => ?_, fun i c hi hz => ?_, fun i c hi hco hz => ?_, fun i c hi hco hz => ?_, hr.rest, fun i c hi hco hz => ?_, fun i c hi => ?_, fun i c hi hco => ?_, fun i j b' c hij hi hj hbo hco zi zj => ?_⟩
  · rcases hg hi with ⟨rfl, rfl⟩ | ⟨hne, hi⟩
    · exact Nat.lt_succ_self _
    · exact Nat.lt_succ_of_lt (hr.fin i c hi)
  · rcases hg hi with ⟨rfl, rfl⟩ | ⟨hne, hi⟩
    · cases hv
    · rw [hold hi]
      obtain ⟨v', h1, h2⟩ := hr.reads i c hi j v hv
      exact ⟨v', h1, h2.ext x⟩
  · rcases hg hi with ⟨rfl, rfl⟩ | ⟨hne, hi⟩
    · rfl
    · rw [hold hi] at hz; exact hr.ghost i c hi hz
  · rcases hg hi with ⟨rfl, rfl⟩ | ⟨hne, hi⟩
    · rw [hnew] at hz; exact absurd rfl hz
    · rw [hold hi] at hz ⊢; exact hr.owns i c hi hco hz
  · rcases hg hi with ⟨rfl, rfl⟩ | ⟨hne, hi⟩
    · cases hco
    · rw [hold hi] at hz ⊢; exact hr.old i c hi hco hz
  · rcases hg hi with ⟨rfl, rfl⟩ | ⟨hne, hi⟩
    · rw [hnew] at hz; exact absurd rfl hz
    · rw [hold hi] at hz ⊢; exact hr.free i c hi hco hz
  · rcases hg hi with ⟨rfl, rfl⟩ | ⟨hne, hi⟩
    · rw [hnew]
    · rw [hold hi]; exact hr.sz i c hi
  · rcases hg hi with ⟨rfl, rfl⟩ | ⟨hne, hi⟩
    · rw [hnew]
    · rw [hold hi]; exact hr.d0 i c hi hco
  · rcases hg hi with ⟨e1, e2⟩ | ⟨hne, hi'⟩ <;> rcases hg hj with ⟨e3, e4⟩ | ⟨hne', hj'⟩
    · exact absurd (e1.trans e3.symm) hij
    · rw [e1, hnew] at zi; exact absurd rfl zi
    · rw [e3, hnew] at zj; exact absurd rfl zj
    · rw [hold hi'] at zi ⊢; rw [hold hj'] at zj ⊢; exact hr.apart i j b' c hij hi' hj' hbo hco zi zj

/-- A new row. -/
theorem Rep.add (hr : Rep w0 μ h w) (hb : Below w.heap.size w w1) {r : Nat} (hr0 : w.heap.size ≤ r) {cs : Array Value} {b : Blk} (ho : b.own = true) (hcs : w1.heap[r]? = some (.cells cs b.ty (0, 0))) {cs' : List Value} (hp : cs.toList.take cs'.length = cs') (hc : All2 (FR μ h.n) b.cells cs') :
    Rep w0 (μ.put h.n ⟨r, 0, cs.size, b.sz⟩) (h.add b) w1 := by
  have hlen : b.cells.length ≤ cs.size := by
    have h1 := congrArg List.length hp
    have h2 := hc.length
    simp at h1
    omega
  refine (hr.on hb).push ⟨r, 0, cs.size, b.sz⟩ b ho rfl (Nat.le_trans hr.below.size hr0) hcs rfl (by simpa using hlen) rfl (hr.fresh hr0) (fun j v hv => ?_) (fun i c hi hco hz => ?_)
  · obtain ⟨v', h1, h2⟩ := hc.get hv
    refine ⟨v', ?_, h2⟩
    rw [← hp, List.getElem?_take] at h1
    split at h1
    · simpa using h1
    · cases h1
  · have := hr.blk_lt hi hco hz
    show (μ i).r ≠ r
    omega

theorem below_dalloc (w : World) (o : Obj) : Below w.heap.size w (w.drew.alloc o) := ((Below.refl _ w).drew).alloc (Nat.le_refl _) o
theorem below_alloc (w : World) (o : Obj) : Below w.heap.size w (w.alloc o) := (Below.refl _ w).alloc (Nat.le_refl _) o

/-- A row of its own, written anew. -/
theorem Rep.set (hr : Rep w0 μ h w) {i : Nat} {b : Blk} (hi : h.g i = some b) (ho : b.own = true) (zi : (μ i).n ≠ 0) {cs cs' : Array Value} (hcs : w.heap[(μ i).r]? = some (.cells cs b.ty (0, 0))) (hs : cs'.size = cs.size) (l : List Value) (hl : l.length = b.cells.length)
    (hc : ∀ j v, l[j]? = some v → ∃ v', cs'[(μ i).d + j]? = some v' ∧ FR μ h.n v v') : Rep w0 μ (h.upd i (some { b with cells := l })) (w.setRow (μ i).r cs') := by
  obtain ⟨h0, cs0, hcs0, hn, hd⟩ := hr.owns i b hi ho zi
  obtain rfl : cs0 = cs := by have := hcs0.symm.trans hcs; injection this with this; injection this
  have hrow := setRow_heap w (μ i).r cs0 cs' b.ty (0, 0) hcs
  have hg : ∀ {j c}, (h.upd i (some { b with cells := l })).g j = some c → (j = i ∧ c = { b with cells := l }) ∨ (j ≠ i ∧ h.g j = some c) := fun {j c} hj => by
    simp only [Heap.upd_g] at hj
    split at hj
    · rename_i e; exact .inl ⟨e, (Option.some.inj hj).symm⟩
    · rename_i e; exact .inr ⟨e, hj⟩
  have hne : ∀ {j c}, j ≠ i → h.g j = some c → (μ j).n ≠ 0 → (μ j).r ≠ (μ i).r := fun {j c} hji hj zj => hr.ne hji hj hi ho zj zi
  refine ⟨below_setRow hr.below h0 _, fun j c hj => ?_, fun j c hj k v hv => ?_, fun j c hj hz => ?_, fun j c hj hco hz => ?_, fun j c hj hco hz => ?_, hr.rest_set hi ho zi _, fun j c hj hco hz => ?_, fun j c hj => ?_, fun j c hj hco => ?_, fun j k c c' hjk hj hk hco hco' zj zk => ?_⟩
  · rcases hg hj with ⟨rfl, rfl⟩ | ⟨hji, hj⟩
    · exact hr.fin j b hi
    · exact hr.fin j c hj
  · rcases hg hj with ⟨rfl, rfl⟩ | ⟨hji, hj⟩
    · obtain ⟨v', h1, h2⟩ := hc k v hv
      refine ⟨v', ?_, h2⟩
      rw [cell_of_row _ (μ j).r _ cs' b.ty (0, 0) hrow]
      exact h1
    · obtain ⟨v', h1, h2⟩ := hr.reads j c hj k v hv
      refine ⟨v', ?_, h2⟩
      rw [World.cell?_of_block (w := w) (setRow_other w (μ i).r (μ j).r cs' (hne hji hj (hr.nz hj hv)))]
      exact h1
  · rcases hg hj with ⟨rfl, rfl⟩ | ⟨hji, hj⟩
    · exact absurd hz zi
    · exact hr.ghost j c hj hz
  · rcases hg hj with ⟨rfl, rfl⟩ | ⟨hji, hj⟩
    · exact ⟨h0, cs', hrow, by rw [hs, hn], by rw [hl]; exact hd⟩
    · obtain ⟨h1, cs1, h2, h3⟩ := hr.owns j c hj hco hz
      exact ⟨h1, cs1, by rw [setRow_other w (μ i).r (μ j).r cs' (hne hji hj hz)]; exact h2, h3⟩
  · rcases hg hj with ⟨rfl, rfl⟩ | ⟨hji, hj⟩
    · rw [show ({ b with cells := l } : Blk).own = b.own from rfl, ho] at hco; cases hco
    · exact hr.old j c hj hco hz
  · rcases hg hj with ⟨rfl, rfl⟩ | ⟨hji, hj⟩
    · exact hr.free j b hi ho hz
    · exact hr.free j c hj hco hz
  · rcases hg hj with ⟨rfl, rfl⟩ | ⟨hji, hj⟩
    · exact hr.sz j b hi
    · exact hr.sz j c hj
  · rcases hg hj with ⟨rfl, rfl⟩ | ⟨hji, hj⟩
    · exact hr.d0 j b hi ho
    · exact hr.d0 j c hj hco
  · rcases hg hj with ⟨e1, e2⟩ | ⟨hji, hj'⟩ <;> rcases hg hk with ⟨e3, e4⟩ | ⟨hki, hk'⟩
    · exact absurd (e1.trans e3.symm) hjk
    · rw [e1]; exact (hne hki hk' zk).symm
    · rw [e3]; exact hne hji hj' zj
    · exact hr.apart j k c c' hjk hj' hk' hco hco' zj zk

/-- The values that a part of a row stands for. -/
theorem Rep.part (hr : Rep w0 μ h w) {i : Nat} {b : Blk} (hi : h.g i = some b) (o n : Nat) (hn : o + n ≤ b.cells.length) :
    ∃ l : List Value, l.length = n ∧ All2 (FR μ h.n) ((b.cells.drop o).take n) l ∧ ∀ j v, l[j]? = some v → w.cell? ((⟨(μ i).r, (μ i).d + o, none⟩ : Addr).add j) = some v := by
  induction n with
  | zero => exact ⟨[], rfl, by simpa using All2.nil, fun j v hv => by cases hv⟩
  | succ n ih =>
    obtain ⟨l, hl, ha, hc⟩ := ih (by omega)
    obtain ⟨v, hv⟩ : ∃ v, b.cells[o + n]? = some v := ⟨_, List.getElem?_eq_getElem (show o + n < b.cells.length by omega)⟩
    obtain ⟨v', hv', hf⟩ := hr.reads i b hi (o + n) v hv
    refine ⟨l ++ [v'], by simp [hl], ?_, fun j u hu => ?_⟩
    · rw [List.take_add_one, List.getElem?_drop, hv]
      exact ha.append (.cons hf .nil)
    · by_cases hj : j < l.length
      · rw [List.getElem?_append_left hj] at hu
        exact hc j u hu
      · rw [List.getElem?_append_right (by omega)] at hu
        have h0 : j - l.length = 0 := by
          rcases Nat.eq_zero_or_pos (j - l.length) with h | h
          · exact h
          · rw [List.getElem?_eq_none (by simp; omega)] at hu; cases hu
        rw [h0] at hu
        simp at hu
        subst hu
        rw [add_lit0, show (μ i).d + o + j = (μ i).d + (o + n) from by omega]
        exact hv'

theorem run_append_roomAt (w : World) (t ty e : TypeId) (i : TypeInfo) (ht : P.underlying t = some (.slice e)) (hi : P.info? e = some i)
    (g o sLen sCap : Nat) (cur : Array Value) (hg : w.heap[g]? = some (.cells cur e (0, 0)))
    (a : Addr) (m c : Nat) (news : List Value) (hl : news.length = m * i.size) (hnews : ∀ j u, news[j]? = some u → w.cell? (a.add j) = some u) (h1 : ∀ u ∈ news, u.oneCell' = true)
    (hroom : sLen + m ≤ sCap) (hfit : o + sLen * i.size + news.length ≤ cur.size) :
    (Builtin.append_ #[t, t] ty #[.slice (some ⟨g, o, none⟩) sLen sCap, .slice (some a) m c]).run P w =
      .ok (.slice (some ⟨g, o, none⟩) (sLen + m) sCap) (w.setRow g (cur.toList.take (o + sLen * i.size) ++ news ++ cur.toList.drop (o + sLen * i.size + news.length)).toArray) := by
  have hf := run_firstCells_some (P := P) w i.size m a m c news hl hnews
  have hst := run_storeCells_at P g (o + sLen * i.size) e news 0 cur w hg (by simpa using hfit) h1
  simp only [Nat.add_zero] at hst
  simp [Builtin.append_, run_underlying ht, sizeOf, typeInfo, hi, Builtin.lenOf, hroom, hf, add_lit0, hst]

theorem All2.mem {α β : Type} {R : α → β → Prop} {l : List α} {m : List β} (h : All2 R l m) : ∀ b ∈ m, ∃ a, R a b := by
  induction h with
  | nil => intro b hb; cases hb
  | cons h _ ih => intro b hb; cases hb with
    | head => exact ⟨_, h⟩
    | tail _ hb => exact ih b hb

theorem ones {l l' : List Value} {n : Nat} (h : All2 (FR μ n) l l') : ∀ u ∈ l', u.oneCell' = true := fun u hu => by
  obtain ⟨_, hf⟩ := h.mem u hu
  exact hf.oneCell

/-- An append onto nothing. -/
theorem append_nil {t ty e : TypeId} {i : TypeInfo} {z : Value} (ht : P.underlying t = some (.slice e)) (hi : P.info? e = some i) (hz : i.zero = some z) (hzs : z.cells.size = i.size) (hsp : 0 < i.size) (hr : Rep w0 μ h w) {j p m c : Nat} {b : Blk} (hb : h.g j = some b)
    (hm : 0 < m) (hs : m ≤ 1000000) (hby : m * i.bytes ≤ 140737488355328) (hp : p + m * i.size ≤ b.cells.length) :
    ∃ μ' w' v', (Builtin.append_ #[t, t] ty #[.slice none 0 0, .slice (some ⟨(μ j).r, (μ j).d + p, none⟩) m c]).run P w = .ok v' w' ∧ Ext h.n μ (h.n + 1) μ' ∧
      Rep w0 μ' (h.add ⟨e, i.size, (b.cells.drop p).take (m * i.size), true⟩) w' ∧ VR μ' (h.n + 1) (.slice (some ⟨h.n, 0, none⟩) m m) v' := by
  obtain ⟨news, hl, hall, hcell⟩ := hr.part hb p (m * i.size) hp
  have hrun := run_append_nil (P := P) w t ty e i z ht hi hz ⟨(μ j).r, (μ j).d + p, none⟩ m c news hl hcell hm (by omega) (by omega)
  have hge := grownCap_ge w m 0 e
  refine ⟨_, _, _, hrun, Ext.put _ _ _, hr.add (b := ⟨e, i.size, (b.cells.drop p).take (m * i.size), true⟩) (r := w.heap.size) (cs' := news) (below_dalloc w _) (Nat.le_refl _) rfl (heap_alloc_new w.drew _) (by simp only [Array.toList_append]; exact List.take_left) hall, ?_⟩
  have hsz : (news.toArray ++ Builtin.zeroCells z.cells (grownCap w m 0 e - m)).size = grownCap w m 0 e * i.size := by
    simp only [Array.size_append, List.size_toArray, size_zeroCells, hzs, hl, ← Nat.add_mul]
    congr 1
    omega
  have hpos : 0 < grownCap w m 0 e * i.size := Nat.mul_pos (by omega) hsp
  refine .one (.one ?_)
  have := FR.slc (μ := μ.put h.n ⟨w.heap.size, 0, (news.toArray ++ Builtin.zeroCells z.cells (grownCap w m 0 e - m)).size, i.size⟩) (n := h.n + 1) (i := h.n) (o := 0) (k := m) (c := grownCap w m 0 e) (Nat.lt_succ_self _) hge (by simp [Mu.put, hsz]) (by rw [Mu.put_self]; show (news.toArray ++ Builtin.zeroCells z.cells (grownCap w m 0 e - m)).size ≠ 0; omega)
  simpa [Mu.put] using this

/-- A slice of the whole of a row, under a new number. -/
theorem append_keep (hr : Rep w0 μ h w) {i1 n1 sz : Nat} {b1 : Blk} {v1 : Value} (hb1 : h.g i1 = some b1) (hv1 : VR μ h.n (.slice (some ⟨i1, 0, none⟩) n1 n1) v1) (ho : b1.own = true) (hbsz : b1.sz = sz) :
    ∃ μ', Ext h.n μ (h.n + 1) μ' ∧ Rep w0 μ' ((h.upd i1 none).add ⟨b1.ty, sz, b1.cells.take (n1 * sz), true⟩) w ∧ VR μ' (h.n + 1) (.slice (some ⟨h.n, 0, none⟩) n1 n1) v1 := by
  have hlsz := hr.sz i1 b1 hb1
  have hd0 := hr.d0 i1 b1 hb1 ho
  have phys : (μ i1).n ≠ 0 → Rep w0 (μ.put h.n ⟨(μ i1).r, 0, (μ i1).n, sz⟩) ((h.upd i1 none).add ⟨b1.ty, sz, b1.cells.take (n1 * sz), true⟩) w := fun zi => by
    obtain ⟨hrg, cs, hcs, hcn, hcd⟩ := hr.owns i1 b1 hb1 ho zi
    refine (hr.drop i1).push ⟨(μ i1).r, 0, (μ i1).n, sz⟩ ⟨b1.ty, sz, b1.cells.take (n1 * sz), true⟩ rfl rfl hrg hcs hcn ?_ rfl (hr.free i1 b1 hb1 ho zi) (fun j v hv => ?_) (fun j c hj hco zj => ?_)
    · simp only [List.length_take]; omega
    · rw [List.getElem?_take] at hv
      split at hv
      · obtain ⟨v', h1, h2⟩ := hr.reads i1 b1 hb1 j v hv
        rw [hd0, cell_of_row w _ _ cs _ _ hcs] at h1
        exact ⟨v', h1, h2⟩
      · cases hv
    · simp only [Heap.upd_g] at hj
      split at hj
      · cases hj
      · rename_i e; exact hr.apart j i1 c b1 e hj hb1 hco ho zj zi
  obtain ⟨hi1, _, hv⟩ := hv1.slc
  rcases hv with ⟨cap, rfl, hcap, hfit, zi⟩ | ⟨rfl, zi, o', rfl⟩ | ⟨rfl, zi, rfl⟩
  · refine ⟨_, Ext.put _ _ _, phys zi, .one (.one ?_)⟩
    rw [hd0]
    have := FR.slc (μ := μ.put h.n ⟨(μ i1).r, 0, (μ i1).n, sz⟩) (n := h.n + 1) (i := h.n) (o := 0) (k := n1) (c := cap) (Nat.lt_succ_self _) hcap (by rw [Mu.put_self]; show 0 + 0 + cap * sz ≤ (μ i1).n; rw [hd0, hlsz, hbsz] at hfit; exact hfit) (by rw [Mu.put_self]; exact zi)
    rw [Mu.put_self] at this
    exact this
  · refine ⟨_, Ext.put _ _ _, phys zi, .one (.one ?_)⟩
    have := FR.slc0 (μ := μ.put h.n ⟨(μ i1).r, 0, (μ i1).n, sz⟩) (n := h.n + 1) (i := h.n) (o := 0) (o' := o') (Nat.lt_succ_self _) (by rw [Mu.put_self]; exact zi)
    rw [Mu.put_self] at this
    exact this
  · refine ⟨_, Ext.put h.n μ ⟨0, 0, 0, sz⟩, ?_, .one (.one (.nil (Nat.lt_succ_self _) (by rw [Mu.put_self])))⟩
    have := (hr.drop i1).pushGhost b1.ty sz
    rw [Nat.zero_mul, List.take_zero]
    exact this

/-- An append onto a row of its own. -/
theorem append_gen {y : Value} {news nl : List Value} {u t ty e : TypeId} {i : TypeInfo} {z : Value} (ht : P.underlying t = some (.slice e)) (hi : P.info? e = some i) (hz : i.zero = some z) (hzs : z.cells.size = i.size) (hsp : 0 < i.size) (hr : Rep w0 μ h w) {i1 o n1 m : Nat} {b1 : Blk} {v1 : Value}
    (hb1 : h.g i1 = some b1) (hv1 : VR μ h.n (.slice (some ⟨i1, o, none⟩) n1 n1) v1) (hoff : o = 0) (ho : b1.own = true) (hty : b1.ty = e) (hbsz : b1.sz = i.size) (ho1 : o + n1 * i.size ≤ b1.cells.length) (hpos : 0 < m)
    (hl : news.length = m * i.size) (hall : All2 (FR μ h.n) nl news)
    (hroomL : ∀ (g o cap : Nat) (cur : Array Value), w.heap[g]? = some (.cells cur e (0, 0)) → n1 + m ≤ cap → o + n1 * i.size + news.length ≤ cur.size → (Builtin.append_ #[t, u] ty #[.slice (some ⟨g, o, none⟩) n1 cap, y]).run P w = .ok (.slice (some ⟨g, o, none⟩) (n1 + m) cap) (w.setRow g (cur.toList.take (o + n1 * i.size) ++ news ++ cur.toList.drop (o + n1 * i.size + news.length)).toArray))
    (hgrowL : ∀ (q : Addr) (cap : Nat) (olds : List Value), olds.length = n1 * i.size → (∀ j v, olds[j]? = some v → w.cell? (q.add j) = some v) → cap < n1 + m → (Builtin.append_ #[t, u] ty #[.slice (some q) n1 cap, y]).run P w = .ok (.slice (some ⟨w.heap.size, 0, none⟩) (n1 + m) (grownCap w (n1 + m) cap e)) (w.drew.alloc (.cells (olds.toArray ++ news.toArray ++ Builtin.zeroCells z.cells (grownCap w (n1 + m) cap e - (n1 + m))) e)))
    (hnilL : (Builtin.append_ #[t, u] ty #[.slice none 0 0, y]).run P w = .ok (.slice (some ⟨w.heap.size, 0, none⟩) m (grownCap w m 0 e)) (w.drew.alloc (.cells (news.toArray ++ Builtin.zeroCells z.cells (grownCap w m 0 e - m)) e))) :
    ∃ μ' w' v', (Builtin.append_ #[t, u] ty #[v1, y]).run P w = .ok v' w' ∧ Ext h.n μ (h.n + 1) μ' ∧
      Rep w0 μ' ((h.upd i1 none).add ⟨e, i.size, (b1.cells.drop o).take (n1 * i.size) ++ nl, true⟩) w' ∧ VR μ' (h.n + 1) (.slice (some ⟨h.n, 0, none⟩) (n1 + m) (n1 + m)) v' := by
  obtain ⟨olds, hlo, hallo, hcello⟩ := hr.part hb1 o (n1 * i.size) ho1
  have hlsz := hr.sz i1 b1 hb1
  subst hty
  have grow : ∀ (olds' : List Value) (cap : Nat), olds'.length = n1 * i.size → All2 (FR μ h.n) ((b1.cells.drop o).take (n1 * i.size)) olds' → (Builtin.append_ #[t, u] ty #[v1, y]).run P w = .ok (.slice (some ⟨w.heap.size, 0, none⟩) (n1 + m) (grownCap w (n1 + m) cap b1.ty)) (w.drew.alloc (.cells (olds'.toArray ++ news.toArray ++ Builtin.zeroCells z.cells (grownCap w (n1 + m) cap b1.ty - (n1 + m))) b1.ty)) → ∃ μ' w' v', (Builtin.append_ #[t, u] ty #[v1, y]).run P w = .ok v' w' ∧ Ext h.n μ (h.n + 1) μ' ∧
      Rep w0 μ' ((h.upd i1 none).add ⟨b1.ty, i.size, (b1.cells.drop o).take (n1 * i.size) ++ nl, true⟩) w' ∧ VR μ' (h.n + 1) (.slice (some ⟨h.n, 0, none⟩) (n1 + m) (n1 + m)) v' := by
    intro olds cap hlo hallo hrun
    have hge := grownCap_ge w (n1 + m) cap b1.ty
    have hsz : (olds.toArray ++ news.toArray ++ Builtin.zeroCells z.cells (grownCap w (n1 + m) cap b1.ty - (n1 + m))).size = grownCap w (n1 + m) cap b1.ty * i.size := by
      simp only [Array.size_append, List.size_toArray, size_zeroCells, hzs, hl, hlo, ← Nat.add_mul]
      congr 1
      omega
    have hpp : 0 < grownCap w (n1 + m) cap b1.ty * i.size := Nat.mul_pos (by omega) hsp
    refine ⟨_, _, _, hrun, Ext.put h.n μ ⟨w.heap.size, 0, _, i.size⟩, (hr.drop i1).add (b := ⟨b1.ty, i.size, (b1.cells.drop o).take (n1 * i.size) ++ nl, true⟩) (r := w.heap.size) (cs' := olds ++ news) (below_dalloc w _) (Nat.le_refl _) rfl (heap_alloc_new w.drew _) (by simp only [Array.toList_append]; exact List.take_left) (hallo.append hall), ?_⟩
    refine .one (.one ?_)
    have := FR.slc (μ := μ.put h.n ⟨w.heap.size, 0, (olds.toArray ++ news.toArray ++ Builtin.zeroCells z.cells (grownCap w (n1 + m) cap b1.ty - (n1 + m))).size, i.size⟩) (n := h.n + 1) (i := h.n) (o := 0) (k := n1 + m) (c := grownCap w (n1 + m) cap b1.ty) (Nat.lt_succ_self _) hge (by rw [Mu.put_self]; have q0 : 0 + 0 + grownCap w (n1 + m) cap b1.ty * i.size ≤ (olds.toArray ++ news.toArray ++ Builtin.zeroCells z.cells (grownCap w (n1 + m) cap b1.ty - (n1 + m))).size := (by rw [hsz]; omega); exact q0) (by rw [Mu.put_self]; show (olds.toArray ++ news.toArray ++ Builtin.zeroCells z.cells (grownCap w (n1 + m) cap b1.ty - (n1 + m))).size ≠ 0; omega)
    simpa [Mu.put] using this
  obtain ⟨hi1, _, hv⟩ := hv1.slc
  rcases hv with ⟨cap, rfl, hcap, hfit, zi⟩ | ⟨hn0, zi, o', hv⟩ | ⟨hn0, zi, hv⟩
  · obtain ⟨hrg, cs, hcs, hcn, hcd⟩ := hr.owns i1 b1 hb1 ho zi
    by_cases hroom : n1 + m ≤ cap
    · have h2 : n1 * i.size + m * i.size ≤ cap * i.size := by rw [← Nat.add_mul]; exact Nat.mul_le_mul_right _ hroom
      rw [hlsz, hbsz] at hfit
      have hrun := hroomL (μ i1).r ((μ i1).d + o) cap cs hcs hroom (by rw [hl, hcn]; omega)
      refine ⟨_, _, _, hrun, Ext.put h.n μ ⟨(μ i1).r, (μ i1).d + o, (μ i1).n, i.size⟩, ?_, ?_⟩
      · have hcl : (cs.toList.take ((μ i1).d + o + n1 * i.size)).length = (μ i1).d + o + n1 * i.size := by rw [List.length_take, Array.length_toList, hcn]; omega
        have hset : Rep w0 μ (h.upd i1 none) (w.setRow (μ i1).r (cs.toList.take ((μ i1).d + o + n1 * i.size) ++ news ++ cs.toList.drop ((μ i1).d + o + n1 * i.size + news.length)).toArray) := by
          have hne : ∀ {j c}, j ≠ i1 → h.g j = some c → (μ j).n ≠ 0 → (μ j).r ≠ (μ i1).r := fun {j c} hji hj zj => hr.ne hji hj hb1 ho zj zi
          have hg : ∀ {j c}, (h.upd i1 none).g j = some c → j ≠ i1 ∧ h.g j = some c := fun {j c} hj => by
            simp only [Heap.upd_g] at hj
            split at hj
            · cases hj
            · rename_i e; exact ⟨e, hj⟩
          refine ⟨below_setRow hr.below hrg _, fun j c hj => hr.fin j c (hg hj).2, fun j c hj k v hv => ?_, fun j c hj => hr.ghost j c (hg hj).2, fun j c hj hco zj => ?_, fun j c hj => hr.old j c (hg hj).2, hr.rest_set hb1 ho zi _, fun j c hj => hr.free j c (hg hj).2, fun j c hj => hr.sz j c (hg hj).2, fun j c hj => hr.d0 j c (hg hj).2, fun j k c c' hjk hj hk => hr.apart j k c c' hjk (hg hj).2 (hg hk).2⟩
          · obtain ⟨v', h1, h2⟩ := hr.reads j c (hg hj).2 k v hv
            refine ⟨v', ?_, h2⟩
            rw [World.cell?_of_block (w := w) (setRow_other w (μ i1).r (μ j).r _ (hne (hg hj).1 (hg hj).2 (hr.nz (hg hj).2 hv)))]
            exact h1
          · obtain ⟨h1, cs1, h2, h3⟩ := hr.owns j c (hg hj).2 hco zj
            exact ⟨h1, cs1, by rw [setRow_other w (μ i1).r (μ j).r _ (hne (hg hj).1 (hg hj).2 zj)]; exact h2, h3⟩
        refine hset.push ⟨(μ i1).r, (μ i1).d + o, (μ i1).n, i.size⟩ ⟨b1.ty, i.size, (b1.cells.drop o).take (n1 * i.size) ++ nl, true⟩ rfl rfl hrg (setRow_heap w _ cs _ _ _ hcs) ?_ ?_ ?_ ?_ ?_ ?_
        · simp only [List.size_toArray, List.length_append, List.length_take, List.length_drop, Array.length_toList, hcn, hl]
          omega
        · simp only [List.length_append, hallo.length, hall.length, hl, hlo]
          omega
        · show (μ i1).d + o = 0
          rw [hr.d0 i1 b1 hb1 ho, hoff]
        · exact hr.free i1 b1 hb1 ho zi
        · intro k v hv
          obtain ⟨v', h1, h2⟩ := (hallo.append hall).get hv
          refine ⟨v', ?_, h2⟩
          show (cs.toList.take ((μ i1).d + o + n1 * i.size) ++ news ++ cs.toList.drop ((μ i1).d + o + n1 * i.size + news.length)).toArray[(μ i1).d + o + k]? = some v'
          rw [List.getElem?_toArray]
          by_cases hk : k < olds.length
          · rw [List.getElem?_append_left hk] at h1
            have h3 := hcello k v' h1
            rw [add_lit0, cell_of_row w _ _ cs _ _ hcs] at h3
            rw [List.append_assoc, List.getElem?_append_left (by rw [hcl]; omega), List.getElem?_take, if_pos (by omega)]
            simpa using h3
          · rw [List.getElem?_append_right (by omega)] at h1
            have hk2 : k - olds.length < news.length := by
              rcases Nat.lt_or_ge (k - olds.length) news.length with h | h
              · exact h
              · rw [List.getElem?_eq_none h] at h1; cases h1
            rw [List.append_assoc, List.getElem?_append_right (by rw [hcl]; omega), List.getElem?_append_left (by rw [hcl]; omega), hcl, show (μ i1).d + o + k - ((μ i1).d + o + n1 * i.size) = k - olds.length from by omega]
            exact h1
        · intro j c hj hco zj
          simp only [Heap.upd_g] at hj
          split at hj
          · cases hj
          · rename_i e; exact hr.apart j i1 c b1 e hj hb1 hco ho zj zi
      · refine .one (.one ?_)
        have := FR.slc (μ := μ.put h.n ⟨(μ i1).r, (μ i1).d + o, (μ i1).n, i.size⟩) (n := h.n + 1) (i := h.n) (o := 0) (k := n1 + m) (c := cap) (Nat.lt_succ_self _) hroom (by simp [Mu.put]; omega) (by rw [Mu.put_self]; exact zi)
        simpa [Mu.put] using this
    · exact grow olds cap hlo hallo (hgrowL _ cap olds hlo hcello (by omega))
  · subst hn0
    subst hv
    have h0 : olds = [] := List.eq_nil_of_length_eq_zero (by simpa using hlo)
    exact grow olds 0 hlo hallo (hgrowL _ 0 olds hlo (fun j v hv => by rw [h0] at hv; cases hv) (by omega))
  · subst hn0
    subst hv
    have h0 : olds = [] := List.eq_nil_of_length_eq_zero (by simpa using hlo)
    subst h0
    refine grow [] 0 (by simp) hallo ?_
    simpa using hnilL

/-- An append of nothing. -/
theorem run_append_zero {t u ty e eu : TypeId} {i : TypeInfo} (ht : P.underlying t = some (.slice e)) (hu : P.underlying u = some (.slice eu)) (hi : P.info? e = some i) (w : World) (base : Option Addr) (n cap : Nat) (hn : n ≤ cap) (q : Option Addr) (c : Nat) :
    (Builtin.append_ #[t, u] ty #[.slice base n cap, .slice q 0 c]).run P w = .ok (.slice base n cap) w := by
  have hf : (Builtin.firstCells i.size 0 (.slice q 0 c)).run P w = .ok #[] w := by
    cases q with
    | none => exact run_firstCells_none ..
    | some a => exact run_firstCells_some w i.size 0 a 0 c [] (by simp) (fun j v hv => by cases hv)
  cases base with
  | none => simp [Builtin.append_, run_underlying ht, run_underlying hu, sizeOf, typeInfo, hi, Builtin.lenOf, hn, hf]
  | some a => simp [Builtin.append_, run_underlying ht, run_underlying hu, sizeOf, typeInfo, hi, Builtin.lenOf, hn, hf, storeCells]
theorem run_append_zeroS {t u ty e : TypeId} {i : TypeInfo} (ht : P.underlying t = some (.slice e)) (hu : P.underlying u = some .string) (hi : P.info? e = some i) (w : World) (base : Option Addr) (n cap : Nat) (hn : n ≤ cap) {s : ByteArray} (hs : s.size = 0) :
    (Builtin.append_ #[t, u] ty #[.slice base n cap, .string s]).run P w = .ok (.slice base n cap) w := by
  have hf := Lib.run_firstCells_string (P := P) w i.size s
  have h0 : Lib.strCells s = [] := by
    have : (Lib.strCells s).length = s.size := by simp [Lib.strCells]
    exact List.eq_nil_of_length_eq_zero (by omega)
  rw [h0, hs] at hf
  cases base with
  | none => simp [Builtin.append_, run_underlying ht, run_underlying hu, sizeOf, typeInfo, hi, Builtin.lenOf, hn, hf, hs]
  | some a => simp [Builtin.append_, run_underlying ht, run_underlying hu, sizeOf, typeInfo, hi, Builtin.lenOf, hn, hf, hs, storeCells]

/-- An append onto a row of its own. -/
theorem append_own {t ty e : TypeId} {i : TypeInfo} {z : Value} (ht : P.underlying t = some (.slice e)) (hi : P.info? e = some i) (hz : i.zero = some z) (hzs : z.cells.size = i.size) (hsp : 0 < i.size) (hr : Rep w0 μ h w) {i1 o n1 j p m c : Nat} {b1 b : Blk} {v1 : Value}
    (hb1 : h.g i1 = some b1) (hv1 : VR μ h.n (.slice (some ⟨i1, o, none⟩) n1 n1) v1) (hoff : o = 0) (ho : b1.own = true) (hty : b1.ty = e) (hbsz : b1.sz = i.size) (ho1 : o + n1 * i.size ≤ b1.cells.length) (hb : h.g j = some b)
    (hm : 0 < m) (hs : n1 + m ≤ 1000000) (hby : (n1 + m) * i.bytes ≤ 140737488355328) (hp : p + m * i.size ≤ b.cells.length) :
    ∃ μ' w' v', (Builtin.append_ #[t, t] ty #[v1, .slice (some ⟨(μ j).r, (μ j).d + p, none⟩) m c]).run P w = .ok v' w' ∧ Ext h.n μ (h.n + 1) μ' ∧
      Rep w0 μ' ((h.upd i1 none).add ⟨e, i.size, (b1.cells.drop o).take (n1 * i.size) ++ (b.cells.drop p).take (m * i.size), true⟩) w' ∧ VR μ' (h.n + 1) (.slice (some ⟨h.n, 0, none⟩) (n1 + m) (n1 + m)) v' := by
  obtain ⟨news, hl, hall, hcell⟩ := hr.part hb p (m * i.size) hp
  exact append_gen (u := t) ht hi hz hzs hsp hr hb1 hv1 hoff ho hty hbsz ho1 hm hl hall
    (fun g o cap cur hg hroom hfit => run_append_roomAt (P := P) w t ty e i ht hi g o n1 cap cur hg ⟨(μ j).r, (μ j).d + p, none⟩ m c news hl hcell (ones hall) hroom hfit)
    (fun q cap olds hlo hq hlt => run_append_grow (P := P) w t ty e i z ht hi hz q n1 cap olds hlo hq ⟨(μ j).r, (μ j).d + p, none⟩ m c news hl hcell hlt (by omega) (growslice_fits (by omega) hby))
    (run_append_nil (P := P) w t ty e i z ht hi hz ⟨(μ j).r, (μ j).d + p, none⟩ m c news hl hcell hm (by omega) (by
      have : m * i.bytes ≤ (n1 + m) * i.bytes := Nat.mul_le_mul_right _ (by omega)
      omega))

theorem strV_fr (s : ByteArray) {n : Nat} : All2 (FR μ n) (strV s) (strV s) := All2.same fun a ha => by
  unfold strV at ha
  obtain ⟨b, _, rfl⟩ := List.mem_map.1 ha
  exact .same rfl
theorem strV_len (s : ByteArray) : (strV s).length = s.size := by unfold strV; rw [List.length_map]; rfl
theorem strV_lib (s : ByteArray) : strV s = Lib.strCells s := rfl

/-- A string, behind a row of bytes of its own. -/
theorem nil_string {t u ty e : TypeId} {i : TypeInfo} (ht : P.underlying t = some (.slice e)) (hu : P.underlying u = some .string) (hi : P.info? e = some i) (hz : i.zero = some (.int .u8 0)) (hb1' : i.bytes = 1) {s : ByteArray} (h0 : 0 < s.size) (hb : s.size ≤ 100000000000000) (w : World) :
    (Builtin.append_ #[t, u] ty #[.slice none 0 0, .string s]).run P w = .ok (.slice (some ⟨w.heap.size, 0, none⟩) s.size (grownCap w s.size 0 e)) (w.drew.alloc (.cells ((strV s).toArray ++ Builtin.zeroCells (Value.int .u8 0).cells (grownCap w s.size 0 e - s.size)) e)) := by
  have hrun := run_append_nil_string (P := P) w t u ty e i (.int .u8 0) ht hu hi hz s h0 (by omega) (by rw [hb1']; omega)
  rw [show Array.map (fun b => Value.int IntKind.u8 b.toNat) s.data = (strV s).toArray from by apply Array.ext'; simp [strV]] at hrun
  exact hrun
theorem apps_own {t u ty e : TypeId} {i : TypeInfo} (ht : P.underlying t = some (.slice e)) (hu : P.underlying u = some .string) (hi : P.info? e = some i) (hz : i.zero = some (.int .u8 0)) (hs1 : i.size = 1) (hb1' : i.bytes = 1) (hr : Rep w0 μ h w) {i1 n1 : Nat} {b1 : Blk} {v1 : Value} {s : ByteArray}
    (hb1 : h.g i1 = some b1) (hv1 : VR μ h.n (.slice (some ⟨i1, 0, none⟩) n1 n1) v1) (ho : b1.own = true) (hty : b1.ty = e) (hbsz : b1.sz = 1) (ho1 : n1 ≤ b1.cells.length) (hb : n1 + s.size ≤ 100000000000000) :
    ∃ μ' w' v', (Builtin.append_ #[t, u] ty #[v1, .string s]).run P w = .ok v' w' ∧ Ext h.n μ (h.n + 1) μ' ∧
      Rep w0 μ' ((h.upd i1 none).add ⟨e, 1, b1.cells.take n1 ++ strV s, true⟩) w' ∧ VR μ' (h.n + 1) (.slice (some ⟨h.n, 0, none⟩) (n1 + s.size) (n1 + s.size)) v' := by
  by_cases hs0 : s.size = 0
  · obtain ⟨μ', x, hrep, hv⟩ := append_keep hr hb1 hv1 ho hbsz
    have hl := strV_len s
    have hnil : strV s = [] := List.eq_nil_of_length_eq_zero (by omega)
    rw [hnil, hs0, List.append_nil]
    rw [hty, Nat.mul_one] at hrep
    have hcap : ∃ base cap, v1 = .slice base n1 cap ∧ n1 ≤ cap := by
      obtain ⟨_, _, hv'⟩ := hv1.slc
      rcases hv' with ⟨cap, rfl, hcap, _⟩ | ⟨rfl, _, o', rfl⟩ | ⟨rfl, _, rfl⟩
      · exact ⟨_, cap, rfl, hcap⟩
      · exact ⟨_, 0, rfl, Nat.le_refl _⟩
      · exact ⟨_, 0, rfl, Nat.le_refl _⟩
    obtain ⟨base, cap, rfl, hcap⟩ := hcap
    exact ⟨μ', w, _, run_append_zeroS ht hu hi w base n1 cap hcap hs0, x, hrep, hv⟩
  have key := append_gen (P := P) (ty := ty) (y := .string s) (news := strV s) (nl := strV s) (m := s.size) (u := u) (o := 0) (z := .int .u8 0) ht hi hz (by rw [hs1]; rfl) (by omega) hr hb1 hv1 rfl ho hty (by rw [hs1]; exact hbsz) (by rw [hs1]; omega) (by omega) (by rw [hs1, strV_len]; omega) (strV_fr s)
    (fun g o cap cur hg hroom hfit => by
      have hf := Lib.run_firstCells_string (P := P) w 1 s
      have hst := run_storeCells_atF P g (o + n1) e (0, 0) (Lib.strCells s) 0 cur w hg (Nat.zero_le _) (by rw [hs1, strV_lib] at hfit; simpa using hfit) (Lib.strCells_oneCell s)
      simp only [Nat.add_zero] at hst
      simp [Builtin.append_, run_underlying ht, run_underlying hu, sizeOf, typeInfo, hi, hs1, Builtin.lenOf, hroom, hf, Addr.add_lit, hst, strV_lib, add_lit0])
    (fun q cap olds hlo hq hlt => by
      have := Lib.run_append_grow_string (P := P) w t u ty e i (.int .u8 0) ht hu hi hz q n1 cap olds (by simpa using hlo) hq s hlt (by omega) (by rw [hb1']; exact growslice_fits (by omega) (by omega))
      exact this)
    (nil_string ht hu hi hz hb1' (by omega) (by omega) w)
  rw [hs1] at key
  simpa using key
end
end Go.Mini
