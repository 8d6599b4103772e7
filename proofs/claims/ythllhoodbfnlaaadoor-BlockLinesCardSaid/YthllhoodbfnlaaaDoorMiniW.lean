/- Mini: heaps told row by row: a part of one, numbers turned, results that are rows of their own. No condition. -/
import Derived.Test.YthllhoodbfnlaaaDoorMiniV
namespace Go.Mini
open Go Go.RowKit
set_option linter.unusedVariables false
set_option linter.unusedSimpArgs false

section
variable {P : Program} {nt : NT} {w0 : Org P} {w w1 : World} {μ μ' : Mu} {h hc h' : Heap} {n n' N : Nat} {ρ : Nat → Option Nat} {v v' : Value} {K K' : VK}

/-- The rows of a list lie in a heap, under these numbers. -/
def rowsIn (ρ : Nat → Option Nat) (n : Nat) (h : Heap) : List (Option Blk) → List (Option Nat) → Prop
  | [], _ => True
  | none :: L, some k :: R => Nat.blt k h.n = true ∧ rowsIn ρ n h L R
  | none :: L, none :: R => rowsIn ρ n h L R
  | some b :: L, some k :: R => (Nat.blt k h.n = true ∧ b.cells.all (okF n) = true ∧ h.g k = some ⟨b.ty, b.sz, b.cells.map (ren ρ), b.own⟩) ∧ rowsIn ρ n h L R
  | some b :: L, none :: R => b.cells = [] ∧ rowsIn ρ n h L R
  | _ :: _, [] => False
def liveNums : List (Option Blk) → List (Option Nat) → List Nat
  | some _ :: L, some k :: R => k :: liveNums L R
  | _ :: L, _ :: R => liveNums L R
  | _, _ => []
def nodupB : List Nat → Bool
  | [] => true
  | x :: l => !l.contains x && nodupB l
def lowB (R : List (Option Nat)) : Nat → Bool
  | 0 => true
  | n + 1 => (match R.getD n none with | some k => Nat.beq k n | none => false) && lowB R n

theorem rowsIn_get : ∀ {L : List (Option Blk)} {R : List (Option Nat)}, rowsIn ρ n h L R → (∀ j b k, L.getD j none = some b → R.getD j none = some k → b.cells.all (okF n) = true ∧ h.g k = some ⟨b.ty, b.sz, b.cells.map (ren ρ), b.own⟩) ∧ (∀ j b, L.getD j none = some b → R.getD j none = none → b.cells = []) ∧ (∀ j k, j < L.length → R.getD j none = some k → k < h.n)
  | [], R, hh => ⟨fun j b k hj => by simp at hj, fun j b hj => by simp at hj, fun j k hj => by simp at hj⟩
  | none :: L, [], hh => hh.elim
  | some _ :: L, [], hh => hh.elim
  | none :: L, none :: R, hh => by
    obtain ⟨h1, h2, h3⟩ := rowsIn_get (L := L) (R := R) hh
    refine ⟨fun j b k hj hk => ?_, fun j b hj hk => ?_, fun j k hj hk => ?_⟩ <;> cases j with
    | zero => simp at *
    | succ j => first | exact h1 j b k (by simpa using hj) (by simpa using hk) | exact h2 j b (by simpa using hj) (by simpa using hk) | exact h3 j k (by simpa using hj) (by simpa using hk)
  | none :: L, some m :: R, ⟨hm, hh⟩ => by
    rw [Nat.blt_eq] at hm
    obtain ⟨h1, h2, h3⟩ := rowsIn_get (L := L) (R := R) hh
    refine ⟨fun j b k hj hk => ?_, fun j b hj hk => ?_, fun j k hj hk => ?_⟩ <;> cases j with
    | zero => first | (simp at hj; done) | (simp at hk; done) | (simp at hk; omega)
    | succ j => first | exact h1 j b k (by simpa using hj) (by simpa using hk) | exact h2 j b (by simpa using hj) (by simpa using hk) | exact h3 j k (by simpa using hj) (by simpa using hk)
  | some c :: L, some m :: R, ⟨⟨hm, hm1, hm2⟩, hh⟩ => by
    rw [Nat.blt_eq] at hm
    obtain ⟨h1, h2, h3⟩ := rowsIn_get (L := L) (R := R) hh
    refine ⟨fun j b k hj hk => ?_, fun j b hj hk => ?_, fun j k hj hk => ?_⟩ <;> cases j with
    | zero => first | (simp at hk; done) | (simp at hj hk; subst hj hk; exact ⟨List.all_eq_true.2 fun x hx => List.all_eq_true.1 hm1 x hx, hm2⟩) | (simp at hk; omega)
    | succ j => first | exact h1 j b k (by simpa using hj) (by simpa using hk) | exact h2 j b (by simpa using hj) (by simpa using hk) | exact h3 j k (by simpa using hj) (by simpa using hk)
  | some c :: L, none :: R, ⟨hm, hh⟩ => by
    obtain ⟨h1, h2, h3⟩ := rowsIn_get (L := L) (R := R) hh
    refine ⟨fun j b k hj hk => ?_, fun j b hj hk => ?_, fun j k hj hk => ?_⟩ <;> cases j with
    | zero => first | (simp at hk; done) | (simp at hj; subst hj; exact hm)
    | succ j => first | exact h1 j b k (by simpa using hj) (by simpa using hk) | exact h2 j b (by simpa using hj) (by simpa using hk) | exact h3 j k (by simpa using hj) (by simpa using hk)

theorem liveNums_mem : ∀ {L : List (Option Blk)} {R : List (Option Nat)} {j : Nat} {b : Blk} {k : Nat}, L.getD j none = some b → R.getD j none = some k → k ∈ liveNums L R
  | [], R, j, b, k, hj, hk => by simp at hj
  | x :: L, [], j, b, k, hj, hk => by simp at hk
  | x :: L, y :: R, 0, b, k, hj, hk => by
    simp at hj hk
    subst hj hk
    simp [liveNums]
  | x :: L, y :: R, j + 1, b, k, hj, hk => by
    have := liveNums_mem (L := L) (R := R) (j := j) (by simpa using hj) (by simpa using hk)
    cases x <;> cases y <;> simp [liveNums, this]
theorem nodup_inj : ∀ {L : List (Option Blk)} {R : List (Option Nat)}, nodupB (liveNums L R) = true → ∀ i j b c k, L.getD i none = some b → L.getD j none = some c → R.getD i none = some k → R.getD j none = some k → i = j
  | [], R, hn, i, j, b, c, k, hi, hj, ki, kj => by simp at hi
  | x :: L, [], hn, i, j, b, c, k, hi, hj, ki, kj => by simp at ki
  | x :: L, y :: R, hn, 0, 0, b, c, k, hi, hj, ki, kj => rfl
  | x :: L, y :: R, hn, 0, j + 1, b, c, k, hi, hj, ki, kj => by
    simp at hi ki
    subst hi ki
    have := liveNums_mem (L := L) (R := R) (j := j) (by simpa using hj) (by simpa using kj)
    simp only [liveNums, nodupB, Bool.and_eq_true, Bool.not_eq_true'] at hn
    have h1 := hn.1
    rw [← Bool.not_eq_true, List.contains_iff_mem] at h1
    exact absurd this h1
  | x :: L, y :: R, hn, i + 1, 0, b, c, k, hi, hj, ki, kj => by
    simp at hj kj
    subst hj kj
    have := liveNums_mem (L := L) (R := R) (j := i) (by simpa using hi) (by simpa using ki)
    simp only [liveNums, nodupB, Bool.and_eq_true, Bool.not_eq_true'] at hn
    have h1 := hn.1
    rw [← Bool.not_eq_true, List.contains_iff_mem] at h1
    exact absurd this h1
  | x :: L, y :: R, hn, i + 1, j + 1, b, c, k, hi, hj, ki, kj => by
    have hn' : nodupB (liveNums L R) = true := by
      cases x <;> cases y <;> first | exact hn | (simp only [liveNums, nodupB, Bool.and_eq_true] at hn; exact hn.2)
    rw [nodup_inj hn' i j b c k (by simpa using hi) (by simpa using hj) (by simpa using ki) (by simpa using kj)]
theorem lowB_get {R : List (Option Nat)} : ∀ {n : Nat}, lowB R n = true → ∀ j, j < n → R.getD j none = some j
  | 0, hh, j, hj => by omega
  | n + 1, hh, j, hj => by
    simp only [lowB, Bool.and_eq_true] at hh
    by_cases e : j = n
    · subst e
      have h1 := hh.1
      split at h1
      · rename_i k hk; rw [hk, Nat.eq_of_beq_eq_true h1]
      · cases h1
    · exact lowB_get hh.2 j (by omega)

theorem Cmp.lit {L : List (Option Blk)} (ρl : List (Option Nat)) (hg : rowsIn (fun j => ρl.getD j none) L.length h L ρl) (hd : nodupB (liveNums L ρl) = true) (hn : Nat.ble n L.length = true) (hl : lowB ρl n = true) : Cmp n (fun j => ρl.getD j none) (lit L) h := by
  obtain ⟨h1, h2, h3⟩ := rowsIn_get hg
  refine ⟨⟨fun j k hj hk => h3 j k hj hk, fin_lit, fun i j b c k hi hj ki kj => ?_, fun j b k hj hk => ?_, fun j b hj hk => h2 j b (by rw [lit_g] at hj; exact hj) hk⟩, fun j b b' k hj hk hb' => ?_, Nat.le_of_ble_eq_true hn, lowB_get hl⟩
  · rw [lit_g] at hi hj
    exact nodup_inj hd i j b c k hi hj ki kj
  · rw [lit_g] at hj
    obtain ⟨q1, q2⟩ := h1 j b k hj hk
    exact ⟨q1, b.own, q2, id⟩
  · rw [lit_g] at hj
    have := (h1 j b k hj hk).2.symm.trans hb'
    rw [← Option.some.inj this]

/-- A value and a heap, rows perhaps renumbered. -/
def InV (n : Nat) (K : VK) : VK := fun v h => K v h ∨ ∃ ρ vc hc, Cmp n ρ hc h ∧ v = renT ρ vc ∧ okT hc.n vc = true ∧ K vc hc
theorem InV.lit {L : List (Option Blk)} (ρl : List (Option Nat)) (vc : Value) (hg : rowsIn (fun j => ρl.getD j none) L.length h L ρl) (hd : nodupB (liveNums L ρl) = true) (hn : Nat.ble n L.length = true) (hl : lowB ρl n = true) (hv : v = renT (fun j => ρl.getD j none) vc) (hok : okT L.length vc = true) (hK : K vc (Mini.lit L)) : InV n K v h :=
  .inr ⟨_, vc, Mini.lit L, Cmp.lit ρl hg hd hn hl, hv, hok, hK⟩
theorem In.lit {M : List Value → Heap → Prop} {vs : List Value} {L : List (Option Blk)} (ρl : List (Option Nat)) (vc : List Value) (hg : rowsIn (fun j => ρl.getD j none) L.length h L ρl) (hd : nodupB (liveNums L ρl) = true) (hn : Nat.ble n L.length = true) (hl : lowB ρl n = true) (hv : vs = vc.map (renT fun j => ρl.getD j none)) (hok : vc.all (okT L.length) = true) (hK : M vc (Mini.lit L)) : In n M vs h :=
  .inr ⟨_, vc, Mini.lit L, Cmp.lit ρl hg hd hn hl, hv, hok, hK⟩

theorem In.rows {vs vc : List Value} {L : List (Option Blk)} (ρl : List (Option Nat)) (hg : rowsIn (fun j => ρl.getD j none) L.length h L ρl) (hd : nodupB (liveNums L ρl) = true) (hn : Nat.ble n L.length = true) (hl : lowB ρl n = true) (hv : vs = vc.map (renT fun j => ρl.getD j none)) (hok : vc.all (okT L.length) = true) : In n (fun vs h => vs = vc ∧ h = Mini.lit L) vs h :=
  In.lit ρl vc hg hd hn hl hv hok ⟨rfl, rfl⟩
theorem InV.rows {vc : Value} {L : List Blk} (ρl : List (Option Nat)) (hg : rowsIn (fun j => ρl.getD j none) (L.map some).length h (L.map some) ρl) (hd : nodupB (liveNums (L.map some) ρl) = true) (hn : Nat.ble n (L.map some).length = true) (hl : lowB ρl n = true) (hv : v = renT (fun j => ρl.getD j none) vc) (hok : okT (L.map some).length vc = true) : InV n (fun v h => v = vc ∧ h = Mini.lit (L.map some)) v h :=
  InV.lit ρl vc hg hd hn hl hv hok ⟨rfl, rfl⟩
theorem ACalls.inV {f : Nat} {vs : List Value} (hh : ACalls P f vs h (InV h.n K)) : ACalls P f vs h K := by
  refine ⟨hh.1, fun w0 μ w vs' hr hv => (hh.2 w0 μ w vs' hr hv).mono ?_⟩
  rintro e w' ⟨v, v', h', μ', h1, h2, h3, h4, h5⟩
  rcases h5 with h5 | ⟨ρ, vc, hc, hC, rfl, hok, hK⟩
  · exact ⟨v, v', h', μ', h1, h2, h3, h4, h5⟩
  · exact ⟨vc, v', hc, μ'.via ρ hc, h1, ⟨Nat.le_trans (Nat.le_of_eq rfl) hC.le, fun i hi => by rw [Mu.via_some (hC.low i hi)]; exact h2.2 i hi⟩, h3.cmp hC, VR.cmp hok h4, hK⟩

/-- Rows behind those of a heap. -/
def addAll (h : Heap) (L : List Blk) : Heap := ⟨h.n + L.length, go h.l h.n L⟩
  where go (l : List (Option Blk)) (k : Nat) : List Blk → List (Option Blk)
  | [] => l
  | b :: L => go (mput l k (some b)) (k + 1) L
theorem addAll_go : ∀ (L : List Blk) (l : List (Option Blk)) (k j : Nat), mrow (addAll.go l k L) j = if k ≤ j ∧ j < k + L.length then L[j - k]? else mrow l j
  | [], l, k, j => by rw [addAll.go, if_neg (by simp only [List.length_nil]; omega)]
  | b :: L, l, k, j => by
    rw [addAll.go, addAll_go L, mrow_put]
    by_cases e : j = k
    · subst e
      rw [if_neg (by omega), if_pos rfl, if_pos (by simp), Nat.sub_self]
      first | rfl | done
    · by_cases h1 : k ≤ j ∧ j < k + (b :: L).length
      · have h2 : k + 1 ≤ j ∧ j < k + 1 + L.length := by simp at h1; omega
        rw [if_pos h1, if_pos h2, show j - k = (j - (k + 1)) + 1 from by omega]; rfl
      · have h2 : ¬ (k + 1 ≤ j ∧ j < k + 1 + L.length) := by simp at h1; omega
        rw [if_neg h1, if_neg h2, if_neg e]
theorem addAll_g (h : Heap) (L : List Blk) (j : Nat) : (addAll h L).g j = if h.n ≤ j ∧ j < h.n + L.length then L[j - h.n]? else h.g j := addAll_go L h.l h.n j

def sh (n : Nat) (j : Nat) : Option Nat := some (n + j)
theorem tgt_nil (n j : Nat) : tgt [] n 0 j = sh n j := by rw [tgt_ge (Nat.zero_le _), Nat.sub_zero]; rfl

/-- A call of plain values that hands back rows of its own: told over the empty heap. -/
theorem ACalls.fresh {f : Nat} {vs : List Value} (hvs : vs.all cleanT = true) {v0 : Value} {L : List Blk} (hok : okT L.length v0 = true) (hL : L.all (fun b => b.own && b.cells.all (okF L.length)) = true)
    (hh : ACalls P f vs (lit []) (InV 0 fun v h' => v = v0 ∧ h' = lit (L.map some))) (hK : K (renT (sh h.n) v0) (addAll h (L.map (renB (sh h.n))))) : ACalls P f vs h K := by
  have hall : ∀ {w0 : Org P} {μ : Mu} {w : World} {vs'}, All2 (VR μ h.n) vs vs' → vs' = vs := fun {w0 μ w vs'} hall => by
    clear hh
    induction hall with
    | nil => rfl
    | cons h0 t ih =>
      simp only [List.all_cons, Bool.and_eq_true] at hvs
      rw [h0.same_clean hvs.1, ih hvs.2]
  have hh' := ACalls.inV hh
  refine ⟨hh'.1, fun w0 μ w vs' hr hv => ?_⟩
  have e := hall (w0 := w0) (w := w) hv
  subst e
  have hno : ∀ {i b}, (Mini.lit []).g i = some b → False := fun {i b} hi => by rw [lit_g] at hi; simp at hi
  have hr0 : Rep ⟨w0.w, fun r => w.heap[r]?, w0.gl⟩ μ (Mini.lit []) w := ⟨hr.below, fun i b hi => (hno hi).elim, fun i b hi => (hno hi).elim, fun i b hi => (hno hi).elim, fun i b hi => (hno hi).elim, fun i b hi => (hno hi).elim, fun k o hk => hk, fun i b hi => (hno hi).elim, fun i b hi => (hno hi).elim, fun i b hi => (hno hi).elim, fun i j b c hij hi => (hno hi).elim⟩
  refine (hh'.2 _ μ w _ hr0 (All2.same fun v hv => VR.of_cleanT (List.all_eq_true.1 hvs v hv))).mono ?_
  rintro e w' ⟨v, v', h', μ', rfl, hx, hr', hv, rfl, rfl⟩
  let μr : Mu := fun k => if k < h.n then μ k else μ' (k - h.n)
  have hlen : (Mini.lit (L.map some)).n = L.length := by simp [Mini.lit]
  have xr : Ext h.n μ (h.n + L.length) μr := ⟨by omega, fun i hi => by simp only [μr, if_pos hi]⟩
  have new : ∀ j, μr (h.n + j) = μ' j := fun j => by
    simp only [μr, if_neg (show ¬ h.n + j < h.n by omega)]
    congr 1; omega
  have tg : Put (sh h.n) μ' μr (Mini.lit (L.map some)).n (h.n + L.length) := fun j hj => by
    rw [hlen] at hj
    exact .inl ⟨h.n + j, rfl, (new j).symm, by omega⟩
  have hLg : ∀ {j b}, L[j]? = some b → (Mini.lit (L.map some)).g j = some b := fun {j b} hj => by
    rw [lit_g, List.getD_eq_getElem?_getD, List.getElem?_map, hj]; rfl
  have kinds : ∀ {k b}, (addAll h (L.map (renB (sh h.n)))).g k = some b → (h.g k = some b ∧ k < h.n) ∨ ∃ j b0, L[j]? = some b0 ∧ b0.own = true ∧ b = renB (sh h.n) b0 ∧ k = h.n + j ∧ j < L.length := fun {k b} hk => by
    rw [addAll_g] at hk
    simp only [List.length_map] at hk
    split at hk
    · rename_i hj
      right
      rw [List.getElem?_map, Option.map_eq_some_iff] at hk
      obtain ⟨b0, q1, q2⟩ := hk
      have := List.all_eq_true.1 hL b0 (List.mem_of_getElem? q1)
      simp only [Bool.and_eq_true] at this
      exact ⟨k - h.n, b0, q1, this.1, q2.symm, by omega, by omega⟩
    · left
      exact ⟨hk, hr.fin k b hk⟩
  have keep : ∀ {r o}, w.heap[r]? = some o → w'.heap[r]? = some o := fun {r o} ho => hr'.rest r o ho
  refine ⟨renT (sh h.n) v, v', addAll h (L.map (renB (sh h.n))), μr, rfl, ?_, ?_, ?_, hK⟩
  · have : (addAll h (L.map (renB (sh h.n)))).n = h.n + L.length := by simp [addAll]
    rw [this]; exact xr
  · have hn' : (addAll h (L.map (renB (sh h.n)))).n = h.n + L.length := by simp [addAll]
    refine ⟨hr'.below, fun k b hk => ?_, fun k b hk j u hu => ?_, fun k b hk hz => ?_, fun k b hk ho hz => ?_, fun k b hk ho hz => ?_, fun k o hk => keep (hr.rest k o hk), fun k b hk ho hz => ?_, fun k b hk => ?_, fun k b hk ho => ?_, fun k l b c hkl hk hl hb hc0 zk zl => ?_⟩
    · rw [hn']
      rcases kinds hk with ⟨_, h1⟩ | ⟨j, b0, _, _, _, h1, h2⟩ <;> omega
    · rw [hn']
      rcases kinds hk with ⟨h1, h2⟩ | ⟨i, b0, h1, h2, rfl, rfl, h5⟩
      · obtain ⟨u', h4, h5⟩ := hr.reads k b h1 j u hu
        rw [xr.2 k h2]
        refine ⟨u', ?_, h5.ext xr⟩
        have hlt := World.block_lt_of_cell? w _ h4
        have : w'.heap[(μ k).r]? = w.heap[(μ k).r]? := by
          rw [Array.getElem?_eq_getElem hlt]
          exact keep (Array.getElem?_eq_getElem hlt)
        rw [World.cell?_of_block (w := w) this]
        exact h4
      · obtain ⟨u0, q1, rfl⟩ : ∃ u0, b0.cells[j]? = some u0 ∧ u = ren (sh h.n) u0 := by
          simp only [renB, List.getElem?_map, Option.map_eq_some_iff] at hu
          obtain ⟨u0, q1, q2⟩ := hu
          exact ⟨u0, q1, q2.symm⟩
        obtain ⟨u', q2, q3⟩ := hr'.reads i b0 (hLg h1) j u0 q1
        rw [new i]
        exact ⟨u', q2, q3.put tg⟩
    · rcases kinds hk with ⟨h1, h2⟩ | ⟨i, b0, h1, h2, rfl, rfl, h5⟩
      · rw [xr.2 k h2] at hz; exact hr.ghost k b h1 hz
      · rw [new i] at hz
        simp [renB, hr'.ghost i b0 (hLg h1) hz]
    · rcases kinds hk with ⟨h1, h2⟩ | ⟨i, b0, h1, h2, rfl, rfl, h5⟩
      · rw [xr.2 k h2] at hz ⊢
        obtain ⟨q1, cs, q2, q3⟩ := hr.owns k b h1 ho hz
        exact ⟨q1, cs, keep q2, q3⟩
      · rw [new i] at hz ⊢
        have := hr'.owns i b0 (hLg h1) h2 hz
        simp only [renB, List.length_map]
        exact this
    · rcases kinds hk with ⟨h1, h2⟩ | ⟨i, b0, h1, h2, rfl, rfl, h5⟩
      · rw [xr.2 k h2] at hz ⊢; exact hr.old k b h1 ho hz
      · have : b0.own = false := ho
        rw [h2] at this; cases this
    · rcases kinds hk with ⟨h1, h2⟩ | ⟨i, b0, h1, h2, rfl, rfl, h5⟩
      · rw [xr.2 k h2] at hz ⊢; exact hr.free k b h1 ho hz
      · rw [new i] at hz ⊢
        cases hc0 : w0.c (μ' i).r with
        | none => rfl
        | some o =>
          exfalso
          have h3 : w.heap[(μ' i).r]? = none := hr'.free i b0 (hLg h1) h2 hz
          rw [hr.rest _ o hc0] at h3
          cases h3
    · rcases kinds hk with ⟨h1, h2⟩ | ⟨i, b0, h1, h2, rfl, rfl, h5⟩
      · rw [xr.2 k h2]; exact hr.sz k b h1
      · rw [new i]; exact hr'.sz i b0 (hLg h1)
    · rcases kinds hk with ⟨h1, h2⟩ | ⟨i, b0, h1, h2, rfl, rfl, h5⟩
      · rw [xr.2 k h2]; exact hr.d0 k b h1 ho
      · rw [new i]; exact hr'.d0 i b0 (hLg h1) h2
    · have cross : ∀ {k b i b0}, h.g k = some b → b.own = true → (μ k).n ≠ 0 → L[i]? = some b0 → b0.own = true → (μ' i).n ≠ 0 → (μ k).r ≠ (μ' i).r := fun {k b i b0} q1 q2 zk q4 q5 zi e => by
        obtain ⟨_, cs, q6, _⟩ := hr.owns k b q1 q2 zk
        have q7 : w.heap[(μ' i).r]? = none := hr'.free i b0 (hLg q4) q5 zi
        rw [← e, q6] at q7
        cases q7
      rcases kinds hk with ⟨h1, h2⟩ | ⟨i, b0, h1, h2, rfl, rfl, h5⟩ <;> rcases kinds hl with ⟨h1', h2'⟩ | ⟨i', b0', h1', h2', rfl, rfl, h5'⟩
      · rw [xr.2 k h2] at zk ⊢; rw [xr.2 l h2'] at zl ⊢; exact hr.apart k l b c hkl h1 h1' hb hc0 zk zl
      · rw [xr.2 k h2] at zk ⊢; rw [new i'] at zl ⊢; exact cross h1 hb zk h1' h2' zl
      · rw [xr.2 l h2'] at zl ⊢; rw [new i] at zk ⊢; exact (cross h1' hc0 zl h1 h2 zk).symm
      · rw [new i] at zk ⊢; rw [new i'] at zl ⊢
        exact hr'.apart i i' b0 b0' (fun e => hkl (by rw [e])) (hLg h1) (hLg h1') h2 h2' zk zl
  · have : (addAll h (L.map (renB (sh h.n)))).n = h.n + L.length := by simp [addAll]
    rw [this]
    exact hv.put tg

/-- The rows of a list, to be read only, lie in a heap, under these numbers. -/
def rowsSee (ρ : Nat → Option Nat) (n : Nat) (h : Heap) : List (Option Blk) → List (Option Nat) → Prop
  | [], _ => True
  | none :: L, some k :: R => Nat.blt k h.n = true ∧ rowsSee ρ n h L R
  | none :: L, none :: R => rowsSee ρ n h L R
  | some b :: L, some k :: R => (Nat.blt k h.n = true ∧ b.own = false ∧ b.cells.all (okF n) = true ∧ ∃ o, h.g k = some ⟨b.ty, b.sz, b.cells.map (ren ρ), o⟩) ∧ rowsSee ρ n h L R
  | some b :: L, none :: R => b.cells = [] ∧ b.own = false ∧ rowsSee ρ n h L R
  | _ :: _, [] => False
theorem rowsSee_get : ∀ {L : List (Option Blk)} {R : List (Option Nat)}, rowsSee ρ n h L R → (∀ j b k, L.getD j none = some b → R.getD j none = some k → b.cells.all (okF n) = true ∧ ∃ o, h.g k = some ⟨b.ty, b.sz, b.cells.map (ren ρ), o⟩) ∧ (∀ j b, L.getD j none = some b → R.getD j none = none → b.cells = []) ∧ (∀ j k, j < L.length → R.getD j none = some k → k < h.n) ∧ (∀ j b, L.getD j none = some b → b.own = false)
  | [], R, hh => ⟨fun j b k hj => by simp at hj, fun j b hj => by simp at hj, fun j k hj => by simp at hj, fun j b hj => by simp at hj⟩
  | none :: L, [], hh => hh.elim
  | some _ :: L, [], hh => hh.elim
  | none :: L, none :: R, hh => by
    obtain ⟨h1, h2, h3, h4⟩ := rowsSee_get (L := L) (R := R) hh
    refine ⟨fun j b k hj hk => ?_, fun j b hj hk => ?_, fun j k hj hk => ?_, fun j b hj => ?_⟩ <;> cases j with
    | zero => simp at *
    | succ j => first | exact h1 j b k (by simpa using hj) (by simpa using hk) | exact h2 j b (by simpa using hj) (by simpa using hk) | exact h3 j k (by simpa using hj) (by simpa using hk) | exact h4 j b (by simpa using hj)
  | none :: L, some m :: R, ⟨hm, hh⟩ => by
    rw [Nat.blt_eq] at hm
    obtain ⟨h1, h2, h3, h4⟩ := rowsSee_get (L := L) (R := R) hh
    refine ⟨fun j b k hj hk => ?_, fun j b hj hk => ?_, fun j k hj hk => ?_, fun j b hj => ?_⟩ <;> cases j with
    | zero => first | (simp at hj; done) | (simp at hk; done) | (simp at hk; omega)
    | succ j => first | exact h1 j b k (by simpa using hj) (by simpa using hk) | exact h2 j b (by simpa using hj) (by simpa using hk) | exact h3 j k (by simpa using hj) (by simpa using hk) | exact h4 j b (by simpa using hj)
  | some c :: L, some m :: R, ⟨⟨hm, hm0, hm1, hm2⟩, hh⟩ => by
    rw [Nat.blt_eq] at hm
    obtain ⟨h1, h2, h3, h4⟩ := rowsSee_get (L := L) (R := R) hh
    refine ⟨fun j b k hj hk => ?_, fun j b hj hk => ?_, fun j k hj hk => ?_, fun j b hj => ?_⟩ <;> cases j with
    | zero => first | (simp at hk; done) | (simp at hj hk; subst hj hk; exact ⟨List.all_eq_true.2 fun x hx => List.all_eq_true.1 hm1 x hx, hm2⟩) | (simp at hk; omega) | (simp at hj; subst hj; exact hm0)
    | succ j => first | exact h1 j b k (by simpa using hj) (by simpa using hk) | exact h2 j b (by simpa using hj) (by simpa using hk) | exact h3 j k (by simpa using hj) (by simpa using hk) | exact h4 j b (by simpa using hj)
  | some c :: L, none :: R, ⟨hm, hm0, hh⟩ => by
    obtain ⟨h1, h2, h3, h4⟩ := rowsSee_get (L := L) (R := R) hh
    refine ⟨fun j b k hj hk => ?_, fun j b hj hk => ?_, fun j k hj hk => ?_, fun j b hj => ?_⟩ <;> cases j with
    | zero => first | (simp at hk; done) | (simp at hj; subst hj; exact hm) | (simp at hj; subst hj; exact hm0)
    | succ j => first | exact h1 j b k (by simpa using hj) (by simpa using hk) | exact h2 j b (by simpa using hj) (by simpa using hk) | exact h3 j k (by simpa using hj) (by simpa using hk) | exact h4 j b (by simpa using hj)

/-- A call that reads rows, and hands back plain values: told over these rows alone. -/
theorem ACalls.over {f : Nat} {vs vsc : List Value} {L : List (Option Blk)} (ρl : List (Option Nat)) (hg : rowsSee (fun j => ρl.getD j none) L.length h L ρl) (hok : vsc.all (okT L.length) = true) (hvs : vs = vsc.map (renT fun j => ρl.getD j none))
    (hh : ACalls P f vsc (lit L) fun v _ => ck (cleanT v) (K v h)) : ACalls P f vs h K := by
  obtain ⟨h1, h2, h3, h4⟩ := rowsSee_get hg
  refine ⟨hh.1, fun w0 μ w vs' hr hall => ?_⟩
  subst hvs
  obtain ⟨ρ, hρ⟩ : ∃ ρ : Nat → Option Nat, (fun j => ρl.getD j none) = ρ := ⟨_, rfl⟩
  rw [hρ] at hall h1
  have hρ' : ∀ j, ρl.getD j none = ρ j := fun j => by rw [← hρ]
  have hgl : ∀ {j b}, (Mini.lit L).g j = some b → L.getD j none = some b := fun {j b} hj => by rw [lit_g] at hj; exact hj
  have num : ∀ {i b}, (Mini.lit L).g i = some b → (μ.via ρ (Mini.lit L) i).n ≠ 0 → ∃ k o, ρ i = some k ∧ h.g k = some ⟨b.ty, b.sz, b.cells.map (ren ρ), o⟩ := fun {i b} hi hz => by
    obtain ⟨k, hk⟩ := Mu.via_ne hz
    obtain ⟨_, o, q⟩ := h1 i b k (hgl hi) (by rw [hρ']; exact hk)
    exact ⟨k, o, hk, q⟩
  have hr0 : Rep ⟨w, fun _ => none, hr.gl⟩ (μ.via ρ (Mini.lit L)) (Mini.lit L) w := by
    refine ⟨Below.refl _ _, fin_lit, fun i b hi j v hv => ?_, fun i b hi hz => ?_, fun i b hi ho => ?_, fun i b hi _ hz => ?_, fun k o hk => (by cases hk), fun i b hi ho => ?_, fun i b hi => ?_, fun i b hi ho => ?_, fun i j b c hij hi hj hb => ?_⟩
    · cases hk : ρ i with
      | none => rw [h2 i b (hgl hi) (by rw [hρ']; exact hk)] at hv; cases hv
      | some k =>
        rw [Mu.via_some hk]
        obtain ⟨q1, o, q2⟩ := h1 i b k (hgl hi) (by rw [hρ']; exact hk)
        obtain ⟨v', q4, q5⟩ := hr.reads k _ q2 j (ren ρ v) (by simp [hv])
        exact ⟨v', q4, q5.cmp (List.all_eq_true.1 q1 v (List.mem_of_getElem? hv))⟩
    · cases hk : ρ i with
      | none => exact h2 i b (hgl hi) (by rw [hρ']; exact hk)
      | some k =>
        rw [Mu.via_some hk] at hz
        obtain ⟨_, o, q2⟩ := h1 i b k (hgl hi) (by rw [hρ']; exact hk)
        simpa using hr.ghost k _ q2 hz
    · rw [h4 i b (hgl hi)] at ho; cases ho
    · left
      obtain ⟨k, o, hk, q2⟩ := num hi hz
      rw [Mu.via_some hk] at hz ⊢
      show (μ k).r < w.heap.size
      cases o with
      | true => exact hr.blk_lt q2 rfl hz
      | false =>
        rcases hr.old k _ q2 rfl hz with h | h
        · have := hr.below.size; omega
        · obtain ⟨o, ho⟩ := Option.ne_none_iff_exists'.1 h
          exact (Array.getElem?_eq_some_iff.1 (hr.rest _ o ho)).1
    · rw [h4 i b (hgl hi)] at ho; cases ho
    · cases hk : ρ i with
      | none => rw [Mu.via_none hk]; simp [szAt, hi]
      | some k =>
        rw [Mu.via_some hk]
        obtain ⟨_, o, q2⟩ := h1 i b k (hgl hi) (by rw [hρ']; exact hk)
        have := hr.sz k _ q2
        exact this
    · rw [h4 i b (hgl hi)] at ho; cases ho
    · rw [h4 i b (hgl hi)] at hb; cases hb
  have hallc : All2 (VR (μ.via ρ (Mini.lit L)) (Mini.lit L).n) vsc vs' := (All2.of_map hall).mono_mem fun a ha b hb => VR.cmp (List.all_eq_true.1 hok a ha) hb
  refine (hh.2 _ _ w vs' hr0 hallc).mono ?_
  rintro e w' ⟨v, v', h', μ', rfl, _, hr', hv, hcK⟩
  obtain ⟨hcl, hK⟩ := ck_iff.1 hcK
  refine ⟨v, v', h, μ, rfl, Ext.refl _ _, hr.on hr'.below, ?_, hK⟩
  rw [hv.same_clean hcl]
  exact VR.of_cleanT hcl
end
end Go.Mini
