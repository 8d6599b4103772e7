/- A strings.Builder in a field of a block that the call made: what its methods do. No condition but sizes. -/
import Derived.Test.YtgbnbjajaaggkaaHoldQuiet
import Derived.Test.YtgbnbjajaaggkaaShelf
import Derived.Lib.FrozenHead2
import Derived.Lib.RuneBytes
import Derived.WalkKit
import Derived.KernelRfl
import Derived.Outline
import Derived.RegionTactic
import Derived.Lib.Hide
namespace Go.Proofs.Ytgbnbjajaaggkaa
open Go Go.RowKit Go.Proofs
set_option linter.unusedVariables false
set_option linter.unusedSimpArgs false

theorem Holds.grown {w0 w w' : World} {L : List (Nat × List Value × TypeId)} (H : Holds w0 L w) {row : Option Nat} (hg : w.grownBy w' row) (hr : ∀ x ∈ L, row ≠ some x.1) (hb : ∀ k, row = some k → w0.heap.size ≤ k) : Holds w0 L w' := by
  refine ⟨H.below.grown hg H.below.size hb, fun x hx => ⟨(H.blk x hx).1, ?_⟩, H.apart⟩
  rw [hg.block x.1 (H.lt (b := x.1) (cs := x.2.1) (T := x.2.2) hx) (fun e => hr x hx e.symm)]
  exact (H.blk x hx).2

/-- A builder at cell k of block b, whose other cells are pre, post; it holds the bytes l. -/
structure Bld (w0 : World) (L : List (Nat × List Value × TypeId)) (b k : Nat) (T : TypeId) (pre post : List Value) (l : List UInt8) (w : World) : Prop where
  ex : ∃ p buf, Holds w0 ((b, pre ++ p :: buf :: post, T) :: L) w ∧ (p = .pointer none ∨ p = .pointer (some ⟨b, k, none⟩)) ∧ w.ownsRowF w0.heap.size 5 1 buf l.length (Lib.byteCells l) 
  ty : T ≠ 5 ∧ ∀ x ∈ L, x.2.2 ≠ 5

theorem Bld.below {w0 w : World} {L : List (Nat × List Value × TypeId)} {b k : Nat} {T : TypeId} {pre post : List Value} {l : List UInt8} (h : Bld w0 L b k T pre post l w) : Below w0.heap.size w0 w := by
  obtain ⟨p, buf, H, _⟩ := h.ex
  exact H.below

theorem rowF_on {w w' : World} {base : Nat} {e : TypeId} {v : Value} {n : Nat} {xs : List Value} (h : w.ownsRowF base e 1 v n xs) (hb : Below w.heap.size w w') : w'.ownsRowF base e 1 v n xs := by
  refine ⟨h.1, ?_⟩
  rcases h.2 with hn | ⟨g, cap, cur, fz, rfl, hbs, hgg, rest⟩
  · exact .inl hn
  · refine .inr ⟨g, cap, cur, fz, rfl, hbs, ?_, rest⟩
    rw [hb.block g (Array.getElem?_eq_some_iff.1 hgg).1]
    exact hgg

/-- Behind what changes nothing that stood there. -/
theorem Bld.on {w0 w w' : World} {L : List (Nat × List Value × TypeId)} {b k : Nat} {T : TypeId} {pre post : List Value} {l : List UInt8} (h : Bld w0 L b k T pre post l w) (hb : Below w.heap.size w w') : Bld w0 L b k T pre post l w' := by
  obtain ⟨p, buf, H, hp, ho⟩ := h.ex
  exact ⟨⟨p, buf, H.on hb, hp, rowF_on ho hb⟩, h.ty⟩

theorem own_ne {w0 w : World} {L : List (Nat × List Value × TypeId)} (H : Holds w0 L w) {v : Value} {n : Nat} {xs : List Value} (ho : w.ownsRowF w0.heap.size 5 1 v n xs) (ty : ∀ x ∈ L, x.2.2 ≠ 5) : ∀ x ∈ L, v.ownBlock ≠ some x.1 :=
  fun x hx => Lib.ownBlock_neF ho (H.blk x hx).2 (ty x hx)

theorem Holds.setCell {w0 w : World} {A B : List (Nat × List Value × TypeId)} {b : Nat} {cs : List Value} {T : TypeId} (H : Holds w0 (A ++ (b, cs, T) :: B) w) (i : Nat) (v : Value) (cs' : List Value) (hc : cs.set i v = cs') : Holds w0 (A ++ (b, cs', T) :: B) (w.setCell ⟨b, i, none⟩ v) := by
  have hb := H.blk (b, cs, T) (by simp)
  have hp := H.apart
  rw [List.pairwise_append] at hp
  obtain ⟨hA, hB, hAB⟩ := hp
  rw [List.pairwise_cons] at hB
  refine ⟨H.below.setCell (p := ⟨b, i, none⟩) hb.1 _, fun x hx => ?_, ?_⟩
  · have hne : ∀ x, x ∈ A ∨ x ∈ B → x.1 ≠ b := fun x hx => by
      rcases hx with hx | hx
      · exact hAB x hx _ (List.mem_cons_self ..)
      · exact (hB.1 x hx).symm
    rcases List.mem_append.1 hx with hx | hx
    · exact ⟨(H.blk x (by simp [hx])).1, by rw [Below.heap_setCell w ⟨b, i, none⟩ v x.1 (hne x (.inl hx))]; exact (H.blk x (by simp [hx])).2⟩
    · rcases List.mem_cons.1 hx with rfl | hx
      · refine ⟨hb.1, ?_⟩
        have h2 := hb.2
        subst hc
        simp only at h2
        simp [World.setCell, Array.getElem?_modify, h2]
      · exact ⟨(H.blk x (by simp [hx])).1, by rw [Below.heap_setCell w ⟨b, i, none⟩ v x.1 (hne x (.inr hx))]; exact (H.blk x (by simp [hx])).2⟩
  · rw [List.pairwise_append]
    refine ⟨hA, List.pairwise_cons.2 ⟨fun x hx => hB.1 x hx, hB.2⟩, fun x hx y hy => ?_⟩
    rcases List.mem_cons.1 hy with rfl | hy
    · exact hAB x hx (b, cs, T) (List.mem_cons_self ..)
    · exact hAB x hx y (List.mem_cons_of_mem _ hy)
theorem grown_setCell (w : World) (b i : Nat) (v : Value) : w.grownBy (w.setCell ⟨b, i, none⟩ v) (some b) :=
  ⟨rfl, rfl, rfl, by simp [World.setCell], fun k _ hk => Below.heap_setCell _ _ _ _ (fun e => hk (by simp [e]))⟩

theorem shape_of {w0 w : World} {L : List (Nat × List Value × TypeId)} (H : Holds w0 L w) {b : Nat} {cs : List Value} {T : TypeId} (hm : (b, cs, T) ∈ L) : w.shape? b = some (T, cs.length) := by
  have := (H.blk _ hm).2
  simp [World.shape?, this]
theorem frozen_of {w0 w : World} {L : List (Nat × List Value × TypeId)} (H : Holds w0 L w) {b : Nat} {cs : List Value} {T : TypeId} (hm : (b, cs, T) ∈ L) (i : Nat) : w.frozen? ⟨b, i, none⟩ = false := by
  have := (H.blk _ hm).2
  simp [World.frozen?, this]

set_option maxHeartbeats 1000000 in
theorem copyCheck_used (b k : Nat) (w : World) (h0 : w.cell? ⟨b, k, none⟩ = some (.pointer (some ⟨b, k, none⟩))) :
    Calls Try.prog 45 #[.pointer (some ⟨b, k, none⟩)] w fun e w' => e = .returned (.tuple #[]) ∧ w' = w := by
  obtain ⟨j, hj, _⟩ := Option.map_eq_some_iff.1 (show (Try.prog.info? 51).map (·.size) = some 2 from by kernel_rfl)
  go_enter Try.func45, Try.ntmps45
  go_wp2
  rw [Lib.run_neq_ptr_same w _ Try.underlying49 hj]
  go_wp2
  go_end0
  exact ⟨rfl, rfl⟩

set_option maxHeartbeats 1000000 in
theorem copyCheck_fresh (b k n : Nat) (T : TypeId) (w : World) (h0 : w.cell? ⟨b, k, none⟩ = some (.pointer none)) (hsh : w.shape? b = some (T, n)) (hfz : w.frozen? ⟨b, k, none⟩ = false) (hk : k < n) (hlies : liesAt Try.prog Try.prog.depth T (n / Try.prog.cellsOf T) k 51 1 = true) :
    Calls Try.prog 45 #[.pointer (some ⟨b, k, none⟩)] w fun e w' => e = .returned (.tuple #[]) ∧ w' = w.setCell ⟨b, k, none⟩ (.pointer (some ⟨b, k, none⟩)) := by
  obtain ⟨j, hj, hjs⟩ := Option.map_eq_some_iff.1 (show (Try.prog.info? 51).map (·.size) = some 2 from by kernel_rfl)
  go_enter Try.func45, Try.ntmps45
  go_wp2
  rw [Lib.run_to_unsafe w ⟨b, k, none⟩ Try.underlying49 Try.underlying88 hj (by rw [hjs]; decide) hsh hk]
  simp only [Result.andThen]
  rw [Oper.upon_value]
  go_wp2
  rw [run_callFunc_extern Try.func57 (by kernel_rfl) (by kernel_rfl) (by kernel_rfl) (e := Extern.AbiNoEscape.same) (by kernel_rfl)]
  rw [Lib.run_noEscape]
  simp only [Result.andThen]
  rw [Oper.upon_value]
  go_wp2
  rw [Lib.run_from_unsafe w ⟨b, k, none⟩ Try.underlying88 Try.underlying49 hj hsh hlies]
  simp only [Result.andThen]
  rw [Oper.upon_value]
  go_wp2
  go_end0
  exact ⟨rfl, rfl⟩

section
variable {w0 w : World} {L : List (Nat × List Value × TypeId)} {b k : Nat} {T : TypeId} {pre post : List Value} {l : List UInt8}
theorem bl_at {p buf : Value} (hk : pre.length = k) : (pre ++ p :: buf :: post)[k]? = some p := by subst hk; simp
theorem bl_at1 {p buf : Value} (hk : pre.length = k) : (pre ++ p :: buf :: post)[k + 1]? = some buf := by subst hk; simp [List.getElem?_append_right]
theorem bl_set {p buf q : Value} (hk : pre.length = k) : (pre ++ p :: buf :: post).set k q = pre ++ q :: buf :: post := by subst hk; simp
theorem bl_set1 {p buf q : Value} (hk : pre.length = k) : (pre ++ p :: buf :: post).set (k + 1) q = pre ++ p :: q :: post := by subst hk; simp

theorem bl_put {p buf q : Value} (hk : pre.length = k) : (pre ++ p :: buf :: post).take (k + 1) ++ [q] ++ (pre ++ p :: buf :: post).drop (k + 1 + [q].length) = pre ++ p :: q :: post := by
  subst hk
  have e : pre ++ p :: buf :: post = (pre ++ [p]) ++ (buf :: post) := by simp
  have e2 : pre ++ p :: buf :: post = (pre ++ [p, buf]) ++ post := by simp
  have h1 : (pre ++ p :: buf :: post).take (pre.length + 1) = pre ++ [p] := by rw [e, List.take_left' (by simp)]
  have h2 : (pre ++ p :: buf :: post).drop (pre.length + 1 + [q].length) = post := by rw [e2, List.drop_left' (by simp)]
  rw [h1, h2]
  simp
theorem bl_len {p buf q : Value} (hk : pre.length = k) : k + 1 + [q].length ≤ (pre ++ p :: buf :: post).length := by simp; omega

/-- What copyCheck leaves. -/
theorem Bld.check (h : Bld w0 L b k T pre post l w) (hk : pre.length = k) (hlies : liesAt Try.prog Try.prog.depth T ((pre.length + 2 + post.length) / Try.prog.cellsOf T) k 51 1 = true) :
    Calls Try.prog 45 #[.pointer (some ⟨b, k, none⟩)] w fun e w' => e = .returned (.tuple #[]) ∧ ∃ buf, Holds w0 ((b, pre ++ .pointer (some ⟨b, k, none⟩) :: buf :: post, T) :: L) w' ∧ w'.ownsRowF w0.heap.size 5 1 buf l.length (Lib.byteCells l) := by
  obtain ⟨p, buf, H, hp, ho⟩ := h.ex
  have hc := (H.cell (.head _) k).trans (bl_at hk)
  rcases hp with rfl | rfl
  · refine (copyCheck_fresh b k (pre ++ .pointer none :: buf :: post).length T w hc (shape_of H (.head _)) (frozen_of H (.head _) k) (by simp; omega) (by rw [show (pre ++ Value.pointer none :: buf :: post).length = pre.length + 2 + post.length from by simp; omega]; exact hlies)).mono ?_
    rintro e w' ⟨rfl, rfl⟩
    have hne := own_ne H ho (fun x hx => by rcases List.mem_cons.1 hx with rfl | hx; exact h.ty.1; exact h.ty.2 x hx)
    exact ⟨rfl, buf, H.setCell (A := []) k _ _ (bl_set hk), ho.kept (grown_setCell w b k _) (.inr (hne _ (.head _)))⟩
  · refine (copyCheck_used b k w hc).mono ?_
    rintro e w' ⟨rfl, rfl⟩
    exact ⟨rfl, buf, H, ho⟩

set_option maxHeartbeats 2000000 in
set_option maxRecDepth 100000 in
theorem Bld.writeString (h : Bld w0 L b k T pre post l w) (hk : pre.length = k) (hlies : liesAt Try.prog Try.prog.depth T ((pre.length + 2 + post.length) / Try.prog.cellsOf T) k 51 1 = true) (s : ByteArray) (hlen : l.length + s.size ≤ 140737488355328) :
    Calls Try.prog 33 #[.pointer (some ⟨b, k, none⟩), .string s] w fun e w' => e = .returned (.tuple #[.int .i64 s.size, .nilIface]) ∧ Bld w0 L b k T pre post (l ++ s.data.toList) w' := by
  obtain ⟨i0, hi, hz0, hz1, hz2⟩ := info_parts (show (Try.prog.info? 5).map (fun i => (i.zero, i.size, i.bytes)) = some (some (.int .u8 0), 1, 1) from by kernel_rfl)
  have hck := Bld.check h hk hlies
  have ty := h.ty
  clear h
  go_enter Try.func33, Try.ntmps33
  go_wp2_with fail
  refine hck.mono ?_
  rintro e w1 ⟨rfl, buf, H, ho⟩
  have hsz := H.below.size
  go_wp2_with (first | (((with_reducible refine at_load 22 ?_)); refine wpList_load_H rfl 22 _ rfl (Try.isAgg22) b (k + 1) rfl H (.head _) buf (bl_at1 hk) ?_) | (at_builtin; refine Lib.wpList_append_own_stringF _ rfl _ _ 22 9 rfl w0.heap.size 5 i0 Try.underlying22 Try.underlying9 hi hz0 hz1 hz2 _ _ _ rfl ho s rfl ?c3 ?c4 ?c5 ?_))
  case c3 => unfold maxLen; omega
  case c4 => omega
  case c5 => omega
  intro v' w2 ho2 hgrow _
  have hty : ∀ x ∈ (b, pre ++ .pointer (some ⟨b, k, none⟩) :: buf :: post, T) :: L, x.2.2 ≠ 5 := fun x hx => by rcases List.mem_cons.1 hx with rfl | hx; exact ty.1; exact ty.2 x hx
  have hne := own_ne H ho hty
  have H2 := H.grown hgrow (fun x hx => hne x hx) (fun j hj => (ho.lt j hj).1)
  have hne2 := own_ne H2 ho2 hty
  obtain ⟨ao, n', cap, rfl⟩ : ∃ ao n' cap, v' = .slice ao n' cap := by
    rcases ho2.2 with ⟨hv, _⟩ | ⟨g, cap, cur, fz, hv, _⟩
    · exact ⟨_, _, _, hv⟩
    · exact ⟨_, _, _, hv⟩
  go_wp2_with (((with_reducible refine at_store 22 ?_)); refine wpList_store_H rfl 22 _ _ rfl b (k + 1) rfl [.slice ao n' cap] rfl (Try.sizeOf22) rfl (A := []) H2 (bl_len hk) _ (bl_put hk) ?_; intro w3 H3 hg3)
  go_ret2
  refine ⟨rfl, ⟨_, _, H3, .inr rfl, ?_⟩, ty⟩
  have := ho2.kept hg3 (.inr (hne2 _ (.head _)))
  rw [Lib.byteCells_append, ← Lib.strCells_eq, List.length_append, Array.length_toList]
  exact this

set_option maxHeartbeats 2000000 in
set_option maxRecDepth 100000 in
theorem Bld.writeByte (h : Bld w0 L b k T pre post l w) (hk : pre.length = k) (hlies : liesAt Try.prog Try.prog.depth T ((pre.length + 2 + post.length) / Try.prog.cellsOf T) k 51 1 = true) (c : UInt8) (hlen : l.length + 1 ≤ 140737488355328) :
    Calls Try.prog 35 #[.pointer (some ⟨b, k, none⟩), .int .u8 (c.toNat : Int)] w fun e w' => e = .returned .nilIface ∧ Bld w0 L b k T pre post (l ++ [c]) w' := by
  obtain ⟨i0, hi, hz0, hz1, hz2⟩ := info_parts (show (Try.prog.info? 5).map (fun i => (i.zero, i.size, i.bytes)) = some (some (.int .u8 0), 1, 1) from by kernel_rfl)
  have hck := Bld.check h hk hlies
  have ty := h.ty
  clear h
  go_enter Try.func35, Try.ntmps35
  go_wp2_with fail
  refine hck.mono ?_
  rintro e w1 ⟨rfl, buf, H, ho⟩
  have hsz := H.below.size
  go_wp2_with (first | (((with_reducible refine at_load 22 ?_)); refine wpList_load_H rfl 22 _ rfl (Try.isAgg22) b (k + 1) rfl H (.head _) buf (bl_at1 hk) ?_) | (at_builtin; refine wpList_append_ownF _ rfl _ _ 22 rfl w0.heap.size 5 i0 (.int .u8 0) 1 1 Try.underlying22 hi hz0 hz1 hz2 rfl (by decide) _ _ _ rfl (ho.alloc _) ⟨w1.heap.size, 0, none⟩ 1 1 [.int .u8 (c.toNat : Int)] rfl rfl ?c1 ?c2 ?c3 ?c4 ?c5 ?_))
  case c1 =>
    intro j u hj
    match j, hj with
    | 0, hj => simp at hj; subst hj; simp [Addr.add]
  case c2 => intro u hu; simp at hu; subst hu; rfl
  case c3 => unfold maxLen; omega
  case c4 => omega
  case c5 => simp; omega
  intro v' w2 ho2 hgrow _
  have hty : ∀ x ∈ (b, pre ++ .pointer (some ⟨b, k, none⟩) :: buf :: post, T) :: L, x.2.2 ≠ 5 := fun x hx => by rcases List.mem_cons.1 hx with rfl | hx; exact ty.1; exact ty.2 x hx
  have hne := own_ne H ho hty
  have H2 := (H.on ((Below.refl _ w1).alloc (Nat.le_refl _) _)).grown hgrow (fun x hx => hne x hx) (fun j hj => (ho.lt j hj).1)
  have ho2' : w2.ownsRowF w0.heap.size 5 1 v' (l ++ [c]).length (Lib.byteCells (l ++ [c])) := by
    rw [Lib.byteCells_append, List.length_append]
    exact ho2
  clear ho2
  have hne2 := own_ne H2 ho2' hty
  obtain ⟨ao, n', cap, rfl⟩ : ∃ ao n' cap, v' = .slice ao n' cap := by
    rcases ho2'.2 with ⟨hv, _⟩ | ⟨g, cap, cur, fz, hv, _⟩
    · exact ⟨_, _, _, hv⟩
    · exact ⟨_, _, _, hv⟩
  go_wp2_with (((with_reducible refine at_store 22 ?_)); refine wpList_store_H rfl 22 _ _ rfl b (k + 1) rfl [.slice ao n' cap] rfl (Try.sizeOf22) rfl (A := []) H2 (bl_len hk) _ (bl_put hk) ?_; intro w3 H3 hg3)
  go_ret
  exact ⟨rfl, ⟨_, _, H3, .inr rfl, ho2'.kept hg3 (.inr (hne2 _ (.head _)))⟩, ty⟩

set_option maxHeartbeats 4000000 in
set_option maxRecDepth 100000 in
theorem Bld.writeRune (h : Bld w0 L b k T pre post l w) (hk : pre.length = k) (hlies : liesAt Try.prog Try.prog.depth T ((pre.length + 2 + post.length) / Try.prog.cellsOf T) k 51 1 = true) (r : Int) (hr0 : -2147483648 ≤ r) (hr1 : r ≤ 2147483647) (hlen : l.length + 4 ≤ 140737488355328) :
    Calls Try.prog 48 #[.pointer (some ⟨b, k, none⟩), .int .i32 r] w fun e w' => (∃ m : Int, e = .returned (.tuple #[.int .i64 m, .nilIface])) ∧ Bld w0 L b k T pre post (l ++ Lib.encodeRune r) w' := by
  have hck := Bld.check h hk hlies
  have ty := h.ty
  have hk4 := Lib.runeCells_le r
  clear h
  go_enter Try.func48, Try.ntmps48
  go_wp2_with fail
  refine hck.mono ?_
  rintro e w1 ⟨rfl, buf, H, ho⟩
  have hsz := H.below.size
  obtain ⟨ao, cap, rfl⟩ : ∃ ao cap, buf = .slice ao l.length cap := by
    rcases ho.2 with ⟨hv, h0⟩ | ⟨g, cap, cur, fz, hv, _⟩
    · exact ⟨none, 0, by rw [hv, h0]⟩
    · exact ⟨_, _, hv⟩
  go_wp2_with (((with_reducible refine at_load 22 ?_)); refine wpList_load_H rfl 22 _ rfl (Try.isAgg22) b (k + 1) rfl H (.head _) _ (bl_at1 hk) ?_)
  refine (Try.utf8_AppendRune_row w0.heap.size _ l.length _ r hr0 hr1 _ ho hlen hsz).mono ?_
  rintro e w2 ⟨v', rfl, ho2, o, hgrow⟩
  have hty : ∀ x ∈ (b, pre ++ .pointer (some ⟨b, k, none⟩) :: .slice ao l.length cap :: post, T) :: L, x.2.2 ≠ 5 := fun x hx => by rcases List.mem_cons.1 hx with rfl | hx; exact ty.1; exact ty.2 x hx
  have hne := own_ne H ho hty
  have H2 := (H.on ((Below.refl _ w1).alloc (Nat.le_refl _) o)).grown hgrow (fun x hx => hne x hx) (fun j hj => (ho.lt j hj).1)
  have hcl : (Lib.runeCells r).length = (Lib.encodeRune r).length := Lib.runeCells_length r
  have ho2' : w2.ownsRowF w0.heap.size 5 1 v' (l ++ Lib.encodeRune r).length (Lib.byteCells (l ++ Lib.encodeRune r)) := by
    rw [Lib.byteCells_append, List.length_append, Lib.byteCells_encodeRune, ← hcl]
    exact ho2
  clear ho2
  have hne2 := own_ne H2 ho2' hty
  obtain ⟨ao', cap', rfl⟩ : ∃ ao' cap', v' = .slice ao' (l ++ Lib.encodeRune r).length cap' := by
    rcases ho2'.2 with ⟨hv, h0⟩ | ⟨g, cap, cur, fz, hv, _⟩
    · exact ⟨none, 0, by rw [hv, h0]⟩
    · exact ⟨_, _, hv⟩
  obtain ⟨n2, hn2⟩ : ∃ n2, (l ++ Lib.encodeRune r).length = n2 := ⟨_, rfl⟩
  rw [hn2] at ho2' hne2 ⊢
  have Hn2 := Lib.hid hn2
  clear hn2
  go_wp2_with (first | (((with_reducible refine at_store 22 ?_)); refine wpList_store_H rfl 22 _ _ rfl b (k + 1) rfl [.slice ao' n2 cap'] rfl (Try.sizeOf22) rfl (A := []) H2 (bl_len hk) _ (bl_put hk) ?_; intro w3 H3 hg3; have hfin := ho2'.kept hg3 (.inr (hne2 _ (.head _))); clear H H2) | (((with_reducible refine at_load 22 ?_)); refine wpList_load_H rfl 22 _ rfl (Try.isAgg22) b (k + 1) rfl H3 (.head _) _ (bl_at1 hk) ?_))
  go_ret2
  exact ⟨⟨_, rfl⟩, ⟨_, _, H3, .inr rfl, by rw [Hn2.out]; exact hfin⟩, ty⟩

set_option maxHeartbeats 2000000 in
set_option maxRecDepth 100000 in
theorem Bld.string_some (h : Bld w0 L b k T pre post l w) (hk : pre.length = k) (h0 : l ≠ []) :
    Calls Try.prog 23 #[.pointer (some ⟨b, k, none⟩)] w fun e w' => e = .returned (.string ⟨l.toArray⟩) ∧ Below w0.heap.size w0 w' := by
  obtain ⟨p, buf, H, hp, ho⟩ := h.ex
  have hl0 : l.length ≠ 0 := by simpa using h0
  obtain ⟨g, cap, cur, fz, rfl, hbg, hg, hfz, hnc, hcm, hcs, htake⟩ : ∃ g cap cur fz, buf = .slice (some ⟨g, 0, none⟩) l.length cap ∧ w0.heap.size ≤ g ∧ w.heap[g]? = some (.cells cur 5 fz) ∧ fz.2 ≤ l.length * 1 ∧ l.length ≤ cap ∧ cap ≤ maxLen ∧ cur.size = cap * 1 ∧ cur.toList.take (l.length * 1) = Lib.byteCells l := by
    rcases ho.2 with ⟨_, hz⟩ | ⟨g, cap, cur, fz, hv, r⟩
    · exact absurd hz hl0
    · exact ⟨g, cap, cur, fz, hv, r⟩
  have c1 : w.drew.cell? ⟨b, k + 1, none⟩ = some (.slice (some ⟨g, 0, none⟩) l.length cap) := (H.cell (.head _) (k + 1)).trans (bl_at1 hk)
  have hSD : (Builtin.unsafeSliceData_ #[22] 69 #[.slice (some ⟨g, 0, none⟩) l.length cap]).run Try.prog w.drew = .ok (.pointer (some ⟨g, 0, none⟩)) w.drew :=
    Lib.run_unsafeSliceData_row _ _ _ _ _ _ (by omega)
  have hUS : (Builtin.unsafeString_ #[69, 3] 9 #[.pointer (some ⟨g, 0, none⟩), .int .i64 l.length]).run Try.prog w.drew = .ok (.string ⟨l.toArray⟩) (w.drew.freeze ⟨g, 0, none⟩ l.length) := by
    refine Lib.run_unsafeString_row w.drew 69 3 9 5 Try.underlying69 (by kernel_rfl) g cur.size (by have hg' : w.drew.heap[g]? = some (.cells cur 5 fz) := hg; simp [World.shape?, hg']) l h0 (by omega) (by unfold maxLen at hcm; omega) ?_
    intro j x hx
    have := ho.cells (g := g) rfl j (.int .u8 x.toNat) (by simp [Lib.byteCells, hx])
    exact this
  have hB : Below w0.heap.size w0 (w.drew.freeze ⟨g, 0, none⟩ l.length) := Lib.below_freeze (H.below.drew) (p := ⟨g, 0, none⟩) hbg _
  clear ho hfz hnc hcm hcs htake hg h
  clear H hp
  go_enter Try.func23, Try.ntmps23
  go_wp2
  go_region
  all_goals (go_wp2; go_ret; exact ⟨rfl, hB⟩)

set_option maxHeartbeats 2000000 in
set_option maxRecDepth 100000 in
theorem Bld.string_none (h : Bld w0 L b k T pre post [] w) (hk : pre.length = k) :
    Calls Try.prog 23 #[.pointer (some ⟨b, k, none⟩)] w fun e w' => e = .returned (.string ⟨#[]⟩) ∧ Below w0.heap.size w0 w' := by
  obtain ⟨p, buf, H, hp, ho⟩ := h.ex
  have hUS : ∀ (W : World) (q : Option Addr), (Builtin.unsafeString_ #[69, 3] 9 #[.pointer q, .int .i64 0]).run Try.prog W = .ok (.string .empty) W := fun W q => Lib.run_unsafeString_none W _ _ _ q
  have hlt := H.lt (.head _)
  have hsz := H.below.size
  rcases ho.2 with ⟨rfl, _⟩ | ⟨g, cap, cur, fz, rfl, hbg, hg, _⟩
  · have c1 : w.drew.cell? ⟨b, k + 1, none⟩ = some (.slice none 0 0) := (H.cell (.head _) (k + 1)).trans (bl_at1 hk)
    have hSD : (Builtin.unsafeSliceData_ #[22] 69 #[.slice none 0 0]).run Try.prog w.drew = .ok (.pointer none) w.drew := rfl
    have hB := H.below.drew
    clear ho h H hp
    go_enter Try.func23, Try.ntmps23
    go_wp2
    go_region
    all_goals (go_wp2; go_ret; exact ⟨rfl, hB⟩)
  · by_cases hc0 : cap = 0
    · subst hc0
      have c1 : w.drew.cell? ⟨b, k + 1, none⟩ = some (.slice (some ⟨g, 0, none⟩) 0 0) := (H.cell (.head _) (k + 1)).trans (bl_at1 hk)
      have hSD : (Builtin.unsafeSliceData_ #[22] 69 #[.slice (some ⟨g, 0, none⟩) 0 0]).run Try.prog w.drew = .ok (.pointer (some ⟨w.drew.heap.size, 0, none⟩)) (w.drew.alloc (.view ⟨g, 0, none⟩ 5)) :=
        Lib.run_unsafeSliceData_zero w.drew _ _ 5 Try.underlying69 ⟨g, 0, none⟩ 0 (5, cur.size) (by have hg' : w.drew.heap[g]? = some (.cells cur 5 fz) := hg; simp [World.shape?, hg'])
      have c2 : (w.drew.alloc (.view ⟨g, 0, none⟩ 5)).cell? ⟨b, k + 1, none⟩ = some (.slice (some ⟨g, 0, none⟩) 0 0) := ((H.drewN 1).on ((Below.refl _ w.drew).alloc (Nat.le_refl _) _)).cell (.head _) (k + 1) |>.trans (bl_at1 hk)
      have c3 : (w.alloc (.view ⟨g, 0, none⟩ 5)).drew.cell? ⟨b, k + 1, none⟩ = some (.slice (some ⟨g, 0, none⟩) 0 0) := c2
      have c0 : w.cell? ⟨b, k + 1, none⟩ = some (.slice (some ⟨g, 0, none⟩) 0 0) := c1
      have hB : Below w0.heap.size w0 (w.alloc (.view ⟨g, 0, none⟩ 5)).drew := (H.below.alloc hsz _).drew
      clear ho h H hp hg
      go_enter Try.func23, Try.ntmps23
      go_wp2
      go_region
      all_goals (go_wp2; go_ret; exact ⟨rfl, hB⟩)
    · have c1 : w.drew.cell? ⟨b, k + 1, none⟩ = some (.slice (some ⟨g, 0, none⟩) 0 cap) := (H.cell (.head _) (k + 1)).trans (bl_at1 hk)
      have hSD : (Builtin.unsafeSliceData_ #[22] 69 #[.slice (some ⟨g, 0, none⟩) 0 cap]).run Try.prog w.drew = .ok (.pointer (some ⟨g, 0, none⟩)) w.drew :=
        Lib.run_unsafeSliceData_row _ _ _ _ _ _ hc0
      have hB := H.below.drew
      clear hc0 ho h H hp hg
      go_enter Try.func23, Try.ntmps23
      go_wp2
      go_region
      all_goals (go_wp2; go_ret; exact ⟨rfl, hB⟩)

theorem Bld.string (h : Bld w0 L b k T pre post l w) (hk : pre.length = k) :
    Calls Try.prog 23 #[.pointer (some ⟨b, k, none⟩)] w fun e w' => e = .returned (.string ⟨l.toArray⟩) ∧ Below w0.heap.size w0 w' := by
  cases l with
  | nil => exact Bld.string_none h hk
  | cons c l => exact Bld.string_some h hk (by simp)
end
end Go.Proofs.Ytgbnbjajaaggkaa
