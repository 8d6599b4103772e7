/- Regions that draw their order, that read a held block and hold a call that keeps a class of worlds: the class 'Keeps'. -/
import Derived.Test.YtgbnbjajaaggkaaBld
import Derived.Test.YtgbnbjajaaggkaaQuietB
namespace Go.Proofs.Ytgbnbjajaaggkaa
open Go Go.RowKit Go.Proofs
set_option linter.unusedVariables false
set_option linter.unusedSimpArgs false

structure Keeps (w0 : World) (L : List (Nat × List Value × TypeId)) (b : Nat) (T : TypeId) (pre post : List Value) (p buf : Value) (l : List UInt8) (w : World) : Prop where
  H : Holds w0 ((b, pre ++ p :: buf :: post, T) :: L) w
  ho : w.ownsRowF w0.heap.size 5 1 buf l.length (Lib.byteCells l)

theorem grown_freeze (w : World) (g n : Nat) : w.grownBy (w.freeze ⟨g, 0, none⟩ n) (some g) := by
  unfold World.freeze
  split
  · exact ⟨rfl, rfl, rfl, Nat.le_refl _, fun _ _ _ => rfl⟩
  · refine ⟨rfl, rfl, rfl, by simp, fun k _ hk => ?_⟩
    have hne : g ≠ k := fun e => hk (by simp [e])
    simp only [Array.getElem?_modify]
    rw [if_neg hne]

theorem own_freeze {w : World} {base : Nat} {e : TypeId} {g n cap : Nat} {xs : List Value} (h : w.ownsRowF base e 1 (.slice (some ⟨g, 0, none⟩) n cap) n xs) : (w.freeze ⟨g, 0, none⟩ n).ownsRowF base e 1 (.slice (some ⟨g, 0, none⟩) n cap) n xs := by
  refine ⟨h.1, ?_⟩
  rcases h.2 with hn | ⟨g', cap', cur, fz, hv, hb, hg, hfz, r⟩
  · exact absurd hn.1 (by simp)
  · obtain ⟨rfl, rfl⟩ : g = g' ∧ cap = cap' := by simpa using hv
    unfold World.freeze
    split
    · exact .inr ⟨g, cap, cur, fz, rfl, hb, hg, hfz, r⟩
    · refine .inr ⟨g, cap, cur, (if fz.1 == fz.2 then (0, 0 + n) else (min fz.1 0, max fz.2 (0 + n))), rfl, hb, ?_, ?_, r⟩
      · simp [Array.getElem?_modify, hg]
      · split
        · simp
        · simp only
          omega

section
variable {w0 w : World} {L : List (Nat × List Value × TypeId)} {b k : Nat} {T : TypeId} {pre post : List Value} {l : List UInt8}
set_option maxHeartbeats 2000000 in
set_option maxRecDepth 100000 in
theorem Bld.keep_some {p buf : Value} (hK : Keeps w0 L b T pre post p buf l w) (ty : T ≠ 5 ∧ ∀ x ∈ L, x.2.2 ≠ 5) (hk : pre.length = k) (h0 : l ≠ []) :
    Calls Try.prog 23 #[.pointer (some ⟨b, k, none⟩)] w fun e w' => e = .returned (.string ⟨l.toArray⟩) ∧ Keeps w0 L b T pre post p buf l w' := by
  obtain ⟨H, ho⟩ := hK
  have hl0 : l.length ≠ 0 := by simpa using h0
  obtain ⟨g, cap, cur, fz, rfl, hbg, hg, hfz, hnc, hcm, hcs, htake⟩ : ∃ g cap cur fz, buf = .slice (some ⟨g, 0, none⟩) l.length cap ∧ w0.heap.size ≤ g ∧ w.heap[g]? = some (.cells cur 5 fz) ∧ fz.2 ≤ l.length * 1 ∧ l.length ≤ cap ∧ cap ≤ maxLen ∧ cur.size = cap * 1 ∧ cur.toList.take (l.length * 1) = Lib.byteCells l := by
    rcases ho.2 with ⟨_, hz⟩ | ⟨g, cap, cur, fz, hv, r⟩
    · exact absurd hz hl0
    · exact ⟨g, cap, cur, fz, hv, r⟩
  have c1 : w.drew.cell? ⟨b, k + 1, none⟩ = some (.slice (some ⟨g, 0, none⟩) l.length cap) := (H.cell (.head _) (k + 1)).trans (bl_at1 hk)
  have hSD : (Builtin.unsafeSliceData_ #[22] 69 #[.slice (some ⟨g, 0, none⟩) l.length cap]).run Try.prog w.drew = .ok (.pointer (some ⟨g, 0, none⟩)) w.drew :=
    Lib.run_unsafeSliceData_row _ _ _ _ _ _ (by omega)
  have hUS : (Builtin.unsafeString_ #[69, 3] 9 #[.pointer (some ⟨g, 0, none⟩), .int .i64 l.length]).run Try.prog w.drew = .ok (.string ⟨l.toArray⟩) (w.drew.freeze ⟨g, 0, none⟩ l.length) := by
    refine Lib.run_unsafeString_row w.drew 69 3 9 5 Try.underlying69 (by kernel_rfl) g cur.size (by have hg' : w.drew.heap[g]? = some (.cells cur 5 fz) := hg; simp [World.shape?, hg']) l h0 (by omega) (by unfold maxLen at hcm; omega) ?_
    intro j x hx
    have := ho.cells (g := g) rfl j (.int .u8 x.toNat) (by simp [Lib.byteCells, hx])
    exact this
  have hne := own_ne H ho (fun x hx => by rcases List.mem_cons.1 hx with rfl | hx; exact ty.1; exact ty.2 x hx)
  have hB : Keeps w0 L b T pre post p (.slice (some ⟨g, 0, none⟩) l.length cap) l (w.drew.freeze ⟨g, 0, none⟩ l.length) :=
    ⟨(H.drewN 1).grown (grown_freeze _ _ _) (fun x hx => hne x hx) (fun k hk => by obtain rfl := Option.some.inj hk; exact hbg), own_freeze (rowF_on ho ⟨rfl, rfl, rfl, Nat.le_refl _, fun _ _ => rfl⟩)⟩
  clear ho hfz hnc hcm hcs htake hg
  clear H
  go_enter Try.func23, Try.ntmps23
  go_wp2
  go_region
  all_goals (go_wp2; go_ret; exact ⟨rfl, hB⟩)

set_option maxHeartbeats 2000000 in
set_option maxRecDepth 100000 in
theorem Bld.keep_none {p buf : Value} (hK : Keeps w0 L b T pre post p buf [] w) (ty : T ≠ 5 ∧ ∀ x ∈ L, x.2.2 ≠ 5) (hk : pre.length = k) :
    Calls Try.prog 23 #[.pointer (some ⟨b, k, none⟩)] w fun e w' => e = .returned (.string ⟨#[]⟩) ∧ Keeps w0 L b T pre post p buf [] w' := by
  obtain ⟨H, ho⟩ := hK
  have hUS : ∀ (W : World) (q : Option Addr), (Builtin.unsafeString_ #[69, 3] 9 #[.pointer q, .int .i64 0]).run Try.prog W = .ok (.string .empty) W := fun W q => Lib.run_unsafeString_none W _ _ _ q
  have hlt := H.lt (.head _)
  have hsz := H.below.size
  rcases ho.2 with ⟨rfl, _⟩ | ⟨g, cap, cur, fz, rfl, hbg, hg, _⟩
  · have c1 : w.drew.cell? ⟨b, k + 1, none⟩ = some (.slice none 0 0) := (H.cell (.head _) (k + 1)).trans (bl_at1 hk)
    have hSD : (Builtin.unsafeSliceData_ #[22] 69 #[.slice none 0 0]).run Try.prog w.drew = .ok (.pointer none) w.drew := rfl
    have hB : Keeps w0 L b T pre post p (.slice none 0 0) [] w.drew := ⟨H.drewN 1, rowF_on ho ⟨rfl, rfl, rfl, Nat.le_refl _, fun _ _ => rfl⟩⟩
    clear ho H
    go_enter Try.func23, Try.ntmps23
    go_wp2
    go_region
    all_goals (go_wp2; go_ret; exact ⟨rfl, hB⟩)
  · by_cases hc0 : cap = 0
    · subst hc0
      have c1 : w.drew.cell? ⟨b, k + 1, none⟩ = some (.slice (some ⟨g, 0, none⟩) 0 0) := (H.cell (.head _) (k + 1)).trans (bl_at1 hk)
      have hSD : (Builtin.unsafeSliceData_ #[22] 69 #[.slice (some ⟨g, 0, none⟩) 0 0]).run Try.prog w.drew = .ok (.pointer (some ⟨w.drew.heap.size, 0, none⟩)) (w.drew.alloc (.view ⟨g, 0, none⟩ 5)) :=
        Lib.run_unsafeSliceData_zero w.drew _ _ 5 Try.underlying69 ⟨g, 0, none⟩ 0 (5, cur.size) (by have hg' : w.drew.heap[g]? = some (.cells cur 5 fz) := hg; simp [World.shape?, hg'])
      have c2 : (w.drew.alloc (.view ⟨g, 0, none⟩ 5)).cell? ⟨b, k + 1, none⟩ = some (.slice (some ⟨g, 0, none⟩) 0 0) := ((H.drewN 1).on ((Below.refl _ w.drew).alloc (Nat.le_refl _) _)).cell (.head _) (k + 1) |>.trans (bl_at1 hk)
      have c3 : (w.alloc (.view ⟨g, 0, none⟩ 5)).drew.cell? ⟨b, k + 1, none⟩ = some (.slice (some ⟨g, 0, none⟩) 0 0) := c2
      have c0 : w.cell? ⟨b, k + 1, none⟩ = some (.slice (some ⟨g, 0, none⟩) 0 0) := c1
      have hbv : Below w.heap.size w (w.alloc (.view ⟨g, 0, none⟩ 5)).drew := ((Below.refl _ w).alloc (Nat.le_refl _) _).drew
      have hB : Keeps w0 L b T pre post p (.slice (some ⟨g, 0, none⟩) 0 0) [] (w.alloc (.view ⟨g, 0, none⟩ 5)).drew := ⟨H.on hbv, rowF_on ho hbv⟩
      clear hbv
      clear ho H hg
      go_enter Try.func23, Try.ntmps23
      go_wp2
      go_region
      all_goals (go_wp2; go_ret; exact ⟨rfl, hB⟩)
    · have c1 : w.drew.cell? ⟨b, k + 1, none⟩ = some (.slice (some ⟨g, 0, none⟩) 0 cap) := (H.cell (.head _) (k + 1)).trans (bl_at1 hk)
      have hSD : (Builtin.unsafeSliceData_ #[22] 69 #[.slice (some ⟨g, 0, none⟩) 0 cap]).run Try.prog w.drew = .ok (.pointer (some ⟨g, 0, none⟩)) w.drew :=
        Lib.run_unsafeSliceData_row _ _ _ _ _ _ hc0
      have hB : Keeps w0 L b T pre post p (.slice (some ⟨g, 0, none⟩) 0 cap) [] w.drew := ⟨H.drewN 1, rowF_on ho ⟨rfl, rfl, rfl, Nat.le_refl _, fun _ _ => rfl⟩⟩
      clear hc0 ho H hg
      go_enter Try.func23, Try.ntmps23
      go_wp2
      go_region
      all_goals (go_wp2; go_ret; exact ⟨rfl, hB⟩)

theorem Bld.keep {p buf : Value} (hK : Keeps w0 L b T pre post p buf l w) (ty : T ≠ 5 ∧ ∀ x ∈ L, x.2.2 ≠ 5) (hk : pre.length = k) :
    Calls Try.prog 23 #[.pointer (some ⟨b, k, none⟩)] w fun e w' => e = .returned (.string ⟨l.toArray⟩) ∧ Keeps w0 L b T pre post p buf l w' := by
  cases l with
  | nil => exact Bld.keep_none hK ty hk
  | cons c l => exact Bld.keep_some hK ty hk (by simp)
end
end Go.Proofs.Ytgbnbjajaaggkaa

namespace Go.Proofs.Ytgbnbjajaaggkaa
open Go Go.RowKit Go.Proofs
set_option linter.unusedVariables false
set_option linter.unusedSimpArgs false
section
variable {ops : Array Oper} {o : Oper} {rest : List Oper} {a : Act} {w w0 : World} {Q : Act → Prop} {L : List (Nat × List Value × TypeId)} {b : Nat} {T : TypeId} {pre post : List Value} {p buf : Value} {l : List UInt8}

theorem wp_region_tail_K {P : Program} {id : Nat} {Q : Exit → Act → World → Prop} {ol : List Oper} (n : Nat) (hK : Keeps w0 L b T pre post p buf l w) (hm : P.follows .mixedOrders = true) (hB : Region.lexTailB .any ol.toArray n = true)
    (h : wpQuiet P ol.toArray (Keeps w0 L b T pre post p buf l) (fun a' => ∀ w', Keeps w0 L b T pre post p buf l w' → wpList P ol.toArray Q (ol.drop n) a' w') (ol.take n) a) : (Code.region id ol.toArray true).wp P Q a w :=
  wp_region_quiet_tail (C := Keeps w0 L b T pre post p buf l) n hm hB ⟨hK.H.drew1, rowF_on hK.ho ⟨rfl, rfl, rfl, Nat.le_refl _, fun _ _ => rfl⟩⟩ h

theorem quiet_K (hK : Keeps w0 L b T pre post p buf l w) (q : Prop) : (∀ w', Keeps w0 L b T pre post p buf l w' → q) = q := propext ⟨fun h => h w hK, fun h _ _ => h⟩

theorem wpQuiet_load_K {P : Program} (hg : Region.wanted o (yielded ops a.tmps) = true) (T' : TypeId) (x : Operand) (hop : o.op = .load T' x) (hT : ∀ w, (isAgg T').run P w = .ok false w) (b' i : Nat) (hx : a.eval x = .pointer (some ⟨b', i, none⟩))
    {cs : List Value} {T'' : TypeId} (hm : (b', cs, T'') ∈ (b, pre ++ p :: buf :: post, T) :: L) (v : Value) (hv : cs[i]? = some v)
    (hK : wpQuiet P ops (Keeps w0 L b T pre post p buf l) Q rest (a.put o.dst v)) : wpQuiet P ops (Keeps w0 L b T pre post p buf l) Q (o :: rest) a := by
  refine BigFrame.wpQuiet_want hg fun K hK' => ⟨v, fun w' hw' => ?_, hK' _ hK⟩
  have hc : w'.cell? ⟨b', i, none⟩ = some v := by rw [hw'.H.cell hm]; exact hv
  have hrun : (loadVar T' ⟨b', i, none⟩).run P w' = .ok v w' := by simp [loadVar, hT, load, Sem.run, hc]
  unfold Oper.quietAt
  simp only [execOp, hop, hx, Instr.loadAt, Instr.sureAddr, Sem.run_bind, Sem.run_pure, Result.andThen_ok, hrun]
  exact ⟨rfl, rfl⟩
end
end Go.Proofs.Ytgbnbjajaaggkaa
