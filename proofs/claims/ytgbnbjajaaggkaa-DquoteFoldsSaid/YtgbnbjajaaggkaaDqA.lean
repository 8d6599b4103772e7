/- dquote's reader: what its methods do, walked. No condition but sizes. -/
import Derived.Test.YtgbnbjajaaggkaaBld
import Derived.Test.YtgbnbjajaaggkaaQuietB
import Derived.Test.YtgbnbjajaaggkaaQx0
import Derived.WalkKit
import Derived.LoopTactic
import Derived.Outline
import Derived.IntWalk
import Derived.RegionCalls
import Derived.StillTailTactics
import Derived.Deep.RegionHeld3
namespace Go.Proofs.Ytgbnbjajaaggkaa.Q
open Go Go.RowKit Go.Proofs Go.Proofs.YtgbnbjajaaggkaaW.PrintWords Go.Proofs.YtgbnbjajaaggkaaW.PrintLast Go.Proofs.YtgbnbjajaaggkaaW.PrintMore
set_option linter.unusedVariables false
set_option linter.unusedSimpArgs false

abbrev RdT : TypeId := 53
/-- The reader: where it is, what it has told, its fault. -/
def RD (w0 : World) (L : List (Nat × List Value × TypeId)) (b : Nat) (v : Int) (s : ByteArray) (at_ : Nat) (l : List UInt8) (code off : Int) (w : World) : Prop :=
  Bld w0 L b 3 RdT [.int .i64 v, .string s, .int .i64 at_] [.int .i64 code, .int .i64 off] l w

theorem RD.opened {w0 w : World} {L : List (Nat × List Value × TypeId)} {b : Nat} {v : Int} {s : ByteArray} {at_ : Nat} {l : List UInt8} {code off : Int} (h : RD w0 L b v s at_ l code off w) : ∃ p buf, Holds w0 ((b, [.int .i64 v, .string s, .int .i64 at_, p, buf, .int .i64 code, .int .i64 off], RdT) :: L) w ∧ (p = .pointer none ∨ p = .pointer (some ⟨b, 3, none⟩)) ∧ w.ownsRowF w0.heap.size 5 1 buf l.length (Lib.byteCells l) ∧ (RdT ≠ 5 ∧ ∀ x ∈ L, x.2.2 ≠ 5) := by
  obtain ⟨p, buf, H, hp, ho⟩ := h.ex
  exact ⟨p, buf, H, hp, ho, h.ty⟩
theorem RD.shut {w0 w : World} {L : List (Nat × List Value × TypeId)} {b : Nat} {v : Int} {s : ByteArray} {at_ : Nat} {l : List UInt8} {code off : Int} {p buf : Value} (H : Holds w0 ((b, [.int .i64 v, .string s, .int .i64 at_, p, buf, .int .i64 code, .int .i64 off], RdT) :: L) w) (hp : p = .pointer none ∨ p = .pointer (some ⟨b, 3, none⟩)) (ho : w.ownsRowF w0.heap.size 5 1 buf l.length (Lib.byteCells l)) (ty : RdT ≠ 5 ∧ ∀ x ∈ L, x.2.2 ≠ 5) : RD w0 L b v s at_ l code off w :=
  ⟨⟨p, buf, H, hp, ho⟩, ty⟩
theorem rd_lies : liesAt Try.prog Try.prog.depth RdT (([Value.int .i64 0, .int .i64 0, .int .i64 0].length + 2 + [Value.int .i64 0, .int .i64 0].length) / Try.prog.cellsOf RdT) 3 51 1 = true := by kernel_rfl

set_option maxHeartbeats 1000000 in
theorem reader_fail {w0 w : World} {L : List (Nat × List Value × TypeId)} {b : Nat} {v : Int} {s : ByteArray} {at_ : Nat} {l : List UInt8} {code off : Int} (c o : Int) (h : RD w0 L b v s at_ l code off w) :
    Calls Try.prog 42 #[.pointer (some ⟨b, 0, none⟩), .int .i64 c, .int .i64 o] w fun e w' => e = .returned (.bool false) ∧ RD w0 L b v s at_ l c o w' := by
  obtain ⟨p, buf, H, hp, ho, ty⟩ := h.opened
  have hne := own_ne H ho (fun x hx => by rcases List.mem_cons.1 hx with rfl | hx; exact ty.1; exact ty.2 x hx)
  clear h
  go_enter Try.func42, Try.ntmps42
  go_wp2_with (((with_reducible refine at_store 32 ?_)); refine wpList_store_H rfl 32 _ _ rfl _ _ rfl _ rfl (Try.sizeOf32) rfl (A := []) H (Nat.le_of_ble_eq_true rfl) _ rfl ?_; intro w2 H2 hg2; simp only [List.take_succ_cons, List.take_zero, List.drop_succ_cons, List.drop_zero, List.nil_append, List.cons_append, List.length_cons, List.length_nil, Nat.reduceAdd, Nat.zero_add] at H2; replace H := H2; replace ho := ho.kept hg2 (.inr (hne _ (.head _))); replace hne := hne; clear H2 hg2)
  go_ret
  exact ⟨rfl, .shut H hp ho ty⟩

set_option maxHeartbeats 2000000 in
theorem reader_fold_bad {w0 w : World} {L : List (Nat × List Value × TypeId)} {b : Nat} {v : Int} {s : ByteArray} {at_ : Nat} {l : List UInt8} {code off : Int} (t : Bool) (i : Int) (cF : ∀ w, Calls Try.prog 41 #[.int .i64 v, .string s, .int .i64 at_] w fun e w' => e = .returned (.tuple #[.int .i64 (-1), .int .i64 i]) ∧ Below w.heap.size w w') (h : RD w0 L b v s at_ l code off w) :
    Calls Try.prog 32 #[.pointer (some ⟨b, 0, none⟩), .bool t] w fun e w' => e = .returned (.bool false) ∧ RD w0 L b v s at_ l 11 i w' := by
  obtain ⟨p, buf, H, hp, ho, ty⟩ := h.opened
  have hne := own_ne H ho (fun x hx => by rcases List.mem_cons.1 hx with rfl | hx; exact ty.1; exact ty.2 x hx)
  clear h
  go_enter Try.func32, Try.ntmps32
  go_wp2_with fail
  try simp only [List.append_eq, List.cons_append, List.nil_append, Act.put, List.setIfInBounds_toArray, List.set_cons_zero, List.set_cons_succ]
  refine wp_region_quiet_B (by kernel_rfl) (by kernel_rfl) ?_
  have hqB := quiet_B w
  repeat (first | (((with_reducible refine at_qload 3 ?_)); refine wpQuiet_load_B rfl 3 _ rfl (Try.isAgg3) _ _ rfl H (.head _) _ rfl ?_; try simp only [Act.put, List.setIfInBounds_toArray, List.set_cons_zero, List.set_cons_succ]) | (((with_reducible refine at_qload 9 ?_)); refine wpQuiet_load_B rfl 9 _ rfl (Try.isAgg9) _ _ rfl H (.head _) _ rfl ?_; try simp only [Act.put, List.setIfInBounds_toArray, List.set_cons_zero, List.set_cons_succ]) | (go_big_quiet_step ((intro hbq; exact quiet_call hbq (cF _)))))
  refine wpQuiet_nil ?_
  intro wq hb
  have Hq := H.on hb
  have hoq := rowF_on ho hb
  clear hb hqB
  go_wp2_with fail
  refine (reader_fail 11 i (RD.shut Hq hp hoq ty)).mono ?_
  rintro e w' ⟨rfl, hr⟩
  go_wp2
  go_ret
  exact ⟨rfl, hr⟩

set_option maxHeartbeats 2000000 in
theorem reader_fold_ok {w0 w : World} {L : List (Nat × List Value × TypeId)} {b : Nat} {v : Int} {s : ByteArray} {at_ : Nat} {l : List UInt8} {code off : Int} (t : Bool) (n e : Nat) (f : ByteArray) (hn : n ≤ 1000000) (hn1 : 1 ≤ n) (hlen : l.length + f.size ≤ 140737488355328)
    (cF : ∀ w, Calls Try.prog 41 #[.int .i64 v, .string s, .int .i64 at_] w fun e' w' => e' = .returned (.tuple #[.int .i64 n, .int .i64 e]) ∧ Below w.heap.size w w')
    (cR : t = true → ∀ w, Calls Try.prog 43 #[.string ⟨#[10]⟩, .int .i64 ((n : Int) - 1)] w fun e w' => e = .returned (.string f) ∧ Below w.heap.size w w')
    (cG : t = false → ∀ w, Calls Try.prog 44 #[.int .i64 n] w fun e w' => e = .returned (.string f) ∧ Below w.heap.size w w')
    (h : RD w0 L b v s at_ l code off w) :
    Calls Try.prog 32 #[.pointer (some ⟨b, 0, none⟩), .bool t] w fun e' w' => e' = .returned (.bool true) ∧ RD w0 L b v s e (l ++ f.data.toList) code off w' := by
  obtain ⟨p, buf, H, hp, ho, ty⟩ := h.opened
  have hne := own_ne H ho (fun x hx => by rcases List.mem_cons.1 hx with rfl | hx; exact ty.1; exact ty.2 x hx)
  clear h
  go_enter Try.func32, Try.ntmps32
  go_wp2_with fail
  try simp only [List.append_eq, List.cons_append, List.nil_append, Act.put, List.setIfInBounds_toArray, List.set_cons_zero, List.set_cons_succ]
  refine wp_region_quiet_B (by kernel_rfl) (by kernel_rfl) ?_
  have hqB := quiet_B w
  repeat (first | (((with_reducible refine at_qload 3 ?_)); refine wpQuiet_load_B rfl 3 _ rfl (Try.isAgg3) _ _ rfl H (.head _) _ rfl ?_; try simp only [Act.put, List.setIfInBounds_toArray, List.set_cons_zero, List.set_cons_succ]) | (((with_reducible refine at_qload 9 ?_)); refine wpQuiet_load_B rfl 9 _ rfl (Try.isAgg9) _ _ rfl H (.head _) _ rfl ?_; try simp only [Act.put, List.setIfInBounds_toArray, List.set_cons_zero, List.set_cons_succ]) | (go_big_quiet_step ((intro hbq; exact quiet_call hbq (cF _)))))
  refine wpQuiet_nil ?_
  intro wq hb
  have Hq := H.on hb
  have hoq := rowF_on ho hb
  clear hb hqB
  clear H ho hne cF
  have hwr : IntKind.i64.wrap ((n : Int) - 1) = (n : Int) - 1 := IntWalk.i64_in _ (by omega)
  cases t
  · replace cG := cG rfl
    clear cR
    go_wp2_with fail
    try simp only [List.append_eq, List.cons_append, List.nil_append, Act.put, List.setIfInBounds_toArray, List.set_cons_zero, List.set_cons_succ]
    refine wp_region_tail_B 5 (by kernel_rfl) (by kernel_rfl) ?_
    simp only [List.take_succ_cons, List.take_zero, List.drop_succ_cons, List.drop_zero]
    have hqB := quiet_B wq
    repeat (first | (((with_reducible refine at_qload 3 ?_)); refine wpQuiet_load_B rfl 3 _ rfl (Try.isAgg3) _ _ rfl Hq (.head _) _ rfl ?_; try simp only [Act.put, List.setIfInBounds_toArray, List.set_cons_zero, List.set_cons_succ]) | (((with_reducible refine at_qload 9 ?_)); refine wpQuiet_load_B rfl 9 _ rfl (Try.isAgg9) _ _ rfl Hq (.head _) _ rfl ?_; try simp only [Act.put, List.setIfInBounds_toArray, List.set_cons_zero, List.set_cons_succ]) | (go_big_quiet_step ((intro hbq; exact quiet_call hbq (cG _)))))
    refine wpQuiet_nil ?_
    intro wq2 hb
    have Hq2 := Hq.on hb
    have hoq2 := rowF_on hoq hb
    clear hb hqB
    go_wp2_with fail
    refine (Bld.writeString (RD.shut Hq2 hp hoq2 ty) rfl rd_lies f hlen).mono ?_
    rintro e' w3 ⟨rfl, hr⟩
    clear Hq hoq Hq2 hoq2 hp
    obtain ⟨p2, buf2, H, hp2, ho, _⟩ := RD.opened hr
    have hne := own_ne H ho (fun x hx => by rcases List.mem_cons.1 hx with rfl | hx; exact ty.1; exact ty.2 x hx)
    clear hr
    go_wp2_with (((with_reducible refine at_store 3 ?_)); refine wpList_store_H rfl 3 _ _ rfl _ _ rfl _ rfl (Try.sizeOf3) rfl (A := []) H (Nat.le_of_ble_eq_true rfl) _ rfl ?_; intro w2 H2 hg2; simp only [List.take_succ_cons, List.take_zero, List.drop_succ_cons, List.drop_zero, List.nil_append, List.cons_append, List.length_cons, List.length_nil, Nat.reduceAdd, Nat.zero_add] at H2; replace H := H2; replace ho := ho.kept hg2 (.inr (hne _ (.head _))); replace hne := hne; clear H2 hg2)
    go_ret
    exact ⟨rfl, .shut H hp2 ho ty⟩
  · replace cR := cR rfl
    clear cG
    go_wp2_with fail
    try simp only [List.append_eq, List.cons_append, List.nil_append, Act.put, List.setIfInBounds_toArray, List.set_cons_zero, List.set_cons_succ]
    refine wp_region_tail_B 6 (by kernel_rfl) (by kernel_rfl) ?_
    simp only [List.take_succ_cons, List.take_zero, List.drop_succ_cons, List.drop_zero]
    have hqB := quiet_B wq
    repeat (first | (((with_reducible refine at_qload 3 ?_)); refine wpQuiet_load_B rfl 3 _ rfl (Try.isAgg3) _ _ rfl Hq (.head _) _ rfl ?_; try simp only [Act.put, List.setIfInBounds_toArray, List.set_cons_zero, List.set_cons_succ]) | (((with_reducible refine at_qload 9 ?_)); refine wpQuiet_load_B rfl 9 _ rfl (Try.isAgg9) _ _ rfl Hq (.head _) _ rfl ?_; try simp only [Act.put, List.setIfInBounds_toArray, List.set_cons_zero, List.set_cons_succ]) | (go_big_quiet_step ((intro hbq; exact quiet_call hbq (cR _)))))
    refine wpQuiet_nil ?_
    intro wq2 hb
    have Hq2 := Hq.on hb
    have hoq2 := rowF_on hoq hb
    clear hb hqB
    go_wp2_with fail
    refine (Bld.writeString (RD.shut Hq2 hp hoq2 ty) rfl rd_lies f hlen).mono ?_
    rintro e' w3 ⟨rfl, hr⟩
    clear Hq hoq Hq2 hoq2 hp
    obtain ⟨p2, buf2, H, hp2, ho, _⟩ := RD.opened hr
    have hne := own_ne H ho (fun x hx => by rcases List.mem_cons.1 hx with rfl | hx; exact ty.1; exact ty.2 x hx)
    clear hr
    go_wp2_with (((with_reducible refine at_store 3 ?_)); refine wpList_store_H rfl 3 _ _ rfl _ _ rfl _ rfl (Try.sizeOf3) rfl (A := []) H (Nat.le_of_ble_eq_true rfl) _ rfl ?_; intro w2 H2 hg2; simp only [List.take_succ_cons, List.take_zero, List.drop_succ_cons, List.drop_zero, List.nil_append, List.cons_append, List.length_cons, List.length_nil, Nat.reduceAdd, Nat.zero_add] at H2; replace H := H2; replace ho := ho.kept hg2 (.inr (hne _ (.head _))); replace hne := hne; clear H2 hg2)
    go_ret
    exact ⟨rfl, .shut H hp2 ho ty⟩

theorem part_head : True := trivial

set_option maxHeartbeats 2000000 in
theorem reader_part_fold {w0 w : World} {L : List (Nat × List Value × TypeId)} {b : Nat} {v : Int} {s : ByteArray} {at_ : Nat} {l : List UInt8} {code off : Int} (e : Nat) (k : Int) (hk : 0 < k) (r : Bool) (Q : World → Prop)
    (cO : ∀ w, Calls Try.prog 30 #[.string s, .int .i64 at_] w fun e' w' => e' = .returned (.int .i64 e) ∧ Drawn0 w w')
    (cB : ∀ w, Calls Try.prog 31 #[.int .i64 v, .string s, .int .i64 e] w fun e w' => e = .returned (.int .i64 k) ∧ Drawn0 w w')
    (cF : ∀ w, RD w0 L b v s e l code off w → Calls Try.prog 32 #[.pointer (some ⟨b, 0, none⟩), .bool false] w fun e w' => e = .returned (.bool r) ∧ Q w')
    (h : RD w0 L b v s at_ l code off w) :
    Calls Try.prog 22 #[.pointer (some ⟨b, 0, none⟩)] w fun e w' => e = .returned (.bool r) ∧ Q w' := by
  obtain ⟨p, buf, H, hp, ho, ty⟩ := h.opened
  have hne := own_ne H ho (fun x hx => by rcases List.mem_cons.1 hx with rfl | hx; exact ty.1; exact ty.2 x hx)
  clear h
  have hd : decide (0 < k) = true := decide_eq_true hk
  go_enter Try.func22, Try.ntmps22
  go_wp2_with fail
  try simp only [List.append_eq, List.cons_append, List.nil_append, Act.put, List.setIfInBounds_toArray, List.set_cons_zero, List.set_cons_succ]
  refine wp_region_quiet_lit (by kernel_rfl) (by kernel_rfl) ?_
  repeat (first | (((with_reducible refine at_qload 3 ?_)); refine wpQuiet_load_H rfl 3 _ rfl (Try.isAgg3) _ _ rfl H (.head _) _ rfl ?_; try simp only [Act.put, List.setIfInBounds_toArray, List.set_cons_zero, List.set_cons_succ]) | (((with_reducible refine at_qload 9 ?_)); refine wpQuiet_load_H rfl 9 _ rfl (Try.isAgg9) _ _ rfl H (.head _) _ rfl ?_; try simp only [Act.put, List.setIfInBounds_toArray, List.set_cons_zero, List.set_cons_succ]) | (go_big_quiet_step ((exact Calls.quiet_of ((cO _).mono fun e w' h => ⟨h.1, h.2.out⟩)))))
  refine wpQuiet_nil ?_
  intro wq hw'
  obtain ⟨nq, hw''⟩ := hw'
  have Hq := H.drewN nq
  have hoq := rowF_on ho (Drawn0.below ⟨⟨nq, rfl⟩⟩)
  rw [← hw''] at Hq hoq
  clear hw''
  (clear H ho; have H := Hq; have ho := hoq; clear Hq hoq)
  go_wp2_with fail
  try simp only [List.append_eq, List.cons_append, List.nil_append, Act.put, List.setIfInBounds_toArray, List.set_cons_zero, List.set_cons_succ]
  refine wp_region_quiet_lit (by kernel_rfl) (by kernel_rfl) ?_
  repeat (first | (((with_reducible refine at_qload 3 ?_)); refine wpQuiet_load_H rfl 3 _ rfl (Try.isAgg3) _ _ rfl H (.head _) _ rfl ?_; try simp only [Act.put, List.setIfInBounds_toArray, List.set_cons_zero, List.set_cons_succ]) | (((with_reducible refine at_qload 9 ?_)); refine wpQuiet_load_H rfl 9 _ rfl (Try.isAgg9) _ _ rfl H (.head _) _ rfl ?_; try simp only [Act.put, List.setIfInBounds_toArray, List.set_cons_zero, List.set_cons_succ]) | (go_big_quiet_step ((exact Calls.quiet_of ((cB _).mono fun e w' h => ⟨h.1, h.2.out⟩)))))
  refine wpQuiet_nil ?_
  intro wq hw'
  obtain ⟨nq, hw''⟩ := hw'
  have Hq := H.drewN nq
  have hoq := rowF_on ho (Drawn0.below ⟨⟨nq, rfl⟩⟩)
  rw [← hw''] at Hq hoq
  clear hw''
  (clear H ho; have H := Hq; have ho := hoq; clear Hq hoq)
  clear cO cB
  have hne := own_ne H ho (fun x hx => by rcases List.mem_cons.1 hx with rfl | hx; exact ty.1; exact ty.2 x hx)
  go_wp2_with (((with_reducible refine at_store 3 ?_)); refine wpList_store_H rfl 3 _ _ rfl _ _ rfl _ rfl (Try.sizeOf3) rfl (A := []) H (Nat.le_of_ble_eq_true rfl) _ rfl ?_; intro w2 H2 hg2; simp only [List.take_succ_cons, List.take_zero, List.drop_succ_cons, List.drop_zero, List.nil_append, List.cons_append, List.length_cons, List.length_nil, Nat.reduceAdd, Nat.zero_add] at H2; replace H := H2; replace ho := ho.kept hg2 (.inr (hne _ (.head _))); replace hne := hne; clear H2 hg2)
  refine (cF _ (RD.shut H hp ho ty)).mono ?_
  rintro e w' ⟨rfl, hr⟩
  go_wp2
  go_ret
  exact ⟨rfl, hr⟩

set_option maxHeartbeats 2000000 in
theorem reader_part_turned {w0 w : World} {L : List (Nat × List Value × TypeId)} {b : Nat} {v : Int} {s : ByteArray} {at_ : Nat} {l : List UInt8} {code off : Int} (r : Bool) (Q : World → Prop) (hlt : at_ < s.size) (hz : s.size ≤ 1000000) (h92 : s[at_] = 92)
    (cO : ∀ w, Calls Try.prog 30 #[.string s, .int .i64 at_] w fun e' w' => e' = .returned (.int .i64 at_) ∧ Drawn0 w w')
    (cB : ∀ w, Calls Try.prog 31 #[.int .i64 v, .string s, .int .i64 at_] w fun e w' => e = .returned (.int .i64 0) ∧ Drawn0 w w')
    (cF : ∀ w, RD w0 L b v s at_ l code off w → Calls Try.prog 34 #[.pointer (some ⟨b, 0, none⟩)] w fun e w' => e = .returned (.bool r) ∧ Q w')
    (h : RD w0 L b v s at_ l code off w) :
    Calls Try.prog 22 #[.pointer (some ⟨b, 0, none⟩)] w fun e w' => e = .returned (.bool r) ∧ Q w' := by
  obtain ⟨p, buf, H, hp, ho, ty⟩ := h.opened
  have hne := own_ne H ho (fun x hx => by rcases List.mem_cons.1 hx with rfl | hx; exact ty.1; exact ty.2 x hx)
  clear h
  have hi : (at_ : Int) < (s.size : Int) := by omega
  have h92' : (((s[at_]).toNat : Int) == 92) = true := by rw [h92]; rfl
  clear h92
  go_enter Try.func22, Try.ntmps22
  go_wp2_with fail
  try simp only [List.append_eq, List.cons_append, List.nil_append, Act.put, List.setIfInBounds_toArray, List.set_cons_zero, List.set_cons_succ]
  refine wp_region_quiet_lit (by kernel_rfl) (by kernel_rfl) ?_
  repeat (first | (((with_reducible refine at_qload 3 ?_)); refine wpQuiet_load_H rfl 3 _ rfl (Try.isAgg3) _ _ rfl H (.head _) _ rfl ?_; try simp only [Act.put, List.setIfInBounds_toArray, List.set_cons_zero, List.set_cons_succ]) | (((with_reducible refine at_qload 9 ?_)); refine wpQuiet_load_H rfl 9 _ rfl (Try.isAgg9) _ _ rfl H (.head _) _ rfl ?_; try simp only [Act.put, List.setIfInBounds_toArray, List.set_cons_zero, List.set_cons_succ]) | (go_big_quiet_step ((exact Calls.quiet_of ((cO _).mono fun e w' h => ⟨h.1, h.2.out⟩)))))
  refine wpQuiet_nil ?_
  intro wq hw'
  obtain ⟨nq, hw''⟩ := hw'
  have Hq := H.drewN nq
  have hoq := rowF_on ho (Drawn0.below ⟨⟨nq, rfl⟩⟩)
  rw [← hw''] at Hq hoq
  clear hw''
  (clear H ho; have H := Hq; have ho := hoq; clear Hq hoq)
  go_wp2_with fail
  try simp only [List.append_eq, List.cons_append, List.nil_append, Act.put, List.setIfInBounds_toArray, List.set_cons_zero, List.set_cons_succ]
  refine wp_region_quiet_lit (by kernel_rfl) (by kernel_rfl) ?_
  repeat (first | (((with_reducible refine at_qload 3 ?_)); refine wpQuiet_load_H rfl 3 _ rfl (Try.isAgg3) _ _ rfl H (.head _) _ rfl ?_; try simp only [Act.put, List.setIfInBounds_toArray, List.set_cons_zero, List.set_cons_succ]) | (((with_reducible refine at_qload 9 ?_)); refine wpQuiet_load_H rfl 9 _ rfl (Try.isAgg9) _ _ rfl H (.head _) _ rfl ?_; try simp only [Act.put, List.setIfInBounds_toArray, List.set_cons_zero, List.set_cons_succ]) | (go_big_quiet_step ((exact Calls.quiet_of ((cB _).mono fun e w' h => ⟨h.1, h.2.out⟩)))))
  refine wpQuiet_nil ?_
  intro wq hw'
  obtain ⟨nq, hw''⟩ := hw'
  have Hq := H.drewN nq
  have hoq := rowF_on ho (Drawn0.below ⟨⟨nq, rfl⟩⟩)
  rw [← hw''] at Hq hoq
  clear hw''
  (clear H ho; have H := Hq; have ho := hoq; clear Hq hoq)
  clear cO cB
  go_wp2_with (((with_reducible refine at_load 3 ?_)); refine wpList_load_H rfl 3 _ rfl (Try.isAgg3) _ _ rfl H (.head _) _ rfl ?_)
  try simp only [List.append_eq, List.cons_append, List.nil_append, Act.put, List.setIfInBounds_toArray, List.set_cons_zero, List.set_cons_succ]
  refine wp_region_quiet_lit (by kernel_rfl) (by kernel_rfl) ?_
  repeat (first | (((with_reducible refine at_qload 3 ?_)); refine wpQuiet_load_H rfl 3 _ rfl (Try.isAgg3) _ _ rfl H (.head _) _ rfl ?_; try simp only [Act.put, List.setIfInBounds_toArray, List.set_cons_zero, List.set_cons_succ]) | (((with_reducible refine at_qload 9 ?_)); refine wpQuiet_load_H rfl 9 _ rfl (Try.isAgg9) _ _ rfl H (.head _) _ rfl ?_; try simp only [Act.put, List.setIfInBounds_toArray, List.set_cons_zero, List.set_cons_succ]) | (go_big_quiet_step ((fail))))
  refine wpQuiet_nil ?_
  intro wq hw'
  obtain ⟨nq, hw''⟩ := hw'
  have Hq := H.drewN nq
  have hoq := rowF_on ho (Drawn0.below ⟨⟨nq, rfl⟩⟩)
  rw [← hw''] at Hq hoq
  clear hw''
  (clear H ho; have H := Hq; have ho := hoq; clear Hq hoq)
  go_wp2_with fail
  refine (cF _ (RD.shut H hp ho ty)).mono ?_
  rintro e w' ⟨rfl, hr⟩
  go_wp2
  go_ret
  exact ⟨rfl, hr⟩

set_option maxHeartbeats 2000000 in
theorem reader_part_blanks {w0 w : World} {L : List (Nat × List Value × TypeId)} {b : Nat} {v : Int} {s : ByteArray} {at_ : Nat} {l : List UInt8} {code off : Int} (e : Nat) (hlt : at_ < e) (he : e ≤ s.size) (hz : s.size ≤ 1000000) (hlen : l.length + (e - at_) ≤ 140737488355328)
    (cO : ∀ w, Calls Try.prog 30 #[.string s, .int .i64 at_] w fun e' w' => e' = .returned (.int .i64 e) ∧ Drawn0 w w')
    (cB : ∀ w, Calls Try.prog 31 #[.int .i64 v, .string s, .int .i64 e] w fun e w' => e = .returned (.int .i64 0) ∧ Drawn0 w w')
    (h : RD w0 L b v s at_ l code off w) :
    Calls Try.prog 22 #[.pointer (some ⟨b, 0, none⟩)] w fun e' w' => e' = .returned (.bool true) ∧ RD w0 L b v s e (l ++ (s.extract at_ e).data.toList) code off w' := by
  obtain ⟨p, buf, H, hp, ho, ty⟩ := h.opened
  have hne := own_ne H ho (fun x hx => by rcases List.mem_cons.1 hx with rfl | hx; exact ty.1; exact ty.2 x hx)
  clear h
  have hi1 : (at_ : Int) ≤ (e : Int) := by omega
  have hi2 : (e : Int) ≤ (s.size : Int) := by omega
  have hi3 : (at_ : Int) < (e : Int) := by omega
  have hes : (s.extract at_ e).size = e - at_ := by simp; omega
  have Hes := Lib.hid hes
  clear hes
  go_enter Try.func22, Try.ntmps22
  go_wp2_with fail
  try simp only [List.append_eq, List.cons_append, List.nil_append, Act.put, List.setIfInBounds_toArray, List.set_cons_zero, List.set_cons_succ]
  refine wp_region_quiet_lit (by kernel_rfl) (by kernel_rfl) ?_
  repeat (first | (((with_reducible refine at_qload 3 ?_)); refine wpQuiet_load_H rfl 3 _ rfl (Try.isAgg3) _ _ rfl H (.head _) _ rfl ?_; try simp only [Act.put, List.setIfInBounds_toArray, List.set_cons_zero, List.set_cons_succ]) | (((with_reducible refine at_qload 9 ?_)); refine wpQuiet_load_H rfl 9 _ rfl (Try.isAgg9) _ _ rfl H (.head _) _ rfl ?_; try simp only [Act.put, List.setIfInBounds_toArray, List.set_cons_zero, List.set_cons_succ]) | (go_big_quiet_step ((exact Calls.quiet_of ((cO _).mono fun e w' h => ⟨h.1, h.2.out⟩)))))
  refine wpQuiet_nil ?_
  intro wq hw'
  obtain ⟨nq, hw''⟩ := hw'
  have Hq := H.drewN nq
  have hoq := rowF_on ho (Drawn0.below ⟨⟨nq, rfl⟩⟩)
  rw [← hw''] at Hq hoq
  clear hw''
  (clear H ho; have H := Hq; have ho := hoq; clear Hq hoq)
  go_wp2_with fail
  try simp only [List.append_eq, List.cons_append, List.nil_append, Act.put, List.setIfInBounds_toArray, List.set_cons_zero, List.set_cons_succ]
  refine wp_region_quiet_lit (by kernel_rfl) (by kernel_rfl) ?_
  repeat (first | (((with_reducible refine at_qload 3 ?_)); refine wpQuiet_load_H rfl 3 _ rfl (Try.isAgg3) _ _ rfl H (.head _) _ rfl ?_; try simp only [Act.put, List.setIfInBounds_toArray, List.set_cons_zero, List.set_cons_succ]) | (((with_reducible refine at_qload 9 ?_)); refine wpQuiet_load_H rfl 9 _ rfl (Try.isAgg9) _ _ rfl H (.head _) _ rfl ?_; try simp only [Act.put, List.setIfInBounds_toArray, List.set_cons_zero, List.set_cons_succ]) | (go_big_quiet_step ((exact Calls.quiet_of ((cB _).mono fun e w' h => ⟨h.1, h.2.out⟩)))))
  refine wpQuiet_nil ?_
  intro wq hw'
  obtain ⟨nq, hw''⟩ := hw'
  have Hq := H.drewN nq
  have hoq := rowF_on ho (Drawn0.below ⟨⟨nq, rfl⟩⟩)
  rw [← hw''] at Hq hoq
  clear hw''
  (clear H ho; have H := Hq; have ho := hoq; clear Hq hoq)
  clear cO cB
  go_wp2_with (((with_reducible refine at_load 3 ?_)); refine wpList_load_H rfl 3 _ rfl (Try.isAgg3) _ _ rfl H (.head _) _ rfl ?_)
  try simp only [List.append_eq, List.cons_append, List.nil_append, Act.put, List.setIfInBounds_toArray, List.set_cons_zero, List.set_cons_succ]
  refine wp_region_tail_B 13 (by kernel_rfl) (by kernel_rfl) ?_
  simp only [List.take_succ_cons, List.take_zero, List.drop_succ_cons, List.drop_zero]
  have hqB := quiet_B wq
  repeat (first | (((with_reducible refine at_qload 3 ?_)); refine wpQuiet_load_B rfl 3 _ rfl (Try.isAgg3) _ _ rfl H (.head _) _ rfl ?_; try simp only [Act.put, List.setIfInBounds_toArray, List.set_cons_zero, List.set_cons_succ]) | (((with_reducible refine at_qload 9 ?_)); refine wpQuiet_load_B rfl 9 _ rfl (Try.isAgg9) _ _ rfl H (.head _) _ rfl ?_; try simp only [Act.put, List.setIfInBounds_toArray, List.set_cons_zero, List.set_cons_succ]) | (go_big_quiet_step ((fail))))
  refine wpQuiet_nil ?_
  intro wq2 hb
  have Hq2 := H.on hb
  have hoq2 := rowF_on ho hb
  clear hb hqB
  go_wp2_with fail
  refine (Bld.writeString (RD.shut Hq2 hp hoq2 ty) rfl rd_lies (s.extract at_ e) (by rw [Hes.out]; exact hlen)).mono ?_
  rintro e' w3 ⟨rfl, hr⟩
  clear H ho Hq2 hoq2 hp
  obtain ⟨p2, buf2, H, hp2, ho, _⟩ := RD.opened hr
  have hne := own_ne H ho (fun x hx => by rcases List.mem_cons.1 hx with rfl | hx; exact ty.1; exact ty.2 x hx)
  clear hr
  go_wp2_with (((with_reducible refine at_store 3 ?_)); refine wpList_store_H rfl 3 _ _ rfl _ _ rfl _ rfl (Try.sizeOf3) rfl (A := []) H (Nat.le_of_ble_eq_true rfl) _ rfl ?_; intro w2 H2 hg2; simp only [List.take_succ_cons, List.take_zero, List.drop_succ_cons, List.drop_zero, List.nil_append, List.cons_append, List.length_cons, List.length_nil, Nat.reduceAdd, Nat.zero_add] at H2; replace H := H2; replace ho := ho.kept hg2 (.inr (hne _ (.head _))); replace hne := hne; clear H2 hg2)
  go_ret
  exact ⟨rfl, .shut H hp2 ho ty⟩

set_option maxHeartbeats 2000000 in
theorem reader_part_sign {w0 w : World} {L : List (Nat × List Value × TypeId)} {b : Nat} {v : Int} {s : ByteArray} {at_ : Nat} {l : List UInt8} {code off : Int} (hlt : at_ < s.size) (hz : s.size ≤ 1000000) (h92 : s[at_] ≠ 92) (hlen : l.length + 1 ≤ 140737488355328)
    (cO : ∀ w, Calls Try.prog 30 #[.string s, .int .i64 at_] w fun e' w' => e' = .returned (.int .i64 at_) ∧ Drawn0 w w')
    (cB : ∀ w, Calls Try.prog 31 #[.int .i64 v, .string s, .int .i64 at_] w fun e w' => e = .returned (.int .i64 0) ∧ Drawn0 w w')
    (h : RD w0 L b v s at_ l code off w) :
    Calls Try.prog 22 #[.pointer (some ⟨b, 0, none⟩)] w fun e' w' => e' = .returned (.bool true) ∧ RD w0 L b v s (at_ + 1) (l ++ [s[at_]]) code off w' := by
  obtain ⟨p, buf, H, hp, ho, ty⟩ := h.opened
  have hne := own_ne H ho (fun x hx => by rcases List.mem_cons.1 hx with rfl | hx; exact ty.1; exact ty.2 x hx)
  clear h
  have hi : (at_ : Int) < (s.size : Int) := by omega
  have h92' : (((s[at_]).toNat : Int) == 92) = false := by
    rw [beq_eq_false_iff_ne]
    intro e
    exact h92 (UInt8.toNat_inj.1 (by have e2 : ((s[at_]).toNat : Int) = ((92 : UInt8).toNat : Int) := e; omega))
  clear h92
  go_enter Try.func22, Try.ntmps22
  go_wp2_with fail
  try simp only [List.append_eq, List.cons_append, List.nil_append, Act.put, List.setIfInBounds_toArray, List.set_cons_zero, List.set_cons_succ]
  refine wp_region_quiet_lit (by kernel_rfl) (by kernel_rfl) ?_
  repeat (first | (((with_reducible refine at_qload 3 ?_)); refine wpQuiet_load_H rfl 3 _ rfl (Try.isAgg3) _ _ rfl H (.head _) _ rfl ?_; try simp only [Act.put, List.setIfInBounds_toArray, List.set_cons_zero, List.set_cons_succ]) | (((with_reducible refine at_qload 9 ?_)); refine wpQuiet_load_H rfl 9 _ rfl (Try.isAgg9) _ _ rfl H (.head _) _ rfl ?_; try simp only [Act.put, List.setIfInBounds_toArray, List.set_cons_zero, List.set_cons_succ]) | (go_big_quiet_step ((exact Calls.quiet_of ((cO _).mono fun e w' h => ⟨h.1, h.2.out⟩)))))
  refine wpQuiet_nil ?_
  intro wq hw'
  obtain ⟨nq, hw''⟩ := hw'
  have Hq := H.drewN nq
  have hoq := rowF_on ho (Drawn0.below ⟨⟨nq, rfl⟩⟩)
  rw [← hw''] at Hq hoq
  clear hw''
  (clear H ho; have H := Hq; have ho := hoq; clear Hq hoq)
  go_wp2_with fail
  try simp only [List.append_eq, List.cons_append, List.nil_append, Act.put, List.setIfInBounds_toArray, List.set_cons_zero, List.set_cons_succ]
  refine wp_region_quiet_lit (by kernel_rfl) (by kernel_rfl) ?_
  repeat (first | (((with_reducible refine at_qload 3 ?_)); refine wpQuiet_load_H rfl 3 _ rfl (Try.isAgg3) _ _ rfl H (.head _) _ rfl ?_; try simp only [Act.put, List.setIfInBounds_toArray, List.set_cons_zero, List.set_cons_succ]) | (((with_reducible refine at_qload 9 ?_)); refine wpQuiet_load_H rfl 9 _ rfl (Try.isAgg9) _ _ rfl H (.head _) _ rfl ?_; try simp only [Act.put, List.setIfInBounds_toArray, List.set_cons_zero, List.set_cons_succ]) | (go_big_quiet_step ((exact Calls.quiet_of ((cB _).mono fun e w' h => ⟨h.1, h.2.out⟩)))))
  refine wpQuiet_nil ?_
  intro wq hw'
  obtain ⟨nq, hw''⟩ := hw'
  have Hq := H.drewN nq
  have hoq := rowF_on ho (Drawn0.below ⟨⟨nq, rfl⟩⟩)
  rw [← hw''] at Hq hoq
  clear hw''
  (clear H ho; have H := Hq; have ho := hoq; clear Hq hoq)
  clear cO cB
  go_wp2_with (((with_reducible refine at_load 3 ?_)); refine wpList_load_H rfl 3 _ rfl (Try.isAgg3) _ _ rfl H (.head _) _ rfl ?_)
  try simp only [List.append_eq, List.cons_append, List.nil_append, Act.put, List.setIfInBounds_toArray, List.set_cons_zero, List.set_cons_succ]
  refine wp_region_quiet_lit (by kernel_rfl) (by kernel_rfl) ?_
  repeat (first | (((with_reducible refine at_qload 3 ?_)); refine wpQuiet_load_H rfl 3 _ rfl (Try.isAgg3) _ _ rfl H (.head _) _ rfl ?_; try simp only [Act.put, List.setIfInBounds_toArray, List.set_cons_zero, List.set_cons_succ]) | (((with_reducible refine at_qload 9 ?_)); refine wpQuiet_load_H rfl 9 _ rfl (Try.isAgg9) _ _ rfl H (.head _) _ rfl ?_; try simp only [Act.put, List.setIfInBounds_toArray, List.set_cons_zero, List.set_cons_succ]) | (go_big_quiet_step ((fail))))
  refine wpQuiet_nil ?_
  intro wq hw'
  obtain ⟨nq, hw''⟩ := hw'
  have Hq := H.drewN nq
  have hoq := rowF_on ho (Drawn0.below ⟨⟨nq, rfl⟩⟩)
  rw [← hw''] at Hq hoq
  clear hw''
  (clear H ho; have H := Hq; have ho := hoq; clear Hq hoq)
  go_wp2_with fail
  try simp only [List.append_eq, List.cons_append, List.nil_append, Act.put, List.setIfInBounds_toArray, List.set_cons_zero, List.set_cons_succ]
  refine wp_region_tail_B 12 (by kernel_rfl) (by kernel_rfl) ?_
  simp only [List.take_succ_cons, List.take_zero, List.drop_succ_cons, List.drop_zero]
  have hqB := quiet_B wq
  repeat (first | (((with_reducible refine at_qload 3 ?_)); refine wpQuiet_load_B rfl 3 _ rfl (Try.isAgg3) _ _ rfl H (.head _) _ rfl ?_; try simp only [Act.put, List.setIfInBounds_toArray, List.set_cons_zero, List.set_cons_succ]) | (((with_reducible refine at_qload 9 ?_)); refine wpQuiet_load_B rfl 9 _ rfl (Try.isAgg9) _ _ rfl H (.head _) _ rfl ?_; try simp only [Act.put, List.setIfInBounds_toArray, List.set_cons_zero, List.set_cons_succ]) | (go_big_quiet_step ((fail))))
  refine wpQuiet_nil ?_
  intro wq2 hb
  have Hq2 := H.on hb
  have hoq2 := rowF_on ho hb
  clear hb hqB
  go_wp2_with fail
  refine (Bld.writeByte (RD.shut Hq2 hp hoq2 ty) rfl rd_lies (s[at_]) hlen).mono ?_
  rintro e' w3 ⟨rfl, hr⟩
  clear H ho Hq2 hoq2 hp
  obtain ⟨p2, buf2, H, hp2, ho, _⟩ := RD.opened hr
  have hne := own_ne H ho (fun x hx => by rcases List.mem_cons.1 hx with rfl | hx; exact ty.1; exact ty.2 x hx)
  clear hr
  go_wp2_with (first | (((with_reducible refine at_load 3 ?_)); refine wpList_load_H rfl 3 _ rfl (Try.isAgg3) _ _ rfl H (.head _) _ rfl ?_) | (((with_reducible refine at_store 3 ?_)); refine wpList_store_H rfl 3 _ _ rfl _ _ rfl _ rfl (Try.sizeOf3) rfl (A := []) H (Nat.le_of_ble_eq_true rfl) _ rfl ?_; intro w2 H2 hg2; simp only [List.take_succ_cons, List.take_zero, List.drop_succ_cons, List.drop_zero, List.nil_append, List.cons_append, List.length_cons, List.length_nil, Nat.reduceAdd, Nat.zero_add] at H2; replace H := H2; replace ho := ho.kept hg2 (.inr (hne _ (.head _))); replace hne := hne; clear H2 hg2))
  go_ret
  exact ⟨rfl, .shut H hp2 ho ty⟩
end Go.Proofs.Ytgbnbjajaaggkaa.Q
