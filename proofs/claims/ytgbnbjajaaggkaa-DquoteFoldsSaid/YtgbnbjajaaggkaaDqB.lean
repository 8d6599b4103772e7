/- dquote's reader: what a backslash begins, walked. No condition but sizes. -/
import Derived.Test.YtgbnbjajaaggkaaDqA
import Derived.Test.YtgbnbjajaaggkaaScope
import Derived.Laws.BitsAllLaws
namespace Go.Proofs.Ytgbnbjajaaggkaa.Q
open Go Go.RowKit Go.Proofs Go.Proofs.YtgbnbjajaaggkaaW.PrintWords Go.Proofs.YtgbnbjajaaggkaaW.PrintLast Go.Proofs.YtgbnbjajaaggkaaW.PrintMore
set_option linter.unusedVariables false
set_option linter.unusedSimpArgs false

theorem dec_true {p : Prop} {i : Decidable p} (h : p) : @decide p i = true := decide_eq_true h
theorem dec_false {p : Prop} {i : Decidable p} (h : ¬p) : @decide p i = false := decide_eq_false h
theorem or_sixteen (n d : Int) (h0 : 0 ≤ n) (h1 : n ≤ 1114111) (d0 : 0 ≤ d) (d1 : d ≤ 15) : bits .or .i32 (n * 16) d = n * 16 + d := by
  obtain ⟨a, rfl⟩ := Int.eq_ofNat_of_zero_le h0
  obtain ⟨c, rfl⟩ := Int.eq_ofNat_of_zero_le d0
  have e : ((a : Int) * 16) = ((a * 16 : Nat) : Int) := by omega
  have ha : a * 16 % 4294967296 = a * 16 := by omega
  have hc : c % 4294967296 = c := by omega
  have ho : a * 16 ||| c = a * 16 + c := by
    rw [show a * 16 = a <<< 4 from (Nat.shiftLeft_eq a 4).symm, Nat.shiftLeft_add_eq_or_of_lt (by omega)]
  have hx : (BitVec.ofInt 32 ((a : Int) * 16) ||| BitVec.ofNat 32 c).toNat = a * 16 + c := by
    rw [e, BitVec.toNat_or, ofInt_u32 (a * 16) (by omega), BitVec.toNat_ofNat, Nat.mod_eq_of_lt (by omega), ho]
  show IntKind.i32.wrap ((BitVec.ofInt 32 ((a : Int) * 16) ||| BitVec.ofInt 32 (c : Int)).toNat : Int) = _
  rw [BitVec.ofInt_natCast, hx]
  simp [IntKind.wrap, IntKind.bits, IntKind.signed]
  omega
theorem index_at (s : ByteArray) (j : Nat) (hj : j < s.size) (w : World) : (Instr.index 9 (.string s) (.int .i64 (j : Int))).run Try.prog w = .ok (.int .u8 ((s[j]).toNat : Int)) w := by
  have hi : (j : Int) < (s.size : Int) := by omega
  go_simp

set_option maxRecDepth 100000 in
set_option maxHeartbeats 4000000 in
theorem turned_end {w0 w : World} {L : List (Nat × List Value × TypeId)} {b : Nat} {v : Int} {s : ByteArray} {at_ : Nat} {l : List UInt8} {code off : Int} (hz : s.size ≤ 1000000) (hat : at_ ≤ 1000000) (hge : s.size ≤ at_ + 1) (h : RD w0 L b v s at_ l code off w) :
    Calls Try.prog 34 #[.pointer (some ⟨b, 0, none⟩)] w fun e w' => e = .returned (.bool false) ∧ ∃ a', RD w0 L b v s a' l 14 at_ w' := by
  have hd : decide ((s.size : Int) ≤ (at_ : Int) + 1) = true := decide_eq_true (by omega)
  obtain ⟨p, buf, H, hp, ho, ty⟩ := h.opened
  have hne := own_ne H ho (fun x hx => by rcases List.mem_cons.1 hx with rfl | hx; exact ty.1; exact ty.2 x hx)
  clear h
  go_enter Try.func34, Try.ntmps34
  go_wp2_with fail
  refine wp_scope_follow 0 (fun _ _ => False) (fun _ _ => 0) 6 rfl ?_ (fun _ _ h => h.elim)
  go_wp2_with (first | (((with_reducible refine at_load 3 ?_)); refine wpList_load_H rfl 3 _ rfl (Try.isAgg3) _ _ rfl H (.head _) _ rfl ?_) | (((with_reducible refine at_store 3 ?_)); refine wpList_store_H rfl 3 _ _ rfl _ _ rfl [.int .i64 ((at_ : Int) + 1)] rfl (Try.sizeOf3) rfl (A := []) H (Nat.le_of_ble_eq_true rfl) _ rfl ?_; intro w2 H2 hg2; simp only [List.take_succ_cons, List.take_zero, List.drop_succ_cons, List.drop_zero, List.nil_append, List.cons_append, List.length_cons, List.length_nil, Nat.reduceAdd, Nat.zero_add] at H2; replace H := H2; replace ho := ho.kept hg2 (.inr (hne _ (.head _))); replace hne := hne; clear H2 hg2))
  try simp only [List.append_eq, List.cons_append, List.nil_append, Act.put, List.setIfInBounds_toArray, List.set_cons_zero, List.set_cons_succ]
  refine wp_region_quiet_lit (by kernel_rfl) (by kernel_rfl) ?_
  repeat (first | (((with_reducible refine at_qload 3 ?_)); refine wpQuiet_load_H rfl 3 _ rfl (Try.isAgg3) _ _ rfl H (.head _) _ rfl ?_; try simp only [Act.put, List.setIfInBounds_toArray, List.set_cons_zero, List.set_cons_succ]) | (((with_reducible refine at_qload 9 ?_)); refine wpQuiet_load_H rfl 9 _ rfl (Try.isAgg9) _ _ rfl H (.head _) _ rfl ?_; try simp only [Act.put, List.setIfInBounds_toArray, List.set_cons_zero, List.set_cons_succ]) | (go_big_quiet_step ((fail))))
  refine wpQuiet_nil ?_
  intro wq hw'
  obtain ⟨nq, hw''⟩ := hw'
  have Hq := H.drewN nq
  have hoq := rowF_on ho (Drawn0.below ⟨⟨nq, rfl⟩⟩)
  rw [← hw''] at Hq hoq
  clear hw''
  (clear H ho; have H := Hq; have ho := hoq; clear Hq hoq)
  go_wp2_with fail
  go_step3
  show follow _ _ 0 _ _ _ (Exit.goto _) _ _
  refine follow_goto (by rfl) ?_
  go_wp2_with fail
  refine (reader_fail 14 at_ (RD.shut H hp ho ty)).mono ?_
  rintro e w' ⟨rfl, hr⟩
  go_wp2
  rw [follow_ret]
  go_ret
  exact ⟨rfl, _, hr⟩

set_option maxRecDepth 100000 in
set_option maxHeartbeats 4000000 in
theorem turned_broken {w0 w : World} {L : List (Nat × List Value × TypeId)} {b : Nat} {v : Int} {s : ByteArray} {at_ : Nat} {l : List UInt8} {code off : Int} (hz : s.size ≤ 1000000) (hat : at_ ≤ 1000000) (hlt : at_ + 1 < s.size) (k : Int) (hk : 0 < k) (r : Bool) (Q : World → Prop)
    (cB : ∀ w, Calls Try.prog 31 #[.int .i64 v, .string s, .int .i64 ((at_ : Int) + 1)] w fun e w' => e = .returned (.int .i64 k) ∧ Drawn0 w w')
    (cF : ∀ w, RD w0 L b v s (at_ + 1) l code off w → Calls Try.prog 32 #[.pointer (some ⟨b, 0, none⟩), .bool true] w fun e w' => e = .returned (.bool r) ∧ Q w') (h : RD w0 L b v s at_ l code off w) :
    Calls Try.prog 34 #[.pointer (some ⟨b, 0, none⟩)] w fun e w' => e = .returned (.bool r) ∧ Q w' := by
  have hi : (at_ : Int) + 1 < (s.size : Int) := by omega
  have hd : decide ((s.size : Int) ≤ (at_ : Int) + 1) = false := decide_eq_false (by omega)
  have hix : ∀ w, (Instr.index 9 (.string s) (.int .i64 ((at_ : Int) + 1))).run Try.prog w = .ok (.int .u8 ((s[at_ + 1]).toNat : Int)) w := index_at s (at_ + 1) hlt
  have hkd : decide (0 < k) = true := decide_eq_true hk
  obtain ⟨p, buf, H, hp, ho, ty⟩ := h.opened
  have hne := own_ne H ho (fun x hx => by rcases List.mem_cons.1 hx with rfl | hx; exact ty.1; exact ty.2 x hx)
  clear h
  go_enter Try.func34, Try.ntmps34
  go_wp2_with fail
  refine wp_scope_follow 0 (fun _ _ => False) (fun _ _ => 0) 6 rfl ?_ (fun _ _ h => h.elim)
  go_wp2_with (first | (((with_reducible refine at_load 3 ?_)); refine wpList_load_H rfl 3 _ rfl (Try.isAgg3) _ _ rfl H (.head _) _ rfl ?_) | (((with_reducible refine at_store 3 ?_)); refine wpList_store_H rfl 3 _ _ rfl _ _ rfl [.int .i64 ((at_ : Int) + 1)] rfl (Try.sizeOf3) rfl (A := []) H (Nat.le_of_ble_eq_true rfl) _ rfl ?_; intro w2 H2 hg2; simp only [List.take_succ_cons, List.take_zero, List.drop_succ_cons, List.drop_zero, List.nil_append, List.cons_append, List.length_cons, List.length_nil, Nat.reduceAdd, Nat.zero_add] at H2; replace H := H2; replace ho := ho.kept hg2 (.inr (hne _ (.head _))); replace hne := hne; clear H2 hg2))
  try simp only [List.append_eq, List.cons_append, List.nil_append, Act.put, List.setIfInBounds_toArray, List.set_cons_zero, List.set_cons_succ]
  refine wp_region_quiet_lit (by kernel_rfl) (by kernel_rfl) ?_
  repeat (first | (((with_reducible refine at_qload 3 ?_)); refine wpQuiet_load_H rfl 3 _ rfl (Try.isAgg3) _ _ rfl H (.head _) _ rfl ?_; try simp only [Act.put, List.setIfInBounds_toArray, List.set_cons_zero, List.set_cons_succ]) | (((with_reducible refine at_qload 9 ?_)); refine wpQuiet_load_H rfl 9 _ rfl (Try.isAgg9) _ _ rfl H (.head _) _ rfl ?_; try simp only [Act.put, List.setIfInBounds_toArray, List.set_cons_zero, List.set_cons_succ]) | (go_big_quiet_step ((fail))))
  refine wpQuiet_nil ?_
  intro wq hw'
  obtain ⟨nq, hw''⟩ := hw'
  have Hq := H.drewN nq
  have hoq := rowF_on ho (Drawn0.below ⟨⟨nq, rfl⟩⟩)
  rw [← hw''] at Hq hoq
  clear hw''
  (clear H ho; have H := Hq; have ho := hoq; clear Hq hoq)
  go_wp2_with fail
  try simp only [List.append_eq, List.cons_append, List.nil_append, Act.put, List.setIfInBounds_toArray, List.set_cons_zero, List.set_cons_succ]
  refine wp_region_quiet_lit (by kernel_rfl) (by kernel_rfl) ?_
  repeat (first | (((with_reducible refine at_qload 3 ?_)); refine wpQuiet_load_H rfl 3 _ rfl (Try.isAgg3) _ _ rfl H (.head _) _ rfl ?_; try simp only [Act.put, List.setIfInBounds_toArray, List.set_cons_zero, List.set_cons_succ]) | (((with_reducible refine at_qload 9 ?_)); refine wpQuiet_load_H rfl 9 _ rfl (Try.isAgg9) _ _ rfl H (.head _) _ rfl ?_; try simp only [Act.put, List.setIfInBounds_toArray, List.set_cons_zero, List.set_cons_succ]) | (go_big_quiet_step ((exact Calls.quiet_of ((cB _).mono fun e w' h => ⟨h.1, h.2.out⟩)))))
  refine wpQuiet_nil ?_
  intro wq hw'
  obtain ⟨nq, hw''⟩ := hw'
  have Hq := H.drewN nq
  have hoq := rowF_on ho (Drawn0.below ⟨⟨nq, rfl⟩⟩)
  rw [← hw''] at Hq hoq
  clear hw''
  (clear H ho; have H := Hq; have ho := hoq; clear Hq hoq)
  go_wp2_with fail
  go_step3
  show follow _ _ 0 _ _ _ (Exit.goto _) _ _
  refine follow_goto (by rfl) ?_
  go_wp2_with fail
  refine (cF _ (RD.shut H hp ho ty)).mono ?_
  rintro e w' ⟨rfl, hr⟩
  go_wp2
  rw [follow_ret]
  go_ret
  exact ⟨rfl, hr⟩

set_option maxRecDepth 100000 in
set_option maxHeartbeats 4000000 in
theorem turned_bad {w0 w : World} {L : List (Nat × List Value × TypeId)} {b : Nat} {v : Int} {s : ByteArray} {at_ : Nat} {l : List UInt8} {code off : Int} (hz : s.size ≤ 1000000) (hat : at_ ≤ 1000000) (hlt : at_ + 1 < s.size) (wd n : Int) (hwd : wd ≤ 1) (hn : n < 0)
    (cB : ∀ w, Calls Try.prog 31 #[.int .i64 v, .string s, .int .i64 ((at_ : Int) + 1)] w fun e w' => e = .returned (.int .i64 0) ∧ Drawn0 w w')
    (cI : ∀ w, Calls Try.prog 46 #[.string ⟨#[45, 45, 120, 45, 117, 45, 45, 45, 85]⟩, .int .u8 ((s[at_ + 1]).toNat : Int)] w fun e w' => e = .returned (.int .i64 wd) ∧ Drawn0 w w')
    (cS : ∀ w, Calls Try.prog 47 #[.int .i64 v, .int .u8 ((s[at_ + 1]).toNat : Int)] w fun e w' => e = .returned (.int .i32 n) ∧ Drawn0 w w')
 (h : RD w0 L b v s at_ l code off w) :
    Calls Try.prog 34 #[.pointer (some ⟨b, 0, none⟩)] w fun e w' => e = .returned (.bool false) ∧ ∃ a', RD w0 L b v s a' l 14 at_ w' := by
  have hi : (at_ : Int) + 1 < (s.size : Int) := by omega
  have hd : decide ((s.size : Int) ≤ (at_ : Int) + 1) = false := decide_eq_false (by omega)
  have hix : ∀ w, (Instr.index 9 (.string s) (.int .i64 ((at_ : Int) + 1))).run Try.prog w = .ok (.int .u8 ((s[at_ + 1]).toNat : Int)) w := index_at s (at_ + 1) hlt
  have hkd : decide (1 < wd) = false := decide_eq_false (by omega)
  have hnd : decide (n < 0) = true := decide_eq_true hn
  obtain ⟨p, buf, H, hp, ho, ty⟩ := h.opened
  have hne := own_ne H ho (fun x hx => by rcases List.mem_cons.1 hx with rfl | hx; exact ty.1; exact ty.2 x hx)
  clear h
  go_enter Try.func34, Try.ntmps34
  go_wp2_with fail
  refine wp_scope_follow 0 (fun _ _ => False) (fun _ _ => 0) 6 rfl ?_ (fun _ _ h => h.elim)
  go_wp2_with (first | (((with_reducible refine at_load 3 ?_)); refine wpList_load_H rfl 3 _ rfl (Try.isAgg3) _ _ rfl H (.head _) _ rfl ?_) | (((with_reducible refine at_store 3 ?_)); refine wpList_store_H rfl 3 _ _ rfl _ _ rfl [.int .i64 ((at_ : Int) + 1)] rfl (Try.sizeOf3) rfl (A := []) H (Nat.le_of_ble_eq_true rfl) _ rfl ?_; intro w2 H2 hg2; simp only [List.take_succ_cons, List.take_zero, List.drop_succ_cons, List.drop_zero, List.nil_append, List.cons_append, List.length_cons, List.length_nil, Nat.reduceAdd, Nat.zero_add] at H2; replace H := H2; replace ho := ho.kept hg2 (.inr (hne _ (.head _))); replace hne := hne; clear H2 hg2))
  try simp only [List.append_eq, List.cons_append, List.nil_append, Act.put, List.setIfInBounds_toArray, List.set_cons_zero, List.set_cons_succ]
  refine wp_region_quiet_lit (by kernel_rfl) (by kernel_rfl) ?_
  repeat (first | (((with_reducible refine at_qload 3 ?_)); refine wpQuiet_load_H rfl 3 _ rfl (Try.isAgg3) _ _ rfl H (.head _) _ rfl ?_; try simp only [Act.put, List.setIfInBounds_toArray, List.set_cons_zero, List.set_cons_succ]) | (((with_reducible refine at_qload 9 ?_)); refine wpQuiet_load_H rfl 9 _ rfl (Try.isAgg9) _ _ rfl H (.head _) _ rfl ?_; try simp only [Act.put, List.setIfInBounds_toArray, List.set_cons_zero, List.set_cons_succ]) | (go_big_quiet_step ((fail))))
  refine wpQuiet_nil ?_
  intro wq hw'
  obtain ⟨nq, hw''⟩ := hw'
  have Hq := H.drewN nq
  have hoq := rowF_on ho (Drawn0.below ⟨⟨nq, rfl⟩⟩)
  rw [← hw''] at Hq hoq
  clear hw''
  (clear H ho; have H := Hq; have ho := hoq; clear Hq hoq)
  go_wp2_with fail
  try simp only [List.append_eq, List.cons_append, List.nil_append, Act.put, List.setIfInBounds_toArray, List.set_cons_zero, List.set_cons_succ]
  refine wp_region_quiet_lit (by kernel_rfl) (by kernel_rfl) ?_
  repeat (first | (((with_reducible refine at_qload 3 ?_)); refine wpQuiet_load_H rfl 3 _ rfl (Try.isAgg3) _ _ rfl H (.head _) _ rfl ?_; try simp only [Act.put, List.setIfInBounds_toArray, List.set_cons_zero, List.set_cons_succ]) | (((with_reducible refine at_qload 9 ?_)); refine wpQuiet_load_H rfl 9 _ rfl (Try.isAgg9) _ _ rfl H (.head _) _ rfl ?_; try simp only [Act.put, List.setIfInBounds_toArray, List.set_cons_zero, List.set_cons_succ]) | (go_big_quiet_step ((exact Calls.quiet_of ((cB _).mono fun e w' h => ⟨h.1, h.2.out⟩)))))
  refine wpQuiet_nil ?_
  intro wq hw'
  obtain ⟨nq, hw''⟩ := hw'
  have Hq := H.drewN nq
  have hoq := rowF_on ho (Drawn0.below ⟨⟨nq, rfl⟩⟩)
  rw [← hw''] at Hq hoq
  clear hw''
  (clear H ho; have H := Hq; have ho := hoq; clear Hq hoq)
  go_wp2_with fail
  try simp only [List.append_eq, List.cons_append, List.nil_append, Act.put, List.setIfInBounds_toArray, List.set_cons_zero, List.set_cons_succ]
  refine wp_region_quiet_lit (by kernel_rfl) (by kernel_rfl) ?_
  repeat (first | (((with_reducible refine at_qload 3 ?_)); refine wpQuiet_load_H rfl 3 _ rfl (Try.isAgg3) _ _ rfl H (.head _) _ rfl ?_; try simp only [Act.put, List.setIfInBounds_toArray, List.set_cons_zero, List.set_cons_succ]) | (((with_reducible refine at_qload 9 ?_)); refine wpQuiet_load_H rfl 9 _ rfl (Try.isAgg9) _ _ rfl H (.head _) _ rfl ?_; try simp only [Act.put, List.setIfInBounds_toArray, List.set_cons_zero, List.set_cons_succ]) | (go_big_quiet_step ((exact Calls.quiet_of ((cI _).mono fun e w' h => ⟨h.1, h.2.out⟩)))))
  refine wpQuiet_nil ?_
  intro wq hw'
  obtain ⟨nq, hw''⟩ := hw'
  have Hq := H.drewN nq
  have hoq := rowF_on ho (Drawn0.below ⟨⟨nq, rfl⟩⟩)
  rw [← hw''] at Hq hoq
  clear hw''
  (clear H ho; have H := Hq; have ho := hoq; clear Hq hoq)
  go_wp2_with fail
  try simp only [List.append_eq, List.cons_append, List.nil_append, Act.put, List.setIfInBounds_toArray, List.set_cons_zero, List.set_cons_succ]
  refine wp_region_quiet_lit (by kernel_rfl) (by kernel_rfl) ?_
  repeat (first | (((with_reducible refine at_qload 3 ?_)); refine wpQuiet_load_H rfl 3 _ rfl (Try.isAgg3) _ _ rfl H (.head _) _ rfl ?_; try simp only [Act.put, List.setIfInBounds_toArray, List.set_cons_zero, List.set_cons_succ]) | (((with_reducible refine at_qload 9 ?_)); refine wpQuiet_load_H rfl 9 _ rfl (Try.isAgg9) _ _ rfl H (.head _) _ rfl ?_; try simp only [Act.put, List.setIfInBounds_toArray, List.set_cons_zero, List.set_cons_succ]) | (go_big_quiet_step ((exact Calls.quiet_of ((cS _).mono fun e w' h => ⟨h.1, h.2.out⟩)))))
  refine wpQuiet_nil ?_
  intro wq hw'
  obtain ⟨nq, hw''⟩ := hw'
  have Hq := H.drewN nq
  have hoq := rowF_on ho (Drawn0.below ⟨⟨nq, rfl⟩⟩)
  rw [← hw''] at Hq hoq
  clear hw''
  (clear H ho; have H := Hq; have ho := hoq; clear Hq hoq)
  go_wp2_with fail
  go_step3
  show follow _ _ 0 _ _ _ (Exit.goto _) _ _
  refine follow_goto (by rfl) ?_
  go_wp2_with fail
  refine (reader_fail 14 at_ (RD.shut H hp ho ty)).mono ?_
  rintro e w' ⟨rfl, hr⟩
  go_wp2
  rw [follow_ret]
  go_ret
  exact ⟨rfl, _, hr⟩

set_option maxRecDepth 100000 in
set_option maxHeartbeats 4000000 in
theorem turned_ok {w0 w : World} {L : List (Nat × List Value × TypeId)} {b : Nat} {v : Int} {s : ByteArray} {at_ : Nat} {l : List UInt8} {code off : Int} (hz : s.size ≤ 1000000) (hat : at_ ≤ 1000000) (hlt : at_ + 1 < s.size) (wd n : Int) (hwd : wd ≤ 1) (hn : 0 ≤ n) (hn2 : n ≤ 1114111) (hlen : l.length + 4 ≤ 140737488355328)
    (cB : ∀ w, Calls Try.prog 31 #[.int .i64 v, .string s, .int .i64 ((at_ : Int) + 1)] w fun e w' => e = .returned (.int .i64 0) ∧ Drawn0 w w')
    (cI : ∀ w, Calls Try.prog 46 #[.string ⟨#[45, 45, 120, 45, 117, 45, 45, 45, 85]⟩, .int .u8 ((s[at_ + 1]).toNat : Int)] w fun e w' => e = .returned (.int .i64 wd) ∧ Drawn0 w w')
    (cS : ∀ w, Calls Try.prog 47 #[.int .i64 v, .int .u8 ((s[at_ + 1]).toNat : Int)] w fun e w' => e = .returned (.int .i32 n) ∧ Drawn0 w w')
 (h : RD w0 L b v s at_ l code off w) :
    Calls Try.prog 34 #[.pointer (some ⟨b, 0, none⟩)] w fun e w' => e = .returned (.bool true) ∧ RD w0 L b v s (at_ + 1 + 1) (l ++ Lib.encodeRune n) code off w' := by
  have hi : (at_ : Int) + 1 < (s.size : Int) := by omega
  have hd : decide ((s.size : Int) ≤ (at_ : Int) + 1) = false := decide_eq_false (by omega)
  have hix : ∀ w, (Instr.index 9 (.string s) (.int .i64 ((at_ : Int) + 1))).run Try.prog w = .ok (.int .u8 ((s[at_ + 1]).toNat : Int)) w := index_at s (at_ + 1) hlt
  have hkd : decide (1 < wd) = false := decide_eq_false (by omega)
  have hnd : decide (n < 0) = false := decide_eq_false (by omega)
  obtain ⟨p, buf, H, hp, ho, ty⟩ := h.opened
  have hne := own_ne H ho (fun x hx => by rcases List.mem_cons.1 hx with rfl | hx; exact ty.1; exact ty.2 x hx)
  clear h
  go_enter Try.func34, Try.ntmps34
  go_wp2_with fail
  refine wp_scope_follow 0 (fun _ _ => False) (fun _ _ => 0) 6 rfl ?_ (fun _ _ h => h.elim)
  go_wp2_with (first | (((with_reducible refine at_load 3 ?_)); refine wpList_load_H rfl 3 _ rfl (Try.isAgg3) _ _ rfl H (.head _) _ rfl ?_) | (((with_reducible refine at_store 3 ?_)); refine wpList_store_H rfl 3 _ _ rfl _ _ rfl [.int .i64 ((at_ : Int) + 1)] rfl (Try.sizeOf3) rfl (A := []) H (Nat.le_of_ble_eq_true rfl) _ rfl ?_; intro w2 H2 hg2; simp only [List.take_succ_cons, List.take_zero, List.drop_succ_cons, List.drop_zero, List.nil_append, List.cons_append, List.length_cons, List.length_nil, Nat.reduceAdd, Nat.zero_add] at H2; replace H := H2; replace ho := ho.kept hg2 (.inr (hne _ (.head _))); replace hne := hne; clear H2 hg2))
  try simp only [List.append_eq, List.cons_append, List.nil_append, Act.put, List.setIfInBounds_toArray, List.set_cons_zero, List.set_cons_succ]
  refine wp_region_quiet_lit (by kernel_rfl) (by kernel_rfl) ?_
  repeat (first | (((with_reducible refine at_qload 3 ?_)); refine wpQuiet_load_H rfl 3 _ rfl (Try.isAgg3) _ _ rfl H (.head _) _ rfl ?_; try simp only [Act.put, List.setIfInBounds_toArray, List.set_cons_zero, List.set_cons_succ]) | (((with_reducible refine at_qload 9 ?_)); refine wpQuiet_load_H rfl 9 _ rfl (Try.isAgg9) _ _ rfl H (.head _) _ rfl ?_; try simp only [Act.put, List.setIfInBounds_toArray, List.set_cons_zero, List.set_cons_succ]) | (go_big_quiet_step ((fail))))
  refine wpQuiet_nil ?_
  intro wq hw'
  obtain ⟨nq, hw''⟩ := hw'
  have Hq := H.drewN nq
  have hoq := rowF_on ho (Drawn0.below ⟨⟨nq, rfl⟩⟩)
  rw [← hw''] at Hq hoq
  clear hw''
  (clear H ho; have H := Hq; have ho := hoq; clear Hq hoq)
  go_wp2_with fail
  try simp only [List.append_eq, List.cons_append, List.nil_append, Act.put, List.setIfInBounds_toArray, List.set_cons_zero, List.set_cons_succ]
  refine wp_region_quiet_lit (by kernel_rfl) (by kernel_rfl) ?_
  repeat (first | (((with_reducible refine at_qload 3 ?_)); refine wpQuiet_load_H rfl 3 _ rfl (Try.isAgg3) _ _ rfl H (.head _) _ rfl ?_; try simp only [Act.put, List.setIfInBounds_toArray, List.set_cons_zero, List.set_cons_succ]) | (((with_reducible refine at_qload 9 ?_)); refine wpQuiet_load_H rfl 9 _ rfl (Try.isAgg9) _ _ rfl H (.head _) _ rfl ?_; try simp only [Act.put, List.setIfInBounds_toArray, List.set_cons_zero, List.set_cons_succ]) | (go_big_quiet_step ((exact Calls.quiet_of ((cB _).mono fun e w' h => ⟨h.1, h.2.out⟩)))))
  refine wpQuiet_nil ?_
  intro wq hw'
  obtain ⟨nq, hw''⟩ := hw'
  have Hq := H.drewN nq
  have hoq := rowF_on ho (Drawn0.below ⟨⟨nq, rfl⟩⟩)
  rw [← hw''] at Hq hoq
  clear hw''
  (clear H ho; have H := Hq; have ho := hoq; clear Hq hoq)
  go_wp2_with fail
  try simp only [List.append_eq, List.cons_append, List.nil_append, Act.put, List.setIfInBounds_toArray, List.set_cons_zero, List.set_cons_succ]
  refine wp_region_quiet_lit (by kernel_rfl) (by kernel_rfl) ?_
  repeat (first | (((with_reducible refine at_qload 3 ?_)); refine wpQuiet_load_H rfl 3 _ rfl (Try.isAgg3) _ _ rfl H (.head _) _ rfl ?_; try simp only [Act.put, List.setIfInBounds_toArray, List.set_cons_zero, List.set_cons_succ]) | (((with_reducible refine at_qload 9 ?_)); refine wpQuiet_load_H rfl 9 _ rfl (Try.isAgg9) _ _ rfl H (.head _) _ rfl ?_; try simp only [Act.put, List.setIfInBounds_toArray, List.set_cons_zero, List.set_cons_succ]) | (go_big_quiet_step ((exact Calls.quiet_of ((cI _).mono fun e w' h => ⟨h.1, h.2.out⟩)))))
  refine wpQuiet_nil ?_
  intro wq hw'
  obtain ⟨nq, hw''⟩ := hw'
  have Hq := H.drewN nq
  have hoq := rowF_on ho (Drawn0.below ⟨⟨nq, rfl⟩⟩)
  rw [← hw''] at Hq hoq
  clear hw''
  (clear H ho; have H := Hq; have ho := hoq; clear Hq hoq)
  go_wp2_with fail
  try simp only [List.append_eq, List.cons_append, List.nil_append, Act.put, List.setIfInBounds_toArray, List.set_cons_zero, List.set_cons_succ]
  refine wp_region_quiet_lit (by kernel_rfl) (by kernel_rfl) ?_
  repeat (first | (((with_reducible refine at_qload 3 ?_)); refine wpQuiet_load_H rfl 3 _ rfl (Try.isAgg3) _ _ rfl H (.head _) _ rfl ?_; try simp only [Act.put, List.setIfInBounds_toArray, List.set_cons_zero, List.set_cons_succ]) | (((with_reducible refine at_qload 9 ?_)); refine wpQuiet_load_H rfl 9 _ rfl (Try.isAgg9) _ _ rfl H (.head _) _ rfl ?_; try simp only [Act.put, List.setIfInBounds_toArray, List.set_cons_zero, List.set_cons_succ]) | (go_big_quiet_step ((exact Calls.quiet_of ((cS _).mono fun e w' h => ⟨h.1, h.2.out⟩)))))
  refine wpQuiet_nil ?_
  intro wq hw'
  obtain ⟨nq, hw''⟩ := hw'
  have Hq := H.drewN nq
  have hoq := rowF_on ho (Drawn0.below ⟨⟨nq, rfl⟩⟩)
  rw [← hw''] at Hq hoq
  clear hw''
  (clear H ho; have H := Hq; have ho := hoq; clear Hq hoq)
  have hne := own_ne H ho (fun x hx => by rcases List.mem_cons.1 hx with rfl | hx; exact ty.1; exact ty.2 x hx)
  go_wp2_with (first | (((with_reducible refine at_load 3 ?_)); refine wpList_load_H rfl 3 _ rfl (Try.isAgg3) _ _ rfl H (.head _) _ rfl ?_) | (((with_reducible refine at_store 3 ?_)); refine wpList_store_H rfl 3 _ _ rfl _ _ rfl [.int .i64 ((at_ : Int) + 1 + 1)] rfl (Try.sizeOf3) rfl (A := []) H (Nat.le_of_ble_eq_true rfl) _ rfl ?_; intro w2 H2 hg2; simp only [List.take_succ_cons, List.take_zero, List.drop_succ_cons, List.drop_zero, List.nil_append, List.cons_append, List.length_cons, List.length_nil, Nat.reduceAdd, Nat.zero_add] at H2; replace H := H2; replace ho := ho.kept hg2 (.inr (hne _ (.head _))); replace hne := hne; clear H2 hg2))
  refine (Bld.writeRune (RD.shut H hp ho ty) rfl rd_lies n (by omega) (by omega) hlen).mono ?_
  rintro e w' ⟨⟨m, rfl⟩, hr⟩
  go_wp2
  rw [follow_ret]
  go_ret
  exact ⟨rfl, hr⟩


theorem all_bytes8 {p : UInt8 → Prop} (h : ∀ i : Fin 256, p (UInt8.ofFin i)) (c : UInt8) : p c := h c.toFin
/-- A digit to sixteen; -1: none. -/
def hexD (c : UInt8) : Int := if 48 ≤ c ∧ c ≤ 57 then (c.toNat : Int) - 48 else if 97 ≤ c ∧ c ≤ 102 then (c.toNat : Int) - 87 else if 65 ≤ c ∧ c ≤ 70 then (c.toNat : Int) - 55 else -1
theorem hexD_le (c : UInt8) : -1 ≤ hexD c ∧ hexD c ≤ 15 := all_bytes8 (p := fun c => -1 ≤ hexD c ∧ hexD c ≤ 15) (by decide +kernel) c
/-- m digits from there on, to the number n. -/
def hexRun : Nat → List UInt8 → Int → Option Int
  | 0, _, n => some n
  | _ + 1, [], _ => none
  | m + 1, c :: l, n => if hexD c < 0 then none else if 1114111 < n then none else hexRun m l (n * 16 + hexD c)
def HexPost (w0 : World) (L : List (Nat × List Value × TypeId)) (b : Nat) (v : Int) (s : ByteArray) (at_ wd : Nat) (l : List UInt8) (code off : Int) (R : Option Int) (ok : Int → Bool) (e : Ending) (w' : World) : Prop :=
  match R with
  | some n => if ok n = true then e = .returned (.bool true) ∧ RD w0 L b v s (at_ + 2 + wd) (l ++ Lib.encodeRune n) code off w' else e = .returned (.bool false) ∧ ∃ a', RD w0 L b v s a' l 14 at_ w'
  | none => e = .returned (.bool false) ∧ ∃ a', RD w0 L b v s a' l 14 at_ w'

theorem HexPost.bad {w0 : World} {L : List (Nat × List Value × TypeId)} {b : Nat} {v : Int} {s : ByteArray} {at_ wd : Nat} {l : List UInt8} {code off : Int} {R : Option Int} {ok : Int → Bool} {e : Ending} {w' : World} {a' : Nat}
    (hR : R = none ∨ ∃ n, R = some n ∧ ok n = false) (he : e = .returned (.bool false)) (hr : RD w0 L b v s a' l 14 at_ w') : HexPost w0 L b v s at_ wd l code off R ok e w' := by
  unfold HexPost
  rcases hR with rfl | ⟨n, rfl, hv⟩
  · exact ⟨he, a', hr⟩
  · show if ok n = true then _ else _
    rw [if_neg (by rw [hv]; decide)]
    exact ⟨he, a', hr⟩
theorem HexPost.good {w0 : World} {L : List (Nat × List Value × TypeId)} {b : Nat} {v : Int} {s : ByteArray} {at_ wd : Nat} {l : List UInt8} {code off : Int} {R : Option Int} {ok : Int → Bool} {e : Ending} {w' : World} {n : Int}
    (hR : R = some n) (hv : ok n = true) (he : e = .returned (.bool true)) (hr : RD w0 L b v s (at_ + 2 + wd) (l ++ Lib.encodeRune n) code off w') : HexPost w0 L b v s at_ wd l code off R ok e w' := by
  subst hR
  unfold HexPost
  show if ok n = true then _ else _
  rw [if_pos hv]
  exact ⟨he, hr⟩

set_option maxRecDepth 100000 in
set_option maxHeartbeats 8000000 in
theorem turned_hex {w0 w : World} {L : List (Nat × List Value × TypeId)} {b : Nat} {v : Int} {s : ByteArray} {at_ : Nat} {l : List UInt8} {code off : Int} (hz : s.size ≤ 1000000) (hat : at_ ≤ 1000000) (hlt : at_ + 1 < s.size) (wd : Nat) (hwd : 1 < wd) (hwd2 : wd ≤ 8) (hlen : l.length + 4 ≤ 140737488355328) (ok : Int → Bool)
    (cB : ∀ w, Calls Try.prog 31 #[.int .i64 v, .string s, .int .i64 ((at_ : Int) + 1)] w fun e w' => e = .returned (.int .i64 0) ∧ Drawn0 w w')
    (cI : ∀ w, Calls Try.prog 46 #[.string ⟨#[45, 45, 120, 45, 117, 45, 45, 45, 85]⟩, .int .u8 ((s[at_ + 1]).toNat : Int)] w fun e w' => e = .returned (.int .i64 (wd : Int)) ∧ Drawn0 w w')
    (cD : ∀ (c : UInt8) w, Calls Try.prog 49 #[.int .u8 (c.toNat : Int)] w fun e w' => e = .returned (.int .i64 (hexD c)) ∧ Drawn0 w w')
    (cV : ∀ (n : Int) w, Calls Try.prog 50 #[.int .i32 n] w fun e w' => e = .returned (.bool (ok n)) ∧ Drawn0 w w')
    (hok : ∀ n, ok n = true → 0 ≤ n ∧ n ≤ 1114111)
    (h : RD w0 L b v s at_ l code off w) :
    Calls Try.prog 34 #[.pointer (some ⟨b, 0, none⟩)] w (HexPost w0 L b v s at_ wd l code off (hexRun wd (s.data.toList.drop (at_ + 2)) 0) ok) := by
  have hi : (at_ : Int) + 1 < (s.size : Int) := by omega
  have hd : decide ((s.size : Int) ≤ (at_ : Int) + 1) = false := decide_eq_false (by omega)
  have hix : ∀ w, (Instr.index 9 (.string s) (.int .i64 ((at_ : Int) + 1))).run Try.prog w = .ok (.int .u8 ((s[at_ + 1]).toNat : Int)) w := index_at s (at_ + 1) hlt
  have hkd : decide (1 < (wd : Int)) = true := decide_eq_true (by omega)
  obtain ⟨R, hRR⟩ : ∃ R, hexRun wd (s.data.toList.drop (at_ + 2)) 0 = R := ⟨_, rfl⟩
  rw [hRR]
  have HRR := Lib.hid hRR
  clear hRR
  obtain ⟨p, buf, H, hp, ho, ty⟩ := h.opened
  have hne := own_ne H ho (fun x hx => by rcases List.mem_cons.1 hx with rfl | hx; exact ty.1; exact ty.2 x hx)
  clear h
  go_enter Try.func34, Try.ntmps34
  go_wp2_with fail
  refine wp_scope_follow 0 (fun _ _ => False) (fun _ _ => 0) 6 rfl ?_ (fun _ _ h => h.elim)
  go_wp2_with (first | (((with_reducible refine at_load 3 ?_)); refine wpList_load_H rfl 3 _ rfl (Try.isAgg3) _ _ rfl H (.head _) _ rfl ?_) | (((with_reducible refine at_store 3 ?_)); refine wpList_store_H rfl 3 _ _ rfl _ _ rfl [.int .i64 ((at_ : Int) + 1)] rfl (Try.sizeOf3) rfl (A := []) H (Nat.le_of_ble_eq_true rfl) _ rfl ?_; intro w2 H2 hg2; simp only [List.take_succ_cons, List.take_zero, List.drop_succ_cons, List.drop_zero, List.nil_append, List.cons_append, List.length_cons, List.length_nil, Nat.reduceAdd, Nat.zero_add] at H2; replace H := H2; replace ho := ho.kept hg2 (.inr (hne _ (.head _))); replace hne := hne; clear H2 hg2))
  try simp only [List.append_eq, List.cons_append, List.nil_append, Act.put, List.setIfInBounds_toArray, List.set_cons_zero, List.set_cons_succ]
  refine wp_region_quiet_lit (by kernel_rfl) (by kernel_rfl) ?_
  repeat (first | (((with_reducible refine at_qload 3 ?_)); refine wpQuiet_load_H rfl 3 _ rfl (Try.isAgg3) _ _ rfl H (.head _) _ rfl ?_; try simp only [Act.put, List.setIfInBounds_toArray, List.set_cons_zero, List.set_cons_succ]) | (((with_reducible refine at_qload 9 ?_)); refine wpQuiet_load_H rfl 9 _ rfl (Try.isAgg9) _ _ rfl H (.head _) _ rfl ?_; try simp only [Act.put, List.setIfInBounds_toArray, List.set_cons_zero, List.set_cons_succ]) | (go_big_quiet_step ((fail))))
  refine wpQuiet_nil ?_
  intro wq hw'
  obtain ⟨nq, hw''⟩ := hw'
  have Hq := H.drewN nq
  have hoq := rowF_on ho (Drawn0.below ⟨⟨nq, rfl⟩⟩)
  rw [← hw''] at Hq hoq
  clear hw''
  (clear H ho; have H := Hq; have ho := hoq; clear Hq hoq)
  go_wp2_with fail
  try simp only [List.append_eq, List.cons_append, List.nil_append, Act.put, List.setIfInBounds_toArray, List.set_cons_zero, List.set_cons_succ]
  refine wp_region_quiet_lit (by kernel_rfl) (by kernel_rfl) ?_
  repeat (first | (((with_reducible refine at_qload 3 ?_)); refine wpQuiet_load_H rfl 3 _ rfl (Try.isAgg3) _ _ rfl H (.head _) _ rfl ?_; try simp only [Act.put, List.setIfInBounds_toArray, List.set_cons_zero, List.set_cons_succ]) | (((with_reducible refine at_qload 9 ?_)); refine wpQuiet_load_H rfl 9 _ rfl (Try.isAgg9) _ _ rfl H (.head _) _ rfl ?_; try simp only [Act.put, List.setIfInBounds_toArray, List.set_cons_zero, List.set_cons_succ]) | (go_big_quiet_step ((exact Calls.quiet_of ((cB _).mono fun e w' h => ⟨h.1, h.2.out⟩)))))
  refine wpQuiet_nil ?_
  intro wq hw'
  obtain ⟨nq, hw''⟩ := hw'
  have Hq := H.drewN nq
  have hoq := rowF_on ho (Drawn0.below ⟨⟨nq, rfl⟩⟩)
  rw [← hw''] at Hq hoq
  clear hw''
  (clear H ho; have H := Hq; have ho := hoq; clear Hq hoq)
  go_wp2_with fail
  try simp only [List.append_eq, List.cons_append, List.nil_append, Act.put, List.setIfInBounds_toArray, List.set_cons_zero, List.set_cons_succ]
  refine wp_region_quiet_lit (by kernel_rfl) (by kernel_rfl) ?_
  repeat (first | (((with_reducible refine at_qload 3 ?_)); refine wpQuiet_load_H rfl 3 _ rfl (Try.isAgg3) _ _ rfl H (.head _) _ rfl ?_; try simp only [Act.put, List.setIfInBounds_toArray, List.set_cons_zero, List.set_cons_succ]) | (((with_reducible refine at_qload 9 ?_)); refine wpQuiet_load_H rfl 9 _ rfl (Try.isAgg9) _ _ rfl H (.head _) _ rfl ?_; try simp only [Act.put, List.setIfInBounds_toArray, List.set_cons_zero, List.set_cons_succ]) | (go_big_quiet_step ((exact Calls.quiet_of ((cI _).mono fun e w' h => ⟨h.1, h.2.out⟩)))))
  refine wpQuiet_nil ?_
  intro wq hw'
  obtain ⟨nq, hw''⟩ := hw'
  have Hq := H.drewN nq
  have hoq := rowF_on ho (Drawn0.below ⟨⟨nq, rfl⟩⟩)
  rw [← hw''] at Hq hoq
  clear hw''
  (clear H ho; have H := Hq; have ho := hoq; clear Hq hoq)
  go_wp2_with fail
  go_step3
  show follow _ _ 0 _ _ _ (Exit.goto _) _ _
  refine follow_goto (by rfl) ?_
  have hne := own_ne H ho (fun x hx => by rcases List.mem_cons.1 hx with rfl | hx; exact ty.1; exact ty.2 x hx)
  go_wp2_with (first | (((with_reducible refine at_load 3 ?_)); refine wpList_load_H rfl 3 _ rfl (Try.isAgg3) _ _ rfl H (.head _) _ rfl ?_) | (((with_reducible refine at_store 3 ?_)); refine wpList_store_H rfl 3 _ _ rfl _ _ rfl [.int .i64 ((at_ : Int) + 1 + 1)] rfl (Try.sizeOf3) rfl (A := []) H (Nat.le_of_ble_eq_true rfl) _ rfl ?_; intro w2 H2 hg2; simp only [List.take_succ_cons, List.take_zero, List.drop_succ_cons, List.drop_zero, List.nil_append, List.cons_append, List.length_cons, List.length_nil, Nat.reduceAdd, Nat.zero_add] at H2; replace H := H2; replace ho := ho.kept hg2 (.inr (hne _ (.head _))); replace hne := hne; clear H2 hg2))
  clear cB cI hix hd hi hkd
  have hR : RD w0 L b v s (at_ + 2) l code off _ := RD.shut H hp ho ty
  clear H ho hp hne
  try simp only [List.append_eq, List.cons_append, List.nil_append, Act.put, List.setIfInBounds_toArray, List.set_cons_zero, List.set_cons_succ]
  go_loopw [4, 5] (fun s4 s5 wr => ∃ m j : Nat, ∃ n : Int, m ≤ wd ∧ Hid (j + m = at_ + 2 + wd) ∧ s4 = .int .i64 m ∧ s5 = .int .i32 n ∧ Hid (hexRun m (s.data.toList.drop j) n = R) ∧ 0 ≤ n ∧ n ≤ 17825791 ∧ RD w0 L b v s j l code off wr) (fun s4 _ _ => (intOf s4).toNat)
  case atStart => exact ⟨wd, at_ + 2, 0, Nat.le_refl _, Lib.hid rfl, rfl, rfl, HRR, by omega, by omega, hR⟩
  case round =>
    clear hR HRR
    obtain ⟨m, j, n, hm, hj, rfl, rfl, HR, hn0, hn1, hR⟩ := hrel
    obtain ⟨p, buf, H, hp, ho, _⟩ := RD.opened hR
    clear hR
    have hne := own_ne H ho (fun x hx => by rcases List.mem_cons.1 hx with rfl | hx; exact ty.1; exact ty.2 x hx)
    cases m with
    | zero =>
      have hjm := hj.out
      have hRn : R = some n := by rw [← HR.out]; rfl
      subst hRn
      clear HR
      go_wp2_with fail
      refine (cV n _).mono ?_
      rintro e w' ⟨rfl, hd⟩
      replace H := H.on hd.below
      replace ho := rowF_on ho hd.below
      clear hd hne
      cases hv : ok n
      · go_wp2_with fail
        go_step3
        show follow _ _ 0 _ _ _ (Exit.goto _) _ _
        refine follow_goto (by rfl) ?_
        go_wp2_with fail
        refine (reader_fail 14 at_ (RD.shut H hp ho ty)).mono ?_
        rintro e w' ⟨rfl, hr⟩
        go_wp2
        rw [follow_ret]
        go_ret
        exact HexPost.bad (.inr ⟨n, rfl, hv⟩) rfl hr
      · have hok' := hok n hv
        clear hok
        go_wp2_with fail
        refine (Bld.writeRune (RD.shut H hp ho ty) rfl rd_lies n (by omega) (by omega) hlen).mono ?_
        rintro e w' ⟨⟨m2, rfl⟩, hr⟩
        go_wp2
        rw [follow_ret]
        go_ret
        refine HexPost.good rfl hv rfl ?_
        have e1 : j = at_ + 2 + wd := by omega
        rw [← e1]
        exact hr
    | succ m =>
      have hjm := hj.out
      by_cases hjs : j < s.size
      case neg =>
        have hRn : R = none := by
          rw [← HR.out, List.drop_eq_nil_of_le (by rw [Array.length_toList]; exact Nat.le_of_not_lt hjs)]
          rfl
        subst hRn
        clear HR
        have HD1 : Hid (s.size ≤ j) := Lib.hid (by omega)
        go_wp2_with fail
        try simp only [List.append_eq, List.cons_append, List.nil_append, Act.put, List.setIfInBounds_toArray, List.set_cons_zero, List.set_cons_succ]
        refine wp_region_quiet_lit (by kernel_rfl) (by kernel_rfl) ?_
        repeat (first | (((with_reducible refine at_qload 3 ?_)); refine wpQuiet_load_H rfl 3 _ rfl (Try.isAgg3) _ _ rfl H (.head _) _ rfl ?_; try simp only [Act.put, List.setIfInBounds_toArray, List.set_cons_zero, List.set_cons_succ]) | (((with_reducible refine at_qload 9 ?_)); refine wpQuiet_load_H rfl 9 _ rfl (Try.isAgg9) _ _ rfl H (.head _) _ rfl ?_; try simp only [Act.put, List.setIfInBounds_toArray, List.set_cons_zero, List.set_cons_succ]) | (go_big_quiet_step ((exact Calls.quiet_of ((hcD _).mono fun e w' h => ⟨h.1, h.2.out⟩)))))
        rw [dec_true (p := s.size ≤ j) (by have := HD1.out; omega)]
        repeat (go_big_quiet_step ((fail)))
        refine wpQuiet_nil ?_
        intro wq hw'
        obtain ⟨nq, hw''⟩ := hw'
        have Hq := H.drewN nq
        have hoq := rowF_on ho (Drawn0.below ⟨⟨nq, rfl⟩⟩)
        rw [← hw''] at Hq hoq
        clear hw''
        (clear H ho; have H := Hq; have ho := hoq; clear Hq hoq)
        go_wp2_with fail
        go_step3
        show follow _ _ 0 _ _ _ (Exit.goto _) _ _
        refine follow_goto (by rfl) ?_
        go_wp2_with fail
        refine (reader_fail 14 at_ (RD.shut H hp ho ty)).mono ?_
        rintro e w' ⟨rfl, hr⟩
        go_wp2
        rw [follow_ret]
        go_ret
        exact HexPost.bad (.inl rfl) rfl hr
      case pos =>
        have hix := index_at s j hjs
        have hdr : s.data.toList.drop j = s[j] :: s.data.toList.drop (j + 1) := by
          rw [List.drop_eq_getElem_cons (by simpa using hjs)]
          rfl
        have hR2 := HR.out
        rw [hdr, hexRun] at hR2
        clear HR hdr
        have hcD := cD s[j]
        have hl := hexD_le s[j]
        generalize hexD s[j] = d at hR2 hcD hl
        have HD1 : Hid (¬ s.size ≤ j) := Lib.hid (by omega)
        by_cases hneg : d < 0
        · rw [if_pos hneg] at hR2
          subst hR2
          have HD2 : Hid (d < 0) := Lib.hid hneg
          clear hneg
          go_wp2_with fail
          try simp only [List.append_eq, List.cons_append, List.nil_append, Act.put, List.setIfInBounds_toArray, List.set_cons_zero, List.set_cons_succ]
          refine wp_region_quiet_lit (by kernel_rfl) (by kernel_rfl) ?_
          repeat (first | (((with_reducible refine at_qload 3 ?_)); refine wpQuiet_load_H rfl 3 _ rfl (Try.isAgg3) _ _ rfl H (.head _) _ rfl ?_; try simp only [Act.put, List.setIfInBounds_toArray, List.set_cons_zero, List.set_cons_succ]) | (((with_reducible refine at_qload 9 ?_)); refine wpQuiet_load_H rfl 9 _ rfl (Try.isAgg9) _ _ rfl H (.head _) _ rfl ?_; try simp only [Act.put, List.setIfInBounds_toArray, List.set_cons_zero, List.set_cons_succ]) | (go_big_quiet_step ((exact Calls.quiet_of ((hcD _).mono fun e w' h => ⟨h.1, h.2.out⟩)))))
          rw [dec_false (p := s.size ≤ j) (by have := HD1.out; omega)]
          repeat (first | (((with_reducible refine at_qload 3 ?_)); refine wpQuiet_load_H rfl 3 _ rfl (Try.isAgg3) _ _ rfl H (.head _) _ rfl ?_; try simp only [Act.put, List.setIfInBounds_toArray, List.set_cons_zero, List.set_cons_succ]) | (((with_reducible refine at_qload 9 ?_)); refine wpQuiet_load_H rfl 9 _ rfl (Try.isAgg9) _ _ rfl H (.head _) _ rfl ?_; try simp only [Act.put, List.setIfInBounds_toArray, List.set_cons_zero, List.set_cons_succ]) | (go_big_quiet_step ((exact Calls.quiet_of ((hcD _).mono fun e w' h => ⟨h.1, h.2.out⟩)))))
          rw [dec_true (p := d < 0) (by have := HD2.out; omega)]
          repeat (go_big_quiet_step ((fail)))
          refine wpQuiet_nil ?_
          intro wq hw'
          obtain ⟨nq, hw''⟩ := hw'
          have Hq := H.drewN nq
          have hoq := rowF_on ho (Drawn0.below ⟨⟨nq, rfl⟩⟩)
          rw [← hw''] at Hq hoq
          clear hw''
          (clear H ho; have H := Hq; have ho := hoq; clear Hq hoq)
          go_wp2_with fail
          go_step3
          show follow _ _ 0 _ _ _ (Exit.goto _) _ _
          refine follow_goto (by rfl) ?_
          go_wp2_with fail
          refine (reader_fail 14 at_ (RD.shut H hp ho ty)).mono ?_
          rintro e w' ⟨rfl, hr⟩
          go_wp2
          rw [follow_ret]
          go_ret
          exact HexPost.bad (.inl rfl) rfl hr
        · rw [if_neg hneg] at hR2
          have HD2 : Hid (¬ d < 0) := Lib.hid hneg
          have hd0 : 0 ≤ d := by omega
          by_cases hbig : 1114111 < n
          · rw [if_pos hbig] at hR2
            subst hR2
            go_wp2_with fail
            try simp only [List.append_eq, List.cons_append, List.nil_append, Act.put, List.setIfInBounds_toArray, List.set_cons_zero, List.set_cons_succ]
            refine wp_region_quiet_lit (by kernel_rfl) (by kernel_rfl) ?_
            repeat (first | (((with_reducible refine at_qload 3 ?_)); refine wpQuiet_load_H rfl 3 _ rfl (Try.isAgg3) _ _ rfl H (.head _) _ rfl ?_; try simp only [Act.put, List.setIfInBounds_toArray, List.set_cons_zero, List.set_cons_succ]) | (((with_reducible refine at_qload 9 ?_)); refine wpQuiet_load_H rfl 9 _ rfl (Try.isAgg9) _ _ rfl H (.head _) _ rfl ?_; try simp only [Act.put, List.setIfInBounds_toArray, List.set_cons_zero, List.set_cons_succ]) | (go_big_quiet_step ((exact Calls.quiet_of ((hcD _).mono fun e w' h => ⟨h.1, h.2.out⟩)))))
            rw [dec_false (p := s.size ≤ j) (by have := HD1.out; omega)]
            repeat (first | (((with_reducible refine at_qload 3 ?_)); refine wpQuiet_load_H rfl 3 _ rfl (Try.isAgg3) _ _ rfl H (.head _) _ rfl ?_; try simp only [Act.put, List.setIfInBounds_toArray, List.set_cons_zero, List.set_cons_succ]) | (((with_reducible refine at_qload 9 ?_)); refine wpQuiet_load_H rfl 9 _ rfl (Try.isAgg9) _ _ rfl H (.head _) _ rfl ?_; try simp only [Act.put, List.setIfInBounds_toArray, List.set_cons_zero, List.set_cons_succ]) | (go_big_quiet_step ((exact Calls.quiet_of ((hcD _).mono fun e w' h => ⟨h.1, h.2.out⟩)))))
            rw [dec_false (p := d < 0) (by have := HD2.out; omega)]
            repeat (first | (((with_reducible refine at_qload 3 ?_)); refine wpQuiet_load_H rfl 3 _ rfl (Try.isAgg3) _ _ rfl H (.head _) _ rfl ?_; try simp only [Act.put, List.setIfInBounds_toArray, List.set_cons_zero, List.set_cons_succ]) | (((with_reducible refine at_qload 9 ?_)); refine wpQuiet_load_H rfl 9 _ rfl (Try.isAgg9) _ _ rfl H (.head _) _ rfl ?_; try simp only [Act.put, List.setIfInBounds_toArray, List.set_cons_zero, List.set_cons_succ]) | (go_big_quiet_step ((exact Calls.quiet_of ((hcD _).mono fun e w' h => ⟨h.1, h.2.out⟩)))))
            refine wpQuiet_nil ?_
            intro wq hw'
            obtain ⟨nq, hw''⟩ := hw'
            have Hq := H.drewN nq
            have hoq := rowF_on ho (Drawn0.below ⟨⟨nq, rfl⟩⟩)
            rw [← hw''] at Hq hoq
            clear hw''
            (clear H ho; have H := Hq; have ho := hoq; clear Hq hoq)
            go_wp2_with fail
            go_step3
            show follow _ _ 0 _ _ _ (Exit.goto _) _ _
            refine follow_goto (by rfl) ?_
            go_wp2_with fail
            refine (reader_fail 14 at_ (RD.shut H hp ho ty)).mono ?_
            rintro e w' ⟨rfl, hr⟩
            go_wp2
            rw [follow_ret]
            go_ret
            exact HexPost.bad (.inl rfl) rfl hr
          · rw [if_neg hbig] at hR2
            have HR := Lib.hid hR2
            clear hR2
            go_wp2_with fail
            try simp only [List.append_eq, List.cons_append, List.nil_append, Act.put, List.setIfInBounds_toArray, List.set_cons_zero, List.set_cons_succ]
            refine wp_region_quiet_lit (by kernel_rfl) (by kernel_rfl) ?_
            repeat (first | (((with_reducible refine at_qload 3 ?_)); refine wpQuiet_load_H rfl 3 _ rfl (Try.isAgg3) _ _ rfl H (.head _) _ rfl ?_; try simp only [Act.put, List.setIfInBounds_toArray, List.set_cons_zero, List.set_cons_succ]) | (((with_reducible refine at_qload 9 ?_)); refine wpQuiet_load_H rfl 9 _ rfl (Try.isAgg9) _ _ rfl H (.head _) _ rfl ?_; try simp only [Act.put, List.setIfInBounds_toArray, List.set_cons_zero, List.set_cons_succ]) | (go_big_quiet_step ((exact Calls.quiet_of ((hcD _).mono fun e w' h => ⟨h.1, h.2.out⟩)))))
            rw [dec_false (p := s.size ≤ j) (by have := HD1.out; omega)]
            repeat (first | (((with_reducible refine at_qload 3 ?_)); refine wpQuiet_load_H rfl 3 _ rfl (Try.isAgg3) _ _ rfl H (.head _) _ rfl ?_; try simp only [Act.put, List.setIfInBounds_toArray, List.set_cons_zero, List.set_cons_succ]) | (((with_reducible refine at_qload 9 ?_)); refine wpQuiet_load_H rfl 9 _ rfl (Try.isAgg9) _ _ rfl H (.head _) _ rfl ?_; try simp only [Act.put, List.setIfInBounds_toArray, List.set_cons_zero, List.set_cons_succ]) | (go_big_quiet_step ((exact Calls.quiet_of ((hcD _).mono fun e w' h => ⟨h.1, h.2.out⟩)))))
            rw [dec_false (p := d < 0) (by have := HD2.out; omega)]
            repeat (first | (((with_reducible refine at_qload 3 ?_)); refine wpQuiet_load_H rfl 3 _ rfl (Try.isAgg3) _ _ rfl H (.head _) _ rfl ?_; try simp only [Act.put, List.setIfInBounds_toArray, List.set_cons_zero, List.set_cons_succ]) | (((with_reducible refine at_qload 9 ?_)); refine wpQuiet_load_H rfl 9 _ rfl (Try.isAgg9) _ _ rfl H (.head _) _ rfl ?_; try simp only [Act.put, List.setIfInBounds_toArray, List.set_cons_zero, List.set_cons_succ]) | (go_big_quiet_step ((exact Calls.quiet_of ((hcD _).mono fun e w' h => ⟨h.1, h.2.out⟩)))))
            refine wpQuiet_nil ?_
            intro wq hw'
            obtain ⟨nq, hw''⟩ := hw'
            have Hq := H.drewN nq
            have hoq := rowF_on ho (Drawn0.below ⟨⟨nq, rfl⟩⟩)
            rw [← hw''] at Hq hoq
            clear hw''
            (clear H ho; have H := Hq; have ho := hoq; clear Hq hoq)
            go_wp2_with fail
            try simp only [List.append_eq, List.cons_append, List.nil_append, Act.put, List.setIfInBounds_toArray, List.set_cons_zero, List.set_cons_succ]
            refine wp_region_quiet_lit (by kernel_rfl) (by kernel_rfl) ?_
            repeat (first | (((with_reducible refine at_qload 3 ?_)); refine wpQuiet_load_H rfl 3 _ rfl (Try.isAgg3) _ _ rfl H (.head _) _ rfl ?_; try simp only [Act.put, List.setIfInBounds_toArray, List.set_cons_zero, List.set_cons_succ]) | (((with_reducible refine at_qload 9 ?_)); refine wpQuiet_load_H rfl 9 _ rfl (Try.isAgg9) _ _ rfl H (.head _) _ rfl ?_; try simp only [Act.put, List.setIfInBounds_toArray, List.set_cons_zero, List.set_cons_succ]) | (go_big_quiet_step ((exact Calls.quiet_of ((hcD _).mono fun e w' h => ⟨h.1, h.2.out⟩)))))
            refine wpQuiet_nil ?_
            intro wq hw'
            obtain ⟨nq, hw''⟩ := hw'
            have Hq := H.drewN nq
            have hoq := rowF_on ho (Drawn0.below ⟨⟨nq, rfl⟩⟩)
            rw [← hw''] at Hq hoq
            clear hw''
            (clear H ho; have H := Hq; have ho := hoq; clear Hq hoq)
            have e16 := or_sixteen n d hn0 (by omega) hd0 hl.2
            rw [e16]
            go_wp2_with (first | (((with_reducible refine at_load 3 ?_)); refine wpList_load_H rfl 3 _ rfl (Try.isAgg3) _ _ rfl H (.head _) _ rfl ?_) | (((with_reducible refine at_store 3 ?_)); refine wpList_store_H rfl 3 _ _ rfl _ _ rfl [.int .i64 ((j : Int) + 1)] rfl (Try.sizeOf3) rfl (A := []) H (Nat.le_of_ble_eq_true rfl) _ rfl ?_; intro w2 H2 hg2; simp only [List.take_succ_cons, List.take_zero, List.drop_succ_cons, List.drop_zero, List.nil_append, List.cons_append, List.length_cons, List.length_nil, Nat.reduceAdd, Nat.zero_add] at H2; replace H := H2; replace ho := ho.kept hg2 (.inr (hne _ (.head _))); replace hne := hne; clear H2 hg2))
            go_roundw
            case rel => exact ⟨m, j + 1, n * 16 + d, by omega, Lib.hid (by omega), by go_num, rfl, HR, by omega, by omega, RD.shut H hp ho ty⟩
            case measure => simp [intOf]
end Go.Proofs.Ytgbnbjajaaggkaa.Q
