-- Written by hookprint.py (a program of this project, over the kit's printer). Not trusted: Lean checks it.
import Derived.Test.YtaoameejkpipcaaQx0
import Derived.Test.YtaoameejkpipcaaQx1
import Derived.Test.YtaoameejkpipcaaQx2
namespace Go.Proofs.Ytaoameejkpipcaa.Q
open Go.RowKit Go.Proofs.YtaoameejkpipcaaW.PrintWords Go.Proofs.YtaoameejkpipcaaW.PrintLast Go.Proofs.YtaoameejkpipcaaW.PrintMore
attribute [local go_sem] max2_int min2_int max_two min_two max_three min_three max_four min_four   -- for this text's walks alone
set_option linter.unusedVariables false
set_option linter.unusedSimpArgs false

/-! ### prop_Read: function 13 -/
structure prop_Read.St where
  has : Bool
  tagged : Bool
  verb : Bool
  handle : ByteArray
  suffix : ByteArray
  anchor : ByteArray
  pat : Int
  pend : Int
  pname : Int
def prop_Read.St.cells (p : prop_Read.St) : List Value := [.bool p.has, .bool p.tagged, .bool p.verb, .string p.handle, .string p.suffix, .string p.anchor, .int .i64 p.pat, .int .i64 p.pend, .int .i64 p.pname]
abbrev prop_Read.R := Bool × Bool × Bool × ByteArray × ByteArray × ByteArray × Int × Int × Int × Int × Int × Int
def prop_Read.wrong (i : Int) : prop_Read.R := (false, false, false, ⟨#[]⟩, ⟨#[]⟩, ⟨#[]⟩, 0, 0, 0, 0, 11, i)
def prop_Read.St.out (p : prop_Read.St) (i : Int) : prop_Read.R := (p.has, p.tagged, p.verb, p.handle, p.suffix, p.anchor, p.pat, p.pend, p.pname, i, 0, 0)
def prop_Read.both (k : Nat) (v : Int) (s : ByteArray) (flow : Bool) (l : prop_Read.St → Int → Option prop_Read.R) (p : prop_Read.St) (i e : Int) (ok : Bool) : Option prop_Read.R :=
  if ok = true then (rows_Stop.f v s e flow).bind fun st => if st = true then (rows_Over.f k s e).bind fun o => l { p with has := true, pat := if p.has = true then p.pat else i, pend := e } o
    else some (prop_Read.wrong i)
  else some (prop_Read.wrong i)
def prop_Read.l0 : Nat → Int → ByteArray → Bool → prop_Read.St → Int → Option prop_Read.R
  | 0, _, _, _, _, _ => none
  | k + 1, v, s, flow, p, i =>
    if i < 0 ∨ i ≥ (s.size : Int) then some (p.out i)
    else if bt s i = 33 then
      if p.tagged = true then some (prop_Read.wrong i)
      else (tagname_Read.f s i).bind fun r => prop_Read.both k v s flow (prop_Read.l0 k v s flow) { p with tagged := true, verb := r.1, handle := r.2.1, suffix := r.2.2.1 } i r.2.2.2.1 r.2.2.2.2
    else if bt s i = 38 then
      if p.anchor.toList = [] then (prop_name.f k s (i + 1)).bind fun e => if i + 1 ≤ e ∧ e ≤ (s.size : Int) then
          prop_Read.both k v s flow (prop_Read.l0 k v s flow) { p with anchor := s.extract (i + 1).toNat e.toNat, pname := i + 1 } i e (decide (e > i + 1)) else none
      else some (prop_Read.wrong i)
    else some (p.out i)
def prop_Read.zero : prop_Read.St := ⟨false, false, false, ⟨#[]⟩, ⟨#[]⟩, ⟨#[]⟩, 0, 0, 0⟩
def prop_Read.f (k : Nat) (a0 : Int) (a1 : ByteArray) (a2 : Int) (a3 : Bool) : Option prop_Read.R :=
  if a1.size ≤ 140737488351232 then prop_Read.l0 k a0 a1 a3 prop_Read.zero a2 else none
theorem prop_Read.mono_l : ∀ k v s flow p i, LeO (prop_Read.l0 k v s flow p i) (prop_Read.l0 (k + 1) v s flow p i)
  | 0 => fun _ _ _ _ _ r h => by simp [prop_Read.l0] at h
  | k + 1 => by
    have ih := prop_Read.mono_l k
    have hb : ∀ v s flow p i e ok, LeO (prop_Read.both k v s flow (prop_Read.l0 k v s flow) p i e ok) (prop_Read.both (k + 1) v s flow (prop_Read.l0 (k + 1) v s flow) p i e ok) := by
      intro v s flow p i e ok
      unfold prop_Read.both
      refine LeO.ite (LeO.bind (LeO.refl _) fun st => LeO.ite (LeO.bind (rows_Over.mono _ _ _) fun o => ih _ _ _ _ _) (LeO.refl _)) (LeO.refl _)
    intro v s flow p i
    unfold prop_Read.l0
    refine LeO.ite (LeO.refl _) (LeO.ite (LeO.ite (LeO.refl _) (LeO.bind (LeO.refl _) fun r => hb _ _ _ _ _ _ _)) (LeO.ite (LeO.ite (LeO.bind (prop_name.mono _ _ _) fun e => LeO.ite (hb _ _ _ _ _ _ _) (LeO.none _)) (LeO.refl _)) (LeO.refl _)))
theorem prop_Read.mono : ∀ a0 a1 a2 a3 k, LeO (prop_Read.f k a0 a1 a2 a3) (prop_Read.f (k + 1) a0 a1 a2 a3) := by
  intro a0 a1 a2 a3 k
  unfold prop_Read.f
  exact LeO.ite (prop_Read.mono_l _ _ _ _ _ _) (LeO.none _)

def prop_Read.pat (v : Int) (s : ByteArray) (i0 : Int) (flow : Bool) (b1 b2 b3 : Nat) (i : Int) (u : Nat → Value) : Array Value :=
  #[.int .i64 v, .string s, .int .i64 i0, .bool flow, u 4, u 5, u 6, u 7, .pointer (some ⟨b1, 0, none⟩), u 9, .pointer (some ⟨b2, 0, none⟩), .pointer (some ⟨b3, 0, none⟩), .int .i64 i, u 13, u 14, u 15, u 16, u 17, u 18, u 19, u 20, u 21, u 22, u 23, u 24, u 25, u 26, u 27, u 28, u 29, u 30, u 31, u 32, u 33, u 34, u 35, u 36, u 37, u 38, u 39, u 40, u 41, u 42, u 43, u 44, u 45, u 46, u 47, u 48, u 49, u 50, u 51, u 52, u 53, u 54, u 55, u 56, u 57, u 58, u 59, u 60, u 61, u 62, u 63, u 64, u 65, u 66, u 67, u 68, u 69, u 70, u 71, u 72, u 73, u 74, u 75, u 76, u 77, u 78, u 79, u 80, u 81, u 82, u 83, u 84, u 85, u 86, u 87, u 88, u 89, u 90, u 91, u 92, u 93, u 94]
def prop_Read.J (w : World) (v : Int) (s : ByteArray) (i0 : Int) (flow : Bool) (b1 b2 b3 : Nat) (r : prop_Read.R) (N : Nat) (a' : Act) (w' : World) : Prop :=
  ∃ (p : prop_Read.St) (i : Int) (u : Nat → Value), a' = { tmps := prop_Read.pat v s i0 flow b1 b2 b3 i u, defers := [] } ∧
    Holds w [(b3, p.cells, 33), (b2, [.int .i64 0, .int .i64 0], 36), (b1, prop_Read.zero.cells, 33)] w' ∧ prop_Read.l0 N v s flow p i = some r
theorem prop_Read.J.mk {w : World} {v : Int} {s : ByteArray} {i0 : Int} {flow : Bool} {b1 b2 b3 : Nat} {r : prop_Read.R} {N : Nat} {w' : World} (p : prop_Read.St) (i : Int) (ts : Array Value) (hu : ts = prop_Read.pat v s i0 flow b1 b2 b3 i (fun n => ts.getD n undef)) (H : Holds w [(b3, p.cells, 33), (b2, [.int .i64 0, .int .i64 0], 36), (b1, prop_Read.zero.cells, 33)] w') (hl : prop_Read.l0 N v s flow p i = some r) :
    prop_Read.J w v s i0 flow b1 b2 b3 r N { tmps := ts, defers := [] } w' :=
  ⟨p, i, fun n => ts.getD n undef, by rw [← hu], H, hl⟩
theorem prop_Read.fin (tmps : Array Value) (i : Int) (b1 b2 : Nat) (w w' : World) (h8 : tmps.getD 8 undef = .pointer (some ⟨b1, 0, none⟩)) (h9 : tmps.getD 9 undef = .int .i64 i) (h10 : tmps.getD 10 undef = .pointer (some ⟨b2, 0, none⟩))
    {L : List (Nat × List Value × TypeId)} (H : Holds w L w') {c1 c2 : List Value} (m1 : (b1, c1, 33) ∈ L) (m2 : (b2, c2, 36) ∈ L) (hc1 : c1.length = 9) (hc2 : c2.length = 2) :
    (results Try.f13 tmps).run Try.prog w' = .ok (.tuple #[.agg c1.toArray, .int .i64 i, .agg c2.toArray]) w' := by
  have l1 := run_loadVar_H (P := Try.prog) H m1 33 Try.isAgg33 9 Try.sizeOf33 0 (by omega)
  have l2 := run_loadVar_H (P := Try.prog) H m2 36 Try.isAgg36 2 Try.sizeOf36 0 (by omega)
  rw [List.drop_zero, List.take_of_length_le (by omega)] at l1 l2
  have h8' : tmps[8]?.getD undef = .pointer (some ⟨b1, 0, none⟩) := by simpa using h8
  have h9' : tmps[9]?.getD undef = .int .i64 i := by simpa using h9
  have h10' : tmps[10]?.getD undef = .pointer (some ⟨b2, 0, none⟩) := by simpa using h10
  simp [results, Try.results13, h8', h9', h10', asAddr, l1, l2]

set_option maxHeartbeats 20000000 in
theorem prop_Read.calls (k : Nat) (a0 : Int) (a1 : ByteArray) (a2 : Int) (a3 : Bool) (r1 : Bool) (r2 : Bool) (r3 : Bool) (r4 : ByteArray) (r5 : ByteArray) (r6 : ByteArray) (r7 : Int) (r8 : Int) (r9 : Int) (r10 : Int) (r11 : Int) (r12 : Int) (w : World) (h : prop_Read.f k a0 a1 a2 a3 = some (r1, r2, r3, r4, r5, r6, r7, r8, r9, r10, r11, r12)) :
    Calls Try.prog 13 #[.int .i64 a0, .string a1, .int .i64 a2, .bool a3] w fun e w' => e = .returned (.tuple #[.agg #[.bool r1, .bool r2, .bool r3, .string r4, .string r5, .string r6, .int .i64 r7, .int .i64 r8, .int .i64 r9], .int .i64 r10, .agg #[.int .i64 r11, .int .i64 r12]]) ∧ Below w.heap.size w w' := by
  unfold prop_Read.f at h
  split at h
  case isFalse => cases h
  rename_i hs
  have H := Holds.nil w
  go_enter Try.func13, Try.ntmps13
  go_wp2_with (first | (refine wpList_alloc_H rfl 33 rfl _ (Try.zeroValue33) _ rfl H ?_; intro b1 w1 H1 hb1; replace H := H1; clear H1 hb1) | (refine wpList_alloc_H rfl 36 rfl _ (Try.zeroValue36) _ rfl H ?_; intro b2 w1 H1 hb1; replace H := H1; clear H1 hb1))
  refine (have pass := ?pass; wp_scope_rounds_skip 0 (fun N a' w' => ∃ b3, prop_Read.J w a0 a1 a2 a3 b1 b2 b3 (r1, r2, r3, r4, r5, r6, r7, r8, r9, r10, r11, r12) N a' w') 5 rfl ?first pass)
  case first =>
    go_wp2_with (first | (refine wpList_alloc_H rfl 33 rfl _ (Try.zeroValue33) _ rfl H ?_; intro b3 w1 H1 hb1; replace H := H1; clear H1 hb1) | (refine wpList_store_H rfl 33 _ _ rfl _ _ rfl _ rfl (Try.sizeOf33) rfl (A := []) H (Nat.le_of_ble_eq_true rfl) _ rfl ?_; intro w2 H2 hg2; replace H := H2; clear H2 hg2))
    go_step3
    rename_i K hK
    refine hK _ _ (wp_mono (pass k _ _ ?j0) ?m0)
    case m0 => exact fun e a w hq => follow_mono (fun a w (hJ : ∃ k', k' < k ∧ _) => ⟨hJ.choose, hJ.choose_spec.2⟩) 5 e a w hq
    case j0 => exact ⟨b3, prop_Read.J.mk prop_Read.zero a2 _ (by rfl) H h⟩
  case pass =>
    intro N a' w' hJ
    obtain ⟨b3, hJ⟩ := hJ
    clear H
    obtain ⟨p, i, u, rfl, H, hl⟩ := hJ
    unfold prop_Read.pat
    cases N with
    | zero => simp [prop_Read.l0] at hl
    | succ N =>
    rw [prop_Read.l0] at hl
    obtain ⟨ph, pt, pv, phd, psf, pan, pat, pend, pnm⟩ := p
    dsimp only [prop_Read.St.cells, prop_Read.St.out, prop_Read.zero] at H hl
    by_cases h1 : i < 0 ∨ i ≥ (a1.size : Int)
    · rw [if_pos h1] at hl
      by_cases h0 : i < 0
      · clear h1
        go_wp2_with (first | (refine wpList_load_H rfl 4 _ rfl (Try.isAgg4) _ _ rfl H (.head _) _ rfl ?_) | (refine wpList_load_H rfl 9 _ rfl (Try.isAgg9) _ _ rfl H (.head _) _ rfl ?_) | (refine wpList_load_H rfl 3 _ rfl (Try.isAgg3) _ _ rfl H (.head _) _ rfl ?_) | (refine wpList_store_H rfl 31 _ _ rfl _ _ rfl _ rfl (Try.sizeOf31) rfl (A := []) H (Nat.le_of_ble_eq_true rfl) _ rfl ?_; intro w2 H2 hg2; replace H := H2; clear H2 hg2) | (refine wpList_store_H rfl 4 _ _ rfl _ _ rfl _ rfl (Try.sizeOf4) rfl (A := []) H (Nat.le_of_ble_eq_true rfl) _ rfl ?_; intro w2 H2 hg2; replace H := H2; clear H2 hg2) | (refine wpList_store_H rfl 9 _ _ rfl _ _ rfl _ rfl (Try.sizeOf9) rfl (A := []) H (Nat.le_of_ble_eq_true rfl) _ rfl ?_; intro w2 H2 hg2; replace H := H2; clear H2 hg2) | (refine wpList_store_H rfl 3 _ _ rfl _ _ rfl _ rfl (Try.sizeOf3) rfl (A := []) H (Nat.le_of_ble_eq_true rfl) _ rfl ?_; intro w2 H2 hg2; replace H := H2; clear H2 hg2) | (refine wpList_loads_H rfl 33 _ rfl (Try.isAgg33) 9 (Try.sizeOf33) _ _ rfl H (.head _) (Nat.le_of_ble_eq_true rfl) _ rfl ?_) | (refine wpList_store_H rfl 33 _ _ rfl _ _ rfl _ rfl (Try.sizeOf33) rfl (A := [_, _]) H (Nat.le_of_ble_eq_true rfl) _ rfl ?_; intro w2 H2 hg2; replace H := H2; clear H2 hg2) | (refine wpList_store_H rfl 36 _ _ rfl _ _ rfl _ rfl (Try.sizeOf36) rfl (A := [_]) H (Nat.le_of_ble_eq_true rfl) _ rfl ?_; intro w2 H2 hg2; replace H := H2; clear H2 hg2))
        rw [follow_ret]
        simp only [prop_Read.wrong, prop_Read.St.out, Option.some.injEq, Prod.mk.injEq] at hl
        obtain ⟨rfl, rfl, rfl, rfl, rfl, rfl, rfl, rfl, rfl, rfl, rfl, rfl⟩ := hl
        exact bodyPost_ret (prop_Read.fin _ _ _ _ _ _ rfl rfl rfl H (.tail _ (.tail _ (.head _))) (.tail _ (.head _)) rfl rfl) rfl ⟨rfl, H.below⟩
      · have h2 : (a1.size : Int) ≤ i := by omega
        have h3 : 0 ≤ i := by omega
        clear h1 h0
        go_wp2_with (first | (refine wpList_load_H rfl 4 _ rfl (Try.isAgg4) _ _ rfl H (.head _) _ rfl ?_) | (refine wpList_load_H rfl 9 _ rfl (Try.isAgg9) _ _ rfl H (.head _) _ rfl ?_) | (refine wpList_load_H rfl 3 _ rfl (Try.isAgg3) _ _ rfl H (.head _) _ rfl ?_) | (refine wpList_store_H rfl 31 _ _ rfl _ _ rfl _ rfl (Try.sizeOf31) rfl (A := []) H (Nat.le_of_ble_eq_true rfl) _ rfl ?_; intro w2 H2 hg2; replace H := H2; clear H2 hg2) | (refine wpList_store_H rfl 4 _ _ rfl _ _ rfl _ rfl (Try.sizeOf4) rfl (A := []) H (Nat.le_of_ble_eq_true rfl) _ rfl ?_; intro w2 H2 hg2; replace H := H2; clear H2 hg2) | (refine wpList_store_H rfl 9 _ _ rfl _ _ rfl _ rfl (Try.sizeOf9) rfl (A := []) H (Nat.le_of_ble_eq_true rfl) _ rfl ?_; intro w2 H2 hg2; replace H := H2; clear H2 hg2) | (refine wpList_store_H rfl 3 _ _ rfl _ _ rfl _ rfl (Try.sizeOf3) rfl (A := []) H (Nat.le_of_ble_eq_true rfl) _ rfl ?_; intro w2 H2 hg2; replace H := H2; clear H2 hg2) | (refine wpList_loads_H rfl 33 _ rfl (Try.isAgg33) 9 (Try.sizeOf33) _ _ rfl H (.head _) (Nat.le_of_ble_eq_true rfl) _ rfl ?_) | (refine wpList_store_H rfl 33 _ _ rfl _ _ rfl _ rfl (Try.sizeOf33) rfl (A := [_, _]) H (Nat.le_of_ble_eq_true rfl) _ rfl ?_; intro w2 H2 hg2; replace H := H2; clear H2 hg2) | (refine wpList_store_H rfl 36 _ _ rfl _ _ rfl _ rfl (Try.sizeOf36) rfl (A := [_]) H (Nat.le_of_ble_eq_true rfl) _ rfl ?_; intro w2 H2 hg2; replace H := H2; clear H2 hg2))
        rw [follow_ret]
        simp only [prop_Read.wrong, prop_Read.St.out, Option.some.injEq, Prod.mk.injEq] at hl
        obtain ⟨rfl, rfl, rfl, rfl, rfl, rfl, rfl, rfl, rfl, rfl, rfl, rfl⟩ := hl
        exact bodyPost_ret (prop_Read.fin _ _ _ _ _ _ rfl rfl rfl H (.tail _ (.tail _ (.head _))) (.tail _ (.head _)) rfl rfl) rfl ⟨rfl, H.below⟩
    rw [if_neg h1] at hl
    obtain ⟨n, rfl⟩ : ∃ n : Nat, i = n := ⟨i.toNat, by omega⟩
    have hn : n < a1.size := by omega
    have hd : decide (a1.size ≤ n) = false := decide_eq_false (by omega)
    clear h1
    have eb : bt a1 (n : Int) = ((a1[n]).toNat : Int) := by simp [bt, hn]
    rw [eb] at hl
    by_cases h33 : ((a1[n]).toNat : Int) = 33
    · rw [if_pos h33] at hl
      have f33 : (((a1[n]).toNat : Int) == 33) = true := by rw [beq_iff_eq]; exact h33
      clear h33 eb
      cases pt
      · rw [if_neg (by decide)] at hl
        cases hq : tagname_Read.f a1 (n : Int) with
        | none => rw [hq] at hl; cases hl
        | some q =>
        obtain ⟨q1, q2, q3, q4, q5⟩ := q
        rw [hq, Option.bind_some] at hl
        have cR : ∀ w, Calls Try.prog 21 #[.string a1, .int .i64 n] w fun e w' => e = .returned (.tuple #[.agg #[.bool q1, .string q2, .string q3], .int .i64 q4, .bool q5]) ∧ Below w.heap.size w w' := fun w => tagname_Read.calls a1 n q1 q2 q3 q4 q5 w hq
        clear hq
        dsimp only [prop_Read.both] at hl
        cases q5
        · rw [if_neg (by decide)] at hl
          go_wp2_with (first | (refine wpList_load_H rfl 4 _ rfl (Try.isAgg4) _ _ rfl H (.head _) _ rfl ?_) | (refine wpList_load_H rfl 9 _ rfl (Try.isAgg9) _ _ rfl H (.head _) _ rfl ?_) | (refine wpList_load_H rfl 3 _ rfl (Try.isAgg3) _ _ rfl H (.head _) _ rfl ?_) | (refine wpList_store_H rfl 31 _ _ rfl _ _ rfl _ rfl (Try.sizeOf31) rfl (A := []) H (Nat.le_of_ble_eq_true rfl) _ rfl ?_; intro w2 H2 hg2; replace H := H2; clear H2 hg2) | (refine wpList_store_H rfl 4 _ _ rfl _ _ rfl _ rfl (Try.sizeOf4) rfl (A := []) H (Nat.le_of_ble_eq_true rfl) _ rfl ?_; intro w2 H2 hg2; replace H := H2; clear H2 hg2) | (refine wpList_store_H rfl 9 _ _ rfl _ _ rfl _ rfl (Try.sizeOf9) rfl (A := []) H (Nat.le_of_ble_eq_true rfl) _ rfl ?_; intro w2 H2 hg2; replace H := H2; clear H2 hg2) | (refine wpList_store_H rfl 3 _ _ rfl _ _ rfl _ rfl (Try.sizeOf3) rfl (A := []) H (Nat.le_of_ble_eq_true rfl) _ rfl ?_; intro w2 H2 hg2; replace H := H2; clear H2 hg2) | (refine wpList_loads_H rfl 33 _ rfl (Try.isAgg33) 9 (Try.sizeOf33) _ _ rfl H (.head _) (Nat.le_of_ble_eq_true rfl) _ rfl ?_) | (refine wpList_store_H rfl 33 _ _ rfl _ _ rfl _ rfl (Try.sizeOf33) rfl (A := [_, _]) H (Nat.le_of_ble_eq_true rfl) _ rfl ?_; intro w2 H2 hg2; replace H := H2; clear H2 hg2) | (refine wpList_store_H rfl 36 _ _ rfl _ _ rfl _ rfl (Try.sizeOf36) rfl (A := [_]) H (Nat.le_of_ble_eq_true rfl) _ rfl ?_; intro w2 H2 hg2; replace H := H2; clear H2 hg2))
          go_step3
          show follow _ _ 0 _ _ _ (Exit.goto _) _ _
          refine follow_goto (by rfl) ?_
          go_wp2_with (first | ((with_reducible refine (cR _).mono ?_); rintro e w' ⟨rfl, hb⟩; replace H := H.on hb; clear hb) | (refine wpList_load_H rfl 4 _ rfl (Try.isAgg4) _ _ rfl H (.head _) _ rfl ?_) | (refine wpList_load_H rfl 9 _ rfl (Try.isAgg9) _ _ rfl H (.head _) _ rfl ?_) | (refine wpList_load_H rfl 3 _ rfl (Try.isAgg3) _ _ rfl H (.head _) _ rfl ?_) | (refine wpList_store_H rfl 31 _ _ rfl _ _ rfl _ rfl (Try.sizeOf31) rfl (A := []) H (Nat.le_of_ble_eq_true rfl) _ rfl ?_; intro w2 H2 hg2; replace H := H2; clear H2 hg2) | (refine wpList_store_H rfl 4 _ _ rfl _ _ rfl _ rfl (Try.sizeOf4) rfl (A := []) H (Nat.le_of_ble_eq_true rfl) _ rfl ?_; intro w2 H2 hg2; replace H := H2; clear H2 hg2) | (refine wpList_store_H rfl 9 _ _ rfl _ _ rfl _ rfl (Try.sizeOf9) rfl (A := []) H (Nat.le_of_ble_eq_true rfl) _ rfl ?_; intro w2 H2 hg2; replace H := H2; clear H2 hg2) | (refine wpList_store_H rfl 3 _ _ rfl _ _ rfl _ rfl (Try.sizeOf3) rfl (A := []) H (Nat.le_of_ble_eq_true rfl) _ rfl ?_; intro w2 H2 hg2; replace H := H2; clear H2 hg2) | (refine wpList_loads_H rfl 33 _ rfl (Try.isAgg33) 9 (Try.sizeOf33) _ _ rfl H (.head _) (Nat.le_of_ble_eq_true rfl) _ rfl ?_) | (refine wpList_store_H rfl 33 _ _ rfl _ _ rfl _ rfl (Try.sizeOf33) rfl (A := [_, _]) H (Nat.le_of_ble_eq_true rfl) _ rfl ?_; intro w2 H2 hg2; replace H := H2; clear H2 hg2) | (refine wpList_store_H rfl 36 _ _ rfl _ _ rfl _ rfl (Try.sizeOf36) rfl (A := [_]) H (Nat.le_of_ble_eq_true rfl) _ rfl ?_; intro w2 H2 hg2; replace H := H2; clear H2 hg2))
          go_step3
          show follow _ _ 0 _ _ _ (Exit.goto _) _ _
          refine follow_goto (by rfl) ?_
          go_wp2_with (first | ((with_reducible refine (cR _).mono ?_); rintro e w' ⟨rfl, hb⟩; replace H := H.on hb; clear hb) | (refine wpList_load_H rfl 4 _ rfl (Try.isAgg4) _ _ rfl H (.head _) _ rfl ?_) | (refine wpList_load_H rfl 9 _ rfl (Try.isAgg9) _ _ rfl H (.head _) _ rfl ?_) | (refine wpList_load_H rfl 3 _ rfl (Try.isAgg3) _ _ rfl H (.head _) _ rfl ?_) | (refine wpList_store_H rfl 31 _ _ rfl _ _ rfl _ rfl (Try.sizeOf31) rfl (A := []) H (Nat.le_of_ble_eq_true rfl) _ rfl ?_; intro w2 H2 hg2; replace H := H2; clear H2 hg2) | (refine wpList_store_H rfl 4 _ _ rfl _ _ rfl _ rfl (Try.sizeOf4) rfl (A := []) H (Nat.le_of_ble_eq_true rfl) _ rfl ?_; intro w2 H2 hg2; replace H := H2; clear H2 hg2) | (refine wpList_store_H rfl 9 _ _ rfl _ _ rfl _ rfl (Try.sizeOf9) rfl (A := []) H (Nat.le_of_ble_eq_true rfl) _ rfl ?_; intro w2 H2 hg2; replace H := H2; clear H2 hg2) | (refine wpList_store_H rfl 3 _ _ rfl _ _ rfl _ rfl (Try.sizeOf3) rfl (A := []) H (Nat.le_of_ble_eq_true rfl) _ rfl ?_; intro w2 H2 hg2; replace H := H2; clear H2 hg2) | (refine wpList_loads_H rfl 33 _ rfl (Try.isAgg33) 9 (Try.sizeOf33) _ _ rfl H (.head _) (Nat.le_of_ble_eq_true rfl) _ rfl ?_) | (refine wpList_store_H rfl 33 _ _ rfl _ _ rfl _ rfl (Try.sizeOf33) rfl (A := [_, _]) H (Nat.le_of_ble_eq_true rfl) _ rfl ?_; intro w2 H2 hg2; replace H := H2; clear H2 hg2) | (refine wpList_store_H rfl 36 _ _ rfl _ _ rfl _ rfl (Try.sizeOf36) rfl (A := [_]) H (Nat.le_of_ble_eq_true rfl) _ rfl ?_; intro w2 H2 hg2; replace H := H2; clear H2 hg2))
          go_step3
          show follow _ _ 0 _ _ _ (Exit.goto _) _ _
          refine follow_goto (by rfl) ?_
          go_wp2_with (first | ((with_reducible refine (cR _).mono ?_); rintro e w' ⟨rfl, hb⟩; replace H := H.on hb; clear hb) | (refine wpList_load_H rfl 4 _ rfl (Try.isAgg4) _ _ rfl H (.head _) _ rfl ?_) | (refine wpList_load_H rfl 9 _ rfl (Try.isAgg9) _ _ rfl H (.head _) _ rfl ?_) | (refine wpList_load_H rfl 3 _ rfl (Try.isAgg3) _ _ rfl H (.head _) _ rfl ?_) | (refine wpList_store_H rfl 31 _ _ rfl _ _ rfl _ rfl (Try.sizeOf31) rfl (A := []) H (Nat.le_of_ble_eq_true rfl) _ rfl ?_; intro w2 H2 hg2; replace H := H2; clear H2 hg2) | (refine wpList_store_H rfl 4 _ _ rfl _ _ rfl _ rfl (Try.sizeOf4) rfl (A := []) H (Nat.le_of_ble_eq_true rfl) _ rfl ?_; intro w2 H2 hg2; replace H := H2; clear H2 hg2) | (refine wpList_store_H rfl 9 _ _ rfl _ _ rfl _ rfl (Try.sizeOf9) rfl (A := []) H (Nat.le_of_ble_eq_true rfl) _ rfl ?_; intro w2 H2 hg2; replace H := H2; clear H2 hg2) | (refine wpList_store_H rfl 3 _ _ rfl _ _ rfl _ rfl (Try.sizeOf3) rfl (A := []) H (Nat.le_of_ble_eq_true rfl) _ rfl ?_; intro w2 H2 hg2; replace H := H2; clear H2 hg2) | (refine wpList_loads_H rfl 33 _ rfl (Try.isAgg33) 9 (Try.sizeOf33) _ _ rfl H (.head _) (Nat.le_of_ble_eq_true rfl) _ rfl ?_) | (refine wpList_store_H rfl 33 _ _ rfl _ _ rfl _ rfl (Try.sizeOf33) rfl (A := [_, _]) H (Nat.le_of_ble_eq_true rfl) _ rfl ?_; intro w2 H2 hg2; replace H := H2; clear H2 hg2) | (refine wpList_store_H rfl 36 _ _ rfl _ _ rfl _ rfl (Try.sizeOf36) rfl (A := [_]) H (Nat.le_of_ble_eq_true rfl) _ rfl ?_; intro w2 H2 hg2; replace H := H2; clear H2 hg2))
          rw [follow_ret]
          simp only [prop_Read.wrong, prop_Read.St.out, Option.some.injEq, Prod.mk.injEq] at hl
          obtain ⟨rfl, rfl, rfl, rfl, rfl, rfl, rfl, rfl, rfl, rfl, rfl, rfl⟩ := hl
          exact bodyPost_ret (prop_Read.fin _ _ _ _ _ _ rfl rfl rfl H (.tail _ (.tail _ (.head _))) (.tail _ (.head _)) rfl rfl) rfl ⟨rfl, H.below⟩
        · rw [if_pos rfl] at hl
          cases hst : rows_Stop.f a0 a1 q4 a3 with
          | none => rw [hst] at hl; cases hl
          | some st =>
          rw [hst, Option.bind_some] at hl
          have cS : ∀ w, Calls Try.prog 24 #[.int .i64 a0, .string a1, .int .i64 q4, .bool a3] w fun e w' => e = .returned (.bool st) ∧ Drawn0 w w' := fun w => rows_Stop.calls a0 a1 q4 a3 st w hst
          clear hst
          cases st
          · rw [if_neg (by decide)] at hl
            go_wp2_with (first | (refine wpList_load_H rfl 4 _ rfl (Try.isAgg4) _ _ rfl H (.head _) _ rfl ?_) | (refine wpList_load_H rfl 9 _ rfl (Try.isAgg9) _ _ rfl H (.head _) _ rfl ?_) | (refine wpList_load_H rfl 3 _ rfl (Try.isAgg3) _ _ rfl H (.head _) _ rfl ?_) | (refine wpList_store_H rfl 31 _ _ rfl _ _ rfl _ rfl (Try.sizeOf31) rfl (A := []) H (Nat.le_of_ble_eq_true rfl) _ rfl ?_; intro w2 H2 hg2; replace H := H2; clear H2 hg2) | (refine wpList_store_H rfl 4 _ _ rfl _ _ rfl _ rfl (Try.sizeOf4) rfl (A := []) H (Nat.le_of_ble_eq_true rfl) _ rfl ?_; intro w2 H2 hg2; replace H := H2; clear H2 hg2) | (refine wpList_store_H rfl 9 _ _ rfl _ _ rfl _ rfl (Try.sizeOf9) rfl (A := []) H (Nat.le_of_ble_eq_true rfl) _ rfl ?_; intro w2 H2 hg2; replace H := H2; clear H2 hg2) | (refine wpList_store_H rfl 3 _ _ rfl _ _ rfl _ rfl (Try.sizeOf3) rfl (A := []) H (Nat.le_of_ble_eq_true rfl) _ rfl ?_; intro w2 H2 hg2; replace H := H2; clear H2 hg2) | (refine wpList_loads_H rfl 33 _ rfl (Try.isAgg33) 9 (Try.sizeOf33) _ _ rfl H (.head _) (Nat.le_of_ble_eq_true rfl) _ rfl ?_) | (refine wpList_store_H rfl 33 _ _ rfl _ _ rfl _ rfl (Try.sizeOf33) rfl (A := [_, _]) H (Nat.le_of_ble_eq_true rfl) _ rfl ?_; intro w2 H2 hg2; replace H := H2; clear H2 hg2) | (refine wpList_store_H rfl 36 _ _ rfl _ _ rfl _ rfl (Try.sizeOf36) rfl (A := [_]) H (Nat.le_of_ble_eq_true rfl) _ rfl ?_; intro w2 H2 hg2; replace H := H2; clear H2 hg2))
            go_step3
            show follow _ _ 0 _ _ _ (Exit.goto _) _ _
            refine follow_goto (by rfl) ?_
            go_wp2_with (first | ((with_reducible refine (cR _).mono ?_); rintro e w' ⟨rfl, hb⟩; replace H := H.on hb; clear hb) | (refine wpList_load_H rfl 4 _ rfl (Try.isAgg4) _ _ rfl H (.head _) _ rfl ?_) | (refine wpList_load_H rfl 9 _ rfl (Try.isAgg9) _ _ rfl H (.head _) _ rfl ?_) | (refine wpList_load_H rfl 3 _ rfl (Try.isAgg3) _ _ rfl H (.head _) _ rfl ?_) | (refine wpList_store_H rfl 31 _ _ rfl _ _ rfl _ rfl (Try.sizeOf31) rfl (A := []) H (Nat.le_of_ble_eq_true rfl) _ rfl ?_; intro w2 H2 hg2; replace H := H2; clear H2 hg2) | (refine wpList_store_H rfl 4 _ _ rfl _ _ rfl _ rfl (Try.sizeOf4) rfl (A := []) H (Nat.le_of_ble_eq_true rfl) _ rfl ?_; intro w2 H2 hg2; replace H := H2; clear H2 hg2) | (refine wpList_store_H rfl 9 _ _ rfl _ _ rfl _ rfl (Try.sizeOf9) rfl (A := []) H (Nat.le_of_ble_eq_true rfl) _ rfl ?_; intro w2 H2 hg2; replace H := H2; clear H2 hg2) | (refine wpList_store_H rfl 3 _ _ rfl _ _ rfl _ rfl (Try.sizeOf3) rfl (A := []) H (Nat.le_of_ble_eq_true rfl) _ rfl ?_; intro w2 H2 hg2; replace H := H2; clear H2 hg2) | (refine wpList_loads_H rfl 33 _ rfl (Try.isAgg33) 9 (Try.sizeOf33) _ _ rfl H (.head _) (Nat.le_of_ble_eq_true rfl) _ rfl ?_) | (refine wpList_store_H rfl 33 _ _ rfl _ _ rfl _ rfl (Try.sizeOf33) rfl (A := [_, _]) H (Nat.le_of_ble_eq_true rfl) _ rfl ?_; intro w2 H2 hg2; replace H := H2; clear H2 hg2) | (refine wpList_store_H rfl 36 _ _ rfl _ _ rfl _ rfl (Try.sizeOf36) rfl (A := [_]) H (Nat.le_of_ble_eq_true rfl) _ rfl ?_; intro w2 H2 hg2; replace H := H2; clear H2 hg2))
            go_step3
            show follow _ _ 0 _ _ _ (Exit.goto _) _ _
            refine follow_goto (by rfl) ?_
            go_wp2_with (first | ((with_reducible refine (cR _).mono ?_); rintro e w' ⟨rfl, hb⟩; replace H := H.on hb; clear hb) | ((with_reducible refine (cS _).mono ?_); rintro e w' ⟨rfl, ⟨n1, rfl⟩⟩; replace H := H.drewN n1) | (refine wpList_load_H rfl 4 _ rfl (Try.isAgg4) _ _ rfl H (.head _) _ rfl ?_) | (refine wpList_load_H rfl 9 _ rfl (Try.isAgg9) _ _ rfl H (.head _) _ rfl ?_) | (refine wpList_load_H rfl 3 _ rfl (Try.isAgg3) _ _ rfl H (.head _) _ rfl ?_) | (refine wpList_store_H rfl 31 _ _ rfl _ _ rfl _ rfl (Try.sizeOf31) rfl (A := []) H (Nat.le_of_ble_eq_true rfl) _ rfl ?_; intro w2 H2 hg2; replace H := H2; clear H2 hg2) | (refine wpList_store_H rfl 4 _ _ rfl _ _ rfl _ rfl (Try.sizeOf4) rfl (A := []) H (Nat.le_of_ble_eq_true rfl) _ rfl ?_; intro w2 H2 hg2; replace H := H2; clear H2 hg2) | (refine wpList_store_H rfl 9 _ _ rfl _ _ rfl _ rfl (Try.sizeOf9) rfl (A := []) H (Nat.le_of_ble_eq_true rfl) _ rfl ?_; intro w2 H2 hg2; replace H := H2; clear H2 hg2) | (refine wpList_store_H rfl 3 _ _ rfl _ _ rfl _ rfl (Try.sizeOf3) rfl (A := []) H (Nat.le_of_ble_eq_true rfl) _ rfl ?_; intro w2 H2 hg2; replace H := H2; clear H2 hg2) | (refine wpList_loads_H rfl 33 _ rfl (Try.isAgg33) 9 (Try.sizeOf33) _ _ rfl H (.head _) (Nat.le_of_ble_eq_true rfl) _ rfl ?_) | (refine wpList_store_H rfl 33 _ _ rfl _ _ rfl _ rfl (Try.sizeOf33) rfl (A := [_, _]) H (Nat.le_of_ble_eq_true rfl) _ rfl ?_; intro w2 H2 hg2; replace H := H2; clear H2 hg2) | (refine wpList_store_H rfl 36 _ _ rfl _ _ rfl _ rfl (Try.sizeOf36) rfl (A := [_]) H (Nat.le_of_ble_eq_true rfl) _ rfl ?_; intro w2 H2 hg2; replace H := H2; clear H2 hg2))
            go_step3
            show follow _ _ 0 _ _ _ (Exit.goto _) _ _
            refine follow_goto (by rfl) ?_
            go_wp2_with (first | ((with_reducible refine (cR _).mono ?_); rintro e w' ⟨rfl, hb⟩; replace H := H.on hb; clear hb) | ((with_reducible refine (cS _).mono ?_); rintro e w' ⟨rfl, ⟨n1, rfl⟩⟩; replace H := H.drewN n1) | (refine wpList_load_H rfl 4 _ rfl (Try.isAgg4) _ _ rfl H (.head _) _ rfl ?_) | (refine wpList_load_H rfl 9 _ rfl (Try.isAgg9) _ _ rfl H (.head _) _ rfl ?_) | (refine wpList_load_H rfl 3 _ rfl (Try.isAgg3) _ _ rfl H (.head _) _ rfl ?_) | (refine wpList_store_H rfl 31 _ _ rfl _ _ rfl _ rfl (Try.sizeOf31) rfl (A := []) H (Nat.le_of_ble_eq_true rfl) _ rfl ?_; intro w2 H2 hg2; replace H := H2; clear H2 hg2) | (refine wpList_store_H rfl 4 _ _ rfl _ _ rfl _ rfl (Try.sizeOf4) rfl (A := []) H (Nat.le_of_ble_eq_true rfl) _ rfl ?_; intro w2 H2 hg2; replace H := H2; clear H2 hg2) | (refine wpList_store_H rfl 9 _ _ rfl _ _ rfl _ rfl (Try.sizeOf9) rfl (A := []) H (Nat.le_of_ble_eq_true rfl) _ rfl ?_; intro w2 H2 hg2; replace H := H2; clear H2 hg2) | (refine wpList_store_H rfl 3 _ _ rfl _ _ rfl _ rfl (Try.sizeOf3) rfl (A := []) H (Nat.le_of_ble_eq_true rfl) _ rfl ?_; intro w2 H2 hg2; replace H := H2; clear H2 hg2) | (refine wpList_loads_H rfl 33 _ rfl (Try.isAgg33) 9 (Try.sizeOf33) _ _ rfl H (.head _) (Nat.le_of_ble_eq_true rfl) _ rfl ?_) | (refine wpList_store_H rfl 33 _ _ rfl _ _ rfl _ rfl (Try.sizeOf33) rfl (A := [_, _]) H (Nat.le_of_ble_eq_true rfl) _ rfl ?_; intro w2 H2 hg2; replace H := H2; clear H2 hg2) | (refine wpList_store_H rfl 36 _ _ rfl _ _ rfl _ rfl (Try.sizeOf36) rfl (A := [_]) H (Nat.le_of_ble_eq_true rfl) _ rfl ?_; intro w2 H2 hg2; replace H := H2; clear H2 hg2))
            rw [follow_ret]
            simp only [prop_Read.wrong, prop_Read.St.out, Option.some.injEq, Prod.mk.injEq] at hl
            obtain ⟨rfl, rfl, rfl, rfl, rfl, rfl, rfl, rfl, rfl, rfl, rfl, rfl⟩ := hl
            exact bodyPost_ret (prop_Read.fin _ _ _ _ _ _ rfl rfl rfl H (.tail _ (.tail _ (.head _))) (.tail _ (.head _)) rfl rfl) rfl ⟨rfl, H.below⟩
          · rw [if_pos rfl] at hl
            cases ho : rows_Over.f N a1 q4 with
            | none => rw [ho] at hl; cases hl
            | some o =>
            rw [ho, Option.bind_some] at hl
            have cO : ∀ w, Calls Try.prog 25 #[.string a1, .int .i64 q4] w fun e w' => e = .returned (.int .i64 o) ∧ Drawn0 w w' := fun w => rows_Over.calls N a1 q4 o w ho
            clear ho
            cases ph
            all_goals
              go_wp2_with (first | (refine wpList_load_H rfl 4 _ rfl (Try.isAgg4) _ _ rfl H (.head _) _ rfl ?_) | (refine wpList_load_H rfl 9 _ rfl (Try.isAgg9) _ _ rfl H (.head _) _ rfl ?_) | (refine wpList_load_H rfl 3 _ rfl (Try.isAgg3) _ _ rfl H (.head _) _ rfl ?_) | (refine wpList_store_H rfl 31 _ _ rfl _ _ rfl _ rfl (Try.sizeOf31) rfl (A := []) H (Nat.le_of_ble_eq_true rfl) _ rfl ?_; intro w2 H2 hg2; replace H := H2; clear H2 hg2) | (refine wpList_store_H rfl 4 _ _ rfl _ _ rfl _ rfl (Try.sizeOf4) rfl (A := []) H (Nat.le_of_ble_eq_true rfl) _ rfl ?_; intro w2 H2 hg2; replace H := H2; clear H2 hg2) | (refine wpList_store_H rfl 9 _ _ rfl _ _ rfl _ rfl (Try.sizeOf9) rfl (A := []) H (Nat.le_of_ble_eq_true rfl) _ rfl ?_; intro w2 H2 hg2; replace H := H2; clear H2 hg2) | (refine wpList_store_H rfl 3 _ _ rfl _ _ rfl _ rfl (Try.sizeOf3) rfl (A := []) H (Nat.le_of_ble_eq_true rfl) _ rfl ?_; intro w2 H2 hg2; replace H := H2; clear H2 hg2) | (refine wpList_loads_H rfl 33 _ rfl (Try.isAgg33) 9 (Try.sizeOf33) _ _ rfl H (.head _) (Nat.le_of_ble_eq_true rfl) _ rfl ?_) | (refine wpList_store_H rfl 33 _ _ rfl _ _ rfl _ rfl (Try.sizeOf33) rfl (A := [_, _]) H (Nat.le_of_ble_eq_true rfl) _ rfl ?_; intro w2 H2 hg2; replace H := H2; clear H2 hg2) | (refine wpList_store_H rfl 36 _ _ rfl _ _ rfl _ rfl (Try.sizeOf36) rfl (A := [_]) H (Nat.le_of_ble_eq_true rfl) _ rfl ?_; intro w2 H2 hg2; replace H := H2; clear H2 hg2))
              go_step3
              show follow _ _ 0 _ _ _ (Exit.goto _) _ _
              refine follow_goto (by rfl) ?_
              go_wp2_with (first | ((with_reducible refine (cR _).mono ?_); rintro e w' ⟨rfl, hb⟩; replace H := H.on hb; clear hb) | (refine wpList_load_H rfl 4 _ rfl (Try.isAgg4) _ _ rfl H (.head _) _ rfl ?_) | (refine wpList_load_H rfl 9 _ rfl (Try.isAgg9) _ _ rfl H (.head _) _ rfl ?_) | (refine wpList_load_H rfl 3 _ rfl (Try.isAgg3) _ _ rfl H (.head _) _ rfl ?_) | (refine wpList_store_H rfl 31 _ _ rfl _ _ rfl _ rfl (Try.sizeOf31) rfl (A := []) H (Nat.le_of_ble_eq_true rfl) _ rfl ?_; intro w2 H2 hg2; replace H := H2; clear H2 hg2) | (refine wpList_store_H rfl 4 _ _ rfl _ _ rfl _ rfl (Try.sizeOf4) rfl (A := []) H (Nat.le_of_ble_eq_true rfl) _ rfl ?_; intro w2 H2 hg2; replace H := H2; clear H2 hg2) | (refine wpList_store_H rfl 9 _ _ rfl _ _ rfl _ rfl (Try.sizeOf9) rfl (A := []) H (Nat.le_of_ble_eq_true rfl) _ rfl ?_; intro w2 H2 hg2; replace H := H2; clear H2 hg2) | (refine wpList_store_H rfl 3 _ _ rfl _ _ rfl _ rfl (Try.sizeOf3) rfl (A := []) H (Nat.le_of_ble_eq_true rfl) _ rfl ?_; intro w2 H2 hg2; replace H := H2; clear H2 hg2) | (refine wpList_loads_H rfl 33 _ rfl (Try.isAgg33) 9 (Try.sizeOf33) _ _ rfl H (.head _) (Nat.le_of_ble_eq_true rfl) _ rfl ?_) | (refine wpList_store_H rfl 33 _ _ rfl _ _ rfl _ rfl (Try.sizeOf33) rfl (A := [_, _]) H (Nat.le_of_ble_eq_true rfl) _ rfl ?_; intro w2 H2 hg2; replace H := H2; clear H2 hg2) | (refine wpList_store_H rfl 36 _ _ rfl _ _ rfl _ rfl (Try.sizeOf36) rfl (A := [_]) H (Nat.le_of_ble_eq_true rfl) _ rfl ?_; intro w2 H2 hg2; replace H := H2; clear H2 hg2))
              go_step3
              show follow _ _ 0 _ _ _ (Exit.goto _) _ _
              refine follow_goto (by rfl) ?_
              go_wp2_with (first | ((with_reducible refine (cR _).mono ?_); rintro e w' ⟨rfl, hb⟩; replace H := H.on hb; clear hb) | ((with_reducible refine (cS _).mono ?_); rintro e w' ⟨rfl, ⟨n1, rfl⟩⟩; replace H := H.drewN n1) | ((with_reducible refine (cO _).mono ?_); rintro e w' ⟨rfl, ⟨n1, rfl⟩⟩; replace H := H.drewN n1) | (refine wpList_load_H rfl 4 _ rfl (Try.isAgg4) _ _ rfl H (.head _) _ rfl ?_) | (refine wpList_load_H rfl 9 _ rfl (Try.isAgg9) _ _ rfl H (.head _) _ rfl ?_) | (refine wpList_load_H rfl 3 _ rfl (Try.isAgg3) _ _ rfl H (.head _) _ rfl ?_) | (refine wpList_store_H rfl 31 _ _ rfl _ _ rfl _ rfl (Try.sizeOf31) rfl (A := []) H (Nat.le_of_ble_eq_true rfl) _ rfl ?_; intro w2 H2 hg2; replace H := H2; clear H2 hg2) | (refine wpList_store_H rfl 4 _ _ rfl _ _ rfl _ rfl (Try.sizeOf4) rfl (A := []) H (Nat.le_of_ble_eq_true rfl) _ rfl ?_; intro w2 H2 hg2; replace H := H2; clear H2 hg2) | (refine wpList_store_H rfl 9 _ _ rfl _ _ rfl _ rfl (Try.sizeOf9) rfl (A := []) H (Nat.le_of_ble_eq_true rfl) _ rfl ?_; intro w2 H2 hg2; replace H := H2; clear H2 hg2) | (refine wpList_store_H rfl 3 _ _ rfl _ _ rfl _ rfl (Try.sizeOf3) rfl (A := []) H (Nat.le_of_ble_eq_true rfl) _ rfl ?_; intro w2 H2 hg2; replace H := H2; clear H2 hg2) | (refine wpList_loads_H rfl 33 _ rfl (Try.isAgg33) 9 (Try.sizeOf33) _ _ rfl H (.head _) (Nat.le_of_ble_eq_true rfl) _ rfl ?_) | (refine wpList_store_H rfl 33 _ _ rfl _ _ rfl _ rfl (Try.sizeOf33) rfl (A := [_, _]) H (Nat.le_of_ble_eq_true rfl) _ rfl ?_; intro w2 H2 hg2; replace H := H2; clear H2 hg2) | (refine wpList_store_H rfl 36 _ _ rfl _ _ rfl _ rfl (Try.sizeOf36) rfl (A := [_]) H (Nat.le_of_ble_eq_true rfl) _ rfl ?_; intro w2 H2 hg2; replace H := H2; clear H2 hg2))
              go_step3
              show follow _ _ 0 _ _ _ (Exit.goto _) _ _
              exact follow_back ⟨N, Nat.lt_succ_self _, b3, prop_Read.J.mk ⟨_, _, _, _, _, _, _, _, _⟩ _ _ (by rfl) H hl⟩
      · rw [if_pos rfl] at hl
        go_wp2_with (first | (refine wpList_load_H rfl 4 _ rfl (Try.isAgg4) _ _ rfl H (.head _) _ rfl ?_) | (refine wpList_load_H rfl 9 _ rfl (Try.isAgg9) _ _ rfl H (.head _) _ rfl ?_) | (refine wpList_load_H rfl 3 _ rfl (Try.isAgg3) _ _ rfl H (.head _) _ rfl ?_) | (refine wpList_store_H rfl 31 _ _ rfl _ _ rfl _ rfl (Try.sizeOf31) rfl (A := []) H (Nat.le_of_ble_eq_true rfl) _ rfl ?_; intro w2 H2 hg2; replace H := H2; clear H2 hg2) | (refine wpList_store_H rfl 4 _ _ rfl _ _ rfl _ rfl (Try.sizeOf4) rfl (A := []) H (Nat.le_of_ble_eq_true rfl) _ rfl ?_; intro w2 H2 hg2; replace H := H2; clear H2 hg2) | (refine wpList_store_H rfl 9 _ _ rfl _ _ rfl _ rfl (Try.sizeOf9) rfl (A := []) H (Nat.le_of_ble_eq_true rfl) _ rfl ?_; intro w2 H2 hg2; replace H := H2; clear H2 hg2) | (refine wpList_store_H rfl 3 _ _ rfl _ _ rfl _ rfl (Try.sizeOf3) rfl (A := []) H (Nat.le_of_ble_eq_true rfl) _ rfl ?_; intro w2 H2 hg2; replace H := H2; clear H2 hg2) | (refine wpList_loads_H rfl 33 _ rfl (Try.isAgg33) 9 (Try.sizeOf33) _ _ rfl H (.head _) (Nat.le_of_ble_eq_true rfl) _ rfl ?_) | (refine wpList_store_H rfl 33 _ _ rfl _ _ rfl _ rfl (Try.sizeOf33) rfl (A := [_, _]) H (Nat.le_of_ble_eq_true rfl) _ rfl ?_; intro w2 H2 hg2; replace H := H2; clear H2 hg2) | (refine wpList_store_H rfl 36 _ _ rfl _ _ rfl _ rfl (Try.sizeOf36) rfl (A := [_]) H (Nat.le_of_ble_eq_true rfl) _ rfl ?_; intro w2 H2 hg2; replace H := H2; clear H2 hg2))
        go_step3
        show follow _ _ 0 _ _ _ (Exit.goto _) _ _
        refine follow_goto (by rfl) ?_
        go_wp2_with (first | (refine wpList_load_H rfl 4 _ rfl (Try.isAgg4) _ _ rfl H (.head _) _ rfl ?_) | (refine wpList_load_H rfl 9 _ rfl (Try.isAgg9) _ _ rfl H (.head _) _ rfl ?_) | (refine wpList_load_H rfl 3 _ rfl (Try.isAgg3) _ _ rfl H (.head _) _ rfl ?_) | (refine wpList_store_H rfl 31 _ _ rfl _ _ rfl _ rfl (Try.sizeOf31) rfl (A := []) H (Nat.le_of_ble_eq_true rfl) _ rfl ?_; intro w2 H2 hg2; replace H := H2; clear H2 hg2) | (refine wpList_store_H rfl 4 _ _ rfl _ _ rfl _ rfl (Try.sizeOf4) rfl (A := []) H (Nat.le_of_ble_eq_true rfl) _ rfl ?_; intro w2 H2 hg2; replace H := H2; clear H2 hg2) | (refine wpList_store_H rfl 9 _ _ rfl _ _ rfl _ rfl (Try.sizeOf9) rfl (A := []) H (Nat.le_of_ble_eq_true rfl) _ rfl ?_; intro w2 H2 hg2; replace H := H2; clear H2 hg2) | (refine wpList_store_H rfl 3 _ _ rfl _ _ rfl _ rfl (Try.sizeOf3) rfl (A := []) H (Nat.le_of_ble_eq_true rfl) _ rfl ?_; intro w2 H2 hg2; replace H := H2; clear H2 hg2) | (refine wpList_loads_H rfl 33 _ rfl (Try.isAgg33) 9 (Try.sizeOf33) _ _ rfl H (.head _) (Nat.le_of_ble_eq_true rfl) _ rfl ?_) | (refine wpList_store_H rfl 33 _ _ rfl _ _ rfl _ rfl (Try.sizeOf33) rfl (A := [_, _]) H (Nat.le_of_ble_eq_true rfl) _ rfl ?_; intro w2 H2 hg2; replace H := H2; clear H2 hg2) | (refine wpList_store_H rfl 36 _ _ rfl _ _ rfl _ rfl (Try.sizeOf36) rfl (A := [_]) H (Nat.le_of_ble_eq_true rfl) _ rfl ?_; intro w2 H2 hg2; replace H := H2; clear H2 hg2))
        go_step3
        show follow _ _ 0 _ _ _ (Exit.goto _) _ _
        refine follow_goto (by rfl) ?_
        go_wp2_with (first | (refine wpList_load_H rfl 4 _ rfl (Try.isAgg4) _ _ rfl H (.head _) _ rfl ?_) | (refine wpList_load_H rfl 9 _ rfl (Try.isAgg9) _ _ rfl H (.head _) _ rfl ?_) | (refine wpList_load_H rfl 3 _ rfl (Try.isAgg3) _ _ rfl H (.head _) _ rfl ?_) | (refine wpList_store_H rfl 31 _ _ rfl _ _ rfl _ rfl (Try.sizeOf31) rfl (A := []) H (Nat.le_of_ble_eq_true rfl) _ rfl ?_; intro w2 H2 hg2; replace H := H2; clear H2 hg2) | (refine wpList_store_H rfl 4 _ _ rfl _ _ rfl _ rfl (Try.sizeOf4) rfl (A := []) H (Nat.le_of_ble_eq_true rfl) _ rfl ?_; intro w2 H2 hg2; replace H := H2; clear H2 hg2) | (refine wpList_store_H rfl 9 _ _ rfl _ _ rfl _ rfl (Try.sizeOf9) rfl (A := []) H (Nat.le_of_ble_eq_true rfl) _ rfl ?_; intro w2 H2 hg2; replace H := H2; clear H2 hg2) | (refine wpList_store_H rfl 3 _ _ rfl _ _ rfl _ rfl (Try.sizeOf3) rfl (A := []) H (Nat.le_of_ble_eq_true rfl) _ rfl ?_; intro w2 H2 hg2; replace H := H2; clear H2 hg2) | (refine wpList_loads_H rfl 33 _ rfl (Try.isAgg33) 9 (Try.sizeOf33) _ _ rfl H (.head _) (Nat.le_of_ble_eq_true rfl) _ rfl ?_) | (refine wpList_store_H rfl 33 _ _ rfl _ _ rfl _ rfl (Try.sizeOf33) rfl (A := [_, _]) H (Nat.le_of_ble_eq_true rfl) _ rfl ?_; intro w2 H2 hg2; replace H := H2; clear H2 hg2) | (refine wpList_store_H rfl 36 _ _ rfl _ _ rfl _ rfl (Try.sizeOf36) rfl (A := [_]) H (Nat.le_of_ble_eq_true rfl) _ rfl ?_; intro w2 H2 hg2; replace H := H2; clear H2 hg2))
        rw [follow_ret]
        simp only [prop_Read.wrong, prop_Read.St.out, Option.some.injEq, Prod.mk.injEq] at hl
        obtain ⟨rfl, rfl, rfl, rfl, rfl, rfl, rfl, rfl, rfl, rfl, rfl, rfl⟩ := hl
        exact bodyPost_ret (prop_Read.fin _ _ _ _ _ _ rfl rfl rfl H (.tail _ (.tail _ (.head _))) (.tail _ (.head _)) rfl rfl) rfl ⟨rfl, H.below⟩
    · rw [if_neg h33] at hl
      have f33 : (((a1[n]).toNat : Int) == 33) = false := by rw [beq_eq_false_iff_ne]; exact h33
      clear h33 eb
      by_cases h38 : ((a1[n]).toNat : Int) = 38
      · rw [if_pos h38] at hl
        have f38 : (((a1[n]).toNat : Int) == 38) = true := by rw [beq_iff_eq]; exact h38
        clear h38
        by_cases han : pan.toList = []
        · rw [if_pos han] at hl
          obtain rfl : pan = ⟨#[]⟩ := by
            have e1 : pan.data.toList = [] := by rw [← Lib.toList_data]; exact han
            obtain ⟨⟨l⟩⟩ := pan
            simp at e1
            rw [e1]
          clear han
          cases hq : prop_name.f N a1 ((n : Int) + 1) with
          | none => rw [hq] at hl; cases hl
          | some e =>
          rw [hq, Option.bind_some] at hl
          have cN : ∀ w, Calls Try.prog 22 #[.string a1, .int .i64 ((n : Int) + 1)] w fun e' w' => e' = .returned (.int .i64 e) ∧ Drawn0 w w' := fun w => prop_name.calls N a1 ((n : Int) + 1) e w hq
          clear hq
          by_cases hb : (n : Int) + 1 ≤ e ∧ e ≤ (a1.size : Int)
          · rw [if_pos hb] at hl
            obtain ⟨m, rfl⟩ : ∃ m : Nat, e = m := ⟨e.toNat, by omega⟩
            obtain ⟨g1, g2⟩ := hb
            have g3 : ((n : Int) + 1).toNat = n + 1 := by omega
            have g4 : m ≤ a1.size := by omega
            have g5 : (0 : Int) ≤ (n : Int) + 1 := by omega
            have hsl : ∀ w, (Instr.slice 9 (.string a1) (some (.int .i64 ((n : Int) + 1))) (some (.int .i64 m)) none).run Try.prog w = .ok (.string (a1.extract (n + 1) m)) w := fun w => by
              simp [Instr.slice, Instr.sliceBounds, Instr.sliceBound, run_underlying Try.underlying9, asIntOf, g1, g2, g3, g4, g5]
            rw [g3, Int.toNat_natCast] at hl
            have cC : ∀ w, Calls Try.prog 23 #[.string (a1.extract (n + 1) m)] w fun e w' => e = .returned (.string (a1.extract (n + 1) m)) ∧ Below w.heap.size w w' := fun w => strings_Clone.calls _ _ w (by
              unfold strings_Clone.f stringslite_Clone.f
              rw [if_pos (by simp; omega)]
              rfl)
            dsimp only [prop_Read.both] at hl
            by_cases hgt : (n : Int) + 1 < m
            · have fgt : decide ((n : Int) + 1 < m) = true := decide_eq_true hgt
              rw [if_pos (show decide ((m : Int) > (n : Int) + 1) = true from fgt)] at hl
              cases hst : rows_Stop.f a0 a1 m a3 with
              | none => rw [hst] at hl; cases hl
              | some st =>
              rw [hst, Option.bind_some] at hl
              have cS : ∀ w, Calls Try.prog 24 #[.int .i64 a0, .string a1, .int .i64 m, .bool a3] w fun e w' => e = .returned (.bool st) ∧ Drawn0 w w' := fun w => rows_Stop.calls a0 a1 m a3 st w hst
              clear hst
              cases st
              · rw [if_neg (by decide)] at hl
                go_wp2_with (first | (refine wpList_load_H rfl 4 _ rfl (Try.isAgg4) _ _ rfl H (.head _) _ rfl ?_) | (refine wpList_load_H rfl 9 _ rfl (Try.isAgg9) _ _ rfl H (.head _) _ rfl ?_) | (refine wpList_load_H rfl 3 _ rfl (Try.isAgg3) _ _ rfl H (.head _) _ rfl ?_) | (refine wpList_store_H rfl 31 _ _ rfl _ _ rfl _ rfl (Try.sizeOf31) rfl (A := []) H (Nat.le_of_ble_eq_true rfl) _ rfl ?_; intro w2 H2 hg2; replace H := H2; clear H2 hg2) | (refine wpList_store_H rfl 4 _ _ rfl _ _ rfl _ rfl (Try.sizeOf4) rfl (A := []) H (Nat.le_of_ble_eq_true rfl) _ rfl ?_; intro w2 H2 hg2; replace H := H2; clear H2 hg2) | (refine wpList_store_H rfl 9 _ _ rfl _ _ rfl _ rfl (Try.sizeOf9) rfl (A := []) H (Nat.le_of_ble_eq_true rfl) _ rfl ?_; intro w2 H2 hg2; replace H := H2; clear H2 hg2) | (refine wpList_store_H rfl 3 _ _ rfl _ _ rfl _ rfl (Try.sizeOf3) rfl (A := []) H (Nat.le_of_ble_eq_true rfl) _ rfl ?_; intro w2 H2 hg2; replace H := H2; clear H2 hg2) | (refine wpList_loads_H rfl 33 _ rfl (Try.isAgg33) 9 (Try.sizeOf33) _ _ rfl H (.head _) (Nat.le_of_ble_eq_true rfl) _ rfl ?_) | (refine wpList_store_H rfl 33 _ _ rfl _ _ rfl _ rfl (Try.sizeOf33) rfl (A := [_, _]) H (Nat.le_of_ble_eq_true rfl) _ rfl ?_; intro w2 H2 hg2; replace H := H2; clear H2 hg2) | (refine wpList_store_H rfl 36 _ _ rfl _ _ rfl _ rfl (Try.sizeOf36) rfl (A := [_]) H (Nat.le_of_ble_eq_true rfl) _ rfl ?_; intro w2 H2 hg2; replace H := H2; clear H2 hg2))
                go_step3
                show follow _ _ 0 _ _ _ (Exit.goto _) _ _
                refine follow_goto (by rfl) ?_
                go_wp2_with (first | ((with_reducible refine (cN _).mono ?_); rintro e w' ⟨rfl, ⟨n1, rfl⟩⟩; replace H := H.drewN n1) | ((with_reducible refine (cC _).mono ?_); rintro e w' ⟨rfl, hb⟩; replace H := H.on hb; clear hb) | (refine wpList_load_H rfl 4 _ rfl (Try.isAgg4) _ _ rfl H (.head _) _ rfl ?_) | (refine wpList_load_H rfl 9 _ rfl (Try.isAgg9) _ _ rfl H (.head _) _ rfl ?_) | (refine wpList_load_H rfl 3 _ rfl (Try.isAgg3) _ _ rfl H (.head _) _ rfl ?_) | (refine wpList_store_H rfl 31 _ _ rfl _ _ rfl _ rfl (Try.sizeOf31) rfl (A := []) H (Nat.le_of_ble_eq_true rfl) _ rfl ?_; intro w2 H2 hg2; replace H := H2; clear H2 hg2) | (refine wpList_store_H rfl 4 _ _ rfl _ _ rfl _ rfl (Try.sizeOf4) rfl (A := []) H (Nat.le_of_ble_eq_true rfl) _ rfl ?_; intro w2 H2 hg2; replace H := H2; clear H2 hg2) | (refine wpList_store_H rfl 9 _ _ rfl _ _ rfl _ rfl (Try.sizeOf9) rfl (A := []) H (Nat.le_of_ble_eq_true rfl) _ rfl ?_; intro w2 H2 hg2; replace H := H2; clear H2 hg2) | (refine wpList_store_H rfl 3 _ _ rfl _ _ rfl _ rfl (Try.sizeOf3) rfl (A := []) H (Nat.le_of_ble_eq_true rfl) _ rfl ?_; intro w2 H2 hg2; replace H := H2; clear H2 hg2) | (refine wpList_loads_H rfl 33 _ rfl (Try.isAgg33) 9 (Try.sizeOf33) _ _ rfl H (.head _) (Nat.le_of_ble_eq_true rfl) _ rfl ?_) | (refine wpList_store_H rfl 33 _ _ rfl _ _ rfl _ rfl (Try.sizeOf33) rfl (A := [_, _]) H (Nat.le_of_ble_eq_true rfl) _ rfl ?_; intro w2 H2 hg2; replace H := H2; clear H2 hg2) | (refine wpList_store_H rfl 36 _ _ rfl _ _ rfl _ rfl (Try.sizeOf36) rfl (A := [_]) H (Nat.le_of_ble_eq_true rfl) _ rfl ?_; intro w2 H2 hg2; replace H := H2; clear H2 hg2))
                go_step3
                go_wp2_with (first | ((with_reducible refine (cN _).mono ?_); rintro e w' ⟨rfl, ⟨n1, rfl⟩⟩; replace H := H.drewN n1) | ((with_reducible refine (cC _).mono ?_); rintro e w' ⟨rfl, hb⟩; replace H := H.on hb; clear hb) | ((with_reducible refine (cS _).mono ?_); rintro e w' ⟨rfl, ⟨n1, rfl⟩⟩; replace H := H.drewN n1) | (refine wpList_load_H rfl 4 _ rfl (Try.isAgg4) _ _ rfl H (.head _) _ rfl ?_) | (refine wpList_load_H rfl 9 _ rfl (Try.isAgg9) _ _ rfl H (.head _) _ rfl ?_) | (refine wpList_load_H rfl 3 _ rfl (Try.isAgg3) _ _ rfl H (.head _) _ rfl ?_) | (refine wpList_store_H rfl 31 _ _ rfl _ _ rfl _ rfl (Try.sizeOf31) rfl (A := []) H (Nat.le_of_ble_eq_true rfl) _ rfl ?_; intro w2 H2 hg2; replace H := H2; clear H2 hg2) | (refine wpList_store_H rfl 4 _ _ rfl _ _ rfl _ rfl (Try.sizeOf4) rfl (A := []) H (Nat.le_of_ble_eq_true rfl) _ rfl ?_; intro w2 H2 hg2; replace H := H2; clear H2 hg2) | (refine wpList_store_H rfl 9 _ _ rfl _ _ rfl _ rfl (Try.sizeOf9) rfl (A := []) H (Nat.le_of_ble_eq_true rfl) _ rfl ?_; intro w2 H2 hg2; replace H := H2; clear H2 hg2) | (refine wpList_store_H rfl 3 _ _ rfl _ _ rfl _ rfl (Try.sizeOf3) rfl (A := []) H (Nat.le_of_ble_eq_true rfl) _ rfl ?_; intro w2 H2 hg2; replace H := H2; clear H2 hg2) | (refine wpList_loads_H rfl 33 _ rfl (Try.isAgg33) 9 (Try.sizeOf33) _ _ rfl H (.head _) (Nat.le_of_ble_eq_true rfl) _ rfl ?_) | (refine wpList_store_H rfl 33 _ _ rfl _ _ rfl _ rfl (Try.sizeOf33) rfl (A := [_, _]) H (Nat.le_of_ble_eq_true rfl) _ rfl ?_; intro w2 H2 hg2; replace H := H2; clear H2 hg2) | (refine wpList_store_H rfl 36 _ _ rfl _ _ rfl _ rfl (Try.sizeOf36) rfl (A := [_]) H (Nat.le_of_ble_eq_true rfl) _ rfl ?_; intro w2 H2 hg2; replace H := H2; clear H2 hg2))
                go_step3
                show follow _ _ 0 _ _ _ (Exit.goto _) _ _
                refine follow_goto (by rfl) ?_
                go_wp2_with (first | ((with_reducible refine (cN _).mono ?_); rintro e w' ⟨rfl, ⟨n1, rfl⟩⟩; replace H := H.drewN n1) | ((with_reducible refine (cC _).mono ?_); rintro e w' ⟨rfl, hb⟩; replace H := H.on hb; clear hb) | ((with_reducible refine (cS _).mono ?_); rintro e w' ⟨rfl, ⟨n1, rfl⟩⟩; replace H := H.drewN n1) | (refine wpList_load_H rfl 4 _ rfl (Try.isAgg4) _ _ rfl H (.head _) _ rfl ?_) | (refine wpList_load_H rfl 9 _ rfl (Try.isAgg9) _ _ rfl H (.head _) _ rfl ?_) | (refine wpList_load_H rfl 3 _ rfl (Try.isAgg3) _ _ rfl H (.head _) _ rfl ?_) | (refine wpList_store_H rfl 31 _ _ rfl _ _ rfl _ rfl (Try.sizeOf31) rfl (A := []) H (Nat.le_of_ble_eq_true rfl) _ rfl ?_; intro w2 H2 hg2; replace H := H2; clear H2 hg2) | (refine wpList_store_H rfl 4 _ _ rfl _ _ rfl _ rfl (Try.sizeOf4) rfl (A := []) H (Nat.le_of_ble_eq_true rfl) _ rfl ?_; intro w2 H2 hg2; replace H := H2; clear H2 hg2) | (refine wpList_store_H rfl 9 _ _ rfl _ _ rfl _ rfl (Try.sizeOf9) rfl (A := []) H (Nat.le_of_ble_eq_true rfl) _ rfl ?_; intro w2 H2 hg2; replace H := H2; clear H2 hg2) | (refine wpList_store_H rfl 3 _ _ rfl _ _ rfl _ rfl (Try.sizeOf3) rfl (A := []) H (Nat.le_of_ble_eq_true rfl) _ rfl ?_; intro w2 H2 hg2; replace H := H2; clear H2 hg2) | (refine wpList_loads_H rfl 33 _ rfl (Try.isAgg33) 9 (Try.sizeOf33) _ _ rfl H (.head _) (Nat.le_of_ble_eq_true rfl) _ rfl ?_) | (refine wpList_store_H rfl 33 _ _ rfl _ _ rfl _ rfl (Try.sizeOf33) rfl (A := [_, _]) H (Nat.le_of_ble_eq_true rfl) _ rfl ?_; intro w2 H2 hg2; replace H := H2; clear H2 hg2) | (refine wpList_store_H rfl 36 _ _ rfl _ _ rfl _ rfl (Try.sizeOf36) rfl (A := [_]) H (Nat.le_of_ble_eq_true rfl) _ rfl ?_; intro w2 H2 hg2; replace H := H2; clear H2 hg2))
                rw [follow_ret]
                simp only [prop_Read.wrong, prop_Read.St.out, Option.some.injEq, Prod.mk.injEq] at hl
                obtain ⟨rfl, rfl, rfl, rfl, rfl, rfl, rfl, rfl, rfl, rfl, rfl, rfl⟩ := hl
                exact bodyPost_ret (prop_Read.fin _ _ _ _ _ _ rfl rfl rfl H (.tail _ (.tail _ (.head _))) (.tail _ (.head _)) rfl rfl) rfl ⟨rfl, H.below⟩
              · rw [if_pos rfl] at hl
                cases ho : rows_Over.f N a1 m with
                | none => rw [ho] at hl; cases hl
                | some o =>
                rw [ho, Option.bind_some] at hl
                have cO : ∀ w, Calls Try.prog 25 #[.string a1, .int .i64 m] w fun e w' => e = .returned (.int .i64 o) ∧ Drawn0 w w' := fun w => rows_Over.calls N a1 m o w ho
                clear ho
                cases ph
                all_goals
                  go_wp2_with (first | (refine wpList_load_H rfl 4 _ rfl (Try.isAgg4) _ _ rfl H (.head _) _ rfl ?_) | (refine wpList_load_H rfl 9 _ rfl (Try.isAgg9) _ _ rfl H (.head _) _ rfl ?_) | (refine wpList_load_H rfl 3 _ rfl (Try.isAgg3) _ _ rfl H (.head _) _ rfl ?_) | (refine wpList_store_H rfl 31 _ _ rfl _ _ rfl _ rfl (Try.sizeOf31) rfl (A := []) H (Nat.le_of_ble_eq_true rfl) _ rfl ?_; intro w2 H2 hg2; replace H := H2; clear H2 hg2) | (refine wpList_store_H rfl 4 _ _ rfl _ _ rfl _ rfl (Try.sizeOf4) rfl (A := []) H (Nat.le_of_ble_eq_true rfl) _ rfl ?_; intro w2 H2 hg2; replace H := H2; clear H2 hg2) | (refine wpList_store_H rfl 9 _ _ rfl _ _ rfl _ rfl (Try.sizeOf9) rfl (A := []) H (Nat.le_of_ble_eq_true rfl) _ rfl ?_; intro w2 H2 hg2; replace H := H2; clear H2 hg2) | (refine wpList_store_H rfl 3 _ _ rfl _ _ rfl _ rfl (Try.sizeOf3) rfl (A := []) H (Nat.le_of_ble_eq_true rfl) _ rfl ?_; intro w2 H2 hg2; replace H := H2; clear H2 hg2) | (refine wpList_loads_H rfl 33 _ rfl (Try.isAgg33) 9 (Try.sizeOf33) _ _ rfl H (.head _) (Nat.le_of_ble_eq_true rfl) _ rfl ?_) | (refine wpList_store_H rfl 33 _ _ rfl _ _ rfl _ rfl (Try.sizeOf33) rfl (A := [_, _]) H (Nat.le_of_ble_eq_true rfl) _ rfl ?_; intro w2 H2 hg2; replace H := H2; clear H2 hg2) | (refine wpList_store_H rfl 36 _ _ rfl _ _ rfl _ rfl (Try.sizeOf36) rfl (A := [_]) H (Nat.le_of_ble_eq_true rfl) _ rfl ?_; intro w2 H2 hg2; replace H := H2; clear H2 hg2))
                  go_step3
                  show follow _ _ 0 _ _ _ (Exit.goto _) _ _
                  refine follow_goto (by rfl) ?_
                  go_wp2_with (first | ((with_reducible refine (cN _).mono ?_); rintro e w' ⟨rfl, ⟨n1, rfl⟩⟩; replace H := H.drewN n1) | ((with_reducible refine (cC _).mono ?_); rintro e w' ⟨rfl, hb⟩; replace H := H.on hb; clear hb) | (refine wpList_load_H rfl 4 _ rfl (Try.isAgg4) _ _ rfl H (.head _) _ rfl ?_) | (refine wpList_load_H rfl 9 _ rfl (Try.isAgg9) _ _ rfl H (.head _) _ rfl ?_) | (refine wpList_load_H rfl 3 _ rfl (Try.isAgg3) _ _ rfl H (.head _) _ rfl ?_) | (refine wpList_store_H rfl 31 _ _ rfl _ _ rfl _ rfl (Try.sizeOf31) rfl (A := []) H (Nat.le_of_ble_eq_true rfl) _ rfl ?_; intro w2 H2 hg2; replace H := H2; clear H2 hg2) | (refine wpList_store_H rfl 4 _ _ rfl _ _ rfl _ rfl (Try.sizeOf4) rfl (A := []) H (Nat.le_of_ble_eq_true rfl) _ rfl ?_; intro w2 H2 hg2; replace H := H2; clear H2 hg2) | (refine wpList_store_H rfl 9 _ _ rfl _ _ rfl _ rfl (Try.sizeOf9) rfl (A := []) H (Nat.le_of_ble_eq_true rfl) _ rfl ?_; intro w2 H2 hg2; replace H := H2; clear H2 hg2) | (refine wpList_store_H rfl 3 _ _ rfl _ _ rfl _ rfl (Try.sizeOf3) rfl (A := []) H (Nat.le_of_ble_eq_true rfl) _ rfl ?_; intro w2 H2 hg2; replace H := H2; clear H2 hg2) | (refine wpList_loads_H rfl 33 _ rfl (Try.isAgg33) 9 (Try.sizeOf33) _ _ rfl H (.head _) (Nat.le_of_ble_eq_true rfl) _ rfl ?_) | (refine wpList_store_H rfl 33 _ _ rfl _ _ rfl _ rfl (Try.sizeOf33) rfl (A := [_, _]) H (Nat.le_of_ble_eq_true rfl) _ rfl ?_; intro w2 H2 hg2; replace H := H2; clear H2 hg2) | (refine wpList_store_H rfl 36 _ _ rfl _ _ rfl _ rfl (Try.sizeOf36) rfl (A := [_]) H (Nat.le_of_ble_eq_true rfl) _ rfl ?_; intro w2 H2 hg2; replace H := H2; clear H2 hg2))
                  go_step3
                  go_wp2_with (first | ((with_reducible refine (cN _).mono ?_); rintro e w' ⟨rfl, ⟨n1, rfl⟩⟩; replace H := H.drewN n1) | ((with_reducible refine (cC _).mono ?_); rintro e w' ⟨rfl, hb⟩; replace H := H.on hb; clear hb) | ((with_reducible refine (cS _).mono ?_); rintro e w' ⟨rfl, ⟨n1, rfl⟩⟩; replace H := H.drewN n1) | ((with_reducible refine (cO _).mono ?_); rintro e w' ⟨rfl, ⟨n1, rfl⟩⟩; replace H := H.drewN n1) | (refine wpList_load_H rfl 4 _ rfl (Try.isAgg4) _ _ rfl H (.head _) _ rfl ?_) | (refine wpList_load_H rfl 9 _ rfl (Try.isAgg9) _ _ rfl H (.head _) _ rfl ?_) | (refine wpList_load_H rfl 3 _ rfl (Try.isAgg3) _ _ rfl H (.head _) _ rfl ?_) | (refine wpList_store_H rfl 31 _ _ rfl _ _ rfl _ rfl (Try.sizeOf31) rfl (A := []) H (Nat.le_of_ble_eq_true rfl) _ rfl ?_; intro w2 H2 hg2; replace H := H2; clear H2 hg2) | (refine wpList_store_H rfl 4 _ _ rfl _ _ rfl _ rfl (Try.sizeOf4) rfl (A := []) H (Nat.le_of_ble_eq_true rfl) _ rfl ?_; intro w2 H2 hg2; replace H := H2; clear H2 hg2) | (refine wpList_store_H rfl 9 _ _ rfl _ _ rfl _ rfl (Try.sizeOf9) rfl (A := []) H (Nat.le_of_ble_eq_true rfl) _ rfl ?_; intro w2 H2 hg2; replace H := H2; clear H2 hg2) | (refine wpList_store_H rfl 3 _ _ rfl _ _ rfl _ rfl (Try.sizeOf3) rfl (A := []) H (Nat.le_of_ble_eq_true rfl) _ rfl ?_; intro w2 H2 hg2; replace H := H2; clear H2 hg2) | (refine wpList_loads_H rfl 33 _ rfl (Try.isAgg33) 9 (Try.sizeOf33) _ _ rfl H (.head _) (Nat.le_of_ble_eq_true rfl) _ rfl ?_) | (refine wpList_store_H rfl 33 _ _ rfl _ _ rfl _ rfl (Try.sizeOf33) rfl (A := [_, _]) H (Nat.le_of_ble_eq_true rfl) _ rfl ?_; intro w2 H2 hg2; replace H := H2; clear H2 hg2) | (refine wpList_store_H rfl 36 _ _ rfl _ _ rfl _ rfl (Try.sizeOf36) rfl (A := [_]) H (Nat.le_of_ble_eq_true rfl) _ rfl ?_; intro w2 H2 hg2; replace H := H2; clear H2 hg2))
                  go_step3
                  show follow _ _ 0 _ _ _ (Exit.goto _) _ _
                  exact follow_back ⟨N, Nat.lt_succ_self _, b3, prop_Read.J.mk ⟨_, _, _, _, _, _, _, _, _⟩ _ _ (by rfl) H hl⟩
            · have fgt : decide ((n : Int) + 1 < m) = false := decide_eq_false hgt
              rw [if_neg (show ¬ decide ((m : Int) > (n : Int) + 1) = true from by rw [show decide ((m : Int) > (n : Int) + 1) = false from fgt]; decide)] at hl
              go_wp2_with (first | (refine wpList_load_H rfl 4 _ rfl (Try.isAgg4) _ _ rfl H (.head _) _ rfl ?_) | (refine wpList_load_H rfl 9 _ rfl (Try.isAgg9) _ _ rfl H (.head _) _ rfl ?_) | (refine wpList_load_H rfl 3 _ rfl (Try.isAgg3) _ _ rfl H (.head _) _ rfl ?_) | (refine wpList_store_H rfl 31 _ _ rfl _ _ rfl _ rfl (Try.sizeOf31) rfl (A := []) H (Nat.le_of_ble_eq_true rfl) _ rfl ?_; intro w2 H2 hg2; replace H := H2; clear H2 hg2) | (refine wpList_store_H rfl 4 _ _ rfl _ _ rfl _ rfl (Try.sizeOf4) rfl (A := []) H (Nat.le_of_ble_eq_true rfl) _ rfl ?_; intro w2 H2 hg2; replace H := H2; clear H2 hg2) | (refine wpList_store_H rfl 9 _ _ rfl _ _ rfl _ rfl (Try.sizeOf9) rfl (A := []) H (Nat.le_of_ble_eq_true rfl) _ rfl ?_; intro w2 H2 hg2; replace H := H2; clear H2 hg2) | (refine wpList_store_H rfl 3 _ _ rfl _ _ rfl _ rfl (Try.sizeOf3) rfl (A := []) H (Nat.le_of_ble_eq_true rfl) _ rfl ?_; intro w2 H2 hg2; replace H := H2; clear H2 hg2) | (refine wpList_loads_H rfl 33 _ rfl (Try.isAgg33) 9 (Try.sizeOf33) _ _ rfl H (.head _) (Nat.le_of_ble_eq_true rfl) _ rfl ?_) | (refine wpList_store_H rfl 33 _ _ rfl _ _ rfl _ rfl (Try.sizeOf33) rfl (A := [_, _]) H (Nat.le_of_ble_eq_true rfl) _ rfl ?_; intro w2 H2 hg2; replace H := H2; clear H2 hg2) | (refine wpList_store_H rfl 36 _ _ rfl _ _ rfl _ rfl (Try.sizeOf36) rfl (A := [_]) H (Nat.le_of_ble_eq_true rfl) _ rfl ?_; intro w2 H2 hg2; replace H := H2; clear H2 hg2))
              go_step3
              show follow _ _ 0 _ _ _ (Exit.goto _) _ _
              refine follow_goto (by rfl) ?_
              go_wp2_with (first | ((with_reducible refine (cN _).mono ?_); rintro e w' ⟨rfl, ⟨n1, rfl⟩⟩; replace H := H.drewN n1) | ((with_reducible refine (cC _).mono ?_); rintro e w' ⟨rfl, hb⟩; replace H := H.on hb; clear hb) | (refine wpList_load_H rfl 4 _ rfl (Try.isAgg4) _ _ rfl H (.head _) _ rfl ?_) | (refine wpList_load_H rfl 9 _ rfl (Try.isAgg9) _ _ rfl H (.head _) _ rfl ?_) | (refine wpList_load_H rfl 3 _ rfl (Try.isAgg3) _ _ rfl H (.head _) _ rfl ?_) | (refine wpList_store_H rfl 31 _ _ rfl _ _ rfl _ rfl (Try.sizeOf31) rfl (A := []) H (Nat.le_of_ble_eq_true rfl) _ rfl ?_; intro w2 H2 hg2; replace H := H2; clear H2 hg2) | (refine wpList_store_H rfl 4 _ _ rfl _ _ rfl _ rfl (Try.sizeOf4) rfl (A := []) H (Nat.le_of_ble_eq_true rfl) _ rfl ?_; intro w2 H2 hg2; replace H := H2; clear H2 hg2) | (refine wpList_store_H rfl 9 _ _ rfl _ _ rfl _ rfl (Try.sizeOf9) rfl (A := []) H (Nat.le_of_ble_eq_true rfl) _ rfl ?_; intro w2 H2 hg2; replace H := H2; clear H2 hg2) | (refine wpList_store_H rfl 3 _ _ rfl _ _ rfl _ rfl (Try.sizeOf3) rfl (A := []) H (Nat.le_of_ble_eq_true rfl) _ rfl ?_; intro w2 H2 hg2; replace H := H2; clear H2 hg2) | (refine wpList_loads_H rfl 33 _ rfl (Try.isAgg33) 9 (Try.sizeOf33) _ _ rfl H (.head _) (Nat.le_of_ble_eq_true rfl) _ rfl ?_) | (refine wpList_store_H rfl 33 _ _ rfl _ _ rfl _ rfl (Try.sizeOf33) rfl (A := [_, _]) H (Nat.le_of_ble_eq_true rfl) _ rfl ?_; intro w2 H2 hg2; replace H := H2; clear H2 hg2) | (refine wpList_store_H rfl 36 _ _ rfl _ _ rfl _ rfl (Try.sizeOf36) rfl (A := [_]) H (Nat.le_of_ble_eq_true rfl) _ rfl ?_; intro w2 H2 hg2; replace H := H2; clear H2 hg2))
              go_step3
              go_wp2_with (first | ((with_reducible refine (cN _).mono ?_); rintro e w' ⟨rfl, ⟨n1, rfl⟩⟩; replace H := H.drewN n1) | ((with_reducible refine (cC _).mono ?_); rintro e w' ⟨rfl, hb⟩; replace H := H.on hb; clear hb) | (refine wpList_load_H rfl 4 _ rfl (Try.isAgg4) _ _ rfl H (.head _) _ rfl ?_) | (refine wpList_load_H rfl 9 _ rfl (Try.isAgg9) _ _ rfl H (.head _) _ rfl ?_) | (refine wpList_load_H rfl 3 _ rfl (Try.isAgg3) _ _ rfl H (.head _) _ rfl ?_) | (refine wpList_store_H rfl 31 _ _ rfl _ _ rfl _ rfl (Try.sizeOf31) rfl (A := []) H (Nat.le_of_ble_eq_true rfl) _ rfl ?_; intro w2 H2 hg2; replace H := H2; clear H2 hg2) | (refine wpList_store_H rfl 4 _ _ rfl _ _ rfl _ rfl (Try.sizeOf4) rfl (A := []) H (Nat.le_of_ble_eq_true rfl) _ rfl ?_; intro w2 H2 hg2; replace H := H2; clear H2 hg2) | (refine wpList_store_H rfl 9 _ _ rfl _ _ rfl _ rfl (Try.sizeOf9) rfl (A := []) H (Nat.le_of_ble_eq_true rfl) _ rfl ?_; intro w2 H2 hg2; replace H := H2; clear H2 hg2) | (refine wpList_store_H rfl 3 _ _ rfl _ _ rfl _ rfl (Try.sizeOf3) rfl (A := []) H (Nat.le_of_ble_eq_true rfl) _ rfl ?_; intro w2 H2 hg2; replace H := H2; clear H2 hg2) | (refine wpList_loads_H rfl 33 _ rfl (Try.isAgg33) 9 (Try.sizeOf33) _ _ rfl H (.head _) (Nat.le_of_ble_eq_true rfl) _ rfl ?_) | (refine wpList_store_H rfl 33 _ _ rfl _ _ rfl _ rfl (Try.sizeOf33) rfl (A := [_, _]) H (Nat.le_of_ble_eq_true rfl) _ rfl ?_; intro w2 H2 hg2; replace H := H2; clear H2 hg2) | (refine wpList_store_H rfl 36 _ _ rfl _ _ rfl _ rfl (Try.sizeOf36) rfl (A := [_]) H (Nat.le_of_ble_eq_true rfl) _ rfl ?_; intro w2 H2 hg2; replace H := H2; clear H2 hg2))
              go_step3
              show follow _ _ 0 _ _ _ (Exit.goto _) _ _
              refine follow_goto (by rfl) ?_
              go_wp2_with (first | ((with_reducible refine (cN _).mono ?_); rintro e w' ⟨rfl, ⟨n1, rfl⟩⟩; replace H := H.drewN n1) | ((with_reducible refine (cC _).mono ?_); rintro e w' ⟨rfl, hb⟩; replace H := H.on hb; clear hb) | (refine wpList_load_H rfl 4 _ rfl (Try.isAgg4) _ _ rfl H (.head _) _ rfl ?_) | (refine wpList_load_H rfl 9 _ rfl (Try.isAgg9) _ _ rfl H (.head _) _ rfl ?_) | (refine wpList_load_H rfl 3 _ rfl (Try.isAgg3) _ _ rfl H (.head _) _ rfl ?_) | (refine wpList_store_H rfl 31 _ _ rfl _ _ rfl _ rfl (Try.sizeOf31) rfl (A := []) H (Nat.le_of_ble_eq_true rfl) _ rfl ?_; intro w2 H2 hg2; replace H := H2; clear H2 hg2) | (refine wpList_store_H rfl 4 _ _ rfl _ _ rfl _ rfl (Try.sizeOf4) rfl (A := []) H (Nat.le_of_ble_eq_true rfl) _ rfl ?_; intro w2 H2 hg2; replace H := H2; clear H2 hg2) | (refine wpList_store_H rfl 9 _ _ rfl _ _ rfl _ rfl (Try.sizeOf9) rfl (A := []) H (Nat.le_of_ble_eq_true rfl) _ rfl ?_; intro w2 H2 hg2; replace H := H2; clear H2 hg2) | (refine wpList_store_H rfl 3 _ _ rfl _ _ rfl _ rfl (Try.sizeOf3) rfl (A := []) H (Nat.le_of_ble_eq_true rfl) _ rfl ?_; intro w2 H2 hg2; replace H := H2; clear H2 hg2) | (refine wpList_loads_H rfl 33 _ rfl (Try.isAgg33) 9 (Try.sizeOf33) _ _ rfl H (.head _) (Nat.le_of_ble_eq_true rfl) _ rfl ?_) | (refine wpList_store_H rfl 33 _ _ rfl _ _ rfl _ rfl (Try.sizeOf33) rfl (A := [_, _]) H (Nat.le_of_ble_eq_true rfl) _ rfl ?_; intro w2 H2 hg2; replace H := H2; clear H2 hg2) | (refine wpList_store_H rfl 36 _ _ rfl _ _ rfl _ rfl (Try.sizeOf36) rfl (A := [_]) H (Nat.le_of_ble_eq_true rfl) _ rfl ?_; intro w2 H2 hg2; replace H := H2; clear H2 hg2))
              rw [follow_ret]
              simp only [prop_Read.wrong, prop_Read.St.out, Option.some.injEq, Prod.mk.injEq] at hl
              obtain ⟨rfl, rfl, rfl, rfl, rfl, rfl, rfl, rfl, rfl, rfl, rfl, rfl⟩ := hl
              exact bodyPost_ret (prop_Read.fin _ _ _ _ _ _ rfl rfl rfl H (.tail _ (.tail _ (.head _))) (.tail _ (.head _)) rfl rfl) rfl ⟨rfl, H.below⟩
          · rw [if_neg hb] at hl; cases hl
        · rw [if_neg han] at hl
          have a1' : (pan.toList == []) = false := by rw [beq_eq_false_iff_ne]; exact han
          have a2' : pan.toList.isEmpty = false := by rw [List.isEmpty_eq_false_iff]; exact han
          go_wp2_with (first | (refine wpList_load_H rfl 4 _ rfl (Try.isAgg4) _ _ rfl H (.head _) _ rfl ?_) | (refine wpList_load_H rfl 9 _ rfl (Try.isAgg9) _ _ rfl H (.head _) _ rfl ?_) | (refine wpList_load_H rfl 3 _ rfl (Try.isAgg3) _ _ rfl H (.head _) _ rfl ?_) | (refine wpList_store_H rfl 31 _ _ rfl _ _ rfl _ rfl (Try.sizeOf31) rfl (A := []) H (Nat.le_of_ble_eq_true rfl) _ rfl ?_; intro w2 H2 hg2; replace H := H2; clear H2 hg2) | (refine wpList_store_H rfl 4 _ _ rfl _ _ rfl _ rfl (Try.sizeOf4) rfl (A := []) H (Nat.le_of_ble_eq_true rfl) _ rfl ?_; intro w2 H2 hg2; replace H := H2; clear H2 hg2) | (refine wpList_store_H rfl 9 _ _ rfl _ _ rfl _ rfl (Try.sizeOf9) rfl (A := []) H (Nat.le_of_ble_eq_true rfl) _ rfl ?_; intro w2 H2 hg2; replace H := H2; clear H2 hg2) | (refine wpList_store_H rfl 3 _ _ rfl _ _ rfl _ rfl (Try.sizeOf3) rfl (A := []) H (Nat.le_of_ble_eq_true rfl) _ rfl ?_; intro w2 H2 hg2; replace H := H2; clear H2 hg2) | (refine wpList_loads_H rfl 33 _ rfl (Try.isAgg33) 9 (Try.sizeOf33) _ _ rfl H (.head _) (Nat.le_of_ble_eq_true rfl) _ rfl ?_) | (refine wpList_store_H rfl 33 _ _ rfl _ _ rfl _ rfl (Try.sizeOf33) rfl (A := [_, _]) H (Nat.le_of_ble_eq_true rfl) _ rfl ?_; intro w2 H2 hg2; replace H := H2; clear H2 hg2) | (refine wpList_store_H rfl 36 _ _ rfl _ _ rfl _ rfl (Try.sizeOf36) rfl (A := [_]) H (Nat.le_of_ble_eq_true rfl) _ rfl ?_; intro w2 H2 hg2; replace H := H2; clear H2 hg2))
          go_step3
          show follow _ _ 0 _ _ _ (Exit.goto _) _ _
          refine follow_goto (by rfl) ?_
          go_wp2_with (first | (refine wpList_load_H rfl 4 _ rfl (Try.isAgg4) _ _ rfl H (.head _) _ rfl ?_) | (refine wpList_load_H rfl 9 _ rfl (Try.isAgg9) _ _ rfl H (.head _) _ rfl ?_) | (refine wpList_load_H rfl 3 _ rfl (Try.isAgg3) _ _ rfl H (.head _) _ rfl ?_) | (refine wpList_store_H rfl 31 _ _ rfl _ _ rfl _ rfl (Try.sizeOf31) rfl (A := []) H (Nat.le_of_ble_eq_true rfl) _ rfl ?_; intro w2 H2 hg2; replace H := H2; clear H2 hg2) | (refine wpList_store_H rfl 4 _ _ rfl _ _ rfl _ rfl (Try.sizeOf4) rfl (A := []) H (Nat.le_of_ble_eq_true rfl) _ rfl ?_; intro w2 H2 hg2; replace H := H2; clear H2 hg2) | (refine wpList_store_H rfl 9 _ _ rfl _ _ rfl _ rfl (Try.sizeOf9) rfl (A := []) H (Nat.le_of_ble_eq_true rfl) _ rfl ?_; intro w2 H2 hg2; replace H := H2; clear H2 hg2) | (refine wpList_store_H rfl 3 _ _ rfl _ _ rfl _ rfl (Try.sizeOf3) rfl (A := []) H (Nat.le_of_ble_eq_true rfl) _ rfl ?_; intro w2 H2 hg2; replace H := H2; clear H2 hg2) | (refine wpList_loads_H rfl 33 _ rfl (Try.isAgg33) 9 (Try.sizeOf33) _ _ rfl H (.head _) (Nat.le_of_ble_eq_true rfl) _ rfl ?_) | (refine wpList_store_H rfl 33 _ _ rfl _ _ rfl _ rfl (Try.sizeOf33) rfl (A := [_, _]) H (Nat.le_of_ble_eq_true rfl) _ rfl ?_; intro w2 H2 hg2; replace H := H2; clear H2 hg2) | (refine wpList_store_H rfl 36 _ _ rfl _ _ rfl _ rfl (Try.sizeOf36) rfl (A := [_]) H (Nat.le_of_ble_eq_true rfl) _ rfl ?_; intro w2 H2 hg2; replace H := H2; clear H2 hg2))
          go_step3
          show follow _ _ 0 _ _ _ (Exit.goto _) _ _
          refine follow_goto (by rfl) ?_
          go_wp2_with (first | (refine wpList_load_H rfl 4 _ rfl (Try.isAgg4) _ _ rfl H (.head _) _ rfl ?_) | (refine wpList_load_H rfl 9 _ rfl (Try.isAgg9) _ _ rfl H (.head _) _ rfl ?_) | (refine wpList_load_H rfl 3 _ rfl (Try.isAgg3) _ _ rfl H (.head _) _ rfl ?_) | (refine wpList_store_H rfl 31 _ _ rfl _ _ rfl _ rfl (Try.sizeOf31) rfl (A := []) H (Nat.le_of_ble_eq_true rfl) _ rfl ?_; intro w2 H2 hg2; replace H := H2; clear H2 hg2) | (refine wpList_store_H rfl 4 _ _ rfl _ _ rfl _ rfl (Try.sizeOf4) rfl (A := []) H (Nat.le_of_ble_eq_true rfl) _ rfl ?_; intro w2 H2 hg2; replace H := H2; clear H2 hg2) | (refine wpList_store_H rfl 9 _ _ rfl _ _ rfl _ rfl (Try.sizeOf9) rfl (A := []) H (Nat.le_of_ble_eq_true rfl) _ rfl ?_; intro w2 H2 hg2; replace H := H2; clear H2 hg2) | (refine wpList_store_H rfl 3 _ _ rfl _ _ rfl _ rfl (Try.sizeOf3) rfl (A := []) H (Nat.le_of_ble_eq_true rfl) _ rfl ?_; intro w2 H2 hg2; replace H := H2; clear H2 hg2) | (refine wpList_loads_H rfl 33 _ rfl (Try.isAgg33) 9 (Try.sizeOf33) _ _ rfl H (.head _) (Nat.le_of_ble_eq_true rfl) _ rfl ?_) | (refine wpList_store_H rfl 33 _ _ rfl _ _ rfl _ rfl (Try.sizeOf33) rfl (A := [_, _]) H (Nat.le_of_ble_eq_true rfl) _ rfl ?_; intro w2 H2 hg2; replace H := H2; clear H2 hg2) | (refine wpList_store_H rfl 36 _ _ rfl _ _ rfl _ rfl (Try.sizeOf36) rfl (A := [_]) H (Nat.le_of_ble_eq_true rfl) _ rfl ?_; intro w2 H2 hg2; replace H := H2; clear H2 hg2))
          rw [follow_ret]
          simp only [prop_Read.wrong, prop_Read.St.out, Option.some.injEq, Prod.mk.injEq] at hl
          obtain ⟨rfl, rfl, rfl, rfl, rfl, rfl, rfl, rfl, rfl, rfl, rfl, rfl⟩ := hl
          exact bodyPost_ret (prop_Read.fin _ _ _ _ _ _ rfl rfl rfl H (.tail _ (.tail _ (.head _))) (.tail _ (.head _)) rfl rfl) rfl ⟨rfl, H.below⟩
      · rw [if_neg h38] at hl
        have f38 : (((a1[n]).toNat : Int) == 38) = false := by rw [beq_eq_false_iff_ne]; exact h38
        clear h38
        go_wp2_with (first | (refine wpList_load_H rfl 4 _ rfl (Try.isAgg4) _ _ rfl H (.head _) _ rfl ?_) | (refine wpList_load_H rfl 9 _ rfl (Try.isAgg9) _ _ rfl H (.head _) _ rfl ?_) | (refine wpList_load_H rfl 3 _ rfl (Try.isAgg3) _ _ rfl H (.head _) _ rfl ?_) | (refine wpList_store_H rfl 31 _ _ rfl _ _ rfl _ rfl (Try.sizeOf31) rfl (A := []) H (Nat.le_of_ble_eq_true rfl) _ rfl ?_; intro w2 H2 hg2; replace H := H2; clear H2 hg2) | (refine wpList_store_H rfl 4 _ _ rfl _ _ rfl _ rfl (Try.sizeOf4) rfl (A := []) H (Nat.le_of_ble_eq_true rfl) _ rfl ?_; intro w2 H2 hg2; replace H := H2; clear H2 hg2) | (refine wpList_store_H rfl 9 _ _ rfl _ _ rfl _ rfl (Try.sizeOf9) rfl (A := []) H (Nat.le_of_ble_eq_true rfl) _ rfl ?_; intro w2 H2 hg2; replace H := H2; clear H2 hg2) | (refine wpList_store_H rfl 3 _ _ rfl _ _ rfl _ rfl (Try.sizeOf3) rfl (A := []) H (Nat.le_of_ble_eq_true rfl) _ rfl ?_; intro w2 H2 hg2; replace H := H2; clear H2 hg2) | (refine wpList_loads_H rfl 33 _ rfl (Try.isAgg33) 9 (Try.sizeOf33) _ _ rfl H (.head _) (Nat.le_of_ble_eq_true rfl) _ rfl ?_) | (refine wpList_store_H rfl 33 _ _ rfl _ _ rfl _ rfl (Try.sizeOf33) rfl (A := [_, _]) H (Nat.le_of_ble_eq_true rfl) _ rfl ?_; intro w2 H2 hg2; replace H := H2; clear H2 hg2) | (refine wpList_store_H rfl 36 _ _ rfl _ _ rfl _ rfl (Try.sizeOf36) rfl (A := [_]) H (Nat.le_of_ble_eq_true rfl) _ rfl ?_; intro w2 H2 hg2; replace H := H2; clear H2 hg2))
        rw [follow_ret]
        simp only [prop_Read.wrong, prop_Read.St.out, Option.some.injEq, Prod.mk.injEq] at hl
        obtain ⟨rfl, rfl, rfl, rfl, rfl, rfl, rfl, rfl, rfl, rfl, rfl, rfl⟩ := hl
        exact bodyPost_ret (prop_Read.fin _ _ _ _ _ _ rfl rfl rfl H (.tail _ (.tail _ (.head _))) (.tail _ (.head _)) rfl rfl) rfl ⟨rfl, H.below⟩


/-! ### prop_Alias: function 15 -/
def prop_Alias.j0 : Nat → Int → ByteArray → Int → Bool → Bool → Option (ByteArray × Int × Bool)
  | 0, _, _, _, _, _ => none
  | k + 1, x0, x1, x2, x3, x25 => if x25 = true then (some ((⟨#[]⟩ : ByteArray), 0, false)) else ((prop_name.f k x1 (wrap64 (x2 + 1))).bind fun t114 => (if t114 = (wrap64 (x2 + 1)) then (some ((⟨#[]⟩ : ByteArray), 0, false)) else ((rows_Stop.f x0 x1 t114 x3).bind fun t115 => (if t115 = true then (if 0 ≤ (wrap64 (x2 + 1)) then (if (wrap64 (x2 + 1)) ≤ t114 then (if t114 ≤ (x1.size : Int) then ((strings_Clone.f (x1.extract ((wrap64 (x2 + 1)) : Int).toNat (t114 : Int).toNat)).bind fun t116 => (some (t116, t114, true))) else (none)) else (none)) else (none)) else (if 0 ≤ t114 then (if t114 < (x1.size : Int) then (if (bt x1 t114) = 58 then (if 0 ≤ (wrap64 (x2 + 1)) then (if (wrap64 (x2 + 1)) ≤ t114 then (if t114 ≤ (x1.size : Int) then ((strings_Clone.f (x1.extract ((wrap64 (x2 + 1)) : Int).toNat (t114 : Int).toNat)).bind fun t117 => (some (t117, t114, true))) else (none)) else (none)) else (none)) else (some ((⟨#[]⟩ : ByteArray), 0, false))) else (none)) else (none))))))
def prop_Alias.f (k : Nat) (a0 : Int) (a1 : ByteArray) (a2 : Int) (a3 : Bool) : Option (ByteArray × Int × Bool) := if a2 < 0 then (prop_Alias.j0 k a0 a1 a2 a3 true) else (if a2 ≥ (a1.size : Int) then (prop_Alias.j0 k a0 a1 a2 a3 true) else (if 0 ≤ a2 then (if a2 < (a1.size : Int) then (prop_Alias.j0 k a0 a1 a2 a3 ((bt a1 a2) != 42)) else (none)) else (none)))
theorem prop_Alias.mono_l : ∀ k, (∀ y0 y1 y2 y3 y4, LeO (prop_Alias.j0 k y0 y1 y2 y3 y4) (prop_Alias.j0 (k + 1) y0 y1 y2 y3 y4))
  | 0 => fun _ _ _ _ _ r h => by simp [prop_Alias.j0] at h
  | k + 1 => by
    have ih0 := prop_Alias.mono_l k
    · intro y0 y1 y2 y3 y4
      unfold prop_Alias.j0
      repeat' first
      | (with_reducible exact ih0 _ _ _ _ _)
      | (with_reducible exact prop_name.mono _ _ _)
      | (with_reducible exact LeO.refl _)
      | (with_reducible exact LeO.none _)
      | (with_reducible refine LeO.ite ?_ ?_)
      | (with_reducible refine LeO.bind ?_ (fun _ => ?_))
      | exact ih0 _ _ _ _ _
      | exact prop_name.mono _ _ _
      | exact LeO.none _
      | refine LeO.ite ?_ ?_
      | refine LeO.bind ?_ (fun _ => ?_)
theorem prop_Alias.mono : ∀ a0 a1 a2 a3 k, LeO (prop_Alias.f k a0 a1 a2 a3) (prop_Alias.f (k + 1) a0 a1 a2 a3) := by
  intro a0 a1 a2 a3 k
  have ih0 := prop_Alias.mono_l k
  unfold prop_Alias.f
  repeat' first
      | (with_reducible exact ih0 _ _ _ _ _)
      | (with_reducible exact prop_name.mono _ _ _)
      | (with_reducible exact LeO.refl _)
      | (with_reducible exact LeO.none _)
      | (with_reducible refine LeO.ite ?_ ?_)
      | (with_reducible refine LeO.bind ?_ (fun _ => ?_))
      | exact ih0 _ _ _ _ _
      | exact prop_name.mono _ _ _
      | exact LeO.none _
      | refine LeO.ite ?_ ?_
      | refine LeO.bind ?_ (fun _ => ?_)
set_option maxHeartbeats 8000000 in
set_option maxRecDepth 100000 in
theorem prop_Alias.calls (k : Nat) (a0 : Int) (a1 : ByteArray) (a2 : Int) (a3 : Bool) (r1 : ByteArray) (r2 : Int) (r3 : Bool) (w : World) (h : prop_Alias.f k a0 a1 a2 a3 = some (r1, r2, r3)) :
    Calls Try.prog 15 #[.int .i64 a0, .string a1, .int .i64 a2, .bool a3] w fun e w' => e = .returned (.tuple #[.string r1, .int .i64 r2, .bool r3]) ∧ Below w.heap.size w w' := by
  have HB := Aside0.mk (Below.refl w.heap.size w)
  have H : (if a2 < 0 then (prop_Alias.j0 k a0 a1 a2 a3 true) else (if a2 ≥ (a1.size : Int) then (prop_Alias.j0 k a0 a1 a2 a3 true) else (if 0 ≤ a2 then (if a2 < (a1.size : Int) then (prop_Alias.j0 k a0 a1 a2 a3 ((bt a1 a2) != 42)) else (none)) else (none)))) = some (r1, r2, r3) := h
  clear h
  have HC5 := Aside0.mk H
  clear H
  go_enter Try.func15, Try.ntmps15
  go_upto_region 1 with (fail)
  go_cut [25] (fun v25 wc => ∃ (kq : Nat) (x25_4 : Bool), v25 = .bool x25_4 ∧ Aside0 (prop_Alias.j0 kq a0 a1 a2 a3 x25_4 = some (r1, r2, r3)) ∧ Aside0 (kq ≤ k) ∧ Aside0 (Below w.heap.size w wc))
  case first =>
    have H := HC5.out
    clear HC5
    by_cases c6 : a2 < 0
    · rw [if_pos c6] at H
      have c6b0 : decide (a2 < 0) = true := decide_eq_true c6
      clear c6
      (first | rw [c6b0] | (simp only [i64_w, i32_w]; rw [c6b0]) | skip)
      have H' := Aside0.mk H
      clear H
      go_wp2
      go_meet
      case rel => exact ⟨_, (true), (by first | rfl | (simp; done) | (simp [*]; done)), H', ⟨by first | omega | exact Nat.le_refl _⟩, ⟨by repeat (first | (with_reducible first | exact HB.out | apply below_alloc | apply pw_below_drewN | apply below_drew1) | exact HB.out)⟩⟩
    · rw [if_neg c6] at H
      have c6b0 : decide (a2 < 0) = false := decide_eq_false c6
      clear c6
      (first | rw [c6b0] | (simp only [i64_w, i32_w]; rw [c6b0]) | skip)
      by_cases c7 : a2 ≥ (a1.size : Int)
      · rw [if_pos c7] at H
        have c7b0 : decide ((a1.size : Int) ≤ a2) = true := decide_eq_true c7
        clear c7
        have H' := Aside0.mk H
        clear H
        go_wp2
        go_meet
        case rel => exact ⟨_, (true), (by first | rfl | (simp; done) | (simp [*]; done)), H', ⟨by first | omega | exact Nat.le_refl _⟩, ⟨by repeat (first | (with_reducible first | exact HB.out | apply below_alloc | apply pw_below_drewN | apply below_drew1) | exact HB.out)⟩⟩
      · rw [if_neg c7] at H
        have c7b0 : decide ((a1.size : Int) ≤ a2) = false := decide_eq_false c7
        clear c7
        by_cases c8 : 0 ≤ a2
        · rw [if_pos c8] at H
          have c8b0 : decide (0 ≤ a2) = true := decide_eq_true c8
          clear c8
          by_cases c9 : a2 < (a1.size : Int)
          · rw [if_pos c9] at H
            have c9b0 : decide (a2 < (a1.size : Int)) = true := decide_eq_true c9
            clear c9
            have H' := Aside0.mk H
            clear H
            have p10 : 0 ≤ (a2 : Int) := of_decide_eq_true (by first | (with_reducible assumption) | assumption)
            have q10 : a2 < (a1.size : Int) := of_decide_eq_true (by first | (with_reducible assumption) | assumption)
            have hx10 := bt_at a1 a2
            replace p10 := eq_true p10
            replace q10 := eq_true q10
            go_wp2
            go_meet
            case rel => exact ⟨_, (((bt a1 a2) != 42)), (by first | rfl | (simp; done) | (simp [*]; done)), H', ⟨by first | omega | exact Nat.le_refl _⟩, ⟨by repeat (first | (with_reducible first | exact HB.out | apply below_alloc | apply pw_below_drewN | apply below_drew1) | exact HB.out)⟩⟩
          · rw [if_neg c9] at H
            exact absurd H (by simp)
        · rw [if_neg c8] at H
          exact absurd H (by simp)
  case rest =>
    clear HC5
    try clear c1
    try clear p1
    try clear q1
    try clear hx1
    try clear p2
    try clear c6
    try clear c6b0
    try clear c7
    try clear c7b0
    try clear c8
    try clear c8b0
    try clear c9
    try clear c9b0
    try clear p10
    try clear q10
    try clear hx10
    try clear p10
    try clear q10
    obtain ⟨kq, x25_4, rfl, HA, HJ4, HB⟩ := hcut
    cases kq with
    | zero => exact absurd HA.out (by simp [prop_Alias.j0])
    | succ kj4 =>
      have H := HA.out
      clear HA
      simp only [prop_Alias.j0] at H
      by_cases c11 : x25_4 = true
      · subst c11
        have H1 : (some ((⟨#[]⟩ : ByteArray), 0, false)) = some (r1, r2, r3) := by rw [if_pos rfl] at H; exact H
        clear H
        have H := H1
        clear H1
        simp only [Option.some.injEq, Prod.mk.injEq] at H
        obtain ⟨rfl, rfl, rfl⟩ := H
        go_wp2
        go_ret3
        exact ⟨by first | rfl | (simp [errW_none, errW_some] <;> rfl) | (simp [*, errW_none, errW_some] <;> rfl), by repeat (first | (with_reducible first | exact HB.out | apply below_alloc | apply pw_below_drewN | apply below_drew1) | exact HB.out)⟩
      · replace c11 := Bool.eq_false_iff.mpr c11
        subst c11
        have H1 : ((prop_name.f kj4 a1 (wrap64 (a2 + 1))).bind fun t114 => (if t114 = (wrap64 (a2 + 1)) then (some ((⟨#[]⟩ : ByteArray), 0, false)) else ((rows_Stop.f a0 a1 t114 a3).bind fun t115 => (if t115 = true then (if 0 ≤ (wrap64 (a2 + 1)) then (if (wrap64 (a2 + 1)) ≤ t114 then (if t114 ≤ (a1.size : Int) then ((strings_Clone.f (a1.extract ((wrap64 (a2 + 1)) : Int).toNat (t114 : Int).toNat)).bind fun t116 => (some (t116, t114, true))) else (none)) else (none)) else (none)) else (if 0 ≤ t114 then (if t114 < (a1.size : Int) then (if (bt a1 t114) = 58 then (if 0 ≤ (wrap64 (a2 + 1)) then (if (wrap64 (a2 + 1)) ≤ t114 then (if t114 ≤ (a1.size : Int) then ((strings_Clone.f (a1.extract ((wrap64 (a2 + 1)) : Int).toNat (t114 : Int).toNat)).bind fun t117 => (some (t117, t114, true))) else (none)) else (none)) else (none)) else (some ((⟨#[]⟩ : ByteArray), 0, false))) else (none)) else (none)))))) = some (r1, r2, r3) := by rw [if_neg (show ¬ (false = true) by decide)] at H; exact H
        clear H
        have H := H1
        clear H1
        replace H := Option.bind_eq_some_iff.mp H
        obtain ⟨t114, A120, H⟩ := H
        replace H : (if t114 = (wrap64 (a2 + 1)) then (some ((⟨#[]⟩ : ByteArray), 0, false)) else ((rows_Stop.f a0 a1 t114 a3).bind fun t115 => (if t115 = true then (if 0 ≤ (wrap64 (a2 + 1)) then (if (wrap64 (a2 + 1)) ≤ t114 then (if t114 ≤ (a1.size : Int) then ((strings_Clone.f (a1.extract ((wrap64 (a2 + 1)) : Int).toNat (t114 : Int).toNat)).bind fun t116 => (some (t116, t114, true))) else (none)) else (none)) else (none)) else (if 0 ≤ t114 then (if t114 < (a1.size : Int) then (if (bt a1 t114) = 58 then (if 0 ≤ (wrap64 (a2 + 1)) then (if (wrap64 (a2 + 1)) ≤ t114 then (if t114 ≤ (a1.size : Int) then ((strings_Clone.f (a1.extract ((wrap64 (a2 + 1)) : Int).toNat (t114 : Int).toNat)).bind fun t117 => (some (t117, t114, true))) else (none)) else (none)) else (none)) else (some ((⟨#[]⟩ : ByteArray), 0, false))) else (none)) else (none))))) = some (r1, r2, r3) := H
        have A12 := Aside0.mk A120
        clear A120
        by_cases c13 : t114 = (wrap64 (a2 + 1))
        · rw [if_pos c13] at H
          have c13b0 : (t114 == (wrap64 (a2 + 1))) = true := beq_iff_eq.mpr c13
          have c13b1 : (t114 != (wrap64 (a2 + 1))) = false := bne_eq_false_iff_eq.mpr c13
          (try (have c13b2 : (t114 == ((a2 + 1))) = true := (by have e_ : wrap64 (a2 + 1) = (a2 + 1) := (by unfold wrap64; omega); have h_ : (t114 == (wrap64 (a2 + 1))) = true := beq_iff_eq.mpr c13; rw [e_] at h_; exact h_)))
          (try (have c13b3 : (t114 != ((a2 + 1))) = false := (by have e_ : wrap64 (a2 + 1) = (a2 + 1) := (by unfold wrap64; omega); have h_ : (t114 != (wrap64 (a2 + 1))) = false := bne_eq_false_iff_eq.mpr c13; rw [e_] at h_; exact h_)))
          clear c13
          simp only [Option.some.injEq, Prod.mk.injEq] at H
          obtain ⟨rfl, rfl, rfl⟩ := H
          go_wp2_with (first | ((with_reducible refine gate_callee (f := 22) rfl ?_); refine goesL_ (some 29) rfl rfl Try.func22 (by kernel_rfl) rfl #[.string a1, .int .i64 (wrap64 (a2 + 1))] rfl (by (try simp only [List.map_toArray, List.map_cons, List.map_nil]); first | done | rfl | (simp only [List.length_drop, List.length_take]; rfl)) ?_; (with_reducible refine (prop_name.calls kj4 a1 (wrap64 (a2 + 1)) t114 _ A12.out).mono ?_); rintro e w' ⟨rfl, ⟨nd, rfl⟩⟩; refine ⟨_, rfl, ?_⟩))
          go_ret3
          exact ⟨by first | rfl | (simp [errW_none, errW_some] <;> rfl) | (simp [*, errW_none, errW_some] <;> rfl), by repeat (first | (with_reducible first | exact HB.out | apply below_alloc | apply pw_below_drewN | apply below_drew1) | exact HB.out)⟩
        · rw [if_neg c13] at H
          have c13b0 : (t114 == (wrap64 (a2 + 1))) = false := beq_eq_false_iff_ne.mpr c13
          have c13b1 : (t114 != (wrap64 (a2 + 1))) = true := bne_iff_ne.mpr c13
          (try (have c13b2 : (t114 == ((a2 + 1))) = false := (by have e_ : wrap64 (a2 + 1) = (a2 + 1) := (by unfold wrap64; omega); have h_ : (t114 == (wrap64 (a2 + 1))) = false := beq_eq_false_iff_ne.mpr c13; rw [e_] at h_; exact h_)))
          (try (have c13b3 : (t114 != ((a2 + 1))) = true := (by have e_ : wrap64 (a2 + 1) = (a2 + 1) := (by unfold wrap64; omega); have h_ : (t114 != (wrap64 (a2 + 1))) = true := bne_iff_ne.mpr c13; rw [e_] at h_; exact h_)))
          replace H := Option.bind_eq_some_iff.mp H
          obtain ⟨t115, A140, H⟩ := H
          replace H : (if t115 = true then (if 0 ≤ (wrap64 (a2 + 1)) then (if (wrap64 (a2 + 1)) ≤ t114 then (if t114 ≤ (a1.size : Int) then ((strings_Clone.f (a1.extract ((wrap64 (a2 + 1)) : Int).toNat (t114 : Int).toNat)).bind fun t116 => (some (t116, t114, true))) else (none)) else (none)) else (none)) else (if 0 ≤ t114 then (if t114 < (a1.size : Int) then (if (bt a1 t114) = 58 then (if 0 ≤ (wrap64 (a2 + 1)) then (if (wrap64 (a2 + 1)) ≤ t114 then (if t114 ≤ (a1.size : Int) then ((strings_Clone.f (a1.extract ((wrap64 (a2 + 1)) : Int).toNat (t114 : Int).toNat)).bind fun t117 => (some (t117, t114, true))) else (none)) else (none)) else (none)) else (some ((⟨#[]⟩ : ByteArray), 0, false))) else (none)) else (none))) = some (r1, r2, r3) := H
          have A14 := Aside0.mk A140
          clear A140
          by_cases c15 : t115 = true
          · subst c15
            have H1 : (if 0 ≤ (wrap64 (a2 + 1)) then (if (wrap64 (a2 + 1)) ≤ t114 then (if t114 ≤ (a1.size : Int) then ((strings_Clone.f (a1.extract ((wrap64 (a2 + 1)) : Int).toNat (t114 : Int).toNat)).bind fun t116 => (some (t116, t114, true))) else (none)) else (none)) else (none)) = some (r1, r2, r3) := by rw [if_pos rfl] at H; exact H
            clear H
            have H := H1
            clear H1
            obtain ⟨ji16, hji16⟩ : ∃ j_ : Int, (wrap64 (a2 + 1)) = j_ := ⟨_, rfl⟩
            replace H : (if 0 ≤ (ji16) then (if (ji16) ≤ t114 then (if t114 ≤ (a1.size : Int) then ((strings_Clone.f (a1.extract ((ji16) : Int).toNat (t114 : Int).toNat)).bind fun t116 => (some (t116, t114, true))) else (none)) else (none)) else (none)) = some (r1, r2, r3) := by first | (rw [hji16] at H; exact H) | (simp only [hji16] at H ⊢; exact H)
            (try rw [hji16] at c13b0)
            (try rw [hji16] at c13b1)
            (try rw [hji16] at c13b2)
            (try rw [hji16] at c13b3)
            (try rw [hji16] at A12)
            (try rw [hji16] at A14)
            have hji16w : (IntKind.i64.wrap (a2 + 1)) = ji16 := (i64_w _).trans hji16
            by_cases c17 : 0 ≤ (ji16)
            · rw [if_pos c17] at H
              have c17b0 := eq_true c17
              have c17b1 : decide (0 ≤ (ji16)) = true := decide_eq_true c17
              clear c17
              by_cases c18 : (ji16) ≤ t114
              · rw [if_pos c18] at H
                have c18b0 := eq_true c18
                have c18b1 : decide ((ji16) ≤ t114) = true := decide_eq_true c18
                clear c18
                by_cases c19 : t114 ≤ (a1.size : Int)
                · rw [if_pos c19] at H
                  have c19b0 := eq_true c19
                  have c19b1 : decide (t114 ≤ (a1.size : Int)) = true := decide_eq_true c19
                  clear c19
                  replace H := Option.bind_eq_some_iff.mp H
                  obtain ⟨t116, A200, H⟩ := H
                  replace H : (some (t116, t114, true)) = some (r1, r2, r3) := H
                  have A20 := Aside0.mk A200
                  clear A200
                  simp only [Option.some.injEq, Prod.mk.injEq] at H
                  obtain ⟨rfl, rfl, rfl⟩ := H
                  go_wp2_with (first | ((with_reducible refine gate_callee (f := 22) rfl ?_); refine goesL_ (some 29) rfl rfl Try.func22 (by kernel_rfl) rfl #[.string a1, .int .i64 ji16] rfl (by (try simp only [List.map_toArray, List.map_cons, List.map_nil]); first | done | (simp only [hji16]; rfl) | rfl | (simp only [List.length_drop, List.length_take]; rfl)) ?_; (with_reducible refine (prop_name.calls kj4 a1 ji16 t114 _ A12.out).mono ?_); rintro e w' ⟨rfl, ⟨nd, rfl⟩⟩; refine ⟨_, rfl, ?_⟩) | (go_at_call 24; (with_reducible refine (rows_Stop.calls a0 a1 t114 a3 true _ A14.out).mono ?_); rintro e w' ⟨rfl, ⟨nd, rfl⟩⟩) | ((with_reducible refine gate_callee (f := 23) rfl ?_); refine goesL_ (some 53) rfl rfl Try.func23 (by kernel_rfl) rfl #[.string (a1.extract ((ji16) : Int).toNat (t114 : Int).toNat)] rfl (by (try simp only [List.map_toArray, List.map_cons, List.map_nil]); first | done | (simp only [hji16]; rfl) | rfl | (simp only [List.length_drop, List.length_take]; rfl)) ?_; (with_reducible refine (strings_Clone.calls (a1.extract ((ji16) : Int).toNat (t114 : Int).toNat) t116 _ A20.out).mono ?_); rintro e w21 ⟨rfl, hb⟩; refine ⟨_, rfl, ?_⟩; have n0_ := Aside0.mk (below_step (by repeat (first | (with_reducible first | exact HB.out | apply below_alloc | apply pw_below_drewN | apply below_drew1) | exact HB.out)) hb); clear HB; have HB := n0_; clear n0_; (try clear hb); (try clear hb2); (try clear hk); (try clear hi)))
                  go_ret3
                  exact ⟨by first | rfl | (simp [errW_none, errW_some] <;> rfl) | (simp only [← hji16]; first | rfl | (simp [errW_none, errW_some] <;> rfl)) | (simp [*, errW_none, errW_some] <;> rfl), by repeat (first | (with_reducible first | exact HB.out | apply below_alloc | apply pw_below_drewN | apply below_drew1) | exact HB.out)⟩
                · rw [if_neg c19] at H
                  exact absurd H (by simp)
              · rw [if_neg c18] at H
                exact absurd H (by simp)
            · rw [if_neg c17] at H
              exact absurd H (by simp)
          · replace c15 := Bool.eq_false_iff.mpr c15
            subst c15
            have H1 : (if 0 ≤ t114 then (if t114 < (a1.size : Int) then (if (bt a1 t114) = 58 then (if 0 ≤ (wrap64 (a2 + 1)) then (if (wrap64 (a2 + 1)) ≤ t114 then (if t114 ≤ (a1.size : Int) then ((strings_Clone.f (a1.extract ((wrap64 (a2 + 1)) : Int).toNat (t114 : Int).toNat)).bind fun t117 => (some (t117, t114, true))) else (none)) else (none)) else (none)) else (some ((⟨#[]⟩ : ByteArray), 0, false))) else (none)) else (none)) = some (r1, r2, r3) := by rw [if_neg (show ¬ (false = true) by decide)] at H; exact H
            clear H
            have H := H1
            clear H1
            by_cases c22 : 0 ≤ t114
            · rw [if_pos c22] at H
              have c22b0 : decide (0 ≤ t114) = true := decide_eq_true c22
              clear c22
              by_cases c23 : t114 < (a1.size : Int)
              · rw [if_pos c23] at H
                have c23b0 : decide (t114 < (a1.size : Int)) = true := decide_eq_true c23
                clear c23
                by_cases c25 : (bt a1 t114) = 58
                · rw [if_pos c25] at H
                  have c25b0 : ((bt a1 t114) == 58) = true := beq_iff_eq.mpr c25
                  have c25b1 : ((bt a1 t114) != 58) = false := bne_eq_false_iff_eq.mpr c25
                  clear c25
                  obtain ⟨ji26, hji26⟩ : ∃ j_ : Int, (wrap64 (a2 + 1)) = j_ := ⟨_, rfl⟩
                  replace H : (if 0 ≤ (ji26) then (if (ji26) ≤ t114 then (if t114 ≤ (a1.size : Int) then ((strings_Clone.f (a1.extract ((ji26) : Int).toNat (t114 : Int).toNat)).bind fun t117 => (some (t117, t114, true))) else (none)) else (none)) else (none)) = some (r1, r2, r3) := by first | (rw [hji26] at H; exact H) | (simp only [hji26] at H ⊢; exact H)
                  (try rw [hji26] at c13b0)
                  (try rw [hji26] at c13b1)
                  (try rw [hji26] at c13b2)
                  (try rw [hji26] at c13b3)
                  (try rw [hji26] at A12)
                  (try rw [hji26] at A14)
                  have hji26w : (IntKind.i64.wrap (a2 + 1)) = ji26 := (i64_w _).trans hji26
                  by_cases c27 : 0 ≤ (ji26)
                  · rw [if_pos c27] at H
                    have c27b0 := eq_true c27
                    have c27b1 : decide (0 ≤ (ji26)) = true := decide_eq_true c27
                    clear c27
                    by_cases c28 : (ji26) ≤ t114
                    · rw [if_pos c28] at H
                      have c28b0 := eq_true c28
                      have c28b1 : decide ((ji26) ≤ t114) = true := decide_eq_true c28
                      clear c28
                      by_cases c29 : t114 ≤ (a1.size : Int)
                      · rw [if_pos c29] at H
                        have c29b0 := eq_true c29
                        have c29b1 : decide (t114 ≤ (a1.size : Int)) = true := decide_eq_true c29
                        clear c29
                        replace H := Option.bind_eq_some_iff.mp H
                        obtain ⟨t117, A300, H⟩ := H
                        replace H : (some (t117, t114, true)) = some (r1, r2, r3) := H
                        have A30 := Aside0.mk A300
                        clear A300
                        simp only [Option.some.injEq, Prod.mk.injEq] at H
                        obtain ⟨rfl, rfl, rfl⟩ := H
                        go_wp2_with (first | ((with_reducible refine gate_callee (f := 22) rfl ?_); refine goesL_ (some 29) rfl rfl Try.func22 (by kernel_rfl) rfl #[.string a1, .int .i64 ji26] rfl (by (try simp only [List.map_toArray, List.map_cons, List.map_nil]); first | done | (simp only [hji26]; rfl) | rfl | (simp only [List.length_drop, List.length_take]; rfl)) ?_; (with_reducible refine (prop_name.calls kj4 a1 ji26 t114 _ A12.out).mono ?_); rintro e w' ⟨rfl, ⟨nd, rfl⟩⟩; refine ⟨_, rfl, ?_⟩) | (go_at_call 24; (with_reducible refine (rows_Stop.calls a0 a1 t114 a3 false _ A14.out).mono ?_); rintro e w' ⟨rfl, ⟨nd, rfl⟩⟩; have p24 : 0 ≤ (t114 : Int) := of_decide_eq_true (by first | (with_reducible assumption) | assumption); have q24 : t114 < (a1.size : Int) := of_decide_eq_true (by first | (with_reducible assumption) | assumption); have hx24 := bt_at a1 t114; replace p24 := eq_true p24; replace q24 := eq_true q24) | ((with_reducible refine gate_callee (f := 23) rfl ?_); refine goesL_ (some 53) rfl rfl Try.func23 (by kernel_rfl) rfl #[.string (a1.extract ((ji26) : Int).toNat (t114 : Int).toNat)] rfl (by (try simp only [List.map_toArray, List.map_cons, List.map_nil]); first | done | (simp only [hji26]; rfl) | rfl | (simp only [List.length_drop, List.length_take]; rfl)) ?_; (with_reducible refine (strings_Clone.calls (a1.extract ((ji26) : Int).toNat (t114 : Int).toNat) t117 _ A30.out).mono ?_); rintro e w31 ⟨rfl, hb⟩; refine ⟨_, rfl, ?_⟩; have n0_ := Aside0.mk (below_step (by repeat (first | (with_reducible first | exact HB.out | apply below_alloc | apply pw_below_drewN | apply below_drew1) | exact HB.out)) hb); clear HB; have HB := n0_; clear n0_; (try clear hb); (try clear hb2); (try clear hk); (try clear hi)))
                        go_ret3
                        exact ⟨by first | rfl | (simp [errW_none, errW_some] <;> rfl) | (simp only [← hji26]; first | rfl | (simp [errW_none, errW_some] <;> rfl)) | (simp [*, errW_none, errW_some] <;> rfl), by repeat (first | (with_reducible first | exact HB.out | apply below_alloc | apply pw_below_drewN | apply below_drew1) | exact HB.out)⟩
                      · rw [if_neg c29] at H
                        exact absurd H (by simp)
                    · rw [if_neg c28] at H
                      exact absurd H (by simp)
                  · rw [if_neg c27] at H
                    exact absurd H (by simp)
                · rw [if_neg c25] at H
                  have c25b0 : ((bt a1 t114) == 58) = false := beq_eq_false_iff_ne.mpr c25
                  have c25b1 : ((bt a1 t114) != 58) = true := bne_iff_ne.mpr c25
                  simp only [Option.some.injEq, Prod.mk.injEq] at H
                  obtain ⟨rfl, rfl, rfl⟩ := H
                  go_wp2_with (first | ((with_reducible refine gate_callee (f := 22) rfl ?_); refine goesL_ (some 29) rfl rfl Try.func22 (by kernel_rfl) rfl #[.string a1, .int .i64 (wrap64 (a2 + 1))] rfl (by (try simp only [List.map_toArray, List.map_cons, List.map_nil]); first | done | rfl | (simp only [List.length_drop, List.length_take]; rfl)) ?_; (with_reducible refine (prop_name.calls kj4 a1 (wrap64 (a2 + 1)) t114 _ A12.out).mono ?_); rintro e w' ⟨rfl, ⟨nd, rfl⟩⟩; refine ⟨_, rfl, ?_⟩) | (go_at_call 24; (with_reducible refine (rows_Stop.calls a0 a1 t114 a3 false _ A14.out).mono ?_); rintro e w' ⟨rfl, ⟨nd, rfl⟩⟩; have p24 : 0 ≤ (t114 : Int) := of_decide_eq_true (by first | (with_reducible assumption) | assumption); have q24 : t114 < (a1.size : Int) := of_decide_eq_true (by first | (with_reducible assumption) | assumption); have hx24 := bt_at a1 t114; replace p24 := eq_true p24; replace q24 := eq_true q24))
                  go_ret3
                  exact ⟨by first | rfl | (simp [errW_none, errW_some] <;> rfl) | (simp [*, errW_none, errW_some] <;> rfl), by repeat (first | (with_reducible first | exact HB.out | apply below_alloc | apply pw_below_drewN | apply below_drew1) | exact HB.out)⟩
              · rw [if_neg c23] at H
                exact absurd H (by simp)
            · rw [if_neg c22] at H
              exact absurd H (by simp)

/-! ### targumlaw21_known: function 7 -/
def targumlaw21_known.f : Option Bool := some true
set_option maxHeartbeats 20000000 in
theorem targumlaw21_known.calls (r : Bool) (w : World) (h : targumlaw21_known.f = some r) :
    Calls Try.prog 7 #[] w fun e w' => e = .returned (.bool r) ∧ Below w.heap.size w w' := by
  obtain rfl := Option.some.inj h
  clear h
  have c0 : ∀ w, Calls Try.prog 13 #[.int .i64 11, .string ⟨#[38, 97, 32, 33, 33, 105, 110, 116, 32, 49]⟩, .int .i64 0, .bool false] w fun e w' => e = .returned (.tuple #[.agg #[.bool true, .bool true, .bool false, .string (⟨#[33, 33]⟩ : ByteArray), .string (⟨#[105, 110, 116]⟩ : ByteArray), .string (⟨#[97]⟩ : ByteArray), .int .i64 0, .int .i64 8, .int .i64 1], .int .i64 9, .agg #[.int .i64 0, .int .i64 0]]) ∧ Below w.heap.size w w' := fun w => prop_Read.calls 30 11 ⟨#[38, 97, 32, 33, 33, 105, 110, 116, 32, 49]⟩ 0 false true true false ⟨#[33, 33]⟩ ⟨#[105, 110, 116]⟩ ⟨#[97]⟩ 0 8 1 9 0 0 w (by kernel_rfl)
  have c1 : ∀ w, Calls Try.prog 13 #[.int .i64 11, .string ⟨#[38, 97, 32, 38, 98, 32, 49]⟩, .int .i64 0, .bool false] w fun e w' => e = .returned (.tuple #[.agg #[.bool false, .bool false, .bool false, .string (⟨#[]⟩ : ByteArray), .string (⟨#[]⟩ : ByteArray), .string (⟨#[]⟩ : ByteArray), .int .i64 0, .int .i64 0, .int .i64 0], .int .i64 0, .agg #[.int .i64 11, .int .i64 3]]) ∧ Below w.heap.size w w' := fun w => prop_Read.calls 30 11 ⟨#[38, 97, 32, 38, 98, 32, 49]⟩ 0 false false false false ⟨#[]⟩ ⟨#[]⟩ ⟨#[]⟩ 0 0 0 0 11 3 w (by kernel_rfl)
  have c2 : ∀ w, Calls Try.prog 13 #[.int .i64 12, .string ⟨#[49]⟩, .int .i64 0, .bool true] w fun e w' => e = .returned (.tuple #[.agg #[.bool false, .bool false, .bool false, .string (⟨#[]⟩ : ByteArray), .string (⟨#[]⟩ : ByteArray), .string (⟨#[]⟩ : ByteArray), .int .i64 0, .int .i64 0, .int .i64 0], .int .i64 0, .agg #[.int .i64 0, .int .i64 0]]) ∧ Below w.heap.size w w' := fun w => prop_Read.calls 30 12 ⟨#[49]⟩ 0 true false false false ⟨#[]⟩ ⟨#[]⟩ ⟨#[]⟩ 0 0 0 0 0 0 w (by kernel_rfl)
  have c3 : ∀ w, Calls Try.prog 15 #[.int .i64 11, .string ⟨#[42, 97, 58, 32, 49]⟩, .int .i64 0, .bool false] w fun e w' => e = .returned (.tuple #[.string (⟨#[97]⟩ : ByteArray), .int .i64 2, .bool true]) ∧ Below w.heap.size w w' := fun w => prop_Alias.calls 30 11 ⟨#[42, 97, 58, 32, 49]⟩ 0 false ⟨#[97]⟩ 2 true w (by kernel_rfl)
  have c4 : ∀ w, Calls Try.prog 15 #[.int .i64 11, .string ⟨#[42, 97, 44]⟩, .int .i64 0, .bool false] w fun e w' => e = .returned (.tuple #[.string (⟨#[]⟩ : ByteArray), .int .i64 0, .bool false]) ∧ Below w.heap.size w w' := fun w => prop_Alias.calls 30 11 ⟨#[42, 97, 44]⟩ 0 false ⟨#[]⟩ 0 false w (by kernel_rfl)
  have H := Holds.nil w
  go_enter Try.func7, Try.ntmps7
  go_wp2_with (first | ((with_reducible refine (c0 _).mono ?_); rintro e w' ⟨rfl, hb⟩; replace H := H.on hb; clear hb) | ((with_reducible refine (c1 _).mono ?_); rintro e w' ⟨rfl, hb⟩; replace H := H.on hb; clear hb) | ((with_reducible refine (c2 _).mono ?_); rintro e w' ⟨rfl, hb⟩; replace H := H.on hb; clear hb) | ((with_reducible refine (c3 _).mono ?_); rintro e w' ⟨rfl, hb⟩; replace H := H.on hb; clear hb) | ((with_reducible refine (c4 _).mono ?_); rintro e w' ⟨rfl, hb⟩; replace H := H.on hb; clear hb) | (refine wpList_alloc_H rfl 33 rfl _ (Try.zeroValue33) _ rfl H ?_; intro b w1 H1 hb1; replace H := H1; clear H1 hb1) | (refine wpList_alloc_H rfl 36 rfl _ (Try.zeroValue36) _ rfl H ?_; intro b w1 H1 hb1; replace H := H1; clear H1 hb1) | (refine wpList_store_H rfl 33 _ _ rfl _ _ rfl _ rfl (Try.sizeOf33) rfl (A := [_]) H (Nat.le_of_ble_eq_true rfl) _ rfl ?_; intro w2 H2 hg2; replace H := H2; clear H2 hg2) | (refine wpList_store_H rfl 36 _ _ rfl _ _ rfl _ rfl (Try.sizeOf36) rfl (A := []) H (Nat.le_of_ble_eq_true rfl) _ rfl ?_; intro w2 H2 hg2; replace H := H2; clear H2 hg2) | (refine wpList_load_H rfl 34 _ rfl (Try.isAgg34) _ _ rfl H (.tail _ (.tail _ (.tail _ (.tail _ (.head _))))) _ rfl ?_) | (refine wpList_load_H rfl 34 _ rfl (Try.isAgg34) _ _ rfl H (.head _) _ rfl ?_) | (refine wpList_load_H rfl 34 _ rfl (Try.isAgg34) _ _ rfl H (.tail _ (.tail _ (.head _))) _ rfl ?_) | (refine wpList_loads_H rfl 33 _ rfl (Try.isAgg33) 9 (Try.sizeOf33) _ _ rfl H (.tail _ (.tail _ (.tail _ (.tail _ (.tail _ (.head _)))))) (Nat.le_of_ble_eq_true rfl) _ rfl ?_) | (refine wpList_loads_H rfl 33 _ rfl (Try.isAgg33) 9 (Try.sizeOf33) _ _ rfl H (.tail _ (.head _)) (Nat.le_of_ble_eq_true rfl) _ rfl ?_) | (refine wpList_loads_H rfl 33 _ rfl (Try.isAgg33) 9 (Try.sizeOf33) _ _ rfl H (.tail _ (.tail _ (.tail _ (.head _)))) (Nat.le_of_ble_eq_true rfl) _ rfl ?_) | (refine wpList_loads_H rfl 36 _ rfl (Try.isAgg36) 2 (Try.sizeOf36) _ _ rfl H (.tail _ (.tail _ (.head _))) (Nat.le_of_ble_eq_true rfl) _ rfl ?_) | (refine wpList_loads_H rfl 36 _ rfl (Try.isAgg36) 2 (Try.sizeOf36) _ _ rfl H (.head _) (Nat.le_of_ble_eq_true rfl) _ rfl ?_) | (refine wpList_loads_H rfl 36 _ rfl (Try.isAgg36) 2 (Try.sizeOf36) _ _ rfl H (.tail _ (.tail _ (.tail _ (.tail _ (.head _))))) (Nat.le_of_ble_eq_true rfl) _ rfl ?_))
  go_ret
  exact ⟨rfl, H.below⟩


/-! ### targumref1_IsScalar: function 54 -/
def targumref1_IsScalar.f (a0 : Int) : Option (Bool) := if a0 ≥ 0 then (if a0 ≤ 1114111 then (if a0 < 55296 then (some true) else (some (decide (a0 > 57343)))) else (some false)) else (some false)
set_option maxHeartbeats 8000000 in
set_option maxRecDepth 100000 in
theorem targumref1_IsScalar.calls (a0 : Int) (r : Bool) (w : World) (h : targumref1_IsScalar.f a0 = some r) :
    Calls Try.prog 54 #[.int .i64 a0] w fun e w' => e = .returned (.bool r) ∧ Drawn0 w w' := by
  have H : (if a0 ≥ 0 then (if a0 ≤ 1114111 then (if a0 < 55296 then (some true) else (some (decide (a0 > 57343)))) else (some false)) else (some false)) = some r := h
  clear h
  by_cases c2 : a0 ≥ 0
  · rw [if_pos c2] at H
    have c2b0 : decide (0 ≤ a0) = true := decide_eq_true c2
    clear c2
    by_cases c3 : a0 ≤ 1114111
    · rw [if_pos c3] at H
      have c3b0 : decide (a0 ≤ 1114111) = true := decide_eq_true c3
      clear c3
      by_cases c4 : a0 < 55296
      · rw [if_pos c4] at H
        have c4b0 : decide (a0 < 55296) = true := decide_eq_true c4
        clear c4
        obtain rfl := Option.some.inj H
        go_enter Try.func54, Try.ntmps54
        go_wp2
        go_ret
        exact ⟨by first | rfl | (simp; done) | (simp [*]; done), by repeat (first | exact Drawn0.refl _ | apply Drawn0.step)⟩
      · rw [if_neg c4] at H
        have c4b0 : decide (a0 < 55296) = false := decide_eq_false c4
        clear c4
        obtain rfl := Option.some.inj H
        go_enter Try.func54, Try.ntmps54
        go_wp2
        go_ret
        exact ⟨by first | rfl | (simp; done) | (simp [*]; done), by repeat (first | exact Drawn0.refl _ | apply Drawn0.step)⟩
    · rw [if_neg c3] at H
      have c3b0 : decide (a0 ≤ 1114111) = false := decide_eq_false c3
      clear c3
      obtain rfl := Option.some.inj H
      go_enter Try.func54, Try.ntmps54
      go_wp2
      go_ret
      exact ⟨by first | rfl | (simp; done) | (simp [*]; done), by repeat (first | exact Drawn0.refl _ | apply Drawn0.step)⟩
  · rw [if_neg c2] at H
    have c2b0 : decide (0 ≤ a0) = false := decide_eq_false c2
    clear c2
    obtain rfl := Option.some.inj H
    go_enter Try.func54, Try.ntmps54
    go_wp2
    go_ret
    exact ⟨by first | rfl | (simp; done) | (simp [*]; done), by repeat (first | exact Drawn0.refl _ | apply Drawn0.step)⟩

end Go.Proofs.Ytaoameejkpipcaa.Q
