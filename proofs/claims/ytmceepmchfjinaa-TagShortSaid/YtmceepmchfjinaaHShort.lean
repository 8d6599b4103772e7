/- The law TagShort. Conditions: sizes and numbers as the row gives them. -/
import Derived.Test.YtmceepmchfjinaaHoldQuiet
import Derived.Test.YtmceepmchfjinaaTagRows
import Derived.WalkKit
import Derived.LoopTactic
import Derived.Outline
import Derived.Deep.DeepCutAuto
import Derived.IntWalk
import Derived.WalkLawsBesides
import Derived.WalkSpells
import Derived.KernelRfl
namespace Go.Proofs.Ytmceepmchfjinaa.Q
open Go Go.RowKit Go.Proofs.YtmceepmchfjinaaW.PrintWords Go.Proofs.YtmceepmchfjinaaW.PrintLast Go.Proofs.YtmceepmchfjinaaW.PrintMore
set_option linter.unusedVariables false
set_option linter.unusedSimpArgs false

set_option maxRecDepth 100000 in
set_option maxHeartbeats 4000000 in
theorem targumlaw12_TagShort.early (a0 a1 a3 a4 : ByteArray) (a2 : Int) (w : World)
    (cK : ∀ w, Calls Try.prog 7 #[] w fun e w' => e = .returned (.bool true) ∧ Below w.heap.size w w')
    (h : 30 < (a0.size : Int) ∨ (a1.size : Int) < 1 ∨ 30 < (a1.size : Int)) :
    Calls Try.prog 5 #[.string a0, .string a1, .int .u8 a2, .string a3, .string a4] w fun e w' => e = .returned (.bool true) ∧ Below w.heap.size w w' := by
  have H := Holds.nil w
  rcases h with h | h | h
  · have hd : decide ((30 : Int) < (a0.size : Int)) = true := decide_eq_true h
    go_enter Try.func5, Try.ntmps5
    go_wp2_with ((with_reducible refine (cK _).mono ?_); rintro e w' ⟨rfl, hb⟩; replace H := H.on hb; clear hb)
    all_goals
      go_ret
      exact ⟨rfl, H.below⟩
  · have hd : decide ((a1.size : Int) < 1) = true := decide_eq_true h
    go_enter Try.func5, Try.ntmps5
    go_wp2_with ((with_reducible refine (cK _).mono ?_); rintro e w' ⟨rfl, hb⟩; replace H := H.on hb; clear hb)
    all_goals
      go_ret
      exact ⟨rfl, H.below⟩
  · have hd : decide ((30 : Int) < (a1.size : Int)) = true := decide_eq_true h
    go_enter Try.func5, Try.ntmps5
    go_wp2_with ((with_reducible refine (cK _).mono ?_); rintro e w' ⟨rfl, hb⟩; replace H := H.on hb; clear hb)
    all_goals
      go_ret
      exact ⟨rfl, H.below⟩

set_option maxRecDepth 100000 in
set_option maxHeartbeats 4000000 in
theorem targumlaw12_TagShort.walk (a0 a1 a3 a4 wd x bh r2 : ByteArray) (q2 : Bool) (a2 : Int) (w : World)
    (cK : ∀ w, Calls Try.prog 7 #[] w fun e w' => e = .returned (.bool true) ∧ Below w.heap.size w w')
    (cT1 : ∀ w, Calls Try.prog 17 #[.string a0, .string ⟨#[97, 98, 122, 65, 90, 48, 57, 45]⟩] w fun e w' => e = .returned (.string wd) ∧ Drawn0 w w')
    (cT2 : ∀ w, Calls Try.prog 17 #[.string a1, .string ⟨#[97, 122, 48, 57, 45, 95, 46, 126, 42, 39, 40, 41, 59, 47, 63, 58, 64, 38, 61, 43, 36, 35, 37]⟩] w fun e w' => e = .returned (.string x) ∧ Drawn0 w w')
    (h0 : ¬ 30 < (a0.size : Int)) (h1 : ¬ (a1.size : Int) < 1) (h2 : ¬ 30 < (a1.size : Int)) (h20 : 0 ≤ a2) (h21 : a2 ≤ 255) (hw : wd.size ≤ 30) (hx : x.size ≤ 30) (hbh : bh.size ≤ 10) (h4 : a4.size ≤ 140737488351232)
    (j : Nat) (hj6 : j < 6) (hj : a2 % 6 = (j : Int)) (hst : ([.string ⟨#[32]⟩, .string ⟨#[44]⟩, .string ⟨#[93]⟩, .string ⟨#[33]⟩, .string ⟨#[123]⟩, .string ⟨#[10]⟩] : List Value)[j]? = some (.string bh))
    (cR : ∀ w, Calls Try.prog 9 #[.string (((((⟨#[33]⟩ : ByteArray) ++ wd) ++ ⟨#[33]⟩) ++ x) ++ bh), .int .i64 0] w fun e w' => e = .returned (.tuple #[.agg #[.bool false, .string (((⟨#[33]⟩ : ByteArray) ++ wd) ++ ⟨#[33]⟩), .string x], .int .i64 ((wd.size : Int) + (x.size : Int) + 2), .bool true]) ∧ Below w.heap.size w w')
    (cE1 : ∀ (w1 : World) (b : Nat) (L : List (Nat × List Value × TypeId)), Holds w ((b, [.string (((⟨#[33]⟩ : ByteArray) ++ wd) ++ ⟨#[33]⟩), .string a3, .string (((⟨#[33]⟩ : ByteArray) ++ wd) ++ ⟨#[48, 33]⟩), .string ⟨#[110, 111]⟩, .string (((⟨#[33]⟩ : ByteArray) ++ wd) ++ ⟨#[33]⟩), .string a4, .string ⟨#[33]⟩, .string ⟨#[110, 111]⟩], 39) :: L) w1 →
      Calls Try.prog 11 #[.agg #[.bool false, .string (((⟨#[33]⟩ : ByteArray) ++ wd) ++ ⟨#[33]⟩), .string x], .slice (some ⟨b, 0, none⟩) 4 4] w1 fun e w' => e = .returned (.tuple #[.string (a4 ++ x), .bool true]) ∧ Below w1.heap.size w1 w')
    (cE2 : ∀ w, Calls Try.prog 11 #[.agg #[.bool false, .string (((⟨#[33]⟩ : ByteArray) ++ wd) ++ ⟨#[33]⟩), .string x], .slice none 0 0] w fun e w' => e = .returned (.tuple #[.string r2, .bool q2]) ∧ Below w.heap.size w w')
    (hq : (q2 = true ∧ wd.toList.isEmpty = true ∧ wd.toList = [] ∧ r2 = ⟨#[116, 97, 103, 58, 121, 97, 109, 108, 46, 111, 114, 103, 44, 50, 48, 48, 50, 58]⟩ ++ x) ∨ (q2 = false ∧ wd.toList.isEmpty = false)) :
    Calls Try.prog 5 #[.string a0, .string a1, .int .u8 a2, .string a3, .string a4] w fun e w' => e = .returned (.bool true) ∧ Below w.heap.size w w' := by
  have H := Holds.nil w
  have hd0 : decide ((30 : Int) < (a0.size : Int)) = false := decide_eq_false h0
  have hd1 : decide ((a1.size : Int) < 1) = false := decide_eq_false h1
  have hd2 : decide ((30 : Int) < (a1.size : Int)) = false := decide_eq_false h2
  clear h0 h1 h2
  go_enter Try.func5, Try.ntmps5
  go_upto_region 8 with (first | ((with_reducible refine (cK _).mono ?_); rintro e w' ⟨rfl, hb⟩; replace H := H.on hb; clear hb) | ((with_reducible refine (cT1 _).mono ?_); rintro e w' ⟨rfl, hb⟩; replace H := H.on hb.below; clear hb) | ((with_reducible refine (cT2 _).mono ?_); rintro e w' ⟨rfl, hb⟩; replace H := H.on hb.below; clear hb) | (((with_reducible refine at_alloc 37 ?_)); refine wpList_alloc_H rfl 37 rfl _ (Try.zeroValue37) _ rfl H ?_; intro b w1 H1 hb1; replace H := H1; clear H1 hb1) | (((with_reducible refine at_store 37 ?_)); refine wpList_store_H rfl 37 _ _ rfl _ _ rfl _ rfl (Try.sizeOf37) rfl (A := []) H (Nat.le_of_ble_eq_true rfl) _ rfl ?_; intro w2 H2 hg2; replace H := H2; clear H2 hg2))
  have hcj := (H.cell (.head _) j).trans hst
  go_upto_region 12 with (first | ((with_reducible refine (cR _).mono ?_); rintro e w' ⟨rfl, hb⟩; replace H := H.on hb; clear hb) | (((with_reducible refine at_alloc 23 ?_)); refine wpList_alloc_H rfl 23 rfl _ (Try.zeroValue23) _ rfl H ?_; intro b w1 H1 hb1; replace H := H1; clear H1 hb1) | (((with_reducible refine at_store 23 ?_)); refine wpList_store_H rfl 23 _ _ rfl _ _ rfl _ rfl (Try.sizeOf23) rfl (A := []) H (Nat.le_of_ble_eq_true rfl) _ rfl ?_; intro w2 H2 hg2; replace H := H2; clear H2 hg2) | (((with_reducible refine at_load 23 ?_)); refine wpList_loads_H rfl 23 _ rfl (Try.isAgg23) 3 (Try.sizeOf23) _ _ rfl H (.head _) (Nat.le_of_ble_eq_true rfl) _ rfl ?_))
  rcases hq with ⟨rfl, hq1, hq2, rfl⟩ | ⟨rfl, hq1⟩
  all_goals
    go_wp2_with (first | ((with_reducible refine (cE1 _ _ _ (H.alloc [.string (((⟨#[33]⟩ : ByteArray) ++ wd) ++ ⟨#[33]⟩), .string a3, .string (((⟨#[33]⟩ : ByteArray) ++ wd) ++ ⟨#[48, 33]⟩), .string ⟨#[110, 111]⟩, .string (((⟨#[33]⟩ : ByteArray) ++ wd) ++ ⟨#[33]⟩), .string a4, .string ⟨#[33]⟩, .string ⟨#[110, 111]⟩] 39)).mono ?_); rintro e w' ⟨rfl, hb⟩; replace H := (H.alloc [.string (((⟨#[33]⟩ : ByteArray) ++ wd) ++ ⟨#[33]⟩), .string a3, .string (((⟨#[33]⟩ : ByteArray) ++ wd) ++ ⟨#[48, 33]⟩), .string ⟨#[110, 111]⟩, .string (((⟨#[33]⟩ : ByteArray) ++ wd) ++ ⟨#[33]⟩), .string a4, .string ⟨#[33]⟩, .string ⟨#[110, 111]⟩] 39).on hb; clear hb) | ((with_reducible refine (cE2 _).mono ?_); rintro e w' ⟨rfl, hb⟩; replace H := H.on hb; clear hb) | (((with_reducible refine at_load 23 ?_)); refine wpList_loads_H rfl 23 _ rfl (Try.isAgg23) 3 (Try.sizeOf23) _ _ rfl H (.head _) (Nat.le_of_ble_eq_true rfl) _ rfl ?_) | (((with_reducible refine at_load 23 ?_)); refine wpList_loads_H rfl 23 _ rfl (Try.isAgg23) 3 (Try.sizeOf23) _ _ rfl H (.tail _ (.head _)) (Nat.le_of_ble_eq_true rfl) _ rfl ?_) | (((with_reducible refine at_load 9 ?_)); refine wpList_load_H rfl 9 _ rfl (Try.isAgg9) _ _ rfl H (.head _) _ rfl ?_))
    go_ret
    exact ⟨rfl, H.below⟩

/-! ### the plain law -/
theorem hs_rowN (p : UInt8 → Bool) (r : List UInt8) : ∀ l : List UInt8, (∀ c ∈ l, p c = true) → rowN p (l ++ r) = l.length + rowN p r
  | [], _ => by simp
  | c :: l, h => by
    rw [List.cons_append, rowN, if_pos (h c (by simp)), hs_rowN p r l (fun c hc => h c (by simp [hc]))]
    simp
    omega
theorem hs_extract (s : ByteArray) (a b : Nat) : (s.extract a b).data.toList = (s.data.toList.drop a).take (b - a) := by
  rw [ByteArray.data_extract, Array.toList_extract, List.extract_eq_take_drop]
theorem hs_ext {a b : ByteArray} (h : a.data.toList = b.data.toList) : a = b := by
  cases a; cases b
  simp only [ByteArray.mk.injEq]
  exact Array.toList_inj.1 h
theorem hs_size (s : ByteArray) : s.size = s.data.toList.length := by rw [Array.length_toList]; rfl
theorem hs_app (a b : ByteArray) : (a ++ b).data.toList = a.data.toList ++ b.data.toList := by rw [ByteArray.data_append, Array.toList_append]
theorem hs_at (t : ByteArray) (n : Nat) (c : UInt8) (l : List UInt8) (h : t.data.toList.drop n = c :: l) (hn : n < t.size) : t[n] = c := by
  rw [drop_cons t n hn] at h
  exact (List.cons.inj h).1
theorem hs_more {l a b : List UInt8} {n m : Nat} (h : l.drop n = a ++ b) (hm : m = n + a.length) : l.drop m = b := by
  rw [hm, ← List.drop_drop, h]
  simp

theorem hs_sign1 (c : UInt8) (h : c ∈ ([97, 98, 122, 65, 90, 48, 57, 45] : List UInt8)) : handB c = true ∧ c ≠ 60 := by
  revert h
  exact all_bytes (p := fun c => c ∈ ([97, 98, 122, 65, 90, 48, 57, 45] : List UInt8) → handB c = true ∧ c ≠ 60) (by decide +kernel) c
theorem hs_sign2 (c : UInt8) (h : c ∈ ([97, 122, 48, 57, 45, 95, 46, 126, 42, 39, 40, 41, 59, 47, 63, 58, 64, 38, 61, 43, 36, 35, 37] : List UInt8)) : shortB c = true := by
  revert h
  exact all_bytes (p := fun c => c ∈ ([97, 122, 48, 57, 45, 95, 46, 126, 42, 39, 40, 41, 59, 47, 63, 58, 64, 38, 61, 43, 36, 35, 37] : List UInt8) → shortB c = true) (by decide +kernel) c

theorem short_spec (t : ByteArray) (W X : List UInt8) (c : UInt8) (ht : t.data.toList = 33 :: (W ++ 33 :: (X ++ [c]))) (hW : ∀ d ∈ W, handB d = true ∧ d ≠ 60) (hX : ∀ d ∈ X, shortB d = true) (hX0 : X ≠ []) (hc : shortB c = false) :
    specR t 0 = (false, ⟨(33 :: (W ++ [33])).toArray⟩, ⟨X.toArray⟩, ((W.length + X.length + 2 : Nat) : Int), true) := by
  have hsz : t.size = W.length + X.length + 3 := by rw [hs_size, ht]; simp; omega
  have hl : 0 < X.length := List.length_pos_iff.2 hX0
  have d1 : t.data.toList.drop 1 = W ++ 33 :: (X ++ [c]) := by rw [ht]; rfl
  have d2 : t.data.toList.drop (1 + W.length) = 33 :: (X ++ [c]) := hs_more d1 rfl
  have d3 : t.data.toList.drop (W.length + 2) = X ++ [c] := hs_more (a := [33]) d2 (by simp <;> omega)
  have hr1 : run handB t 1 = W.length := by
    unfold run
    rw [d1, hs_rowN _ _ _ (fun d hd => (hW d hd).1), rowN, if_neg (by decide)]
    rfl
  have hlt : 1 + W.length < t.size := by omega
  have h33 : t[1 + W.length] = 33 := hs_at t _ 33 _ d2 hlt
  have h1 : ¬ ∃ h : 0 + 1 < t.size, t[0 + 1] = 60 := by
    rintro ⟨h, e⟩
    cases W with
    | nil => rw [hs_at t 1 33 (X ++ [c]) d1 h] at e; exact absurd e (by decide)
    | cons d W => rw [hs_at t 1 d (W ++ 33 :: (X ++ [c])) d1 h] at e; exact (hW d (by simp)).2 e
  have hat : handAt t 0 = W.length + 2 := by
    unfold handAt
    have hlt' : 0 + 1 + run handB t (0 + 1) < t.size := by
      show 1 + run handB t 1 < t.size
      rw [hr1]; exact hlt
    rw [dif_pos hlt']
    have e : t[0 + 1 + run handB t (0 + 1)] = 33 := by
      have : ∀ n (h : n < t.size), n = 1 + W.length → t[n] = 33 := by rintro n h rfl; exact h33
      exact this _ hlt' (by show 1 + run handB t 1 = _; rw [hr1])
    rw [if_pos e]
    show run handB t 1 + 2 = _
    rw [hr1]
  have hr2 : run shortB t (0 + (W.length + 2)) = X.length := by
    unfold run
    rw [Nat.zero_add, d3, hs_rowN _ _ _ hX, rowN, if_neg (by rw [hc]; decide)]
    rfl
  unfold specR
  rw [dif_neg h1, hat, hr2, if_neg (by omega)]
  have e1 : t.extract 0 (0 + (W.length + 2)) = ⟨(33 :: (W ++ [33])).toArray⟩ := hs_ext (by rw [hs_extract, ht, List.drop_zero, show 0 + (W.length + 2) - 0 = W.length + 1 + 1 from by omega, List.take_succ_cons]; show 33 :: (W ++ 33 :: (X ++ [c])).take (W.length + 1) = 33 :: (W ++ [33]); rw [show W ++ 33 :: (X ++ [c]) = (W ++ [33]) ++ (X ++ [c]) from by simp, List.take_left' (by simp)])
  have e2 : t.extract (0 + (W.length + 2)) (0 + (W.length + 2) + X.length) = ⟨X.toArray⟩ := hs_ext (by rw [hs_extract, Nat.zero_add, d3]; simp)
  rw [e1, e2]
  congr 4
  omega

theorem hs_nil (x : ByteArray) : x.toList = [] ↔ x.data.toList = [] := by rw [ByteArray.toList_eq]

theorem hs_ne (a b : ByteArray) (h : a.size ≠ b.size) : ¬ a = b := fun e => h (by rw [e])

theorem hs_bang (h : ByteArray) (hh : 2 ≤ h.size) : ¬ h.toList = [33] := by
  intro e
  rw [ByteArray.toList_eq] at e
  have := congrArg List.length e
  rw [← hs_size] at this
  simp at this
  omega

theorem short_expand1 (hd k2 x f l : ByteArray) (hh : 2 ≤ hd.size) (hk : k2.size ≠ hd.size) (hb : x.size ≤ 1000) (hl : l.size ≤ 140737488351232) :
    expandF false hd x [(hd, f), (k2, ⟨#[110, 111]⟩), (hd, l), (⟨#[33]⟩, ⟨#[110, 111]⟩)] = some (l ++ x, true) := by
  unfold expandF
  have hb1 := hs_bang hd hh
  rw [if_neg (by decide), if_neg (by simp [hb1]), getA_handles]
  have hth : theH hd [(hd, f), (k2, ⟨#[110, 111]⟩), (hd, l), (⟨#[33]⟩, ⟨#[110, 111]⟩)] = some l := by
    unfold theH
    have n1 : ¬ (⟨#[33]⟩ : ByteArray) = hd := hs_ne _ _ (by show 1 ≠ _; omega)
    simp [lastH, n1]
  rw [hth]
  exact if_pos (by omega)

theorem short_expand2 (hd x : ByteArray) (hh : 2 ≤ hd.size) (hb : x.size ≤ 1000) :
    expandF false hd x [] = some (if hd.data.toList = [33, 33] then ((⟨#[116, 97, 103, 58, 121, 97, 109, 108, 46, 111, 114, 103, 44, 50, 48, 48, 50, 58]⟩ : ByteArray) ++ x, true) else (⟨#[]⟩, false)) := by
  unfold expandF
  have hb1 := hs_bang hd hh
  rw [if_neg (by decide), if_neg (by simp [hb1]), getA_handles]
  unfold theH
  have e0 : lastH hd [] = none := rfl
  rw [e0]
  have e1 : baseH hd = if hd.data.toList = [33, 33] then some ⟨#[116, 97, 103, 58, 121, 97, 109, 108, 46, 111, 114, 103, 44, 50, 48, 48, 50, 58]⟩ else none := by
    unfold baseH
    rw [if_neg hb1, ByteArray.toList_eq]
  rw [e1]
  by_cases h : hd.data.toList = [33, 33]
  · rw [if_pos h, if_pos h]
    exact if_pos (by show 18 + _ ≤ _; omega)
  · rw [if_neg h, if_neg h]

def targumlaw12_TagShort.f (k : Nat) (a0 a1 : ByteArray) (a2 : Int) (a3 a4 : ByteArray) : Option Bool :=
  if a0.size ≤ 140737488351232 ∧ a1.size ≤ 140737488351232 ∧ (Lit.int .u8 a2).wf = true ∧ a3.size ≤ 140737488351232 ∧ a4.size ≤ 140737488351232 then some true else none
set_option maxHeartbeats 1000000 in
theorem targumlaw12_TagShort.calls (k : Nat) (a0 a1 : ByteArray) (a2 : Int) (a3 a4 : ByteArray) (r : Bool) (w : World) (h : targumlaw12_TagShort.f k a0 a1 a2 a3 a4 = some r) :
    Calls Try.prog 5 #[.string a0, .string a1, .int .u8 a2, .string a3, .string a4] w fun e w' => e = .returned (.bool r) ∧ Below w.heap.size w w' := by
  unfold targumlaw12_TagShort.f at h
  split at h
  case isFalse => cases h
  rename_i hs
  obtain ⟨h1, h2, h3, h4, h5⟩ := hs
  obtain rfl := Option.some.inj h
  clear h
  have hw : 0 ≤ a2 ∧ a2 ≤ 255 := by
    simp only [Lit.wf, Bool.and_eq_true, decide_eq_true_eq] at h3
    obtain ⟨p, q⟩ := h3
    have p' : (0 : Int) ≤ a2 := p
    have q' : a2 ≤ 255 := q
    exact ⟨p', q'⟩
  have cK : ∀ w, Calls Try.prog 7 #[] w fun e w' => e = .returned (.bool true) ∧ Below w.heap.size w w' := fun w => targumlaw12_known.calls true w (by kernel_rfl)
  by_cases he : 30 < (a0.size : Int) ∨ (a1.size : Int) < 1 ∨ 30 < (a1.size : Int)
  · exact targumlaw12_TagShort.early a0 a1 a3 a4 a2 w cK he
  obtain ⟨wd, hwd, zw, mw⟩ := tagged_some a0 ⟨#[97, 98, 122, 65, 90, 48, 57, 45]⟩ (by omega) (by decide) (by decide)
  obtain ⟨x, hx, zx, mx⟩ := tagged_some a1 ⟨#[97, 122, 48, 57, 45, 95, 46, 126, 42, 39, 40, 41, 59, 47, 63, 58, 64, 38, 61, 43, 36, 35, 37]⟩ (by omega) (by decide) (by decide)
  obtain ⟨k1, hk1⟩ := hwd.rounds
  obtain ⟨k2, hk2⟩ := hx.rounds
  obtain ⟨j, hj⟩ : ∃ j : Nat, a2 % 6 = (j : Int) := ⟨(a2 % 6).toNat, by omega⟩
  have hj6 : j < 6 := by omega
  obtain ⟨c, hc, hst⟩ : ∃ c : UInt8, shortB c = false ∧ ([.string ⟨#[32]⟩, .string ⟨#[44]⟩, .string ⟨#[93]⟩, .string ⟨#[33]⟩, .string ⟨#[123]⟩, .string ⟨#[10]⟩] : List Value)[j]? = some (.string ⟨#[c]⟩) := by
    have : j = 0 ∨ j = 1 ∨ j = 2 ∨ j = 3 ∨ j = 4 ∨ j = 5 := by omega
    rcases this with rfl | rfl | rfl | rfl | rfl | rfl
    · exact ⟨32, by decide, rfl⟩
    · exact ⟨44, by decide, rfl⟩
    · exact ⟨93, by decide, rfl⟩
    · exact ⟨33, by decide, rfl⟩
    · exact ⟨123, by decide, rfl⟩
    · exact ⟨10, by decide, rfl⟩
  obtain ⟨hd, hhd⟩ : ∃ hd : ByteArray, hd = (((⟨#[33]⟩ : ByteArray) ++ wd) ++ ⟨#[33]⟩) := ⟨_, rfl⟩
  have lhd : hd.data.toList = 33 :: (wd.data.toList ++ [33]) := by rw [hhd, hs_app, hs_app]; rfl
  have zhd : hd.size = wd.size + 2 := by rw [hs_size, lhd, List.length_cons, List.length_append, ← hs_size]; rfl
  have hread : tagname_Read.f ((hd ++ x) ++ ⟨#[c]⟩) 0 = some (false, hd, x, (wd.size : Int) + (x.size : Int) + 2, true) := by
    have lt : ((hd ++ x) ++ ⟨#[c]⟩ : ByteArray).data.toList = 33 :: (wd.data.toList ++ 33 :: (x.data.toList ++ [c])) := by rw [hs_app, hs_app, lhd]; simp
    have zt : ((hd ++ x) ++ ⟨#[c]⟩ : ByteArray).size = wd.size + x.size + 3 := by rw [hs_size, lt, List.length_cons, List.length_append, List.length_cons, List.length_append, ← hs_size, ← hs_size]; simp; omega
    have hsp := short_spec _ wd.data.toList x.data.toList c lt (fun d hd => hs_sign1 d (mw d hd)) (fun d hd => hs_sign2 d (mx d hd)) (fun e => by have h := hs_size x; rw [e, List.length_nil] at h; omega) hc
    have h33 : ((hd ++ x) ++ ⟨#[c]⟩ : ByteArray)[0]'(by rw [zt]; omega) = 33 := hs_at _ 0 33 _ (by rw [List.drop_zero]; exact lt) (by rw [zt]; omega)
    have := read_at ((hd ++ x) ++ ⟨#[c]⟩) 0 (by rw [zt]; omega) (by rw [zt]; omega) h33
    rw [hsp, ← lhd, ← hs_size, ← hs_size] at this
    have e : ((wd.size + x.size + 2 : Nat) : Int) = (wd.size : Int) + (x.size : Int) + 2 := by omega
    rw [e] at this
    exact this
  have he1 := short_expand1 hd (((⟨#[33]⟩ : ByteArray) ++ wd) ++ ⟨#[48, 33]⟩) x a3 a4 (by omega) (by rw [ByteArray.size_append, ByteArray.size_append, zhd]; show 1 + _ + 2 ≠ _; omega) (by omega) h5
  have he2 := short_expand2 hd x (by omega) (by omega)
  have hwe : hd.data.toList = [33, 33] ↔ wd.data.toList = [] := by
    rw [lhd]
    cases hl : wd.data.toList with
    | nil => simp
    | cons a l => simp
  have main : ∀ (r2 : ByteArray) (q2 : Bool), expandF false hd x [] = some (r2, q2) → ((q2 = true ∧ wd.toList.isEmpty = true ∧ wd.toList = [] ∧ r2 = ⟨#[116, 97, 103, 58, 121, 97, 109, 108, 46, 111, 114, 103, 44, 50, 48, 48, 50, 58]⟩ ++ x) ∨ (q2 = false ∧ wd.toList.isEmpty = false)) →
      Calls Try.prog 5 #[.string a0, .string a1, .int .u8 a2, .string a3, .string a4] w fun e w' => e = .returned (.bool true) ∧ Below w.heap.size w w' := by
    intro r2 q2 hr2 hq
    subst hhd
    refine targumlaw12_TagShort.walk a0 a1 a3 a4 wd x ⟨#[c]⟩ r2 q2 a2 w cK (fun w => targumlaw12_tagged.calls k1 a0 _ wd w hk1) (fun w => targumlaw12_tagged.calls k2 a1 _ x w hk2) (by omega) (by omega) (by omega) hw.1 hw.2 (by omega) (by omega) (show 1 ≤ 10 by decide) h5 j hj6 hj hst
      (fun w => tagname_Read.calls _ 0 _ _ _ _ _ w hread) (fun w1 b L H => ?_) (fun w => expand_any false _ x none 0 [] w (by simp) (fun i hi => by cases hi) r2 q2 hr2) hq
    refine expand_any false (((⟨#[33]⟩ : ByteArray) ++ wd) ++ ⟨#[33]⟩) x (some ⟨b, 0, none⟩) 4 [((((⟨#[33]⟩ : ByteArray) ++ wd) ++ ⟨#[33]⟩), a3), ((((⟨#[33]⟩ : ByteArray) ++ wd) ++ ⟨#[48, 33]⟩), ⟨#[110, 111]⟩), ((((⟨#[33]⟩ : ByteArray) ++ wd) ++ ⟨#[33]⟩), a4), (⟨#[33]⟩, ⟨#[110, 111]⟩)] w1 (by simp) (fun i hi => ?_) _ _ he1
    refine ⟨_, rfl, ?_⟩
    have : i = 0 ∨ i = 1 ∨ i = 2 ∨ i = 3 := by simp at hi; omega
    rcases this with rfl | rfl | rfl | rfl
    · exact ⟨H.cell (.head _) 0, H.cell (.head _) 1⟩
    · exact ⟨H.cell (.head _) 2, H.cell (.head _) 3⟩
    · exact ⟨H.cell (.head _) 4, H.cell (.head _) 5⟩
    · exact ⟨H.cell (.head _) 6, H.cell (.head _) 7⟩
  by_cases hn : wd.data.toList = []
  · rw [if_pos (hwe.2 hn)] at he2
    have hn2 := (hs_nil wd).2 hn
    exact main _ _ he2 (.inl ⟨rfl, by rw [hn2]; rfl, hn2, rfl⟩)
  · rw [if_neg (fun e => hn (hwe.1 e))] at he2
    exact main _ _ he2 (.inr ⟨rfl, by rw [List.isEmpty_eq_false_iff]; exact fun e => hn ((hs_nil wd).1 e)⟩)
end Go.Proofs.Ytmceepmchfjinaa.Q
