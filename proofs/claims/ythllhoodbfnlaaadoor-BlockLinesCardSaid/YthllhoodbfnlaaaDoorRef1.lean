/- The reference's lines: what they say. Conditions: sizes. -/
import Derived.Test.YthllhoodbfnlaaaDoorBrkR
namespace Go.Mini
open Go Go.RowKit Go.Proofs
set_option maxRecDepth 100000
set_option linter.unusedVariables false
set_option linter.unusedSimpArgs false

theorem okLn_iff {s : ByteArray} {a e n : Int} : okLn s a e n = true ↔ 0 ≤ a ∧ a ≤ e ∧ e ≤ n ∧ n ≤ s.size := by unfold okLn; exact decide_eq_true_iff
theorem saysL_lt {s : ByteArray} {a e n : Int} {k : Nat} (h : okLn s a e n = true) (hk : a + k < e) : (saysL s a e n).drop k = byteAt s (a + k).toNat :: (saysL s a e n).drop (k + 1) := by
  have h1 := okLn_iff.1 h
  unfold saysL
  rw [if_pos h, List.drop_take, List.drop_take, List.drop_drop, List.drop_drop, drop_lt (n := a.toNat + k) (by omega), show e.toNat - a.toNat - k = (e.toNat - a.toNat - (k + 1)) + 1 from by omega, List.take_succ_cons, show (a + k).toNat = a.toNat + k from by omega]
  rfl
theorem saysL_ge {s : ByteArray} {a e n : Int} {k : Nat} (h : okLn s a e n = true) (hk : ¬ a + k < e) : (saysL s a e n).drop k = [] := by
  have h1 := okLn_iff.1 h
  unfold saysL
  rw [if_pos h, List.drop_take, show e.toNat - a.toNat - k = 0 from by omega, List.take_zero]
theorem saysL_length {s : ByteArray} {a e n : Int} (h : okLn s a e n = true) : (saysL s a e n).length = (e - a).toNat := by
  have h1 := okLn_iff.1 h
  unfold saysL
  rw [if_pos h, List.length_take, List.length_drop, Array.length_toList]
  have : s.data.size = s.size := rfl
  omega
theorem saysL_no {s : ByteArray} {a e n : Int} (h : okLn s a e n = false) : saysL s a e n = [] := by unfold saysL; rw [h]; rfl

theorem ext3 {s : ByteArray} {a e n : Int} (h : okLn s a e n = true) (h3 : a + 3 ≤ e) (x : List UInt8) (hx : x.length = 3) : decide (s.extract a.toNat (a + 3).toNat = ⟨x.toArray⟩) = x.isPrefixOf (saysL s a e n) := by
  have h5 := okLn_iff.1 h
  rw [Bool.eq_iff_iff, decide_eq_true_eq, List.isPrefixOf_iff_prefix]
  have e1 : (saysL s a e n).take 3 = lst (s.extract a.toNat (a + 3).toNat) := by
    unfold saysL
    rw [if_pos h, lst_ext, List.take_take, show min 3 (e.toNat - a.toNat) = (a + 3).toNat - a.toNat from by omega]
  constructor
  · intro h6
    have : lst (s.extract a.toNat (a + 3).toNat) = x := by rw [h6]
    rw [← this, ← e1]
    exact List.take_prefix _ _
  · intro h6
    have h7 := List.prefix_iff_eq_take.1 h6
    rw [hx, e1] at h7
    rw [h7]
def SG : CT := (extC (extC (extC SF brk_Indent.n brk_Indent.s) brk_Marker.n brk_Marker.s) targumref1_Break.n targumref1_Break.s)
theorem SG_ok : COk Tryd.prog SG := (extC_ok (extC_ok (extC_ok SF_ok brk_Indent.sc brk_Indent.sd) brk_Marker.sc brk_Marker.sd) targumref1_Break.sc targumref1_Break.sd)
theorem SG_mono : CMono SG := (extC_mono (extC_mono (extC_mono SF_mono brk_Indent.sm) brk_Marker.sm) targumref1_Break.sm)

def targumref1_isLine.s : List Value → Heap → VK → Prop
  | [.string s, .agg ⟨[.int .i64 a, .int .i64 e, .int .i64 n]⟩], h, K => K (.bool (okLn s a e n)) h
  | _, _, _ => False
theorem targumref1_isLine.t (s : ByteArray) (a e n : Int) (K : VK) : mwp SG (lt0) targumref1_isLine.m (retK [.t 4] K) (argE 0 [.string s, .agg #[.int .i64 a, .int .i64 e, .int .i64 n]]) (lit []) = (br (decide ((0 : Int) ≤ a)) (br (decide (a ≤ e)) (br (decide (e ≤ n)) (K (Value.bool (decide (n ≤ (↑s.size : Int)))) (Heap.mk (1 : Nat) [some (Blk.mk (51 : Nat) (3 : Nat) [Value.int IntKind.i64 a, Value.int IntKind.i64 e, Value.int IntKind.i64 n] true)])) (K (Value.bool false) (Heap.mk (1 : Nat) [some (Blk.mk (51 : Nat) (3 : Nat) [Value.int IntKind.i64 a, Value.int IntKind.i64 e, Value.int IntKind.i64 n] true)]))) (K (Value.bool false) (Heap.mk (1 : Nat) [some (Blk.mk (51 : Nat) (3 : Nat) [Value.int IntKind.i64 a, Value.int IntKind.i64 e, Value.int IntKind.i64 n] true)]))) (K (Value.bool false) (Heap.mk (1 : Nat) [some (Blk.mk (51 : Nat) (3 : Nat) [Value.int IntKind.i64 a, Value.int IntKind.i64 e, Value.int IntKind.i64 n] true)]))) := by kernel_rfl
theorem targumref1_isLine.c (s : ByteArray) (a e n : Int) (h : Heap) (K : VK) (hh : K (.bool (okLn s a e n)) h) : ACalls Tryd.prog targumref1_isLine.n [.string s, .agg #[.int .i64 a, .int .i64 e, .int .i64 n]] h K := by
  refine ACalls.alone rfl (acalls_mk SG_ok targumref1_isLine.ok (LS := lt0) (by simp only [targumref1_isLine.m, LOk, and_true, true_and]) (Nat.le_of_ble_eq_true rfl) (Eq.mpr (targumref1_isLine.t s a e n (fun v _ => ck (cleanT v) (K v h))) ?_))
  have no : okLn s a e n = false → K (.bool false) h := fun h1 => h1 ▸ hh
  unfold okLn at hh no
  repeat' (first | with_reducible refine br_intro (fun hb => ?_) (fun hb => ?_))
  all_goals simp only [decide_eq_true_eq, decide_eq_false_iff_not] at *
  · exact kbool hh (by rw [Bool.eq_iff_iff, decide_eq_true_eq, decide_eq_true_eq]; omega)
  · exact no (by omega)
  · exact no (by omega)
  · exact no (by omega)
theorem targumref1_isLine.sc : ∀ vs h K, targumref1_isLine.s vs h K → ACalls Tryd.prog targumref1_isLine.n vs h K := by
  intro vs h K hh; unfold targumref1_isLine.s at hh; split at hh
  · exact targumref1_isLine.c _ _ _ _ _ _ hh
  · exact hh.elim
theorem targumref1_isLine.sm : SpecMono targumref1_isLine.s := by
  intro vs h K K' hk hh; unfold targumref1_isLine.s at hh ⊢; split at hh
  · exact hk _ _ hh
  · exact hh.elim
theorem targumref1_isLine.sd : SpecDet targumref1_isLine.s := by
  intro vs h K hh; unfold targumref1_isLine.s at hh; split at hh
  · exact ⟨_, hh, rfl⟩
  · exact hh.elim

def SH : CT := (extC SG targumref1_isLine.n targumref1_isLine.s)
theorem SH_ok : COk Tryd.prog SH := (extC_ok SG_ok targumref1_isLine.sc targumref1_isLine.sd)
theorem SH_mono : CMono SH := (extC_mono SG_mono targumref1_isLine.sm)


def targumref1_Indent.LS : LT := lt0
theorem targumref1_Indent.LS_mono : LMono targumref1_Indent.LS := lt0_mono


def targumref1_Blank.LS : LT := lt0
theorem targumref1_Blank.LS_mono : LMono targumref1_Blank.LS := lt0_mono

def targumref1_Marker.s : List Value → Heap → VK → Prop
  | [.string s, .agg ⟨[.int .i64 a, .int .i64 e, .int .i64 n]⟩], h, K => (s.size ≤ 1000000) ∧ K (.int .i64 (mrkI s a e n)) h
  | _, _, _ => False
theorem targumref1_Marker.t (s : ByteArray) (a e n : Int) (K : VK) : mwp SH (lt0) targumref1_Marker.m (retK [.t 4] K) (argE 0 [.string s, .agg #[.int .i64 a, .int .i64 e, .int .i64 n]]) (lit []) = (br (!okLn s a e n) (K (Value.int IntKind.i64 (0 : Int)) (Heap.mk (1 : Nat) [some (Blk.mk (51 : Nat) (3 : Nat) [Value.int IntKind.i64 a, Value.int IntKind.i64 e, Value.int IntKind.i64 n] true)])) (rng IntKind.i64 (e - a) ∧ br (decide (e - a < (3 : Int))) (K (Value.int IntKind.i64 (0 : Int)) (Heap.mk (1 : Nat) [some (Blk.mk (51 : Nat) (3 : Nat) [Value.int IntKind.i64 a, Value.int IntKind.i64 e, Value.int IntKind.i64 n] true)])) (rng IntKind.i64 (e - a) ∧ br (decide ((3 : Int) < e - a)) (rng IntKind.i64 (a + (3 : Int)) ∧ br (!blankI s (a + (3 : Int))) (K (Value.int IntKind.i64 (0 : Int)) (Heap.mk (1 : Nat) [some (Blk.mk (51 : Nat) (3 : Nat) [Value.int IntKind.i64 a, Value.int IntKind.i64 e, Value.int IntKind.i64 n] true)])) (rng IntKind.i64 (a + (3 : Int)) ∧ ((0 : Int) ≤ a ∧ a ≤ a + (3 : Int) ∧ a + (3 : Int) ≤ (↑s.size : Int)) ∧ br (decide (s.extract a.toNat (a + (3 : Int)).toNat = ByteArray.mk #[(45 : UInt8), (45 : UInt8), (45 : UInt8)])) (K (Value.int IntKind.i64 (1 : Int)) (Heap.mk (1 : Nat) [some (Blk.mk (51 : Nat) (3 : Nat) [Value.int IntKind.i64 a, Value.int IntKind.i64 e, Value.int IntKind.i64 n] true)])) (br (decide (s.extract a.toNat (a + (3 : Int)).toNat = ByteArray.mk #[(46 : UInt8), (46 : UInt8), (46 : UInt8)])) (K (Value.int IntKind.i64 (2 : Int)) (Heap.mk (1 : Nat) [some (Blk.mk (51 : Nat) (3 : Nat) [Value.int IntKind.i64 a, Value.int IntKind.i64 e, Value.int IntKind.i64 n] true)])) (K (Value.int IntKind.i64 (0 : Int)) (Heap.mk (1 : Nat) [some (Blk.mk (51 : Nat) (3 : Nat) [Value.int IntKind.i64 a, Value.int IntKind.i64 e, Value.int IntKind.i64 n] true)]))))) (rng IntKind.i64 (a + (3 : Int)) ∧ ((0 : Int) ≤ a ∧ a ≤ a + (3 : Int) ∧ a + (3 : Int) ≤ (↑s.size : Int)) ∧ br (decide (s.extract a.toNat (a + (3 : Int)).toNat = ByteArray.mk #[(45 : UInt8), (45 : UInt8), (45 : UInt8)])) (K (Value.int IntKind.i64 (1 : Int)) (Heap.mk (1 : Nat) [some (Blk.mk (51 : Nat) (3 : Nat) [Value.int IntKind.i64 a, Value.int IntKind.i64 e, Value.int IntKind.i64 n] true)])) (br (decide (s.extract a.toNat (a + (3 : Int)).toNat = ByteArray.mk #[(46 : UInt8), (46 : UInt8), (46 : UInt8)])) (K (Value.int IntKind.i64 (2 : Int)) (Heap.mk (1 : Nat) [some (Blk.mk (51 : Nat) (3 : Nat) [Value.int IntKind.i64 a, Value.int IntKind.i64 e, Value.int IntKind.i64 n] true)])) (K (Value.int IntKind.i64 (0 : Int)) (Heap.mk (1 : Nat) [some (Blk.mk (51 : Nat) (3 : Nat) [Value.int IntKind.i64 a, Value.int IntKind.i64 e, Value.int IntKind.i64 n] true)]))))))) := by kernel_rfl
theorem targumref1_Marker.c (s : ByteArray) (a e n : Int) (h : Heap) (K : VK) (hp : s.size ≤ 1000000) (hh : K (.int .i64 (mrkI s a e n)) h) : ACalls Tryd.prog targumref1_Marker.n [.string s, .agg #[.int .i64 a, .int .i64 e, .int .i64 n]] h K := by
  refine ACalls.alone rfl (acalls_mk SH_ok targumref1_Marker.ok (LS := lt0) (by simp only [targumref1_Marker.m, LOk, and_true, true_and]) (Nat.le_of_ble_eq_true rfl) (Eq.mpr (targumref1_Marker.t s a e n (fun v _ => ck (cleanT v) (K v h))) ?_))
  refine br_intro (fun hb => ?_) (fun hb => ?_)
  · simp only [Bool.not_eq_true'] at hb
    unfold mrkI at hh
    rw [saysL_no hb] at hh
    exact hh
  · simp only [Bool.not_eq_false'] at hb
    have h5 := okLn_iff.1 hb
    have hl := saysL_length hb
    have go : ∀ k : Int, mrkI s a e n = k → K (.int .i64 k) h := fun k hk => hk ▸ hh
    refine ⟨by simp only [rng]; omega, br_intro (fun hc => ?_) (fun hc => ?_)⟩
    · simp only [decide_eq_true_eq] at hc
      refine go 0 ?_
      have p3 : ∀ x : List UInt8, x.length = 3 → x.isPrefixOf (saysL s a e n) = false := fun x hx => by
        rw [Bool.eq_false_iff]
        intro hp3
        have := (List.isPrefixOf_iff_prefix.1 hp3).length_le
        omega
      unfold mrkI mrkL
      rw [p3 _ rfl, p3 _ rfl]
      simp
    · simp only [decide_eq_false_iff_not] at hc
      have x45 := ext3 hb (by omega) [45, 45, 45] rfl
      have x46 := ext3 hb (by omega) [46, 46, 46] rfl
      have b3 : 3 < e - a → blankI s (a + 3) = isBl ((saysL s a e n).getD 3 0) := fun h6 => by
        have h7 := saysL_lt (k := 3) hb (by omega)
        have h8 : (saysL s a e n).getD 3 0 = byteAt s (a + 3).toNat := by
          have h9 : (saysL s a e n)[3]? = ((saysL s a e n).drop 3)[0]? := by rw [List.getElem?_drop]
          rw [List.getD_eq_getElem?_getD, h9, h7]
          rfl
        rw [h8]
        unfold blankI
        rw [decide_eq_true (show 0 ≤ a + 3 by omega), Bool.true_and]
      rw [show (ByteArray.mk #[45, 45, 45]) = ⟨[45, 45, 45].toArray⟩ from rfl, show (ByteArray.mk #[46, 46, 46]) = ⟨[46, 46, 46].toArray⟩ from rfl, x45, x46]
      have tail : (decide (3 < (saysL s a e n).length) && !isBl ((saysL s a e n).getD 3 0)) = false → br ([45, 45, 45].isPrefixOf (saysL s a e n)) (K (.int .i64 1) h) (br ([46, 46, 46].isPrefixOf (saysL s a e n)) (K (.int .i64 2) h) (K (.int .i64 0) h)) := fun h6 => by
        refine br_intro (fun h7 => ?_) (fun h7 => br_intro (fun h8 => ?_) (fun h8 => ?_))
        · exact go 1 (by unfold mrkI mrkL; rw [h6, h7]; rfl)
        · exact go 2 (by unfold mrkI mrkL; rw [h6, h7, h8]; rfl)
        · exact go 0 (by unfold mrkI mrkL; rw [h6, h7, h8]; rfl)
      refine ⟨by simp only [rng]; omega, br_intro (fun hd => ?_) (fun hd => ?_)⟩
      · simp only [decide_eq_true_eq] at hd
        rw [b3 hd]
        refine ⟨by simp only [rng]; omega, br_intro (fun h6 => ?_) (fun h6 => ?_)⟩
        · refine go 0 ?_
          unfold mrkI mrkL
          rw [h6, decide_eq_true (show 3 < (saysL s a e n).length by omega)]
          rfl
        · exact ⟨by simp only [rng]; omega, by omega, tail (by rw [h6, Bool.and_false])⟩
      · simp only [decide_eq_false_iff_not] at hd
        exact ⟨by simp only [rng]; omega, by omega, tail (by rw [decide_eq_false (show ¬ 3 < (saysL s a e n).length by omega), Bool.false_and])⟩
theorem targumref1_Marker.sc : ∀ vs h K, targumref1_Marker.s vs h K → ACalls Tryd.prog targumref1_Marker.n vs h K := by
  intro vs h K hh; unfold targumref1_Marker.s at hh; split at hh
  · exact targumref1_Marker.c _ _ _ _ _ _ hh.1 hh.2
  · exact hh.elim
theorem targumref1_Marker.sm : SpecMono targumref1_Marker.s := by
  intro vs h K K' hk hh; unfold targumref1_Marker.s at hh ⊢; split at hh
  · exact ⟨hh.1, hk _ _ hh.2⟩
  · exact hh.elim
theorem targumref1_Marker.sd : SpecDet targumref1_Marker.s := by
  intro vs h K hh; unfold targumref1_Marker.s at hh; split at hh
  · exact ⟨_, hh.2, hh.1, rfl⟩
  · exact hh.elim

end Go.Mini
