/- Plain texts: where one begins, where a part ends: the code's and the reference's. Conditions: sizes. -/
import Derived.Test.YtcdkcdapbadkaaaDoorRef1
namespace Go.Mini
open Go Go.RowKit Go.Proofs
set_option maxRecDepth 100000
set_option linter.unusedVariables false
set_option linter.unusedSimpArgs false

def neverB (c : UInt8) : Bool := [44, 91, 93, 123, 125, 35, 38, 42, 33, 124, 62, 39, 34, 37, 64, 96].contains c
def wantB (c : UInt8) : Bool := [45, 63, 58].contains c
def opensI (v : Int) (s : ByteArray) (i : Int) (flow : Bool) : Bool := decide (0 ≤ i) && !stopI v s i false && !neverB (byteAt s i.toNat) && (!wantB (byteAt s i.toNat) || !stopI v s (i + 1) flow)
/-- Does a part end at a place? -/
def stopE (v : Int) (s : ByteArray) (flow : Bool) (i : Int) : Bool := decide (s.size ≤ i) || decide (0 < brkI v s i) || remI s i || (decide (byteAt s i.toNat = 58) && stopI v s (i + 1) flow) || (flow && signB (byteAt s i.toNat))
def endP (v : Int) (s : ByteArray) (flow : Bool) : Nat → Int → Int → Int × Int
  | 0, e, j => (e, j)
  | n + 1, e, j => if stopE v s flow j = true then (e, j) else if blankI s j = true then endP v s flow n e (j + 1) else endP v s flow n (j + 1) (j + 1)
def endsI (v : Int) (s : ByteArray) (i : Int) (flow : Bool) : Int := (endP v s flow (s.size - i).toNat i i).1
def partI (v : Int) (s : ByteArray) (i : Int) (flow : Bool) : Int := if opensI v s i flow = true then endsI v s i flow else -1

theorem stopE_lt {v : Int} {s : ByteArray} {flow : Bool} {j : Int} (h : stopE v s flow j = false) : j < s.size := by
  unfold stopE at h
  simp only [Bool.or_eq_false_iff, decide_eq_false_iff_not] at h
  omega
theorem endP_stop {v : Int} {s : ByteArray} {flow : Bool} {n : Nat} {e j : Int} (h : stopE v s flow j = true) : endP v s flow n e j = (e, j) := by
  cases n with
  | zero => rfl
  | succ n => rw [endP, if_pos h]
theorem endP_blank {v : Int} {s : ByteArray} {flow : Bool} {e j : Int} (h : stopE v s flow j = false) (hb : blankI s j = true) : endP v s flow (s.size - j).toNat e j = endP v s flow (s.size - (j + 1)).toNat e (j + 1) := by
  have := stopE_lt h
  rw [show (s.size - j).toNat = (s.size - (j + 1)).toNat + 1 from by omega, endP, if_neg (by rw [h]; decide), if_pos hb]
theorem endP_more {v : Int} {s : ByteArray} {flow : Bool} {e j : Int} (h : stopE v s flow j = false) (hb : blankI s j = false) : endP v s flow (s.size - j).toNat e j = endP v s flow (s.size - (j + 1)).toNat (j + 1) (j + 1) := by
  have := stopE_lt h
  rw [show (s.size - j).toNat = (s.size - (j + 1)).toNat + 1 from by omega, endP, if_neg (by rw [h]; decide), if_neg (by rw [hb]; decide)]
theorem sign_bl {s : ByteArray} {j : Int} (h : blankI s j = true) : signB (byteAt s j.toNat) = false := by
  unfold blankI isBl at h
  simp only [Bool.and_eq_true, Bool.or_eq_true, decide_eq_true_eq] at h
  rw [Bool.eq_false_iff]
  intro hs
  unfold signB at hs
  simp only [List.contains_iff_mem, List.mem_cons, List.not_mem_nil, or_false] at hs
  rcases hs with e | e | e | e | e <;> rw [e] at h <;> exact absurd h.2 (by decide)
def SI : CT := (extC (extC (extC SH targumref1_Indent.n targumref1_Indent.s) targumref1_Blank.n targumref1_Blank.s) targumref1_Marker.n targumref1_Marker.s)
theorem SI_ok : COk Tryd.prog SI := (extC_ok (extC_ok (extC_ok SH_ok targumref1_Indent.sc targumref1_Indent.sd) targumref1_Blank.sc targumref1_Blank.sd) targumref1_Marker.sc targumref1_Marker.sd)
theorem SI_mono : CMono SI := (extC_mono (extC_mono (extC_mono SH_mono targumref1_Indent.sm) targumref1_Blank.sm) targumref1_Marker.sm)

def plain_begins.s : List Value → Heap → VK → Prop
  | [.int .i64 v, .string s, .int .i64 i, .bool flow], h, K => (s.size ≤ 1000000) ∧ K (.bool (opensI v s i flow)) h
  | _, _, _ => False
theorem plain_begins.t (v : Int) (s : ByteArray) (i : Int) (flow : Bool) (h : Heap) (K : VK) : mwp SI (lt0) plain_begins.m (retK [.t 8] K) (argE 0 [.int .i64 v, .string s, .int .i64 i, .bool flow]) h = (br (decide (i < (0 : Int))) (K (Value.bool false) h) ((0 : Int) ≤ i ∧ br (stopI v s i false) (K (Value.bool false) h) (((0 : Int) ≤ i ∧ i < (↑s.size : Int)) ∧ br (decide ((0 : Int) ≤ idxB (ByteArray.mk #[(44 : UInt8), (91 : UInt8), (93 : UInt8), (123 : UInt8), (125 : UInt8), (35 : UInt8), (38 : UInt8), (42 : UInt8), (33 : UInt8), (124 : UInt8), (62 : UInt8), (39 : UInt8), (34 : UInt8), (37 : UInt8), (64 : UInt8), (96 : UInt8)]) (↑(byteAt s i.toNat).toNat : Int))) (K (Value.bool false) h) (((0 : Int) ≤ i ∧ i < (↑s.size : Int)) ∧ br (decide (idxB (ByteArray.mk #[(45 : UInt8), (63 : UInt8), (58 : UInt8)]) (↑(byteAt s i.toNat).toNat : Int) < (0 : Int))) (K (Value.bool true) h) (rng IntKind.i64 (i + (1 : Int)) ∧ (0 : Int) ≤ i + (1 : Int) ∧ K (Value.bool !stopI v s (i + (1 : Int)) flow) h))))) := by kernel_rfl
theorem plain_begins.c (v : Int) (s : ByteArray) (i : Int) (flow : Bool) (h : Heap) (K : VK) (hp : s.size ≤ 1000000) (hh : K (.bool (opensI v s i flow)) h) : ACalls Tryd.prog plain_begins.n [.int .i64 v, .string s, .int .i64 i, .bool flow] h K := by
  refine acalls_mk SI_ok plain_begins.ok (LS := lt0) (by simp only [plain_begins.m, LOk, and_true, true_and]) (Nat.le_of_ble_eq_true rfl) (Eq.mpr (plain_begins.t v s i flow h K) ?_)
  have hnv : decide (0 ≤ idxB (ByteArray.mk #[44, 91, 93, 123, 125, 35, 38, 42, 33, 124, 62, 39, 34, 37, 64, 96]) ((byteAt s i.toNat).toNat : Int)) = neverB (byteAt s i.toNat) := idx_ge [44, 91, 93, 123, 125, 35, 38, 42, 33, 124, 62, 39, 34, 37, 64, 96] (byteAt s i.toNat)
  have hwt : decide (idxB (ByteArray.mk #[45, 63, 58]) ((byteAt s i.toNat).toNat : Int) < 0) = !wantB (byteAt s i.toNat) := by
    have := idx_ge [45, 63, 58] (byteAt s i.toNat)
    unfold wantB
    rw [← this, ← decide_not]
    exact decide_eq_decide.2 (by rw [Int.not_le])
  rw [hnv, hwt]
  unfold opensI at hh
  refine br_intro (fun h1 => ?_) (fun h1 => ?_)
  · simp only [decide_eq_true_eq] at h1
    rw [decide_eq_false (show ¬ 0 ≤ i by omega)] at hh
    exact hh
  · simp only [decide_eq_false_iff_not] at h1
    rw [decide_eq_true (show 0 ≤ i by omega), Bool.true_and] at hh
    refine ⟨by omega, br_intro (fun h2 => ?_) (fun h2 => ?_)⟩
    · rw [h2] at hh; exact hh
    · rw [h2] at hh
      have h3 : i < s.size := by
        unfold stopI at h2
        simp only [Bool.or_eq_false_iff, decide_eq_false_iff_not] at h2
        omega
      refine ⟨by omega, br_intro (fun h4 => ?_) (fun h4 => ?_)⟩
      · rw [h4] at hh; exact hh
      · rw [h4] at hh
        refine ⟨by omega, br_intro (fun h5 => ?_) (fun h5 => ?_)⟩
        · rw [h5] at hh; exact hh
        · rw [h5] at hh
          exact ⟨by simp only [rng]; omega, by omega, hh⟩
theorem plain_begins.sc : ∀ vs h K, plain_begins.s vs h K → ACalls Tryd.prog plain_begins.n vs h K := by
  intro vs h K hh; unfold plain_begins.s at hh; split at hh
  · exact plain_begins.c _ _ _ _ _ _ hh.1 hh.2
  · exact hh.elim
theorem plain_begins.sm : SpecMono plain_begins.s := by
  intro vs h K K' hk hh; unfold plain_begins.s at hh ⊢; split at hh
  · exact ⟨hh.1, hk _ _ hh.2⟩
  · exact hh.elim
theorem plain_begins.sd : SpecDet plain_begins.s := by
  intro vs h K hh; unfold plain_begins.s at hh; split at hh
  · exact ⟨_, hh.2, hh.1, rfl⟩
  · exact hh.elim

def plain_ends.sp1999 : LSpec := ⟨plain_ends.cs1999, plain_ends.ts1999, fun vs h K => match vs with
  | [.int .i64 v, .string s, .int .i64 i, .bool flow, .int .i64 q] => h = lit [] ∧ (s.size ≤ 1000000 ∧ 0 ≤ i ∧ i ≤ s.size) ∧ (K .ret [.int .i64 v, .string s, .int .i64 (endP v s flow (s.size - i).toNat i i).2, .bool flow, .int .i64 (endP v s flow (s.size - i).toNat i i).1] (lit []))
  | _ => False⟩
theorem plain_ends.spm1999 : LSpecMono plain_ends.sp1999 := by
  intro vs h K K' hk hh; unfold plain_ends.sp1999 at hh ⊢; dsimp only at hh ⊢; split at hh
  · obtain ⟨h2, h3, h4⟩ := hh; exact ⟨h2, h3, hk _ _ _ h4⟩
  · exact hh.elim
def plain_ends.r1999 : MCode := (mfind plain_ends.l1999 0).getD .skip
theorem plain_ends.rf1999 : mfind plain_ends.l1999 0 = some plain_ends.r1999 := by kernel_rfl
theorem plain_ends.ta1999 (v : Int) (s : ByteArray) (i : Int) (flow : Bool) (q : Int) (E : Env) (G : Nat → List Value → Heap → Prop) (K : LK) : mwp SI (lt0) plain_ends.l1999 (gK2 plain_ends.cs1999 [0, 1, 2, 3, 8, 9] G K) (zipE plain_ends.cs1999 [.int .i64 v, .string s, .int .i64 i, .bool flow, .int .i64 q] ++ E) (lit []) = (br (decide ((↑s.size : Int) ≤ i)) (K Exit.ret [Value.int IntKind.i64 v, Value.string s, Value.int IntKind.i64 i, Value.bool flow, Value.int IntKind.i64 i] (Heap.mk (0 : Nat) [])) (br (decide ((0 : Int) < brkI v s i)) (K Exit.ret [Value.int IntKind.i64 v, Value.string s, Value.int IntKind.i64 i, Value.bool flow, Value.int IntKind.i64 i] (Heap.mk (0 : Nat) [])) (s.size ≤ (1000000 : Nat) ∧ br (remI s i) (K Exit.ret [Value.int IntKind.i64 v, Value.string s, Value.int IntKind.i64 i, Value.bool flow, Value.int IntKind.i64 i] (Heap.mk (0 : Nat) [])) (((0 : Int) ≤ i ∧ i < (↑s.size : Int)) ∧ br (decide ((↑(byteAt s i.toNat).toNat : Int) = (58 : Int))) (rng IntKind.i64 (i + (1 : Int)) ∧ (0 : Int) ≤ i + (1 : Int) ∧ br (stopI v s (i + (1 : Int)) flow) (K Exit.ret [Value.int IntKind.i64 v, Value.string s, Value.int IntKind.i64 i, Value.bool flow, Value.int IntKind.i64 i] (Heap.mk (0 : Nat) [])) (br (blankI s i) (rng IntKind.i64 (i + (1 : Int)) ∧ G (0 : Nat) [Value.int IntKind.i64 v, Value.string s, Value.int IntKind.i64 (i + (1 : Int)), Value.bool flow, Value.int IntKind.i64 q, Value.int IntKind.i64 i] (Heap.mk (0 : Nat) [])) (br flow ((0 : Int) ≤ i ∧ br (stopI v s i true) (K Exit.ret [Value.int IntKind.i64 v, Value.string s, Value.int IntKind.i64 i, Value.bool flow, Value.int IntKind.i64 i] (Heap.mk (0 : Nat) [])) (rng IntKind.i64 (i + (1 : Int)) ∧ G (0 : Nat) [Value.int IntKind.i64 v, Value.string s, Value.int IntKind.i64 (i + (1 : Int)), Value.bool flow, Value.int IntKind.i64 q, Value.int IntKind.i64 (i + (1 : Int))] (Heap.mk (0 : Nat) []))) (rng IntKind.i64 (i + (1 : Int)) ∧ G (0 : Nat) [Value.int IntKind.i64 v, Value.string s, Value.int IntKind.i64 (i + (1 : Int)), Value.bool flow, Value.int IntKind.i64 q, Value.int IntKind.i64 (i + (1 : Int))] (Heap.mk (0 : Nat) []))))) (br (blankI s i) (rng IntKind.i64 (i + (1 : Int)) ∧ G (0 : Nat) [Value.int IntKind.i64 v, Value.string s, Value.int IntKind.i64 (i + (1 : Int)), Value.bool flow, Value.int IntKind.i64 q, Value.int IntKind.i64 i] (Heap.mk (0 : Nat) [])) (br flow ((0 : Int) ≤ i ∧ br (stopI v s i true) (K Exit.ret [Value.int IntKind.i64 v, Value.string s, Value.int IntKind.i64 i, Value.bool flow, Value.int IntKind.i64 i] (Heap.mk (0 : Nat) [])) (rng IntKind.i64 (i + (1 : Int)) ∧ G (0 : Nat) [Value.int IntKind.i64 v, Value.string s, Value.int IntKind.i64 (i + (1 : Int)), Value.bool flow, Value.int IntKind.i64 q, Value.int IntKind.i64 (i + (1 : Int))] (Heap.mk (0 : Nat) []))) (rng IntKind.i64 (i + (1 : Int)) ∧ G (0 : Nat) [Value.int IntKind.i64 v, Value.string s, Value.int IntKind.i64 (i + (1 : Int)), Value.bool flow, Value.int IntKind.i64 q, Value.int IntKind.i64 (i + (1 : Int))] (Heap.mk (0 : Nat) [])))))))) := by kernel_rfl
theorem plain_ends.tb1999 (v : Int) (s : ByteArray) (j : Int) (flow : Bool) (q : Int) (e : Int) (E : Env) (G : Nat → List Value → Heap → Prop) (K : LK) : mwp SI (lt0) plain_ends.r1999 (gK2 plain_ends.cs1999 [0, 1, 2, 3, 8, 9] G K) (zipE [0, 1, 2, 3, 8, 9] [.int .i64 v, .string s, .int .i64 j, .bool flow, .int .i64 q, .int .i64 e] ++ E) (lit []) = (br (decide ((↑s.size : Int) ≤ j)) (K Exit.ret [Value.int IntKind.i64 v, Value.string s, Value.int IntKind.i64 j, Value.bool flow, Value.int IntKind.i64 e] (Heap.mk (0 : Nat) [])) (br (decide ((0 : Int) < brkI v s j)) (K Exit.ret [Value.int IntKind.i64 v, Value.string s, Value.int IntKind.i64 j, Value.bool flow, Value.int IntKind.i64 e] (Heap.mk (0 : Nat) [])) (s.size ≤ (1000000 : Nat) ∧ br (remI s j) (K Exit.ret [Value.int IntKind.i64 v, Value.string s, Value.int IntKind.i64 j, Value.bool flow, Value.int IntKind.i64 e] (Heap.mk (0 : Nat) [])) (((0 : Int) ≤ j ∧ j < (↑s.size : Int)) ∧ br (decide ((↑(byteAt s j.toNat).toNat : Int) = (58 : Int))) (rng IntKind.i64 (j + (1 : Int)) ∧ (0 : Int) ≤ j + (1 : Int) ∧ br (stopI v s (j + (1 : Int)) flow) (K Exit.ret [Value.int IntKind.i64 v, Value.string s, Value.int IntKind.i64 j, Value.bool flow, Value.int IntKind.i64 e] (Heap.mk (0 : Nat) [])) (br (blankI s j) (rng IntKind.i64 (j + (1 : Int)) ∧ G (0 : Nat) [Value.int IntKind.i64 v, Value.string s, Value.int IntKind.i64 (j + (1 : Int)), Value.bool flow, Value.int IntKind.i64 q, Value.int IntKind.i64 e] (Heap.mk (0 : Nat) [])) (br flow ((0 : Int) ≤ j ∧ br (stopI v s j true) (K Exit.ret [Value.int IntKind.i64 v, Value.string s, Value.int IntKind.i64 j, Value.bool flow, Value.int IntKind.i64 e] (Heap.mk (0 : Nat) [])) (rng IntKind.i64 (j + (1 : Int)) ∧ G (0 : Nat) [Value.int IntKind.i64 v, Value.string s, Value.int IntKind.i64 (j + (1 : Int)), Value.bool flow, Value.int IntKind.i64 q, Value.int IntKind.i64 (j + (1 : Int))] (Heap.mk (0 : Nat) []))) (rng IntKind.i64 (j + (1 : Int)) ∧ G (0 : Nat) [Value.int IntKind.i64 v, Value.string s, Value.int IntKind.i64 (j + (1 : Int)), Value.bool flow, Value.int IntKind.i64 q, Value.int IntKind.i64 (j + (1 : Int))] (Heap.mk (0 : Nat) []))))) (br (blankI s j) (rng IntKind.i64 (j + (1 : Int)) ∧ G (0 : Nat) [Value.int IntKind.i64 v, Value.string s, Value.int IntKind.i64 (j + (1 : Int)), Value.bool flow, Value.int IntKind.i64 q, Value.int IntKind.i64 e] (Heap.mk (0 : Nat) [])) (br flow ((0 : Int) ≤ j ∧ br (stopI v s j true) (K Exit.ret [Value.int IntKind.i64 v, Value.string s, Value.int IntKind.i64 j, Value.bool flow, Value.int IntKind.i64 e] (Heap.mk (0 : Nat) [])) (rng IntKind.i64 (j + (1 : Int)) ∧ G (0 : Nat) [Value.int IntKind.i64 v, Value.string s, Value.int IntKind.i64 (j + (1 : Int)), Value.bool flow, Value.int IntKind.i64 q, Value.int IntKind.i64 (j + (1 : Int))] (Heap.mk (0 : Nat) []))) (rng IntKind.i64 (j + (1 : Int)) ∧ G (0 : Nat) [Value.int IntKind.i64 v, Value.string s, Value.int IntKind.i64 (j + (1 : Int)), Value.bool flow, Value.int IntKind.i64 q, Value.int IntKind.i64 (j + (1 : Int))] (Heap.mk (0 : Nat) [])))))))) := by kernel_rfl
theorem plain_ends.lo1999 : LOk1 Tryd.prog plain_ends.nt plain_ends.sp1999 (.scope 1999 plain_ends.l1999) := by
  refine scope_resC (σ := Int × ByteArray × Int × Bool × Int × Int) (l := 0) (rest := plain_ends.r1999) SI_ok SI_mono (lt0_mono) (LS := lt0) (by simp only [plain_ends.l1999, LOk, and_true, true_and]) rfl rfl [0, 1, 2, 3, 8, 9] rfl plain_ends.rf1999 (fun ⟨v, s, j, flow, q, e⟩ => [.int .i64 v, .string s, .int .i64 j, .bool flow, .int .i64 q, .int .i64 e]) (fun ⟨v, s, j, flow, q, e⟩ => lit []) (fun ⟨v, s, j, flow, q, e⟩ => s.size ≤ 1000000 ∧ 0 ≤ j ∧ j ≤ s.size) (fun ⟨v, s, j, flow, q, e⟩ => (s.size - j).toNat) 0 (fun ⟨v, s, j, flow, q, e⟩ K => K .ret [.int .i64 v, .string s, .int .i64 (endP v s flow (s.size - j).toNat e j).2, .bool flow, .int .i64 (endP v s flow (s.size - j).toNat e j).1] (lit [])) ?_ ?_
  · intro vs h K hh; unfold plain_ends.sp1999 at hh; dsimp only at hh; split at hh
    · rename_i v s i flow q
      obtain ⟨h2, hp, hK⟩ := hh
      refine ⟨h2 ▸ rfl, fun E G hE hG => ?_⟩
      subst h2
      dsimp only at hG
      refine Eq.mpr (plain_ends.ta1999 _ _ _ _ _ E G (fun x => In 0 (K x))) ?_
      obtain ⟨hs, h0, hle⟩ := hp
      have nx : i < s.size → rng .i64 (i + 1) := fun h => by simp only [rng]; omega
      have go1 : stopE v s flow i = true → In 0 (K .ret) [.int .i64 v, .string s, .int .i64 i, .bool flow, .int .i64 i] (lit []) := fun h => .inl (by rw [endP_stop h] at hK; exact hK)
      have go2 : stopE v s flow i = false → blankI s i = true → rng .i64 (i + 1) ∧ G 0 [.int .i64 v, .string s, .int .i64 (i + 1), .bool flow, .int .i64 q, .int .i64 i] (lit []) := fun h hb => by
        have hl := (blankI_lt hb).2
        refine ⟨nx hl, hG (v, s, i + 1, flow, q, i) _ _ ⟨hs, by dsimp only; omega, by dsimp only; omega⟩ ?_ (.inl ⟨rfl, rfl⟩)⟩
        rw [endP_blank h hb] at hK
        exact hK
      have go3 : stopE v s flow i = false → blankI s i = false → rng .i64 (i + 1) ∧ G 0 [.int .i64 v, .string s, .int .i64 (i + 1), .bool flow, .int .i64 q, .int .i64 (i + 1)] (lit []) := fun h hb => by
        have hl := stopE_lt h
        refine ⟨nx hl, hG (v, s, i + 1, flow, q, i + 1) _ _ ⟨hs, by dsimp only; omega, by dsimp only; omega⟩ ?_ (.inl ⟨rfl, rfl⟩)⟩
        rw [endP_more h hb] at hK
        exact hK
      unfold stopE at go1 go2 go3
      refine br_intro (fun h1 => ?_) (fun h1 => ?_)
      · exact go1 (by rw [h1]; rfl)
      refine br_intro (fun h2 => ?_) (fun h2 => ?_)
      · exact go1 (by rw [h1, h2]; rfl)
      refine ⟨hs, br_intro (fun h3 => ?_) (fun h3 => ?_)⟩
      · exact go1 (by rw [h1, h2, h3]; rfl)
      have hlt : i < s.size := by simp only [decide_eq_false_iff_not] at h1; omega
      rw [h1, h2, h3] at go1 go2 go3
      have rest : (decide (byteAt s i.toNat = 58) && stopI v s (i + 1) flow) = false → br (blankI s i) (rng .i64 (i + 1) ∧ G 0 [.int .i64 v, .string s, .int .i64 (i + 1), .bool flow, .int .i64 q, .int .i64 i] (lit [])) (br flow (0 ≤ i ∧ br (stopI v s i true) (In 0 (K .ret) [.int .i64 v, .string s, .int .i64 i, .bool flow, .int .i64 i] (lit [])) (rng .i64 (i + 1) ∧ G 0 [.int .i64 v, .string s, .int .i64 (i + 1), .bool flow, .int .i64 q, .int .i64 (i + 1)] (lit []))) (rng .i64 (i + 1) ∧ G 0 [.int .i64 v, .string s, .int .i64 (i + 1), .bool flow, .int .i64 q, .int .i64 (i + 1)] (lit []))) := fun h6 => by
        rw [h6] at go1 go2 go3
        refine br_intro (fun h7 => ?_) (fun h7 => ?_)
        · refine go2 ?_ h7
          have := sign_bl h7
          rw [this, Bool.and_false]; rfl
        · refine br_intro (fun h8 => ?_) (fun h8 => ?_)
          · rw [h8] at go1 go3 ⊢
            have h9 : stopI v s i true = signB (byteAt s i.toNat) := by unfold stopI; rw [h1, h2, h7]; rfl
            rw [h9]
            refine ⟨h0, br_intro (fun hx => ?_) (fun hx => ?_)⟩
            · exact go1 (by rw [hx]; rfl)
            · exact go3 (by rw [hx]; rfl) h7
          · rw [h8] at go3 ⊢
            exact go3 rfl h7
      refine ⟨⟨h0, hlt⟩, br_intro (fun h4 => ?_) (fun h4 => ?_)⟩
      · have hc : byteAt s i.toNat = 58 := UInt8.toNat_inj.1 (show (byteAt s i.toNat).toNat = 58 by simp only [decide_eq_true_eq] at h4; omega)
        refine ⟨nx hlt, by omega, br_intro (fun h5 => ?_) (fun h5 => ?_)⟩
        · exact go1 (by rw [h5, hc]; rfl)
        · exact rest (by rw [h5, Bool.and_false])
      · have hc : ¬ byteAt s i.toNat = 58 := fun e => by rw [e] at h4; exact absurd h4 (by decide)
        exact rest (by rw [decide_eq_false hc, Bool.false_and])
    · exact hh.elim
  rintro ⟨v, s, j, flow, q, e⟩ E G K hE hp hG hK
  dsimp only at hp hG hK
  refine Eq.mpr (plain_ends.tb1999 v s j flow q e E G (fun x => In 0 (K x))) ?_
  obtain ⟨hs, h0, hle⟩ := hp
  have nx : j < s.size → rng .i64 (j + 1) := fun h => by simp only [rng]; omega
  have go1 : stopE v s flow j = true → In 0 (K .ret) [.int .i64 v, .string s, .int .i64 j, .bool flow, .int .i64 e] (lit []) := fun h => .inl (by rw [endP_stop h] at hK; exact hK)
  have go2 : stopE v s flow j = false → blankI s j = true → rng .i64 (j + 1) ∧ G 0 [.int .i64 v, .string s, .int .i64 (j + 1), .bool flow, .int .i64 q, .int .i64 e] (lit []) := fun h hb => by
    have hl := (blankI_lt hb).2
    refine ⟨nx hl, hG (v, s, j + 1, flow, q, e) _ _ ⟨hs, by dsimp only; omega, by dsimp only; omega⟩ (by dsimp only; omega) ?_ (.inl ⟨rfl, rfl⟩)⟩
    rw [endP_blank h hb] at hK
    exact hK
  have go3 : stopE v s flow j = false → blankI s j = false → rng .i64 (j + 1) ∧ G 0 [.int .i64 v, .string s, .int .i64 (j + 1), .bool flow, .int .i64 q, .int .i64 (j + 1)] (lit []) := fun h hb => by
    have hl := stopE_lt h
    refine ⟨nx hl, hG (v, s, j + 1, flow, q, j + 1) _ _ ⟨hs, by dsimp only; omega, by dsimp only; omega⟩ (by dsimp only; omega) ?_ (.inl ⟨rfl, rfl⟩)⟩
    rw [endP_more h hb] at hK
    exact hK
  unfold stopE at go1 go2 go3
  refine br_intro (fun h1 => ?_) (fun h1 => ?_)
  · exact go1 (by rw [h1]; rfl)
  refine br_intro (fun h2 => ?_) (fun h2 => ?_)
  · exact go1 (by rw [h1, h2]; rfl)
  refine ⟨hs, br_intro (fun h3 => ?_) (fun h3 => ?_)⟩
  · exact go1 (by rw [h1, h2, h3]; rfl)
  have hlt : j < s.size := by simp only [decide_eq_false_iff_not] at h1; omega
  rw [h1, h2, h3] at go1 go2 go3
  have rest : (decide (byteAt s j.toNat = 58) && stopI v s (j + 1) flow) = false → br (blankI s j) (rng .i64 (j + 1) ∧ G 0 [.int .i64 v, .string s, .int .i64 (j + 1), .bool flow, .int .i64 q, .int .i64 e] (lit [])) (br flow (0 ≤ j ∧ br (stopI v s j true) (In 0 (K .ret) [.int .i64 v, .string s, .int .i64 j, .bool flow, .int .i64 e] (lit [])) (rng .i64 (j + 1) ∧ G 0 [.int .i64 v, .string s, .int .i64 (j + 1), .bool flow, .int .i64 q, .int .i64 (j + 1)] (lit []))) (rng .i64 (j + 1) ∧ G 0 [.int .i64 v, .string s, .int .i64 (j + 1), .bool flow, .int .i64 q, .int .i64 (j + 1)] (lit []))) := fun h6 => by
    rw [h6] at go1 go2 go3
    refine br_intro (fun h7 => ?_) (fun h7 => ?_)
    · refine go2 ?_ h7
      have := sign_bl h7
      rw [this, Bool.and_false]; rfl
    · refine br_intro (fun h8 => ?_) (fun h8 => ?_)
      · rw [h8] at go1 go3 ⊢
        have h9 : stopI v s j true = signB (byteAt s j.toNat) := by unfold stopI; rw [h1, h2, h7]; rfl
        rw [h9]
        refine ⟨h0, br_intro (fun hx => ?_) (fun hx => ?_)⟩
        · exact go1 (by rw [hx]; rfl)
        · exact go3 (by rw [hx]; rfl) h7
      · rw [h8] at go3 ⊢
        exact go3 rfl h7
  refine ⟨⟨h0, hlt⟩, br_intro (fun h4 => ?_) (fun h4 => ?_)⟩
  · have hc : byteAt s j.toNat = 58 := UInt8.toNat_inj.1 (show (byteAt s j.toNat).toNat = 58 by simp only [decide_eq_true_eq] at h4; omega)
    refine ⟨nx hlt, by omega, br_intro (fun h5 => ?_) (fun h5 => ?_)⟩
    · exact go1 (by rw [h5, hc]; rfl)
    · exact rest (by rw [h5, Bool.and_false])
  · have hc : ¬ byteAt s j.toNat = 58 := fun e => by rw [e] at h4; exact absurd h4 (by decide)
    exact rest (by rw [decide_eq_false hc, Bool.false_and])

def plain_ends.LS : LT := (extL lt0 1999 plain_ends.sp1999)
theorem plain_ends.LS_mono : LMono plain_ends.LS := (extL_mono lt0_mono plain_ends.spm1999)
def plain_ends.s : List Value → Heap → VK → Prop
  | [.int .i64 v, .string s, .int .i64 i, .bool flow], h, K => (s.size ≤ 1000000 ∧ 0 ≤ i ∧ i ≤ s.size) ∧ K (.int .i64 (endsI v s i flow)) h
  | _, _, _ => False
theorem plain_ends.t (v : Int) (s : ByteArray) (i : Int) (flow : Bool) (K : VK) : mwp SI (plain_ends.LS) plain_ends.m (retK [.t 8] K) (argE 0 [.int .i64 v, .string s, .int .i64 i, .bool flow]) (lit []) = (Heap.mk (0 : Nat) [] = Heap.mk (0 : Nat) [] ∧ (s.size ≤ (1000000 : Nat) ∧ (0 : Int) ≤ i ∧ i ≤ (↑s.size : Int)) ∧ K (Value.int IntKind.i64 (endP v s flow ((↑s.size : Int) - i).toNat i i).fst) (Heap.mk (0 : Nat) [])) := by kernel_rfl
theorem plain_ends.c (v : Int) (s : ByteArray) (i : Int) (flow : Bool) (h : Heap) (K : VK) (hp : s.size ≤ 1000000 ∧ 0 ≤ i ∧ i ≤ s.size) (hh : K (.int .i64 (endsI v s i flow)) h) : ACalls Tryd.prog plain_ends.n [.int .i64 v, .string s, .int .i64 i, .bool flow] h K := by
  refine ACalls.alone rfl (acalls_mk SI_ok plain_ends.ok (LS := plain_ends.LS) (by simp only [plain_ends.m, LOk, and_true, true_and]; (repeat' apply And.intro) <;> first | trivial | exact plain_ends.lo1999) (Nat.le_of_ble_eq_true rfl) (Eq.mpr (plain_ends.t v s i flow (fun v _ => ck (cleanT v) (K v h))) ?_))
  exact ⟨rfl, hp, hh⟩
theorem plain_ends.sc : ∀ vs h K, plain_ends.s vs h K → ACalls Tryd.prog plain_ends.n vs h K := by
  intro vs h K hh; unfold plain_ends.s at hh; split at hh
  · exact plain_ends.c _ _ _ _ _ _ hh.1 hh.2
  · exact hh.elim
theorem plain_ends.sm : SpecMono plain_ends.s := by
  intro vs h K K' hk hh; unfold plain_ends.s at hh ⊢; split at hh
  · exact ⟨hh.1, hk _ _ hh.2⟩
  · exact hh.elim
theorem plain_ends.sd : SpecDet plain_ends.s := by
  intro vs h K hh; unfold plain_ends.s at hh; split at hh
  · exact ⟨_, hh.2, hh.1, rfl⟩
  · exact hh.elim

end Go.Mini
