/- The reference's plain text. Conditions: sizes. -/
import Derived.Test.YtcdkcdapbadkaaaDoorRead
namespace Go.Mini
open Go Go.RowKit Go.Proofs
set_option maxRecDepth 100000
set_option linter.unusedVariables false
set_option linter.unusedSimpArgs false

theorem strOf_app (l m : List UInt8) : strOf l ++ strOf m = strOf (l ++ m) := by
  apply ByteArray.ext; apply Array.ext'
  simp [strOf]
theorem ext_strOf (s : ByteArray) {a e : Int} (h0 : 0 ≤ a) (h1 : a ≤ e) : s.extract a.toNat e.toNat = strOf (bytesI s a e) := by
  have := bytesI_ext s h0 h1
  rw [← this]
  exact (strOf_lst _).symm

def targumref17_feeds.sp0 : LSpec := ⟨targumref17_feeds.cs0, targumref17_feeds.ts0, fun vs h K => ∃ (n : Int) (l : List UInt8) (i : Int), (vs = [.int .i64 n, .string (strOf l), .int .i64 i] ∧ (n ≤ 1000000 ∧ 0 ≤ i ∧ i ≤ 1000000 ∧ l.length ≤ i)) ∧ (∀ i' : Int, K (.exit 0) [.int .i64 n, .string (strOf (l ++ List.replicate (n - i).toNat 10)), .int .i64 i'] h)⟩
theorem targumref17_feeds.spm0 : LSpecMono targumref17_feeds.sp0 := by
  rintro vs h K K' hk ⟨n, l, i, h3, h4⟩
  exact ⟨n, l, i, h3, fun i' => hk _ _ _ (h4 i')⟩
theorem targumref17_feeds.t0 (n : Int) (l : List UInt8) (i : Int) (h : Heap) (E : Env) (N : List Value → Heap → Prop) (K : LK) : mwp SP (lt0) targumref17_feeds.l0 (lK targumref17_feeds.cs0 N K) (zipE targumref17_feeds.cs0 [.int .i64 n, .string (strOf l), .int .i64 i] ++ E) h = (br (decide (i < n)) ((strOf l).size + (ByteArray.mk #[(10 : UInt8)]).size ≤ (9223372036854775807 : Nat) ∧ rng IntKind.i64 (i + (1 : Int)) ∧ N [Value.int IntKind.i64 n, Value.string (strOf l ++ ByteArray.mk #[(10 : UInt8)]), Value.int IntKind.i64 (i + (1 : Int))] h) (K (Exit.exit (0 : Nat)) [Value.int IntKind.i64 n, Value.string (strOf l), Value.int IntKind.i64 i] h)) := by kernel_rfl
theorem targumref17_feeds.lo0 : LOk1 Tryd.prog targumref17_feeds.nt targumref17_feeds.sp0 (.loop 0 targumref17_feeds.l0) := by
  refine loop_res (σ := Int × (List UInt8) × Int) SP_ok SP_mono (lt0_mono) (LS := lt0) (by simp only [targumref17_feeds.l0, LOk, and_true, true_and]) rfl rfl (fun ⟨n, l, i⟩ => [.int .i64 n, .string (strOf l), .int .i64 i]) (fun ⟨n, l, i⟩ h => n ≤ 1000000 ∧ 0 ≤ i ∧ i ≤ 1000000 ∧ l.length ≤ i) (fun ⟨n, l, i⟩ => (n - i).toNat) (fun ⟨n, l, i⟩ K h => ∀ i' : Int, K (.exit 0) [.int .i64 n, .string (strOf (l ++ List.replicate (n - i).toNat 10)), .int .i64 i'] h) ?_ ?_
  · rintro vs h K ⟨n, l, i, ⟨h1, h2⟩, h3⟩
    exact ⟨⟨n, l, i⟩, h1, h2, h3⟩
  rintro ⟨n, l, i⟩ E h N K hE hp hN hK
  dsimp only at hp hN hK
  refine Eq.mpr (targumref17_feeds.t0 n l i h E N K) ?_
  obtain ⟨h1, h2, h3, h4⟩ := hp
  refine br_intro (fun hb => ?_) (fun hb => ?_)
  · simp only [decide_eq_true_eq] at hb
    refine ⟨by rw [strOf_size]; show l.length + 1 ≤ _; omega, by simp only [rng]; omega, ?_⟩
    rw [show (ByteArray.mk #[(10 : UInt8)]) = strOf [10] from rfl, strOf_app]
    refine hN (n, l ++ [10], i + 1) h ⟨h1, by dsimp only; omega, by dsimp only; omega, by simp only [List.length_append, List.length_singleton]; omega⟩ (by dsimp only; omega) ?_
    dsimp only
    rw [List.append_assoc, List.singleton_append, ← List.replicate_succ, show (n - (i + 1)).toNat + 1 = (n - i).toNat from by omega]
    exact hK
  · simp only [decide_eq_false_iff_not] at hb
    rw [show (n - i).toNat = 0 from by omega, List.replicate_zero, List.append_nil] at hK
    exact hK i

def targumref17_feeds.LS : LT := (extL lt0 0 targumref17_feeds.sp0)
theorem targumref17_feeds.LS_mono : LMono targumref17_feeds.LS := (extL_mono lt0_mono targumref17_feeds.spm0)
def targumref17_feeds.s : List Value → Heap → VK → Prop
  | [.int .i64 n], h, K => (n ≤ 1000000) ∧ K (.string (strOf (List.replicate n.toNat 10))) h
  | _, _, _ => False
theorem targumref17_feeds.t (n : Int) (h : Heap) (K : VK) : mwp SP (targumref17_feeds.LS) targumref17_feeds.m (retK [.t 2] K) (argE 0 [.int .i64 n]) h = (∃ (n_1 : Int), ∃ (l : List UInt8), ∃ (i : Int), ([Value.int IntKind.i64 n, Value.string (ByteArray.mk #[]), Value.int IntKind.i64 (0 : Int)] = [Value.int IntKind.i64 n_1, Value.string (strOf l), Value.int IntKind.i64 i] ∧ n_1 ≤ (1000000 : Int) ∧ (0 : Int) ≤ i ∧ i ≤ (1000000 : Int) ∧ (↑l.length : Int) ≤ i) ∧ ∀ (i' : Int), K (Value.string (strOf (l ++ List.replicate (n_1 - i).toNat (10 : UInt8)))) h) := by kernel_rfl
theorem targumref17_feeds.c (n : Int) (h : Heap) (K : VK) (hp : n ≤ 1000000) (hh : K (.string (strOf (List.replicate n.toNat 10))) h) : ACalls Tryd.prog targumref17_feeds.n [.int .i64 n] h K := by
  refine acalls_mk SP_ok targumref17_feeds.ok (LS := targumref17_feeds.LS) (by simp only [targumref17_feeds.m, LOk, and_true, true_and]; (repeat' apply And.intro) <;> first | trivial | exact targumref17_feeds.lo0) (Nat.le_of_ble_eq_true rfl) (Eq.mpr (targumref17_feeds.t n h K) ?_)
  refine ⟨n, [], 0, ⟨rfl, hp, by omega, by omega, by simp⟩, fun i' => ?_⟩
  rw [List.nil_append, Int.sub_zero]
  exact hh
theorem targumref17_feeds.sc : ∀ vs h K, targumref17_feeds.s vs h K → ACalls Tryd.prog targumref17_feeds.n vs h K := by
  intro vs h K hh; unfold targumref17_feeds.s at hh; split at hh
  · exact targumref17_feeds.c _ _ _ hh.1 hh.2
  · exact hh.elim
theorem targumref17_feeds.sm : SpecMono targumref17_feeds.s := by
  intro vs h K K' hk hh; unfold targumref17_feeds.s at hh ⊢; split at hh
  · exact ⟨hh.1, hk _ _ hh.2⟩
  · exact hh.elim
theorem targumref17_feeds.sd : SpecDet targumref17_feeds.s := by
  intro vs h K hh; unfold targumref17_feeds.s at hh; split at hh
  · exact ⟨_, hh.2, hh.1, rfl⟩
  · exact hh.elim

def SQ : CT := (extC (extC SP targumref1_Lines.n targumref1_Lines.s) targumref17_feeds.n targumref17_feeds.s)
theorem SQ_ok : COk Tryd.prog SQ := (extC_ok (extC_ok SP_ok targumref1_Lines.sc targumref1_Lines.sd) targumref17_feeds.sc targumref17_feeds.sd)
theorem SQ_mono : CMono SQ := (extC_mono (extC_mono SP_mono targumref1_Lines.sm) targumref17_feeds.sm)
/-- Lines that begin at k or ahead of it fall away. -/
def dropW (k : Int) : List Ln → List Ln
  | [] => []
  | x :: l => if x.a ≤ k then dropW k l else x :: l
/-- So do blank ones; how many. -/
def dropB (s : ByteArray) : List Ln → Nat × List Ln
  | [] => (0, [])
  | x :: l => if blnI s x.a x.e x.n = true then ((dropB s l).1 + 1, (dropB s l).2) else (0, x :: l)
theorem lnsC_at {pre rest : List Ln} {x : Ln} : (lnsC (pre ++ x :: rest)).drop (pre.length * 3) = lnC x ++ lnsC rest := by
  rw [lnsC_app, ← lnsC_len pre, List.drop_left]
  simp [lnsC]
abbrev lnsB (l : List Ln) : Option Blk := some ⟨58, 3, lnsC l, true⟩

def targumref17_Plain.N2 (pre rest : List Ln) (k : Int) (vs : List Value) (h : Heap) : Prop := vs = [.slice (some ⟨0, pre.length * 3, none⟩) rest.length rest.length, .int .i64 k] ∧ h = lit [lnsB (pre ++ rest)]
def targumref17_Plain.sp2 : LSpec := ⟨targumref17_Plain.cs2, targumref17_Plain.ts2, fun vs h K => ∃ (pre rest : List Ln) (k : Int), (h.n = 1 ∧ In 1 (targumref17_Plain.N2 pre rest k) vs h ∧ (True)) ∧ (∀ pre' rest' : List Ln, pre ++ rest = pre' ++ rest' → rest' = dropW k rest → K (.exit 2) [.slice (some ⟨0, pre'.length * 3, none⟩) rest'.length rest'.length, .int .i64 k] (lit [lnsB (pre' ++ rest')]))⟩
theorem targumref17_Plain.spm2 : LSpecMono targumref17_Plain.sp2 := by
  rintro vs h K K' hk ⟨pre, rest, k, h3, h4⟩
  exact ⟨pre, rest, k, h3, fun pre' rest' e1 e2 => hk _ _ _ (h4 pre' rest' e1 e2)⟩
theorem targumref17_Plain.t2 (pre rest : List Ln) (k : Int) (E : Env) (N : List Value → Heap → Prop) (K : LK) : mwp SQ (lt0) targumref17_Plain.l2 (lK targumref17_Plain.cs2 N K) (zipE targumref17_Plain.cs2 [.slice (some ⟨0, pre.length * 3, none⟩) rest.length rest.length, .int .i64 k] ++ E) (lit [lnsB (pre ++ rest)]) = (br (decide ((0 : Int) < (↑rest.length : Int))) (((0 : Int) ≤ (0 : Int) ∧ (0 : Int) < (↑rest.length : Int)) ∧ ∃ (z : Int), List.take (1 : Nat) (List.drop (pre.length * (3 : Nat) + Int.toNat (0 : Int) * (3 : Nat) + (0 : Nat)) (lnsC (pre ++ rest))) = [Value.int IntKind.i64 z] ∧ br (decide (z ≤ k)) (((0 : Int) ≤ (1 : Int) ∧ (1 : Int) ≤ (↑rest.length : Int)) ∧ N [Value.slice (some (Addr.mk (0 : Nat) (pre.length * (3 : Nat) + Int.toNat (1 : Int) * (3 : Nat)) none)) (rest.length - Int.toNat (1 : Int)) (rest.length - Int.toNat (1 : Int)), Value.int IntKind.i64 k] (Heap.mk (1 : Nat) [lnsB (pre ++ rest)])) (K (Exit.exit (2 : Nat)) [Value.slice (some (Addr.mk (0 : Nat) (pre.length * (3 : Nat)) none)) rest.length rest.length, Value.int IntKind.i64 k] (Heap.mk (1 : Nat) [lnsB (pre ++ rest)]))) (K (Exit.exit (2 : Nat)) [Value.slice (some (Addr.mk (0 : Nat) (pre.length * (3 : Nat)) none)) rest.length rest.length, Value.int IntKind.i64 k] (Heap.mk (1 : Nat) [lnsB (pre ++ rest)]))) := by kernel_rfl
theorem targumref17_Plain.lo2 : LOk1 Tryd.prog targumref17_Plain.nt targumref17_Plain.sp2 (.loop 2 targumref17_Plain.l2) := by
  refine loop_resC (σ := (List Ln) × (List Ln) × Int) SQ_ok SQ_mono (lt0_mono) (LS := lt0) (by simp only [targumref17_Plain.l2, LOk, and_true, true_and]) rfl rfl (fun ⟨pre, rest, k⟩ => [.slice (some ⟨0, pre.length * 3, none⟩) rest.length rest.length, .int .i64 k]) (fun ⟨pre, rest, k⟩ => lit [lnsB (pre ++ rest)]) (fun ⟨pre, rest, k⟩ => True) (fun ⟨pre, rest, k⟩ => rest.length) 1 (fun ⟨pre, rest, k⟩ K => ∀ pre' rest' : List Ln, pre ++ rest = pre' ++ rest' → rest' = dropW k rest → K (.exit 2) [.slice (some ⟨0, pre'.length * 3, none⟩) rest'.length rest'.length, .int .i64 k] (lit [lnsB (pre' ++ rest')])) ?_ ?_
  · rintro vs h K ⟨pre, rest, k, ⟨h1, h2, h3⟩, h4⟩
    exact ⟨h1, ⟨pre, rest, k⟩, h2, h3, h4⟩
  rintro ⟨pre, rest, k⟩ E N K hE hp hN hK
  dsimp only at hp hN hK
  refine Eq.mpr (targumref17_Plain.t2 pre rest k E N (fun x => In 1 (K x))) ?_
  cases rest with
  | nil => exact br_intro (fun hb => by simp at hb) (fun _ => .inl (hK pre [] rfl rfl))
  | cons x rest =>
    refine br_intro (fun _ => ?_) (fun hb => by simp at hb)
    refine ⟨⟨by omega, by simp only [List.length_cons]; omega⟩, x.a, by rw [Int.toNat_zero, Nat.zero_mul, Nat.add_zero, lnsC_at]; rfl, br_intro (fun hb => ?_) (fun hb => ?_)⟩
    · simp only [decide_eq_true_eq] at hb
      rw [dropW, if_pos hb] at hK
      refine ⟨⟨by omega, by simp only [List.length_cons]; omega⟩, hN (pre ++ [x], rest, k) _ _ trivial (by simp) (fun pre' rest' e1 e2 => hK pre' rest' (by rw [← e1]; simp) e2) (.inl ⟨?_, ?_⟩)⟩
      · simp [Nat.add_mul]
      · simp [lit]
    · simp only [decide_eq_false_iff_not] at hb
      rw [dropW, if_neg hb] at hK
      exact .inl (hK pre (x :: rest) rfl rfl)

def targumref17_Plain.N4 (s : ByteArray) (pre rest : List Ln) (n : Int) (vs : List Value) (h : Heap) : Prop := vs = [.string s, .slice (some ⟨0, pre.length * 3, none⟩) rest.length rest.length, .int .i64 n] ∧ h = lit [lnsB (pre ++ rest)]
def targumref17_Plain.sp4 : LSpec := ⟨targumref17_Plain.cs4, targumref17_Plain.ts4, fun vs h K => ∃ (s : ByteArray) (pre rest : List Ln) (n : Int), (h.n = 1 ∧ In 1 (targumref17_Plain.N4 s pre rest n) vs h ∧ (s.size ≤ 1000000 ∧ 0 ≤ n ∧ n + rest.length ≤ 1000000)) ∧ (∀ pre' rest' : List Ln, pre ++ rest = pre' ++ rest' → rest' = (dropB s rest).2 → K (.exit 4) [.string s, .slice (some ⟨0, pre'.length * 3, none⟩) rest'.length rest'.length, .int .i64 (n + (dropB s rest).1)] (lit [lnsB (pre' ++ rest')]))⟩
theorem targumref17_Plain.spm4 : LSpecMono targumref17_Plain.sp4 := by
  rintro vs h K K' hk ⟨s, pre, rest, n, h3, h4⟩
  exact ⟨s, pre, rest, n, h3, fun pre' rest' e1 e2 => hk _ _ _ (h4 pre' rest' e1 e2)⟩
theorem targumref17_Plain.t4 (s : ByteArray) (pre rest : List Ln) (n : Int) (E : Env) (N : List Value → Heap → Prop) (K : LK) : mwp SQ (lt0) targumref17_Plain.l4 (lK targumref17_Plain.cs4 N K) (zipE targumref17_Plain.cs4 [.string s, .slice (some ⟨0, pre.length * 3, none⟩) rest.length rest.length, .int .i64 n] ++ E) (lit [lnsB (pre ++ rest)]) = (br (decide ((0 : Int) < (↑rest.length : Int))) (((0 : Int) ≤ (0 : Int) ∧ (0 : Int) < (↑rest.length : Int)) ∧ ∃ (z : Int), ∃ (z_1 : Int), ∃ (z_2 : Int), List.take (3 : Nat) (List.drop (pre.length * (3 : Nat) + Int.toNat (0 : Int) * (3 : Nat)) (lnsC (pre ++ rest))) = [Value.int IntKind.i64 z, Value.int IntKind.i64 z_1, Value.int IntKind.i64 z_2] ∧ s.size ≤ (1000000 : Nat) ∧ br (blnI s z z_1 z_2) (((0 : Int) ≤ (1 : Int) ∧ (1 : Int) ≤ (↑rest.length : Int)) ∧ rng IntKind.i64 (n + (1 : Int)) ∧ N [Value.string s, Value.slice (some (Addr.mk (0 : Nat) (pre.length * (3 : Nat) + Int.toNat (1 : Int) * (3 : Nat)) none)) (rest.length - Int.toNat (1 : Int)) (rest.length - Int.toNat (1 : Int)), Value.int IntKind.i64 (n + (1 : Int))] (Heap.mk (1 : Nat) [lnsB (pre ++ rest)])) (K (Exit.exit (4 : Nat)) [Value.string s, Value.slice (some (Addr.mk (0 : Nat) (pre.length * (3 : Nat)) none)) rest.length rest.length, Value.int IntKind.i64 n] (Heap.mk (1 : Nat) [lnsB (pre ++ rest)]))) (K (Exit.exit (4 : Nat)) [Value.string s, Value.slice (some (Addr.mk (0 : Nat) (pre.length * (3 : Nat)) none)) rest.length rest.length, Value.int IntKind.i64 n] (Heap.mk (1 : Nat) [lnsB (pre ++ rest)]))) := by kernel_rfl
theorem targumref17_Plain.lo4 : LOk1 Tryd.prog targumref17_Plain.nt targumref17_Plain.sp4 (.loop 4 targumref17_Plain.l4) := by
  refine loop_resC (σ := ByteArray × (List Ln) × (List Ln) × Int) SQ_ok SQ_mono (lt0_mono) (LS := lt0) (by simp only [targumref17_Plain.l4, LOk, and_true, true_and]) rfl rfl (fun ⟨s, pre, rest, n⟩ => [.string s, .slice (some ⟨0, pre.length * 3, none⟩) rest.length rest.length, .int .i64 n]) (fun ⟨s, pre, rest, n⟩ => lit [lnsB (pre ++ rest)]) (fun ⟨s, pre, rest, n⟩ => s.size ≤ 1000000 ∧ 0 ≤ n ∧ n + rest.length ≤ 1000000) (fun ⟨s, pre, rest, n⟩ => rest.length) 1 (fun ⟨s, pre, rest, n⟩ K => ∀ pre' rest' : List Ln, pre ++ rest = pre' ++ rest' → rest' = (dropB s rest).2 → K (.exit 4) [.string s, .slice (some ⟨0, pre'.length * 3, none⟩) rest'.length rest'.length, .int .i64 (n + (dropB s rest).1)] (lit [lnsB (pre' ++ rest')])) ?_ ?_
  · rintro vs h K ⟨s, pre, rest, n, ⟨h1, h2, h3⟩, h4⟩
    exact ⟨h1, ⟨s, pre, rest, n⟩, h2, h3, h4⟩
  rintro ⟨s, pre, rest, n⟩ E N K hE hp hN hK
  dsimp only at hp hN hK
  refine Eq.mpr (targumref17_Plain.t4 s pre rest n E N (fun x => In 1 (K x))) ?_
  obtain ⟨h1, h2, h3⟩ := hp
  cases rest with
  | nil =>
    rw [dropB] at hK
    dsimp only at hK
    rw [show n + ((0 : Nat) : Int) = n from by omega] at hK
    exact br_intro (fun hb => by simp at hb) (fun _ => .inl (hK pre [] rfl rfl))
  | cons x rest =>
    simp only [List.length_cons] at h3
    refine br_intro (fun _ => ?_) (fun hb => by simp at hb)
    refine ⟨⟨by omega, by simp only [List.length_cons]; omega⟩, x.a, x.e, x.n, by rw [Int.toNat_zero, Nat.zero_mul, Nat.add_zero, lnsC_at]; rfl, h1, br_intro (fun hb => ?_) (fun hb => ?_)⟩
    · rw [dropB, if_pos hb] at hK
      dsimp only at hK
      rw [show n + (((dropB s rest).1 + 1 : Nat) : Int) = n + 1 + (dropB s rest).1 from by omega] at hK
      refine ⟨⟨by omega, by simp only [List.length_cons]; omega⟩, by simp only [rng]; omega, hN (s, pre ++ [x], rest, n + 1) _ _ ⟨h1, by dsimp only; omega, by dsimp only; omega⟩ (by simp) (fun pre' rest' e1 e2 => hK pre' rest' (by rw [← e1]; simp) e2) (.inl ⟨?_, ?_⟩)⟩
      · simp [Nat.add_mul]
      · simp [lit]
    · rw [dropB, if_neg (by rw [hb]; decide)] at hK
      dsimp only at hK
      rw [show n + ((0 : Nat) : Int) = n from by omega] at hK
      exact .inl (hK pre (x :: rest) rfl rfl)

def glueL (n : Int) : List UInt8 := if n = 0 then [32] else List.replicate n.toNat 10
/-- Behind a part that ends at e, of the lines that are left: what is told, where all ends. -/
def refF (v : Int) (s : ByteArray) (p : Int) : Nat → Int → List Ln → List UInt8 × Int
  | 0, e, _ => ([], e)
  | k + 1, e, l => if overI s e = s.size ∨ brkI v s (overI s e) = 0 then ([], e) else
    match (dropB s (dropW (overI s e) l)).2 with
    | [] => ([], e)
    | x :: r => if indI s x.a x.e x.n ≤ p ∨ 0 < mrkI s x.a x.e x.n then ([], e) else
      if byteAt s (overI s x.a).toNat = 35 ∨ (byteAt s (overI s x.a).toNat = 58 ∧ stopI v s (overI s x.a + 1) false = true) then ([], e) else
      (glueL (dropB s (dropW (overI s e) l)).1 ++ bytesI s (overI s x.a) (endsI v s (overI s x.a) false) ++ (refF v s p k (endsI v s (overI s x.a) false) (x :: r)).1, (refF v s p k (endsI v s (overI s x.a) false) (x :: r)).2)

section
variable {v : Int} {s : ByteArray} {p e : Int} {k : Nat} {l : List Ln}
theorem refF_stop (h : overI s e = s.size ∨ brkI v s (overI s e) = 0) : refF v s p (k + 1) e l = ([], e) := by rw [refF, if_pos h]
theorem refF_nil (h : ¬ (overI s e = s.size ∨ brkI v s (overI s e) = 0)) (h1 : (dropB s (dropW (overI s e) l)).2 = []) : refF v s p (k + 1) e l = ([], e) := by rw [refF, if_neg h, h1]
theorem refF_deep {x : Ln} {r : List Ln} (h : ¬ (overI s e = s.size ∨ brkI v s (overI s e) = 0)) (h1 : (dropB s (dropW (overI s e) l)).2 = x :: r) (h2 : indI s x.a x.e x.n ≤ p ∨ 0 < mrkI s x.a x.e x.n) : refF v s p (k + 1) e l = ([], e) := by
  rw [refF, if_neg h, h1]; exact if_pos h2
theorem refF_sign {x : Ln} {r : List Ln} (h : ¬ (overI s e = s.size ∨ brkI v s (overI s e) = 0)) (h1 : (dropB s (dropW (overI s e) l)).2 = x :: r) (h2 : ¬ (indI s x.a x.e x.n ≤ p ∨ 0 < mrkI s x.a x.e x.n))
    (h3 : byteAt s (overI s x.a).toNat = 35 ∨ (byteAt s (overI s x.a).toNat = 58 ∧ stopI v s (overI s x.a + 1) false = true)) : refF v s p (k + 1) e l = ([], e) := by
  rw [refF, if_neg h, h1]; exact (if_neg h2).trans (if_pos h3)
theorem refF_go {x : Ln} {r : List Ln} (h : ¬ (overI s e = s.size ∨ brkI v s (overI s e) = 0)) (h1 : (dropB s (dropW (overI s e) l)).2 = x :: r) (h2 : ¬ (indI s x.a x.e x.n ≤ p ∨ 0 < mrkI s x.a x.e x.n))
    (h3 : ¬ (byteAt s (overI s x.a).toNat = 35 ∨ (byteAt s (overI s x.a).toNat = 58 ∧ stopI v s (overI s x.a + 1) false = true))) :
    refF v s p (k + 1) e l = (glueL (dropB s (dropW (overI s e) l)).1 ++ bytesI s (overI s x.a) (endsI v s (overI s x.a) false) ++ (refF v s p k (endsI v s (overI s x.a) false) (x :: r)).1, (refF v s p k (endsI v s (overI s x.a) false) (x :: r)).2) := by
  rw [refF, if_neg h, h1]; exact (if_neg h2).trans (if_neg h3)
theorem dropW_mem {k : Int} : ∀ {l : List Ln} {x : Ln}, x ∈ dropW k l → x ∈ l
  | y :: l, x, h => by
    rw [dropW] at h
    split at h
    · exact List.mem_cons_of_mem _ (dropW_mem h)
    · exact h
theorem dropW_gt {k : Int} : ∀ {l : List Ln}, l.Pairwise (fun x y => x.a < y.a) → ∀ x ∈ dropW k l, k < x.a
  | y :: l, hp, x, h => by
    rw [List.pairwise_cons] at hp
    rw [dropW] at h
    split at h
    · exact dropW_gt hp.2 x h
    · rename_i hy
      rcases List.mem_cons.1 h with rfl | h
      · omega
      · have := hp.1 x h; omega
theorem dropW_head {k : Int} : ∀ {l : List Ln} {x : Ln} {r : List Ln}, dropW k l = x :: r → k < x.a
  | y :: l, x, r, h => by
    rw [dropW] at h
    split at h
    · exact dropW_head h
    · obtain ⟨rfl, _⟩ := List.cons.inj h; omega
theorem dropW_len {k : Int} : ∀ {l : List Ln}, (dropW k l).length ≤ l.length
  | [] => Nat.le_refl _
  | y :: l => by rw [dropW]; split; exact Nat.le_succ_of_le dropW_len; exact Nat.le_refl _
theorem dropB_mem {s : ByteArray} : ∀ {l : List Ln} {x : Ln}, x ∈ (dropB s l).2 → x ∈ l
  | y :: l, x, h => by
    rw [dropB] at h
    split at h
    · exact List.mem_cons_of_mem _ (dropB_mem h)
    · exact h
theorem dropB_len {s : ByteArray} : ∀ {l : List Ln}, (dropB s l).1 + (dropB s l).2.length = l.length
  | [] => rfl
  | y :: l => by
    rw [dropB]
    split
    · have := dropB_len (s := s) (l := l); simp only [List.length_cons]; omega
    · simp
theorem dropB_head {s : ByteArray} : ∀ {l : List Ln} {x : Ln} {r : List Ln}, (dropB s l).2 = x :: r → blnI s x.a x.e x.n = false
  | y :: l, x, r, h => by
    rw [dropB] at h
    split at h
    · exact dropB_head h
    · rename_i hb; obtain ⟨rfl, _⟩ := List.cons.inj h; simpa using hb
end
def targumref17_Plain.L24 : LT := (extL (extL lt0 2 targumref17_Plain.sp2) 4 targumref17_Plain.sp4)
theorem targumref17_Plain.L24_mono : LMono targumref17_Plain.L24 := (extL_mono (extL_mono lt0_mono targumref17_Plain.spm2) targumref17_Plain.spm4)
def SR : CT := (extC (extC (extC (extC (extC (extC (extC SQ targumref17_Stop.n targumref17_Stop.s) targumref17_ends.n targumref17_ends.s) targumref17_over.n targumref17_over.s) targumref1_Break.n targumref1_Break.s) targumref1_Blank.n targumref1_Blank.s) targumref1_Indent.n targumref1_Indent.s) targumref1_Marker.n targumref1_Marker.s)
theorem SR_ok : COk Tryd.prog SR := (extC_ok (extC_ok (extC_ok (extC_ok (extC_ok (extC_ok (extC_ok SQ_ok targumref17_Stop.sc targumref17_Stop.sd) targumref17_ends.sc targumref17_ends.sd) targumref17_over.sc targumref17_over.sd) targumref1_Break.sc targumref1_Break.sd) targumref1_Blank.sc targumref1_Blank.sd) targumref1_Indent.sc targumref1_Indent.sd) targumref1_Marker.sc targumref1_Marker.sd)
theorem SR_mono : CMono SR := (extC_mono (extC_mono (extC_mono (extC_mono (extC_mono (extC_mono (extC_mono SQ_mono targumref17_Stop.sm) targumref17_ends.sm) targumref17_over.sm) targumref1_Break.sm) targumref1_Blank.sm) targumref1_Indent.sm) targumref1_Marker.sm)
def targumref17_Plain.N0 (v : Int) (s : ByteArray) (p : Int) (q : ByteArray) (t : Int) (e : Int) (o : List UInt8) (pre rest : List Ln) (k : Nat) (vs : List Value) (h : Heap) : Prop := vs = [.int .i64 v, .string s, .int .i64 p, .string q, .int .i64 t, .int .i64 e, .string (strOf o), .slice (some ⟨0, pre.length * 3, none⟩) rest.length rest.length] ∧ h = lit [lnsB (pre ++ rest)]
def targumref17_Plain.sp0 : LSpec := ⟨targumref17_Plain.cs0, targumref17_Plain.ts0, fun vs h K => ∃ (v : Int) (s : ByteArray) (p : Int) (q : ByteArray) (t : Int) (e : Int) (o : List UInt8) (pre rest : List Ln) (k : Nat), (h.n = 1 ∧ In 1 (targumref17_Plain.N0 v s p q t e o pre rest k) vs h ∧ (s.size ≤ 1000000 ∧ 0 ≤ e ∧ e ≤ s.size ∧ (∀ x ∈ pre ++ rest, okLn s x.a x.e x.n = true) ∧ (pre ++ rest).length ≤ 1000000 ∧ o.length + (s.size - e) * 3000000 ≤ 10000000000000 ∧ (pre ++ rest).Pairwise (fun x y => x.a < y.a) ∧ s.size - e < k)) ∧ (∀ pre' rest' : List Ln, K .ret [.int .i64 v, .string s, .int .i64 p, .string (strOf (o ++ (refF v s p k e rest).1)), .int .i64 (refF v s p k e rest).2, .int .i64 (refF v s p k e rest).2, .string (strOf (o ++ (refF v s p k e rest).1)), .slice (some ⟨0, pre'.length * 3, none⟩) rest'.length rest'.length] (lit [lnsB (pre' ++ rest')]))⟩
theorem targumref17_Plain.spm0 : LSpecMono targumref17_Plain.sp0 := by
  rintro vs h K K' hk ⟨v, s, p, q, t, e, o, pre, rest, k, h3, h4⟩
  exact ⟨v, s, p, q, t, e, o, pre, rest, k, h3, fun pre' rest' => hk _ _ _ (h4 pre' rest')⟩
theorem targumref17_Plain.t0 (v : Int) (s : ByteArray) (p : Int) (q : ByteArray) (t : Int) (e : Int) (o : List UInt8) (pre rest : List Ln) (k : Nat) (E : Env) (N : List Value → Heap → Prop) (K : LK) : mwp SR (targumref17_Plain.L24) targumref17_Plain.l0 (lK targumref17_Plain.cs0 N K) (zipE targumref17_Plain.cs0 [.int .i64 v, .string s, .int .i64 p, .string q, .int .i64 t, .int .i64 e, .string (strOf o), .slice (some ⟨0, pre.length * 3, none⟩) rest.length rest.length] ++ E) (lit [lnsB (pre ++ rest)]) = (s.size ≤ (1000000 : Nat) ∧ br (decide (overI s e = (↑s.size : Int))) (K Exit.ret [Value.int IntKind.i64 v, Value.string s, Value.int IntKind.i64 p, Value.string (strOf o), Value.int IntKind.i64 e, Value.int IntKind.i64 e, Value.string (strOf o), Value.slice (some (Addr.mk (0 : Nat) (pre.length * (3 : Nat)) none)) rest.length rest.length] (Heap.mk (1 : Nat) [lnsB (pre ++ rest)])) (s.size ≤ (1000000 : Nat) ∧ br (decide (brkI v s (overI s e) = (0 : Int))) (K Exit.ret [Value.int IntKind.i64 v, Value.string s, Value.int IntKind.i64 p, Value.string (strOf o), Value.int IntKind.i64 e, Value.int IntKind.i64 e, Value.string (strOf o), Value.slice (some (Addr.mk (0 : Nat) (pre.length * (3 : Nat)) none)) rest.length rest.length] (Heap.mk (1 : Nat) [lnsB (pre ++ rest)])) (∃ (pre_1 : List Ln), ∃ (rest_1 : List Ln), ∃ (k : Int), ((1 : Nat) = (1 : Nat) ∧ In (1 : Nat) (targumref17_Plain.N2 pre_1 rest_1 k) [Value.slice (some (Addr.mk (0 : Nat) (pre.length * (3 : Nat)) none)) rest.length rest.length, Value.int IntKind.i64 (overI s e)] (Heap.mk (1 : Nat) [lnsB (pre ++ rest)]) ∧ True) ∧ ∀ (pre' rest' : List Ln), pre_1 ++ rest_1 = pre' ++ rest' → rest' = dropW k rest_1 → ∃ (s_1 : ByteArray), ∃ (pre : List Ln), ∃ (rest : List Ln), ∃ (n : Int), ((1 : Nat) = (1 : Nat) ∧ In (1 : Nat) (targumref17_Plain.N4 s_1 pre rest n) [Value.string s, Value.slice (some (Addr.mk (0 : Nat) (pre'.length * (3 : Nat)) none)) rest'.length rest'.length, Value.int IntKind.i64 (0 : Int)] (Heap.mk (1 : Nat) [lnsB (pre' ++ rest')]) ∧ s_1.size ≤ (1000000 : Nat) ∧ (0 : Int) ≤ n ∧ n + (↑rest.length : Int) ≤ (1000000 : Int)) ∧ ∀ (pre' rest' : List Ln), pre ++ rest = pre' ++ rest' → rest' = (dropB s_1 rest).snd → br (decide ((↑rest'.length : Int) = (0 : Int))) (K Exit.ret [Value.int IntKind.i64 v, Value.string s_1, Value.int IntKind.i64 p, Value.string (strOf o), Value.int IntKind.i64 e, Value.int IntKind.i64 e, Value.string (strOf o), Value.slice (some (Addr.mk (0 : Nat) (pre'.length * (3 : Nat)) none)) rest'.length rest'.length] (Heap.mk (1 : Nat) [lnsB (pre' ++ rest')])) (((0 : Int) ≤ (0 : Int) ∧ (0 : Int) < (↑rest'.length : Int)) ∧ ∃ (z : Int), ∃ (z_1 : Int), ∃ (z_2 : Int), List.take (3 : Nat) (List.drop (pre'.length * (3 : Nat) + Int.toNat (0 : Int) * (3 : Nat)) (lnsC (pre' ++ rest'))) = [Value.int IntKind.i64 z, Value.int IntKind.i64 z_1, Value.int IntKind.i64 z_2] ∧ s_1.size ≤ (1000000 : Nat) ∧ br (decide (indI s_1 z z_1 z_2 ≤ p)) (K Exit.ret [Value.int IntKind.i64 v, Value.string s_1, Value.int IntKind.i64 p, Value.string (strOf o), Value.int IntKind.i64 e, Value.int IntKind.i64 e, Value.string (strOf o), Value.slice (some (Addr.mk (0 : Nat) (pre'.length * (3 : Nat)) none)) rest'.length rest'.length] (Heap.mk (1 : Nat) [lnsB (pre' ++ rest')])) (((0 : Int) ≤ (0 : Int) ∧ (0 : Int) < (↑rest'.length : Int)) ∧ ∃ (z : Int), ∃ (z_3 : Int), ∃ (z_4 : Int), List.take (3 : Nat) (List.drop (pre'.length * (3 : Nat) + Int.toNat (0 : Int) * (3 : Nat)) (lnsC (pre' ++ rest'))) = [Value.int IntKind.i64 z, Value.int IntKind.i64 z_3, Value.int IntKind.i64 z_4] ∧ s_1.size ≤ (1000000 : Nat) ∧ br (decide ((0 : Int) < mrkI s_1 z z_3 z_4)) (K Exit.ret [Value.int IntKind.i64 v, Value.string s_1, Value.int IntKind.i64 p, Value.string (strOf o), Value.int IntKind.i64 e, Value.int IntKind.i64 e, Value.string (strOf o), Value.slice (some (Addr.mk (0 : Nat) (pre'.length * (3 : Nat)) none)) rest'.length rest'.length] (Heap.mk (1 : Nat) [lnsB (pre' ++ rest')])) (((0 : Int) ≤ (0 : Int) ∧ (0 : Int) < (↑rest'.length : Int)) ∧ ∃ (z : Int), List.take (1 : Nat) (List.drop (pre'.length * (3 : Nat) + Int.toNat (0 : Int) * (3 : Nat) + (0 : Nat)) (lnsC (pre' ++ rest'))) = [Value.int IntKind.i64 z] ∧ s_1.size ≤ (1000000 : Nat) ∧ ((0 : Int) ≤ overI s_1 z ∧ overI s_1 z < (↑s_1.size : Int)) ∧ br (decide ((↑(byteAt s_1 (overI s_1 z).toNat).toNat : Int) = (35 : Int))) (K Exit.ret [Value.int IntKind.i64 v, Value.string s_1, Value.int IntKind.i64 p, Value.string (strOf o), Value.int IntKind.i64 e, Value.int IntKind.i64 e, Value.string (strOf o), Value.slice (some (Addr.mk (0 : Nat) (pre'.length * (3 : Nat)) none)) rest'.length rest'.length] (Heap.mk (1 : Nat) [lnsB (pre' ++ rest')])) (((0 : Int) ≤ overI s_1 z ∧ overI s_1 z < (↑s_1.size : Int)) ∧ br (decide ((↑(byteAt s_1 (overI s_1 z).toNat).toNat : Int) = (58 : Int))) (rng IntKind.i64 (overI s_1 z + (1 : Int)) ∧ (s_1.size ≤ (1000000 : Nat) ∧ (0 : Int) ≤ overI s_1 z + (1 : Int)) ∧ br (stopI v s_1 (overI s_1 z + (1 : Int)) false) (K Exit.ret [Value.int IntKind.i64 v, Value.string s_1, Value.int IntKind.i64 p, Value.string (strOf o), Value.int IntKind.i64 e, Value.int IntKind.i64 e, Value.string (strOf o), Value.slice (some (Addr.mk (0 : Nat) (pre'.length * (3 : Nat)) none)) rest'.length rest'.length] (Heap.mk (1 : Nat) [lnsB (pre' ++ rest')])) ((s_1.size ≤ (1000000 : Nat) ∧ (0 : Int) ≤ overI s_1 z ∧ overI s_1 z ≤ (↑s_1.size : Int) ∧ byteAt s_1 (overI s_1 z).toNat ≠ (35 : UInt8)) ∧ br (decide (n + (↑(dropB s_1 rest).fst : Int) = (0 : Int))) ((strOf o).size + (ByteArray.mk #[(32 : UInt8)]).size ≤ (9223372036854775807 : Nat) ∧ ((0 : Int) ≤ overI s_1 z ∧ overI s_1 z ≤ endsI v s_1 (overI s_1 z) false ∧ endsI v s_1 (overI s_1 z) false ≤ (↑s_1.size : Int)) ∧ (strOf o ++ ByteArray.mk #[(32 : UInt8)]).size + (s_1.extract (overI s_1 z).toNat (endsI v s_1 (overI s_1 z) false).toNat).size ≤ (9223372036854775807 : Nat) ∧ N [Value.int IntKind.i64 v, Value.string s_1, Value.int IntKind.i64 p, Value.string q, Value.int IntKind.i64 t, Value.int IntKind.i64 (endsI v s_1 (overI s_1 z) false), Value.string (strOf o ++ ByteArray.mk #[(32 : UInt8)] ++ s_1.extract (overI s_1 z).toNat (endsI v s_1 (overI s_1 z) false).toNat), Value.slice (some (Addr.mk (0 : Nat) (pre'.length * (3 : Nat)) none)) rest'.length rest'.length] (Heap.mk (1 : Nat) [lnsB (pre' ++ rest')])) (n + (↑(dropB s_1 rest).fst : Int) ≤ (1000000 : Int) ∧ (strOf o).size + (strOf (List.replicate (n + (↑(dropB s_1 rest).fst : Int)).toNat (10 : UInt8))).size ≤ (9223372036854775807 : Nat) ∧ ((0 : Int) ≤ overI s_1 z ∧ overI s_1 z ≤ endsI v s_1 (overI s_1 z) false ∧ endsI v s_1 (overI s_1 z) false ≤ (↑s_1.size : Int)) ∧ (strOf o ++ strOf (List.replicate (n + (↑(dropB s_1 rest).fst : Int)).toNat (10 : UInt8))).size + (s_1.extract (overI s_1 z).toNat (endsI v s_1 (overI s_1 z) false).toNat).size ≤ (9223372036854775807 : Nat) ∧ N [Value.int IntKind.i64 v, Value.string s_1, Value.int IntKind.i64 p, Value.string q, Value.int IntKind.i64 t, Value.int IntKind.i64 (endsI v s_1 (overI s_1 z) false), Value.string (strOf o ++ strOf (List.replicate (n + (↑(dropB s_1 rest).fst : Int)).toNat (10 : UInt8)) ++ s_1.extract (overI s_1 z).toNat (endsI v s_1 (overI s_1 z) false).toNat), Value.slice (some (Addr.mk (0 : Nat) (pre'.length * (3 : Nat)) none)) rest'.length rest'.length] (Heap.mk (1 : Nat) [lnsB (pre' ++ rest')])))) ((s_1.size ≤ (1000000 : Nat) ∧ (0 : Int) ≤ overI s_1 z ∧ overI s_1 z ≤ (↑s_1.size : Int) ∧ byteAt s_1 (overI s_1 z).toNat ≠ (35 : UInt8)) ∧ br (decide (n + (↑(dropB s_1 rest).fst : Int) = (0 : Int))) ((strOf o).size + (ByteArray.mk #[(32 : UInt8)]).size ≤ (9223372036854775807 : Nat) ∧ ((0 : Int) ≤ overI s_1 z ∧ overI s_1 z ≤ endsI v s_1 (overI s_1 z) false ∧ endsI v s_1 (overI s_1 z) false ≤ (↑s_1.size : Int)) ∧ (strOf o ++ ByteArray.mk #[(32 : UInt8)]).size + (s_1.extract (overI s_1 z).toNat (endsI v s_1 (overI s_1 z) false).toNat).size ≤ (9223372036854775807 : Nat) ∧ N [Value.int IntKind.i64 v, Value.string s_1, Value.int IntKind.i64 p, Value.string q, Value.int IntKind.i64 t, Value.int IntKind.i64 (endsI v s_1 (overI s_1 z) false), Value.string (strOf o ++ ByteArray.mk #[(32 : UInt8)] ++ s_1.extract (overI s_1 z).toNat (endsI v s_1 (overI s_1 z) false).toNat), Value.slice (some (Addr.mk (0 : Nat) (pre'.length * (3 : Nat)) none)) rest'.length rest'.length] (Heap.mk (1 : Nat) [lnsB (pre' ++ rest')])) (n + (↑(dropB s_1 rest).fst : Int) ≤ (1000000 : Int) ∧ (strOf o).size + (strOf (List.replicate (n + (↑(dropB s_1 rest).fst : Int)).toNat (10 : UInt8))).size ≤ (9223372036854775807 : Nat) ∧ ((0 : Int) ≤ overI s_1 z ∧ overI s_1 z ≤ endsI v s_1 (overI s_1 z) false ∧ endsI v s_1 (overI s_1 z) false ≤ (↑s_1.size : Int)) ∧ (strOf o ++ strOf (List.replicate (n + (↑(dropB s_1 rest).fst : Int)).toNat (10 : UInt8))).size + (s_1.extract (overI s_1 z).toNat (endsI v s_1 (overI s_1 z) false).toNat).size ≤ (9223372036854775807 : Nat) ∧ N [Value.int IntKind.i64 v, Value.string s_1, Value.int IntKind.i64 p, Value.string q, Value.int IntKind.i64 t, Value.int IntKind.i64 (endsI v s_1 (overI s_1 z) false), Value.string (strOf o ++ strOf (List.replicate (n + (↑(dropB s_1 rest).fst : Int)).toNat (10 : UInt8)) ++ s_1.extract (overI s_1 z).toNat (endsI v s_1 (overI s_1 z) false).toNat), Value.slice (some (Addr.mk (0 : Nat) (pre'.length * (3 : Nat)) none)) rest'.length rest'.length] (Heap.mk (1 : Nat) [lnsB (pre' ++ rest')])))))))))) := by kernel_rfl
theorem targumref17_Plain.lo0 : LOk1 Tryd.prog targumref17_Plain.nt targumref17_Plain.sp0 (.loop 0 targumref17_Plain.l0) := by
  refine loop_resC (σ := Int × ByteArray × Int × ByteArray × Int × Int × (List UInt8) × (List Ln) × (List Ln) × Nat) SR_ok SR_mono (targumref17_Plain.L24_mono) (LS := targumref17_Plain.L24) (by simp only [targumref17_Plain.l0, LOk, and_true, true_and]; (repeat' apply And.intro) <;> first | trivial | exact targumref17_Plain.lo2 | exact targumref17_Plain.lo4) rfl rfl (fun ⟨v, s, p, q, t, e, o, pre, rest, k⟩ => [.int .i64 v, .string s, .int .i64 p, .string q, .int .i64 t, .int .i64 e, .string (strOf o), .slice (some ⟨0, pre.length * 3, none⟩) rest.length rest.length]) (fun ⟨v, s, p, q, t, e, o, pre, rest, k⟩ => lit [lnsB (pre ++ rest)]) (fun ⟨v, s, p, q, t, e, o, pre, rest, k⟩ => s.size ≤ 1000000 ∧ 0 ≤ e ∧ e ≤ s.size ∧ (∀ x ∈ pre ++ rest, okLn s x.a x.e x.n = true) ∧ (pre ++ rest).length ≤ 1000000 ∧ o.length + (s.size - e) * 3000000 ≤ 10000000000000 ∧ (pre ++ rest).Pairwise (fun x y => x.a < y.a) ∧ s.size - e < k) (fun ⟨v, s, p, q, t, e, o, pre, rest, k⟩ => k) 1 (fun ⟨v, s, p, q, t, e, o, pre, rest, k⟩ K => ∀ pre' rest' : List Ln, K .ret [.int .i64 v, .string s, .int .i64 p, .string (strOf (o ++ (refF v s p k e rest).1)), .int .i64 (refF v s p k e rest).2, .int .i64 (refF v s p k e rest).2, .string (strOf (o ++ (refF v s p k e rest).1)), .slice (some ⟨0, pre'.length * 3, none⟩) rest'.length rest'.length] (lit [lnsB (pre' ++ rest')])) ?_ ?_
  · rintro vs h K ⟨v, s, p, q, t, e, o, pre, rest, k, ⟨h1, h2, h3⟩, h4⟩
    exact ⟨h1, ⟨v, s, p, q, t, e, o, pre, rest, k⟩, h2, h3, h4⟩
  rintro ⟨v, s, p, q, t, e, o, pre, rest, k⟩ E N K hE hp hN hK
  dsimp only at hp hN hK
  refine Eq.mpr (targumref17_Plain.t0 v s p q t e o pre rest k E N (fun x => In 1 (K x))) ?_
  obtain ⟨hs, he0, he1, hok, hlen, ho, hpw, hk⟩ := hp
  obtain ⟨k, rfl⟩ : ∃ k', k = k' + 1 := ⟨k - 1, by omega⟩
  have ho1 := overI_ge s e
  have ho2 := overI_le s e he1
  have fin : refF v s p (k + 1) e rest = ([], e) → ∀ pre' rest' : List Ln, In 1 (K .ret) [.int .i64 v, .string s, .int .i64 p, .string (strOf o), .int .i64 e, .int .i64 e, .string (strOf o), .slice (some ⟨0, pre'.length * 3, none⟩) rest'.length rest'.length] (lit [lnsB (pre' ++ rest')]) := fun hE pre' rest' => .inl (by rw [hE, List.append_nil] at hK; exact hK pre' rest')
  refine ⟨hs, br_intro (fun hb => fin (refF_stop (.inl (by simpa using hb))) pre rest) (fun hb => ?_)⟩
  refine ⟨hs, br_intro (fun hc => fin (refF_stop (.inr (by simpa using hc))) pre rest) (fun hc => ?_)⟩
  have hst : ¬ (overI s e = s.size ∨ brkI v s (overI s e) = 0) := by simp only [decide_eq_false_iff_not] at hb hc; omega
  refine ⟨pre, rest, overI s e, ⟨rfl, .inl ⟨rfl, rfl⟩, trivial⟩, fun pre1 rest1 e1 e2 => ?_⟩
  have hl1 : rest1.length ≤ 1000000 := by have := congrArg List.length e1; simp only [List.length_append] at this hlen; omega
  refine ⟨s, pre1, rest1, 0, ⟨rfl, .inl ⟨rfl, rfl⟩, hs, by omega, by omega⟩, fun pre2 rest2 e3 e4 => ?_⟩
  have hlB := dropB_len (s := s) (l := rest1)
  subst e2
  have e5 : pre ++ rest = pre2 ++ rest2 := e1.trans e3
  cases hr2 : rest2 with
  | nil => exact br_intro (fun _ => fin (refF_nil hst (e4 ▸ hr2)) pre2 []) (fun hd => by simp at hd)
  | cons x r =>
    subst hr2
    have hx := e4.symm
    have hmem : x ∈ pre ++ rest := by rw [e5]; simp
    have hokx := hok x hmem
    have hi := okLn_iff.1 hokx
    have hblx := dropB_head hx
    have hov := overI_lt hokx hblx
    have hov0 := overI_ge s x.a
    have ha : overI s e < x.a := dropW_gt (List.pairwise_append.1 hpw).2.1 x (dropB_mem (s := s) (by rw [hx]; simp))
    have hat : List.drop (pre2.length * 3 + Int.toNat 0 * 3) (lnsC (pre2 ++ x :: r)) = lnC x ++ lnsC r := by rw [Int.toNat_zero, Nat.zero_mul, Nat.add_zero, lnsC_at]
    have hb0 : (0 : Int) ≤ 0 ∧ (0 : Int) < ((x :: r).length : Int) := ⟨by omega, by simp only [List.length_cons]; omega⟩
    refine br_intro (fun hd => by simp only [List.length_cons, decide_eq_true_eq] at hd; omega) (fun _ => ?_)
    refine ⟨hb0, x.a, x.e, x.n, by rw [hat]; rfl, hs, br_intro (fun hd => fin (refF_deep hst hx (.inl (by simpa using hd))) _ _) (fun hd => ?_)⟩
    refine ⟨hb0, x.a, x.e, x.n, by rw [hat]; rfl, hs, br_intro (fun hf => fin (refF_deep hst hx (.inr (by simpa using hf))) _ _) (fun hf => ?_)⟩
    have hdp : ¬ (indI s x.a x.e x.n ≤ p ∨ 0 < mrkI s x.a x.e x.n) := by simp only [decide_eq_false_iff_not] at hd hf; omega
    refine ⟨hb0, x.a, by rw [Nat.add_zero, hat]; rfl, hs, ⟨by omega, by omega⟩, br_intro (fun hg => ?_) (fun hg => ?_)⟩
    · exact fin (refF_sign hst hx hdp (.inl (UInt8.toNat_inj.1 (show (byteAt s (overI s x.a).toNat).toNat = 35 by simp only [decide_eq_true_eq] at hg; omega)))) _ _
    have h35 : byteAt s (overI s x.a).toNat ≠ 35 := fun e => by rw [e] at hg; exact absurd hg (by decide)
    have hend := endsI_ok v (s := s) (i := overI s x.a) false (by omega) (by omega)
    have hbl := bytesI_len s (overI s x.a) (endsI v s (overI s x.a) false)
    have hgl : (glueL (dropB s (dropW (overI s e) rest)).1).length ≤ 1000001 := by
      unfold glueL; split
      · simp
      · rw [List.length_replicate]; omega
    have hxsz : (s.extract (overI s x.a).toNat (endsI v s (overI s x.a) false).toNat).size = (bytesI s (overI s x.a) (endsI v s (overI s x.a) false)).length := by
      rw [ext_strOf s (by omega) hend.1, strOf_size]
    obtain ⟨nb, hnb⟩ : ∃ nb : Nat, (dropB s (dropW (overI s e) rest)).1 = nb := ⟨_, rfl⟩
    rw [hnb] at hgl hlB ⊢
    have nxt : ¬ (byteAt s (overI s x.a).toNat = 35 ∨ (byteAt s (overI s x.a).toNat = 58 ∧ stopI v s (overI s x.a + 1) false = true)) → N [.int .i64 v, .string s, .int .i64 p, .string q, .int .i64 t, .int .i64 (endsI v s (overI s x.a) false), .string (strOf (o ++ glueL nb ++ bytesI s (overI s x.a) (endsI v s (overI s x.a) false))), .slice (some ⟨0, pre2.length * 3, none⟩) (x :: r).length (x :: r).length] (lit [lnsB (pre2 ++ x :: r)]) := fun hns => by
      have hgo := refF_go (k := k) hst hx hdp hns
      rw [hgo, hnb] at hK
      refine hN (v, s, p, q, t, endsI v s (overI s x.a) false, o ++ glueL nb ++ bytesI s (overI s x.a) (endsI v s (overI s x.a) false), pre2, x :: r, k) _ _ ⟨hs, by dsimp only; omega, by dsimp only; omega, by dsimp only; rw [← e5]; exact hok, by dsimp only; rw [← e5]; exact hlen, ?_, by dsimp only; rw [← e5]; exact hpw, by dsimp only; omega⟩ (by dsimp only; omega) ?_ (.inl ⟨rfl, rfl⟩)
      · simp only [List.length_append]
        omega
      · dsimp only at hK ⊢
        simp only [List.append_assoc] at hK ⊢
        exact hK
    refine ⟨⟨by omega, by omega⟩, br_intro (fun hh => ?_) (fun hh => ?_)⟩
    · have h58 : byteAt s (overI s x.a).toNat = 58 := UInt8.toNat_inj.1 (show (byteAt s (overI s x.a).toNat).toNat = 58 by simp only [decide_eq_true_eq] at hh; omega)
      refine ⟨by simp only [rng]; omega, ⟨hs, by omega⟩, br_intro (fun hi => fin (refF_sign hst hx hdp (.inr ⟨h58, hi⟩)) _ _) (fun hi => ?_)⟩
      have hns : ¬ (byteAt s (overI s x.a).toNat = 35 ∨ (byteAt s (overI s x.a).toNat = 58 ∧ stopI v s (overI s x.a + 1) false = true)) := by rw [hi]; simp [h35]
      replace nxt := nxt hns
      refine ⟨⟨hs, by omega, by omega, h35⟩, br_intro (fun hj => ?_) (fun hj => ?_)⟩
      · have hnb0 : nb = 0 := by simp only [decide_eq_true_eq] at hj; omega
        subst hnb0
        rw [strOf_size, show (ByteArray.mk #[(32 : UInt8)]) = strOf [32] from rfl, strOf_size, hxsz, strOf_app, strOf_size, ext_strOf s (by omega) hend.1, strOf_app]
        exact ⟨by simp only [List.length_singleton]; omega, ⟨by omega, hend.1, hend.2⟩, by simp only [List.length_append, List.length_singleton]; omega, nxt⟩
      · have hnb0 : nb ≠ 0 := by simp only [decide_eq_false_iff_not] at hj; omega
        have hgl2 : glueL nb = List.replicate (0 + (nb : Int)).toNat 10 := by unfold glueL; rw [if_neg (by omega), Int.zero_add]
        rw [hgl2] at nxt hgl
        rw [strOf_size, strOf_size, hxsz, strOf_app, strOf_size, ext_strOf s (by omega) hend.1, strOf_app]
        exact ⟨by omega, by omega, ⟨by omega, hend.1, hend.2⟩, by simp only [List.length_append]; omega, nxt⟩
    · have hns : ¬ (byteAt s (overI s x.a).toNat = 35 ∨ (byteAt s (overI s x.a).toNat = 58 ∧ stopI v s (overI s x.a + 1) false = true)) := by
        have h58 : byteAt s (overI s x.a).toNat ≠ 58 := fun e => by rw [e] at hh; exact absurd hh (by decide)
        simp [h35, h58]
      replace nxt := nxt hns
      refine ⟨⟨hs, by omega, by omega, h35⟩, br_intro (fun hj => ?_) (fun hj => ?_)⟩
      · have hnb0 : nb = 0 := by simp only [decide_eq_true_eq] at hj; omega
        subst hnb0
        rw [strOf_size, show (ByteArray.mk #[(32 : UInt8)]) = strOf [32] from rfl, strOf_size, hxsz, strOf_app, strOf_size, ext_strOf s (by omega) hend.1, strOf_app]
        exact ⟨by simp only [List.length_singleton]; omega, ⟨by omega, hend.1, hend.2⟩, by simp only [List.length_append, List.length_singleton]; omega, nxt⟩
      · have hnb0 : nb ≠ 0 := by simp only [decide_eq_false_iff_not] at hj; omega
        have hgl2 : glueL nb = List.replicate (0 + (nb : Int)).toNat 10 := by unfold glueL; rw [if_neg (by omega), Int.zero_add]
        rw [hgl2] at nxt hgl
        rw [strOf_size, strOf_size, hxsz, strOf_app, strOf_size, ext_strOf s (by omega) hend.1, strOf_app]
        exact ⟨by omega, by omega, ⟨by omega, hend.1, hend.2⟩, by simp only [List.length_append]; omega, nxt⟩

theorem lnLoop_ok (v : Int) (s : ByteArray) : ∀ (k : Nat) (a i : Int), 0 ≤ a → a ≤ i → i ≤ s.size → (∀ x ∈ (lnLoop v s k a i).1, a ≤ x.a ∧ okLn s x.a x.e x.n = true ∧ x.n ≤ (lnLoop v s k a i).2) ∧ (lnLoop v s k a i).1.Pairwise (fun x y => x.a < y.a) ∧ a ≤ (lnLoop v s k a i).2 ∧ (∀ x ∈ (lnLoop v s k a i).1, x.a < (lnLoop v s k a i).2)
  | 0, a, i, h0, h1, h => by simp [lnLoop]
  | k + 1, a, i, h0, h1, h => by
    have hnn := brkI_nn v s i
    have hbl := brkI_len v (s := s) (i := i) (by omega) h
    rw [lnLoop]
    split
    · simp
    · split
      · exact lnLoop_ok v s k a (i + 1) h0 (by omega) (by omega)
      · obtain ⟨q1, q2, q3, q4⟩ := lnLoop_ok v s k (i + brkI v s i) (i + brkI v s i) (by omega) (by omega) (by omega)
        refine ⟨fun x hx => ?_, List.pairwise_cons.2 ⟨fun x hx => ?_, q2⟩, by simp only; omega, fun x hx => ?_⟩
        · rcases List.mem_cons.1 hx with rfl | hx
          · exact ⟨Int.le_refl _, okLn_iff.2 ⟨h0, by simp only; omega, by simp only; omega, by simp only; omega⟩, by simp only; omega⟩
          · obtain ⟨r1, r2, r3⟩ := q1 x hx; exact ⟨by omega, r2, r3⟩
        · have := (q1 x hx).1; simp only; omega
        · rcases List.mem_cons.1 hx with rfl | hx
          · simp only; omega
          · exact q4 x hx
theorem linesI_ok (v : Int) (s : ByteArray) : (∀ x ∈ linesI v s, okLn s x.a x.e x.n = true) ∧ (linesI v s).Pairwise (fun x y => x.a < y.a) ∧ (linesI v s).length ≤ s.size := by
  obtain ⟨q1, q2, q3, q4⟩ := lnLoop_ok v s (s.size + 1) 0 0 (by omega) (by omega) (by omega)
  have hl := lnLoop_len v s (s.size + 1) 0 0 (by omega) (by omega) (by omega)
  unfold linesI
  split
  · refine ⟨fun x hx => ?_, List.pairwise_append.2 ⟨q2, by simp, fun x hx y hy => ?_⟩, by simp only [List.length_append, List.length_singleton]; omega⟩
    · rcases List.mem_append.1 hx with hx | hx
      · exact (q1 x hx).2.1
      · obtain rfl := List.mem_singleton.1 hx
        exact okLn_iff.2 ⟨by simp only; omega, by simp only; omega, by simp only; omega, by simp⟩
    · obtain rfl := List.mem_singleton.1 hy
      exact q4 x hx
  · exact ⟨fun x hx => (q1 x hx).2.1, q2, by omega⟩

def plainR (v : Int) (s : ByteArray) (i p : Int) : List UInt8 × Int :=
  if partI v s i false < 0 then ([], -1) else (bytesI s i (partI v s i false) ++ (refF v s p (s.size + 1) (partI v s i false) (linesI v s)).1, (refF v s p (s.size + 1) (partI v s i false) (linesI v s)).2)
def targumref17_Plain.LS : LT := (extL lt0 0 targumref17_Plain.sp0)
theorem targumref17_Plain.LS_mono : LMono targumref17_Plain.LS := (extL_mono lt0_mono targumref17_Plain.spm0)
def targumref17_Plain.s : List Value → Heap → VK → Prop
  | [.int .i64 v, .string s, .int .i64 i, .int .i64 p], h, K => (s.size ≤ 1000000) ∧ K (.tuple #[.string (strOf (plainR v s i p).1), .int .i64 (plainR v s i p).2]) h
  | _, _, _ => False
theorem targumref17_Plain.t (v : Int) (s : ByteArray) (i : Int) (p : Int) (K : VK) : mwp SR (targumref17_Plain.LS) targumref17_Plain.m (retK [.t 8, .t 9] K) (argE 0 [.int .i64 v, .string s, .int .i64 i, .int .i64 p]) (lit []) = (s.size ≤ (1000000 : Nat) ∧ br (decide (partI v s i false < (0 : Int))) (K (Value.tuple #[Value.string (ByteArray.mk #[]), Value.int IntKind.i64 (-1 : Int)]) (Heap.mk (0 : Nat) [])) (((0 : Int) ≤ i ∧ i ≤ partI v s i false ∧ partI v s i false ≤ (↑s.size : Int)) ∧ s.size ≤ (1000000 : Nat) ∧ ∃ (v_1 : Int), ∃ (s_1 : ByteArray), ∃ (p_1 : Int), ∃ (q : ByteArray), ∃ (t : Int), ∃ (e : Int), ∃ (o : List UInt8), ∃ (pre : List Ln), ∃ (rest : List Ln), ∃ (k : Nat), ((0 : Nat) + (List.map (renB (sh (0 : Nat))) [Blk.mk (58 : TypeId) (3 : Nat) (lnsC (linesI v s)) true]).length = (1 : Nat) ∧ In (1 : Nat) (targumref17_Plain.N0 v_1 s_1 p_1 q t e o pre rest k) [Value.int IntKind.i64 v, Value.string s, Value.int IntKind.i64 p, Value.string (ByteArray.mk #[]), Value.int IntKind.i64 (0 : Int), Value.int IntKind.i64 (partI v s i false), Value.string (s.extract i.toNat (partI v s i false).toNat), Value.slice (some (Addr.mk (0 : Nat) (0 : Nat) none)) (linesI v s).length (linesI v s).length] (Heap.mk ((0 : Nat) + (List.map (renB (sh (0 : Nat))) [Blk.mk (58 : TypeId) (3 : Nat) (lnsC (linesI v s)) true]).length) [some (Blk.mk (58 : TypeId) (3 : Nat) (List.map (ren (sh (0 : Nat))) (lnsC (linesI v s))) true)]) ∧ s_1.size ≤ (1000000 : Nat) ∧ (0 : Int) ≤ e ∧ e ≤ (↑s_1.size : Int) ∧ (∀ (x : Ln), x ∈ pre ++ rest → okLn s_1 x.a x.e x.n = true) ∧ (pre ++ rest).length ≤ (1000000 : Nat) ∧ (↑o.length : Int) + ((↑s_1.size : Int) - e) * (3000000 : Int) ≤ (10000000000000 : Int) ∧ List.Pairwise (fun (x y : Ln) => x.a < y.a) (pre ++ rest) ∧ (↑s_1.size : Int) - e < (↑k : Int)) ∧ ∀ (pre' rest' : List Ln), K (Value.tuple #[Value.string (strOf (o ++ (refF v_1 s_1 p_1 k e rest).fst)), Value.int IntKind.i64 (refF v_1 s_1 p_1 k e rest).snd]) (Heap.mk (1 : Nat) [lnsB (pre' ++ rest')]))) := by kernel_rfl
theorem targumref17_Plain.c (v : Int) (s : ByteArray) (i : Int) (p : Int) (h : Heap) (K : VK) (hp : s.size ≤ 1000000) (hh : K (.tuple #[.string (strOf (plainR v s i p).1), .int .i64 (plainR v s i p).2]) h) : ACalls Tryd.prog targumref17_Plain.n [.int .i64 v, .string s, .int .i64 i, .int .i64 p] h K := by
  refine ACalls.alone rfl (acalls_mk SR_ok targumref17_Plain.ok (LS := targumref17_Plain.LS) (by simp only [targumref17_Plain.m, LOk, and_true, true_and]; (repeat' apply And.intro) <;> first | trivial | exact targumref17_Plain.lo2 | exact targumref17_Plain.lo4 | exact targumref17_Plain.lo0) (Nat.le_of_ble_eq_true rfl) (Eq.mpr (targumref17_Plain.t v s i p (fun v _ => ck (cleanT v) (K v h))) ?_))
  unfold plainR at hh
  refine ⟨hp, br_intro (fun hb => ?_) (fun hb => ?_)⟩
  · simp only [decide_eq_true_eq] at hb
    rw [if_pos hb] at hh
    exact hh
  · simp only [decide_eq_false_iff_not] at hb
    rw [if_neg hb] at hh
    have h0 : 0 ≤ i ∧ i < s.size := by
      unfold partI at hb
      split at hb
      · rename_i ho; exact opensI_lt ho
      · omega
    have h1 : i ≤ partI v s i false ∧ partI v s i false ≤ s.size := by
      unfold partI at hb ⊢
      split at hb
      · rename_i ho; rw [if_pos ho]; exact endsI_ok v false h0.1 (by omega)
      · omega
    have hbl := bytesI_len s i (partI v s i false)
    obtain ⟨l1, l2, l3⟩ := linesI_ok v s
    refine ⟨⟨h0.1, h1.1, h1.2⟩, hp, v, s, p, ⟨#[]⟩, 0, partI v s i false, bytesI s i (partI v s i false), [], linesI v s, s.size + 1, ⟨rfl, .inl ⟨?_, ?_⟩, hp, by omega, by omega, l1, by rw [List.nil_append]; omega, by omega, l2, by omega⟩, fun pre' rest' => hh⟩
    · rw [ext_strOf s h0.1 h1.1]; rfl
    · rw [map_ren_flat (lnsC_flat _)]; rfl
theorem targumref17_Plain.sc : ∀ vs h K, targumref17_Plain.s vs h K → ACalls Tryd.prog targumref17_Plain.n vs h K := by
  intro vs h K hh; unfold targumref17_Plain.s at hh; split at hh
  · exact targumref17_Plain.c _ _ _ _ _ _ hh.1 hh.2
  · exact hh.elim
theorem targumref17_Plain.sm : SpecMono targumref17_Plain.s := by
  intro vs h K K' hk hh; unfold targumref17_Plain.s at hh ⊢; split at hh
  · exact ⟨hh.1, hk _ _ hh.2⟩
  · exact hh.elim
theorem targumref17_Plain.sd : SpecDet targumref17_Plain.s := by
  intro vs h K hh; unfold targumref17_Plain.s at hh; split at hh
  · exact ⟨_, hh.2, hh.1, rfl⟩
  · exact hh.elim

end Go.Mini
