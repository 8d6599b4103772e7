/- Lines: where they end, stops, remarks, what stands for breaks. Conditions: sizes. -/
import Derived.Test.YthllhoodbfnlaaaDoorStrs
namespace Go.Mini
open Go Go.RowKit Go.Proofs
set_option maxRecDepth 100000
set_option linter.unusedVariables false
set_option linter.unusedSimpArgs false

theorem kh {K : LK} {x : Exit} {vs : List Value} {h h' : Heap} (hK : K x vs h) (e : h = h') : K x vs h' := e ▸ hK
theorem kv1 {K : VK} {v v' : Value} {h : Heap} (hh : K v h) (e : v = v') (hc : cleanT v' = true) : K v' h := e ▸ hh

/-! ### The end of a line -/
def eol (old : Bool) : List UInt8 → Nat
  | [] => 0
  | c :: l => if 0 < brkL old (c :: l) then 0 else eol old l + 1
theorem eol_le (old : Bool) : ∀ l : List UInt8, eol old l ≤ l.length
  | [] => Nat.le_refl _
  | c :: l => by unfold eol; split; simp; have := eol_le old l; simp; omega
def endI (v : Int) (s : ByteArray) (i : Int) : Int := i + eol (decide (v = 11)) ((lst s).drop i.toNat)
theorem endI_stop {v : Int} {s : ByteArray} {i : Int} (h0 : 0 ≤ i) (h : s.size ≤ i ∨ 0 < brkI v s i) : endI v s i = i := by
  unfold endI
  unfold brkI at h
  rw [if_pos h0] at h
  rcases Nat.lt_or_ge i.toNat s.size with h1 | h1
  · rcases h with h | h
    · omega
    · rw [drop_lt h1] at h ⊢
      rw [eol, if_pos (by omega)]
      omega
  · rw [drop_ge h1]; simp [eol]
theorem endI_next {v : Int} {s : ByteArray} {i : Int} (h0 : 0 ≤ i) (h1 : i < s.size) (h : ¬ 0 < brkI v s i) : endI v s (i + 1) = endI v s i := by
  unfold endI
  unfold brkI at h
  rw [if_pos h0] at h
  rw [drop_lt (n := i.toNat) (by omega)] at h ⊢
  rw [eol, if_neg (by omega), show (i + 1).toNat = i.toNat + 1 from by omega]
  omega
theorem endI_le (v : Int) {s : ByteArray} {i : Int} (h0 : 0 ≤ i) (h1 : i ≤ s.size) : endI v s i ≤ s.size := by
  unfold endI
  have := eol_le (decide (v = 11)) ((lst s).drop i.toNat)
  rw [List.length_drop, Array.length_toList] at this
  have : s.data.size = s.size := rfl
  omega
theorem endI_ge (v : Int) (s : ByteArray) (i : Int) : i ≤ endI v s i := by unfold endI; omega

abbrev TL : Nat := 51
theorem brkL_le (old : Bool) (l : List UInt8) : brkL old l ≤ 3 := by
  cases l with
  | nil => simp [brkL]
  | cons c l =>
    cases old with
    | true =>
      rw [brk_cases_old]
      repeat' split
      all_goals omega
    | false =>
      rw [brk_cases_new]
      repeat' split
      all_goals omega
theorem brkI_le (v : Int) (s : ByteArray) (i : Int) : brkI v s i ≤ 3 := by
  unfold brkI
  split
  · have := brkL_le (decide (v = 11)) ((lst s).drop i.toNat); omega
  · omega
theorem brkI_nn (v : Int) (s : ByteArray) (i : Int) : 0 ≤ brkI v s i := by unfold brkI; split <;> omega
/-! ### Signs, stops, remarks, what stands for breaks -/
def signB (c : UInt8) : Bool := [44, 91, 93, 123, 125].contains c
def stopI (v : Int) (s : ByteArray) (i : Int) (flow : Bool) : Bool := decide (s.size ≤ i) || blankI s i || decide (0 < brkI v s i) || (flow && signB (byteAt s i.toNat))
def remI (s : ByteArray) (i : Int) : Bool := decide (0 ≤ i) && decide (byteAt s i.toNat = 35) && blankI s (i - 1)
def foldedL (n : Int) : List UInt8 := if n = 1 then [32] else List.replicate (n - 1).toNat 10
theorem idx_ge (l : List UInt8) (c : UInt8) : decide (0 ≤ idxB ⟨l.toArray⟩ (c.toNat : Int)) = l.contains c := by
  rw [Bool.eq_iff_iff, decide_eq_true_eq, idxB, indexByte_mem]
  simp
/-! ### What a line says -/
def okLn (s : ByteArray) (a e n : Int) : Bool := decide (0 ≤ a ∧ a ≤ e ∧ e ≤ n ∧ n ≤ s.size)
def saysL (s : ByteArray) (a e n : Int) : List UInt8 := if okLn s a e n = true then ((lst s).drop a.toNat).take (e.toNat - a.toNat) else []
def saysS (s : ByteArray) (a e n : Int) : ByteArray := strOf (saysL s a e n)
def spc : List UInt8 → Nat
  | [] => 0
  | c :: l => if c = 32 then spc l + 1 else 0
def indI (s : ByteArray) (a e n : Int) : Int := spc (saysL s a e n)
def blnI (s : ByteArray) (a e n : Int) : Bool := okLn s a e n && (saysL s a e n).all isBl
def mrkL (t : List UInt8) : Int := if (decide (3 < t.length) && !isBl (t.getD 3 0)) = true then 0 else if List.isPrefixOf [45, 45, 45] t then 1 else if List.isPrefixOf [46, 46, 46] t then 2 else 0
def mrkI (s : ByteArray) (a e n : Int) : Int := mrkL (saysL s a e n)

def SE : CT := (extC (extC (extC (extC SD strings_IndexByte.n strings_IndexByte.s) strings_TrimLeft.n strings_TrimLeft.s) strings_Trim.n strings_Trim.s) strings_Repeat.n strings_Repeat.s)
theorem SE_ok : COk Tryd.prog SE := (extC_ok (extC_ok (extC_ok (extC_ok SD_ok strings_IndexByte.sc strings_IndexByte.sd) strings_TrimLeft.sc strings_TrimLeft.sd) strings_Trim.sc strings_Trim.sd) strings_Repeat.sc strings_Repeat.sd)
theorem SE_mono : CMono SE := (extC_mono (extC_mono (extC_mono (extC_mono SD_mono strings_IndexByte.sm) strings_TrimLeft.sm) strings_Trim.sm) strings_Repeat.sm)

abbrev lnB (a e n : Int) : Option Blk := some ⟨TL, 3, [.int .i64 a, .int .i64 e, .int .i64 n], true⟩
abbrev lnV (a e n : Int) : Value := .agg #[.int .i64 a, .int .i64 e, .int .i64 n]

theorem spc_le : ∀ l : List UInt8, spc l ≤ l.length
  | [] => Nat.le_refl _
  | c :: l => by unfold spc; split; simp; exact spc_le l; simp
theorem trimLeft_spc (l : List UInt8) : (l.length : Int) - (Lib.trimLeftB l 32).length = spc l := by
  induction l with
  | nil => rfl
  | cons c l ih =>
    unfold spc Lib.trimLeftB
    unfold Lib.trimLeftB at ih
    by_cases h : c = 32
    · rw [if_pos h, List.dropWhile_cons_of_pos (by simpa using h), List.length_cons]
      omega
    · rw [if_neg h, List.dropWhile_cons_of_neg (by simpa using h)]
      simp
theorem isBl_set (b : UInt8) : (lst (ByteArray.mk #[32, 9])).contains b = isBl b := by
  rw [Bool.eq_iff_iff]
  unfold isBl
  simp only [lst, List.contains_iff_mem, List.mem_cons, List.not_mem_nil, or_false, Bool.or_eq_true, decide_eq_true_eq]
  constructor
  · rintro (rfl | rfl)
    · exact .inl rfl
    · exact .inr rfl
  · rintro (h | h)
    · exact .inl (UInt8.toNat_inj.1 (show b.toNat = 32 by omega))
    · exact .inr (UInt8.toNat_inj.1 (show b.toNat = 9 by omega))
theorem dropWhile_nil {p : UInt8 → Bool} : ∀ l : List UInt8, l.dropWhile p = [] ↔ l.all p = true
  | [] => by simp
  | c :: l => by
    cases h : p c with
    | true => rw [List.dropWhile_cons_of_pos h, dropWhile_nil l]; simp [h]
    | false => rw [List.dropWhile_cons_of_neg (by simp [h])]; simp [h]
theorem trim_blank (l : List UInt8) : decide (strOf (Lib.trimS l (lst (ByteArray.mk #[32, 9]))) = ByteArray.mk #[]) = l.all isBl := by
  rw [Bool.eq_iff_iff, decide_eq_true_eq]
  have e : strOf (Lib.trimS l (lst (ByteArray.mk #[32, 9]))) = ByteArray.mk #[] ↔ Lib.trimS l (lst (ByteArray.mk #[32, 9])) = [] := by
    constructor
    · intro h
      have := congrArg lst h
      rw [lst_strOf] at this
      exact this
    · intro h; rw [h]; rfl
  rw [e]
  unfold Lib.trimS Lib.trimLeftS Lib.trimRightS
  rw [dropWhile_nil]
  have hp : (fun x => (lst (ByteArray.mk #[32, 9])).contains x) = isBl := funext isBl_set
  rw [hp]
  constructor
  · intro h
    rw [List.all_reverse] at h
    cases hd : l.reverse.dropWhile isBl with
    | nil =>
      have := (dropWhile_nil (p := isBl) l.reverse).1 hd
      rwa [List.all_reverse] at this
    | cons c m =>
      exfalso
      rw [hd] at h
      have h2 := List.head_dropWhile_not (p := isBl) (l := l.reverse) (w := by rw [hd]; simp)
      simp only [hd, List.head_cons] at h2
      simp only [List.all_cons, Bool.and_eq_true] at h
      rw [h.1] at h2
      cases h2
  · intro h
    have : l.reverse.dropWhile isBl = [] := (dropWhile_nil _).2 (by rwa [List.all_reverse])
    rw [this]
    rfl
theorem saysL_len (s : ByteArray) (a e n : Int) : (saysL s a e n).length ≤ s.size := by
  unfold saysL
  split
  · rw [List.length_take, List.length_drop, Array.length_toList]
    have : s.data.size = s.size := rfl
    omega
  · simp

def rows_Line.sp0 : LSpec := ⟨rows_Line.cs0, rows_Line.ts0, fun vs h K => match vs, h.g 1 with
  | [.int .i64 v, .string s, .pointer (some ⟨1, 0, none⟩)], some ⟨_, _, [.int .i64 i, .int .i64 e, _], _⟩ => h = lit [lnB 0 0 0, lnB i e 0] ∧ (s.size ≤ 1000000 ∧ 0 ≤ e ∧ e ≤ 1000000) ∧ (K (.exit 0) [.int .i64 v, .string s, .pointer (some ⟨1, 0, none⟩)] (lit [lnB 0 0 0, lnB i (endI v s e) 0]))
  | _, _ => False⟩
theorem rows_Line.spm0 : LSpecMono rows_Line.sp0 := by
  intro vs h K K' hk hh; unfold rows_Line.sp0 at hh ⊢; dsimp only at hh ⊢; split at hh
  · obtain ⟨h2, h3, h4⟩ := hh; exact ⟨h2, h3, hk _ _ _ h4⟩
  · exact hh.elim
theorem rows_Line.t0 (v : Int) (s : ByteArray) (i : Int) (e : Int) (E : Env) (N : List Value → Heap → Prop) (K : LK) : mwp SE (lt0) rows_Line.l0 (lK rows_Line.cs0 N K) (zipE rows_Line.cs0 [.int .i64 v, .string s, .pointer (some ⟨1, 0, none⟩)] ++ E) (lit [lnB 0 0 0, lnB i e 0]) = (br (decide (e < (↑s.size : Int))) (br (decide (brkI v s e = (0 : Int))) (rng IntKind.i64 (e + (1 : Int)) ∧ N [Value.int IntKind.i64 v, Value.string s, Value.pointer (some (Addr.mk (1 : Nat) (0 : Nat) none))] (Heap.mk (2 : Nat) [lnB (0 : Int) (0 : Int) (0 : Int), some (Blk.mk TL (3 : Nat) ([Value.int IntKind.i64 i] ++ [Value.int IntKind.i64 (e + (1 : Int))] ++ [Value.int IntKind.i64 (0 : Int)]) true)])) (K (Exit.exit (0 : Nat)) [Value.int IntKind.i64 v, Value.string s, Value.pointer (some (Addr.mk (1 : Nat) (0 : Nat) none))] (Heap.mk (2 : Nat) [lnB (0 : Int) (0 : Int) (0 : Int), lnB i e (0 : Int)]))) (K (Exit.exit (0 : Nat)) [Value.int IntKind.i64 v, Value.string s, Value.pointer (some (Addr.mk (1 : Nat) (0 : Nat) none))] (Heap.mk (2 : Nat) [lnB (0 : Int) (0 : Int) (0 : Int), lnB i e (0 : Int)]))) := by kernel_rfl
theorem rows_Line.lo0 : LOk1 Tryd.prog rows_Line.nt rows_Line.sp0 (.loop 0 rows_Line.l0) := by
  refine loop_resC (σ := Int × ByteArray × Int × Int) SE_ok SE_mono (lt0_mono) (LS := lt0) (by simp only [rows_Line.l0, LOk, and_true, true_and]) rfl rfl (fun ⟨v, s, i, e⟩ => [.int .i64 v, .string s, .pointer (some ⟨1, 0, none⟩)]) (fun ⟨v, s, i, e⟩ => lit [lnB 0 0 0, lnB i e 0]) (fun ⟨v, s, i, e⟩ => s.size ≤ 1000000 ∧ 0 ≤ e ∧ e ≤ 1000000) (fun ⟨v, s, i, e⟩ => (s.size - e).toNat) 2 (fun ⟨v, s, i, e⟩ K => K (.exit 0) [.int .i64 v, .string s, .pointer (some ⟨1, 0, none⟩)] (lit [lnB 0 0 0, lnB i (endI v s e) 0])) ?_ ?_
  · intro vs h K hh; unfold rows_Line.sp0 at hh; dsimp only at hh; split at hh
    · obtain ⟨h2, hp, hr⟩ := hh
      exact ⟨h2 ▸ rfl, (_, _, _, _), .inl ⟨rfl, h2⟩, hp, hr⟩
    · exact hh.elim
  rintro ⟨v, s, i, e⟩ E N K hE hp hN hK
  dsimp only at hp hN hK
  refine Eq.mpr (rows_Line.t0 v s i e E N (fun x => In 2 (K x))) ?_
  refine br_intro (fun hb => ?_) (fun hb => ?_)
  · simp only [decide_eq_true_eq] at hb
    refine br_intro (fun hc => ?_) (fun hc => ?_)
    · simp only [decide_eq_true_eq] at hc
      refine ⟨by simp only [rng]; omega, hN (v, s, i, e + 1) _ _ ⟨hp.1, by dsimp only; omega⟩ (by dsimp only; omega) ?_ (.inl ⟨rfl, ?_⟩)⟩
      · dsimp only
        rw [endI_next hp.2.1 hb (by omega)]
        exact hK
      · rfl
    · simp only [decide_eq_false_iff_not] at hc
      rw [endI_stop hp.2.1 (.inr (by have := brkI_nn v s e; omega))] at hK
      exact .inl hK
  · simp only [decide_eq_false_iff_not] at hb
    rw [endI_stop hp.2.1 (.inl (by omega))] at hK
    exact .inl hK

def rows_Line.LS : LT := (extL lt0 0 rows_Line.sp0)
theorem rows_Line.LS_mono : LMono rows_Line.LS := (extL_mono lt0_mono rows_Line.spm0)
def rows_Line.s : List Value → Heap → VK → Prop
  | [.int .i64 v, .string s, .int .i64 i], h, K => (s.size ≤ 1000000 ∧ 0 ≤ i ∧ i ≤ 1000000) ∧ K (lnV i (endI v s i) (endI v s i + brkI v s (endI v s i))) h
  | _, _, _ => False
theorem rows_Line.t (v : Int) (s : ByteArray) (i : Int) (K : VK) : mwp SE (rows_Line.LS) rows_Line.m (retK [.v 6 (some 3)] K) (argE 0 [.int .i64 v, .string s, .int .i64 i]) (lit []) = (Heap.mk (2 : Nat) [some (Blk.mk (51 : Nat) (3 : Nat) [Value.int IntKind.i64 (0 : Int), Value.int IntKind.i64 (0 : Int), Value.int IntKind.i64 (0 : Int)] true), some (Blk.mk (51 : Nat) (3 : Nat) ([] ++ [Value.int IntKind.i64 i, Value.int IntKind.i64 i, Value.int IntKind.i64 (0 : Int)] ++ []) true)] = Heap.mk (2 : Nat) [lnB (0 : Int) (0 : Int) (0 : Int), lnB i i (0 : Int)] ∧ (s.size ≤ (1000000 : Nat) ∧ (0 : Int) ≤ i ∧ i ≤ (1000000 : Int)) ∧ rng IntKind.i64 (endI v s i + brkI v s (endI v s i)) ∧ K (Value.agg #[Value.int IntKind.i64 i, Value.int IntKind.i64 (endI v s i), Value.int IntKind.i64 (endI v s i + brkI v s (endI v s i))]) (Heap.mk (2 : Nat) [some (Blk.mk TL (3 : Nat) ([] ++ [Value.int IntKind.i64 i, Value.int IntKind.i64 (endI v s i), Value.int IntKind.i64 (endI v s i + brkI v s (endI v s i))] ++ []) true), some (Blk.mk TL (3 : Nat) ([Value.int IntKind.i64 i, Value.int IntKind.i64 (endI v s i)] ++ [Value.int IntKind.i64 (endI v s i + brkI v s (endI v s i))] ++ []) true)])) := by kernel_rfl
theorem rows_Line.c (v : Int) (s : ByteArray) (i : Int) (h : Heap) (K : VK) (hp : s.size ≤ 1000000 ∧ 0 ≤ i ∧ i ≤ 1000000) (hh : K (lnV i (endI v s i) (endI v s i + brkI v s (endI v s i))) h) : ACalls Tryd.prog rows_Line.n [.int .i64 v, .string s, .int .i64 i] h K := by
  refine ACalls.alone rfl (acalls_mk SE_ok rows_Line.ok (LS := rows_Line.LS) (by simp only [rows_Line.m, LOk, and_true, true_and]; (repeat' apply And.intro) <;> first | trivial | exact rows_Line.lo0) (Nat.le_of_ble_eq_true rfl) (Eq.mpr (rows_Line.t v s i (fun v _ => ck (cleanT v) (K v h))) ?_))
  have h1 := endI_ge v s i
  have h2 : endI v s i ≤ 1000000 := by
    rcases Int.lt_or_le s.size i with h3 | h3
    · rw [endI_stop hp.2.1 (.inl (by omega))]; exact hp.2.2
    · have := endI_le v hp.2.1 h3; omega
  have h3 := brkI_nn v s (endI v s i)
  have h4 := brkI_le v s (endI v s i)
  repeat' refine And.intro ?_ ?_
  all_goals first
    | rfl
    | exact hh
    | (simp only [rng]; omega)
    | omega
    | (simp; done)
theorem rows_Line.sc : ∀ vs h K, rows_Line.s vs h K → ACalls Tryd.prog rows_Line.n vs h K := by
  intro vs h K hh; unfold rows_Line.s at hh; split at hh
  · exact rows_Line.c _ _ _ _ _ hh.1 hh.2
  · exact hh.elim
theorem rows_Line.sm : SpecMono rows_Line.s := by
  intro vs h K K' hk hh; unfold rows_Line.s at hh ⊢; split at hh
  · exact ⟨hh.1, hk _ _ hh.2⟩
  · exact hh.elim
theorem rows_Line.sd : SpecDet rows_Line.s := by
  intro vs h K hh; unfold rows_Line.s at hh; split at hh
  · exact ⟨_, hh.2, hh.1, rfl⟩
  · exact hh.elim


def rows_Remark.s : List Value → Heap → VK → Prop
  | [.string s, .int .i64 i], h, K => (s.size ≤ 1000000) ∧ K (.bool (remI s i)) h
  | _, _, _ => False
theorem rows_Remark.t (s : ByteArray) (i : Int) (h : Heap) (K : VK) : mwp SE (lt0) rows_Remark.m (retK [.t 4] K) (argE 0 [.string s, .int .i64 i]) h = (br (decide ((0 : Int) ≤ i)) (br (decide (i < (↑s.size : Int))) (((0 : Int) ≤ i ∧ i < (↑s.size : Int)) ∧ br (decide ((↑(byteAt s i.toNat).toNat : Int) = (35 : Int))) (rng IntKind.i64 (i - (1 : Int)) ∧ K (Value.bool (blankI s (i - (1 : Int)))) h) (K (Value.bool false) h)) (K (Value.bool false) h)) (K (Value.bool false) h)) := by kernel_rfl
theorem rows_Remark.c (s : ByteArray) (i : Int) (h : Heap) (K : VK) (hp : s.size ≤ 1000000) (hh : K (.bool (remI s i)) h) : ACalls Tryd.prog rows_Remark.n [.string s, .int .i64 i] h K := by
  refine acalls_mk SE_ok rows_Remark.ok (LS := lt0) (by simp only [rows_Remark.m, LOk, and_true, true_and]) (Nat.le_of_ble_eq_true rfl) (Eq.mpr (rows_Remark.t s i h K) ?_)
  have ho : ¬ i < s.size → byteAt s i.toNat = 0 := fun h1 => byteAt_out (by omega)
  unfold remI at hh
  refine br_intro (fun h1 => ?_) (fun h1 => ?_)
  · rw [h1, Bool.true_and] at hh
    simp only [decide_eq_true_eq] at h1
    refine br_intro (fun h2 => ?_) (fun h2 => ?_)
    · simp only [decide_eq_true_eq] at h2
      refine ⟨⟨h1, h2⟩, br_intro (fun h3 => ?_) (fun h3 => ?_)⟩
      · have e : byteAt s i.toNat = 35 := UInt8.toNat_inj.1 (by simp only [decide_eq_true_eq] at h3; exact Int.ofNat.inj h3)
        rw [e] at hh
        exact ⟨by simp only [rng]; omega, hh⟩
      · refine kbool hh ?_
        have e : ¬ byteAt s i.toNat = 35 := fun e => by rw [e] at h3; exact absurd h3 (by decide)
        rw [decide_eq_false e, Bool.false_and]
    · simp only [decide_eq_false_iff_not] at h2
      rw [ho h2] at hh
      exact hh
  · rw [h1, Bool.false_and, Bool.false_and] at hh; exact hh
theorem rows_Remark.sc : ∀ vs h K, rows_Remark.s vs h K → ACalls Tryd.prog rows_Remark.n vs h K := by
  intro vs h K hh; unfold rows_Remark.s at hh; split at hh
  · exact rows_Remark.c _ _ _ _ hh.1 hh.2
  · exact hh.elim
theorem rows_Remark.sm : SpecMono rows_Remark.s := by
  intro vs h K K' hk hh; unfold rows_Remark.s at hh ⊢; split at hh
  · exact ⟨hh.1, hk _ _ hh.2⟩
  · exact hh.elim
theorem rows_Remark.sd : SpecDet rows_Remark.s := by
  intro vs h K hh; unfold rows_Remark.s at hh; split at hh
  · exact ⟨_, hh.2, hh.1, rfl⟩
  · exact hh.elim

def rows_Folded.s : List Value → Heap → VK → Prop
  | [.int .i64 n], h, K => (-1000000 ≤ n ∧ n ≤ 1000000) ∧ K (.string (strOf (foldedL n))) h
  | _, _, _ => False
theorem rows_Folded.t (n : Int) (h : Heap) (K : VK) : mwp SE (lt0) rows_Folded.m (retK [.t 2] K) (argE 0 [.int .i64 n]) h = (br (decide (n = (1 : Int))) (K (Value.string (ByteArray.mk #[(32 : UInt8)])) h) (rng IntKind.i64 (n - (1 : Int)) ∧ ((0 : Int) ≤ max (n - (1 : Int)) (0 : Int) ∧ max (n - (1 : Int)) (0 : Int) ≤ (1000000 : Int) ∧ (ByteArray.mk #[(10 : UInt8)]).size ≤ (1000000 : Nat)) ∧ K (Value.string (strOf (Lib.repeatL (lst (ByteArray.mk #[(10 : UInt8)])) (max (n - (1 : Int)) (0 : Int)).toNat))) h)) := by kernel_rfl
theorem rows_Folded.c (n : Int) (h : Heap) (K : VK) (hp : -1000000 ≤ n ∧ n ≤ 1000000) (hh : K (.string (strOf (foldedL n))) h) : ACalls Tryd.prog rows_Folded.n [.int .i64 n] h K := by
  refine acalls_mk SE_ok rows_Folded.ok (LS := lt0) (by simp only [rows_Folded.m, LOk, and_true, true_and]) (Nat.le_of_ble_eq_true rfl) (Eq.mpr (rows_Folded.t n h K) ?_)
  unfold foldedL at hh
  refine br_intro (fun h1 => ?_) (fun h1 => ?_)
  · simp only [decide_eq_true_eq] at h1
    rw [if_pos h1] at hh
    exact hh
  · simp only [decide_eq_false_iff_not] at h1
    rw [if_neg h1] at hh
    refine ⟨by simp only [rng]; omega, ⟨by omega, by omega, by decide⟩, ?_⟩
    have e : ∀ k : Nat, Lib.repeatL [10] k = List.replicate k 10 := fun k => by
      induction k with
      | zero => rfl
      | succ k ih => rw [Lib.repeatL, ih]; rfl
    rw [show lst (ByteArray.mk #[10]) = [10] from rfl, e, show (max (n - 1) 0).toNat = (n - 1).toNat from by omega]
    exact hh
theorem rows_Folded.sc : ∀ vs h K, rows_Folded.s vs h K → ACalls Tryd.prog rows_Folded.n vs h K := by
  intro vs h K hh; unfold rows_Folded.s at hh; split at hh
  · exact rows_Folded.c _ _ _ hh.1 hh.2
  · exact hh.elim
theorem rows_Folded.sm : SpecMono rows_Folded.s := by
  intro vs h K K' hk hh; unfold rows_Folded.s at hh ⊢; split at hh
  · exact ⟨hh.1, hk _ _ hh.2⟩
  · exact hh.elim
theorem rows_Folded.sd : SpecDet rows_Folded.s := by
  intro vs h K hh; unfold rows_Folded.s at hh; split at hh
  · exact ⟨_, hh.2, hh.1, rfl⟩
  · exact hh.elim

/-! ### A line, told -/
def brk_says.s : List Value → Heap → VK → Prop
  | [.string s, .agg ⟨[.int .i64 a, .int .i64 e, .int .i64 n]⟩], h, K => K (.tuple #[.string (saysS s a e n), .bool (okLn s a e n)]) h
  | _, _, _ => False
theorem brk_says.t (s : ByteArray) (a e n : Int) (K : VK) : mwp SE (lt0) brk_says.m (retK [.t 4, .t 5] K) (argE 0 [.string s, .agg #[.int .i64 a, .int .i64 e, .int .i64 n]]) (lit []) = (br (decide (a < (0 : Int))) (K (Value.tuple #[Value.string (ByteArray.mk #[]), Value.bool false]) (Heap.mk (1 : Nat) [some (Blk.mk (51 : Nat) (3 : Nat) [Value.int IntKind.i64 a, Value.int IntKind.i64 e, Value.int IntKind.i64 n] true)])) (br (decide (e < a)) (K (Value.tuple #[Value.string (ByteArray.mk #[]), Value.bool false]) (Heap.mk (1 : Nat) [some (Blk.mk (51 : Nat) (3 : Nat) [Value.int IntKind.i64 a, Value.int IntKind.i64 e, Value.int IntKind.i64 n] true)])) (br (decide (n < e)) (K (Value.tuple #[Value.string (ByteArray.mk #[]), Value.bool false]) (Heap.mk (1 : Nat) [some (Blk.mk (51 : Nat) (3 : Nat) [Value.int IntKind.i64 a, Value.int IntKind.i64 e, Value.int IntKind.i64 n] true)])) (br (decide ((↑s.size : Int) < n)) (K (Value.tuple #[Value.string (ByteArray.mk #[]), Value.bool false]) (Heap.mk (1 : Nat) [some (Blk.mk (51 : Nat) (3 : Nat) [Value.int IntKind.i64 a, Value.int IntKind.i64 e, Value.int IntKind.i64 n] true)])) (((0 : Int) ≤ a ∧ a ≤ e ∧ e ≤ (↑s.size : Int)) ∧ K (Value.tuple #[Value.string (s.extract a.toNat e.toNat), Value.bool true]) (Heap.mk (1 : Nat) [some (Blk.mk (51 : Nat) (3 : Nat) [Value.int IntKind.i64 a, Value.int IntKind.i64 e, Value.int IntKind.i64 n] true)])))))) := by kernel_rfl
theorem brk_says.c (s : ByteArray) (a e n : Int) (h : Heap) (K : VK) (hh : K (.tuple #[.string (saysS s a e n), .bool (okLn s a e n)]) h) : ACalls Tryd.prog brk_says.n [.string s, .agg #[.int .i64 a, .int .i64 e, .int .i64 n]] h K := by
  refine ACalls.alone rfl (acalls_mk SE_ok brk_says.ok (LS := lt0) (by simp only [brk_says.m, LOk, and_true, true_and]) (Nat.le_of_ble_eq_true rfl) (Eq.mpr (brk_says.t s a e n (fun v _ => ck (cleanT v) (K v h))) ?_))
  have no : okLn s a e n = false → K (.tuple #[.string ⟨#[]⟩, .bool false]) h := fun h1 => by
    unfold saysS saysL at hh
    rw [h1] at hh
    exact hh
  refine br_intro (fun h1 => ?_) (fun h1 => ?_)
  · exact no (by unfold okLn; simp only [decide_eq_true_eq] at h1; rw [decide_eq_false_iff_not]; omega)
  refine br_intro (fun h2 => ?_) (fun h2 => ?_)
  · exact no (by unfold okLn; simp only [decide_eq_true_eq] at h2; rw [decide_eq_false_iff_not]; omega)
  refine br_intro (fun h3 => ?_) (fun h3 => ?_)
  · exact no (by unfold okLn; simp only [decide_eq_true_eq] at h3; rw [decide_eq_false_iff_not]; omega)
  refine br_intro (fun h4 => ?_) (fun h4 => ?_)
  · exact no (by unfold okLn; simp only [decide_eq_true_eq] at h4; rw [decide_eq_false_iff_not]; omega)
  simp only [decide_eq_false_iff_not] at h1 h2 h3 h4
  have ok : okLn s a e n = true := by unfold okLn; rw [decide_eq_true_eq]; omega
  refine ⟨by omega, ?_⟩
  have e1 : saysS s a e n = s.extract a.toNat e.toNat := by
    unfold saysS saysL
    rw [if_pos ok, ← lst_ext, strOf_lst]
  rw [e1, ok] at hh
  exact hh
theorem brk_says.sc : ∀ vs h K, brk_says.s vs h K → ACalls Tryd.prog brk_says.n vs h K := by
  intro vs h K hh; unfold brk_says.s at hh; split at hh
  · exact brk_says.c _ _ _ _ _ _ hh
  · exact hh.elim
theorem brk_says.sm : SpecMono brk_says.s := by
  intro vs h K K' hk hh; unfold brk_says.s at hh ⊢; split at hh
  · exact hk _ _ hh
  · exact hh.elim
theorem brk_says.sd : SpecDet brk_says.s := by
  intro vs h K hh; unfold brk_says.s at hh; split at hh
  · exact ⟨_, hh, rfl⟩
  · exact hh.elim

def SF : CT := (extC (extC (extC (extC SE rows_Line.n rows_Line.s) rows_Remark.n rows_Remark.s) rows_Folded.n rows_Folded.s) brk_says.n brk_says.s)
theorem SF_ok : COk Tryd.prog SF := (extC_ok (extC_ok (extC_ok (extC_ok SE_ok rows_Line.sc rows_Line.sd) rows_Remark.sc rows_Remark.sd) rows_Folded.sc rows_Folded.sd) brk_says.sc brk_says.sd)
theorem SF_mono : CMono SF := (extC_mono (extC_mono (extC_mono (extC_mono SE_mono rows_Line.sm) rows_Remark.sm) rows_Folded.sm) brk_says.sm)
def brk_Indent.s : List Value → Heap → VK → Prop
  | [.string s, .agg ⟨[.int .i64 a, .int .i64 e, .int .i64 n]⟩], h, K => (s.size ≤ 1000000) ∧ K (.int .i64 (indI s a e n)) h
  | _, _, _ => False
theorem brk_Indent.t (s : ByteArray) (a e n : Int) (K : VK) : mwp SF (lt0) brk_Indent.m (retK [.t 4] K) (argE 0 [.string s, .agg #[.int .i64 a, .int .i64 e, .int .i64 n]]) (lit []) = (ByteArray.mk #[(32 : UInt8)] = ByteArray.mk #[(32 : UInt8)] ∧ rng IntKind.i64 ((↑(saysS s a e n).size : Int) - (↑(strOf (Lib.trimLeftB (lst (saysS s a e n)) (32 : UInt8))).size : Int)) ∧ K (Value.int IntKind.i64 ((↑(saysS s a e n).size : Int) - (↑(strOf (Lib.trimLeftB (lst (saysS s a e n)) (32 : UInt8))).size : Int))) (Heap.mk (1 : Nat) [some (Blk.mk (51 : Nat) (3 : Nat) [Value.int IntKind.i64 a, Value.int IntKind.i64 e, Value.int IntKind.i64 n] true)])) := by kernel_rfl
theorem brk_Indent.c (s : ByteArray) (a e n : Int) (h : Heap) (K : VK) (hp : s.size ≤ 1000000) (hh : K (.int .i64 (indI s a e n)) h) : ACalls Tryd.prog brk_Indent.n [.string s, .agg #[.int .i64 a, .int .i64 e, .int .i64 n]] h K := by
  refine ACalls.alone rfl (acalls_mk SF_ok brk_Indent.ok (LS := lt0) (by simp only [brk_Indent.m, LOk, and_true, true_and]) (Nat.le_of_ble_eq_true rfl) (Eq.mpr (brk_Indent.t s a e n (fun v _ => ck (cleanT v) (K v h))) ?_))
  refine ⟨rfl, ?_⟩
  have e1 : ((saysS s a e n).size : Int) - (strOf (Lib.trimLeftB (lst (saysS s a e n)) 32)).size = indI s a e n := by
    unfold indI saysS
    rw [lst_strOf, strOf_size, strOf_size]
    exact trimLeft_spc _
  have h1 : (saysS s a e n).size ≤ 1000000 := by
    unfold saysS; rw [strOf_size]
    have := saysL_len s a e n
    omega
  have h2 := spc_le (saysL s a e n)
  have h3 : (saysL s a e n).length = (saysS s a e n).size := by unfold saysS; rw [strOf_size]
  rw [e1]
  exact ⟨by unfold indI; simp only [rng]; omega, hh⟩
theorem brk_Indent.sc : ∀ vs h K, brk_Indent.s vs h K → ACalls Tryd.prog brk_Indent.n vs h K := by
  intro vs h K hh; unfold brk_Indent.s at hh; split at hh
  · exact brk_Indent.c _ _ _ _ _ _ hh.1 hh.2
  · exact hh.elim
theorem brk_Indent.sm : SpecMono brk_Indent.s := by
  intro vs h K K' hk hh; unfold brk_Indent.s at hh ⊢; split at hh
  · exact ⟨hh.1, hk _ _ hh.2⟩
  · exact hh.elim
theorem brk_Indent.sd : SpecDet brk_Indent.s := by
  intro vs h K hh; unfold brk_Indent.s at hh; split at hh
  · exact ⟨_, hh.2, hh.1, rfl⟩
  · exact hh.elim


def brk_Marker.s : List Value → Heap → VK → Prop
  | [.string s, .agg ⟨[.int .i64 a, .int .i64 e, .int .i64 n]⟩], h, K => (s.size ≤ 1000000) ∧ K (.int .i64 (mrkI s a e n)) h
  | _, _, _ => False
theorem brk_Marker.t (s : ByteArray) (a e n : Int) (K : VK) : mwp SF (lt0) brk_Marker.m (retK [.t 4] K) (argE 0 [.string s, .agg #[.int .i64 a, .int .i64 e, .int .i64 n]]) (lit []) = (br (decide ((3 : Int) < (↑(saysS s a e n).size : Int))) (((0 : Int) ≤ (3 : Int) ∧ (3 : Int) < (↑(saysS s a e n).size : Int)) ∧ br (!decide ((↑(byteAt (saysS s a e n) (Int.toNat (3 : Int))).toNat : Int) = (32 : Int))) (((0 : Int) ≤ (3 : Int) ∧ (3 : Int) < (↑(saysS s a e n).size : Int)) ∧ br (!decide ((↑(byteAt (saysS s a e n) (Int.toNat (3 : Int))).toNat : Int) = (9 : Int))) (K (Value.int IntKind.i64 (0 : Int)) (Heap.mk (1 : Nat) [some (Blk.mk (51 : Nat) (3 : Nat) [Value.int IntKind.i64 a, Value.int IntKind.i64 e, Value.int IntKind.i64 n] true)])) (br (hp (saysS s a e n) (ByteArray.mk #[(45 : UInt8), (45 : UInt8), (45 : UInt8)])) (K (Value.int IntKind.i64 (1 : Int)) (Heap.mk (1 : Nat) [some (Blk.mk (51 : Nat) (3 : Nat) [Value.int IntKind.i64 a, Value.int IntKind.i64 e, Value.int IntKind.i64 n] true)])) (br (hp (saysS s a e n) (ByteArray.mk #[(46 : UInt8), (46 : UInt8), (46 : UInt8)])) (K (Value.int IntKind.i64 (2 : Int)) (Heap.mk (1 : Nat) [some (Blk.mk (51 : Nat) (3 : Nat) [Value.int IntKind.i64 a, Value.int IntKind.i64 e, Value.int IntKind.i64 n] true)])) (K (Value.int IntKind.i64 (0 : Int)) (Heap.mk (1 : Nat) [some (Blk.mk (51 : Nat) (3 : Nat) [Value.int IntKind.i64 a, Value.int IntKind.i64 e, Value.int IntKind.i64 n] true)]))))) (br (hp (saysS s a e n) (ByteArray.mk #[(45 : UInt8), (45 : UInt8), (45 : UInt8)])) (K (Value.int IntKind.i64 (1 : Int)) (Heap.mk (1 : Nat) [some (Blk.mk (51 : Nat) (3 : Nat) [Value.int IntKind.i64 a, Value.int IntKind.i64 e, Value.int IntKind.i64 n] true)])) (br (hp (saysS s a e n) (ByteArray.mk #[(46 : UInt8), (46 : UInt8), (46 : UInt8)])) (K (Value.int IntKind.i64 (2 : Int)) (Heap.mk (1 : Nat) [some (Blk.mk (51 : Nat) (3 : Nat) [Value.int IntKind.i64 a, Value.int IntKind.i64 e, Value.int IntKind.i64 n] true)])) (K (Value.int IntKind.i64 (0 : Int)) (Heap.mk (1 : Nat) [some (Blk.mk (51 : Nat) (3 : Nat) [Value.int IntKind.i64 a, Value.int IntKind.i64 e, Value.int IntKind.i64 n] true)]))))) (br (hp (saysS s a e n) (ByteArray.mk #[(45 : UInt8), (45 : UInt8), (45 : UInt8)])) (K (Value.int IntKind.i64 (1 : Int)) (Heap.mk (1 : Nat) [some (Blk.mk (51 : Nat) (3 : Nat) [Value.int IntKind.i64 a, Value.int IntKind.i64 e, Value.int IntKind.i64 n] true)])) (br (hp (saysS s a e n) (ByteArray.mk #[(46 : UInt8), (46 : UInt8), (46 : UInt8)])) (K (Value.int IntKind.i64 (2 : Int)) (Heap.mk (1 : Nat) [some (Blk.mk (51 : Nat) (3 : Nat) [Value.int IntKind.i64 a, Value.int IntKind.i64 e, Value.int IntKind.i64 n] true)])) (K (Value.int IntKind.i64 (0 : Int)) (Heap.mk (1 : Nat) [some (Blk.mk (51 : Nat) (3 : Nat) [Value.int IntKind.i64 a, Value.int IntKind.i64 e, Value.int IntKind.i64 n] true)]))))) := by kernel_rfl
theorem brk_Marker.c (s : ByteArray) (a e n : Int) (h : Heap) (K : VK) (hp : s.size ≤ 1000000) (hh : K (.int .i64 (mrkI s a e n)) h) : ACalls Tryd.prog brk_Marker.n [.string s, .agg #[.int .i64 a, .int .i64 e, .int .i64 n]] h K := by
  refine ACalls.alone rfl (acalls_mk SF_ok brk_Marker.ok (LS := lt0) (by simp only [brk_Marker.m, LOk, and_true, true_and]) (Nat.le_of_ble_eq_true rfl) (Eq.mpr (brk_Marker.t s a e n (fun v _ => ck (cleanT v) (K v h))) ?_))
  have go : ∀ k : Int, mrkI s a e n = k → K (.int .i64 k) h := fun k hk => hk ▸ hh
  have hs : (saysS s a e n).size = (saysL s a e n).length := by unfold saysS; rw [strOf_size]
  have hb : byteAt (saysS s a e n) 3 = (saysL s a e n).getD 3 0 := by
    unfold byteAt saysS strOf
    simp
  have h45 : Mini.hp (saysS s a e n) (ByteArray.mk #[45, 45, 45]) = List.isPrefixOf [45, 45, 45] (saysL s a e n) := by
    unfold Mini.hp saysS; rw [lst_strOf]
  have h46 : Mini.hp (saysS s a e n) (ByteArray.mk #[46, 46, 46]) = List.isPrefixOf [46, 46, 46] (saysL s a e n) := by
    unfold Mini.hp saysS; rw [lst_strOf]
  rw [show Int.toNat 3 = 3 from rfl, hb, h45, h46, hs]
  unfold mrkI mrkL isBl at go
  generalize (saysL s a e n).getD 3 0 = c at *
  repeat' (first | with_reducible refine br_intro (fun hb => ?_) (fun hb => ?_) | refine And.intro ?_ ?_)
  all_goals (try simp only [Bool.not_eq_true', Bool.not_eq_false', decide_eq_true_eq, decide_eq_false_iff_not] at *)
  all_goals first
    | omega
    | (refine go _ ?_; simp [*]; done)
    | (refine go _ ?_; simp [*]; omega)
theorem brk_Marker.sc : ∀ vs h K, brk_Marker.s vs h K → ACalls Tryd.prog brk_Marker.n vs h K := by
  intro vs h K hh; unfold brk_Marker.s at hh; split at hh
  · exact brk_Marker.c _ _ _ _ _ _ hh.1 hh.2
  · exact hh.elim
theorem brk_Marker.sm : SpecMono brk_Marker.s := by
  intro vs h K K' hk hh; unfold brk_Marker.s at hh ⊢; split at hh
  · exact ⟨hh.1, hk _ _ hh.2⟩
  · exact hh.elim
theorem brk_Marker.sd : SpecDet brk_Marker.s := by
  intro vs h K hh; unfold brk_Marker.s at hh; split at hh
  · exact ⟨_, hh.2, hh.1, rfl⟩
  · exact hh.elim

end Go.Mini
