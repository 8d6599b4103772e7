/- Texts in single quotes, written. Conditions: sizes. -/
import Derived.Test.YthllhoodbfnlaaaDoorSq2
import Derived.Test.YthllhoodbfnlaaaDoorDec
namespace Go.Mini
open Go Go.RowKit Go.Proofs
set_option maxRecDepth 100000
set_option linter.unusedVariables false
set_option linter.unusedSimpArgs false

def strings_ReplaceAll.n : Nat := 49
def strings_ReplaceAll.s : List Value → Heap → VK → Prop
  | [.string s, .string a, .string b], h, K => (s.size ≤ 1000000 ∧ 1 ≤ a.size ∧ s.size + Lib.countB s a * b.size ≤ 140737488355328) ∧ K (.string (strOf (Lib.replaceAll (lst s) (lst a) (lst b)))) h
  | _, _, _ => False
theorem strings_ReplaceAll.sm : SpecMono strings_ReplaceAll.s := by
  intro vs h K K' hk hh; unfold strings_ReplaceAll.s at hh ⊢; split at hh
  · exact ⟨hh.1, hk _ _ hh.2⟩
  · exact hh.elim
theorem strings_ReplaceAll.sc : ∀ vs h K, strings_ReplaceAll.s vs h K → ACalls Tryd.prog strings_ReplaceAll.n vs h K := by
  intro vs h K hh; unfold strings_ReplaceAll.s at hh; split at hh
  · rename_i s a b
    obtain ⟨⟨h1, h2, h3⟩, hh⟩ := hh
    exact acalls_gl ⟨_, Tryd.func49, rfl, rfl⟩ rfl rfl (fun w hg => by
      obtain ⟨m, hm⟩ := hg.2 2 _ rfl rfl
      exact Tryd.strings_ReplaceAll s a b m w (by omega) hm h2 h3) hh
  · exact hh.elim
theorem strings_ReplaceAll.sd : SpecDet strings_ReplaceAll.s := by
  intro vs h K hh; unfold strings_ReplaceAll.s at hh; split at hh
  · exact ⟨_, hh.2, hh.1, rfl⟩
  · exact hh.elim
/-- No break among k places from j on. -/
def noB (s : ByteArray) : Nat → Int → Bool
  | 0, _ => true
  | k + 1, j => if 0 < brkI 11 s j then false else noB s k (j + 1)
def SY : CT := (extC (extC (extC SX strings_ReplaceAll.n strings_ReplaceAll.s) strings_Trim.n strings_Trim.s) brk_Check.n brk_Check.s)
theorem SY_ok : COk Tryd.prog SY := (extC_ok (extC_ok (extC_ok SX_ok strings_ReplaceAll.sc strings_ReplaceAll.sd) strings_Trim.sc strings_Trim.sd) brk_Check.sc brk_Check.sd)
theorem SY_mono : CMono SY := (extC_mono (extC_mono (extC_mono SX_mono strings_ReplaceAll.sm) strings_Trim.sm) brk_Check.sm)
def squote_Write.sp0 : LSpec := ⟨squote_Write.cs0, squote_Write.ts0, fun vs h K => ∃ (s : ByteArray) (q : ByteArray) (r : Bool) (j : Int) (k : Nat), (vs = [.string s, .string q, .bool r, .int .i64 s.size, .int .i64 j] ∧ (s.size ≤ 1000000 ∧ 0 ≤ j ∧ j + k = s.size)) ∧ ((noB s k j = false → ∀ x : Int, K .ret [.string s, .string ⟨#[]⟩, .bool false, .int .i64 s.size, .int .i64 x] h) ∧ (noB s k j = true → ∀ x : Int, K (.exit 0) [.string s, .string q, .bool r, .int .i64 s.size, .int .i64 x] h))⟩
theorem squote_Write.spm0 : LSpecMono squote_Write.sp0 := by
  rintro vs h K K' hk ⟨s, q, r, j, k, h3, h4⟩
  exact ⟨s, q, r, j, k, h3, ⟨fun e x => hk _ _ _ (h4.1 e x), fun e x => hk _ _ _ (h4.2 e x)⟩⟩
theorem squote_Write.t0 (s : ByteArray) (q : ByteArray) (r : Bool) (j : Int) (k : Nat) (h : Heap) (E : Env) (N : List Value → Heap → Prop) (K : LK) : mwp SY (lt0) squote_Write.l0 (lK squote_Write.cs0 N K) (zipE squote_Write.cs0 [.string s, .string q, .bool r, .int .i64 s.size, .int .i64 j] ++ E) h = (br (decide (j < (↑s.size : Int))) (br (decide ((0 : Int) < brkI (11 : Int) s j)) (K Exit.ret [Value.string s, Value.string (ByteArray.mk #[]), Value.bool false, Value.int IntKind.i64 (↑s.size : Int), Value.int IntKind.i64 j] h) (rng IntKind.i64 (j + (1 : Int)) ∧ N [Value.string s, Value.string q, Value.bool r, Value.int IntKind.i64 (↑s.size : Int), Value.int IntKind.i64 (j + (1 : Int))] h)) (K (Exit.exit (0 : Nat)) [Value.string s, Value.string q, Value.bool r, Value.int IntKind.i64 (↑s.size : Int), Value.int IntKind.i64 j] h)) := by kernel_rfl
theorem squote_Write.lo0 : LOk1 Tryd.prog squote_Write.nt squote_Write.sp0 (.loop 0 squote_Write.l0) := by
  refine loop_res (σ := ByteArray × ByteArray × Bool × Int × Nat) SY_ok SY_mono (lt0_mono) (LS := lt0) (by simp only [squote_Write.l0, LOk, and_true, true_and]) rfl rfl (fun ⟨s, q, r, j, k⟩ => [.string s, .string q, .bool r, .int .i64 s.size, .int .i64 j]) (fun ⟨s, q, r, j, k⟩ h => s.size ≤ 1000000 ∧ 0 ≤ j ∧ j + k = s.size) (fun ⟨s, q, r, j, k⟩ => k) (fun ⟨s, q, r, j, k⟩ K h => (noB s k j = false → ∀ x : Int, K .ret [.string s, .string ⟨#[]⟩, .bool false, .int .i64 s.size, .int .i64 x] h) ∧ (noB s k j = true → ∀ x : Int, K (.exit 0) [.string s, .string q, .bool r, .int .i64 s.size, .int .i64 x] h)) ?_ ?_
  · rintro vs h K ⟨s, q, r, j, k, ⟨h1, h2⟩, h3⟩
    exact ⟨⟨s, q, r, j, k⟩, h1, h2, h3⟩
  rintro ⟨s, q, r, j, k⟩ E h N K hE hp hN hK
  dsimp only at hp hN hK
  refine Eq.mpr (squote_Write.t0 s q r j k h E N K) ?_
  obtain ⟨h1, h2, h3⟩ := hp
  refine br_intro (fun hb => ?_) (fun hb => ?_)
  · simp only [decide_eq_true_eq] at hb
    obtain ⟨k, rfl⟩ : ∃ k', k = k' + 1 := ⟨k - 1, by omega⟩
    rw [noB] at hK
    refine br_intro (fun hc => ?_) (fun hc => ?_)
    · simp only [decide_eq_true_eq] at hc
      rw [if_pos hc] at hK
      exact hK.1 rfl _
    · simp only [decide_eq_false_iff_not] at hc
      rw [if_neg hc] at hK
      exact ⟨by simp only [rng]; omega, hN (s, q, r, j + 1, k) h ⟨h1, by dsimp only; omega, by dsimp only; omega⟩ (by dsimp only; omega) hK⟩
  · simp only [decide_eq_false_iff_not] at hb
    obtain rfl : k = 0 := by omega
    exact hK.2 rfl _

theorem strOf_app' (a b : List UInt8) : strOf a ++ strOf b = strOf (a ++ b) := by
  unfold strOf
  apply ByteArray.ext
  simp
theorem mk1' (c : UInt8) : ByteArray.mk #[c] = strOf [c] := rfl
theorem replaceK_len (old new : List UInt8) : ∀ (k : Nat) (s : List UInt8), (Lib.replaceK old new k s).length ≤ s.length + k * new.length
  | 0, s => by
    show s.length ≤ _
    omega
  | k + 1, s => by
    have hm : (k + 1) * new.length = k * new.length + new.length := Nat.succ_mul k new.length
    rw [Lib.replaceK]
    split
    · omega
    · have := replaceK_len old new k (s.drop ((Lib.index s old).toNat + old.length))
      simp only [List.length_append, List.length_take, List.length_drop] at this ⊢
      omega
theorem replaceAll_len (s a b : ByteArray) : (Lib.replaceAll (lst s) (lst a) (lst b)).length ≤ s.size + Lib.countB s a * b.size := by
  have hs : (lst s).length = s.size := Array.length_toList
  have hb : (lst b).length = b.size := Array.length_toList
  unfold Lib.replaceAll Lib.replace
  split
  · omega
  · have := replaceK_len (lst a) (lst b) (Lib.replaceNum (lst s) (lst a) (-1)) (lst s)
    have e : Lib.replaceNum (lst s) (lst a) (-1) = Lib.countB s a := by
      unfold Lib.replaceNum; rw [if_pos (.inl (by decide))]
    rw [e, hb, hs] at this
    exact this
def wrL (s : ByteArray) : List UInt8 := 39 :: (Lib.replaceAll (lst s) [39] [39, 39] ++ [39])
def wrOk (s : ByteArray) : Bool := decide (chkI s < 0) && (decide (strOf (Lib.trimS (lst s) [32, 9]) = s) && noB s s.size 0)
def wrS (s : ByteArray) : ByteArray := bif wrOk s then strOf (wrL s) else ⟨#[]⟩
def squote_Write.LS : LT := (extL lt0 0 squote_Write.sp0)
theorem squote_Write.LS_mono : LMono squote_Write.LS := (extL_mono lt0_mono squote_Write.spm0)
def squote_Write.s : List Value → Heap → VK → Prop
  | [.string s], h, K => (s.size ≤ 1000000) ∧ K (.tuple #[.string (wrS s), .bool (wrOk s)]) h
  | _, _, _ => False
theorem squote_Write.t (s : ByteArray) (h : Heap) (K : VK) : mwp SY (squote_Write.LS) squote_Write.m (retK [.t 2, .t 3] K) (argE 0 [.string s]) h = (s.size ≤ (1000000 : Nat) ∧ br (decide ((0 : Int) ≤ chkI s)) (K (Value.tuple #[Value.string (ByteArray.mk #[]), Value.bool false]) h) ((s.size ≤ (1000000 : Nat) ∧ (ByteArray.mk #[(32 : UInt8), (9 : UInt8)]).size ≤ (1000000 : Nat) ∧ ((ByteArray.mk #[(32 : UInt8), (9 : UInt8)]).data.toList.all fun (b : UInt8) => decide (b.toNat < (128 : Nat))) = true) ∧ br (!decide (strOf (Lib.trimS (lst s) (lst (ByteArray.mk #[(32 : UInt8), (9 : UInt8)]))) = s)) (K (Value.tuple #[Value.string (ByteArray.mk #[]), Value.bool false]) h) (∃ (s_1 : ByteArray), ∃ (q : ByteArray), ∃ (r : Bool), ∃ (j : Int), ∃ (k : Nat), ([Value.string s, Value.string (ByteArray.mk #[]), Value.bool false, Value.int IntKind.i64 (↑s.size : Int), Value.int IntKind.i64 (0 : Int)] = [Value.string s_1, Value.string q, Value.bool r, Value.int IntKind.i64 (↑s_1.size : Int), Value.int IntKind.i64 j] ∧ s_1.size ≤ (1000000 : Nat) ∧ (0 : Int) ≤ j ∧ j + (↑k : Int) = (↑s_1.size : Int)) ∧ (noB s_1 k j = false → ∀ (x : Int), K (Value.tuple #[Value.string (ByteArray.mk #[]), Value.bool false]) h) ∧ (noB s_1 k j = true → ∀ (x : Int), (s_1.size ≤ (1000000 : Nat) ∧ (1 : Nat) ≤ (ByteArray.mk #[(39 : UInt8)]).size ∧ s_1.size + Lib.countB s_1 (ByteArray.mk #[(39 : UInt8)]) * (ByteArray.mk #[(39 : UInt8), (39 : UInt8)]).size ≤ (140737488355328 : Nat)) ∧ (ByteArray.mk #[(39 : UInt8)]).size + (strOf (Lib.replaceAll (lst s_1) (lst (ByteArray.mk #[(39 : UInt8)])) (lst (ByteArray.mk #[(39 : UInt8), (39 : UInt8)])))).size ≤ (9223372036854775807 : Nat) ∧ (ByteArray.mk #[(39 : UInt8)] ++ strOf (Lib.replaceAll (lst s_1) (lst (ByteArray.mk #[(39 : UInt8)])) (lst (ByteArray.mk #[(39 : UInt8), (39 : UInt8)])))).size + (ByteArray.mk #[(39 : UInt8)]).size ≤ (9223372036854775807 : Nat) ∧ K (Value.tuple #[Value.string (ByteArray.mk #[(39 : UInt8)] ++ strOf (Lib.replaceAll (lst s_1) (lst (ByteArray.mk #[(39 : UInt8)])) (lst (ByteArray.mk #[(39 : UInt8), (39 : UInt8)]))) ++ ByteArray.mk #[(39 : UInt8)]), Value.bool true]) h)))) := by kernel_rfl
theorem squote_Write.c (s : ByteArray) (h : Heap) (K : VK) (hp : s.size ≤ 1000000) (hh : K (.tuple #[.string (wrS s), .bool (wrOk s)]) h) : ACalls Tryd.prog squote_Write.n [.string s] h K := by
  refine acalls_mk SY_ok squote_Write.ok (LS := squote_Write.LS) (by simp only [squote_Write.m, LOk, and_true, true_and]; (repeat' apply And.intro) <;> first | trivial | exact squote_Write.lo0) (Nat.le_of_ble_eq_true rfl) (Eq.mpr (squote_Write.t s h K) ?_)
  have hc : Lib.countB s (ByteArray.mk #[(39 : UInt8)]) ≤ s.size := Lib.countB_le _ (Nat.le_refl _) s.size s (Nat.le_refl _)
  have hr := replaceAll_len s (ByteArray.mk #[(39 : UInt8)]) (ByteArray.mk #[(39 : UInt8), 39])
  have e39 : lst (ByteArray.mk #[(39 : UInt8)]) = [39] := rfl
  have e392 : lst (ByteArray.mk #[(39 : UInt8), 39]) = [39, 39] := rfl
  have e32 : lst (ByteArray.mk #[(32 : UInt8), 9]) = [32, 9] := rfl
  have z1 : (ByteArray.mk #[(39 : UInt8)]).size = 1 := rfl
  have z2 : (ByteArray.mk #[(39 : UInt8), 39]).size = 2 := rfl
  have z3 : (ByteArray.mk #[(32 : UInt8), 9]).size = 2 := rfl
  rw [e39, e392] at hr
  rw [z2] at hr
  rw [e39, e392, e32, z1, z2, z3]
  have hno : wrOk s = false → K (.tuple #[.string ⟨#[]⟩, .bool false]) h := fun e => by
    unfold wrS at hh; rw [e] at hh; exact hh
  refine ⟨hp, br_intro (fun hb => ?_) (fun hb => ⟨⟨hp, by omega, rfl⟩, br_intro (fun hd => ?_) (fun hd => ?_)⟩)⟩
  · simp only [decide_eq_true_eq] at hb
    exact hno (by unfold wrOk; rw [decide_eq_false (by omega)]; rfl)
  · refine hno ?_
    simp only [Bool.not_eq_true', decide_eq_false_iff_not] at hd
    unfold wrOk; rw [decide_eq_false hd]; simp
  · simp only [decide_eq_false_iff_not, Bool.not_eq_false', decide_eq_true_eq] at hb hd
    refine ⟨s, _, false, 0, s.size, ⟨rfl, hp, by omega, by omega⟩, fun e x => ?_, fun e x => ?_⟩
    · exact hno (by unfold wrOk; rw [e]; simp)
    · refine ⟨⟨hp, by omega, by omega⟩, by rw [strOf_size]; omega, by rw [ByteArray.size_append, strOf_size, z1]; omega, ?_⟩
      have ok : wrOk s = true := by unfold wrOk; rw [decide_eq_true (by omega), decide_eq_true hd, e]; rfl
      unfold wrS at hh
      rw [ok] at hh
      rw [mk1', strOf_app', strOf_app']
      exact hh
theorem squote_Write.sc : ∀ vs h K, squote_Write.s vs h K → ACalls Tryd.prog squote_Write.n vs h K := by
  intro vs h K hh; unfold squote_Write.s at hh; split at hh
  · exact squote_Write.c _ _ _ hh.1 hh.2
  · exact hh.elim
theorem squote_Write.sm : SpecMono squote_Write.s := by
  intro vs h K K' hk hh; unfold squote_Write.s at hh ⊢; split at hh
  · exact ⟨hh.1, hk _ _ hh.2⟩
  · exact hh.elim
theorem squote_Write.sd : SpecDet squote_Write.s := by
  intro vs h K hh; unfold squote_Write.s at hh; split at hh
  · exact ⟨_, hh.2, hh.1, rfl⟩
  · exact hh.elim

end Go.Mini
