/- Block texts: folded; what is left of the feeds at the end. Conditions: sizes. -/
import Derived.Test.YthllhoodbfnlaaaDoorBk4
namespace Go.Mini
open Go Go.RowKit Go.Proofs
set_option maxRecDepth 100000
set_option linter.unusedVariables false
set_option linter.unusedSimpArgs false

def lastI (X : List Rw) : Int := lastF (-1) 0 X
def clr (X : List Rw) (q : Nat) : List Rw := X.set q ⟨[], (X.getD q ⟨[], false⟩).b⟩
def foldX (X : List Rw) : List Rw := if lastI X < 0 then X else clr X (lastI X).toNat
def foldT (X : List Rw) : List UInt8 := if lastI X < 0 then plnL X else fld none 0 X ++ plnL ((foldX X).drop (lastI X).toNat)
theorem lastF_ok : ∀ (l : List Rw) (q : Int) (j : Nat), -1 ≤ q → q < j → -1 ≤ lastF q j l ∧ lastF q j l < j + l.length
  | [], q, j, h1, h2 => by rw [lastF]; simp; omega
  | x :: l, q, j, h1, h2 => by
    rw [lastF]
    have := lastF_ok l (if x.t = [] then q else j) (j + 1) (by split <;> omega) (by split <;> omega)
    simp only [List.length_cons]
    omega
theorem clr_cells : ∀ (X : List Rw) (q : Nat), q < X.length → List.take (q * 2) (rwsC X) ++ [Value.string (ByteArray.mk #[])] ++ List.drop (q * 2 + 1) (rwsC X) = rwsC (clr X q)
  | [], q, h => by simp at h
  | x :: X, 0, h => rfl
  | x :: X, q + 1, h => by
    have ih := clr_cells X q (by simpa using h)
    have e : rwsC (x :: X) = .string (strOf x.t) :: .bool x.b :: rwsC X := rfl
    have e2 : rwsC (clr (x :: X) (q + 1)) = .string (strOf x.t) :: .bool x.b :: rwsC (clr X q) := rfl
    rw [e, e2, ← ih, show (q + 1) * 2 = q * 2 + 1 + 1 from by omega]
    rfl
theorem prevR_no (X : List Rw) : prevR X (-1) = none := rfl
theorem lastI_ok (X : List Rw) : -1 ≤ lastI X ∧ lastI X < X.length := by
  have := lastF_ok X (-1) 0 (by omega) (by omega)
  unfold lastI; omega
def block_fold.LS : LT := (extL lt0 0 block_fold.sp0)
theorem block_fold.LS_mono : LMono block_fold.LS := (extL_mono lt0_mono block_fold.spm0)
def block_fold.s : List Value → Heap → VK → Prop
  | [.slice (some ⟨r, 0, none⟩) n n'], h, K => ∃ (X : List Rw) , Nat.blt r h.n = true ∧ h.g r = some ⟨TRw, 2, rwsC X, true⟩ ∧ [.slice (some ⟨r, 0, none⟩) n n'] = List.map (renT fun j => ([some r] : List (Option Nat)).getD j none) [.slice (some ⟨0, 0, none⟩) X.length X.length] ∧ (X.length ≤ 900000 ∧ (plnL X).length ≤ 900000 ∧ (fld none 0 X).length ≤ 900000 ∧ (plnL ((foldX X).drop (lastI X).toNat)).length ≤ 900000) ∧ K (.string (strOf (foldT X))) (h.upd r (some ⟨TRw, 2, rwsC (foldX X), true⟩))
  | _, _, _ => False
theorem block_fold.t (n : Nat) (n' : Nat) (X : List Rw) (K : VK) : mwp KG (block_fold.LS) block_fold.m (retK [.t 2] K) (argE 0 [.slice (some ⟨0, 0, none⟩) X.length X.length]) (lit [some ⟨TRw, 2, rwsC X, true⟩]) = (∃ (X_1 : List Rw), ∃ (p : Value), ∃ (o : List UInt8), ∃ (q : Int), ∃ (j : Nat), ((2 : Nat) = (2 : Nat) ∧ In (2 : Nat) (block_fold.N0 X_1 p o q j) [Value.slice (some (Addr.mk (0 : Nat) (0 : Nat) none)) X.length X.length, Value.pointer (some (Addr.mk (1 : Nat) (0 : Nat) none)), Value.int IntKind.i64 (-1 : Int), Value.slice (some (Addr.mk (0 : Nat) (0 : Nat) none)) X.length X.length, Value.int IntKind.i64 (↑X.length : Int), Value.int IntKind.i64 (0 : Int)] (Heap.mk (2 : Nat) [some (Blk.mk TRw (2 : Nat) (rwsC X) true), some (Blk.mk (73 : Nat) (2 : Nat) [Value.pointer none, Value.slice none (0 : Nat) (0 : Nat)] true)]) ∧ bok (1 : Nat) p ∧ j ≤ X_1.length ∧ X_1.length ≤ (900000 : Nat) ∧ (-1 : Int) ≤ q ∧ q < (↑j : Int) ∧ o.length + (fld (prevR X_1 q) ((↑j : Int) - q - (1 : Int)).toNat (List.drop j X_1)).length ≤ (900000 : Nat)) ∧ ∀ (x : Int) (p' : Value), bok (1 : Nat) p' → br (decide (lastF q j (List.drop j X_1) < (0 : Int))) (∃ (X : List Rw), ∃ (q_1 : Nat), ∃ (ρl : List (Option Nat)), [Value.slice (some (Addr.mk (0 : Nat) (0 : Nat) none)) X_1.length X_1.length] = List.map (renT fun (j : Nat) => ρl.getD j none) [Value.slice (some (Addr.mk (0 : Nat) (q_1 * (2 : Nat)) none)) (X.length - q_1) (X.length - q_1)] ∧ rowsSee (fun (j : Nat) => ρl.getD j none) (block_plain.H X q_1).length (Heap.mk (3 : Nat) [rwsB X_1, bldB (1 : Nat) (2 : Nat) p' (o ++ fld (prevR X_1 q) ((↑j : Int) - q - (1 : Int)).toNat (List.drop j X_1)), bufB (o ++ fld (prevR X_1 q) ((↑j : Int) - q - (1 : Int)).toNat (List.drop j X_1))]) (block_plain.H X q_1) ρl ∧ (q_1 ≤ X.length ∧ X.length ≤ (900000 : Nat) ∧ (plnL (List.drop q_1 X)).length ≤ (900000 : Nat)) ∧ K (Value.string (strOf (plnL (List.drop q_1 X)))) (Heap.mk (3 : Nat) [rwsB X_1, bldB (1 : Nat) (2 : Nat) p' (o ++ fld (prevR X_1 q) ((↑j : Int) - q - (1 : Int)).toNat (List.drop j X_1)), bufB (o ++ fld (prevR X_1 q) ((↑j : Int) - q - (1 : Int)).toNat (List.drop j X_1))])) (((0 : Int) ≤ lastF q j (List.drop j X_1) ∧ lastF q j (List.drop j X_1) < (↑X_1.length : Int)) ∧ br (((0 : Nat) + (lastF q j (List.drop j X_1)).toNat * (2 : Nat) + (0 : Nat) + (1 : Nat)).ble (rwsC X_1).length) (((0 : Int) ≤ lastF q j (List.drop j X_1) ∧ lastF q j (List.drop j X_1) ≤ (↑X_1.length : Int)) ∧ bok (1 : Nat) p' ∧ ∃ (l : List UInt8), (byV (o ++ fld (prevR X_1 q) ((↑j : Int) - q - (1 : Int)).toNat (List.drop j X_1)) = byV l ∧ (o ++ fld (prevR X_1 q) ((↑j : Int) - q - (1 : Int)).toNat (List.drop j X_1)).length = l.length ∧ (o ++ fld (prevR X_1 q) ((↑j : Int) - q - (1 : Int)).toNat (List.drop j X_1)).length = l.length ∧ l.length ≤ (100000000000000 : Nat)) ∧ ∃ (X : List Rw), ∃ (q_1 : Nat), ∃ (ρl : List (Option Nat)), [Value.slice (some (Addr.mk (0 : Nat) ((0 : Nat) + (lastF q j (List.drop j X_1)).toNat * (2 : Nat)) none)) (X_1.length - (lastF q j (List.drop j X_1)).toNat) (X_1.length - (lastF q j (List.drop j X_1)).toNat)] = List.map (renT fun (j : Nat) => ρl.getD j none) [Value.slice (some (Addr.mk (0 : Nat) (q_1 * (2 : Nat)) none)) (X.length - q_1) (X.length - q_1)] ∧ rowsSee (fun (j : Nat) => ρl.getD j none) (block_plain.H X q_1).length (Heap.mk (3 : Nat) [some (Blk.mk TRw (2 : Nat) (List.take ((0 : Nat) + (lastF q j (List.drop j X_1)).toNat * (2 : Nat) + (0 : Nat)) (rwsC X_1) ++ [Value.string (ByteArray.mk #[])] ++ List.drop ((0 : Nat) + (lastF q j (List.drop j X_1)).toNat * (2 : Nat) + (0 : Nat) + (1 : Nat)) (rwsC X_1)) true), bldB (1 : Nat) (2 : Nat) p' (o ++ fld (prevR X_1 q) ((↑j : Int) - q - (1 : Int)).toNat (List.drop j X_1)), none]) (block_plain.H X q_1) ρl ∧ (q_1 ≤ X.length ∧ X.length ≤ (900000 : Nat) ∧ (plnL (List.drop q_1 X)).length ≤ (900000 : Nat)) ∧ (strOf l).size + (strOf (plnL (List.drop q_1 X))).size ≤ (9223372036854775807 : Nat) ∧ K (Value.string (strOf l ++ strOf (plnL (List.drop q_1 X)))) (Heap.mk (3 : Nat) [some (Blk.mk TRw (2 : Nat) (List.take ((0 : Nat) + (lastF q j (List.drop j X_1)).toNat * (2 : Nat) + (0 : Nat)) (rwsC X_1) ++ [Value.string (ByteArray.mk #[])] ++ List.drop ((0 : Nat) + (lastF q j (List.drop j X_1)).toNat * (2 : Nat) + (0 : Nat) + (1 : Nat)) (rwsC X_1)) true), bldB (1 : Nat) (2 : Nat) p' (o ++ fld (prevR X_1 q) ((↑j : Int) - q - (1 : Int)).toNat (List.drop j X_1)), none])) False)) := by kernel_rfl
theorem block_fold.c (r n n' : Nat) (h : Heap) (K : VK) (hh : ∃ (X : List Rw) , Nat.blt r h.n = true ∧ h.g r = some ⟨TRw, 2, rwsC X, true⟩ ∧ [.slice (some ⟨r, 0, none⟩) n n'] = List.map (renT fun j => ([some r] : List (Option Nat)).getD j none) [.slice (some ⟨0, 0, none⟩) X.length X.length] ∧ (X.length ≤ 900000 ∧ (plnL X).length ≤ 900000 ∧ (fld none 0 X).length ≤ 900000 ∧ (plnL ((foldX X).drop (lastI X).toNat)).length ≤ 900000) ∧ K (.string (strOf (foldT X))) (h.upd r (some ⟨TRw, 2, rwsC (foldX X), true⟩))) : ACalls Tryd.prog block_fold.n [.slice (some ⟨r, 0, none⟩) n n'] h K := by
  obtain ⟨X, hr, hg, hvs, hp, hK⟩ := hh
  rw [hvs]
  refine ACalls.writes1 (b := ⟨TRw, 2, rwsC X, true⟩) (b2 := ⟨TRw, 2, rwsC (foldX X), true⟩) (v0 := .string (strOf (foldT X))) hr hg (rwsC_flat X) (rwsC_flat _) rfl rfl (by simp [okT, okA, okF, flatV]) rfl (acalls_mk KG_ok block_fold.ok (LS := block_fold.LS) (by simp only [block_fold.m, LOk, and_true, true_and]; (repeat' apply And.intro) <;> first | trivial | exact block_fold.lo0) (Nat.le_of_ble_eq_true rfl) (Eq.mpr (block_fold.t n n' X _) ?_)) hK
  clear hK hg hr hvs
  obtain ⟨h1, h2, h3, h4⟩ := hp
  have hq := lastI_ok X
  have e0 : (((0 : Nat) : Int) - -1 - 1).toNat = 0 := rfl
  refine ⟨X, .pointer none, [], -1, 0, ⟨rfl, ?_, .inl rfl, Nat.zero_le _, h1, by omega, by omega, by rw [prevR_no, e0, List.drop_zero, List.length_nil, Nat.zero_add]; exact h3⟩, fun x p' hb => ?_⟩
  · refine In.rows [some 0, some 1, none] ⟨⟨rfl, okF_all (rwsC_flat _), ?_⟩, ⟨rfl, ?_, ?_⟩, rfl, trivial⟩ rfl rfl rfl ?_ ?_
    · rw [map_ren_flat (rwsC_flat _)]; rfl
    · simp [okF, flatV]
    · rfl
    · simp [renT, renA, ren]
    · simp [okT, okA, okF, flatV]
  rw [prevR_no, e0, List.drop_zero, List.nil_append, show lastF (-1) 0 X = lastI X from rfl]
  have fin : ∀ (t : ByteArray) (h : Heap), t = strOf (foldT X) → Nat.blt 0 h.n = true → h.g 0 = some ⟨TRw, 2, rwsC (foldX X), true⟩ → InV 1 (fun v h' => v = .string (strOf (foldT X)) ∧ h' = lit [some ⟨TRw, 2, rwsC (foldX X), true⟩]) (.string t) h := fun t h ht hn hg => by
    subst ht
    refine InV.rows (L := [⟨TRw, 2, rwsC (foldX X), true⟩]) [some 0] ⟨⟨hn, okF_all (rwsC_flat _), ?_⟩, trivial⟩ rfl rfl rfl rfl rfl
    rw [map_ren_flat (rwsC_flat _)]; exact hg
  refine br_intro (fun hc => ?_) (fun hc => ?_)
  · simp only [decide_eq_true_eq] at hc
    have e1 : foldX X = X := by unfold foldX; rw [if_pos hc]
    refine ⟨X, 0, [some 0], by simp [renT, renA, ren], seeR rfl rfl, ⟨Nat.zero_le _, h1, h2⟩, fin _ _ ?_ rfl (by rw [e1]; rfl)⟩
    unfold foldT; rw [if_pos hc]; rfl
  · simp only [decide_eq_false_iff_not] at hc
    have hl : (lastI X).toNat < X.length := by omega
    have e1 : foldX X = clr X (lastI X).toNat := by unfold foldX; rw [if_neg hc]
    have hlen : (foldX X).length = X.length := by rw [e1]; unfold clr; rw [List.length_set]
    have hcl := clr_cells X (lastI X).toNat hl
    rw [← e1] at hcl
    have hrl := rwsC_len X
    refine ⟨⟨by omega, by omega⟩, br_le (by omega) ⟨⟨by omega, by omega⟩, hb, fld none 0 X, ⟨rfl, rfl, rfl, by omega⟩, foldX X, (lastI X).toNat, [some 0], ?_, seeR (o := true) rfl ?_, ⟨by omega, by omega, h4⟩, ?_⟩⟩
    · rw [hlen]; simp [renT, renA, ren]
    · show some _ = some _
      rw [← hcl]
      simp only [Nat.zero_add, Nat.add_zero]
    · refine ⟨by rw [strOf_size, strOf_size]; omega, fin _ _ ?_ rfl ?_⟩
      · unfold foldT; rw [if_neg hc]; exact strOf_app _ _
      · show some _ = some _
        rw [← hcl]
        simp only [Nat.zero_add, Nat.add_zero]
theorem block_fold.sc : ∀ vs h K, block_fold.s vs h K → ACalls Tryd.prog block_fold.n vs h K := by
  intro vs h K hh; unfold block_fold.s at hh; split at hh
  · exact block_fold.c _ _ _ _ _ hh
  · exact hh.elim
theorem block_fold.sm : SpecMono block_fold.s := by
  intro vs h K K' hk hh; unfold block_fold.s at hh ⊢; split at hh
  · obtain ⟨X, h1, h2, h3, h4, h5⟩ := hh; exact ⟨X, h1, h2, h3, h4, hk _ _ h5⟩
  · exact hh.elim
theorem block_fold.sd : SpecDet block_fold.s := by
  intro vs h K hh; unfold block_fold.s at hh; split at hh
  · obtain ⟨X, h1, h2, h3, h4, h5⟩ := hh; exact ⟨_, h5, X, h1, h2, h3, h4, rfl⟩
  · exact hh.elim

/-! ### The end -/
def chopL (l : List UInt8) : List UInt8 := (l.reverse.dropWhile (· == 10)).reverse
/-- What a text is told as, by the sign of its head. -/
def endL (l : List UInt8) (c : Int) : List UInt8 := if c = 43 then l else if c = 45 ∨ chopL l = l ∨ chopL l = [] then chopL l else chopL l ++ [10]
def strings_TrimRight.s : List Value → Heap → VK → Prop
  | [.string s, .string t], h, K => (t = ⟨#[10]⟩ ∧ s.size ≤ 1000000) ∧ K (.string (strOf (Lib.trimRightB (lst s) 10))) h
  | _, _, _ => False
theorem strings_TrimRight.sm : SpecMono strings_TrimRight.s := by
  intro vs h K K' hk hh; unfold strings_TrimRight.s at hh ⊢; split at hh
  · exact ⟨hh.1, hk _ _ hh.2⟩
  · exact hh.elim
theorem strings_TrimRight.sc : ∀ vs h K, strings_TrimRight.s vs h K → ACalls Tryd.prog strings_TrimRight.n vs h K := by
  intro vs h K hh; unfold strings_TrimRight.s at hh; split at hh
  · rename_i s t
    obtain ⟨⟨rfl, hs⟩, hh⟩ := hh
    exact acalls_of ⟨_, Tryd.func61, rfl, rfl⟩ rfl rfl (fun w => (Tryd.strings_TrimRight_one s 10 (by decide) w (by omega)).mono fun e w' ⟨h1, h2⟩ => ⟨h1, h2 ▸ Below.refl _ _⟩) hh
  · exact hh.elim
theorem strings_TrimRight.sd : SpecDet strings_TrimRight.s := by
  intro vs h K hh; unfold strings_TrimRight.s at hh; split at hh
  · exact ⟨_, hh.2, hh.1, rfl⟩
  · exact hh.elim
def KH : CT := (extC KG strings_TrimRight.n strings_TrimRight.s)
theorem KH_ok : COk Tryd.prog KH := (extC_ok KG_ok strings_TrimRight.sc strings_TrimRight.sd)
theorem KH_mono : CMono KH := (extC_mono KG_mono strings_TrimRight.sm)
def block_end.s : List Value → Heap → VK → Prop
  | [.string s, .int .u8 c], h, K => (s.size ≤ 1000000) ∧ K (.string (strOf (endL (lst s) c))) h
  | _, _, _ => False
theorem block_end.t (s : ByteArray) (c : Int) (h : Heap) (K : VK) : mwp KH (lt0) block_end.m (retK [.t 4] K) (argE 0 [.string s, .int .u8 c]) h = ((ByteArray.mk #[(10 : UInt8)] = ByteArray.mk #[(10 : UInt8)] ∧ s.size ≤ (1000000 : Nat)) ∧ br (decide (c = (43 : Int))) (K (Value.string s) h) (br (decide (c = (45 : Int))) (K (Value.string (strOf (Lib.trimRightB (lst s) (10 : UInt8)))) h) (br (decide (strOf (Lib.trimRightB (lst s) (10 : UInt8)) = s)) (K (Value.string (strOf (Lib.trimRightB (lst s) (10 : UInt8)))) h) (br (decide (strOf (Lib.trimRightB (lst s) (10 : UInt8)) = ByteArray.mk #[])) (K (Value.string (strOf (Lib.trimRightB (lst s) (10 : UInt8)))) h) ((strOf (Lib.trimRightB (lst s) (10 : UInt8))).size + (ByteArray.mk #[(10 : UInt8)]).size ≤ (9223372036854775807 : Nat) ∧ K (Value.string (strOf (Lib.trimRightB (lst s) (10 : UInt8)) ++ ByteArray.mk #[(10 : UInt8)])) h))))) := by kernel_rfl
theorem block_end.c (s : ByteArray) (c : Int) (h : Heap) (K : VK) (hp : s.size ≤ 1000000) (hh : K (.string (strOf (endL (lst s) c))) h) : ACalls Tryd.prog block_end.n [.string s, .int .u8 c] h K := by
  refine acalls_mk KH_ok block_end.ok (LS := lt0) (by simp only [block_end.m, LOk, and_true, true_and]) (Nat.le_of_ble_eq_true rfl) (Eq.mpr (block_end.t s c h K) ?_)
  have e1 : strOf (chopL (lst s)) = s ↔ chopL (lst s) = lst s := by
    constructor
    · intro h
      have := congrArg lst h
      rwa [lst_strOf] at this
    · intro h; rw [h]; exact strOf_lst s
  have hle : (chopL (lst s)).length ≤ s.size := by
    have := (List.dropWhile_suffix (· == 10) (l := (lst s).reverse)).length_le
    unfold chopL
    rw [List.length_reverse] at *
    have hl : (lst s).length = s.size := Array.length_toList
    omega
  rw [show Lib.trimRightB (lst s) 10 = chopL (lst s) from rfl]
  unfold endL at hh
  refine ⟨⟨rfl, hp⟩, br_intro (fun hb => ?_) (fun hb => ?_)⟩
  · simp only [decide_eq_true_eq] at hb
    rw [if_pos hb, strOf_lst] at hh
    exact hh
  · simp only [decide_eq_false_iff_not] at hb
    rw [if_neg hb] at hh
    have hyes : (c = 45 ∨ chopL (lst s) = lst s ∨ chopL (lst s) = []) → K (.string (strOf (chopL (lst s)))) h := fun e => by rw [if_pos e] at hh; exact hh
    refine br_intro (fun hc => hyes (.inl (by simpa using hc))) (fun hc => br_intro (fun hd => hyes (.inr (.inl (e1.1 (by simpa using hd))))) (fun hd => ?_))
    rw [strOf_nil]
    refine br_intro (fun he => hyes (.inr (.inr (by simpa using he)))) (fun he => ?_)
    simp only [decide_eq_false_iff_not] at hc hd he
    rw [if_neg (by rintro (h | h | h); exact hc h; exact hd (e1.2 h); exact he h)] at hh
    refine ⟨by rw [strOf_size]; show _ + 1 ≤ _; omega, ?_⟩
    rw [show ByteArray.mk #[(10 : UInt8)] = strOf [10] from rfl, strOf_app]
    exact hh
theorem block_end.sc : ∀ vs h K, block_end.s vs h K → ACalls Tryd.prog block_end.n vs h K := by
  intro vs h K hh; unfold block_end.s at hh; split at hh
  · exact block_end.c _ _ _ _ hh.1 hh.2
  · exact hh.elim
theorem block_end.sm : SpecMono block_end.s := by
  intro vs h K K' hk hh; unfold block_end.s at hh ⊢; split at hh
  · exact ⟨hh.1, hk _ _ hh.2⟩
  · exact hh.elim
theorem block_end.sd : SpecDet block_end.s := by
  intro vs h K hh; unfold block_end.s at hh; split at hh
  · exact ⟨_, hh.2, hh.1, rfl⟩
  · exact hh.elim

end Go.Mini
