/- Block texts: rows put together. Conditions: sizes. -/
import Derived.Test.YthllhoodbfnlaaaDoorBk3
import Derived.Test.YthllhoodbfnlaaaDoorBldI
namespace Go.Mini
open Go Go.RowKit Go.Proofs
set_option maxRecDepth 100000
set_option linter.unusedVariables false
set_option linter.unusedSimpArgs false

def KE : CT := extC (extC (extC KD 38 bwI) 58 bbI) 39 bsI
theorem KE_ok : COk Tryd.prog KE := extC_ok (extC_ok (extC_ok KD_ok bwI_sc bwI_sd) bbI_sc bbI_sd) bsI_sc bsI_sd
theorem KE_mono : CMono KE := extC_mono (extC_mono (extC_mono KD_mono bwI_sm) bbI_sm) bsI_sm
def plnL : List Rw → List UInt8
  | [] => []
  | x :: l => x.t ++ ((if x.b = true then [10] else []) ++ plnL l)
abbrev rwsF (l : List Rw) : Option Blk := some ⟨TRw, 2, rwsC l, false⟩
abbrev bldB (i k : Nat) (p : Value) (o : List UInt8) : Option Blk := some ⟨TB, 2, [p, .slice (some ⟨k, 0, none⟩) o.length o.length], true⟩
abbrev bufB (o : List UInt8) : Option Blk := some ⟨TU, 1, byV o, true⟩
theorem out_rows {X : List Rw} {ow : Bool} {o : List UInt8} {k : Nat} {h : Heap} {vs : List Value} (hk : 1 < k) (hn : Nat.blt k h.n = true) (h0 : h.g 0 = some ⟨TRw, 2, rwsC X, ow⟩) (h1 : h.g 1 = some ⟨TB, 2, [.pointer (some ⟨1, 0, none⟩), .slice (some ⟨k, 0, none⟩) o.length o.length], true⟩) (h2 : h.g k = bufB o)
    (hok : vs.all (okT 3) = true) (hid : vs.map (renT fun j => [some 0, some 1, some k].getD j none) = vs) :
    In 2 (fun vs' h' => vs' = vs ∧ h' = lit [some ⟨TRw, 2, rwsC X, ow⟩, bldB 1 2 (.pointer (some ⟨1, 0, none⟩)) o, bufB o]) vs h := by
  have hn' := blt_iff.1 hn
  refine In.rows [some 0, some 1, some k] ⟨⟨by rw [blt_iff]; omega, okF_all (rwsC_flat _), ?_⟩, ⟨by rw [blt_iff]; omega, ?_, ?_⟩, ⟨hn, okF_all (byV_flat _), ?_⟩, trivial⟩ ?_ rfl rfl hid.symm hok
  · rw [map_ren_flat (rwsC_flat _)]; exact h0
  · simp [okF, flatV]
  · rw [h1]; simp [ren]
  · rw [map_ren_flat (byV_flat _)]; exact h2
  · simp only [liveNums, nodupB, List.contains_cons, List.contains_nil, Bool.or_false, Bool.and_true, Bool.and_eq_true, Bool.not_eq_true', Bool.or_eq_false_iff, beq_eq_false_iff_ne, ne_eq]
    refine ⟨⟨by decide, by omega⟩, by omega, trivial⟩
theorem plnL_drop {X : List Rw} {j : Nat} (h : j < X.length) : plnL (X.drop j) = X[j].t ++ ((if X[j].b = true then [10] else []) ++ plnL (X.drop (j + 1))) := by
  rw [List.drop_eq_getElem_cons h, plnL]
def block_plain.N0 (X : List Rw) (q : Nat) (p : Value) (o : List UInt8) (j : Nat) (vs : List Value) (h : Heap) : Prop := vs = [.pointer (some ⟨1, 0, none⟩), .slice (some ⟨0, q * 2, none⟩) (X.length - q) (X.length - q), .int .i64 (X.length - q : Nat), .int .i64 j] ∧ h = lit [rwsF X, bldB 1 2 p o, bufB o]
def block_plain.sp0 : LSpec := ⟨block_plain.cs0, block_plain.ts0, fun vs h K => ∃ (X : List Rw) (q : Nat) (p : Value) (o : List UInt8) (j : Nat), (h.n = 2 ∧ In 2 (block_plain.N0 X q p o j) vs h ∧ (bok 1 p ∧ q ≤ X.length ∧ j ≤ X.length - q ∧ X.length ≤ 900000 ∧ o.length + (plnL (X.drop (q + j))).length ≤ 900000)) ∧ (∀ (x : Int) (p' : Value), bok 1 p' → K (.exit 0) [.pointer (some ⟨1, 0, none⟩), .slice (some ⟨0, q * 2, none⟩) (X.length - q) (X.length - q), .int .i64 (X.length - q : Nat), .int .i64 x] (lit [rwsF X, bldB 1 2 p' (o ++ plnL (X.drop (q + j))), bufB (o ++ plnL (X.drop (q + j)))]))⟩
theorem block_plain.spm0 : LSpecMono block_plain.sp0 := by
  rintro vs h K K' hk ⟨X, q, p, o, j, h3, h4⟩
  exact ⟨X, q, p, o, j, h3, fun x p' hp => hk _ _ _ (h4 x p' hp)⟩
theorem block_plain.t0 (X : List Rw) (q : Nat) (p : Value) (o : List UInt8) (j : Nat) (E : Env) (N : List Value → Heap → Prop) (K : LK) : mwp KE (lt0) block_plain.l0 (lK block_plain.cs0 N K) (zipE block_plain.cs0 [.pointer (some ⟨1, 0, none⟩), .slice (some ⟨0, q * 2, none⟩) (X.length - q) (X.length - q), .int .i64 (X.length - q : Nat), .int .i64 j] ++ E) (lit [rwsF X, bldB 1 2 p o, bufB o]) = (br (decide ((↑j : Int) < (↑(X.length - q) : Int))) (((0 : Int) ≤ (↑j : Int) ∧ (↑j : Int) < (↑(X.length - q) : Int)) ∧ ∃ (s : ByteArray), ∃ (b : Bool), List.take (2 : Nat) (List.drop (q * (2 : Nat) + (↑j : Int).toNat * (2 : Nat)) (rwsC X)) = [Value.string s, Value.bool b] ∧ bok (1 : Nat) p ∧ (o.length + s.size ≤ (100000000000000 : Nat) ∧ o.length ≤ (byV o).length) ∧ br b (bok (1 : Nat) (Value.pointer (some (Addr.mk (1 : Nat) (0 : Nat) none))) ∧ (o.length + s.size + (1 : Nat) ≤ (1000000 : Nat) ∧ (o.length + s.size) * (1 : Nat) ≤ (List.take o.length (byV o) ++ strV s).length) ∧ rng IntKind.i64 ((↑j : Int) + (1 : Int)) ∧ N [Value.pointer (some (Addr.mk (1 : Nat) (0 : Nat) none)), Value.slice (some (Addr.mk (0 : Nat) (q * (2 : Nat)) none)) (X.length - q) (X.length - q), Value.int IntKind.i64 (↑(X.length - q) : Int), Value.int IntKind.i64 ((↑j : Int) + (1 : Int))] (Heap.mk (7 : Nat) [rwsF X, some (Blk.mk TB (2 : Nat) ([Value.pointer (some (Addr.mk (1 : Nat) (0 : Nat) none))] ++ [Value.slice (some (Addr.mk (6 : Nat) (0 : Nat) none)) (o.length + s.size + (1 : Nat)) (o.length + s.size + (1 : Nat))] ++ []) true), none, some (Blk.mk (66 : Nat) (2 : Nat) ([] ++ [Value.string s, Value.bool b] ++ []) true), none, some (Blk.mk TU (1 : Nat) [Value.int IntKind.u8 (10 : Int)] true), some (Blk.mk TU (1 : Nat) (List.take ((o.length + s.size) * (1 : Nat)) (List.take o.length (byV o) ++ strV s) ++ [Value.int IntKind.u8 (10 : Int)]) true)])) (rng IntKind.i64 ((↑j : Int) + (1 : Int)) ∧ N [Value.pointer (some (Addr.mk (1 : Nat) (0 : Nat) none)), Value.slice (some (Addr.mk (0 : Nat) (q * (2 : Nat)) none)) (X.length - q) (X.length - q), Value.int IntKind.i64 (↑(X.length - q) : Int), Value.int IntKind.i64 ((↑j : Int) + (1 : Int))] (Heap.mk (5 : Nat) [rwsF X, some (Blk.mk TB (2 : Nat) ([Value.pointer (some (Addr.mk (1 : Nat) (0 : Nat) none))] ++ [Value.slice (some (Addr.mk (4 : Nat) (0 : Nat) none)) (o.length + s.size) (o.length + s.size)] ++ []) true), none, some (Blk.mk (66 : Nat) (2 : Nat) ([] ++ [Value.string s, Value.bool b] ++ []) true), some (Blk.mk TU (1 : Nat) (List.take o.length (byV o) ++ strV s) true)]))) (K (Exit.exit (0 : Nat)) [Value.pointer (some (Addr.mk (1 : Nat) (0 : Nat) none)), Value.slice (some (Addr.mk (0 : Nat) (q * (2 : Nat)) none)) (X.length - q) (X.length - q), Value.int IntKind.i64 (↑(X.length - q) : Int), Value.int IntKind.i64 (↑j : Int)] (Heap.mk (3 : Nat) [rwsF X, bldB (1 : Nat) (2 : Nat) p o, bufB o]))) := by kernel_rfl
theorem block_plain.lo0 : LOk1 Tryd.prog block_plain.nt block_plain.sp0 (.loop 0 block_plain.l0) := by
  refine loop_resC (σ := (List Rw) × Nat × Value × (List UInt8) × Nat) KE_ok KE_mono (lt0_mono) (LS := lt0) (by simp only [block_plain.l0, LOk, and_true, true_and]) rfl rfl (fun ⟨X, q, p, o, j⟩ => [.pointer (some ⟨1, 0, none⟩), .slice (some ⟨0, q * 2, none⟩) (X.length - q) (X.length - q), .int .i64 (X.length - q : Nat), .int .i64 j]) (fun ⟨X, q, p, o, j⟩ => lit [rwsF X, bldB 1 2 p o, bufB o]) (fun ⟨X, q, p, o, j⟩ => bok 1 p ∧ q ≤ X.length ∧ j ≤ X.length - q ∧ X.length ≤ 900000 ∧ o.length + (plnL (X.drop (q + j))).length ≤ 900000) (fun ⟨X, q, p, o, j⟩ => X.length - q - j) 2 (fun ⟨X, q, p, o, j⟩ K => ∀ (x : Int) (p' : Value), bok 1 p' → K (.exit 0) [.pointer (some ⟨1, 0, none⟩), .slice (some ⟨0, q * 2, none⟩) (X.length - q) (X.length - q), .int .i64 (X.length - q : Nat), .int .i64 x] (lit [rwsF X, bldB 1 2 p' (o ++ plnL (X.drop (q + j))), bufB (o ++ plnL (X.drop (q + j)))])) ?_ ?_
  · rintro vs h K ⟨X, q, p, o, j, ⟨h1, h2, h3⟩, h4⟩
    exact ⟨h1, ⟨X, q, p, o, j⟩, h2, h3, h4⟩
  rintro ⟨X, q, p, o, j⟩ E N K hE hp hN hK
  dsimp only at hp hN hK
  refine Eq.mpr (block_plain.t0 X q p o j E N (fun x => In 2 (K x))) ?_
  obtain ⟨hb0, h1, h2, h3, h4⟩ := hp
  have hov := byV_len o
  refine br_intro (fun hb => ?_) (fun hb => ?_)
  · simp only [decide_eq_true_eq] at hb
    have hj : q + j < X.length := by omega
    have hd := plnL_drop hj
    rw [hd] at hK h4
    simp only [List.length_append] at h4
    have next : ∀ (o' : List UInt8) (k : Nat) (h : Heap), o ++ (X[q + j].t ++ ((if X[q + j].b = true then [10] else []) ++ plnL (X.drop (q + j + 1)))) = o' ++ plnL (X.drop (q + (j + 1))) → 1 < k → Nat.blt k h.n = true → h.g 0 = rwsF X → h.g 1 = some ⟨TB, 2, [.pointer (some ⟨1, 0, none⟩), .slice (some ⟨k, 0, none⟩) o'.length o'.length], true⟩ → h.g k = bufB o' →
        rng .i64 ((j : Int) + 1) ∧ N [.pointer (some ⟨1, 0, none⟩), .slice (some ⟨0, q * 2, none⟩) (X.length - q) (X.length - q), .int .i64 (X.length - q : Nat), .int .i64 ((j : Int) + 1)] h := fun o' k h he hk hn g0 g1 g2 => by
      refine ⟨by simp only [rng]; omega, ?_⟩
      have hlen := congrArg List.length he
      simp only [List.length_append] at hlen
      have := out_rows (vs := [.pointer (some ⟨1, 0, none⟩), .slice (some ⟨0, q * 2, none⟩) (X.length - q) (X.length - q), .int .i64 (X.length - q : Nat), .int .i64 ((j : Int) + 1)]) hk hn g0 g1 g2 (by simp [okT, okA, okF, flatV]) (by simp [renT, renA, ren])
      refine hN (X, q, .pointer (some ⟨1, 0, none⟩), o', j + 1) _ _ ⟨.inr rfl, h1, by dsimp only; omega, h3, by dsimp only; omega⟩ (by dsimp only; omega) ?_ (by dsimp only; rw [show ((j + 1 : Nat) : Int) = (j : Int) + 1 from by omega]; exact this)
      dsimp only
      rw [← he]
      exact hK
    refine ⟨⟨by omega, by omega⟩, strOf X[q + j].t, X[q + j].b, ?_, hb0, ⟨by rw [strOf_size]; omega, by omega⟩, br_intro (fun hc => ?_) (fun hc => ?_)⟩
    · have := rwsC_get hj
      rw [show q * 2 + (j : Int).toNat * 2 = 0 + (q + j) * 2 from by omega]
      exact this
    · rw [hc] at h4
      simp only [if_pos, List.length_singleton] at h4
      refine ⟨.inr rfl, ⟨by rw [strOf_size]; omega, by rw [strOf_size, List.length_append, strV_len, List.length_take, strOf_size]; omega⟩, ?_⟩
      refine next (o ++ X[q + j].t ++ [10]) 6 _ (by rw [hc, if_pos rfl]; simp [Nat.add_assoc]) (by omega) rfl rfl ?_ ?_
      · show some _ = some _
        simp only [List.nil_append, List.append_nil, List.singleton_append, List.length_append, List.length_singleton, strOf_size]
      · show some _ = some _
        rw [List.take_of_length_le (by rw [List.length_append, strV_len, List.length_take]; omega), List.take_of_length_le (by omega), byV_app, byV_app]
        rfl
    · refine next (o ++ X[q + j].t) 4 _ (by rw [hc]; simp [Nat.add_assoc]) (by omega) rfl rfl ?_ ?_
      · show some _ = some _
        simp only [List.nil_append, List.append_nil, List.singleton_append, List.length_append, strOf_size]
      · show some _ = some _
        rw [List.take_of_length_le (by omega), byV_app]
        rfl
  · simp only [decide_eq_false_iff_not] at hb
    have : plnL (X.drop (q + j)) = [] := by rw [List.drop_of_length_le (by omega)]; rfl
    rw [this, List.append_nil] at hK
    exact .inl (hK _ p hb0)

def block_plain.LS : LT := (extL lt0 0 block_plain.sp0)
theorem block_plain.LS_mono : LMono block_plain.LS := (extL_mono lt0_mono block_plain.spm0)
def block_plain.H (X : List Rw) (q : Nat) : List (Option Blk) := [rwsF X]
def block_plain.s : List Value → Heap → VK → Prop := fun vs h K => ∃ (X : List Rw) (q : Nat) (ρl : List (Option Nat)), vs = List.map (renT fun j => ρl.getD j none) [.slice (some ⟨0, q * 2, none⟩) (X.length - q) (X.length - q)] ∧ rowsSee (fun j => ρl.getD j none) (block_plain.H X q).length h (block_plain.H X q) ρl ∧ (q ≤ X.length ∧ X.length ≤ 900000 ∧ (plnL (X.drop q)).length ≤ 900000) ∧ K (.string (strOf (plnL (X.drop q)))) h
theorem block_plain.t (X : List Rw) (q : Nat) (K : VK) : mwp KE (block_plain.LS) block_plain.m (retK [.t 2] K) (argE 0 [.slice (some ⟨0, q * 2, none⟩) (X.length - q) (X.length - q)]) (lit ([rwsF X])) = (∃ (X_1 : List Rw), ∃ (q_1 : Nat), ∃ (p : Value), ∃ (o : List UInt8), ∃ (j : Nat), ((2 : Nat) = (2 : Nat) ∧ In (2 : Nat) (block_plain.N0 X_1 q_1 p o j) [Value.pointer (some (Addr.mk (1 : Nat) (0 : Nat) none)), Value.slice (some (Addr.mk (0 : Nat) (q * (2 : Nat)) none)) (X.length - q) (X.length - q), Value.int IntKind.i64 (↑(X.length - q) : Int), Value.int IntKind.i64 (0 : Int)] (Heap.mk (2 : Nat) [rwsF X, some (Blk.mk (73 : Nat) (2 : Nat) [Value.pointer none, Value.slice none (0 : Nat) (0 : Nat)] true)]) ∧ bok (1 : Nat) p ∧ q_1 ≤ X_1.length ∧ j ≤ X_1.length - q_1 ∧ X_1.length ≤ (900000 : Nat) ∧ o.length + (plnL (List.drop (q_1 + j) X_1)).length ≤ (900000 : Nat)) ∧ ∀ (x : Int) (p' : Value), bok (1 : Nat) p' → bok (1 : Nat) p' ∧ ∃ (l : List UInt8), (byV (o ++ plnL (List.drop (q_1 + j) X_1)) = byV l ∧ (o ++ plnL (List.drop (q_1 + j) X_1)).length = l.length ∧ (o ++ plnL (List.drop (q_1 + j) X_1)).length = l.length ∧ l.length ≤ (100000000000000 : Nat)) ∧ K (Value.string (strOf l)) (Heap.mk (3 : Nat) [rwsF X_1, bldB (1 : Nat) (2 : Nat) p' (o ++ plnL (List.drop (q_1 + j) X_1)), none])) := by kernel_rfl
theorem block_plain.sc : ∀ vs h K, block_plain.s vs h K → ACalls Tryd.prog block_plain.n vs h K := by
  rintro vs h K ⟨X, q, ρl, hvs, hg, hp, hh⟩
  refine ACalls.over ρl hg (by simp [okT, okA, okF, flatV, block_plain.H]) hvs (acalls_mk KE_ok block_plain.ok (LS := block_plain.LS) (by simp only [block_plain.m, LOk, and_true, true_and]; (repeat' apply And.intro) <;> first | trivial | exact block_plain.lo0) (Nat.le_of_ble_eq_true rfl) (Eq.mpr (block_plain.t X q (fun v _ => ck (cleanT v) (K v h))) ?_))
  clear hvs hg
  obtain ⟨h1, h2, h3⟩ := hp
  refine ⟨X, q, .pointer none, [], 0, ⟨rfl, ?_, .inl rfl, h1, Nat.zero_le _, h2, by rw [Nat.add_zero, List.length_nil, Nat.zero_add]; exact h3⟩, fun x p' hb => ⟨hb, plnL (X.drop q), ?_, ck_iff.2 ⟨rfl, hh⟩⟩⟩
  · refine In.rows [some 0, some 1, none] ⟨⟨rfl, okF_all (rwsC_flat _), ?_⟩, ⟨rfl, ?_, ?_⟩, rfl, trivial⟩ rfl rfl rfl ?_ ?_
    · rw [map_ren_flat (rwsC_flat _)]; rfl
    · simp [okF, flatV]
    · rfl
    · simp [renT, renA, ren]
    · simp [okT, okA, okF, flatV]
  · rw [List.nil_append, Nat.add_zero]
    exact ⟨rfl, rfl, rfl, by omega⟩
theorem block_plain.sm : SpecMono block_plain.s := by
  rintro vs h K K' hk ⟨X, q, ρl, h1, h2, h3, h4⟩
  exact ⟨X, q, ρl, h1, h2, h3, hk _ _ h4⟩
theorem block_plain.sd : SpecDet block_plain.s := by
  rintro vs h K ⟨X, q, ρl, h1, h2, h3, h4⟩
  exact ⟨_, h4, X, q, ρl, h1, h2, h3, rfl⟩

theorem seeR {X : List Rw} {h : Heap} {k : Nat} {o : Bool} (hk : Nat.blt k h.n = true) (hg : h.g k = some ⟨TRw, 2, rwsC X, o⟩) : rowsSee (fun j => [some k].getD j none) [rwsF X].length h [rwsF X] [some k] :=
  ⟨⟨hk, rfl, okF_all (rwsC_flat X), o, by rw [map_ren_flat (rwsC_flat X)]; exact hg⟩, trivial⟩
def blkR (s : ByteArray) : Bool := !decide (s = ByteArray.mk #[]) && (decide (((byteAt s 0).toNat : Int) = 32) || decide (((byteAt s 0).toNat : Int) = 9))
def KF : CT := (extC (extC (extC KE block_plain.n block_plain.s) strings_Repeat.n strings_Repeat.s) rows_Folded.n rows_Folded.s)
theorem KF_ok : COk Tryd.prog KF := (extC_ok (extC_ok (extC_ok KE_ok block_plain.sc block_plain.sd) strings_Repeat.sc strings_Repeat.sd) rows_Folded.sc rows_Folded.sd)
theorem KF_mono : CMono KF := (extC_mono (extC_mono (extC_mono KE_mono block_plain.sm) strings_Repeat.sm) rows_Folded.sm)
def block_blank.s : List Value → Heap → VK → Prop
  | [.agg ⟨[.string s, .bool b]⟩], h, K => K (.bool (blkR s)) h
  | _, _, _ => False
theorem block_blank.t (s : ByteArray) (b : Bool) (K : VK) : mwp KF (lt0) block_blank.m (retK [.t 2] K) (argE 0 [.agg #[.string s, .bool b]]) (lit []) = (br (!decide (s = ByteArray.mk #[])) (((0 : Int) ≤ (0 : Int) ∧ (0 : Int) < (↑s.size : Int)) ∧ br (decide ((↑(byteAt s (Int.toNat (0 : Int))).toNat : Int) = (32 : Int))) (K (Value.bool true) (Heap.mk (1 : Nat) [some (Blk.mk (66 : Nat) (2 : Nat) [Value.string s, Value.bool b] true)])) (((0 : Int) ≤ (0 : Int) ∧ (0 : Int) < (↑s.size : Int)) ∧ K (Value.bool (decide ((↑(byteAt s (Int.toNat (0 : Int))).toNat : Int) = (9 : Int)))) (Heap.mk (1 : Nat) [some (Blk.mk (66 : Nat) (2 : Nat) [Value.string s, Value.bool b] true)]))) (K (Value.bool false) (Heap.mk (1 : Nat) [some (Blk.mk (66 : Nat) (2 : Nat) [Value.string s, Value.bool b] true)]))) := by kernel_rfl
theorem block_blank.c (s : ByteArray) (b : Bool) (h : Heap) (K : VK) (hh : K (.bool (blkR s)) h) : ACalls Tryd.prog block_blank.n [.agg #[.string s, .bool b]] h K := by
  refine ACalls.alone rfl (acalls_mk KF_ok block_blank.ok (LS := lt0) (by simp only [block_blank.m, LOk, and_true, true_and]) (Nat.le_of_ble_eq_true rfl) (Eq.mpr (block_blank.t s b (fun v _ => ck (cleanT v) (K v h))) ?_))
  have hfin : ∀ c, blkR s = c → ck (cleanT (.bool c)) (K (.bool c) h) := fun c e => ck_iff.2 ⟨rfl, by rw [e] at hh; exact hh⟩
  have z0 : decide (s = ByteArray.mk #[]) = false → 0 < s.size := fun e => by
    rcases Nat.eq_zero_or_pos s.size with h0 | h0
    · exfalso
      simp only [decide_eq_false_iff_not] at e
      exact e (ByteArray.ext (Array.eq_empty_of_size_eq_zero h0))
    · exact h0
  refine br_intro (fun hb => ?_) (fun hb => ?_)
  · simp only [Bool.not_eq_true'] at hb
    have hz := z0 hb
    refine ⟨⟨by omega, by omega⟩, br_intro (fun hc => ?_) (fun hc => ⟨⟨by omega, by omega⟩, ?_⟩)⟩
    · exact hfin true (by unfold blkR; rw [hb]; rw [show decide (((byteAt s 0).toNat : Int) = 32) = true from hc]; rfl)
    · exact hfin _ (by unfold blkR; rw [hb]; rw [show decide (((byteAt s 0).toNat : Int) = 32) = false from hc]; simp)
  · simp only [Bool.not_eq_false'] at hb
    exact hfin false (by unfold blkR; rw [hb]; rfl)
theorem block_blank.sc : ∀ vs h K, block_blank.s vs h K → ACalls Tryd.prog block_blank.n vs h K := by
  intro vs h K hh; unfold block_blank.s at hh; split at hh
  · exact block_blank.c _ _ _ _ hh
  · exact hh.elim
theorem block_blank.sm : SpecMono block_blank.s := by
  intro vs h K K' hk hh; unfold block_blank.s at hh ⊢; split at hh
  · exact hk _ _ hh
  · exact hh.elim
theorem block_blank.sd : SpecDet block_blank.s := by
  intro vs h K hh; unfold block_blank.s at hh; split at hh
  · exact ⟨_, hh, rfl⟩
  · exact hh.elim

/-! ### Folded -/
/-- Rows folded behind a full one (none: there was none), n empty ones between. -/
def fld : Option (List UInt8) → Nat → List Rw → List UInt8
  | _, _, [] => []
  | p, n, x :: l => if x.t = [] then fld p (n + 1) l else
    (match p with
      | none => List.replicate n 10
      | some q => if (blkR (strOf x.t) || blkR (strOf q)) = true then List.replicate (n + 1) 10 else foldedL (n + 1)) ++ (x.t ++ fld (some x.t) 0 l)
theorem fld_cons (p : Option (List UInt8)) (n : Nat) (x : Rw) (l : List Rw) : fld p n (x :: l) = if x.t = [] then fld p (n + 1) l else
    (match p with
      | none => List.replicate n 10
      | some q => if (blkR (strOf x.t) || blkR (strOf q)) = true then List.replicate (n + 1) 10 else foldedL (n + 1)) ++ (x.t ++ fld (some x.t) 0 l) := by
  cases p <;> rfl
theorem fld_nil (p : Option (List UInt8)) (n : Nat) : fld p n [] = [] := by cases p <;> rfl
/-- The last full row's number. -/
def lastF : Int → Nat → List Rw → Int
  | q, _, [] => q
  | q, j, x :: l => lastF (if x.t = [] then q else j) (j + 1) l
def KG : CT := (extC KF block_blank.n block_blank.s)
theorem KG_ok : COk Tryd.prog KG := (extC_ok KF_ok block_blank.sc block_blank.sd)
theorem KG_mono : CMono KG := (extC_mono KF_mono block_blank.sm)
theorem rep10 : ∀ k : Nat, Lib.repeatL (lst (ByteArray.mk #[(10 : UInt8)])) k = List.replicate k 10
  | 0 => rfl
  | k + 1 => by rw [Lib.repeatL, rep10 k]; rfl
theorem strOf_nil (l : List UInt8) : decide (strOf l = ByteArray.mk #[]) = decide (l = []) := by
  rw [Bool.eq_iff_iff, decide_eq_true_eq, decide_eq_true_eq]
  constructor
  · intro h
    have := congrArg lst h
    rwa [lst_strOf] at this
  · rintro rfl; rfl
def prevR (X : List Rw) (q : Int) : Option (List UInt8) := if q < 0 then none else some (X.getD q.toNat ⟨[], false⟩).t
def block_fold.N0 (X : List Rw) (p : Value) (o : List UInt8) (q : Int) (j : Nat) (vs : List Value) (h : Heap) : Prop := vs = [.slice (some ⟨0, 0, none⟩) X.length X.length, .pointer (some ⟨1, 0, none⟩), .int .i64 q, .slice (some ⟨0, 0, none⟩) X.length X.length, .int .i64 X.length, .int .i64 j] ∧ h = lit [rwsB X, bldB 1 2 p o, bufB o]
def block_fold.sp0 : LSpec := ⟨block_fold.cs0, block_fold.ts0, fun vs h K => ∃ (X : List Rw) (p : Value) (o : List UInt8) (q : Int) (j : Nat), (h.n = 2 ∧ In 2 (block_fold.N0 X p o q j) vs h ∧ (bok 1 p ∧ j ≤ X.length ∧ X.length ≤ 900000 ∧ -1 ≤ q ∧ q < j ∧ o.length + (fld (prevR X q) (j - q - 1).toNat (X.drop j)).length ≤ 900000)) ∧ (∀ (x : Int) (p' : Value), bok 1 p' → K (.exit 0) [.slice (some ⟨0, 0, none⟩) X.length X.length, .pointer (some ⟨1, 0, none⟩), .int .i64 (lastF q j (X.drop j)), .slice (some ⟨0, 0, none⟩) X.length X.length, .int .i64 X.length, .int .i64 x] (lit [rwsB X, bldB 1 2 p' (o ++ fld (prevR X q) (j - q - 1).toNat (X.drop j)), bufB (o ++ fld (prevR X q) (j - q - 1).toNat (X.drop j))]))⟩
theorem block_fold.spm0 : LSpecMono block_fold.sp0 := by
  rintro vs h K K' hk ⟨X, p, o, q, j, h3, h4⟩
  exact ⟨X, p, o, q, j, h3, fun x p' hp => hk _ _ _ (h4 x p' hp)⟩
theorem block_fold.t0 (X : List Rw) (p : Value) (o : List UInt8) (q : Int) (j : Nat) (E : Env) (N : List Value → Heap → Prop) (K : LK) : mwp KG (lt0) block_fold.l0 (lK block_fold.cs0 N K) (zipE block_fold.cs0 [.slice (some ⟨0, 0, none⟩) X.length X.length, .pointer (some ⟨1, 0, none⟩), .int .i64 q, .slice (some ⟨0, 0, none⟩) X.length X.length, .int .i64 X.length, .int .i64 j] ++ E) (lit [rwsB X, bldB 1 2 p o, bufB o]) = (br (decide ((↑j : Int) < (↑X.length : Int))) (((0 : Int) ≤ (↑j : Int) ∧ (↑j : Int) < (↑X.length : Int)) ∧ ∃ (s : ByteArray), ∃ (b : Bool), List.take (2 : Nat) (List.drop ((0 : Nat) + (↑j : Int).toNat * (2 : Nat)) (rwsC X)) = [Value.string s, Value.bool b] ∧ br (decide (s = ByteArray.mk #[])) (rng IntKind.i64 ((↑j : Int) + (1 : Int)) ∧ N [Value.slice (some (Addr.mk (0 : Nat) (0 : Nat) none)) X.length X.length, Value.pointer (some (Addr.mk (1 : Nat) (0 : Nat) none)), Value.int IntKind.i64 q, Value.slice (some (Addr.mk (0 : Nat) (0 : Nat) none)) X.length X.length, Value.int IntKind.i64 (↑X.length : Int), Value.int IntKind.i64 ((↑j : Int) + (1 : Int))] (Heap.mk (4 : Nat) [rwsB X, bldB (1 : Nat) (2 : Nat) p o, bufB o, some (Blk.mk (66 : Nat) (2 : Nat) ([] ++ [Value.string s, Value.bool b] ++ []) true)])) (rng IntKind.i64 ((↑j : Int) - q) ∧ rng IntKind.i64 ((↑j : Int) - q - (1 : Int)) ∧ br (decide (q < (0 : Int))) (((0 : Int) ≤ (↑j : Int) - q - (1 : Int) ∧ (↑j : Int) - q - (1 : Int) ≤ (1000000 : Int) ∧ (ByteArray.mk #[(10 : UInt8)]).size ≤ (1000000 : Nat)) ∧ bok (1 : Nat) p ∧ (o.length + (strOf (Lib.repeatL (lst (ByteArray.mk #[(10 : UInt8)])) ((↑j : Int) - q - (1 : Int)).toNat)).size ≤ (100000000000000 : Nat) ∧ o.length ≤ (byV o).length) ∧ bok (1 : Nat) (Value.pointer (some (Addr.mk (1 : Nat) (0 : Nat) none))) ∧ (o.length + (strOf (Lib.repeatL (lst (ByteArray.mk #[(10 : UInt8)])) ((↑j : Int) - q - (1 : Int)).toNat)).size + s.size ≤ (100000000000000 : Nat) ∧ o.length + (strOf (Lib.repeatL (lst (ByteArray.mk #[(10 : UInt8)])) ((↑j : Int) - q - (1 : Int)).toNat)).size ≤ (List.take o.length (byV o) ++ strV (strOf (Lib.repeatL (lst (ByteArray.mk #[(10 : UInt8)])) ((↑j : Int) - q - (1 : Int)).toNat))).length) ∧ rng IntKind.i64 ((↑j : Int) + (1 : Int)) ∧ N [Value.slice (some (Addr.mk (0 : Nat) (0 : Nat) none)) X.length X.length, Value.pointer (some (Addr.mk (1 : Nat) (0 : Nat) none)), Value.int IntKind.i64 (↑j : Int), Value.slice (some (Addr.mk (0 : Nat) (0 : Nat) none)) X.length X.length, Value.int IntKind.i64 (↑X.length : Int), Value.int IntKind.i64 ((↑j : Int) + (1 : Int))] (Heap.mk (6 : Nat) [rwsB X, some (Blk.mk TB (2 : Nat) ([Value.pointer (some (Addr.mk (1 : Nat) (0 : Nat) none))] ++ [Value.slice (some (Addr.mk (5 : Nat) (0 : Nat) none)) (o.length + (strOf (Lib.repeatL (lst (ByteArray.mk #[(10 : UInt8)])) ((↑j : Int) - q - (1 : Int)).toNat)).size + s.size) (o.length + (strOf (Lib.repeatL (lst (ByteArray.mk #[(10 : UInt8)])) ((↑j : Int) - q - (1 : Int)).toNat)).size + s.size)] ++ []) true), none, some (Blk.mk (66 : Nat) (2 : Nat) ([] ++ [Value.string s, Value.bool b] ++ []) true), none, some (Blk.mk TU (1 : Nat) (List.take (o.length + (strOf (Lib.repeatL (lst (ByteArray.mk #[(10 : UInt8)])) ((↑j : Int) - q - (1 : Int)).toNat)).size) (List.take o.length (byV o) ++ strV (strOf (Lib.repeatL (lst (ByteArray.mk #[(10 : UInt8)])) ((↑j : Int) - q - (1 : Int)).toNat))) ++ strV s) true)])) (br (blkR s) (rng IntKind.i64 ((↑j : Int) - q - (1 : Int) + (1 : Int)) ∧ ((0 : Int) ≤ (↑j : Int) - q - (1 : Int) + (1 : Int) ∧ (↑j : Int) - q - (1 : Int) + (1 : Int) ≤ (1000000 : Int) ∧ (ByteArray.mk #[(10 : UInt8)]).size ≤ (1000000 : Nat)) ∧ bok (1 : Nat) p ∧ (o.length + (strOf (Lib.repeatL (lst (ByteArray.mk #[(10 : UInt8)])) ((↑j : Int) - q - (1 : Int) + (1 : Int)).toNat)).size ≤ (100000000000000 : Nat) ∧ o.length ≤ (byV o).length) ∧ bok (1 : Nat) (Value.pointer (some (Addr.mk (1 : Nat) (0 : Nat) none))) ∧ (o.length + (strOf (Lib.repeatL (lst (ByteArray.mk #[(10 : UInt8)])) ((↑j : Int) - q - (1 : Int) + (1 : Int)).toNat)).size + s.size ≤ (100000000000000 : Nat) ∧ o.length + (strOf (Lib.repeatL (lst (ByteArray.mk #[(10 : UInt8)])) ((↑j : Int) - q - (1 : Int) + (1 : Int)).toNat)).size ≤ (List.take o.length (byV o) ++ strV (strOf (Lib.repeatL (lst (ByteArray.mk #[(10 : UInt8)])) ((↑j : Int) - q - (1 : Int) + (1 : Int)).toNat))).length) ∧ rng IntKind.i64 ((↑j : Int) + (1 : Int)) ∧ N [Value.slice (some (Addr.mk (0 : Nat) (0 : Nat) none)) X.length X.length, Value.pointer (some (Addr.mk (1 : Nat) (0 : Nat) none)), Value.int IntKind.i64 (↑j : Int), Value.slice (some (Addr.mk (0 : Nat) (0 : Nat) none)) X.length X.length, Value.int IntKind.i64 (↑X.length : Int), Value.int IntKind.i64 ((↑j : Int) + (1 : Int))] (Heap.mk (6 : Nat) [rwsB X, some (Blk.mk TB (2 : Nat) ([Value.pointer (some (Addr.mk (1 : Nat) (0 : Nat) none))] ++ [Value.slice (some (Addr.mk (5 : Nat) (0 : Nat) none)) (o.length + (strOf (Lib.repeatL (lst (ByteArray.mk #[(10 : UInt8)])) ((↑j : Int) - q - (1 : Int) + (1 : Int)).toNat)).size + s.size) (o.length + (strOf (Lib.repeatL (lst (ByteArray.mk #[(10 : UInt8)])) ((↑j : Int) - q - (1 : Int) + (1 : Int)).toNat)).size + s.size)] ++ []) true), none, some (Blk.mk (66 : Nat) (2 : Nat) ([] ++ [Value.string s, Value.bool b] ++ []) true), none, some (Blk.mk TU (1 : Nat) (List.take (o.length + (strOf (Lib.repeatL (lst (ByteArray.mk #[(10 : UInt8)])) ((↑j : Int) - q - (1 : Int) + (1 : Int)).toNat)).size) (List.take o.length (byV o) ++ strV (strOf (Lib.repeatL (lst (ByteArray.mk #[(10 : UInt8)])) ((↑j : Int) - q - (1 : Int) + (1 : Int)).toNat))) ++ strV s) true)])) (((0 : Int) ≤ q ∧ q < (↑X.length : Int)) ∧ ∃ (s_1 : ByteArray), ∃ (b_1 : Bool), List.take (2 : Nat) (List.drop ((0 : Nat) + q.toNat * (2 : Nat)) (rwsC X)) = [Value.string s_1, Value.bool b_1] ∧ br (blkR s_1) (rng IntKind.i64 ((↑j : Int) - q - (1 : Int) + (1 : Int)) ∧ ((0 : Int) ≤ (↑j : Int) - q - (1 : Int) + (1 : Int) ∧ (↑j : Int) - q - (1 : Int) + (1 : Int) ≤ (1000000 : Int) ∧ (ByteArray.mk #[(10 : UInt8)]).size ≤ (1000000 : Nat)) ∧ bok (1 : Nat) p ∧ (o.length + (strOf (Lib.repeatL (lst (ByteArray.mk #[(10 : UInt8)])) ((↑j : Int) - q - (1 : Int) + (1 : Int)).toNat)).size ≤ (100000000000000 : Nat) ∧ o.length ≤ (byV o).length) ∧ bok (1 : Nat) (Value.pointer (some (Addr.mk (1 : Nat) (0 : Nat) none))) ∧ (o.length + (strOf (Lib.repeatL (lst (ByteArray.mk #[(10 : UInt8)])) ((↑j : Int) - q - (1 : Int) + (1 : Int)).toNat)).size + s.size ≤ (100000000000000 : Nat) ∧ o.length + (strOf (Lib.repeatL (lst (ByteArray.mk #[(10 : UInt8)])) ((↑j : Int) - q - (1 : Int) + (1 : Int)).toNat)).size ≤ (List.take o.length (byV o) ++ strV (strOf (Lib.repeatL (lst (ByteArray.mk #[(10 : UInt8)])) ((↑j : Int) - q - (1 : Int) + (1 : Int)).toNat))).length) ∧ rng IntKind.i64 ((↑j : Int) + (1 : Int)) ∧ N [Value.slice (some (Addr.mk (0 : Nat) (0 : Nat) none)) X.length X.length, Value.pointer (some (Addr.mk (1 : Nat) (0 : Nat) none)), Value.int IntKind.i64 (↑j : Int), Value.slice (some (Addr.mk (0 : Nat) (0 : Nat) none)) X.length X.length, Value.int IntKind.i64 (↑X.length : Int), Value.int IntKind.i64 ((↑j : Int) + (1 : Int))] (Heap.mk (6 : Nat) [rwsB X, some (Blk.mk TB (2 : Nat) ([Value.pointer (some (Addr.mk (1 : Nat) (0 : Nat) none))] ++ [Value.slice (some (Addr.mk (5 : Nat) (0 : Nat) none)) (o.length + (strOf (Lib.repeatL (lst (ByteArray.mk #[(10 : UInt8)])) ((↑j : Int) - q - (1 : Int) + (1 : Int)).toNat)).size + s.size) (o.length + (strOf (Lib.repeatL (lst (ByteArray.mk #[(10 : UInt8)])) ((↑j : Int) - q - (1 : Int) + (1 : Int)).toNat)).size + s.size)] ++ []) true), none, some (Blk.mk (66 : Nat) (2 : Nat) ([] ++ [Value.string s, Value.bool b] ++ []) true), none, some (Blk.mk TU (1 : Nat) (List.take (o.length + (strOf (Lib.repeatL (lst (ByteArray.mk #[(10 : UInt8)])) ((↑j : Int) - q - (1 : Int) + (1 : Int)).toNat)).size) (List.take o.length (byV o) ++ strV (strOf (Lib.repeatL (lst (ByteArray.mk #[(10 : UInt8)])) ((↑j : Int) - q - (1 : Int) + (1 : Int)).toNat))) ++ strV s) true)])) (rng IntKind.i64 ((↑j : Int) - q - (1 : Int) + (1 : Int)) ∧ ((-1000000 : Int) ≤ (↑j : Int) - q - (1 : Int) + (1 : Int) ∧ (↑j : Int) - q - (1 : Int) + (1 : Int) ≤ (1000000 : Int)) ∧ bok (1 : Nat) p ∧ (o.length + (strOf (foldedL ((↑j : Int) - q - (1 : Int) + (1 : Int)))).size ≤ (100000000000000 : Nat) ∧ o.length ≤ (byV o).length) ∧ bok (1 : Nat) (Value.pointer (some (Addr.mk (1 : Nat) (0 : Nat) none))) ∧ (o.length + (strOf (foldedL ((↑j : Int) - q - (1 : Int) + (1 : Int)))).size + s.size ≤ (100000000000000 : Nat) ∧ o.length + (strOf (foldedL ((↑j : Int) - q - (1 : Int) + (1 : Int)))).size ≤ (List.take o.length (byV o) ++ strV (strOf (foldedL ((↑j : Int) - q - (1 : Int) + (1 : Int))))).length) ∧ rng IntKind.i64 ((↑j : Int) + (1 : Int)) ∧ N [Value.slice (some (Addr.mk (0 : Nat) (0 : Nat) none)) X.length X.length, Value.pointer (some (Addr.mk (1 : Nat) (0 : Nat) none)), Value.int IntKind.i64 (↑j : Int), Value.slice (some (Addr.mk (0 : Nat) (0 : Nat) none)) X.length X.length, Value.int IntKind.i64 (↑X.length : Int), Value.int IntKind.i64 ((↑j : Int) + (1 : Int))] (Heap.mk (6 : Nat) [rwsB X, some (Blk.mk TB (2 : Nat) ([Value.pointer (some (Addr.mk (1 : Nat) (0 : Nat) none))] ++ [Value.slice (some (Addr.mk (5 : Nat) (0 : Nat) none)) (o.length + (strOf (foldedL ((↑j : Int) - q - (1 : Int) + (1 : Int)))).size + s.size) (o.length + (strOf (foldedL ((↑j : Int) - q - (1 : Int) + (1 : Int)))).size + s.size)] ++ []) true), none, some (Blk.mk (66 : Nat) (2 : Nat) ([] ++ [Value.string s, Value.bool b] ++ []) true), none, some (Blk.mk TU (1 : Nat) (List.take (o.length + (strOf (foldedL ((↑j : Int) - q - (1 : Int) + (1 : Int)))).size) (List.take o.length (byV o) ++ strV (strOf (foldedL ((↑j : Int) - q - (1 : Int) + (1 : Int))))) ++ strV s) true)])))))) (K (Exit.exit (0 : Nat)) [Value.slice (some (Addr.mk (0 : Nat) (0 : Nat) none)) X.length X.length, Value.pointer (some (Addr.mk (1 : Nat) (0 : Nat) none)), Value.int IntKind.i64 q, Value.slice (some (Addr.mk (0 : Nat) (0 : Nat) none)) X.length X.length, Value.int IntKind.i64 (↑X.length : Int), Value.int IntKind.i64 (↑j : Int)] (Heap.mk (3 : Nat) [rwsB X, bldB (1 : Nat) (2 : Nat) p o, bufB o]))) := by kernel_rfl
theorem block_fold.lo0 : LOk1 Tryd.prog block_fold.nt block_fold.sp0 (.loop 0 block_fold.l0) := by
  refine loop_resC (σ := (List Rw) × Value × (List UInt8) × Int × Nat) KG_ok KG_mono (lt0_mono) (LS := lt0) (by simp only [block_fold.l0, LOk, and_true, true_and]) rfl rfl (fun ⟨X, p, o, q, j⟩ => [.slice (some ⟨0, 0, none⟩) X.length X.length, .pointer (some ⟨1, 0, none⟩), .int .i64 q, .slice (some ⟨0, 0, none⟩) X.length X.length, .int .i64 X.length, .int .i64 j]) (fun ⟨X, p, o, q, j⟩ => lit [rwsB X, bldB 1 2 p o, bufB o]) (fun ⟨X, p, o, q, j⟩ => bok 1 p ∧ j ≤ X.length ∧ X.length ≤ 900000 ∧ -1 ≤ q ∧ q < j ∧ o.length + (fld (prevR X q) (j - q - 1).toNat (X.drop j)).length ≤ 900000) (fun ⟨X, p, o, q, j⟩ => X.length - j) 2 (fun ⟨X, p, o, q, j⟩ K => ∀ (x : Int) (p' : Value), bok 1 p' → K (.exit 0) [.slice (some ⟨0, 0, none⟩) X.length X.length, .pointer (some ⟨1, 0, none⟩), .int .i64 (lastF q j (X.drop j)), .slice (some ⟨0, 0, none⟩) X.length X.length, .int .i64 X.length, .int .i64 x] (lit [rwsB X, bldB 1 2 p' (o ++ fld (prevR X q) (j - q - 1).toNat (X.drop j)), bufB (o ++ fld (prevR X q) (j - q - 1).toNat (X.drop j))])) ?_ ?_
  · rintro vs h K ⟨X, p, o, q, j, ⟨h1, h2, h3⟩, h4⟩
    exact ⟨h1, ⟨X, p, o, q, j⟩, h2, h3, h4⟩
  rintro ⟨X, p, o, q, j⟩ E N K hE hp hN hK
  dsimp only at hp hN hK
  refine Eq.mpr (block_fold.t0 X p o q j E N (fun x => In 2 (K x))) ?_
  obtain ⟨hb0, h1, h2, h3, h4, h5⟩ := hp
  have hov := byV_len o
  simp only [rep10]
  refine br_intro (fun hb => ?_) (fun hb => ?_)
  · simp only [decide_eq_true_eq] at hb
    have hj : j < X.length := by omega
    rw [List.drop_eq_getElem_cons hj, fld_cons, lastF] at hK
    rw [List.drop_eq_getElem_cons hj, fld_cons] at h5
    have z10 : (ByteArray.mk #[(10 : UInt8)]).size = 1 := rfl
    have ej : ((j + 1 : Nat) : Int) = (j : Int) + 1 := by omega
    have hd1 : X.drop (j + 1) = X.drop (j + 1) := rfl
    refine ⟨⟨by omega, by omega⟩, strOf X[j].t, X[j].b, by rw [show 0 + (j : Int).toNat * 2 = 0 + j * 2 from by omega]; exact rwsC_get hj, ?_⟩
    rw [strOf_nil]
    by_cases hx : X[j].t = []
    · rw [if_pos hx, if_pos hx] at hK
      rw [if_pos hx] at h5
      rw [decide_eq_true hx, br_t]
      have en : ((j : Int) - q - 1).toNat + 1 = (((j + 1 : Nat) : Int) - q - 1).toNat := by omega
      rw [en] at hK h5
      refine ⟨by simp only [rng]; omega, hN (X, p, o, q, j + 1) _ _ ⟨hb0, by dsimp only; omega, h2, h3, by dsimp only; omega, h5⟩ (by dsimp only; omega) hK ?_⟩
      refine In.rows [some 0, some 1, some 2] ⟨⟨rfl, okF_all (rwsC_flat _), ?_⟩, ⟨rfl, ?_, ?_⟩, ⟨rfl, okF_all (byV_flat _), ?_⟩, trivial⟩ rfl rfl rfl ?_ ?_
      · rw [map_ren_flat (rwsC_flat _)]; rfl
      · rcases hb0 with rfl | rfl <;> simp [okF, flatV]
      · rcases hb0 with rfl | rfl <;> simp [ren] <;> rfl
      · rw [map_ren_flat (byV_flat _)]; rfl
      · dsimp only; rw [ej]; simp [renT, renA, ren]
      · simp [okT, okA, okF, flatV]
    · rw [if_neg hx, if_neg hx] at hK
      rw [if_neg hx] at h5
      rw [decide_eq_false hx, br_f]
      have epr : prevR X (j : Int) = some X[j].t := by
        unfold prevR
        rw [if_neg (by omega), show (j : Int).toNat = j from rfl, List.getD_eq_getElem?_getD, List.getElem?_eq_getElem hj]; rfl
      have e0 : (((j + 1 : Nat) : Int) - (j : Int) - 1).toNat = 0 := by omega
      simp only [List.length_append] at h5
      have put : ∀ P : List UInt8, (match prevR X q with
          | none => List.replicate ((j : Int) - q - 1).toNat 10
          | some q' => if (blkR (strOf X[j].t) || blkR (strOf q')) = true then List.replicate (((j : Int) - q - 1).toNat + 1) 10 else foldedL ((((j : Int) - q - 1).toNat : Int) + 1)) = P →
          bok 1 p ∧ (o.length + (strOf P).size ≤ (100000000000000 : Nat) ∧ o.length ≤ (byV o).length) ∧ bok 1 (.pointer (some ⟨1, 0, none⟩)) ∧ (o.length + (strOf P).size + (strOf X[j].t).size ≤ (100000000000000 : Nat) ∧ o.length + (strOf P).size ≤ (List.take o.length (byV o) ++ strV (strOf P)).length) ∧ rng .i64 ((j : Int) + 1) ∧ N [.slice (some ⟨0, 0, none⟩) X.length X.length, .pointer (some ⟨1, 0, none⟩), .int .i64 j, .slice (some ⟨0, 0, none⟩) X.length X.length, .int .i64 X.length, .int .i64 ((j : Int) + 1)]
            (Heap.mk 6 [rwsB X, some (Blk.mk TB 2 ([.pointer (some ⟨1, 0, none⟩)] ++ [.slice (some ⟨5, 0, none⟩) (o.length + (strOf P).size + (strOf X[j].t).size) (o.length + (strOf P).size + (strOf X[j].t).size)] ++ []) true), none, some (Blk.mk 66 2 ([] ++ [.string (strOf X[j].t), .bool X[j].b] ++ []) true), none, some (Blk.mk TU 1 (List.take (o.length + (strOf P).size) (List.take o.length (byV o) ++ strV (strOf P)) ++ strV (strOf X[j].t)) true)]) := fun P hP => by
        rw [hP] at hK h5
        have hsP : (strOf P).size = P.length := strOf_size P
        have hsx : (strOf X[j].t).size = X[j].t.length := strOf_size _
        refine ⟨hb0, ⟨by omega, by omega⟩, .inr rfl, ⟨by omega, by rw [List.length_append, strV_len, List.length_take]; omega⟩, by simp only [rng]; omega, ?_⟩
        refine hN (X, .pointer (some ⟨1, 0, none⟩), o ++ P ++ X[j].t, j, j + 1) _ _ ⟨.inr rfl, by dsimp only; omega, h2, by dsimp only; omega, by dsimp only; omega, ?_⟩ (by dsimp only; omega) ?_ ?_
        · dsimp only
          rw [epr, e0]
          simp only [List.length_append]
          omega
        · dsimp only
          rw [epr, e0, List.append_assoc, List.append_assoc]
          exact hK
        · have := out_rows (X := X) (ow := true) (o := o ++ P ++ X[j].t) (k := 5) (h := Heap.mk 6 [rwsB X, some (Blk.mk TB 2 ([.pointer (some ⟨1, 0, none⟩)] ++ [.slice (some ⟨5, 0, none⟩) (o.length + (strOf P).size + (strOf X[j].t).size) (o.length + (strOf P).size + (strOf X[j].t).size)] ++ []) true), none, some (Blk.mk 66 2 ([] ++ [.string (strOf X[j].t), .bool X[j].b] ++ []) true), none, some (Blk.mk TU 1 (List.take (o.length + (strOf P).size) (List.take o.length (byV o) ++ strV (strOf P)) ++ strV (strOf X[j].t)) true)])
            (vs := [.slice (some ⟨0, 0, none⟩) X.length X.length, .pointer (some ⟨1, 0, none⟩), .int .i64 j, .slice (some ⟨0, 0, none⟩) X.length X.length, .int .i64 X.length, .int .i64 ((j : Int) + 1)]) (by decide) rfl rfl ?_ ?_ (by simp [okT, okA, okF, flatV]) (by simp [renT, renA, ren])
          · dsimp only; rw [ej]; exact this
          · show some _ = some _
            rw [hsP, hsx]
            simp only [List.nil_append, List.append_nil, List.singleton_append, List.length_append]
          · show some _ = some _
            rw [List.take_of_length_le (by rw [List.length_append, strV_len, List.length_take]; omega), List.take_of_length_le (by omega), byV_app, byV_app]
            rfl
      refine ⟨by simp only [rng]; omega, by simp only [rng]; omega, br_intro (fun hq => ?_) (fun hq => ?_)⟩
      · simp only [decide_eq_true_eq] at hq
        refine ⟨⟨by omega, by omega, by omega⟩, put _ ?_⟩
        unfold prevR; rw [if_pos hq]
      · simp only [decide_eq_false_iff_not] at hq
        have hql : q.toNat < X.length := by omega
        have epq : prevR X q = some X[q.toNat].t := by
          unfold prevR; rw [if_neg hq, List.getD_eq_getElem?_getD, List.getElem?_eq_getElem hql]; rfl
        have en : ((j : Int) - q - 1 + 1).toNat = ((j : Int) - q - 1).toNat + 1 := by omega
        have en2 : (j : Int) - q - 1 + 1 = (((j : Int) - q - 1).toNat : Int) + 1 := by omega
        rw [epq] at put
        dsimp only at put
        refine br_intro (fun hc => ?_) (fun hc => ⟨⟨by omega, by omega⟩, strOf X[q.toNat].t, X[q.toNat].b, rwsC_get hql, br_intro (fun hd => ?_) (fun hd => ?_)⟩)
        · refine ⟨by simp only [rng]; omega, ⟨by omega, by omega, by omega⟩, ?_⟩
          rw [en]
          exact put _ (by rw [hc]; rfl)
        · refine ⟨by simp only [rng]; omega, ⟨by omega, by omega, by omega⟩, ?_⟩
          rw [en]
          exact put _ (by rw [hc, hd]; rfl)
        · refine ⟨by simp only [rng]; omega, ⟨by omega, by omega⟩, ?_⟩
          rw [en2]
          exact put _ (by rw [hc, hd]; rfl)
  · simp only [decide_eq_false_iff_not] at hb
    have e0 : X.drop j = [] := List.drop_of_length_le (by omega)
    rw [e0] at hK
    rw [fld_nil, List.append_nil] at hK
    exact .inl (hK _ p hb0)

end Go.Mini
