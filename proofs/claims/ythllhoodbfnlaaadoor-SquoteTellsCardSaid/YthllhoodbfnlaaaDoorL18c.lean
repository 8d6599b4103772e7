/- SquoteTells: for every input the answer is true. No condition. -/
import Derived.Test.YthllhoodbfnlaaaDoorL18a
import Derived.Test.YthllhoodbfnlaaaDoorSqE
import Derived.Test.YthllhoodbfnlaaaDoorTxt
namespace Go.Mini
open Go Go.RowKit Go.Proofs
set_option maxRecDepth 100000
set_option linter.unusedVariables false
set_option linter.unusedSimpArgs false

def signs18 : List (List UInt8) := [[97], [98], [32], [9], [10], [13], [13, 10], [194, 133], [226, 128, 168], [92], [34], [39], [39, 39], [45, 45, 45], [46, 46, 46], [45, 32], [195, 169], [120], [39, 39, 39], [10, 45, 45, 45]]
def targumlaw18_text.N0 (l : List UInt8) (j : Nat) (vs : List Value) (h : Heap) : Prop := vs = [.slice (some ⟨0, 0, none⟩) l.length l.length, .pointer (some ⟨1, 0, none⟩), .string (strOf (textL signs18 (l.take j))), .int .i64 j] ∧ h = lit [seedB l, some ⟨70, 20, strsV signs18, true⟩]
def targumlaw18_text.sp0 : LSpec := ⟨targumlaw18_text.cs0, targumlaw18_text.ts0, fun vs h K => ∃ (l : List UInt8) (j : Nat), (h.n = 2 ∧ In 2 (targumlaw18_text.N0 l j) vs h ∧ (l.length ≤ 1000000 ∧ j ≤ l.length)) ∧ (∀ i' : Int, K (.exit 0) [.slice (some ⟨0, 0, none⟩) l.length l.length, .pointer (some ⟨1, 0, none⟩), .string (strOf (textL signs18 l)), .int .i64 i'] (lit [seedB l, some ⟨70, 20, strsV signs18, true⟩]))⟩
theorem targumlaw18_text.spm0 : LSpecMono targumlaw18_text.sp0 := by
  rintro vs h K K' hk ⟨l, j, h3, h4⟩
  exact ⟨l, j, h3, fun i' => hk _ _ _ (h4 i')⟩
theorem targumlaw18_text.t0 (l : List UInt8) (j : Nat) (E : Env) (N : List Value → Heap → Prop) (K : LK) : mwp S0 (lt0) targumlaw18_text.l0 (lK targumlaw18_text.cs0 N K) (zipE targumlaw18_text.cs0 [.slice (some ⟨0, 0, none⟩) l.length l.length, .pointer (some ⟨1, 0, none⟩), .string (strOf (textL signs18 (l.take j))), .int .i64 j] ++ E) (lit [seedB l, some ⟨70, 20, strsV signs18, true⟩]) = (br (decide ((↑j : Int) < (↑l.length : Int))) (((0 : Int) ≤ (↑j : Int) ∧ (↑j : Int) < (↑l.length : Int)) ∧ ∃ (z : Int), List.take (1 : Nat) (List.drop ((0 : Nat) + (↑j : Int).toNat * (1 : Nat)) (byV l)) = [Value.int IntKind.u8 z] ∧ (20 : Int) ≠ (0 : Int) ∧ ((0 : Int) ≤ z.tmod (20 : Int) ∧ z.tmod (20 : Int) < (↑(20 : Nat) : Int)) ∧ ∃ (s : ByteArray), List.take (1 : Nat) (List.drop ((0 : Nat) + (z.tmod (20 : Int)).toNat * (1 : Nat)) (strsV signs18)) = [Value.string s] ∧ (strOf (textL signs18 (List.take j l))).size + s.size ≤ (9223372036854775807 : Nat) ∧ rng IntKind.i64 ((↑j : Int) + (1 : Int)) ∧ N [Value.slice (some (Addr.mk (0 : Nat) (0 : Nat) none)) l.length l.length, Value.pointer (some (Addr.mk (1 : Nat) (0 : Nat) none)), Value.string (strOf (textL signs18 (List.take j l)) ++ s), Value.int IntKind.i64 ((↑j : Int) + (1 : Int))] (Heap.mk (2 : Nat) [seedB l, some (Blk.mk (70 : TypeId) (20 : Nat) (strsV signs18) true)])) (K (Exit.exit (0 : Nat)) [Value.slice (some (Addr.mk (0 : Nat) (0 : Nat) none)) l.length l.length, Value.pointer (some (Addr.mk (1 : Nat) (0 : Nat) none)), Value.string (strOf (textL signs18 (List.take j l))), Value.int IntKind.i64 (↑j : Int)] (Heap.mk (2 : Nat) [seedB l, some (Blk.mk (70 : TypeId) (20 : Nat) (strsV signs18) true)]))) := by kernel_rfl
theorem targumlaw18_text.lo0 : LOk1 Tryd.prog targumlaw18_text.nt targumlaw18_text.sp0 (.loop 0 targumlaw18_text.l0) := by
  refine loop_resC (σ := (List UInt8) × Nat) S0_ok S0_mono (lt0_mono) (LS := lt0) (by simp only [targumlaw18_text.l0, LOk, and_true, true_and]) rfl rfl (fun ⟨l, j⟩ => [.slice (some ⟨0, 0, none⟩) l.length l.length, .pointer (some ⟨1, 0, none⟩), .string (strOf (textL signs18 (l.take j))), .int .i64 j]) (fun ⟨l, j⟩ => lit [seedB l, some ⟨70, 20, strsV signs18, true⟩]) (fun ⟨l, j⟩ => l.length ≤ 1000000 ∧ j ≤ l.length) (fun ⟨l, j⟩ => l.length - j) 2 (fun ⟨l, j⟩ K => ∀ i' : Int, K (.exit 0) [.slice (some ⟨0, 0, none⟩) l.length l.length, .pointer (some ⟨1, 0, none⟩), .string (strOf (textL signs18 l)), .int .i64 i'] (lit [seedB l, some ⟨70, 20, strsV signs18, true⟩])) ?_ ?_
  · rintro vs h K ⟨l, j, ⟨h1, h2, h3⟩, h4⟩
    exact ⟨h1, ⟨l, j⟩, h2, h3, h4⟩
  rintro ⟨l, j⟩ E N K hE hp hN hK
  dsimp only at hp hN hK
  refine Eq.mpr (targumlaw18_text.t0 l j E N (fun x => In 2 (K x))) ?_
  obtain ⟨h1, h2⟩ := hp
  have hlen := textL_len (S := signs18) (m := 5) (by decide) (l.take j)
  rw [List.length_take] at hlen
  refine br_intro (fun hb => ?_) (fun hb => ?_)
  · simp only [decide_eq_true_eq] at hb
    have hj : j < l.length := by omega
    have hbt : (l.getD j 0).toNat < 256 := (l.getD j 0).toNat_lt
    have e1 : (((l.getD j 0).toNat : Int).tmod 20) = (((l.getD j 0).toNat % 20 : Nat) : Int) := by rw [Int.tmod_eq_emod_of_nonneg (by omega)]; omega
    refine ⟨⟨by omega, by omega⟩, ((l.getD j 0).toNat : Int), ?_, by omega, ?_⟩
    · rw [show 0 + (j : Int).toNat * 1 = j from by omega]; exact byV_at hj
    rw [e1]
    refine ⟨⟨by omega, by omega⟩, strOf (pickL signs18 (l.getD j 0)), ?_, ?_⟩
    · rw [show 0 + (((l.getD j 0).toNat % 20 : Nat) : Int).toNat * 1 = (l.getD j 0).toNat % 20 from by omega]
      exact strsV_at (l := signs18) (by show _ < 20; omega)
    have hpl := pickL_len (S := signs18) (m := 5) (by decide) (l.getD j 0)
    refine ⟨by rw [strOf_size, strOf_size]; omega, by simp only [rng]; omega, ?_⟩
    rw [strOf_app, ← textL_snoc, ← take_snoc hj]
    exact hN (l, j + 1) _ _ ⟨h1, by dsimp only; omega⟩ (by dsimp only; omega) hK (.inl ⟨by dsimp only; rw [show ((j + 1 : Nat) : Int) = (j : Int) + 1 from by omega], rfl⟩)
  · simp only [decide_eq_false_iff_not] at hb
    rw [List.take_of_length_le (by omega)]
    exact .inl (hK j)

def targumlaw18_text.LS : LT := (extL lt0 0 targumlaw18_text.sp0)
theorem targumlaw18_text.LS_mono : LMono targumlaw18_text.LS := (extL_mono lt0_mono targumlaw18_text.spm0)
def targumlaw18_text.H (l : List UInt8) : List (Option Blk) := [seedB l]
def targumlaw18_text.s : List Value → Heap → VK → Prop := fun vs h K => ∃ (l : List UInt8) (ρl : List (Option Nat)), vs = List.map (renT fun j => ρl.getD j none) [.slice (some ⟨0, 0, none⟩) l.length l.length] ∧ rowsSee (fun j => ρl.getD j none) (targumlaw18_text.H l).length h (targumlaw18_text.H l) ρl ∧ (l.length ≤ 1000000) ∧ K (.string (strOf (textL signs18 l))) h
theorem targumlaw18_text.t (l : List UInt8) (K : VK) : mwp S0 (targumlaw18_text.LS) targumlaw18_text.m (retK [.t 2] K) (argE 0 [.slice (some ⟨0, 0, none⟩) l.length l.length]) (lit ([seedB l])) = (∃ (l_1 : List UInt8), ∃ (j : Nat), ((2 : Nat) = (2 : Nat) ∧ In (2 : Nat) (targumlaw18_text.N0 l_1 j) [Value.slice (some (Addr.mk (0 : Nat) (0 : Nat) none)) l.length l.length, Value.pointer (some (Addr.mk (1 : Nat) (0 : Nat) none)), Value.string (ByteArray.mk #[]), Value.int IntKind.i64 (0 : Int)] (Heap.mk (2 : Nat) [seedB l, some (Blk.mk (70 : Nat) (20 : Nat) ([] ++ [Value.string (ByteArray.mk #[(97 : UInt8)]), Value.string (ByteArray.mk #[(98 : UInt8)]), Value.string (ByteArray.mk #[(32 : UInt8)]), Value.string (ByteArray.mk #[(9 : UInt8)]), Value.string (ByteArray.mk #[(10 : UInt8)]), Value.string (ByteArray.mk #[(13 : UInt8)]), Value.string (ByteArray.mk #[(13 : UInt8), (10 : UInt8)]), Value.string (ByteArray.mk #[(194 : UInt8), (133 : UInt8)]), Value.string (ByteArray.mk #[(226 : UInt8), (128 : UInt8), (168 : UInt8)]), Value.string (ByteArray.mk #[(92 : UInt8)]), Value.string (ByteArray.mk #[(34 : UInt8)]), Value.string (ByteArray.mk #[(39 : UInt8)]), Value.string (ByteArray.mk #[(39 : UInt8), (39 : UInt8)]), Value.string (ByteArray.mk #[(45 : UInt8), (45 : UInt8), (45 : UInt8)]), Value.string (ByteArray.mk #[(46 : UInt8), (46 : UInt8), (46 : UInt8)]), Value.string (ByteArray.mk #[(45 : UInt8), (32 : UInt8)]), Value.string (ByteArray.mk #[(195 : UInt8), (169 : UInt8)]), Value.string (ByteArray.mk #[(120 : UInt8)]), Value.string (ByteArray.mk #[(39 : UInt8), (39 : UInt8), (39 : UInt8)]), Value.string (ByteArray.mk #[(10 : UInt8), (45 : UInt8), (45 : UInt8), (45 : UInt8)])] ++ []) true)]) ∧ l_1.length ≤ (1000000 : Nat) ∧ j ≤ l_1.length) ∧ ∀ (i' : Int), K (Value.string (strOf (textL signs18 l_1))) (Heap.mk (2 : Nat) [seedB l_1, some (Blk.mk (70 : TypeId) (20 : Nat) (strsV signs18) true)])) := by kernel_rfl
theorem targumlaw18_text.sc : ∀ vs h K, targumlaw18_text.s vs h K → ACalls Tryd.prog targumlaw18_text.n vs h K := by
  rintro vs h K ⟨l, ρl, hvs, hg, hp, hh⟩
  refine ACalls.over ρl hg (by simp [okT, okA, okF, flatV, targumlaw18_text.H]) hvs (acalls_mk S0_ok targumlaw18_text.ok (LS := targumlaw18_text.LS) (by simp only [targumlaw18_text.m, LOk, and_true, true_and]; (repeat' apply And.intro) <;> first | trivial | exact targumlaw18_text.lo0) (Nat.le_of_ble_eq_true rfl) (Eq.mpr (targumlaw18_text.t l (fun v _ => ck (cleanT v) (K v h))) ?_))
  clear hvs hg
  exact ⟨l, 0, ⟨rfl, .inl ⟨rfl, rfl⟩, hp, Nat.zero_le _⟩, fun i' => hh⟩
theorem targumlaw18_text.sm : SpecMono targumlaw18_text.s := by
  rintro vs h K K' hk ⟨l, ρl, h1, h2, h3, h4⟩
  exact ⟨l, ρl, h1, h2, h3, hk _ _ h4⟩
theorem targumlaw18_text.sd : SpecDet targumlaw18_text.s := by
  rintro vs h K ⟨l, ρl, h1, h2, h3, h4⟩
  exact ⟨_, h4, l, ρl, h1, h2, h3, rfl⟩

def T18 : CT := (extC (extC (extC (extC (extC (extC (extC (extC SZ targumref17_Single.n targumref17_Single.s) targumref17_Write.n targumref17_Write.s) targumhelp_Version.n targumhelp_Version.s) targumhelp_Within.n targumhelp_Within.s) targumhelp_Cut.n targumhelp_Cut.s) targumhelp_Few.n targumhelp_Few.s) targumlaw18_text.n targumlaw18_text.s) targumlaw18_known.n targumlaw18_known.s)
theorem T18_ok : COk Tryd.prog T18 := (extC_ok (extC_ok (extC_ok (extC_ok (extC_ok (extC_ok (extC_ok (extC_ok SZ_ok targumref17_Single.sc targumref17_Single.sd) targumref17_Write.sc targumref17_Write.sd) targumhelp_Version.sc targumhelp_Version.sd) targumhelp_Within.sc targumhelp_Within.sd) targumhelp_Cut.sc targumhelp_Cut.sd) targumhelp_Few.sc targumhelp_Few.sd) targumlaw18_text.sc targumlaw18_text.sd) targumlaw18_known.sc targumlaw18_known.sd)
theorem T18_mono : CMono T18 := (extC_mono (extC_mono (extC_mono (extC_mono (extC_mono (extC_mono (extC_mono (extC_mono SZ_mono targumref17_Single.sm) targumref17_Write.sm) targumhelp_Version.sm) targumhelp_Within.sm) targumhelp_Cut.sm) targumhelp_Few.sm) targumlaw18_text.sm) targumlaw18_known.sm)

theorem rows3 {Z : List UInt8} {X : List (List UInt8)} {l : List Int} {vs : List Value} {h : Heap} (hn : 3 ≤ h.n) (h0 : h.g 0 = seedB Z) (h1 : h.g 1 = strsB X) (h2 : h.g 2 = intsB l) (hok : vs.all (okT 3) = true) (hid : vs.map (renT fun j => [some 0, some 1, some 2].getD j none) = vs) :
    In 3 (fun vs' h' => vs' = vs ∧ h' = lit [seedB Z, strsB X, intsB l]) vs h := by
  have fl : (l.map (Value.int .i64)).all flatV = true := List.all_eq_true.2 fun v hv => by obtain ⟨b, _, rfl⟩ := List.mem_map.1 hv; rfl
  refine In.rows [some 0, some 1, some 2] ⟨⟨by show Nat.blt 0 h.n = true; rw [Nat.blt_eq]; omega, okF_all (byV_flat _), ?_⟩, ⟨by show Nat.blt 1 h.n = true; rw [Nat.blt_eq]; omega, okF_all (strsV_flat _), ?_⟩, ⟨by show Nat.blt 2 h.n = true; rw [Nat.blt_eq]; omega, okF_all fl, ?_⟩, trivial⟩ rfl rfl rfl hid.symm hok
  · rw [map_ren_flat (byV_flat _)]; exact h0
  · rw [map_ren_flat (strsV_flat _)]; exact h1
  · rw [map_ren_flat fl]; exact h2
def targumlaw18_SquoteTells.N2 (q : Bool) (v : Int) (s : ByteArray) (Z : List UInt8) (X : List (List UInt8)) (l : List Int) (j : Nat) (vs : List Value) (h : Heap) : Prop := vs = [.bool q, .int .i64 v, .string s, .slice (some ⟨2, 0, none⟩) l.length l.length, .int .i64 l.length, .int .i64 j] ∧ h = lit [seedB Z, strsB X, intsB l]
def targumlaw18_SquoteTells.sp2 : LSpec := ⟨targumlaw18_SquoteTells.cs2, targumlaw18_SquoteTells.ts2, fun vs h K => ∃ (q : Bool) (v : Int) (s : ByteArray) (Z : List UInt8) (X : List (List UInt8)) (l : List Int) (j : Nat), (h.n = 3 ∧ In 3 (targumlaw18_SquoteTells.N2 q v s Z X l j) vs h ∧ (s.size ≤ 1000000 ∧ j ≤ l.length ∧ l.length ≤ 1000 ∧ (∀ x ∈ l, -10000000 ≤ x ∧ x ≤ 10000000))) ∧ (∀ j' : Int, K (.exit 2) [.bool q, .int .i64 v, .string s, .slice (some ⟨2, 0, none⟩) l.length l.length, .int .i64 l.length, .int .i64 j'] (lit [seedB Z, strsB X, intsB l]))⟩
theorem targumlaw18_SquoteTells.spm2 : LSpecMono targumlaw18_SquoteTells.sp2 := by
  rintro vs h K K' hk ⟨q, v, s, Z, X, l, j, h3, h4⟩
  exact ⟨q, v, s, Z, X, l, j, h3, fun j' => hk _ _ _ (h4 j')⟩
theorem targumlaw18_SquoteTells.t2 (q : Bool) (v : Int) (s : ByteArray) (Z : List UInt8) (X : List (List UInt8)) (l : List Int) (j : Nat) (E : Env) (N : List Value → Heap → Prop) (K : LK) : mwp T18 (lt0) targumlaw18_SquoteTells.l2 (lK targumlaw18_SquoteTells.cs2 N K) (zipE targumlaw18_SquoteTells.cs2 [.bool q, .int .i64 v, .string s, .slice (some ⟨2, 0, none⟩) l.length l.length, .int .i64 l.length, .int .i64 j] ++ E) (lit [seedB Z, strsB X, intsB l]) = (br (decide ((↑j : Int) < (↑l.length : Int))) (((0 : Int) ≤ (↑j : Int) ∧ (↑j : Int) < (↑l.length : Int)) ∧ ∃ (z : Int), List.take (1 : Nat) (List.drop ((0 : Nat) + (↑j : Int).toNat * (1 : Nat)) (List.map (Value.int IntKind.i64) l)) = [Value.int IntKind.i64 z] ∧ br (cutI s z) (rng IntKind.i64 ((↑j : Int) + (1 : Int)) ∧ N [Value.bool q, Value.int IntKind.i64 v, Value.string s, Value.slice (some (Addr.mk (2 : Nat) (0 : Nat) none)) l.length l.length, Value.int IntKind.i64 (↑l.length : Int), Value.int IntKind.i64 ((↑j : Int) + (1 : Int))] (Heap.mk (3 : Nat) [seedB Z, strsB X, intsB l])) ((s.size ≤ (1000000 : Nat) ∧ (-10000000 : Int) ≤ z ∧ z ≤ (10000000 : Int)) ∧ (s.size ≤ (1000000 : Nat) ∧ (-10000000 : Int) ≤ z ∧ z ≤ (10000000 : Int)) ∧ br (!decide (strOf (sqT (sqI v s z)) = strOf (sqT (sgI v s z)))) (K Exit.ret [Value.bool false, Value.int IntKind.i64 v, Value.string s, Value.slice (some (Addr.mk (2 : Nat) (0 : Nat) none)) l.length l.length, Value.int IntKind.i64 (↑l.length : Int), Value.int IntKind.i64 (↑j : Int)] (Heap.mk (5 : Nat) [seedB Z, strsB X, intsB l, some (Blk.mk (30 : Nat) (2 : Nat) ([] ++ [Value.int IntKind.i64 (sqC (sqI v s z)), Value.int IntKind.i64 (sqO (sqI v s z))] ++ []) true), some (Blk.mk (30 : Nat) (2 : Nat) ([] ++ [Value.int IntKind.i64 (sqC (sgI v s z)), Value.int IntKind.i64 (sqO (sgI v s z))] ++ []) true)])) (br (!decide (sqE (sqI v s z) = sqE (sgI v s z))) (K Exit.ret [Value.bool false, Value.int IntKind.i64 v, Value.string s, Value.slice (some (Addr.mk (2 : Nat) (0 : Nat) none)) l.length l.length, Value.int IntKind.i64 (↑l.length : Int), Value.int IntKind.i64 (↑j : Int)] (Heap.mk (5 : Nat) [seedB Z, strsB X, intsB l, some (Blk.mk (30 : Nat) (2 : Nat) ([] ++ [Value.int IntKind.i64 (sqC (sqI v s z)), Value.int IntKind.i64 (sqO (sqI v s z))] ++ []) true), some (Blk.mk (30 : Nat) (2 : Nat) ([] ++ [Value.int IntKind.i64 (sqC (sgI v s z)), Value.int IntKind.i64 (sqO (sgI v s z))] ++ []) true)])) (br (match decide (sqC (sqI v s z) = sqC (sgI v s z)) && decide (sqO (sqI v s z) = sqO (sgI v s z)) with | true => false | false => true) (K Exit.ret [Value.bool false, Value.int IntKind.i64 v, Value.string s, Value.slice (some (Addr.mk (2 : Nat) (0 : Nat) none)) l.length l.length, Value.int IntKind.i64 (↑l.length : Int), Value.int IntKind.i64 (↑j : Int)] (Heap.mk (5 : Nat) [seedB Z, strsB X, intsB l, some (Blk.mk (30 : Nat) (2 : Nat) ([] ++ [Value.int IntKind.i64 (sqC (sqI v s z)), Value.int IntKind.i64 (sqO (sqI v s z))] ++ []) true), some (Blk.mk (30 : Nat) (2 : Nat) ([] ++ [Value.int IntKind.i64 (sqC (sgI v s z)), Value.int IntKind.i64 (sqO (sgI v s z))] ++ []) true)])) (rng IntKind.i64 ((↑j : Int) + (1 : Int)) ∧ N [Value.bool q, Value.int IntKind.i64 v, Value.string s, Value.slice (some (Addr.mk (2 : Nat) (0 : Nat) none)) l.length l.length, Value.int IntKind.i64 (↑l.length : Int), Value.int IntKind.i64 ((↑j : Int) + (1 : Int))] (Heap.mk (5 : Nat) [seedB Z, strsB X, intsB l, some (Blk.mk (30 : Nat) (2 : Nat) ([] ++ [Value.int IntKind.i64 (sqC (sqI v s z)), Value.int IntKind.i64 (sqO (sqI v s z))] ++ []) true), some (Blk.mk (30 : Nat) (2 : Nat) ([] ++ [Value.int IntKind.i64 (sqC (sgI v s z)), Value.int IntKind.i64 (sqO (sgI v s z))] ++ []) true)])))))) (K (Exit.exit (2 : Nat)) [Value.bool q, Value.int IntKind.i64 v, Value.string s, Value.slice (some (Addr.mk (2 : Nat) (0 : Nat) none)) l.length l.length, Value.int IntKind.i64 (↑l.length : Int), Value.int IntKind.i64 (↑j : Int)] (Heap.mk (3 : Nat) [seedB Z, strsB X, intsB l]))) := by kernel_rfl
theorem targumlaw18_SquoteTells.lo2 : LOk1 Tryd.prog targumlaw18_SquoteTells.nt targumlaw18_SquoteTells.sp2 (.loop 2 targumlaw18_SquoteTells.l2) := by
  refine loop_resC (σ := Bool × Int × ByteArray × (List UInt8) × (List (List UInt8)) × (List Int) × Nat) T18_ok T18_mono (lt0_mono) (LS := lt0) (by simp only [targumlaw18_SquoteTells.l2, LOk, and_true, true_and]) rfl rfl (fun ⟨q, v, s, Z, X, l, j⟩ => [.bool q, .int .i64 v, .string s, .slice (some ⟨2, 0, none⟩) l.length l.length, .int .i64 l.length, .int .i64 j]) (fun ⟨q, v, s, Z, X, l, j⟩ => lit [seedB Z, strsB X, intsB l]) (fun ⟨q, v, s, Z, X, l, j⟩ => s.size ≤ 1000000 ∧ j ≤ l.length ∧ l.length ≤ 1000 ∧ (∀ x ∈ l, -10000000 ≤ x ∧ x ≤ 10000000)) (fun ⟨q, v, s, Z, X, l, j⟩ => l.length - j) 3 (fun ⟨q, v, s, Z, X, l, j⟩ K => ∀ j' : Int, K (.exit 2) [.bool q, .int .i64 v, .string s, .slice (some ⟨2, 0, none⟩) l.length l.length, .int .i64 l.length, .int .i64 j'] (lit [seedB Z, strsB X, intsB l])) ?_ ?_
  · rintro vs h K ⟨q, v, s, Z, X, l, j, ⟨h1, h2, h3⟩, h4⟩
    exact ⟨h1, ⟨q, v, s, Z, X, l, j⟩, h2, h3, h4⟩
  rintro ⟨q, v, s, Z, X, l, j⟩ E N K hE hp hN hK
  dsimp only at hp hN hK
  refine Eq.mpr (targumlaw18_SquoteTells.t2 q v s Z X l j E N (fun x => In 3 (K x))) ?_
  obtain ⟨hs, h1, h2, h3⟩ := hp
  refine br_intro (fun hb => ?_) (fun hb => ?_)
  · simp only [decide_eq_true_eq] at hb
    have hj : j < l.length := by omega
    have hx := h3 (l.getD j 0) (by rw [List.getD_eq_getElem?_getD, List.getElem?_eq_getElem hj]; exact List.getElem_mem hj)
    refine ⟨⟨by omega, by omega⟩, l.getD j 0, by rw [show 0 + (j : Int).toNat * 1 = j from by omega]; exact ints_at hj, ?_⟩
    rw [sgI_sqI]
    have done : ∀ h : Heap, 3 ≤ h.n → h.g 0 = seedB Z → h.g 1 = strsB X → h.g 2 = intsB l → rng .i64 ((j : Int) + 1) ∧ N [.bool q, .int .i64 v, .string s, .slice (some ⟨2, 0, none⟩) l.length l.length, .int .i64 l.length, .int .i64 ((j : Int) + 1)] h := fun h g0 g1 g2 g3 => by
      refine ⟨by simp only [rng]; omega, ?_⟩
      have := rows3 (vs := [.bool q, .int .i64 v, .string s, .slice (some ⟨2, 0, none⟩) l.length l.length, .int .i64 l.length, .int .i64 ((j : Int) + 1)]) g0 g1 g2 g3 (by simp [okT, okA, okF, flatV]) (by simp [renT, renA, ren])
      exact hN (q, v, s, Z, X, l, j + 1) _ _ ⟨hs, by dsimp only; omega, h2, h3⟩ (by dsimp only; omega) hK (by dsimp only; rw [show ((j + 1 : Nat) : Int) = (j : Int) + 1 from by omega]; exact this)
    exact br_intro (fun _ => done _ (Nat.le_of_ble_eq_true rfl) rfl rfl rfl) (fun _ => ⟨⟨hs, hx⟩, ⟨hs, hx⟩, br_intro (fun h => by simp at h) (fun _ => br_intro (fun h => by simp at h) (fun _ => br_intro (fun h => by simp at h) (fun _ => done _ (Nat.le_of_ble_eq_true rfl) rfl rfl rfl)))⟩)
  · exact .inl (hK j)

def targumlaw18_SquoteTells.L2 : LT := (extL lt0 2 targumlaw18_SquoteTells.sp2)
theorem targumlaw18_SquoteTells.L2_mono : LMono targumlaw18_SquoteTells.L2 := (extL_mono lt0_mono targumlaw18_SquoteTells.spm2)
def targumlaw18_SquoteTells.N0 (i : Int) (q : Bool) (v : Int) (Z : List UInt8) (X : List (List UInt8)) (j : Nat) (vs : List Value) (h : Heap) : Prop := vs = [.int .i64 i, .bool q, .int .i64 v, .slice (some ⟨1, 0, none⟩) X.length X.length, .int .i64 X.length, .int .i64 j] ∧ h = lit [seedB Z, strsB X]
def targumlaw18_SquoteTells.sp0 : LSpec := ⟨targumlaw18_SquoteTells.cs0, targumlaw18_SquoteTells.ts0, fun vs h K => ∃ (i : Int) (q : Bool) (v : Int) (Z : List UInt8) (X : List (List UInt8)) (j : Nat), (h.n = 2 ∧ In 2 (targumlaw18_SquoteTells.N0 i q v Z X j) vs h ∧ ((∀ x ∈ X, x.length ≤ 1000000) ∧ j ≤ X.length ∧ X.length ≤ 1000)) ∧ (∀ j' : Int, K (.exit 0) [.int .i64 i, .bool q, .int .i64 v, .slice (some ⟨1, 0, none⟩) X.length X.length, .int .i64 X.length, .int .i64 j'] (lit [seedB Z, strsB X]))⟩
theorem targumlaw18_SquoteTells.spm0 : LSpecMono targumlaw18_SquoteTells.sp0 := by
  rintro vs h K K' hk ⟨i, q, v, Z, X, j, h3, h4⟩
  exact ⟨i, q, v, Z, X, j, h3, fun j' => hk _ _ _ (h4 j')⟩
theorem targumlaw18_SquoteTells.t0 (i : Int) (q : Bool) (v : Int) (Z : List UInt8) (X : List (List UInt8)) (j : Nat) (E : Env) (N : List Value → Heap → Prop) (K : LK) : mwp T18 (targumlaw18_SquoteTells.L2) targumlaw18_SquoteTells.l0 (lK targumlaw18_SquoteTells.cs0 N K) (zipE targumlaw18_SquoteTells.cs0 [.int .i64 i, .bool q, .int .i64 v, .slice (some ⟨1, 0, none⟩) X.length X.length, .int .i64 X.length, .int .i64 j] ++ E) (lit [seedB Z, strsB X]) = (br (decide ((↑j : Int) < (↑X.length : Int))) (((0 : Int) ≤ (↑j : Int) ∧ (↑j : Int) < (↑X.length : Int)) ∧ ∃ (s : ByteArray), List.take (1 : Nat) (List.drop ((0 : Nat) + (↑j : Int).toNat * (1 : Nat)) (strsV X)) = [Value.string s] ∧ rng IntKind.i64 ((↑s.size : Int) + (1 : Int)) ∧ ((-10000000 : Int) ≤ (-1 : Int) ∧ (-1 : Int) ≤ (↑s.size : Int) + (1 : Int) ∧ (↑s.size : Int) + (1 : Int) ≤ (10000000 : Int)) ∧ ∃ (q_1 : Bool), ∃ (v_1 : Int), ∃ (s_1 : ByteArray), ∃ (Z_1 : List UInt8), ∃ (X_1 : List (List UInt8)), ∃ (l : List Int), ∃ (j_1 : Nat), ((3 : Nat) = (3 : Nat) ∧ In (3 : Nat) (targumlaw18_SquoteTells.N2 q_1 v_1 s_1 Z_1 X_1 l j_1) [Value.bool q, Value.int IntKind.i64 v, mkv none [Value.string s], Value.slice (some (Addr.mk (2 : Nat) (0 : Nat) none)) (2 : Nat) (2 : Nat), Value.int IntKind.i64 (↑(2 : Nat) : Int), Value.int IntKind.i64 (0 : Int)] (Heap.mk (3 : Nat) [seedB Z, strsB X, some (Blk.mk (3 : Nat) (1 : Nat) [Value.int IntKind.i64 (0 : Int), Value.int IntKind.i64 (withinI i (-1 : Int) ((↑s.size : Int) + (1 : Int)))] true)]) ∧ s_1.size ≤ (1000000 : Nat) ∧ j_1 ≤ l.length ∧ l.length ≤ (1000 : Nat) ∧ ∀ (x : Int), x ∈ l → (-10000000 : Int) ≤ x ∧ x ≤ (10000000 : Int)) ∧ ∀ (j' : Int), s_1.size ≤ (1000000 : Nat) ∧ s_1.size ≤ (1000000 : Nat) ∧ br (!decide (wrS s_1 = wrS s_1)) (K Exit.ret [Value.int IntKind.i64 i, Value.bool false, Value.int IntKind.i64 v_1, Value.slice (some (Addr.mk (1 : Nat) (0 : Nat) none)) X.length X.length, Value.int IntKind.i64 (↑X.length : Int), Value.int IntKind.i64 (↑j : Int)] (Heap.mk (3 : Nat) [seedB Z_1, strsB X_1, intsB l])) (br (!wrOk s_1 == wrOk s_1) (K Exit.ret [Value.int IntKind.i64 i, Value.bool false, Value.int IntKind.i64 v_1, Value.slice (some (Addr.mk (1 : Nat) (0 : Nat) none)) X.length X.length, Value.int IntKind.i64 (↑X.length : Int), Value.int IntKind.i64 (↑j : Int)] (Heap.mk (3 : Nat) [seedB Z_1, strsB X_1, intsB l])) (rng IntKind.i64 ((↑j : Int) + (1 : Int)) ∧ N [Value.int IntKind.i64 i, Value.bool q_1, Value.int IntKind.i64 v_1, Value.slice (some (Addr.mk (1 : Nat) (0 : Nat) none)) X.length X.length, Value.int IntKind.i64 (↑X.length : Int), Value.int IntKind.i64 ((↑j : Int) + (1 : Int))] (Heap.mk (3 : Nat) [seedB Z_1, strsB X_1, intsB l])))) (K (Exit.exit (0 : Nat)) [Value.int IntKind.i64 i, Value.bool q, Value.int IntKind.i64 v, Value.slice (some (Addr.mk (1 : Nat) (0 : Nat) none)) X.length X.length, Value.int IntKind.i64 (↑X.length : Int), Value.int IntKind.i64 (↑j : Int)] (Heap.mk (2 : Nat) [seedB Z, strsB X]))) := by kernel_rfl
theorem targumlaw18_SquoteTells.lo0 : LOk1 Tryd.prog targumlaw18_SquoteTells.nt targumlaw18_SquoteTells.sp0 (.loop 0 targumlaw18_SquoteTells.l0) := by
  refine loop_resC (σ := Int × Bool × Int × (List UInt8) × (List (List UInt8)) × Nat) T18_ok T18_mono (targumlaw18_SquoteTells.L2_mono) (LS := targumlaw18_SquoteTells.L2) (by simp only [targumlaw18_SquoteTells.l0, LOk, and_true, true_and]; (repeat' apply And.intro) <;> first | trivial | exact targumlaw18_SquoteTells.lo2) rfl rfl (fun ⟨i, q, v, Z, X, j⟩ => [.int .i64 i, .bool q, .int .i64 v, .slice (some ⟨1, 0, none⟩) X.length X.length, .int .i64 X.length, .int .i64 j]) (fun ⟨i, q, v, Z, X, j⟩ => lit [seedB Z, strsB X]) (fun ⟨i, q, v, Z, X, j⟩ => (∀ x ∈ X, x.length ≤ 1000000) ∧ j ≤ X.length ∧ X.length ≤ 1000) (fun ⟨i, q, v, Z, X, j⟩ => X.length - j) 2 (fun ⟨i, q, v, Z, X, j⟩ K => ∀ j' : Int, K (.exit 0) [.int .i64 i, .bool q, .int .i64 v, .slice (some ⟨1, 0, none⟩) X.length X.length, .int .i64 X.length, .int .i64 j'] (lit [seedB Z, strsB X])) ?_ ?_
  · rintro vs h K ⟨i, q, v, Z, X, j, ⟨h1, h2, h3⟩, h4⟩
    exact ⟨h1, ⟨i, q, v, Z, X, j⟩, h2, h3, h4⟩
  rintro ⟨i, q, v, Z, X, j⟩ E N K hE hp hN hK
  dsimp only at hp hN hK
  refine Eq.mpr (targumlaw18_SquoteTells.t0 i q v Z X j E N (fun x => In 2 (K x))) ?_
  obtain ⟨hX, h1, h2⟩ := hp
  refine br_intro (fun hb => ?_) (fun hb => ?_)
  · simp only [decide_eq_true_eq] at hb
    have hj : j < X.length := by omega
    have hx : (X.getD j []).length ≤ 1000000 := hX _ (by rw [List.getD_eq_getElem?_getD, List.getElem?_eq_getElem hj]; exact List.getElem_mem hj)
    refine ⟨⟨by omega, by omega⟩, strOf (X.getD j []), by rw [show 0 + (j : Int).toNat * 1 = j from by omega]; exact strsV_at hj, by rw [strOf_size]; simp only [rng]; omega, by rw [strOf_size]; omega, ?_⟩
    have hwi := withinI_ok (n := i) (lo := -1) (hi := ((strOf (X.getD j [])).size : Int) + 1) (by omega)
    rw [strOf_size] at hwi
    refine ⟨q, v, strOf (X.getD j []), Z, X, [0, withinI i (-1) (((strOf (X.getD j [])).size : Int) + 1)], 0, ⟨rfl, .inl ⟨rfl, rfl⟩, by rw [strOf_size]; exact hx, by simp, by simp, ?_⟩, fun j' => ⟨by rw [strOf_size]; exact hx, by rw [strOf_size]; exact hx, br_intro (fun h => by simp at h) (fun _ => br_intro (fun h => by simp at h) (fun _ => ⟨by simp only [rng]; omega, ?_⟩))⟩⟩
    · intro x hx
      simp only [List.mem_cons, List.not_mem_nil, or_false] at hx
      rw [strOf_size] at hx
      rcases hx with rfl | rfl <;> omega
    refine hN (i, q, v, Z, X, j + 1) _ _ ⟨hX, by dsimp only; omega, h2⟩ (by dsimp only; omega) hK ?_
    refine In.rows [some 0, some 1] ⟨⟨rfl, okF_all (byV_flat _), ?_⟩, ⟨rfl, okF_all (strsV_flat _), ?_⟩, trivial⟩ rfl rfl rfl ?_ ?_
    · rw [map_ren_flat (byV_flat _)]; rfl
    · rw [map_ren_flat (strsV_flat _)]; rfl
    · simp [renT, renA, ren]
    · simp [okT, okA, okF, flatV]
  · exact .inl (hK j)

def targumlaw18_SquoteTells.LS : LT := (extL lt0 0 targumlaw18_SquoteTells.sp0)
theorem targumlaw18_SquoteTells.LS_mono : LMono targumlaw18_SquoteTells.LS := (extL_mono lt0_mono targumlaw18_SquoteTells.spm0)
theorem targumlaw18_SquoteTells.t (s : ByteArray) (l : List UInt8) (i : Int) (old : Bool) (K : VK) : mwp T18 (targumlaw18_SquoteTells.LS) targumlaw18_SquoteTells.m (retK [.t 8] K) (argE 0 [.string s, .slice (some ⟨0, 0, none⟩) l.length l.length, .int .i64 i, .bool old]) (lit ([seedB l])) = ((200 : Int) ≤ (1000000 : Int) ∧ br (!fewI s (200 : Int)) (K (Value.bool true) (Heap.mk (1 : Nat) [seedB l])) (br (decide ((60 : Int) < (↑l.length : Int))) (K (Value.bool true) (Heap.mk (1 : Nat) [seedB l])) (∃ (l_1 : List UInt8), ∃ (ρl : List (Option Nat)), [Value.slice (some (Addr.mk (0 : Nat) (0 : Nat) none)) l.length l.length] = List.map (renT fun (j : Nat) => ρl.getD j none) [Value.slice (some (Addr.mk (0 : Nat) (0 : Nat) none)) l_1.length l_1.length] ∧ rowsSee (fun (j : Nat) => ρl.getD j none) (targumlaw18_text.H l_1).length (Heap.mk (1 : Nat) [seedB l]) (targumlaw18_text.H l_1) ρl ∧ l_1.length ≤ (1000000 : Nat) ∧ (ByteArray.mk #[(39 : UInt8)]).size + s.size ≤ (9223372036854775807 : Nat) ∧ (ByteArray.mk #[(39 : UInt8)]).size + (strOf (textL signs18 l_1)).size ≤ (9223372036854775807 : Nat) ∧ (ByteArray.mk #[(39 : UInt8)]).size + (strOf (textL signs18 l_1)).size ≤ (9223372036854775807 : Nat) ∧ (ByteArray.mk #[(39 : UInt8)] ++ strOf (textL signs18 l_1)).size + (ByteArray.mk #[(39 : UInt8)]).size ≤ (9223372036854775807 : Nat) ∧ (ByteArray.mk #[(39 : UInt8)] ++ strOf (textL signs18 l_1) ++ ByteArray.mk #[(39 : UInt8)]).size + s.size ≤ (9223372036854775807 : Nat) ∧ ∃ (i_1 : Int), ∃ (q : Bool), ∃ (v : Int), ∃ (Z : List UInt8), ∃ (X : List (List UInt8)), ∃ (j : Nat), ((2 : Nat) = (2 : Nat) ∧ In (2 : Nat) (targumlaw18_SquoteTells.N0 i_1 q v Z X j) [Value.int IntKind.i64 i, Value.bool false, Value.int IntKind.i64 (verI old), Value.slice (some (Addr.mk (1 : Nat) (0 : Nat) none)) (4 : Nat) (4 : Nat), Value.int IntKind.i64 (↑(4 : Nat) : Int), Value.int IntKind.i64 (0 : Int)] (Heap.mk (2 : Nat) [seedB l, some (Blk.mk (9 : Nat) (1 : Nat) [Value.string s, Value.string (ByteArray.mk #[(39 : UInt8)] ++ s), Value.string (ByteArray.mk #[(39 : UInt8)] ++ strOf (textL signs18 l_1)), Value.string (ByteArray.mk #[(39 : UInt8)] ++ strOf (textL signs18 l_1) ++ ByteArray.mk #[(39 : UInt8)] ++ s)] true)]) ∧ (∀ (x : List UInt8), x ∈ X → x.length ≤ (1000000 : Nat)) ∧ j ≤ X.length ∧ X.length ≤ (1000 : Nat)) ∧ ∀ (j' : Int), K (Value.bool true) (Heap.mk (2 : Nat) [seedB Z, strsB X])))) := by kernel_rfl
theorem targumlaw18_SquoteTells.law (s : ByteArray) (l : List UInt8) (i : Int) (old : Bool) : ACalls Tryd.prog targumlaw18_SquoteTells.n [.string s, .slice (some ⟨0, 0, none⟩) l.length l.length, .int .i64 i, .bool old] (lit ([seedB l])) (fun v _ => v = .bool true) := by
  refine acalls_mk T18_ok targumlaw18_SquoteTells.ok (LS := targumlaw18_SquoteTells.LS) (by simp only [targumlaw18_SquoteTells.m, LOk, and_true, true_and]; (repeat' apply And.intro) <;> first | trivial | exact targumlaw18_SquoteTells.lo2 | exact targumlaw18_SquoteTells.lo0) (Nat.le_of_ble_eq_true rfl) (Eq.mpr (targumlaw18_SquoteTells.t s l i old _) ?_)
  refine ⟨by omega, br_intro (fun _ => rfl) (fun hf => br_intro (fun _ => rfl) (fun hl => ?_))⟩
  have hs : s.size ≤ 200 := by have := few_le (by simpa using hf : fewI s 200 = true); omega
  simp only [decide_eq_false_iff_not] at hl
  have ht := textL_len (S := signs18) (m := 5) (by decide) l
  have hls : (lst s).length = s.size := Array.length_toList
  have z1 : (ByteArray.mk #[(39 : UInt8)]).size = 1 := rfl
  refine ⟨l, [some 0], rfl, seed_see rfl rfl, by omega, ?_⟩
  have e1 : ByteArray.mk #[(39 : UInt8)] ++ strOf (textL signs18 l) ++ ByteArray.mk #[(39 : UInt8)] ++ s = strOf (39 :: textL signs18 l ++ [39] ++ lst s) := by
    rw [mk_app, lst_strOf, show ByteArray.mk #[(39 : UInt8)] = strOf [39] from rfl, strOf_app, ← strOf_lst s, strOf_app, lst_strOf]
  rw [e1, mk_app, mk_app, lst_strOf]
  have e2 : (strOf (39 :: textL signs18 l) ++ ByteArray.mk #[(39 : UInt8)]).size = (textL signs18 l).length + 2 := by
    rw [show ByteArray.mk #[(39 : UInt8)] = strOf [39] from rfl, strOf_app, strOf_size]; simp
  rw [e2, strOf_size, z1]
  refine ⟨by omega, by omega, by omega, by rw [strOf_size, List.length_cons]; omega, by omega, i, false, verI old, l, [lst s, 39 :: lst s, 39 :: textL signs18 l, 39 :: textL signs18 l ++ [39] ++ lst s], 0, ⟨rfl, .inl ⟨rfl, ?_⟩, ?_, by simp, by simp⟩, fun _ => rfl⟩
  · simp [lit, strsV, strOf_lst]
  · intro x hx
    simp only [List.mem_cons, List.not_mem_nil, or_false] at hx
    rcases hx with rfl | rfl | rfl | rfl <;> first | omega | (simp only [List.length_append, List.length_cons, List.length_nil]; omega)

end Go.Mini
