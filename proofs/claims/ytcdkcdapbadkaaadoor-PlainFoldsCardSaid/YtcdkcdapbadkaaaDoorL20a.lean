/- What plain texts are made of, of a seed. Conditions: sizes. -/
import Derived.Test.YtcdkcdapbadkaaaDoorHelp
namespace Go.Mini
open Go Go.RowKit Go.Proofs
set_option maxRecDepth 100000
set_option linter.unusedVariables false
set_option linter.unusedSimpArgs false

def strsV (l : List (List UInt8)) : List Value := l.map fun x => .string (strOf x)
theorem strsV_at {l : List (List UInt8)} {j : Nat} (h : j < l.length) : ((strsV l).drop j).take 1 = [.string (strOf (l.getD j []))] := by
  unfold strsV
  rw [List.drop_eq_getElem_cons (by simpa using h), List.take_succ_cons, List.take_zero, List.getElem_map, List.getD_eq_getElem?_getD, List.getElem?_eq_getElem h]
  rfl
theorem byV_at {l : List UInt8} {j : Nat} (h : j < l.length) : ((byV l).drop j).take 1 = [.int .u8 (l.getD j 0).toNat] := by
  unfold byV
  rw [List.drop_eq_getElem_cons (by simpa using h), List.take_succ_cons, List.take_zero, List.getElem_map, List.getD_eq_getElem?_getD, List.getElem?_eq_getElem h]
  rfl
theorem byV_flat (l : List UInt8) : (byV l).all flatV = true := List.all_eq_true.2 fun v hv => by
  obtain ⟨b, _, rfl⟩ := List.mem_map.1 hv; rfl
theorem strsV_flat (l : List (List UInt8)) : (strsV l).all flatV = true := List.all_eq_true.2 fun v hv => by
  obtain ⟨b, _, rfl⟩ := List.mem_map.1 hv; rfl
/-- Signs, by a seed's bytes. -/
def pickL (S : List (List UInt8)) (b : UInt8) : List UInt8 := S.getD (b.toNat % S.length) []
def textL (S : List (List UInt8)) (l : List UInt8) : List UInt8 := (l.map (pickL S)).flatten
theorem pickL_len {S : List (List UInt8)} {m : Nat} (hS : S.all (fun x => Nat.ble x.length m) = true) (b : UInt8) : (pickL S b).length ≤ m := by
  unfold pickL
  rw [List.getD_eq_getElem?_getD]
  cases h : S[b.toNat % S.length]? with
  | none => simp
  | some x => have := List.all_eq_true.1 hS x (List.mem_of_getElem? h); simpa using this
theorem textL_len {S : List (List UInt8)} {m : Nat} (hS : S.all (fun x => Nat.ble x.length m) = true) : ∀ l : List UInt8, (textL S l).length ≤ m * l.length
  | [] => by simp [textL]
  | b :: l => by
    have := textL_len hS l
    have h := pickL_len hS b
    simp only [textL, List.map_cons, List.flatten_cons, List.length_append, List.length_cons] at this ⊢
    rw [Nat.mul_add]; omega
theorem textL_snoc (S : List (List UInt8)) (l : List UInt8) (b : UInt8) : textL S (l ++ [b]) = textL S l ++ pickL S b := by simp [textL]
theorem take_snoc {l : List UInt8} {j : Nat} (h : j < l.length) : l.take (j + 1) = l.take j ++ [l.getD j 0] := by
  rw [List.take_add_one, List.getD_eq_getElem?_getD, List.getElem?_eq_getElem h]; rfl

def signs20 : List (List UInt8) := [[97], [98], [32], [9], [10], [13], [10, 32], [10, 32, 32], [10, 10], [194, 133, 32], [226, 128, 168], [58], [58, 32], [35], [32, 35], [44], [91], [93], [123], [125], [45], [45, 32], [63], [39], [34], [37], [45, 45, 45], [10, 45, 45, 45, 10], [46, 46, 46], [38], [33], [195, 169]]
abbrev seedB (l : List UInt8) : Option Blk := some ⟨5, 1, byV l, false⟩
def targumlaw20_text.N0 (l : List UInt8) (j : Nat) (vs : List Value) (h : Heap) : Prop := vs = [.slice (some ⟨0, 0, none⟩) l.length l.length, .pointer (some ⟨1, 0, none⟩), .string (strOf (textL signs20 (l.take j))), .int .i64 j] ∧ h = lit [seedB l, some ⟨43, 32, strsV signs20, true⟩]
def targumlaw20_text.sp0 : LSpec := ⟨targumlaw20_text.cs0, targumlaw20_text.ts0, fun vs h K => ∃ (l : List UInt8) (j : Nat), (h.n = 2 ∧ In 2 (targumlaw20_text.N0 l j) vs h ∧ (l.length ≤ 1000000 ∧ j ≤ l.length)) ∧ (∀ i' : Int, K (.exit 0) [.slice (some ⟨0, 0, none⟩) l.length l.length, .pointer (some ⟨1, 0, none⟩), .string (strOf (textL signs20 l)), .int .i64 i'] (lit [seedB l, some ⟨43, 32, strsV signs20, true⟩]))⟩
theorem targumlaw20_text.spm0 : LSpecMono targumlaw20_text.sp0 := by
  rintro vs h K K' hk ⟨l, j, h3, h4⟩
  exact ⟨l, j, h3, fun i' => hk _ _ _ (h4 i')⟩
theorem targumlaw20_text.t0 (l : List UInt8) (j : Nat) (E : Env) (N : List Value → Heap → Prop) (K : LK) : mwp S0 (lt0) targumlaw20_text.l0 (lK targumlaw20_text.cs0 N K) (zipE targumlaw20_text.cs0 [.slice (some ⟨0, 0, none⟩) l.length l.length, .pointer (some ⟨1, 0, none⟩), .string (strOf (textL signs20 (l.take j))), .int .i64 j] ++ E) (lit [seedB l, some ⟨43, 32, strsV signs20, true⟩]) = (br (decide ((↑j : Int) < (↑l.length : Int))) (((0 : Int) ≤ (↑j : Int) ∧ (↑j : Int) < (↑l.length : Int)) ∧ ∃ (z : Int), List.take (1 : Nat) (List.drop ((0 : Nat) + (↑j : Int).toNat * (1 : Nat)) (byV l)) = [Value.int IntKind.u8 z] ∧ (32 : Int) ≠ (0 : Int) ∧ ((0 : Int) ≤ z.tmod (32 : Int) ∧ z.tmod (32 : Int) < (↑(32 : Nat) : Int)) ∧ ∃ (s : ByteArray), List.take (1 : Nat) (List.drop ((0 : Nat) + (z.tmod (32 : Int)).toNat * (1 : Nat)) (strsV signs20)) = [Value.string s] ∧ (strOf (textL signs20 (List.take j l))).size + s.size ≤ (9223372036854775807 : Nat) ∧ rng IntKind.i64 ((↑j : Int) + (1 : Int)) ∧ N [Value.slice (some (Addr.mk (0 : Nat) (0 : Nat) none)) l.length l.length, Value.pointer (some (Addr.mk (1 : Nat) (0 : Nat) none)), Value.string (strOf (textL signs20 (List.take j l)) ++ s), Value.int IntKind.i64 ((↑j : Int) + (1 : Int))] (Heap.mk (2 : Nat) [seedB l, some (Blk.mk (43 : TypeId) (32 : Nat) (strsV signs20) true)])) (K (Exit.exit (0 : Nat)) [Value.slice (some (Addr.mk (0 : Nat) (0 : Nat) none)) l.length l.length, Value.pointer (some (Addr.mk (1 : Nat) (0 : Nat) none)), Value.string (strOf (textL signs20 (List.take j l))), Value.int IntKind.i64 (↑j : Int)] (Heap.mk (2 : Nat) [seedB l, some (Blk.mk (43 : TypeId) (32 : Nat) (strsV signs20) true)]))) := by kernel_rfl
theorem targumlaw20_text.lo0 : LOk1 Tryd.prog targumlaw20_text.nt targumlaw20_text.sp0 (.loop 0 targumlaw20_text.l0) := by
  refine loop_resC (σ := (List UInt8) × Nat) S0_ok S0_mono (lt0_mono) (LS := lt0) (by simp only [targumlaw20_text.l0, LOk, and_true, true_and]) rfl rfl (fun ⟨l, j⟩ => [.slice (some ⟨0, 0, none⟩) l.length l.length, .pointer (some ⟨1, 0, none⟩), .string (strOf (textL signs20 (l.take j))), .int .i64 j]) (fun ⟨l, j⟩ => lit [seedB l, some ⟨43, 32, strsV signs20, true⟩]) (fun ⟨l, j⟩ => l.length ≤ 1000000 ∧ j ≤ l.length) (fun ⟨l, j⟩ => l.length - j) 2 (fun ⟨l, j⟩ K => ∀ i' : Int, K (.exit 0) [.slice (some ⟨0, 0, none⟩) l.length l.length, .pointer (some ⟨1, 0, none⟩), .string (strOf (textL signs20 l)), .int .i64 i'] (lit [seedB l, some ⟨43, 32, strsV signs20, true⟩])) ?_ ?_
  · rintro vs h K ⟨l, j, ⟨h1, h2, h3⟩, h4⟩
    exact ⟨h1, ⟨l, j⟩, h2, h3, h4⟩
  rintro ⟨l, j⟩ E N K hE hp hN hK
  dsimp only at hp hN hK
  refine Eq.mpr (targumlaw20_text.t0 l j E N (fun x => In 2 (K x))) ?_
  obtain ⟨h1, h2⟩ := hp
  have hlen := textL_len (S := signs20) (m := 5) (by decide) (l.take j)
  rw [List.length_take] at hlen
  refine br_intro (fun hb => ?_) (fun hb => ?_)
  · simp only [decide_eq_true_eq] at hb
    have hj : j < l.length := by omega
    have hbt : (l.getD j 0).toNat < 256 := (l.getD j 0).toNat_lt
    have e1 : (((l.getD j 0).toNat : Int).tmod 32) = (((l.getD j 0).toNat % 32 : Nat) : Int) := by rw [Int.tmod_eq_emod_of_nonneg (by omega)]; omega
    refine ⟨⟨by omega, by omega⟩, ((l.getD j 0).toNat : Int), ?_, by omega, ?_⟩
    · rw [show 0 + (j : Int).toNat * 1 = j from by omega]; exact byV_at hj
    rw [e1]
    refine ⟨⟨by omega, by omega⟩, strOf (pickL signs20 (l.getD j 0)), ?_, ?_⟩
    · rw [show 0 + (((l.getD j 0).toNat % 32 : Nat) : Int).toNat * 1 = (l.getD j 0).toNat % 32 from by omega]
      exact strsV_at (l := signs20) (by show _ < 32; omega)
    have hpl := pickL_len (S := signs20) (m := 5) (by decide) (l.getD j 0)
    refine ⟨by rw [strOf_size, strOf_size]; omega, by simp only [rng]; omega, ?_⟩
    rw [strOf_app, ← textL_snoc, ← take_snoc hj]
    exact hN (l, j + 1) _ _ ⟨h1, by dsimp only; omega⟩ (by dsimp only; omega) hK (.inl ⟨by dsimp only; rw [show ((j + 1 : Nat) : Int) = (j : Int) + 1 from by omega], rfl⟩)
  · simp only [decide_eq_false_iff_not] at hb
    rw [List.take_of_length_le (by omega)]
    exact .inl (hK j)

def targumlaw20_text.LS : LT := (extL lt0 0 targumlaw20_text.sp0)
theorem targumlaw20_text.LS_mono : LMono targumlaw20_text.LS := (extL_mono lt0_mono targumlaw20_text.spm0)
def targumlaw20_text.H (l : List UInt8) : List (Option Blk) := [seedB l]
def targumlaw20_text.s : List Value → Heap → VK → Prop := fun vs h K => ∃ (l : List UInt8) (ρl : List (Option Nat)), vs = List.map (renT fun j => ρl.getD j none) [.slice (some ⟨0, 0, none⟩) l.length l.length] ∧ rowsSee (fun j => ρl.getD j none) (targumlaw20_text.H l).length h (targumlaw20_text.H l) ρl ∧ (l.length ≤ 1000000) ∧ K (.string (strOf (textL signs20 l))) h
theorem targumlaw20_text.t (l : List UInt8) (K : VK) : mwp S0 (targumlaw20_text.LS) targumlaw20_text.m (retK [.t 2] K) (argE 0 [.slice (some ⟨0, 0, none⟩) l.length l.length]) (lit ([seedB l])) = (∃ (l_1 : List UInt8), ∃ (j : Nat), ((2 : Nat) = (2 : Nat) ∧ In (2 : Nat) (targumlaw20_text.N0 l_1 j) [Value.slice (some (Addr.mk (0 : Nat) (0 : Nat) none)) l.length l.length, Value.pointer (some (Addr.mk (1 : Nat) (0 : Nat) none)), Value.string (ByteArray.mk #[]), Value.int IntKind.i64 (0 : Int)] (Heap.mk (2 : Nat) [seedB l, some (Blk.mk (43 : Nat) (32 : Nat) ([] ++ [Value.string (ByteArray.mk #[(97 : UInt8)]), Value.string (ByteArray.mk #[(98 : UInt8)]), Value.string (ByteArray.mk #[(32 : UInt8)]), Value.string (ByteArray.mk #[(9 : UInt8)]), Value.string (ByteArray.mk #[(10 : UInt8)]), Value.string (ByteArray.mk #[(13 : UInt8)]), Value.string (ByteArray.mk #[(10 : UInt8), (32 : UInt8)]), Value.string (ByteArray.mk #[(10 : UInt8), (32 : UInt8), (32 : UInt8)]), Value.string (ByteArray.mk #[(10 : UInt8), (10 : UInt8)]), Value.string (ByteArray.mk #[(194 : UInt8), (133 : UInt8), (32 : UInt8)]), Value.string (ByteArray.mk #[(226 : UInt8), (128 : UInt8), (168 : UInt8)]), Value.string (ByteArray.mk #[(58 : UInt8)]), Value.string (ByteArray.mk #[(58 : UInt8), (32 : UInt8)]), Value.string (ByteArray.mk #[(35 : UInt8)]), Value.string (ByteArray.mk #[(32 : UInt8), (35 : UInt8)]), Value.string (ByteArray.mk #[(44 : UInt8)]), Value.string (ByteArray.mk #[(91 : UInt8)]), Value.string (ByteArray.mk #[(93 : UInt8)]), Value.string (ByteArray.mk #[(123 : UInt8)]), Value.string (ByteArray.mk #[(125 : UInt8)]), Value.string (ByteArray.mk #[(45 : UInt8)]), Value.string (ByteArray.mk #[(45 : UInt8), (32 : UInt8)]), Value.string (ByteArray.mk #[(63 : UInt8)]), Value.string (ByteArray.mk #[(39 : UInt8)]), Value.string (ByteArray.mk #[(34 : UInt8)]), Value.string (ByteArray.mk #[(37 : UInt8)]), Value.string (ByteArray.mk #[(45 : UInt8), (45 : UInt8), (45 : UInt8)]), Value.string (ByteArray.mk #[(10 : UInt8), (45 : UInt8), (45 : UInt8), (45 : UInt8), (10 : UInt8)]), Value.string (ByteArray.mk #[(46 : UInt8), (46 : UInt8), (46 : UInt8)]), Value.string (ByteArray.mk #[(38 : UInt8)]), Value.string (ByteArray.mk #[(33 : UInt8)]), Value.string (ByteArray.mk #[(195 : UInt8), (169 : UInt8)])] ++ []) true)]) ∧ l_1.length ≤ (1000000 : Nat) ∧ j ≤ l_1.length) ∧ ∀ (i' : Int), K (Value.string (strOf (textL signs20 l_1))) (Heap.mk (2 : Nat) [seedB l_1, some (Blk.mk (43 : TypeId) (32 : Nat) (strsV signs20) true)])) := by kernel_rfl
theorem targumlaw20_text.sc : ∀ vs h K, targumlaw20_text.s vs h K → ACalls Tryd.prog targumlaw20_text.n vs h K := by
  rintro vs h K ⟨l, ρl, hvs, hg, hp, hh⟩
  refine ACalls.over ρl hg (by simp [okT, okA, okF, flatV, targumlaw20_text.H]) hvs (acalls_mk S0_ok targumlaw20_text.ok (LS := targumlaw20_text.LS) (by simp only [targumlaw20_text.m, LOk, and_true, true_and]; (repeat' apply And.intro) <;> first | trivial | exact targumlaw20_text.lo0) (Nat.le_of_ble_eq_true rfl) (Eq.mpr (targumlaw20_text.t l (fun v _ => ck (cleanT v) (K v h))) ?_))
  clear hvs hg
  exact ⟨l, 0, ⟨rfl, .inl ⟨rfl, rfl⟩, hp, Nat.zero_le _⟩, fun i' => hh⟩
theorem targumlaw20_text.sm : SpecMono targumlaw20_text.s := by
  rintro vs h K K' hk ⟨l, ρl, h1, h2, h3, h4⟩
  exact ⟨l, ρl, h1, h2, h3, hk _ _ h4⟩
theorem targumlaw20_text.sd : SpecDet targumlaw20_text.s := by
  rintro vs h K ⟨l, ρl, h1, h2, h3, h4⟩
  exact ⟨_, h4, l, ρl, h1, h2, h3, rfl⟩

end Go.Mini
