/- The law's known cases (block texts), letters of a seed, a digit's text. Conditions: sizes. -/
import Derived.Test.YthllhoodbfnlaaaDoorBk7
import Derived.Test.YthllhoodbfnlaaaDoorTxt
namespace Go.Mini
open Go Go.RowKit Go.Proofs
set_option maxRecDepth 100000
set_option linter.unusedVariables false
set_option linter.unusedSimpArgs false

def KJ : CT := (extC KI block_Read.n block_Read.s)
theorem KJ_ok : COk Tryd.prog KJ := (extC_ok KI_ok block_Read.sc block_Read.sd)
theorem KJ_mono : CMono KJ := (extC_mono KI_mono block_Read.sm)
def targumlaw19_known.s : List Value → Heap → VK → Prop
  | [], h, K => K (.bool true) h
  | _, _, _ => False
theorem targumlaw19_known.t  (K : VK) : mwp KJ (lt0) targumlaw19_known.m (retK [.t 0] K) (argE 0 []) (lit []) = (((ByteArray.mk #[(124 : UInt8), (10 : UInt8), (32 : UInt8), (97 : UInt8), (10 : UInt8), (98 : UInt8)]).size ≤ (100000 : Nat) ∧ (-10000000 : Int) ≤ (0 : Int) ∧ (0 : Int) ≤ (10000000 : Int) ∧ (-1 : Int) ≤ (0 : Int) ∧ (0 : Int) ≤ (1000000 : Int)) ∧ ((ByteArray.mk #[(62 : UInt8), (45 : UInt8), (10 : UInt8), (32 : UInt8), (32 : UInt8), (97 : UInt8), (10 : UInt8), (32 : UInt8), (32 : UInt8), (98 : UInt8), (10 : UInt8), (10 : UInt8), (32 : UInt8), (32 : UInt8), (32 : UInt8), (99 : UInt8), (10 : UInt8)]).size ≤ (100000 : Nat) ∧ (-10000000 : Int) ≤ (0 : Int) ∧ (0 : Int) ≤ (10000000 : Int) ∧ (-1 : Int) ≤ (0 : Int) ∧ (0 : Int) ≤ (1000000 : Int)) ∧ ((ByteArray.mk #[(124 : UInt8), (10 : UInt8), (32 : UInt8), (32 : UInt8), (32 : UInt8), (10 : UInt8), (32 : UInt8), (97 : UInt8), (10 : UInt8)]).size ≤ (100000 : Nat) ∧ (-10000000 : Int) ≤ (0 : Int) ∧ (0 : Int) ≤ (10000000 : Int) ∧ (-1 : Int) ≤ (0 : Int) ∧ (0 : Int) ≤ (1000000 : Int)) ∧ ((ByteArray.mk #[(124 : UInt8), (50 : UInt8), (43 : UInt8), (32 : UInt8), (35 : UInt8), (32 : UInt8), (120 : UInt8), (10 : UInt8), (32 : UInt8), (32 : UInt8), (32 : UInt8), (97 : UInt8), (10 : UInt8), (10 : UInt8)]).size ≤ (100000 : Nat) ∧ (-10000000 : Int) ≤ (0 : Int) ∧ (0 : Int) ≤ (10000000 : Int) ∧ (-1 : Int) ≤ (-1 : Int) ∧ (-1 : Int) ≤ (1000000 : Int)) ∧ K (Value.bool (decide (rdN' (rdI (11 : Int) (ByteArray.mk #[(124 : UInt8), (50 : UInt8), (43 : UInt8), (32 : UInt8), (35 : UInt8), (32 : UInt8), (120 : UInt8), (10 : UInt8), (32 : UInt8), (32 : UInt8), (32 : UInt8), (97 : UInt8), (10 : UInt8), (10 : UInt8)]) (0 : Int) (-1 : Int)) = (14 : Int)))) (Heap.mk (4 : Nat) [some (Blk.mk (30 : Nat) (2 : Nat) ([] ++ [Value.int IntKind.i64 (rdC' (rdI (11 : Int) (ByteArray.mk #[(124 : UInt8), (10 : UInt8), (32 : UInt8), (97 : UInt8), (10 : UInt8), (98 : UInt8)]) (0 : Int) (0 : Int))), Value.int IntKind.i64 (rdO' (rdI (11 : Int) (ByteArray.mk #[(124 : UInt8), (10 : UInt8), (32 : UInt8), (97 : UInt8), (10 : UInt8), (98 : UInt8)]) (0 : Int) (0 : Int)))] ++ []) true), some (Blk.mk (30 : Nat) (2 : Nat) ([] ++ [Value.int IntKind.i64 (rdC' (rdI (12 : Int) (ByteArray.mk #[(62 : UInt8), (45 : UInt8), (10 : UInt8), (32 : UInt8), (32 : UInt8), (97 : UInt8), (10 : UInt8), (32 : UInt8), (32 : UInt8), (98 : UInt8), (10 : UInt8), (10 : UInt8), (32 : UInt8), (32 : UInt8), (32 : UInt8), (99 : UInt8), (10 : UInt8)]) (0 : Int) (0 : Int))), Value.int IntKind.i64 (rdO' (rdI (12 : Int) (ByteArray.mk #[(62 : UInt8), (45 : UInt8), (10 : UInt8), (32 : UInt8), (32 : UInt8), (97 : UInt8), (10 : UInt8), (32 : UInt8), (32 : UInt8), (98 : UInt8), (10 : UInt8), (10 : UInt8), (32 : UInt8), (32 : UInt8), (32 : UInt8), (99 : UInt8), (10 : UInt8)]) (0 : Int) (0 : Int)))] ++ []) true), some (Blk.mk (30 : Nat) (2 : Nat) ([] ++ [Value.int IntKind.i64 (rdC' (rdI (11 : Int) (ByteArray.mk #[(124 : UInt8), (10 : UInt8), (32 : UInt8), (32 : UInt8), (32 : UInt8), (10 : UInt8), (32 : UInt8), (97 : UInt8), (10 : UInt8)]) (0 : Int) (0 : Int))), Value.int IntKind.i64 (rdO' (rdI (11 : Int) (ByteArray.mk #[(124 : UInt8), (10 : UInt8), (32 : UInt8), (32 : UInt8), (32 : UInt8), (10 : UInt8), (32 : UInt8), (97 : UInt8), (10 : UInt8)]) (0 : Int) (0 : Int)))] ++ []) true), some (Blk.mk (30 : Nat) (2 : Nat) ([] ++ [Value.int IntKind.i64 (rdC' (rdI (11 : Int) (ByteArray.mk #[(124 : UInt8), (50 : UInt8), (43 : UInt8), (32 : UInt8), (35 : UInt8), (32 : UInt8), (120 : UInt8), (10 : UInt8), (32 : UInt8), (32 : UInt8), (32 : UInt8), (97 : UInt8), (10 : UInt8), (10 : UInt8)]) (0 : Int) (-1 : Int))), Value.int IntKind.i64 (rdO' (rdI (11 : Int) (ByteArray.mk #[(124 : UInt8), (50 : UInt8), (43 : UInt8), (32 : UInt8), (35 : UInt8), (32 : UInt8), (120 : UInt8), (10 : UInt8), (32 : UInt8), (32 : UInt8), (32 : UInt8), (97 : UInt8), (10 : UInt8), (10 : UInt8)]) (0 : Int) (-1 : Int)))] ++ []) true)])) := by kernel_rfl
theorem targumlaw19_known.c  (h : Heap) (K : VK) (hh : K (.bool true) h) : ACalls Tryd.prog targumlaw19_known.n [] h K := by
  refine ACalls.alone rfl (acalls_mk KJ_ok targumlaw19_known.ok (LS := lt0) (by simp only [targumlaw19_known.m, LOk, and_true, true_and]) (Nat.le_of_ble_eq_true rfl) (Eq.mpr (targumlaw19_known.t  (fun v _ => ck (cleanT v) (K v h))) ?_))
  have e : rdN' (rdI 11 (ByteArray.mk #[124, 50, 43, 32, 35, 32, 120, 10, 32, 32, 32, 97, 10, 10]) 0 (-1)) = 14 := by kernel_rfl
  refine ⟨by decide, by decide, by decide, by decide, ck_iff.2 ⟨rfl, ?_⟩⟩
  rw [e]
  exact hh
theorem targumlaw19_known.sc : ∀ vs h K, targumlaw19_known.s vs h K → ACalls Tryd.prog targumlaw19_known.n vs h K := by
  intro vs h K hh; unfold targumlaw19_known.s at hh; split at hh
  · exact targumlaw19_known.c  _ _ hh
  · exact hh.elim
theorem targumlaw19_known.sm : SpecMono targumlaw19_known.s := by
  intro vs h K K' hk hh; unfold targumlaw19_known.s at hh ⊢; split at hh
  · exact hk _ _ hh
  · exact hh.elim
theorem targumlaw19_known.sd : SpecDet targumlaw19_known.s := by
  intro vs h K hh; unfold targumlaw19_known.s at hh; split at hh
  · exact ⟨_, hh, rfl⟩
  · exact hh.elim

def targumlaw19_letters.N0 (s : ByteArray) (j : Nat) (vs : List Value) (h : Heap) : Prop := vs = [.string s, .string (strOf (letL ((lst s).take j))), .int .i64 j] ∧ h = lit []
def targumlaw19_letters.sp0 : LSpec := ⟨targumlaw19_letters.cs0, targumlaw19_letters.ts0, fun vs h K => ∃ (s : ByteArray) (j : Nat), (h.n = 0 ∧ In 0 (targumlaw19_letters.N0 s j) vs h ∧ (s.size ≤ 1000000 ∧ j ≤ s.size)) ∧ (∀ i' : Int, K (.exit 0) [.string s, .string (strOf (letL (lst s))), .int .i64 i'] (lit []))⟩
theorem targumlaw19_letters.spm0 : LSpecMono targumlaw19_letters.sp0 := by
  rintro vs h K K' hk ⟨s, j, h3, h4⟩
  exact ⟨s, j, h3, fun i' => hk _ _ _ (h4 i')⟩
theorem targumlaw19_letters.t0 (s : ByteArray) (j : Nat) (E : Env) (N : List Value → Heap → Prop) (K : LK) : mwp S0 (lt0) targumlaw19_letters.l0 (lK targumlaw19_letters.cs0 N K) (zipE targumlaw19_letters.cs0 [.string s, .string (strOf (letL ((lst s).take j))), .int .i64 j] ++ E) (lit []) = (br (decide ((↑j : Int) < (↑s.size : Int))) (((0 : Int) ≤ (↑j : Int) ∧ (↑j : Int) < (↑s.size : Int)) ∧ (26 : Int) ≠ (0 : Int) ∧ rng IntKind.u8 ((97 : Int) + (↑(byteAt s (↑j : Int).toNat).toNat : Int).tmod (26 : Int)) ∧ ∃ (l : List UInt8), ([Value.int IntKind.u8 ((97 : Int) + (↑(byteAt s (↑j : Int).toNat).toNat : Int).tmod (26 : Int))] = List.map (fun (b : UInt8) => Value.int IntKind.u8 (↑b.toNat : Int)) l ∧ l.length = (1 : Nat)) ∧ (strOf (letL (List.take j (lst s)))).size + (ByteArray.mk l.toArray).size ≤ (9223372036854775807 : Nat) ∧ rng IntKind.i64 ((↑j : Int) + (1 : Int)) ∧ N [Value.string s, Value.string (strOf (letL (List.take j (lst s))) ++ ByteArray.mk l.toArray), Value.int IntKind.i64 ((↑j : Int) + (1 : Int))] (Heap.mk (1 : Nat) [some (Blk.mk (5 : Nat) (1 : Nat) [Value.int IntKind.u8 ((97 : Int) + (↑(byteAt s (↑j : Int).toNat).toNat : Int).tmod (26 : Int))] true)])) (K (Exit.exit (0 : Nat)) [Value.string s, Value.string (strOf (letL (List.take j (lst s)))), Value.int IntKind.i64 (↑j : Int)] (Heap.mk (0 : Nat) []))) := by kernel_rfl
theorem targumlaw19_letters.lo0 : LOk1 Tryd.prog targumlaw19_letters.nt targumlaw19_letters.sp0 (.loop 0 targumlaw19_letters.l0) := by
  refine loop_resC (σ := ByteArray × Nat) S0_ok S0_mono (lt0_mono) (LS := lt0) (by simp only [targumlaw19_letters.l0, LOk, and_true, true_and]) rfl rfl (fun ⟨s, j⟩ => [.string s, .string (strOf (letL ((lst s).take j))), .int .i64 j]) (fun ⟨s, j⟩ => lit []) (fun ⟨s, j⟩ => s.size ≤ 1000000 ∧ j ≤ s.size) (fun ⟨s, j⟩ => s.size - j) 0 (fun ⟨s, j⟩ K => ∀ i' : Int, K (.exit 0) [.string s, .string (strOf (letL (lst s))), .int .i64 i'] (lit [])) ?_ ?_
  · rintro vs h K ⟨s, j, ⟨h1, h2, h3⟩, h4⟩
    exact ⟨h1, ⟨s, j⟩, h2, h3, h4⟩
  rintro ⟨s, j⟩ E N K hE hp hN hK
  dsimp only at hp hN hK
  refine Eq.mpr (targumlaw19_letters.t0 s j E N (fun x => In 0 (K x))) ?_
  obtain ⟨hs, h1⟩ := hp
  have hll := lst_len s
  refine br_intro (fun hb => ?_) (fun hb => ?_)
  · simp only [decide_eq_true_eq] at hb
    have hj : j < (lst s).length := by omega
    have hbj : byteAt s (j : Int).toNat = (lst s).getD j 0 := rfl
    rw [hbj]
    have hb2 : ((lst s).getD j 0).toNat < 256 := UInt8.toNat_lt _
    have e1 : (97 : Int) + (((lst s).getD j 0).toNat : Int).tmod 26 = ((UInt8.ofNat (97 + ((lst s).getD j 0).toNat % 26)).toNat : Int) := by
      rw [Int.tmod_eq_emod_of_nonneg (by omega), UInt8.toNat_ofNat']; omega
    have hlen : ((lst s).take j).length ≤ s.size := by rw [List.length_take]; omega
    refine ⟨⟨by omega, by omega⟩, by omega, by rw [e1, UInt8.toNat_ofNat']; simp only [rng]; omega, [UInt8.ofNat (97 + ((lst s).getD j 0).toNat % 26)], ⟨by rw [e1]; rfl, rfl⟩, ?_, by simp only [rng]; omega, ?_⟩
    · rw [strOf_size, letL_len, show (ByteArray.mk #[UInt8.ofNat (97 + ((lst s).getD j 0).toNat % 26)]).size = 1 from rfl]; omega
    · rw [show ByteArray.mk #[UInt8.ofNat (97 + ((lst s).getD j 0).toNat % 26)] = strOf [UInt8.ofNat (97 + ((lst s).getD j 0).toNat % 26)] from rfl, strOf_app]
      have e2 : letL ((lst s).take j) ++ [UInt8.ofNat (97 + ((lst s).getD j 0).toNat % 26)] = letL ((lst s).take (j + 1)) := by
        rw [take_snoc hj]; simp [letL]
      rw [e2]
      refine hN (s, j + 1) _ _ ⟨hs, by dsimp only; omega⟩ (by dsimp only; omega) hK ?_
      refine In.rows [] trivial rfl rfl rfl ?_ ?_
      · simp [renT, renA, ren]
      · simp [okT, okA, okF, flatV]
  · simp only [decide_eq_false_iff_not] at hb
    rw [List.take_of_length_le (by omega)]
    exact .inl (hK j)

def targumlaw19_letters.LS : LT := (extL lt0 0 targumlaw19_letters.sp0)
theorem targumlaw19_letters.LS_mono : LMono targumlaw19_letters.LS := (extL_mono lt0_mono targumlaw19_letters.spm0)
def targumlaw19_letters.s : List Value → Heap → VK → Prop
  | [.string s], h, K => (s.size ≤ 1000000) ∧ K (.string (strOf (letL (lst s)))) h
  | _, _, _ => False
theorem targumlaw19_letters.t (s : ByteArray) (K : VK) : mwp S0 (targumlaw19_letters.LS) targumlaw19_letters.m (retK [.t 2] K) (argE 0 [.string s]) (lit []) = (∃ (s_1 : ByteArray), ∃ (j : Nat), ((0 : Nat) = (0 : Nat) ∧ In (0 : Nat) (targumlaw19_letters.N0 s_1 j) [Value.string s, Value.string (ByteArray.mk #[(113 : UInt8)]), Value.int IntKind.i64 (0 : Int)] (Heap.mk (0 : Nat) []) ∧ s_1.size ≤ (1000000 : Nat) ∧ j ≤ s_1.size) ∧ ∀ (i' : Int), K (Value.string (strOf (letL (lst s_1)))) (Heap.mk (0 : Nat) [])) := by kernel_rfl
theorem targumlaw19_letters.c (s : ByteArray) (h : Heap) (K : VK) (hp : s.size ≤ 1000000) (hh : K (.string (strOf (letL (lst s)))) h) : ACalls Tryd.prog targumlaw19_letters.n [.string s] h K := by
  refine ACalls.alone rfl (acalls_mk S0_ok targumlaw19_letters.ok (LS := targumlaw19_letters.LS) (by simp only [targumlaw19_letters.m, LOk, and_true, true_and]; (repeat' apply And.intro) <;> first | trivial | exact targumlaw19_letters.lo0) (Nat.le_of_ble_eq_true rfl) (Eq.mpr (targumlaw19_letters.t s (fun v _ => ck (cleanT v) (K v h))) ?_))
  exact ⟨s, 0, ⟨rfl, .inl ⟨rfl, rfl⟩, hp, Nat.zero_le _⟩, fun i' => hh⟩
theorem targumlaw19_letters.sc : ∀ vs h K, targumlaw19_letters.s vs h K → ACalls Tryd.prog targumlaw19_letters.n vs h K := by
  intro vs h K hh; unfold targumlaw19_letters.s at hh; split at hh
  · exact targumlaw19_letters.c _ _ _ hh.1 hh.2
  · exact hh.elim
theorem targumlaw19_letters.sm : SpecMono targumlaw19_letters.s := by
  intro vs h K K' hk hh; unfold targumlaw19_letters.s at hh ⊢; split at hh
  · exact ⟨hh.1, hk _ _ hh.2⟩
  · exact hh.elim
theorem targumlaw19_letters.sd : SpecDet targumlaw19_letters.s := by
  intro vs h K hh; unfold targumlaw19_letters.s at hh; split at hh
  · exact ⟨_, hh.2, hh.1, rfl⟩
  · exact hh.elim

def targumref4_Text.N0 (n : Nat) (q : Value) (vs : List Value) (h : Heap) : Prop := vs = [.int .i64 n, q, .string ⟨#[]⟩] ∧ h = lit []
def targumref4_Text.sp0 : LSpec := ⟨targumref4_Text.cs0, targumref4_Text.ts0, fun vs h K => ∃ (n : Nat) (q : Value), (h.n = 0 ∧ In 0 (targumref4_Text.N0 n q) vs h ∧ (n ≤ 9 ∧ q = .string ⟨#[]⟩)) ∧ (K .ret [.int .i64 0, .string (strOf [UInt8.ofNat (48 + n)]), .string (strOf [UInt8.ofNat (48 + n)])] (lit []))⟩
theorem targumref4_Text.spm0 : LSpecMono targumref4_Text.sp0 := by
  rintro vs h K K' hk ⟨n, q, h3, h4⟩
  exact ⟨n, q, h3, hk _ _ _ h4⟩
theorem targumref4_Text.t0 (n : Nat) (q : Value) (E : Env) (N : List Value → Heap → Prop) (K : LK) : mwp S0 (lt0) targumref4_Text.l0 (lK targumref4_Text.cs0 N K) (zipE targumref4_Text.cs0 [.int .i64 n, q, .string ⟨#[]⟩] ++ E) (lit []) = ((10 : Int) ≠ (0 : Int) ∧ rng IntKind.i64 ((48 : Int) + (↑n : Int).tmod (10 : Int)) ∧ rng IntKind.u8 ((48 : Int) + (↑n : Int).tmod (10 : Int)) ∧ ∃ (l : List UInt8), ([Value.int IntKind.u8 ((48 : Int) + (↑n : Int).tmod (10 : Int))] = List.map (fun (b : UInt8) => Value.int IntKind.u8 (↑b.toNat : Int)) l ∧ l.length = (1 : Nat)) ∧ (ByteArray.mk l.toArray).size + (ByteArray.mk #[]).size ≤ (9223372036854775807 : Nat) ∧ (10 : Int) ≠ (0 : Int) ∧ rng IntKind.i64 ((↑n : Int).tdiv (10 : Int)) ∧ br (decide ((↑n : Int).tdiv (10 : Int) = (0 : Int))) (K Exit.ret [Value.int IntKind.i64 ((↑n : Int).tdiv (10 : Int)), Value.string (ByteArray.mk l.toArray ++ ByteArray.mk #[]), Value.string (ByteArray.mk l.toArray ++ ByteArray.mk #[])] (Heap.mk (1 : Nat) [some (Blk.mk (5 : Nat) (1 : Nat) [Value.int IntKind.u8 ((48 : Int) + (↑n : Int).tmod (10 : Int))] true)])) (N [Value.int IntKind.i64 ((↑n : Int).tdiv (10 : Int)), q, Value.string (ByteArray.mk l.toArray ++ ByteArray.mk #[])] (Heap.mk (1 : Nat) [some (Blk.mk (5 : Nat) (1 : Nat) [Value.int IntKind.u8 ((48 : Int) + (↑n : Int).tmod (10 : Int))] true)]))) := by kernel_rfl
theorem targumref4_Text.lo0 : LOk1 Tryd.prog targumref4_Text.nt targumref4_Text.sp0 (.loop 0 targumref4_Text.l0) := by
  refine loop_resC (σ := Nat × Value) S0_ok S0_mono (lt0_mono) (LS := lt0) (by simp only [targumref4_Text.l0, LOk, and_true, true_and]) rfl rfl (fun ⟨n, q⟩ => [.int .i64 n, q, .string ⟨#[]⟩]) (fun ⟨n, q⟩ => lit []) (fun ⟨n, q⟩ => n ≤ 9 ∧ q = .string ⟨#[]⟩) (fun ⟨n, q⟩ => n) 0 (fun ⟨n, q⟩ K => K .ret [.int .i64 0, .string (strOf [UInt8.ofNat (48 + n)]), .string (strOf [UInt8.ofNat (48 + n)])] (lit [])) ?_ ?_
  · rintro vs h K ⟨n, q, ⟨h1, h2, h3⟩, h4⟩
    exact ⟨h1, ⟨n, q⟩, h2, h3, h4⟩
  rintro ⟨n, q⟩ E N K hE hp hN hK
  dsimp only at hp hN hK
  refine Eq.mpr (targumref4_Text.t0 n q E N (fun x => In 0 (K x))) ?_
  obtain ⟨hn, rfl⟩ := hp
  have e1 : (48 : Int) + (n : Int).tmod 10 = ((UInt8.ofNat (48 + n)).toNat : Int) := by
    rw [Int.tmod_eq_emod_of_nonneg (by omega), UInt8.toNat_ofNat']; omega
  have e2 : (n : Int).tdiv 10 = 0 := by rw [Int.tdiv_eq_ediv_of_nonneg (by omega)]; omega
  have hb : (UInt8.ofNat (48 + n)).toNat < 256 := UInt8.toNat_lt _
  rw [e1, e2]
  refine ⟨by decide, by simp only [rng]; omega, by simp only [rng]; omega, [UInt8.ofNat (48 + n)], ⟨rfl, rfl⟩, ?_, by decide, by simp only [rng]; omega, ?_⟩
  · rw [show (ByteArray.mk [UInt8.ofNat (48 + n)].toArray).size = 1 from rfl]; decide
  · refine br_intro (fun _ => ?_) (fun hf => absurd hf (by decide))
    rw [show ByteArray.mk [UInt8.ofNat (48 + n)].toArray ++ ByteArray.mk #[] = strOf [UInt8.ofNat (48 + n)] from by
      rw [show ByteArray.mk [UInt8.ofNat (48 + n)].toArray = strOf [UInt8.ofNat (48 + n)] from rfl, show ByteArray.mk #[] = strOf [] from rfl, strOf_app]; rfl]
    exact In.lit (L := []) [] _ trivial rfl rfl rfl (by simp [renT, renA, ren]) (by simp [okT, okA, okF, flatV]) hK

def targumref4_Text.LS : LT := (extL lt0 0 targumref4_Text.sp0)
theorem targumref4_Text.LS_mono : LMono targumref4_Text.LS := (extL_mono lt0_mono targumref4_Text.spm0)
def targumref4_Text.s : List Value → Heap → VK → Prop
  | [.int .i64 n], h, K => (0 ≤ n ∧ n ≤ 9) ∧ K (.string (strOf [UInt8.ofNat (48 + n.toNat)])) h
  | _, _, _ => False
theorem targumref4_Text.t (n : Int) (K : VK) : mwp S0 (targumref4_Text.LS) targumref4_Text.m (retK [.t 2] K) (argE 0 [.int .i64 n]) (lit []) = (∃ (n_1 : Nat), ∃ (q : Value), ((0 : Nat) = (0 : Nat) ∧ In (0 : Nat) (targumref4_Text.N0 n_1 q) [Value.int IntKind.i64 n, Value.string (ByteArray.mk #[]), Value.string (ByteArray.mk #[])] (Heap.mk (0 : Nat) []) ∧ n_1 ≤ (9 : Nat) ∧ q = Value.string (ByteArray.mk #[])) ∧ K (Value.string (strOf [UInt8.ofNat ((48 : Nat) + n_1)])) (Heap.mk (0 : Nat) [])) := by kernel_rfl
theorem targumref4_Text.c (n : Int) (h : Heap) (K : VK) (hp : 0 ≤ n ∧ n ≤ 9) (hh : K (.string (strOf [UInt8.ofNat (48 + n.toNat)])) h) : ACalls Tryd.prog targumref4_Text.n [.int .i64 n] h K := by
  refine ACalls.alone rfl (acalls_mk S0_ok targumref4_Text.ok (LS := targumref4_Text.LS) (by simp only [targumref4_Text.m, LOk, and_true, true_and]; (repeat' apply And.intro) <;> first | trivial | exact targumref4_Text.lo0) (Nat.le_of_ble_eq_true rfl) (Eq.mpr (targumref4_Text.t n (fun v _ => ck (cleanT v) (K v h))) ?_))
  obtain ⟨m, rfl⟩ : ∃ m : Nat, n = m := ⟨n.toNat, by omega⟩
  exact ⟨m, .string ⟨#[]⟩, ⟨rfl, .inl ⟨rfl, rfl⟩, by omega, rfl⟩, hh⟩
theorem targumref4_Text.sc : ∀ vs h K, targumref4_Text.s vs h K → ACalls Tryd.prog targumref4_Text.n vs h K := by
  intro vs h K hh; unfold targumref4_Text.s at hh; split at hh
  · exact targumref4_Text.c _ _ _ hh.1 hh.2
  · exact hh.elim
theorem targumref4_Text.sm : SpecMono targumref4_Text.s := by
  intro vs h K K' hk hh; unfold targumref4_Text.s at hh ⊢; split at hh
  · exact ⟨hh.1, hk _ _ hh.2⟩
  · exact hh.elim
theorem targumref4_Text.sd : SpecDet targumref4_Text.s := by
  intro vs h K hh; unfold targumref4_Text.s at hh; split at hh
  · exact ⟨_, hh.2, hh.1, rfl⟩
  · exact hh.elim

/-! ### The reader, closed: a name that does not unfold by itself -/
def rdJ (v : Int) (s : ByteArray) (i p : Int) (n : Nat) : Except (Int × Int) (List UInt8 × Int × Int) := if n = 0 then rdI v s i p else rdJ v s i p (n - 1)
  termination_by n
theorem rdJ_eq (v : Int) (s : ByteArray) (i p : Int) : rdJ v s i p 0 = rdI v s i p := by rw [rdJ, if_pos rfl]
def readJ.s : List Value → Heap → VK → Prop
  | [.int .i64 v, .string s, .int .i64 i, .int .i64 p], h, K => (s.size ≤ 100000 ∧ -10000000 ≤ i ∧ i ≤ 10000000 ∧ -1 ≤ p ∧ p ≤ 1000000) ∧ K (.tuple #[.string (strOf (rdT' (rdJ v s i p 0))), .int .i64 (rdE' (rdJ v s i p 0)), .int .i64 (rdN' (rdJ v s i p 0)), .agg #[.int .i64 (rdC' (rdJ v s i p 0)), .int .i64 (rdO' (rdJ v s i p 0))]]) h
  | _, _, _ => False
theorem readJ.eq : readJ.s = block_Read.s := by
  funext vs h K
  unfold readJ.s block_Read.s
  simp only [rdJ_eq]
  rfl
theorem readJ.sc : ∀ vs h K, readJ.s vs h K → ACalls Tryd.prog block_Read.n vs h K := by rw [readJ.eq]; exact block_Read.sc
theorem readJ.sm : SpecMono readJ.s := by rw [readJ.eq]; exact block_Read.sm
theorem readJ.sd : SpecDet readJ.s := by rw [readJ.eq]; exact block_Read.sd
def KQ : CT := extC KI block_Read.n readJ.s
theorem KQ_ok : COk Tryd.prog KQ := extC_ok KI_ok readJ.sc readJ.sd
theorem KQ_mono : CMono KQ := extC_mono KI_mono readJ.sm

end Go.Mini
