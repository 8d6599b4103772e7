/- PlainFolds: for every input the answer is true. No condition. -/
import Derived.Test.YtcdkcdapbadkaaaDoorL20e
import Derived.Test.YtcdkcdapbadkaaaDoorFold20b
namespace Go.Mini
open Go Go.RowKit Go.Proofs
set_option maxRecDepth 100000
set_option linter.unusedVariables false
set_option linter.unusedSimpArgs false

def dep (p : Int) (d : UInt8) : Nat := (p + 1 + (d.toNat % 4 : Nat)).toNat
def item (p : Int) (L : List (List UInt8)) (G D : List UInt8) (j : Nat) : Nat × Nat × List UInt8 := ((G.getD j 0).toNat % 4, dep p (D.getD j 0), letL (L.getD j []))
def items (p : Int) (L : List (List UInt8)) (G D : List UInt8) : Nat → List (Nat × Nat × List UInt8)
  | 0 => []
  | j + 1 => items p L G D j ++ [item p L G D (j + 1)]
def accT (p : Int) (L : List (List UInt8)) (G D : List UInt8) : Nat → List UInt8
  | 0 => []
  | j + 1 => letL (L.getD 0 []) ++ itT (items p L G D j)
def accW (p : Int) (L : List (List UInt8)) (G D : List UInt8) : Nat → List UInt8
  | 0 => []
  | j + 1 => letL (L.getD 0 []) ++ itW (items p L G D j)
theorem gapT_len (g d : Nat) : (gapT g d).length = 2 + 2 * g + d := by simp [gapT]; omega
theorem itT_snoc (l : List (Nat × Nat × List UInt8)) (x : Nat × Nat × List UInt8) : itT (l ++ [x]) = itT l ++ gapT x.1 x.2.1 ++ x.2.2 := by simp [itT]
theorem itW_snoc (l : List (Nat × Nat × List UInt8)) (x : Nat × Nat × List UInt8) : itW (l ++ [x]) = itW l ++ gapW x.1 ++ x.2.2 := by simp [itW]
theorem accT_step (p : Int) (L : List (List UInt8)) (G D : List UInt8) (m : Nat) : accT p L G D (m + 1 + 1) = accT p L G D (m + 1) ++ gapT ((G.getD (m + 1) 0).toNat % 4) (dep p (D.getD (m + 1) 0)) ++ letL (L.getD (m + 1) []) := by
  rw [accT, items, itT_snoc, accT]; simp [item]
theorem accW_step (p : Int) (L : List (List UInt8)) (G D : List UInt8) (m : Nat) : accW p L G D (m + 1 + 1) = accW p L G D (m + 1) ++ gapW ((G.getD (m + 1) 0).toNat % 4) ++ letL (L.getD (m + 1) []) := by
  rw [accW, items, itW_snoc, accW]; simp [item]
theorem items_ok (p : Int) (L : List (List UInt8)) (G D : List UInt8) (hp : -1 ≤ p) : ∀ m : Nat, itOk p (items p L G D m)
  | 0 => fun x hx => by cases hx
  | m + 1 => fun x hx => by
    rcases List.mem_append.1 hx with h | h
    · exact items_ok p L G D hp m x h
    · rw [List.mem_singleton.1 h]
      exact ⟨by simp only [item, dep]; omega, letL_let _, letL_ne _⟩
theorem accT_len (p : Int) (L : List (List UInt8)) (G D : List UInt8) (hp : p ≤ 3) : ∀ j : Nat, j ≤ 8 → (∀ k, k < j → (L.getD k []).length ≤ 30) → (accT p L G D j).length ≤ 100 * j ∧ (accW p L G D j).length ≤ 100 * j
  | 0, _, _ => by simp [accT, accW]
  | 1, _, h => by
    have := h 0 (by omega)
    simp only [accT, accW, items, itT, itW, List.map_nil, List.flatten_nil, List.append_nil, letL_len]; omega
  | j + 2, hj, h => by
    have ih := accT_len p L G D hp (j + 1) (by omega) (fun k hk => h k (by omega))
    have h1 := h (j + 1) (by omega)
    have hd : dep p (D.getD (j + 1) 0) ≤ 7 := by
      have : (D.getD (j + 1) 0).toNat < 256 := UInt8.toNat_lt _
      unfold dep; omega
    have hg : (gapT ((G.getD (j + 1) 0).toNat % 4) (dep p (D.getD (j + 1) 0))).length ≤ 20 := by rw [gapT_len]; omega
    have hw : (gapW ((G.getD (j + 1) 0).toNat % 4)).length ≤ 4 := by
      unfold gapW; split
      · simp
      · rw [List.length_replicate]; omega
    rw [show j + 2 = j + 1 + 1 from rfl, accT_step, accW_step]
    simp only [List.length_append, letL_len]
    omega
abbrev txtsB (l : List (List UInt8)) : Option Blk := some ⟨9, 1, strsV l, false⟩

def targumlaw20_PlainFolds.sp2 : LSpec := ⟨targumlaw20_PlainFolds.cs2, targumlaw20_PlainFolds.ts2, fun vs h K => ∃ (a b : List UInt8) (g k : Nat), (vs = [.string (strOf a), .string (strOf b), .int .i64 g, .int .i64 k] ∧ (g ≤ 3 ∧ k ≤ g ∧ a.length + 2 * (g - k) ≤ 1000000 ∧ b.length + (g - k) ≤ 1000000)) ∧ (∀ k' : Int, K (.exit 2) [.string (strOf (a ++ (List.replicate (g - k) [9, 10]).flatten)), .string (strOf (b ++ List.replicate (g - k) 10)), .int .i64 g, .int .i64 k'] h)⟩
theorem targumlaw20_PlainFolds.spm2 : LSpecMono targumlaw20_PlainFolds.sp2 := by
  rintro vs h K K' hk ⟨a, b, g, k, h3, h4⟩
  exact ⟨a, b, g, k, h3, fun k' => hk _ _ _ (h4 k')⟩
theorem targumlaw20_PlainFolds.t2 (a b : List UInt8) (g k : Nat) (h : Heap) (E : Env) (N : List Value → Heap → Prop) (K : LK) : mwp S0 (lt0) targumlaw20_PlainFolds.l2 (lK targumlaw20_PlainFolds.cs2 N K) (zipE targumlaw20_PlainFolds.cs2 [.string (strOf a), .string (strOf b), .int .i64 g, .int .i64 k] ++ E) h = (br (decide ((↑k : Int) < (↑g : Int))) ((strOf a).size + (ByteArray.mk #[(9 : UInt8), (10 : UInt8)]).size ≤ (9223372036854775807 : Nat) ∧ (strOf b).size + (ByteArray.mk #[(10 : UInt8)]).size ≤ (9223372036854775807 : Nat) ∧ rng IntKind.i64 ((↑k : Int) + (1 : Int)) ∧ N [Value.string (strOf a ++ ByteArray.mk #[(9 : UInt8), (10 : UInt8)]), Value.string (strOf b ++ ByteArray.mk #[(10 : UInt8)]), Value.int IntKind.i64 (↑g : Int), Value.int IntKind.i64 ((↑k : Int) + (1 : Int))] h) (K (Exit.exit (2 : Nat)) [Value.string (strOf a), Value.string (strOf b), Value.int IntKind.i64 (↑g : Int), Value.int IntKind.i64 (↑k : Int)] h)) := by kernel_rfl
theorem targumlaw20_PlainFolds.lo2 : LOk1 Tryd.prog targumlaw20_PlainFolds.nt targumlaw20_PlainFolds.sp2 (.loop 2 targumlaw20_PlainFolds.l2) := by
  refine loop_res (σ := (List UInt8) × (List UInt8) × Nat × Nat) S0_ok S0_mono (lt0_mono) (LS := lt0) (by simp only [targumlaw20_PlainFolds.l2, LOk, and_true, true_and]) rfl rfl (fun ⟨a, b, g, k⟩ => [.string (strOf a), .string (strOf b), .int .i64 g, .int .i64 k]) (fun ⟨a, b, g, k⟩ h => g ≤ 3 ∧ k ≤ g ∧ a.length + 2 * (g - k) ≤ 1000000 ∧ b.length + (g - k) ≤ 1000000) (fun ⟨a, b, g, k⟩ => g - k) (fun ⟨a, b, g, k⟩ K h => ∀ k' : Int, K (.exit 2) [.string (strOf (a ++ (List.replicate (g - k) [9, 10]).flatten)), .string (strOf (b ++ List.replicate (g - k) 10)), .int .i64 g, .int .i64 k'] h) ?_ ?_
  · rintro vs h K ⟨a, b, g, k, ⟨h1, h2⟩, h3⟩
    exact ⟨⟨a, b, g, k⟩, h1, h2, h3⟩
  rintro ⟨a, b, g, k⟩ E h N K hE hp hN hK
  dsimp only at hp hN hK
  refine Eq.mpr (targumlaw20_PlainFolds.t2 a b g k h E N K) ?_
  obtain ⟨h1, h2, h3, h4⟩ := hp
  refine br_intro (fun hb => ?_) (fun hb => ?_)
  · simp only [decide_eq_true_eq] at hb
    refine ⟨by rw [strOf_size, mk2, strOf_size]; simp only [List.length_cons, List.length_nil]; omega, by rw [strOf_size, mk1, strOf_size]; simp only [List.length_cons, List.length_nil]; omega, by simp only [rng]; omega, ?_⟩
    rw [mk2, mk1, strOf_app, strOf_app]
    refine hN (a ++ [9, 10], b ++ [10], g, k + 1) h ⟨h1, by dsimp only; omega, by simp only [List.length_append, List.length_cons, List.length_nil]; omega, by simp only [List.length_append, List.length_cons, List.length_nil]; omega⟩ (by dsimp only; omega) ?_
    dsimp only at hK ⊢
    have e : g - k = g - (k + 1) + 1 := by omega
    rw [e, List.replicate_succ, List.flatten_cons, List.replicate_succ] at hK
    simpa using hK
  · simp only [decide_eq_false_iff_not] at hb
    rw [show g - k = 0 from by omega] at hK
    simp only [List.replicate_zero, List.flatten_nil, List.append_nil] at hK
    exact hK k

def targumlaw20_PlainFolds.N4 (L : List (List UInt8)) (G D : List UInt8) (p : Int) (a : List UInt8) (i k : Nat) (vs : List Value) (h : Heap) : Prop := vs = [.slice (some ⟨2, 0, none⟩) D.length D.length, .int .i64 p, .string (strOf a), .int .i64 i, .int .i64 k] ∧ h = lit [txtsB L, seedB G, seedB D]
def targumlaw20_PlainFolds.sp4 : LSpec := ⟨targumlaw20_PlainFolds.cs4, targumlaw20_PlainFolds.ts4, fun vs h K => ∃ (L : List (List UInt8)) (G D : List UInt8) (p : Int) (a : List UInt8) (i k : Nat), (h.n = 3 ∧ In 3 (targumlaw20_PlainFolds.N4 L G D p a i k) vs h ∧ (i < D.length ∧ i ≤ 100 ∧ -1 ≤ p ∧ p ≤ 3 ∧ k ≤ dep p (D.getD i 0) ∧ a.length + (dep p (D.getD i 0) - k) ≤ 1000000)) ∧ (∀ k' : Int, K (.exit 4) [.slice (some ⟨2, 0, none⟩) D.length D.length, .int .i64 p, .string (strOf (a ++ List.replicate (dep p (D.getD i 0) - k) 32)), .int .i64 i, .int .i64 k'] (lit [txtsB L, seedB G, seedB D]))⟩
theorem targumlaw20_PlainFolds.spm4 : LSpecMono targumlaw20_PlainFolds.sp4 := by
  rintro vs h K K' hk ⟨L, G, D, p, a, i, k, h3, h4⟩
  exact ⟨L, G, D, p, a, i, k, h3, fun k' => hk _ _ _ (h4 k')⟩
theorem targumlaw20_PlainFolds.t4 (L : List (List UInt8)) (G D : List UInt8) (p : Int) (a : List UInt8) (i k : Nat) (E : Env) (N : List Value → Heap → Prop) (K : LK) : mwp S0 (lt0) targumlaw20_PlainFolds.l4 (lK targumlaw20_PlainFolds.cs4 N K) (zipE targumlaw20_PlainFolds.cs4 [.slice (some ⟨2, 0, none⟩) D.length D.length, .int .i64 p, .string (strOf a), .int .i64 i, .int .i64 k] ++ E) (lit [txtsB L, seedB G, seedB D]) = (rng IntKind.i64 (p + (1 : Int)) ∧ ((0 : Int) ≤ (↑i : Int) ∧ (↑i : Int) < (↑D.length : Int)) ∧ ∃ (z : Int), List.take (1 : Nat) (List.drop ((0 : Nat) + (↑i : Int).toNat * (1 : Nat)) (byV D)) = [Value.int IntKind.u8 z] ∧ (4 : Int) ≠ (0 : Int) ∧ rng IntKind.i64 (z.tmod (4 : Int)) ∧ rng IntKind.i64 (p + (1 : Int) + z.tmod (4 : Int)) ∧ br (decide ((↑k : Int) < p + (1 : Int) + z.tmod (4 : Int))) ((strOf a).size + (ByteArray.mk #[(32 : UInt8)]).size ≤ (9223372036854775807 : Nat) ∧ rng IntKind.i64 ((↑k : Int) + (1 : Int)) ∧ N [Value.slice (some (Addr.mk (2 : Nat) (0 : Nat) none)) D.length D.length, Value.int IntKind.i64 p, Value.string (strOf a ++ ByteArray.mk #[(32 : UInt8)]), Value.int IntKind.i64 (↑i : Int), Value.int IntKind.i64 ((↑k : Int) + (1 : Int))] (Heap.mk (3 : Nat) [txtsB L, seedB G, seedB D])) (K (Exit.exit (4 : Nat)) [Value.slice (some (Addr.mk (2 : Nat) (0 : Nat) none)) D.length D.length, Value.int IntKind.i64 p, Value.string (strOf a), Value.int IntKind.i64 (↑i : Int), Value.int IntKind.i64 (↑k : Int)] (Heap.mk (3 : Nat) [txtsB L, seedB G, seedB D]))) := by kernel_rfl
theorem targumlaw20_PlainFolds.lo4 : LOk1 Tryd.prog targumlaw20_PlainFolds.nt targumlaw20_PlainFolds.sp4 (.loop 4 targumlaw20_PlainFolds.l4) := by
  refine loop_resC (σ := (List (List UInt8)) × (List UInt8) × (List UInt8) × Int × (List UInt8) × Nat × Nat) S0_ok S0_mono (lt0_mono) (LS := lt0) (by simp only [targumlaw20_PlainFolds.l4, LOk, and_true, true_and]) rfl rfl (fun ⟨L, G, D, p, a, i, k⟩ => [.slice (some ⟨2, 0, none⟩) D.length D.length, .int .i64 p, .string (strOf a), .int .i64 i, .int .i64 k]) (fun ⟨L, G, D, p, a, i, k⟩ => lit [txtsB L, seedB G, seedB D]) (fun ⟨L, G, D, p, a, i, k⟩ => i < D.length ∧ i ≤ 100 ∧ -1 ≤ p ∧ p ≤ 3 ∧ k ≤ dep p (D.getD i 0) ∧ a.length + (dep p (D.getD i 0) - k) ≤ 1000000) (fun ⟨L, G, D, p, a, i, k⟩ => dep p (D.getD i 0) - k) 3 (fun ⟨L, G, D, p, a, i, k⟩ K => ∀ k' : Int, K (.exit 4) [.slice (some ⟨2, 0, none⟩) D.length D.length, .int .i64 p, .string (strOf (a ++ List.replicate (dep p (D.getD i 0) - k) 32)), .int .i64 i, .int .i64 k'] (lit [txtsB L, seedB G, seedB D])) ?_ ?_
  · rintro vs h K ⟨L, G, D, p, a, i, k, ⟨h1, h2, h3⟩, h4⟩
    exact ⟨h1, ⟨L, G, D, p, a, i, k⟩, h2, h3, h4⟩
  rintro ⟨L, G, D, p, a, i, k⟩ E N K hE hp hN hK
  dsimp only at hp hN hK
  refine Eq.mpr (targumlaw20_PlainFolds.t4 L G D p a i k E N (fun x => In 3 (K x))) ?_
  obtain ⟨h1, h2, h3, h4, h5, h6⟩ := hp
  have hd : (D.getD i 0).toNat < 256 := UInt8.toNat_lt _
  have e1 : ((D.getD i 0).toNat : Int).tmod 4 = (((D.getD i 0).toNat % 4 : Nat) : Int) := by rw [Int.tmod_eq_emod_of_nonneg (by omega)]; omega
  have e2 : p + 1 + (((D.getD i 0).toNat % 4 : Nat) : Int) = (dep p (D.getD i 0) : Nat) := by unfold dep; omega
  refine ⟨by simp only [rng]; omega, ⟨by omega, by omega⟩, ((D.getD i 0).toNat : Int), by rw [show 0 + (i : Int).toNat * 1 = i from by omega]; exact byV_at h1, by omega, ?_⟩
  rw [e1, e2]
  refine ⟨by simp only [rng]; omega, by simp only [rng]; omega, br_intro (fun hb => ?_) (fun hb => ?_)⟩
  · simp only [decide_eq_true_eq] at hb
    refine ⟨by rw [strOf_size, mk1, strOf_size]; simp only [List.length_cons, List.length_nil]; omega, by simp only [rng]; omega, ?_⟩
    rw [mk1, strOf_app]
    refine hN (L, G, D, p, a ++ [32], i, k + 1) _ _ ⟨h1, h2, h3, h4, by dsimp only; omega, by simp only [List.length_append, List.length_cons, List.length_nil]; omega⟩ (by dsimp only; omega) ?_ (.inl ⟨rfl, rfl⟩)
    dsimp only at hK ⊢
    have e : dep p (D.getD i 0) - k = dep p (D.getD i 0) - (k + 1) + 1 := by omega
    rw [e, List.replicate_succ] at hK
    simpa using hK
  · simp only [decide_eq_false_iff_not] at hb
    rw [show dep p (D.getD i 0) - k = 0 from by omega, List.replicate_zero, List.append_nil] at hK
    exact .inl (hK k)

def targumlaw20_PlainFolds.L24 : LT := (extL (extL lt0 2 targumlaw20_PlainFolds.sp2) 4 targumlaw20_PlainFolds.sp4)
theorem targumlaw20_PlainFolds.L24_mono : LMono targumlaw20_PlainFolds.L24 := (extL_mono (extL_mono lt0_mono targumlaw20_PlainFolds.spm2) targumlaw20_PlainFolds.spm4)
def LE : CT := (extC LB targumlaw20_letters.n targumlaw20_letters.s)
theorem LE_ok : COk Tryd.prog LE := (extC_ok LB_ok targumlaw20_letters.sc targumlaw20_letters.sd)
theorem LE_mono : CMono LE := (extC_mono LB_mono targumlaw20_letters.sm)
def targumlaw20_PlainFolds.N0 (L : List (List UInt8)) (G D : List UInt8) (q : Bool) (p : Int) (j : Nat) (vs : List Value) (h : Heap) : Prop := vs = [.slice (some ⟨0, 0, none⟩) L.length L.length, .slice (some ⟨1, 0, none⟩) G.length G.length, .slice (some ⟨2, 0, none⟩) D.length D.length, .bool q, .int .i64 p, .string (strOf (accT p L G D j)), .string (strOf (accW p L G D j)), .int .i64 j] ∧ h = lit [txtsB L, seedB G, seedB D]
def targumlaw20_PlainFolds.sp0 : LSpec := ⟨targumlaw20_PlainFolds.cs0, targumlaw20_PlainFolds.ts0, fun vs h K => ∃ (L : List (List UInt8)) (G D : List UInt8) (q : Bool) (p : Int) (j : Nat), (h.n = 3 ∧ In 3 (targumlaw20_PlainFolds.N0 L G D q p j) vs h ∧ (1 ≤ L.length ∧ L.length ≤ 8 ∧ L.length ≤ G.length ∧ L.length ≤ D.length ∧ -1 ≤ p ∧ p ≤ 3 ∧ j ≤ L.length ∧ (∀ k, k < j → (L.getD k []).length ≤ 30))) ∧ ((∀ (a b : ByteArray) (j' : Int), K .ret [.slice (some ⟨0, 0, none⟩) L.length L.length, .slice (some ⟨1, 0, none⟩) G.length G.length, .slice (some ⟨2, 0, none⟩) D.length D.length, .bool true, .int .i64 p, .string a, .string b, .int .i64 j'] (lit [txtsB L, seedB G, seedB D])) ∧ ((∀ k, k < L.length → (L.getD k []).length ≤ 30) → K (.exit 0) [.slice (some ⟨0, 0, none⟩) L.length L.length, .slice (some ⟨1, 0, none⟩) G.length G.length, .slice (some ⟨2, 0, none⟩) D.length D.length, .bool q, .int .i64 p, .string (strOf (accT p L G D L.length)), .string (strOf (accW p L G D L.length)), .int .i64 L.length] (lit [txtsB L, seedB G, seedB D])))⟩
theorem targumlaw20_PlainFolds.spm0 : LSpecMono targumlaw20_PlainFolds.sp0 := by
  rintro vs h K K' hk ⟨L, G, D, q, p, j, h3, h4⟩
  exact ⟨L, G, D, q, p, j, h3, ⟨fun a b j' => hk _ _ _ (h4.1 a b j'), fun h => hk _ _ _ (h4.2 h)⟩⟩
theorem targumlaw20_PlainFolds.t0 (L : List (List UInt8)) (G D : List UInt8) (q : Bool) (p : Int) (j : Nat) (E : Env) (N : List Value → Heap → Prop) (K : LK) : mwp LE (targumlaw20_PlainFolds.L24) targumlaw20_PlainFolds.l0 (lK targumlaw20_PlainFolds.cs0 N K) (zipE targumlaw20_PlainFolds.cs0 [.slice (some ⟨0, 0, none⟩) L.length L.length, .slice (some ⟨1, 0, none⟩) G.length G.length, .slice (some ⟨2, 0, none⟩) D.length D.length, .bool q, .int .i64 p, .string (strOf (accT p L G D j)), .string (strOf (accW p L G D j)), .int .i64 j] ++ E) (lit [txtsB L, seedB G, seedB D]) = (br (decide ((↑j : Int) < (↑L.length : Int))) (((0 : Int) ≤ (↑j : Int) ∧ (↑j : Int) < (↑L.length : Int)) ∧ ∃ (s : ByteArray), List.take (1 : Nat) (List.drop ((0 : Nat) + (↑j : Int).toNat * (1 : Nat)) (strsV L)) = [Value.string s] ∧ br (decide ((30 : Int) < (↑s.size : Int))) (K Exit.ret [Value.slice (some (Addr.mk (0 : Nat) (0 : Nat) none)) L.length L.length, Value.slice (some (Addr.mk (1 : Nat) (0 : Nat) none)) G.length G.length, Value.slice (some (Addr.mk (2 : Nat) (0 : Nat) none)) D.length D.length, Value.bool true, Value.int IntKind.i64 p, Value.string (strOf (accT p L G D j)), Value.string (strOf (accW p L G D j)), Value.int IntKind.i64 (↑j : Int)] (Heap.mk (3 : Nat) [txtsB L, seedB G, seedB D])) (br (decide ((0 : Int) < (↑j : Int))) (((0 : Int) ≤ (↑j : Int) ∧ (↑j : Int) < (↑G.length : Int)) ∧ ∃ (z : Int), List.take (1 : Nat) (List.drop ((0 : Nat) + (↑j : Int).toNat * (1 : Nat)) (byV G)) = [Value.int IntKind.u8 z] ∧ (4 : Int) ≠ (0 : Int) ∧ rng IntKind.i64 (z.tmod (4 : Int)) ∧ (strOf (accT p L G D j)).size + (ByteArray.mk #[(32 : UInt8), (10 : UInt8)]).size ≤ (9223372036854775807 : Nat) ∧ ∃ (a : List UInt8), ∃ (b : List UInt8), ∃ (g : Nat), ∃ (k : Nat), ([Value.string (strOf (accT p L G D j) ++ ByteArray.mk #[(32 : UInt8), (10 : UInt8)]), Value.string (strOf (accW p L G D j)), Value.int IntKind.i64 (z.tmod (4 : Int)), Value.int IntKind.i64 (0 : Int)] = [Value.string (strOf a), Value.string (strOf b), Value.int IntKind.i64 (↑g : Int), Value.int IntKind.i64 (↑k : Int)] ∧ g ≤ (3 : Nat) ∧ k ≤ g ∧ a.length + (2 : Nat) * (g - k) ≤ (1000000 : Nat) ∧ b.length + (g - k) ≤ (1000000 : Nat)) ∧ ∀ (k' : Int), br (decide ((↑g : Int) = (0 : Int))) ((strOf (b ++ List.replicate (g - k) (10 : UInt8))).size + (ByteArray.mk #[(32 : UInt8)]).size ≤ (9223372036854775807 : Nat) ∧ ∃ (L_1 : List (List UInt8)), ∃ (G_1 : List UInt8), ∃ (D_1 : List UInt8), ∃ (p_1 : Int), ∃ (a_1 : List UInt8), ∃ (i : Nat), ∃ (k_1 : Nat), ((3 : Nat) = (3 : Nat) ∧ In (3 : Nat) (targumlaw20_PlainFolds.N4 L_1 G_1 D_1 p_1 a_1 i k_1) [Value.slice (some (Addr.mk (2 : Nat) (0 : Nat) none)) D.length D.length, Value.int IntKind.i64 p, Value.string (strOf (a ++ (List.replicate (g - k) [(9 : UInt8), (10 : UInt8)]).flatten)), Value.int IntKind.i64 (↑j : Int), Value.int IntKind.i64 (0 : Int)] (Heap.mk (3 : Nat) [txtsB L, seedB G, seedB D]) ∧ i < D_1.length ∧ i ≤ (100 : Nat) ∧ (-1 : Int) ≤ p_1 ∧ p_1 ≤ (3 : Int) ∧ k_1 ≤ dep p_1 (D_1.getD i (0 : UInt8)) ∧ a_1.length + (dep p_1 (D_1.getD i (0 : UInt8)) - k_1) ≤ (1000000 : Nat)) ∧ ∀ (k' : Int), ((0 : Int) ≤ (↑i : Int) ∧ (↑i : Int) < (↑L.length : Int)) ∧ ∃ (s : ByteArray), List.take (1 : Nat) (List.drop ((0 : Nat) + (↑i : Int).toNat * (1 : Nat)) (strsV L_1)) = [Value.string s] ∧ s.size ≤ (1000000 : Nat) ∧ (strOf (a_1 ++ List.replicate (dep p_1 (D_1.getD i (0 : UInt8)) - k_1) (32 : UInt8))).size + (strOf (letL (lst s))).size ≤ (9223372036854775807 : Nat) ∧ ((0 : Int) ≤ (↑i : Int) ∧ (↑i : Int) < (↑L.length : Int)) ∧ ∃ (s_1 : ByteArray), List.take (1 : Nat) (List.drop ((0 : Nat) + (↑i : Int).toNat * (1 : Nat)) (strsV L_1)) = [Value.string s_1] ∧ s_1.size ≤ (1000000 : Nat) ∧ (strOf (b ++ List.replicate (g - k) (10 : UInt8)) ++ ByteArray.mk #[(32 : UInt8)]).size + (strOf (letL (lst s_1))).size ≤ (9223372036854775807 : Nat) ∧ rng IntKind.i64 ((↑i : Int) + (1 : Int)) ∧ N [Value.slice (some (Addr.mk (0 : Nat) (0 : Nat) none)) L.length L.length, Value.slice (some (Addr.mk (1 : Nat) (0 : Nat) none)) G.length G.length, Value.slice (some (Addr.mk (2 : Nat) (0 : Nat) none)) D_1.length D_1.length, Value.bool q, Value.int IntKind.i64 p_1, Value.string (strOf (a_1 ++ List.replicate (dep p_1 (D_1.getD i (0 : UInt8)) - k_1) (32 : UInt8)) ++ strOf (letL (lst s))), Value.string (strOf (b ++ List.replicate (g - k) (10 : UInt8)) ++ ByteArray.mk #[(32 : UInt8)] ++ strOf (letL (lst s_1))), Value.int IntKind.i64 ((↑i : Int) + (1 : Int))] (Heap.mk (3 : Nat) [txtsB L_1, seedB G_1, seedB D_1])) (∃ (L_1 : List (List UInt8)), ∃ (G_1 : List UInt8), ∃ (D_1 : List UInt8), ∃ (p_1 : Int), ∃ (a_1 : List UInt8), ∃ (i : Nat), ∃ (k_1 : Nat), ((3 : Nat) = (3 : Nat) ∧ In (3 : Nat) (targumlaw20_PlainFolds.N4 L_1 G_1 D_1 p_1 a_1 i k_1) [Value.slice (some (Addr.mk (2 : Nat) (0 : Nat) none)) D.length D.length, Value.int IntKind.i64 p, Value.string (strOf (a ++ (List.replicate (g - k) [(9 : UInt8), (10 : UInt8)]).flatten)), Value.int IntKind.i64 (↑j : Int), Value.int IntKind.i64 (0 : Int)] (Heap.mk (3 : Nat) [txtsB L, seedB G, seedB D]) ∧ i < D_1.length ∧ i ≤ (100 : Nat) ∧ (-1 : Int) ≤ p_1 ∧ p_1 ≤ (3 : Int) ∧ k_1 ≤ dep p_1 (D_1.getD i (0 : UInt8)) ∧ a_1.length + (dep p_1 (D_1.getD i (0 : UInt8)) - k_1) ≤ (1000000 : Nat)) ∧ ∀ (k' : Int), ((0 : Int) ≤ (↑i : Int) ∧ (↑i : Int) < (↑L.length : Int)) ∧ ∃ (s : ByteArray), List.take (1 : Nat) (List.drop ((0 : Nat) + (↑i : Int).toNat * (1 : Nat)) (strsV L_1)) = [Value.string s] ∧ s.size ≤ (1000000 : Nat) ∧ (strOf (a_1 ++ List.replicate (dep p_1 (D_1.getD i (0 : UInt8)) - k_1) (32 : UInt8))).size + (strOf (letL (lst s))).size ≤ (9223372036854775807 : Nat) ∧ ((0 : Int) ≤ (↑i : Int) ∧ (↑i : Int) < (↑L.length : Int)) ∧ ∃ (s_1 : ByteArray), List.take (1 : Nat) (List.drop ((0 : Nat) + (↑i : Int).toNat * (1 : Nat)) (strsV L_1)) = [Value.string s_1] ∧ s_1.size ≤ (1000000 : Nat) ∧ (strOf (b ++ List.replicate (g - k) (10 : UInt8))).size + (strOf (letL (lst s_1))).size ≤ (9223372036854775807 : Nat) ∧ rng IntKind.i64 ((↑i : Int) + (1 : Int)) ∧ N [Value.slice (some (Addr.mk (0 : Nat) (0 : Nat) none)) L.length L.length, Value.slice (some (Addr.mk (1 : Nat) (0 : Nat) none)) G.length G.length, Value.slice (some (Addr.mk (2 : Nat) (0 : Nat) none)) D_1.length D_1.length, Value.bool q, Value.int IntKind.i64 p_1, Value.string (strOf (a_1 ++ List.replicate (dep p_1 (D_1.getD i (0 : UInt8)) - k_1) (32 : UInt8)) ++ strOf (letL (lst s))), Value.string (strOf (b ++ List.replicate (g - k) (10 : UInt8)) ++ strOf (letL (lst s_1))), Value.int IntKind.i64 ((↑i : Int) + (1 : Int))] (Heap.mk (3 : Nat) [txtsB L_1, seedB G_1, seedB D_1]))) (((0 : Int) ≤ (↑j : Int) ∧ (↑j : Int) < (↑L.length : Int)) ∧ ∃ (s : ByteArray), List.take (1 : Nat) (List.drop ((0 : Nat) + (↑j : Int).toNat * (1 : Nat)) (strsV L)) = [Value.string s] ∧ s.size ≤ (1000000 : Nat) ∧ (strOf (accT p L G D j)).size + (strOf (letL (lst s))).size ≤ (9223372036854775807 : Nat) ∧ ((0 : Int) ≤ (↑j : Int) ∧ (↑j : Int) < (↑L.length : Int)) ∧ ∃ (s_1 : ByteArray), List.take (1 : Nat) (List.drop ((0 : Nat) + (↑j : Int).toNat * (1 : Nat)) (strsV L)) = [Value.string s_1] ∧ s_1.size ≤ (1000000 : Nat) ∧ (strOf (accW p L G D j)).size + (strOf (letL (lst s_1))).size ≤ (9223372036854775807 : Nat) ∧ rng IntKind.i64 ((↑j : Int) + (1 : Int)) ∧ N [Value.slice (some (Addr.mk (0 : Nat) (0 : Nat) none)) L.length L.length, Value.slice (some (Addr.mk (1 : Nat) (0 : Nat) none)) G.length G.length, Value.slice (some (Addr.mk (2 : Nat) (0 : Nat) none)) D.length D.length, Value.bool q, Value.int IntKind.i64 p, Value.string (strOf (accT p L G D j) ++ strOf (letL (lst s))), Value.string (strOf (accW p L G D j) ++ strOf (letL (lst s_1))), Value.int IntKind.i64 ((↑j : Int) + (1 : Int))] (Heap.mk (3 : Nat) [txtsB L, seedB G, seedB D])))) (K (Exit.exit (0 : Nat)) [Value.slice (some (Addr.mk (0 : Nat) (0 : Nat) none)) L.length L.length, Value.slice (some (Addr.mk (1 : Nat) (0 : Nat) none)) G.length G.length, Value.slice (some (Addr.mk (2 : Nat) (0 : Nat) none)) D.length D.length, Value.bool q, Value.int IntKind.i64 p, Value.string (strOf (accT p L G D j)), Value.string (strOf (accW p L G D j)), Value.int IntKind.i64 (↑j : Int)] (Heap.mk (3 : Nat) [txtsB L, seedB G, seedB D]))) := by kernel_rfl
theorem targumlaw20_PlainFolds.lo0 : LOk1 Tryd.prog targumlaw20_PlainFolds.nt targumlaw20_PlainFolds.sp0 (.loop 0 targumlaw20_PlainFolds.l0) := by
  refine loop_resC (σ := (List (List UInt8)) × (List UInt8) × (List UInt8) × Bool × Int × Nat) LE_ok LE_mono (targumlaw20_PlainFolds.L24_mono) (LS := targumlaw20_PlainFolds.L24) (by simp only [targumlaw20_PlainFolds.l0, LOk, and_true, true_and]; (repeat' apply And.intro) <;> first | trivial | exact targumlaw20_PlainFolds.lo2 | exact targumlaw20_PlainFolds.lo4) rfl rfl (fun ⟨L, G, D, q, p, j⟩ => [.slice (some ⟨0, 0, none⟩) L.length L.length, .slice (some ⟨1, 0, none⟩) G.length G.length, .slice (some ⟨2, 0, none⟩) D.length D.length, .bool q, .int .i64 p, .string (strOf (accT p L G D j)), .string (strOf (accW p L G D j)), .int .i64 j]) (fun ⟨L, G, D, q, p, j⟩ => lit [txtsB L, seedB G, seedB D]) (fun ⟨L, G, D, q, p, j⟩ => 1 ≤ L.length ∧ L.length ≤ 8 ∧ L.length ≤ G.length ∧ L.length ≤ D.length ∧ -1 ≤ p ∧ p ≤ 3 ∧ j ≤ L.length ∧ (∀ k, k < j → (L.getD k []).length ≤ 30)) (fun ⟨L, G, D, q, p, j⟩ => L.length - j) 3 (fun ⟨L, G, D, q, p, j⟩ K => (∀ (a b : ByteArray) (j' : Int), K .ret [.slice (some ⟨0, 0, none⟩) L.length L.length, .slice (some ⟨1, 0, none⟩) G.length G.length, .slice (some ⟨2, 0, none⟩) D.length D.length, .bool true, .int .i64 p, .string a, .string b, .int .i64 j'] (lit [txtsB L, seedB G, seedB D])) ∧ ((∀ k, k < L.length → (L.getD k []).length ≤ 30) → K (.exit 0) [.slice (some ⟨0, 0, none⟩) L.length L.length, .slice (some ⟨1, 0, none⟩) G.length G.length, .slice (some ⟨2, 0, none⟩) D.length D.length, .bool q, .int .i64 p, .string (strOf (accT p L G D L.length)), .string (strOf (accW p L G D L.length)), .int .i64 L.length] (lit [txtsB L, seedB G, seedB D]))) ?_ ?_
  · rintro vs h K ⟨L, G, D, q, p, j, ⟨h1, h2, h3⟩, h4⟩
    exact ⟨h1, ⟨L, G, D, q, p, j⟩, h2, h3, h4⟩
  rintro ⟨L, G, D, q, p, j⟩ E N K hE hp hN hK
  dsimp only at hp hN hK
  refine Eq.mpr (targumlaw20_PlainFolds.t0 L G D q p j E N (fun x => In 3 (K x))) ?_
  obtain ⟨h1, h2, h3, h4, h5, h6, h7, h8⟩ := hp
  refine br_intro (fun hb => ?_) (fun hb => ?_)
  · simp only [decide_eq_true_eq] at hb
    have hj : j < L.length := by omega
    have hLj : ((strsV L).drop (0 + (j : Int).toNat * 1)).take 1 = [.string (strOf (L.getD j []))] := by rw [show 0 + (j : Int).toNat * 1 = j from by omega]; exact strsV_at hj
    have hgl : (G.getD j 0).toNat < 256 := UInt8.toNat_lt _
    have e1 : ((G.getD j 0).toNat : Int).tmod 4 = (((G.getD j 0).toNat % 4 : Nat) : Int) := by rw [Int.tmod_eq_emod_of_nonneg (by omega)]; omega
    have hd : (D.getD j 0).toNat < 256 := UInt8.toNat_lt _
    have hdep : dep p (D.getD j 0) ≤ 7 := by unfold dep; omega
    have hT := accT_len p L G D h6 j (by omega) h8
    refine ⟨⟨by omega, by omega⟩, strOf (L.getD j []), hLj, br_intro (fun hc => ?_) (fun hc => ?_)⟩
    · exact .inl (hK.1 _ _ _)
    simp only [decide_eq_false_iff_not, strOf_size] at hc
    have hlt := letL_len (L.getD j [])
    have nxt : ∀ {a b : ByteArray}, a = strOf (accT p L G D (j + 1)) → b = strOf (accW p L G D (j + 1)) → rng .i64 ((j : Int) + 1) ∧ N [.slice (some ⟨0, 0, none⟩) L.length L.length, .slice (some ⟨1, 0, none⟩) G.length G.length, .slice (some ⟨2, 0, none⟩) D.length D.length, .bool q, .int .i64 p, .string a, .string b, .int .i64 ((j : Int) + 1)] (lit [txtsB L, seedB G, seedB D]) := fun ha hb => by
      refine ⟨by simp only [rng]; omega, hN (L, G, D, q, p, j + 1) _ _ ⟨h1, h2, h3, h4, h5, h6, by dsimp only; omega, fun k hk => ?_⟩ (by dsimp only; omega) hK (.inl ⟨by rw [ha, hb]; rfl, rfl⟩)⟩
      rcases Nat.lt_or_ge k j with h | h
      · exact h8 k h
      · have e : k = j := by dsimp only at hk; omega
        subst e; dsimp only; omega
    refine br_intro (fun hp0 => ?_) (fun hp0 => ?_)
    · simp only [decide_eq_true_eq] at hp0
      obtain ⟨m, rfl⟩ : ∃ m, j = m + 1 := ⟨j - 1, by omega⟩
      have hst := accT_step p L G D m
      have hsw := accW_step p L G D m
      refine ⟨⟨by omega, by omega⟩, ((G.getD (m + 1) 0).toNat : Int), by rw [show 0 + ((m + 1 : Nat) : Int).toNat * 1 = m + 1 from by omega]; exact byV_at (by omega), by omega, ?_⟩
      rw [e1, mk2, mk1, strOf_app]
      refine ⟨by simp only [rng]; omega, by rw [strOf_size, strOf_size]; simp only [List.length_cons, List.length_nil]; omega, accT p L G D (m + 1) ++ [32, 10], accW p L G D (m + 1), (G.getD (m + 1) 0).toNat % 4, 0, ⟨rfl, by omega, by omega, by simp only [List.length_append, List.length_cons, List.length_nil]; omega, by omega⟩, fun k' => ?_⟩
      have hgm : (G.getD (m + 1) 0).toNat % 4 ≤ 3 := by omega
      have eT : accT p L G D (m + 1) ++ [32, 10] ++ (List.replicate ((G.getD (m + 1) 0).toNat % 4 - 0) [9, 10]).flatten ++ List.replicate (dep p (D.getD (m + 1) 0) - 0) 32 = accT p L G D (m + 1) ++ gapT ((G.getD (m + 1) 0).toNat % 4) (dep p (D.getD (m + 1) 0)) := by simp [gapT]
      have hfl : ((List.replicate ((G.getD (m + 1) 0).toNat % 4 - 0) [(9 : UInt8), 10]).flatten).length = 2 * ((G.getD (m + 1) 0).toNat % 4) := by simp; omega
      generalize hg0 : (G.getD (m + 1) 0).toNat % 4 = g at *
      refine br_intro (fun hz => ?_) (fun hz => ?_)
      · simp only [decide_eq_true_eq] at hz
        refine ⟨by rw [strOf_size, strOf_size]; simp only [List.length_append, List.length_replicate, List.length_cons, List.length_nil]; omega, L, G, D, p, _, m + 1, 0, ⟨rfl, .inl ⟨rfl, rfl⟩, by omega, by omega, h5, h6, by omega, by simp only [List.length_append, hfl, List.length_cons, List.length_nil]; omega⟩, fun k'' => ?_⟩
        rw [eT]
        refine ⟨⟨by omega, by omega⟩, strOf (L.getD (m + 1) []), hLj, by rw [strOf_size]; omega, by rw [strOf_size, strOf_size, lst_strOf]; simp only [List.length_append, gapT_len]; omega, ⟨by omega, by omega⟩, strOf (L.getD (m + 1) []), hLj, by rw [strOf_size]; omega, by rw [strOf_app, strOf_size, strOf_size, lst_strOf]; simp only [List.length_append, List.length_replicate, List.length_cons, List.length_nil]; omega, nxt ?_ ?_⟩
        · rw [strOf_app, lst_strOf, hst]
        · rw [strOf_app, strOf_app, lst_strOf, hsw, show g = 0 from by omega]; simp [gapW]
      · simp only [decide_eq_false_iff_not] at hz
        refine ⟨L, G, D, p, _, m + 1, 0, ⟨rfl, .inl ⟨rfl, rfl⟩, by omega, by omega, h5, h6, by omega, by simp only [List.length_append, hfl, List.length_cons, List.length_nil]; omega⟩, fun k'' => ?_⟩
        rw [eT]
        refine ⟨⟨by omega, by omega⟩, strOf (L.getD (m + 1) []), hLj, by rw [strOf_size]; omega, by rw [strOf_size, strOf_size, lst_strOf]; simp only [List.length_append, gapT_len]; omega, ⟨by omega, by omega⟩, strOf (L.getD (m + 1) []), hLj, by rw [strOf_size]; omega, by rw [strOf_size, strOf_size, lst_strOf]; simp only [List.length_append, List.length_replicate]; omega, nxt ?_ ?_⟩
        · rw [strOf_app, lst_strOf, hst]
        · rw [strOf_app, lst_strOf, hsw]; unfold gapW; rw [if_neg (by omega)]; rfl
    · simp only [decide_eq_false_iff_not] at hp0
      obtain rfl : j = 0 := by omega
      refine ⟨⟨by omega, by omega⟩, strOf (L.getD 0 []), hLj, by rw [strOf_size]; omega, by rw [strOf_size, strOf_size, lst_strOf]; omega, ⟨by omega, by omega⟩, strOf (L.getD 0 []), hLj, by rw [strOf_size]; omega, by rw [strOf_size, strOf_size, lst_strOf]; omega, nxt ?_ ?_⟩
      · rw [strOf_app, lst_strOf]; simp [accT, items, itT]
      · rw [strOf_app, lst_strOf]; simp [accW, items, itW]
  · simp only [decide_eq_false_iff_not] at hb
    obtain rfl : j = L.length := by omega
    exact .inl (hK.2 h8)

def targumlaw20_PlainFolds.LS : LT := (extL lt0 0 targumlaw20_PlainFolds.sp0)
theorem targumlaw20_PlainFolds.LS_mono : LMono targumlaw20_PlainFolds.LS := (extL_mono lt0_mono targumlaw20_PlainFolds.spm0)
theorem targumlaw20_PlainFolds.t (X : List ByteArray) (G D : List UInt8) (par : UInt8) (old : Bool) (K : VK) : mwp LE (targumlaw20_PlainFolds.LS) targumlaw20_PlainFolds.m (retK [.t 10] K) (argE 0 [.slice (some ⟨0, 0, none⟩) X.length X.length, .slice (some ⟨1, 0, none⟩) G.length G.length, .slice (some ⟨2, 0, none⟩) D.length D.length, .int .u8 par.toNat, .bool old]) (lit ([some ⟨9, 1, X.map Value.string, false⟩, seedB G, seedB D])) = (br (decide ((↑X.length : Int) < (1 : Int))) (K (Value.bool true) (Heap.mk (3 : Nat) [some (Blk.mk (9 : TypeId) (1 : Nat) (List.map Value.string X) false), seedB G, seedB D])) (br (decide ((8 : Int) < (↑X.length : Int))) (K (Value.bool true) (Heap.mk (3 : Nat) [some (Blk.mk (9 : TypeId) (1 : Nat) (List.map Value.string X) false), seedB G, seedB D])) (br (decide ((↑G.length : Int) < (↑X.length : Int))) (K (Value.bool true) (Heap.mk (3 : Nat) [some (Blk.mk (9 : TypeId) (1 : Nat) (List.map Value.string X) false), seedB G, seedB D])) (br (decide ((↑D.length : Int) < (↑X.length : Int))) (K (Value.bool true) (Heap.mk (3 : Nat) [some (Blk.mk (9 : TypeId) (1 : Nat) (List.map Value.string X) false), seedB G, seedB D])) ((5 : Int) ≠ (0 : Int) ∧ rng IntKind.i64 ((↑par.toNat : Int).tmod (5 : Int)) ∧ rng IntKind.i64 ((↑par.toNat : Int).tmod (5 : Int) - (1 : Int)) ∧ ∃ (L : List (List UInt8)), ∃ (G_1 : List UInt8), ∃ (D_1 : List UInt8), ∃ (q : Bool), ∃ (p : Int), ∃ (j : Nat), ((3 : Nat) = (3 : Nat) ∧ In (3 : Nat) (targumlaw20_PlainFolds.N0 L G_1 D_1 q p j) [Value.slice (some (Addr.mk (0 : Nat) (0 : Nat) none)) X.length X.length, Value.slice (some (Addr.mk (1 : Nat) (0 : Nat) none)) G.length G.length, Value.slice (some (Addr.mk (2 : Nat) (0 : Nat) none)) D.length D.length, Value.bool false, Value.int IntKind.i64 ((↑par.toNat : Int).tmod (5 : Int) - (1 : Int)), Value.string (ByteArray.mk #[]), Value.string (ByteArray.mk #[]), Value.int IntKind.i64 (0 : Int)] (Heap.mk (3 : Nat) [some (Blk.mk (9 : TypeId) (1 : Nat) (List.map Value.string X) false), seedB G, seedB D]) ∧ (1 : Nat) ≤ L.length ∧ L.length ≤ (8 : Nat) ∧ L.length ≤ G_1.length ∧ L.length ≤ D_1.length ∧ (-1 : Int) ≤ p ∧ p ≤ (3 : Int) ∧ j ≤ L.length ∧ ∀ (k : Nat), k < j → (L.getD k []).length ≤ (30 : Nat)) ∧ (∀ (a b : ByteArray) (j' : Int), K (Value.bool true) (Heap.mk (3 : Nat) [txtsB L, seedB G_1, seedB D_1])) ∧ ((∀ (k : Nat), k < L.length → (L.getD k []).length ≤ (30 : Nat)) → (strOf (accT p L G_1 D_1 L.length)).size ≤ (1000000 : Nat) ∧ (strOf (accT p L G_1 D_1 L.length)).size + (ByteArray.mk #[(10 : UInt8), (35 : UInt8), (32 : UInt8), (120 : UInt8), (10 : UInt8), (32 : UInt8), (32 : UInt8), (121 : UInt8)]).size ≤ (9223372036854775807 : Nat) ∧ (strOf (accT p L G_1 D_1 L.length) ++ ByteArray.mk #[(10 : UInt8), (35 : UInt8), (32 : UInt8), (120 : UInt8), (10 : UInt8), (32 : UInt8), (32 : UInt8), (121 : UInt8)]).size ≤ (1000000 : Nat) ∧ (strOf (accT p L G_1 D_1 L.length)).size + (ByteArray.mk #[(32 : UInt8), (35 : UInt8), (32 : UInt8), (120 : UInt8), (10 : UInt8), (32 : UInt8), (32 : UInt8), (32 : UInt8), (32 : UInt8), (32 : UInt8), (32 : UInt8), (32 : UInt8), (32 : UInt8), (32 : UInt8), (32 : UInt8), (32 : UInt8), (32 : UInt8), (32 : UInt8), (32 : UInt8), (32 : UInt8), (32 : UInt8), (121 : UInt8)]).size ≤ (9223372036854775807 : Nat) ∧ (strOf (accT p L G_1 D_1 L.length) ++ ByteArray.mk #[(32 : UInt8), (35 : UInt8), (32 : UInt8), (120 : UInt8), (10 : UInt8), (32 : UInt8), (32 : UInt8), (32 : UInt8), (32 : UInt8), (32 : UInt8), (32 : UInt8), (32 : UInt8), (32 : UInt8), (32 : UInt8), (32 : UInt8), (32 : UInt8), (32 : UInt8), (32 : UInt8), (32 : UInt8), (32 : UInt8), (32 : UInt8), (121 : UInt8)]).size ≤ (1000000 : Nat) ∧ (strOf (accT p L G_1 D_1 L.length)).size + (ByteArray.mk #[(10 : UInt8), (46 : UInt8), (46 : UInt8), (46 : UInt8), (10 : UInt8)]).size ≤ (9223372036854775807 : Nat) ∧ (strOf (accT p L G_1 D_1 L.length) ++ ByteArray.mk #[(10 : UInt8), (46 : UInt8), (46 : UInt8), (46 : UInt8), (10 : UInt8)]).size ≤ (1000000 : Nat) ∧ br (decide (strOf (plainI (verI old) (strOf (accT p L G_1 D_1 L.length)) (0 : Int) p).fst = strOf (accW p L G_1 D_1 L.length))) (br (decide ((plainI (verI old) (strOf (accT p L G_1 D_1 L.length)) (0 : Int) p).snd = (↑(strOf (accT p L G_1 D_1 L.length)).size : Int))) (br (decide (strOf (plainI (verI old) (strOf (accT p L G_1 D_1 L.length) ++ ByteArray.mk #[(10 : UInt8), (35 : UInt8), (32 : UInt8), (120 : UInt8), (10 : UInt8), (32 : UInt8), (32 : UInt8), (121 : UInt8)]) (0 : Int) p).fst = strOf (accW p L G_1 D_1 L.length))) (br (decide ((plainI (verI old) (strOf (accT p L G_1 D_1 L.length) ++ ByteArray.mk #[(10 : UInt8), (35 : UInt8), (32 : UInt8), (120 : UInt8), (10 : UInt8), (32 : UInt8), (32 : UInt8), (121 : UInt8)]) (0 : Int) p).snd = (plainI (verI old) (strOf (accT p L G_1 D_1 L.length)) (0 : Int) p).snd)) (br (decide (strOf (plainI (verI old) (strOf (accT p L G_1 D_1 L.length) ++ ByteArray.mk #[(32 : UInt8), (35 : UInt8), (32 : UInt8), (120 : UInt8), (10 : UInt8), (32 : UInt8), (32 : UInt8), (32 : UInt8), (32 : UInt8), (32 : UInt8), (32 : UInt8), (32 : UInt8), (32 : UInt8), (32 : UInt8), (32 : UInt8), (32 : UInt8), (32 : UInt8), (32 : UInt8), (32 : UInt8), (32 : UInt8), (32 : UInt8), (121 : UInt8)]) (0 : Int) p).fst = strOf (accW p L G_1 D_1 L.length))) (br (decide ((plainI (verI old) (strOf (accT p L G_1 D_1 L.length) ++ ByteArray.mk #[(32 : UInt8), (35 : UInt8), (32 : UInt8), (120 : UInt8), (10 : UInt8), (32 : UInt8), (32 : UInt8), (32 : UInt8), (32 : UInt8), (32 : UInt8), (32 : UInt8), (32 : UInt8), (32 : UInt8), (32 : UInt8), (32 : UInt8), (32 : UInt8), (32 : UInt8), (32 : UInt8), (32 : UInt8), (32 : UInt8), (32 : UInt8), (121 : UInt8)]) (0 : Int) p).snd = (plainI (verI old) (strOf (accT p L G_1 D_1 L.length)) (0 : Int) p).snd)) (br (decide (strOf (plainI (verI old) (strOf (accT p L G_1 D_1 L.length) ++ ByteArray.mk #[(10 : UInt8), (46 : UInt8), (46 : UInt8), (46 : UInt8), (10 : UInt8)]) (0 : Int) p).fst = strOf (accW p L G_1 D_1 L.length))) (K (Value.bool (decide ((plainI (verI old) (strOf (accT p L G_1 D_1 L.length) ++ ByteArray.mk #[(10 : UInt8), (46 : UInt8), (46 : UInt8), (46 : UInt8), (10 : UInt8)]) (0 : Int) p).snd = (plainI (verI old) (strOf (accT p L G_1 D_1 L.length)) (0 : Int) p).snd))) (Heap.mk (3 : Nat) [txtsB L, seedB G_1, seedB D_1])) (K (Value.bool false) (Heap.mk (3 : Nat) [txtsB L, seedB G_1, seedB D_1]))) (K (Value.bool false) (Heap.mk (3 : Nat) [txtsB L, seedB G_1, seedB D_1]))) (K (Value.bool false) (Heap.mk (3 : Nat) [txtsB L, seedB G_1, seedB D_1]))) (K (Value.bool false) (Heap.mk (3 : Nat) [txtsB L, seedB G_1, seedB D_1]))) (K (Value.bool false) (Heap.mk (3 : Nat) [txtsB L, seedB G_1, seedB D_1]))) (K (Value.bool false) (Heap.mk (3 : Nat) [txtsB L, seedB G_1, seedB D_1]))) (K (Value.bool false) (Heap.mk (3 : Nat) [txtsB L, seedB G_1, seedB D_1])))))))) := by kernel_rfl
theorem targumlaw20_PlainFolds.law (X : List ByteArray) (G D : List UInt8) (par : UInt8) (old : Bool) : ACalls Tryd.prog targumlaw20_PlainFolds.n [.slice (some ⟨0, 0, none⟩) X.length X.length, .slice (some ⟨1, 0, none⟩) G.length G.length, .slice (some ⟨2, 0, none⟩) D.length D.length, .int .u8 par.toNat, .bool old] (lit ([some ⟨9, 1, X.map Value.string, false⟩, seedB G, seedB D])) (fun v _ => v = .bool true) := by
  refine acalls_mk LE_ok targumlaw20_PlainFolds.ok (LS := targumlaw20_PlainFolds.LS) (by simp only [targumlaw20_PlainFolds.m, LOk, and_true, true_and]; (repeat' apply And.intro) <;> first | trivial | exact targumlaw20_PlainFolds.lo2 | exact targumlaw20_PlainFolds.lo4 | exact targumlaw20_PlainFolds.lo0) (Nat.le_of_ble_eq_true rfl) (Eq.mpr (targumlaw20_PlainFolds.t X G D par old _) ?_)
  obtain ⟨L, rfl⟩ : ∃ L : List (List UInt8), X = L.map strOf := ⟨X.map lst, by simp [Function.comp_def, strOf_lst]⟩
  simp only [List.length_map, List.map_map, show (L.map (Value.string ∘ strOf)) = strsV L from rfl]
  have hpr : par.toNat < 256 := UInt8.toNat_lt _
  have e5 : (par.toNat : Int).tmod 5 = ((par.toNat % 5 : Nat) : Int) := by rw [Int.tmod_eq_emod_of_nonneg (by omega)]; omega
  refine br_intro (fun _ => trivial) (fun q1 => br_intro (fun _ => trivial) (fun q2 => br_intro (fun _ => trivial) (fun q3 => br_intro (fun _ => trivial) (fun q4 => ?_))))
  simp only [decide_eq_false_iff_not] at q1 q2 q3 q4
  rw [e5]
  refine ⟨by omega, by simp only [rng]; omega, by simp only [rng]; omega, L, G, D, false, ((par.toNat % 5 : Nat) : Int) - 1, 0, ⟨trivial, .inl ⟨rfl, rfl⟩, by omega, by omega, by omega, by omega, by omega, by omega, by omega, fun k hk => absurd hk (Nat.not_lt_zero _)⟩, fun _ _ _ => trivial, fun hall => ?_⟩
  generalize hp : ((par.toNat % 5 : Nat) : Int) - 1 = p
  have hlen := accT_len p L G D (by omega) L.length (by omega) hall
  have key : ∀ R, Shut (verI old) R → Last (verI old) p R → plainI (verI old) (strOf (accT p L G D L.length ++ R)) 0 p = (accW p L G D L.length, ((accT p L G D L.length).length : Int)) := fun R hr hl => by
    obtain ⟨m, hm⟩ : ∃ m, L.length = m + 1 := ⟨L.length - 1, by omega⟩
    rw [hm]
    exact plain_it hr hl (letL_let _) (letL_ne _) (items_ok p L G D (by omega) m)
  have k1 := key [] shut_nil last_nil
  rw [List.append_nil] at k1
  have k2 := key [10, 35, 32, 120, 10, 32, 32, 121] shut_brk last_remark
  have k3 := key [32, 35, 32, 120, 10, 32, 32, 32, 32, 32, 32, 32, 32, 32, 32, 32, 32, 32, 32, 32, 32, 121] shut_note last_note
  have k4 := key [10, 46, 46, 46, 10] shut_brk last_mark
  have m2 : ByteArray.mk #[10, 35, 32, 120, 10, 32, 32, 121] = strOf [10, 35, 32, 120, 10, 32, 32, 121] := rfl
  have m3 : ByteArray.mk #[32, 35, 32, 120, 10, 32, 32, 32, 32, 32, 32, 32, 32, 32, 32, 32, 32, 32, 32, 32, 32, 121] = strOf [32, 35, 32, 120, 10, 32, 32, 32, 32, 32, 32, 32, 32, 32, 32, 32, 32, 32, 32, 32, 32, 121] := rfl
  have m4 : ByteArray.mk #[10, 46, 46, 46, 10] = strOf [10, 46, 46, 46, 10] := rfl
  rw [m2, m3, m4]
  simp only [k1, k2, k3, k4, strOf_size, decide_true, brT, strOf_app, List.length_append, List.length_cons, List.length_nil]
  repeat (refine And.intro (by omega) ?_)
  trivial

end Go.Mini
