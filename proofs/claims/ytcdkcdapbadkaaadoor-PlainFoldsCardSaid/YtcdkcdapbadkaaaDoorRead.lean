/- Plain texts: the whole one. Conditions: sizes. -/
import Derived.Test.YtcdkcdapbadkaaaDoorLines
namespace Go.Mini
open Go Go.RowKit Go.Proofs
set_option maxRecDepth 100000
set_option linter.unusedVariables false
set_option linter.unusedSimpArgs false

def bytesI (s : ByteArray) (a e : Int) : List UInt8 := ((lst s).drop a.toNat).take (e - a).toNat
theorem bytesI_ext (s : ByteArray) {a e : Int} (h0 : 0 ≤ a) (h1 : a ≤ e) : (s.extract a.toNat e.toNat).data.toList = bytesI s a e := by
  have := lst_ext s a.toNat e.toNat
  rw [show e.toNat - a.toNat = (e - a).toNat from by omega] at this
  exact this
/-- Behind a part that ends at e: what is told, and where all ends. -/
def plF (v : Int) (s : ByteArray) (p : Int) : Nat → Int → List UInt8 × Int
  | 0, e => ([], e)
  | k + 1, e => if (onI v s e p).1 < 0 then ([], e) else
    (foldedL ((onI v s e p).2 + 1) ++ bytesI s (onI v s e p).1 (endsI v s (onI v s e p).1 false) ++ (plF v s p k (endsI v s (onI v s e p).1 false)).1, (plF v s p k (endsI v s (onI v s e p).1 false)).2)
/-- The whole text. -/
def plainI (v : Int) (s : ByteArray) (i p : Int) : List UInt8 × Int :=
  if partI v s i false < 0 then ([], -1) else (bytesI s i (partI v s i false) ++ (plF v s p (s.size + 1) (partI v s i false)).1, (plF v s p (s.size + 1) (partI v s i false)).2)
theorem endP_ge (v : Int) (s : ByteArray) (flow : Bool) : ∀ (n : Nat) (e j : Int), e ≤ j → j + n ≤ s.size → e ≤ (endP v s flow n e j).1 ∧ (endP v s flow n e j).1 ≤ s.size
  | 0, e, j, h, h2 => by simp only [endP]; omega
  | n + 1, e, j, h, h2 => by
    rw [endP]
    split
    · simp only; omega
    · split
      · exact endP_ge v s flow n e (j + 1) (by omega) (by omega)
      · have := endP_ge v s flow n (j + 1) (j + 1) (by omega) (by omega)
        omega
theorem endsI_ok (v : Int) {s : ByteArray} {i : Int} (flow : Bool) (h0 : 0 ≤ i) (h1 : i ≤ s.size) : i ≤ endsI v s i flow ∧ endsI v s i flow ≤ s.size := endP_ge v s flow _ i i (Int.le_refl _) (by omega)
theorem onF_ok (v : Int) (s : ByteArray) (p : Int) : ∀ (k : Nat) (a n : Int), 0 ≤ a → a ≤ s.size → 0 ≤ n → n ≤ a → (onF v s p k a n).1 = -1 ∨ (a ≤ (onF v s p k a n).1 ∧ (onF v s p k a n).1 < s.size ∧ 0 ≤ (onF v s p k a n).2 ∧ (onF v s p k a n).2 ≤ (onF v s p k a n).1)
  | 0, a, n, h0, h1, h2, h3 => .inl rfl
  | k + 1, a, n, h0, h1, h2, h3 => by
    rw [onF]
    have hge := endI_ge v s a
    have hle := endI_le v h0 h1
    have hn0 := nxtI_le v h0 h1
    split
    · exact .inl rfl
    · rename_i hlt
      have hadv : a < nxtI v s a := nxtI_lt h0 (by omega)
      split
      · rcases onF_ok v s p k (nxtI v s a) (n + 1) (by omega) hn0 (by omega) (by omega) with h | h
        · exact .inl h
        · exact .inr (by omega)
      · split
        · exact .inl rfl
        · rename_i hb hr
          right
          have hnn := brkI_nn v s (endI v s a)
          have hok : okLn s a (endI v s a) (nxtI v s a) = true := okLn_iff.2 ⟨h0, hge, by unfold nxtI; omega, hn0⟩
          have := overI_lt hok (by simpa using hb)
          have := overI_ge s a
          simp only
          omega
theorem onI_ok {v : Int} {s : ByteArray} {e p : Int} (h0 : 0 ≤ e) (h1 : e ≤ s.size) : (onI v s e p).1 = -1 ∨ (e < (onI v s e p).1 ∧ (onI v s e p).1 < s.size ∧ 0 ≤ (onI v s e p).2 ∧ (onI v s e p).2 ≤ (onI v s e p).1) := by
  unfold onI
  have ho1 := overI_ge s e
  have ho2 := overI_le s e h1
  have hz := nxtI_ge v s (overI s e)
  have h2 := nxtI_le v (s := s) (a := overI s e) (by omega) ho2
  split
  · exact .inl rfl
  · rcases onF_ok v s p (s.size + 1) (nxtI v s (overI s e)) 0 (by omega) h2 (by omega) (by omega) with h | h
    · exact .inl h
    · have := nxtI_lt (v := v) (s := s) (a := overI s e) (by omega) (by omega)
      exact .inr (by omega)
theorem bytesI_len (s : ByteArray) (a e : Int) : (bytesI s a e).length ≤ s.size := by
  unfold bytesI
  rw [List.length_take, List.length_drop, Array.length_toList]
  have : s.data.size = s.size := rfl
  omega
theorem foldedL_len (n : Int) (h : n ≤ 1000001) : (foldedL n).length ≤ 1000001 := by
  unfold foldedL
  split
  · simp
  · rw [List.length_replicate]; omega
def strings_Builder_WriteString.s := bws.s
theorem strings_Builder_WriteString.sc : ∀ vs h K, strings_Builder_WriteString.s vs h K → ACalls Tryd.prog strings_Builder_WriteString.n vs h K := bws.sc
theorem strings_Builder_WriteString.sm : SpecMono strings_Builder_WriteString.s := bws.sm
theorem strings_Builder_WriteString.sd : SpecDet strings_Builder_WriteString.s := bws.sd
def strings_Builder_String.n : Nat := 26
def strings_Builder_String.s := bstr.s
theorem strings_Builder_String.sc : ∀ vs h K, strings_Builder_String.s vs h K → ACalls Tryd.prog strings_Builder_String.n vs h K := bstr.sc
theorem strings_Builder_String.sm : SpecMono strings_Builder_String.s := bstr.sm
theorem strings_Builder_String.sd : SpecDet strings_Builder_String.s := bstr.sd
def SP : CT := (extC (extC (extC SN strings_Builder_WriteString.n strings_Builder_WriteString.s) strings_Builder_String.n strings_Builder_String.s) plain_on.n plain_on.s)
theorem SP_ok : COk Tryd.prog SP := (extC_ok (extC_ok (extC_ok SN_ok strings_Builder_WriteString.sc strings_Builder_WriteString.sd) strings_Builder_String.sc strings_Builder_String.sd) plain_on.sc plain_on.sd)
theorem SP_mono : CMono SP := (extC_mono (extC_mono (extC_mono SN_mono strings_Builder_WriteString.sm) strings_Builder_String.sm) plain_on.sm)

def plain_Read.sp0 : LSpec := ⟨plain_Read.cs0, plain_Read.ts0, fun vs h K => ∃ (v : Int) (s : ByteArray) (p : Int) (e : Int) (i : Nat) (a : Int) (n : Int) (h0 : Heap) (l : List UInt8) (k : Nat), (vs = [.int .i64 v, .string s, .int .i64 p, .int .i64 e, .pointer (some ⟨i, 0, none⟩), .int .i64 a, .int .i64 n] ∧ (BldS TB TU h0 h i l ∧ s.size ≤ 1000000 ∧ 0 ≤ e ∧ e ≤ s.size ∧ onI v s e p = (a, n) ∧ l.length + (s.size - e) * 3000000 ≤ 10000000000000 ∧ s.size - e < k)) ∧ (∀ (h' : Heap) (a' n' : Int), BldS TB TU h0 h' i (l ++ (plF v s p k e).1) → (l ++ (plF v s p k e).1).length ≤ 10000000000000 → K (.exit 0) [.int .i64 v, .string s, .int .i64 p, .int .i64 (plF v s p k e).2, .pointer (some ⟨i, 0, none⟩), .int .i64 a', .int .i64 n'] h')⟩
theorem plain_Read.spm0 : LSpecMono plain_Read.sp0 := by
  rintro vs h K K' hk ⟨v, s, p, e, i, a, n, h0, l, k, h3, h4⟩
  exact ⟨v, s, p, e, i, a, n, h0, l, k, h3, fun h' a' n' hB hl => hk _ _ _ (h4 h' a' n' hB hl)⟩
theorem plain_Read.t0 (v : Int) (s : ByteArray) (p : Int) (e : Int) (i : Nat) (a : Int) (n : Int) (h0 : Heap) (l : List UInt8) (k : Nat) (h : Heap) (E : Env) (N : List Value → Heap → Prop) (K : LK) : mwp SP (lt0) plain_Read.l0 (lK plain_Read.cs0 N K) (zipE plain_Read.cs0 [.int .i64 v, .string s, .int .i64 p, .int .i64 e, .pointer (some ⟨i, 0, none⟩), .int .i64 a, .int .i64 n] ++ E) h = (br (decide ((0 : Int) ≤ a)) ((s.size ≤ (1000000 : Nat) ∧ (0 : Int) ≤ a ∧ a ≤ (↑s.size : Int)) ∧ rng IntKind.i64 (n + (1 : Int)) ∧ ((-1000000 : Int) ≤ n + (1 : Int) ∧ n + (1 : Int) ≤ (1000000 : Int)) ∧ ∃ (i_1 : Nat), ∃ (s_1 : ByteArray), ∃ (h0 : Heap), ∃ (l : List UInt8), [Value.pointer (some (Addr.mk i (0 : Nat) none)), Value.string (strOf (foldedL (n + (1 : Int))))] = [Value.pointer (some (Addr.mk i_1 (0 : Nat) none)), Value.string s_1] ∧ BldS TB TU h0 h i_1 l ∧ l.length + s_1.size ≤ (100000000000000 : Nat) ∧ ∀ (h' : Heap), BldS TB TU h0 h' i_1 (l ++ s_1.data.toList) → ((0 : Int) ≤ a ∧ a ≤ endsI v s a false ∧ endsI v s a false ≤ (↑s.size : Int)) ∧ ∃ (i_2 : Nat), ∃ (s_2 : ByteArray), ∃ (h0 : Heap), ∃ (l : List UInt8), [Value.pointer (some (Addr.mk i (0 : Nat) none)), Value.string (s.extract a.toNat (endsI v s a false).toNat)] = [Value.pointer (some (Addr.mk i_2 (0 : Nat) none)), Value.string s_2] ∧ BldS TB TU h0 h' i_2 l ∧ l.length + s_2.size ≤ (100000000000000 : Nat) ∧ ∀ (h' : Heap), BldS TB TU h0 h' i_2 (l ++ s_2.data.toList) → (s.size ≤ (1000000 : Nat) ∧ (0 : Int) ≤ endsI v s a false ∧ endsI v s a false ≤ (↑s.size : Int)) ∧ N [Value.int IntKind.i64 v, Value.string s, Value.int IntKind.i64 p, Value.int IntKind.i64 (endsI v s a false), Value.pointer (some (Addr.mk i (0 : Nat) none)), Value.int IntKind.i64 (onI v s (endsI v s a false) p).fst, Value.int IntKind.i64 (onI v s (endsI v s a false) p).snd] h') (K (Exit.exit (0 : Nat)) [Value.int IntKind.i64 v, Value.string s, Value.int IntKind.i64 p, Value.int IntKind.i64 e, Value.pointer (some (Addr.mk i (0 : Nat) none)), Value.int IntKind.i64 a, Value.int IntKind.i64 n] h)) := by kernel_rfl
theorem plain_Read.lo0 : LOk1 Tryd.prog plain_Read.nt plain_Read.sp0 (.loop 0 plain_Read.l0) := by
  refine loop_res (σ := Int × ByteArray × Int × Int × Nat × Int × Int × Heap × (List UInt8) × Nat) SP_ok SP_mono (lt0_mono) (LS := lt0) (by simp only [plain_Read.l0, LOk, and_true, true_and]) rfl rfl (fun ⟨v, s, p, e, i, a, n, h0, l, k⟩ => [.int .i64 v, .string s, .int .i64 p, .int .i64 e, .pointer (some ⟨i, 0, none⟩), .int .i64 a, .int .i64 n]) (fun ⟨v, s, p, e, i, a, n, h0, l, k⟩ h => BldS TB TU h0 h i l ∧ s.size ≤ 1000000 ∧ 0 ≤ e ∧ e ≤ s.size ∧ onI v s e p = (a, n) ∧ l.length + (s.size - e) * 3000000 ≤ 10000000000000 ∧ s.size - e < k) (fun ⟨v, s, p, e, i, a, n, h0, l, k⟩ => k) (fun ⟨v, s, p, e, i, a, n, h0, l, k⟩ K h => ∀ (h' : Heap) (a' n' : Int), BldS TB TU h0 h' i (l ++ (plF v s p k e).1) → (l ++ (plF v s p k e).1).length ≤ 10000000000000 → K (.exit 0) [.int .i64 v, .string s, .int .i64 p, .int .i64 (plF v s p k e).2, .pointer (some ⟨i, 0, none⟩), .int .i64 a', .int .i64 n'] h') ?_ ?_
  · rintro vs h K ⟨v, s, p, e, i, a, n, h0, l, k, ⟨h1, h2⟩, h3⟩
    exact ⟨⟨v, s, p, e, i, a, n, h0, l, k⟩, h1, h2, h3⟩
  rintro ⟨v, s, p, e, i, a, n, h0, l, k⟩ E h N K hE hp hN hK
  dsimp only at hp hN hK
  refine Eq.mpr (plain_Read.t0 v s p e i a n h0 l k h E N K) ?_
  obtain ⟨hB, hs, he0, he1, hon, hl, hk⟩ := hp
  obtain ⟨k, rfl⟩ : ∃ k', k = k' + 1 := ⟨k - 1, by omega⟩
  have hok := onI_ok (v := v) (p := p) he0 he1
  rw [plF, hon] at hK
  rw [hon] at hok
  dsimp only at hK hok
  refine br_intro (fun hb => ?_) (fun hb => ?_)
  · simp only [decide_eq_true_eq] at hb
    rw [if_neg (by omega)] at hK
    have hend := endsI_ok v (s := s) (i := a) false hb (by omega)
    have hfl := foldedL_len (n + 1) (by omega)
    have hbl := bytesI_len s a (endsI v s a false)
    refine ⟨⟨hs, by omega, by omega⟩, by simp only [rng]; omega, ⟨by omega, by omega⟩, i, _, h0, l, rfl, hB, by rw [strOf_size]; omega, fun h1 hB1 => ⟨⟨by omega, by omega, by omega⟩, i, _, h0, _, rfl, hB1, ?_, fun h2 hB2 => ⟨⟨hs, by omega, by omega⟩, ?_⟩⟩⟩
    · rw [show (s.extract a.toNat (endsI v s a false).toNat).size = (bytesI s a (endsI v s a false)).length from by rw [← bytesI_ext s hb hend.1, Array.length_toList]; rfl]
      simp only [List.length_append, show (strOf (foldedL (n + 1))).data.toList = foldedL (n + 1) from lst_strOf _]
      omega
    · rw [bytesI_ext s hb hend.1, show (strOf (foldedL (n + 1))).data.toList = foldedL (n + 1) from lst_strOf _] at hB2
      refine hN (v, s, p, endsI v s a false, i, _, _, h0, _, k) h2 ⟨hB2, hs, by dsimp only; omega, by dsimp only; omega, rfl, ?_, by dsimp only; omega⟩ (by dsimp only; omega) ?_
      · dsimp only
        simp only [List.length_append]
        omega
      · dsimp only
        simp only [List.append_assoc] at hK ⊢
        exact hK
  · simp only [decide_eq_false_iff_not] at hb
    rw [if_pos (by omega), List.append_nil] at hK
    exact hK h a n hB (by omega)

def plain_Read.LS : LT := (extL lt0 0 plain_Read.sp0)
theorem plain_Read.LS_mono : LMono plain_Read.LS := (extL_mono lt0_mono plain_Read.spm0)
def plain_Read.s : List Value → Heap → VK → Prop
  | [.int .i64 v, .string s, .int .i64 i, .int .i64 p], h, K => (s.size ≤ 1000000) ∧ K (.tuple #[.string (strOf (plainI v s i p).1), .int .i64 (plainI v s i p).2]) h
  | _, _, _ => False
theorem plain_Read.t (v : Int) (s : ByteArray) (i : Int) (p : Int) (K : VK) : mwp SP (plain_Read.LS) plain_Read.m (retK [.t 8, .t 9] K) (argE 0 [.int .i64 v, .string s, .int .i64 i, .int .i64 p]) (lit []) = (s.size ≤ (1000000 : Nat) ∧ br (decide (partI v s i false < (0 : Int))) (K (Value.tuple #[Value.string (ByteArray.mk #[]), Value.int IntKind.i64 (-1 : Int)]) (Heap.mk (0 : Nat) [])) (((0 : Int) ≤ i ∧ i ≤ partI v s i false ∧ partI v s i false ≤ (↑s.size : Int)) ∧ ∃ (i_1 : Nat), ∃ (s_1 : ByteArray), ∃ (h0 : Heap), ∃ (l : List UInt8), [Value.pointer (some (Addr.mk (0 : Nat) (0 : Nat) none)), Value.string (s.extract i.toNat (partI v s i false).toNat)] = [Value.pointer (some (Addr.mk i_1 (0 : Nat) none)), Value.string s_1] ∧ BldS TB TU h0 (Heap.mk (1 : Nat) [some (Blk.mk (46 : Nat) (2 : Nat) [Value.pointer none, Value.slice none (0 : Nat) (0 : Nat)] true)]) i_1 l ∧ l.length + s_1.size ≤ (100000000000000 : Nat) ∧ ∀ (h' : Heap), BldS TB TU h0 h' i_1 (l ++ s_1.data.toList) → (s.size ≤ (1000000 : Nat) ∧ (0 : Int) ≤ partI v s i false ∧ partI v s i false ≤ (↑s.size : Int)) ∧ ∃ (v_1 : Int), ∃ (s_2 : ByteArray), ∃ (p_1 : Int), ∃ (e : Int), ∃ (i_2 : Nat), ∃ (a : Int), ∃ (n : Int), ∃ (h0 : Heap), ∃ (l : List UInt8), ∃ (k : Nat), ([Value.int IntKind.i64 v, Value.string s, Value.int IntKind.i64 p, Value.int IntKind.i64 (partI v s i false), Value.pointer (some (Addr.mk (0 : Nat) (0 : Nat) none)), Value.int IntKind.i64 (onI v s (partI v s i false) p).fst, Value.int IntKind.i64 (onI v s (partI v s i false) p).snd] = [Value.int IntKind.i64 v_1, Value.string s_2, Value.int IntKind.i64 p_1, Value.int IntKind.i64 e, Value.pointer (some (Addr.mk i_2 (0 : Nat) none)), Value.int IntKind.i64 a, Value.int IntKind.i64 n] ∧ BldS TB TU h0 h' i_2 l ∧ s_2.size ≤ (1000000 : Nat) ∧ (0 : Int) ≤ e ∧ e ≤ (↑s_2.size : Int) ∧ onI v_1 s_2 e p_1 = (a, n) ∧ (↑l.length : Int) + ((↑s_2.size : Int) - e) * (3000000 : Int) ≤ (10000000000000 : Int) ∧ (↑s_2.size : Int) - e < (↑k : Int)) ∧ ∀ (h' : Heap) (a' n' : Int), BldS TB TU h0 h' i_2 (l ++ (plF v_1 s_2 p_1 k e).fst) → (l ++ (plF v_1 s_2 p_1 k e).fst).length ≤ (10000000000000 : Nat) → ∃ (i : Nat), ∃ (h0 : Heap), ∃ (l : List UInt8), [Value.pointer (some (Addr.mk i_2 (0 : Nat) none))] = [Value.pointer (some (Addr.mk i (0 : Nat) none))] ∧ BldS TB TU h0 h' i l ∧ l.length ≤ (100000000000000 : Nat) ∧ ∀ (h' : Heap), keeps h0 h' → K (Value.tuple #[Value.string (ByteArray.mk l.toArray), Value.int IntKind.i64 (plF v_1 s_2 p_1 k e).snd]) h')) := by kernel_rfl
theorem plain_Read.c (v : Int) (s : ByteArray) (i : Int) (p : Int) (h : Heap) (K : VK) (hp : s.size ≤ 1000000) (hh : K (.tuple #[.string (strOf (plainI v s i p).1), .int .i64 (plainI v s i p).2]) h) : ACalls Tryd.prog plain_Read.n [.int .i64 v, .string s, .int .i64 i, .int .i64 p] h K := by
  refine ACalls.alone rfl (acalls_mk SP_ok plain_Read.ok (LS := plain_Read.LS) (by simp only [plain_Read.m, LOk, and_true, true_and]; (repeat' apply And.intro) <;> first | trivial | exact plain_Read.lo0) (Nat.le_of_ble_eq_true rfl) (Eq.mpr (plain_Read.t v s i p (fun v _ => ck (cleanT v) (K v h))) ?_))
  refine ⟨hp, ?_⟩
  unfold plainI at hh
  refine br_intro (fun hb => ?_) (fun hb => ?_)
  · simp only [decide_eq_true_eq] at hb
    rw [if_pos hb] at hh
    exact hh
  · simp only [decide_eq_false_iff_not] at hb
    rw [if_neg hb] at hh
    have h0 : 0 ≤ i ∧ i < s.size := by
      unfold partI at hb
      split at hb
      · rename_i ho; exact opensI_lt ho
      · omega
    have h1 : i ≤ partI v s i false ∧ partI v s i false ≤ s.size := by
      unfold partI at hb ⊢
      split at hb
      · rename_i ho; rw [if_pos ho]; exact endsI_ok v false h0.1 (by omega)
      · omega
    have hbl := bytesI_len s i (partI v s i false)
    refine ⟨⟨h0.1, h1.1, h1.2⟩, 0, _, lit [], [], rfl, BldS.new TB TU (lit []), ?_, fun h2 hB2 => ⟨⟨hp, by omega, by omega⟩, v, s, p, _, 0, _, _, lit [], _, s.size + 1, ⟨rfl, hB2, hp, by omega, by omega, rfl, ?_, by omega⟩, fun h3 a' n' hB3 hl3 => ⟨0, lit [], _, rfl, hB3, by omega, fun h4 hk4 => ?_⟩⟩⟩
    · rw [show (s.extract i.toNat (partI v s i false).toNat).size = (bytesI s i (partI v s i false)).length from by rw [← bytesI_ext s h0.1 h1.1, Array.length_toList]; rfl]
      simp only [List.length_nil]
      omega
    · rw [List.nil_append, bytesI_ext s h0.1 h1.1]
      omega
    · rw [List.nil_append, bytesI_ext s h0.1 h1.1]
      exact hh
theorem plain_Read.sc : ∀ vs h K, plain_Read.s vs h K → ACalls Tryd.prog plain_Read.n vs h K := by
  intro vs h K hh; unfold plain_Read.s at hh; split at hh
  · exact plain_Read.c _ _ _ _ _ _ hh.1 hh.2
  · exact hh.elim
theorem plain_Read.sm : SpecMono plain_Read.s := by
  intro vs h K K' hk hh; unfold plain_Read.s at hh ⊢; split at hh
  · exact ⟨hh.1, hk _ _ hh.2⟩
  · exact hh.elim
theorem plain_Read.sd : SpecDet plain_Read.s := by
  intro vs h K hh; unfold plain_Read.s at hh; split at hh
  · exact ⟨_, hh.2, hh.1, rfl⟩
  · exact hh.elim

end Go.Mini
