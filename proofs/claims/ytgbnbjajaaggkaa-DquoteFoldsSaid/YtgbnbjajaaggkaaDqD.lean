/- dquote's Read, walked. -/
import Derived.Test.YtgbnbjajaaggkaaDqC
import Derived.Test.YtgbnbjajaaggkaaQuietK
namespace Go.Proofs.Ytgbnbjajaaggkaa.Q
open Go Go.RowKit Go.Proofs Go.Proofs.YtgbnbjajaaggkaaW.PrintWords Go.Proofs.YtgbnbjajaaggkaaW.PrintLast Go.Proofs.YtgbnbjajaaggkaaW.PrintMore
set_option linter.unusedVariables false
set_option linter.unusedSimpArgs false

theorem Read_fin (tmps : Array Value) (s : ByteArray) (i : Int) (b2 : Nat) (w w' : World) (h6 : tmps.getD 6 undef = .string s) (h7 : tmps.getD 7 undef = .int .i64 i) (h8 : tmps.getD 8 undef = .pointer (some ⟨b2, 0, none⟩))
    {L : List (Nat × List Value × TypeId)} (H : Holds w L w') {c2 : List Value} (m2 : (b2, c2, 32) ∈ L) (hc2 : c2.length = 2) :
    (results Try.f14 tmps).run Try.prog w' = .ok (.tuple #[.string s, .int .i64 i, .agg c2.toArray]) w' := by
  have l2 := run_loadVar_H (P := Try.prog) H m2 32 Try.isAgg32 2 Try.sizeOf32 0 (by omega)
  rw [List.drop_zero, List.take_of_length_le (by omega)] at l2
  have h6' : tmps[6]?.getD undef = .string s := by simpa using h6
  have h7' : tmps[7]?.getD undef = .int .i64 i := by simpa using h7
  have h8' : tmps[8]?.getD undef = .pointer (some ⟨b2, 0, none⟩) := by simpa using h8
  simp [results, Try.results14, h6', h7', h8', asAddr, l2]

/-- What Read answers. -/
def ReadPost (w : World) (o : ByteArray) (n c f : Int) (e : Ending) (w' : World) : Prop :=
  e = .returned (.tuple #[.string o, .int .i64 n, .agg #[.int .i64 c, .int .i64 f]]) ∧ Below w.heap.size w w'

set_option maxRecDepth 100000 in
set_option maxHeartbeats 4000000 in
theorem Read_out (v : Int) (s : ByteArray) (i : Int) (w : World) (hi : i < 0) :
    Calls Try.prog 14 #[.int .i64 v, .string s, .int .i64 i] w (ReadPost w ⟨#[]⟩ 0 11 i) := by
  have hd : decide (i < 0) = true := decide_eq_true hi
  have H := Holds.nil w
  go_enter Try.func14, Try.ntmps14
  go_wp2_with (first | ((with_reducible refine at_alloc 32 ?_); refine wpList_alloc_H rfl 32 rfl _ (Try.zeroValue32) _ rfl (L := []) H ?_; intro b8 w1 H1 hb1; replace H := H1; clear H1 hb1) | ((with_reducible refine at_alloc 32 ?_); refine wpList_alloc_H rfl 32 rfl _ (Try.zeroValue32) _ rfl H ?_; intro b9 w1 H1 hb1; replace H := H1; clear H1 hb1) | ((with_reducible refine at_store 32 ?_); refine wpList_store_H rfl 32 _ _ rfl _ _ rfl _ rfl (Try.sizeOf32) rfl (A := []) H (Nat.le_of_ble_eq_true rfl) _ rfl ?_; intro w2 H2 hg2; replace H := H2; clear H2 hg2))
  try simp only [List.append_eq, List.cons_append, List.nil_append, Act.put, List.setIfInBounds_toArray, List.set_cons_zero, List.set_cons_succ]
  refine wp_region_held (S := Has [(b9, [.int .i64 11, .int .i64 (i : Int)], 32)]) (by kernel_rfl) ?_
  replace H := H.drew1
  refine wpAnyH_takeD (i := 0) (d := 27) rfl rfl (by kernel_rfl) (by kernel_rfl) (by kernel_rfl) (fun _ _ _ h => h) (yields_loads rfl 32 _ rfl (Try.isAgg32) 2 (Try.sizeOf32) b9 rfl _ _ (.head _) rfl) (H.has _ (fun _ hx => by obtain rfl := List.mem_singleton.1 hx; exact (.head _))) ?_
  simp only [Act.put, List.setIfInBounds_toArray, List.set_cons_zero, List.set_cons_succ]
  refine wpAnyH_takeD (i := 1) (d := 6) rfl rfl (by kernel_rfl) (by kernel_rfl) (by kernel_rfl) (fun _ _ _ h => h) (yields_any (.string ⟨#[]⟩) rfl (fun w => by go_simp)) (H.has _ (fun _ hx => by obtain rfl := List.mem_singleton.1 hx; exact (.head _))) ?_
  simp only [Act.put, List.setIfInBounds_toArray, List.set_cons_zero, List.set_cons_succ]
  refine wpAnyH_takeD (i := 2) (d := 7) rfl rfl (by kernel_rfl) (by kernel_rfl) (by kernel_rfl) (fun _ _ _ h => h) (yields_any (.int .i64 0) rfl (fun w => by go_simp)) (H.has _ (fun _ hx => by obtain rfl := List.mem_singleton.1 hx; exact (.head _))) ?_
  simp only [Act.put, List.setIfInBounds_toArray, List.set_cons_zero, List.set_cons_succ]
  refine wpAnyH_all (rs := [3]) (by kernel_rfl) (by decide) (fun i hi => ?_)
  obtain rfl := List.mem_singleton.1 hi; clear hi
  refine wpOp_store_H rfl rfl 32 _ _ rfl b8 0 rfl _ rfl (Try.sizeOf32) rfl (A := [_]) H (Nat.le_of_ble_eq_true rfl) _ rfl rfl ?_
  intro w2 H2; replace H := H2; clear H2; refine ⟨(H.has _ (fun _ hx => by obtain rfl := List.mem_singleton.1 hx; exact (.head _))), ?_⟩
  refine wpAnyH_done (by kernel_rfl) ?_ _
  try simp only [List.append_eq, List.cons_append, List.nil_append, Act.put, List.setIfInBounds_toArray, List.set_cons_zero, List.set_cons_succ]
  go_wp2_with fail
  exact bodyPost_ret (Read_fin _ _ _ _ _ _ rfl rfl rfl H (.tail _ (.head _)) rfl) rfl ⟨rfl, H.below⟩
set_option maxRecDepth 100000 in
set_option maxHeartbeats 4000000 in
theorem Read_end (v : Int) (s : ByteArray) (i : Nat) (w : World) (hi : s.size ≤ i) :
    Calls Try.prog 14 #[.int .i64 v, .string s, .int .i64 (i : Int)] w (ReadPost w ⟨#[]⟩ 0 11 i) := by
  have h1 : decide ((i : Int) < 0) = false := decide_eq_false (by omega)
  have h2 : (s.size : Int) ≤ (i : Int) := by omega
  have h3 : decide ((s.size : Int) ≤ (i : Int)) = true := decide_eq_true h2
  have H := Holds.nil w
  go_enter Try.func14, Try.ntmps14
  go_wp2_with (first | ((with_reducible refine at_alloc 32 ?_); refine wpList_alloc_H rfl 32 rfl _ (Try.zeroValue32) _ rfl (L := []) H ?_; intro b8 w1 H1 hb1; replace H := H1; clear H1 hb1) | ((with_reducible refine at_alloc 32 ?_); refine wpList_alloc_H rfl 32 rfl _ (Try.zeroValue32) _ rfl H ?_; intro b9 w1 H1 hb1; replace H := H1; clear H1 hb1) | ((with_reducible refine at_store 32 ?_); refine wpList_store_H rfl 32 _ _ rfl _ _ rfl _ rfl (Try.sizeOf32) rfl (A := []) H (Nat.le_of_ble_eq_true rfl) _ rfl ?_; intro w2 H2 hg2; replace H := H2; clear H2 hg2))
  try simp only [List.append_eq, List.cons_append, List.nil_append, Act.put, List.setIfInBounds_toArray, List.set_cons_zero, List.set_cons_succ]
  refine wp_region_held (S := Has [(b9, [.int .i64 11, .int .i64 (i : Int)], 32)]) (by kernel_rfl) ?_
  replace H := H.drew1
  refine wpAnyH_takeD (i := 0) (d := 27) rfl rfl (by kernel_rfl) (by kernel_rfl) (by kernel_rfl) (fun _ _ _ h => h) (yields_loads rfl 32 _ rfl (Try.isAgg32) 2 (Try.sizeOf32) b9 rfl _ _ (.head _) rfl) (H.has _ (fun _ hx => by obtain rfl := List.mem_singleton.1 hx; exact (.head _))) ?_
  simp only [Act.put, List.setIfInBounds_toArray, List.set_cons_zero, List.set_cons_succ]
  refine wpAnyH_takeD (i := 1) (d := 6) rfl rfl (by kernel_rfl) (by kernel_rfl) (by kernel_rfl) (fun _ _ _ h => h) (yields_any (.string ⟨#[]⟩) rfl (fun w => by go_simp)) (H.has _ (fun _ hx => by obtain rfl := List.mem_singleton.1 hx; exact (.head _))) ?_
  simp only [Act.put, List.setIfInBounds_toArray, List.set_cons_zero, List.set_cons_succ]
  refine wpAnyH_takeD (i := 2) (d := 7) rfl rfl (by kernel_rfl) (by kernel_rfl) (by kernel_rfl) (fun _ _ _ h => h) (yields_any (.int .i64 0) rfl (fun w => by go_simp)) (H.has _ (fun _ hx => by obtain rfl := List.mem_singleton.1 hx; exact (.head _))) ?_
  simp only [Act.put, List.setIfInBounds_toArray, List.set_cons_zero, List.set_cons_succ]
  refine wpAnyH_all (rs := [3]) (by kernel_rfl) (by decide) (fun i hi => ?_)
  obtain rfl := List.mem_singleton.1 hi; clear hi
  refine wpOp_store_H rfl rfl 32 _ _ rfl b8 0 rfl _ rfl (Try.sizeOf32) rfl (A := [_]) H (Nat.le_of_ble_eq_true rfl) _ rfl rfl ?_
  intro w2 H2; replace H := H2; clear H2; refine ⟨(H.has _ (fun _ hx => by obtain rfl := List.mem_singleton.1 hx; exact (.head _))), ?_⟩
  refine wpAnyH_done (by kernel_rfl) ?_ _
  try simp only [List.append_eq, List.cons_append, List.nil_append, Act.put, List.setIfInBounds_toArray, List.set_cons_zero, List.set_cons_succ]
  go_wp2_with fail
  exact bodyPost_ret (Read_fin _ _ _ _ _ _ rfl rfl rfl H (.tail _ (.head _)) rfl) rfl ⟨rfl, H.below⟩
set_option maxRecDepth 100000 in
set_option maxHeartbeats 4000000 in
theorem Read_other (v : Int) (s : ByteArray) (i : Nat) (w : World) (hi : i < s.size) (h34 : s[i] ≠ 34) :
    Calls Try.prog 14 #[.int .i64 v, .string s, .int .i64 (i : Int)] w (ReadPost w ⟨#[]⟩ 0 11 i) := by
  have h1 : decide ((i : Int) < 0) = false := decide_eq_false (by omega)
  have h2 : (i : Int) < (s.size : Int) := by omega
  have h3 : decide ((s.size : Int) ≤ (i : Int)) = false := decide_eq_false (by omega)
  have hix := index_at s i hi
  have hne : ((s[i].toNat : Int) != 34) = true := by
    rw [bne_iff_ne]
    intro h
    exact h34 (UInt8.toNat_inj.1 (by have : s[i].toNat = 34 := by omega
                                     rw [this]; rfl))
  generalize s[i] = c at hix hne
  have H := Holds.nil w
  go_enter Try.func14, Try.ntmps14
  go_wp2_with (first | ((with_reducible refine at_alloc 32 ?_); refine wpList_alloc_H rfl 32 rfl _ (Try.zeroValue32) _ rfl (L := []) H ?_; intro b8 w1 H1 hb1; replace H := H1; clear H1 hb1) | ((with_reducible refine at_alloc 32 ?_); refine wpList_alloc_H rfl 32 rfl _ (Try.zeroValue32) _ rfl H ?_; intro b9 w1 H1 hb1; replace H := H1; clear H1 hb1) | ((with_reducible refine at_store 32 ?_); refine wpList_store_H rfl 32 _ _ rfl _ _ rfl _ rfl (Try.sizeOf32) rfl (A := []) H (Nat.le_of_ble_eq_true rfl) _ rfl ?_; intro w2 H2 hg2; replace H := H2; clear H2 hg2))
  try simp only [List.append_eq, List.cons_append, List.nil_append, Act.put, List.setIfInBounds_toArray, List.set_cons_zero, List.set_cons_succ]
  refine wp_region_held (S := Has [(b9, [.int .i64 11, .int .i64 (i : Int)], 32)]) (by kernel_rfl) ?_
  replace H := H.drew1
  refine wpAnyH_takeD (i := 0) (d := 27) rfl rfl (by kernel_rfl) (by kernel_rfl) (by kernel_rfl) (fun _ _ _ h => h) (yields_loads rfl 32 _ rfl (Try.isAgg32) 2 (Try.sizeOf32) b9 rfl _ _ (.head _) rfl) (H.has _ (fun _ hx => by obtain rfl := List.mem_singleton.1 hx; exact (.head _))) ?_
  simp only [Act.put, List.setIfInBounds_toArray, List.set_cons_zero, List.set_cons_succ]
  refine wpAnyH_takeD (i := 1) (d := 6) rfl rfl (by kernel_rfl) (by kernel_rfl) (by kernel_rfl) (fun _ _ _ h => h) (yields_any (.string ⟨#[]⟩) rfl (fun w => by go_simp)) (H.has _ (fun _ hx => by obtain rfl := List.mem_singleton.1 hx; exact (.head _))) ?_
  simp only [Act.put, List.setIfInBounds_toArray, List.set_cons_zero, List.set_cons_succ]
  refine wpAnyH_takeD (i := 2) (d := 7) rfl rfl (by kernel_rfl) (by kernel_rfl) (by kernel_rfl) (fun _ _ _ h => h) (yields_any (.int .i64 0) rfl (fun w => by go_simp)) (H.has _ (fun _ hx => by obtain rfl := List.mem_singleton.1 hx; exact (.head _))) ?_
  simp only [Act.put, List.setIfInBounds_toArray, List.set_cons_zero, List.set_cons_succ]
  refine wpAnyH_all (rs := [3]) (by kernel_rfl) (by decide) (fun i hi => ?_)
  obtain rfl := List.mem_singleton.1 hi; clear hi
  refine wpOp_store_H rfl rfl 32 _ _ rfl b8 0 rfl _ rfl (Try.sizeOf32) rfl (A := [_]) H (Nat.le_of_ble_eq_true rfl) _ rfl rfl ?_
  intro w2 H2; replace H := H2; clear H2; refine ⟨(H.has _ (fun _ hx => by obtain rfl := List.mem_singleton.1 hx; exact (.head _))), ?_⟩
  refine wpAnyH_done (by kernel_rfl) ?_ _
  try simp only [List.append_eq, List.cons_append, List.nil_append, Act.put, List.setIfInBounds_toArray, List.set_cons_zero, List.set_cons_succ]
  go_wp2_with fail
  exact bodyPost_ret (Read_fin _ _ _ _ _ _ rfl rfl rfl H (.tail _ (.head _)) rfl) rfl ⟨rfl, H.below⟩

theorem at_box {P : Program} {ops : Array Oper} {Q : Exit → Act → World → Prop} {rest : List Oper} {a : Act} {w : World} {d : Option Tmp} (T : TypeId) {x : Operand} {t : TypeId} {p : String} {af : Array Edge} {g : Option (Nat × Bool)}
    (h : wpList P ops Q ({ dst := d, op := .box T x, type := t, pos := p, after := af, guard := g } :: rest) a w) : wpList P ops Q ({ dst := d, op := .box T x, type := t, pos := p, after := af, guard := g } :: rest) a w := h

theorem yields_loadsAt {P : Program} {ops : Array Oper} {o : Oper} {a : Act} {L0 : List (Nat × List Value × TypeId)} (hg : Region.wanted o (yielded ops a.tmps) = true) (T : TypeId) (x : Operand) (hop : o.op = .load T x) (hT : ∀ w, (isAgg T).run P w = .ok true w) (n : Nat) (hs : ∀ w, (sizeOf T).run P w = .ok n w) (b i : Nat) (hx : a.eval x = .pointer (some ⟨b, i, none⟩))
    (cs : List Value) (T' : TypeId) (hm : (b, cs, T') ∈ L0) (hn : i + n ≤ cs.length) (ds : List Value) (hds : (cs.drop i).take n = ds) : YieldsIf P ops (Has L0) o (.agg ds.toArray) a := by
  refine .inl ⟨hg, fun w hS => ?_⟩
  subst hds
  have hb := hS _ hm
  have hlen : ((cs.drop i).take n).length = n := by rw [List.length_take, List.length_drop]; omega
  have h := run_loadCells_list (P := P) w ⟨b, i, none⟩ ((cs.drop i).take n) (fun j v hv => by
    have hadd : (⟨b, i, none⟩ : Addr).add j = ⟨b, i + j, none⟩ := by unfold Addr.add; split <;> simp_all
    rw [hadd, cell_of_row w b (i + j) _ T' (0, 0) hb]
    have hj : j < n := by
      have := (List.getElem?_eq_some_iff.1 hv).1
      omega
    rw [List.getElem?_take_of_lt hj, List.getElem?_drop] at hv
    simpa using hv)
  rw [hlen] at h
  have hrun : (loadVar T ⟨b, i, none⟩).run P w = .ok (.agg ((cs.drop i).take n).toArray) w := by
    simp [loadVar, hT, hs, h]
  simp only [execOp, hop, hx, Instr.loadAt, Instr.sureAddr, Sem.run_bind, Sem.run_pure, Result.andThen_ok, hrun]

/-- The reader's loop, with fuel: where it stops, or the error. -/
def readL (v : Int) (s : ByteArray) (F : Nat → Option Nat × Nat) : Nat → Nat → List UInt8 → Option Res
  | 0, _, _ => none
  | k + 1, a, l =>
    if h : a < s.size then
      if s[a] = 34 then some (.go a l) else
        match partR v s F a l with
        | .go a' l' => readL v s F k a' l'
        | .bad c o => some (.bad c o)
    else some (.go a l)
def ReadR (w : World) (s : ByteArray) (i : Nat) (R : Res) (e : Ending) (w' : World) : Prop :=
  match R with
  | .bad c o => ReadPost w ⟨#[]⟩ 0 c o e w'
  | .go a l => if a < s.size then ReadPost w ⟨l.toArray⟩ ((a : Int) + 1) 0 0 e w' else ReadPost w ⟨#[]⟩ 0 11 i e w'

theorem ReadR.late {w : World} {s : ByteArray} {i a : Nat} {l : List UInt8} {e : Ending} {w' : World} (h : ¬ a < s.size) (hp : ReadPost w ⟨#[]⟩ 0 11 i e w') : ReadR w s i (.go a l) e w' := by
  show if a < s.size then _ else _
  rw [if_neg h]
  exact hp
theorem ReadR.text {w : World} {s : ByteArray} {i a : Nat} {l : List UInt8} {e : Ending} {w' : World} (h : a < s.size) (hp : ReadPost w ⟨l.toArray⟩ ((a : Int) + 1) 0 0 e w') : ReadR w s i (.go a l) e w' := by
  show if a < s.size then _ else _
  rw [if_pos h]
  exact hp

theorem hexRun_le : ∀ (m : Nat) (l : List UInt8) (n r : Int), hexRun m l n = some r → m ≤ l.length := by
  intro m
  induction m with
  | zero => intros; exact Nat.zero_le _
  | succ m ih =>
    intro l n r h
    cases l with
    | nil => exact nomatch h
    | cons c l =>
      unfold hexRun at h
      split at h
      · exact nomatch h
      · split at h
        · exact nomatch h
        · have := ih l _ r h
          simp only [List.length_cons]
          omega
theorem rune_le (n : Int) : (Lib.encodeRune n).length ≤ 4 := by
  have := Lib.encodeRuneZ_length n
  simp only [Lib.encodeRune, List.length_map]
  exact this.2

theorem foldR_le {v : Int} {s : ByteArray} {F : Nat → Option Nat × Nat} (A : Says v s F) {t : Bool} {a a' : Nat} {l l' : List UInt8} (ha : a ≤ s.size) (hb : 0 < brkN v s a) (h : foldR F t a l = .go a' l') : a < a' ∧ a' ≤ s.size ∧ l'.length ≤ l.length + (a' - a) := by
  unfold foldR at h
  rcases hf : F a with ⟨on, e⟩
  rw [hf] at h
  cases on with
  | none => exact nomatch h
  | some n =>
    obtain ⟨h1, h2, h3⟩ := A.fold a n e ha hb hf
    simp only [Res.go.injEq] at h
    obtain ⟨rfl, rfl⟩ := h
    refine ⟨by omega, h3, ?_⟩
    rw [List.length_append]
    cases t
    · have := foldedL_length h1
      simp only [Bool.false_eq_true, if_false]
      omega
    · simp only [if_true, Lib.repeatL_length, List.length_cons, List.length_nil]
      omega

theorem turnedR_le {v : Int} {s : ByteArray} {F : Nat → Option Nat × Nat} (A : Says v s F) {a a' : Nat} {l l' : List UInt8} (h : turnedR v s F a l = .go a' l') : a < a' ∧ a' ≤ s.size ∧ l'.length ≤ l.length + 4 * (a' - a) := by
  unfold turnedR at h
  split at h
  case isFalse => exact nomatch h
  case isTrue hlt =>
  split at h
  · rename_i hb
    have := foldR_le A (by omega) hb h
    omega
  · split at h
    · unfold hexR at h
      split at h
      · rename_i n hn
        have hl := hexRun_le _ _ _ _ hn
        split at h
        · simp only [Res.go.injEq] at h
          obtain ⟨rfl, rfl⟩ := h
          have h4 := rune_le n
          rw [List.length_drop, Array.length_toList] at hl
          have : s.data.size = s.size := rfl
          rw [List.length_append]
          omega
        · exact nomatch h
      · exact nomatch h
    · split at h
      · exact nomatch h
      · simp only [Res.go.injEq] at h
        obtain ⟨rfl, rfl⟩ := h
        have h4 := rune_le (singleN v s[a + 1])
        rw [List.length_append]
        omega

theorem partR_le {v : Int} {s : ByteArray} {F : Nat → Option Nat × Nat} (A : Says v s F) {a a' : Nat} {l l' : List UInt8} (ha : a < s.size) (h : partR v s F a l = .go a' l') : a < a' ∧ a' ≤ s.size ∧ l'.length ≤ l.length + 4 * (a' - a) := by
  have ho := overN_le (s := s) (Nat.le_of_lt ha)
  unfold partR at h
  split at h
  · rename_i hb
    have := foldR_le A ho.2 hb h
    omega
  · split at h
    · simp only [Res.go.injEq] at h
      obtain ⟨rfl, rfl⟩ := h
      refine ⟨by omega, ho.2, ?_⟩
      rw [List.length_append]
      have : (s.extract a (overN s a)).data.toList.length ≤ overN s a - a := by
        have e1 : (s.extract a (overN s a)).data.toList.length = (s.extract a (overN s a)).size := by rw [Array.length_toList]; rfl
        rw [e1, ByteArray.size_extract]
        omega
      omega
    · split at h
      · exact turnedR_le A h
      · simp only [Res.go.injEq] at h
        obtain ⟨rfl, rfl⟩ := h
        rw [List.length_append]
        simp only [List.length_cons, List.length_nil]
        omega

set_option maxRecDepth 100000 in
set_option maxHeartbeats 8000000 in
theorem Read_run (v : Int) (s : ByteArray) (F : Nat → Option Nat × Nat) (A : Says v s F) (i N : Nat) (w : World) (hi : i < s.size) (h34 : s[i] = 34) (R : Res) (hR : readL v s F N (i + 1) [] = some R) :
    Calls Try.prog 14 #[.int .i64 v, .string s, .int .i64 (i : Int)] w (ReadR w s i R) := by
  have h1 : decide ((i : Int) < 0) = false := decide_eq_false (by omega)
  have h2 : (i : Int) < (s.size : Int) := by omega
  have h3 : decide ((s.size : Int) ≤ (i : Int)) = false := decide_eq_false (by omega)
  have hz := A.size
  have hix := index_at s i hi
  have hne : ((s[i].toNat : Int) != 34) = false := by rw [h34]; rfl
  generalize s[i] = c at hix hne h34
  have HR := Lib.hid hR
  clear hR
  have H := Holds.nil w
  go_enter Try.func14, Try.ntmps14
  go_wp2_with (first | ((with_reducible refine at_alloc 32 ?_); refine wpList_alloc_H rfl 32 rfl _ (Try.zeroValue32) _ rfl (L := []) H ?_; intro b8 w1 H1 hb1; replace H := H1; clear H1 hb1) | ((with_reducible refine at_alloc 32 ?_); refine wpList_alloc_H rfl 32 rfl _ (Try.zeroValue32) _ rfl H ?_; intro b9 w1 H1 hb1; replace H := H1; clear H1 hb1) | ((with_reducible refine at_store 32 ?_); refine wpList_store_H rfl 32 _ _ rfl _ _ rfl _ rfl (Try.sizeOf32) rfl (A := []) H (Nat.le_of_ble_eq_true rfl) _ rfl ?_; intro w2 H2 hg2; replace H := H2; clear H2 hg2) | ((with_reducible refine at_box RdT ?_); refine wpList_box_H rfl RdT _ rfl _ rfl H ?_; intro b10 w1 H1 hb1; replace H := H1; clear H1 hb1))
  have hRD := RD.shut (w0 := w) (l := []) H (.inl rfl) (World.ownsRowF_nil _ _ _ _) ⟨by decide, fun x hx => by rcases List.mem_cons.1 hx with rfl | hx; (show 32 ≠ 5; decide); rcases List.mem_cons.1 hx with rfl | hx; (show 32 ≠ 5; decide); cases hx⟩
  clear H hix hne h34 h1 h2 h3
  try simp only [List.append_eq, List.cons_append, List.nil_append, Act.put, List.setIfInBounds_toArray, List.set_cons_zero, List.set_cons_succ]
  go_loopg [] N (fun kq w' => ∃ (a : Nat) (l : List UInt8), Hid (a ≤ s.size) ∧ Hid (l.length ≤ 4 * a) ∧ Hid (readL v s F kq a l = some R) ∧ Hid (kq ≤ N) ∧ RD w [(b9, [.int .i64 11, .int .i64 (i : Int)], 32), (b8, [.int .i64 0, .int .i64 0], 32)] b10 v s a l 0 0 w')
  case atStart => exact ⟨i + 1, [], Lib.hid hi, Lib.hid (Nat.zero_le _), HR, Lib.hid (Nat.le_refl _), hRD⟩
  case round =>
    clear hRD HR
    obtain ⟨a, l, ha, hl, hR, hk, hRD⟩ := hrel
    cases gk with
    | zero => exact absurd hR.out (by simp [readL])
    | succ k1 =>
      obtain ⟨p, buf, H, hp, ho, ty⟩ := RD.opened hRD
      clear hRD
      have hR1 := hR.out
      clear hR
      rw [readL] at hR1
      by_cases has : a < s.size
      case neg =>
        rw [dif_neg has] at hR1
        obtain rfl := Option.some.inj hR1
        clear hR1 hk hl ha
        have hd1 : decide (a < s.size) = false := decide_eq_false has
        have hd2 : decide (s.size ≤ a) = true := decide_eq_true (by omega)
        have hd3 : s.size ≤ a := by omega
        go_wp2_with (first | (((with_reducible refine at_load 3 ?_)); refine wpList_load_H rfl 3 _ rfl (Try.isAgg3) _ _ rfl H (.head _) _ rfl ?_) | (((with_reducible refine at_load 9 ?_)); refine wpList_load_H rfl 9 _ rfl (Try.isAgg9) _ _ rfl H (.head _) _ rfl ?_))
        try simp only [List.append_eq, List.cons_append, List.nil_append, Act.put, List.setIfInBounds_toArray, List.set_cons_zero, List.set_cons_succ]
        refine wp_region_held (S := Has [(b9, [.int .i64 11, .int .i64 (i : Int)], 32)]) (by kernel_rfl) ?_
        replace H := H.drew1
        refine wpAnyH_takeD (i := 0) (d := 64) rfl rfl (by kernel_rfl) (by kernel_rfl) (by kernel_rfl) (fun _ _ _ h => h) (yields_loads rfl 32 _ rfl (Try.isAgg32) 2 (Try.sizeOf32) b9 rfl _ _ (.head _) rfl) (H.has _ (fun _ hx => by obtain rfl := List.mem_singleton.1 hx; exact (.tail _ (.head _)))) ?_
        simp only [Act.put, List.setIfInBounds_toArray, List.set_cons_zero, List.set_cons_succ]
        refine wpAnyH_takeD (i := 1) (d := 6) rfl rfl (by kernel_rfl) (by kernel_rfl) (by kernel_rfl) (fun _ _ _ h => h) (yields_any (.string ⟨#[]⟩) rfl (fun w => by go_simp)) (H.has _ (fun _ hx => by obtain rfl := List.mem_singleton.1 hx; exact (.tail _ (.head _)))) ?_
        simp only [Act.put, List.setIfInBounds_toArray, List.set_cons_zero, List.set_cons_succ]
        refine wpAnyH_takeD (i := 2) (d := 7) rfl rfl (by kernel_rfl) (by kernel_rfl) (by kernel_rfl) (fun _ _ _ h => h) (yields_any (.int .i64 0) rfl (fun w => by go_simp)) (H.has _ (fun _ hx => by obtain rfl := List.mem_singleton.1 hx; exact (.tail _ (.head _)))) ?_
        simp only [Act.put, List.setIfInBounds_toArray, List.set_cons_zero, List.set_cons_succ]
        refine wpAnyH_all (rs := [3]) (by kernel_rfl) (by decide) (fun i hi => ?_)
        obtain rfl := List.mem_singleton.1 hi; clear hi
        refine wpOp_store_H rfl rfl 32 _ _ rfl b8 0 rfl _ rfl (Try.sizeOf32) rfl (A := [_, _]) H (Nat.le_of_ble_eq_true rfl) _ rfl rfl ?_
        intro w2 H2; replace H := H2; clear H2; refine ⟨(H.has _ (fun _ hx => by obtain rfl := List.mem_singleton.1 hx; exact (.tail _ (.head _)))), ?_⟩
        refine wpAnyH_done (by kernel_rfl) ?_ _
        try simp only [List.append_eq, List.cons_append, List.nil_append, Act.put, List.setIfInBounds_toArray, List.set_cons_zero, List.set_cons_succ]
        go_wp2_with fail
        refine bodyPost_ret (Read_fin _ _ _ _ _ _ rfl rfl rfl H (.tail _ (.tail _ (.head _))) rfl) rfl ?_
        exact ReadR.late has ⟨rfl, H.below⟩
      case pos =>
        have hix := index_at s a has
        rw [dif_pos has] at hR1
        by_cases h34 : s[a] = 34
        · rw [if_pos h34] at hR1
          obtain rfl := Option.some.inj hR1
          clear hR1 hk hl ha
          have hne : ((s[a].toNat : Int) != 34) = false := by rw [h34]; rfl
          generalize s[a] = c at hix hne h34
          have hd1 : decide (a < s.size) = true := decide_eq_true has
          have hd2 : decide (s.size ≤ a) = false := decide_eq_false (by omega)
          go_wp2_with (first | (((with_reducible refine at_load 3 ?_)); refine wpList_load_H rfl 3 _ rfl (Try.isAgg3) _ _ rfl H (.head _) _ rfl ?_) | (((with_reducible refine at_load 9 ?_)); refine wpList_load_H rfl 9 _ rfl (Try.isAgg9) _ _ rfl H (.head _) _ rfl ?_))
          have hKp : Keeps w [(b9, [.int .i64 11, .int .i64 (i : Int)], 32), (b8, [.int .i64 0, .int .i64 0], 32)] b10 RdT [.int .i64 v, .string s, .int .i64 (a : Int)] [.int .i64 0, .int .i64 0] p buf l wr := ⟨H, ho⟩
          have hcS := fun (w' : World) (hb : Keeps w [(b9, [.int .i64 11, .int .i64 (i : Int)], 32), (b8, [.int .i64 0, .int .i64 0], 32)] b10 RdT [.int .i64 v, .string s, .int .i64 (a : Int)] [.int .i64 0, .int .i64 0] p buf l w') => Bld.keep (k := 3) hb ty rfl
          try simp only [List.append_eq, List.cons_append, List.nil_append, Act.put, List.setIfInBounds_toArray, List.set_cons_zero, List.set_cons_succ]
          refine wp_region_tail_K 12 hKp (by kernel_rfl) (by kernel_rfl) ?_
          simp only [List.take_succ_cons, List.take_zero, List.drop_succ_cons, List.drop_zero]
          have hqB := quiet_K hKp
          repeat (first | (((with_reducible refine at_qload 3 ?_)); refine wpQuiet_load_K rfl 3 _ rfl (Try.isAgg3) _ _ rfl (.head _) _ rfl ?_; try simp only [Act.put, List.setIfInBounds_toArray, List.set_cons_zero, List.set_cons_succ]) | (go_big_quiet_step ((intro hbq; exact hcS _ hbq))))
          refine wpQuiet_nil ?_
          intro wq hb
          clear H ho hqB hcS hKp hp
          have H := hb.H
          clear hb
          simp only [List.cons_append, List.nil_append] at H
          go_wp2_with ((with_reducible refine at_store 32 ?_); refine wpList_store_H rfl 32 _ _ rfl _ _ rfl _ rfl (Try.sizeOf32) rfl (A := [_, _]) H (Nat.le_of_ble_eq_true rfl) _ rfl ?_; intro w2 H2 hg2; replace H := H2; clear H2 hg2)
          exact bodyPost_ret (Read_fin _ _ _ _ _ _ rfl rfl rfl H (.tail _ (.tail _ (.head _))) rfl) rfl (ReadR.text has ⟨rfl, H.below⟩)
        · rw [if_neg h34] at hR1
          have hne : ((s[a].toNat : Int) != 34) = true := by
            rw [bne_iff_ne]
            intro h
            exact h34 (UInt8.toNat_inj.1 (by have : s[a].toNat = 34 := by omega
                                             rw [this]; rfl))
          have hR2 := Lib.hid hR1
          clear hR1
          have hl' := hl.out
          have hpart := fun w' h => part_post (w0 := w) (w := w') (L := [(b9, [.int .i64 11, .int .i64 (i : Int)], 32), (b8, [.int .i64 0, .int .i64 0], 32)]) (b := b10) (v := v) (at_ := a) (l := l) (code := 0) (off := 0) A has (by omega) h
          have hd1 : decide (a < s.size) = true := decide_eq_true has
          clear hl' h34
          generalize s[a] = c at hix hne
          cases hpr : partR v s F a l with
          | go a' l' =>
            have hR3 : readL v s F k1 a' l' = some R := by have := hR2.out; rw [hpr] at this; exact this
            have HR := Lib.hid hR3
            clear hR3 hR2
            rw [hpr] at hpart
            have hle := partR_le A has hpr
            have hl2 := hl.out
            have Ha := Lib.hid (show a' ≤ s.size from hle.2.1)
            have Hl := Lib.hid (show l'.length ≤ 4 * a' by omega)
            clear hle hl2 hpr ha hl
            go_wp2_with (first | (((with_reducible refine at_load 3 ?_)); refine wpList_load_H rfl 3 _ rfl (Try.isAgg3) _ _ rfl H (.head _) _ rfl ?_) | (((with_reducible refine at_load 9 ?_)); refine wpList_load_H rfl 9 _ rfl (Try.isAgg9) _ _ rfl H (.head _) _ rfl ?_))
            refine (hpart _ (RD.shut H hp ho ty)).mono ?_
            rintro e w' ⟨rfl, hRD⟩
            clear H ho hp hpart
            go_wp2
            go_roundg k1
            case measure => have := hk.out; omega
            case rel => exact ⟨a', l', Ha, Hl, HR, Lib.hid (by have := hk.out; omega), hRD⟩
          | bad c2 o =>
            have hR3 : some (Res.bad c2 o) = some R := by have := hR2.out; rw [hpr] at this; exact this
            obtain rfl := Option.some.inj hR3
            clear hR3 hR2
            rw [hpr] at hpart
            clear hpr ha hl
            go_wp2_with (first | (((with_reducible refine at_load 3 ?_)); refine wpList_load_H rfl 3 _ rfl (Try.isAgg3) _ _ rfl H (.head _) _ rfl ?_) | (((with_reducible refine at_load 9 ?_)); refine wpList_load_H rfl 9 _ rfl (Try.isAgg9) _ _ rfl H (.head _) _ rfl ?_))
            refine (hpart _ (RD.shut H hp ho ty)).mono ?_
            rintro e w' ⟨rfl, a', l', hRD⟩
            clear H ho hp hpart hix hne
            obtain ⟨p, buf, H, hp, ho, _⟩ := RD.opened hRD
            clear hRD
            go_wp2
            try simp only [List.append_eq, List.cons_append, List.nil_append, Act.put, List.setIfInBounds_toArray, List.set_cons_zero, List.set_cons_succ]
            refine wp_region_held (S := Has [(b10, [.int .i64 v, .string s, .int .i64 a', p, buf, .int .i64 c2, .int .i64 o], RdT)]) (by kernel_rfl) ?_
            replace H := H.drew1
            refine wpAnyH_takeD (i := 0) (d := 53) rfl rfl (by kernel_rfl) (by kernel_rfl) (by kernel_rfl) (fun _ _ _ h => h) (yields_any (.pointer (some ⟨b10, 0, none⟩)) rfl (fun w => by go_simp)) (H.has _ (fun _ hx => by obtain rfl := List.mem_singleton.1 hx; exact .head _)) ?_
            simp only [Act.put, List.setIfInBounds_toArray, List.set_cons_zero, List.set_cons_succ]
            refine wpAnyH_takeD (i := 1) (d := 54) rfl rfl (by kernel_rfl) (by kernel_rfl) (by kernel_rfl) (fun _ _ _ h => h) (yields_any (.pointer (some ⟨b10, 0, none⟩)) rfl (fun w => by go_simp)) (H.has _ (fun _ hx => by obtain rfl := List.mem_singleton.1 hx; exact .head _)) ?_
            simp only [Act.put, List.setIfInBounds_toArray, List.set_cons_zero, List.set_cons_succ]
            refine wpAnyH_takeD (i := 2) (d := 55) rfl rfl (by kernel_rfl) (by kernel_rfl) (by kernel_rfl) (fun _ _ _ h => h) (yields_any (.pointer (some ⟨b10, 5, none⟩)) rfl (fun w => by go_simp)) (H.has _ (fun _ hx => by obtain rfl := List.mem_singleton.1 hx; exact .head _)) ?_
            simp only [Act.put, List.setIfInBounds_toArray, List.set_cons_zero, List.set_cons_succ]
            refine wpAnyH_takeD (i := 3) (d := 56) rfl rfl (by kernel_rfl) (by kernel_rfl) (by kernel_rfl) (fun _ _ _ h => h) (yields_loadsAt rfl 32 _ rfl (Try.isAgg32) 2 (Try.sizeOf32) b10 5 rfl _ _ (.head _) (Nat.le_of_ble_eq_true rfl) [.int .i64 c2, .int .i64 o] rfl) (H.has _ (fun _ hx => by obtain rfl := List.mem_singleton.1 hx; exact .head _)) ?_
            simp only [Act.put, List.setIfInBounds_toArray, List.set_cons_zero, List.set_cons_succ]
            refine wpAnyH_takeD (i := 4) (d := 6) rfl rfl (by kernel_rfl) (by kernel_rfl) (by kernel_rfl) (fun _ _ _ h => h) (yields_any (.string ⟨#[]⟩) rfl (fun w => by go_simp)) (H.has _ (fun _ hx => by obtain rfl := List.mem_singleton.1 hx; exact .head _)) ?_
            simp only [Act.put, List.setIfInBounds_toArray, List.set_cons_zero, List.set_cons_succ]
            refine wpAnyH_takeD (i := 5) (d := 7) rfl rfl (by kernel_rfl) (by kernel_rfl) (by kernel_rfl) (fun _ _ _ h => h) (yields_any (.int .i64 0) rfl (fun w => by go_simp)) (H.has _ (fun _ hx => by obtain rfl := List.mem_singleton.1 hx; exact .head _)) ?_
            simp only [Act.put, List.setIfInBounds_toArray, List.set_cons_zero, List.set_cons_succ]
            refine wpAnyH_all (rs := [6]) (by kernel_rfl) (by decide) (fun i hi => ?_)
            obtain rfl := List.mem_singleton.1 hi; clear hi
            refine wpOp_store_H rfl rfl 32 _ _ rfl b8 0 rfl _ rfl (Try.sizeOf32) rfl (A := [_, _]) H (Nat.le_of_ble_eq_true rfl) _ rfl rfl ?_
            intro w2 H2; replace H := H2; clear H2; refine ⟨(H.has _ (fun _ hx => by obtain rfl := List.mem_singleton.1 hx; exact .head _)), ?_⟩
            refine wpAnyH_done (by kernel_rfl) ?_ _
            try simp only [List.append_eq, List.cons_append, List.nil_append, Act.put, List.setIfInBounds_toArray, List.set_cons_zero, List.set_cons_succ]
            go_wp2_with fail
            exact bodyPost_ret (Read_fin _ _ _ _ _ _ rfl rfl rfl H (.tail _ (.tail _ (.head _))) rfl) rfl ⟨rfl, H.below⟩

end Go.Proofs.Ytgbnbjajaaggkaa.Q
