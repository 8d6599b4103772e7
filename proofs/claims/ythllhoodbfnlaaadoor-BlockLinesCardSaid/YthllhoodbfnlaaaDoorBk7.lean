/- Block texts, told by their lines. Conditions: none. -/
import Derived.Test.YthllhoodbfnlaaaDoorBk6
import Derived.Test.YthllhoodbfnlaaaDoorSat0
namespace Go.Mini
open Go Go.RowKit Go.Proofs
set_option maxRecDepth 100000
set_option linter.unusedVariables false
set_option linter.unusedSimpArgs false

section
variable {v : Int} {s : ByteArray} {i : Int} {l r w : List UInt8} {c : UInt8}
def isLet (c : UInt8) : Bool := decide (97 ≤ c.toNat) && decide (c.toNat ≤ 122)
theorem isLet_all (P : UInt8 → Bool) (hP : (List.range 26).all (fun k => P (UInt8.ofNat (97 + k))) = true) (h : isLet c = true) : P c = true := by
  unfold isLet at h
  simp only [Bool.and_eq_true, decide_eq_true_eq] at h
  have := List.all_eq_true.1 hP (c.toNat - 97) (List.mem_range.2 (by omega))
  rwa [show 97 + (c.toNat - 97) = c.toNat from by omega, UInt8.ofNat_toNat] at this
def letL (l : List UInt8) : List UInt8 := 113 :: l.map fun b => UInt8.ofNat (97 + b.toNat % 26)
theorem letL_len (l : List UInt8) : (letL l).length = l.length + 1 := by simp [letL]
theorem letL_let (l : List UInt8) : (letL l).all isLet = true := by
  unfold letL
  rw [List.all_cons, show isLet 113 = true from rfl, Bool.true_and, List.all_eq_true]
  intro c hc
  obtain ⟨b, _, rfl⟩ := List.mem_map.1 hc
  unfold isLet
  rw [UInt8.toNat_ofNat']
  simp only [Bool.and_eq_true, decide_eq_true_eq]
  omega
/-- No byte of a break. -/
def nb (w : List UInt8) : Prop := ∀ c ∈ w, c ≠ 13 ∧ c ≠ 10 ∧ c ≠ 194 ∧ c ≠ 226
theorem nb_nil : nb [] := fun c hc => by cases hc
theorem nb_app {u w : List UInt8} (hu : nb u) (hw : nb w) : nb (u ++ w) := fun c hc => by
  rcases List.mem_append.1 hc with h | h
  · exact hu c h
  · exact hw c h
theorem nb_rep (n : Nat) : nb (List.replicate n 32) := fun c hc => by rw [(List.mem_replicate.1 hc).2]; decide
theorem nb_let (hw : w.all isLet = true) : nb w := fun c hc => by
  have h := isLet_all (c := c) (fun c => !(c == 13) && !(c == 10) && !(c == 194) && !(c == 226)) (by decide) (List.all_eq_true.1 hw c hc)
  simpa [and_assoc] using h
theorem eol_app {old : Bool} : ∀ {w : List UInt8}, nb w → Go.Mini.eol old (w ++ r) = w.length + Go.Mini.eol old r
  | [], h => by simp
  | c :: w, h => by
    obtain ⟨h1, h2, h3, h4⟩ := h c (List.mem_cons_self ..)
    have hb : brkL old (c :: (w ++ r)) = 0 := by unfold brkL; simp [h1, h2, h3, h4]
    rw [List.cons_append, Go.Mini.eol, hb, if_neg (by omega), eol_app (fun d hd => h d (List.mem_cons_of_mem _ hd)), List.length_cons]; omega
theorem spc_rep (d : Nat) (hl : spc l = 0) : spc (List.replicate d 32 ++ l) = d := by
  induction d with
  | zero => simpa using hl
  | succ d ih => rw [List.replicate_succ, List.cons_append, spc, if_pos rfl, ih]
theorem end_line (h : Sat s i (w ++ 10 :: r)) (hw : nb w) : endI v s i = i + w.length := by
  rw [h.eol, eol_app hw, Go.Mini.eol]
  simp [brkL]
theorem brk_line (h : Sat s i (w ++ 10 :: r)) : brkI v s (i + w.length) = 1 := by
  rw [h.app.brk]; simp [brkL]
theorem says_line (h : Sat s i (w ++ 10 :: r)) : saysL s i (i + w.length) (i + w.length + 1) = w := by
  have hl := h.len
  simp only [List.length_append, List.length_cons] at hl
  have h0 := h.1
  unfold saysL
  rw [if_pos (okLn_iff.2 ⟨h0, by omega, by omega, by omega⟩), h.2.2, show (i + (w.length : Int)).toNat - i.toNat = w.length from by omega, List.take_left']
  rfl
def catL : List (List UInt8) → List UInt8
  | [] => []
  | w :: W => w ++ 10 :: catL W
theorem catL_app : ∀ U W : List (List UInt8), catL (U ++ W) = catL U ++ catL W
  | [], W => rfl
  | u :: U, W => by rw [List.cons_append, catL, catL, catL_app U W]; simp
def mkL : Int → List (List UInt8) → List Ln
  | _, [] => []
  | i, w :: W => ⟨i, i + w.length, i + w.length + 1⟩ :: mkL (i + w.length + 1) W
theorem mkL_len : ∀ (i : Int) (W : List (List UInt8)), (mkL i W).length = W.length
  | i, [] => rfl
  | i, w :: W => by rw [mkL, List.length_cons, mkL_len, List.length_cons]
theorem mkL_app : ∀ (i : Int) (U W : List (List UInt8)), mkL i (U ++ W) = mkL i U ++ mkL (i + (catL U).length) W
  | i, [], W => by simp [mkL, catL]
  | i, u :: U, W => by
    rw [List.cons_append, mkL, mkL, mkL_app, catL, List.cons_append, List.length_append, List.length_cons]
    congr 3
    omega
theorem cat_cons {W : List (List UInt8)} (h : Sat s i (catL (w :: W) ++ r)) : Sat s i (w ++ 10 :: (catL W ++ r)) ∧ Sat s (i + w.length + 1) (catL W ++ r) := by
  have h' : Sat s i (w ++ 10 :: (catL W ++ r)) := by simpa [catL] using h
  exact ⟨h', h'.app.step⟩
theorem aft_lines : ∀ (W : List (List UInt8)) {i : Int} {k : Nat}, Sat s i (catL W ++ r) → (∀ w ∈ W, nb w) → aftF v s (k + W.length) i = mkL i W ++ aftF v s k (i + (catL W).length)
  | [], i, k, h, hw => by simp [mkL, catL]
  | w :: W, i, k, h, hw => by
    obtain ⟨h1, h2⟩ := cat_cons h
    have he := end_line (v := v) h1 (hw w (List.mem_cons_self ..))
    have hb := brk_line (v := v) h1
    have hl := h1.len
    simp only [List.length_append, List.length_cons] at hl
    rw [List.length_cons, show k + (W.length + 1) = (k + W.length) + 1 from by omega, aftF, if_neg (by omega), he, hb, mkL, List.cons_append, aft_lines W h2 (fun u hu => hw u (List.mem_cons_of_mem _ hu)), catL, List.length_append, List.length_cons]
    congr 3
    omega
theorem aft_end (k : Nat) (h : Sat s i []) : aftF v s k i = [] := by
  cases k with
  | zero => rfl
  | succ k => rw [aftF, if_pos (by have := h.len; simp at this; omega)]
/-- All the lines of a text. -/
theorem aft_all {W : List (List UInt8)} (h : Sat s i (catL W)) (hw : ∀ w ∈ W, nb w) : aftI v s i = mkL i W := by
  have h' : Sat s i (catL W ++ []) := by simpa using h
  have hc : W.length ≤ (catL W).length := by
    clear h h' hw
    induction W with
    | nil => exact Nat.le_refl _
    | cons w W ih => rw [catL, List.length_append, List.length_cons, List.length_cons]; omega
  have hl := h.len
  have h0 := h.1
  unfold aftI
  rw [show s.size + 1 = (s.size + 1 - W.length) + W.length from by omega, aft_lines W h' hw, aft_end _ h'.app, List.append_nil]
/-- Lines of a text, and what is behind. -/
theorem aft_rest {W : List (List UInt8)} (h : Sat s i (catL W ++ r)) (hw : ∀ w ∈ W, nb w) : ∃ k, aftI v s i = mkL i W ++ aftF v s (k + 1) (i + (catL W).length) := by
  have hc : W.length ≤ (catL W).length := by
    clear h hw
    induction W with
    | nil => exact Nat.le_refl _
    | cons w W ih => rw [catL, List.length_append, List.length_cons, List.length_cons]; omega
  have hl := h.len
  have h0 := h.1
  rw [List.length_append] at hl
  refine ⟨s.size - W.length, ?_⟩
  unfold aftI
  rw [show s.size + 1 = (s.size - W.length + 1) + W.length from by omega, aft_lines W h hw]
theorem ind_line (h : Sat s i (w ++ 10 :: r)) : indI s i (i + w.length) (i + w.length + 1) = spc w := by unfold indI; rw [says_line h]
theorem mrk_line (h : Sat s i (w ++ 10 :: r)) : mrkI s i (i + w.length) (i + w.length + 1) = mrkL w := by unfold mrkI; rw [says_line h]
theorem spc_line (h : Sat s i (w ++ 10 :: r)) : spcI s i (i + w.length) (i + w.length + 1) = decide (spc w = w.length) := by
  unfold spcI; rw [ind_line h, Bool.eq_iff_iff, decide_eq_true_eq, decide_eq_true_eq]; omega
/-- A line that is a text's: spaces alone, or as deep, and no mark at the left. -/
def fits (m : Int) (w : List UInt8) : Prop := spc w = w.length ∨ (m ≤ spc w ∧ (m = 0 → mrkL w = 0))
theorem mine_lines {m : Int} {q : List Ln} (hm : 0 ≤ m) : ∀ (W : List (List UInt8)) {i : Int}, Sat s i (catL W ++ r) → (∀ w ∈ W, fits m w) → mineN s m (mkL i W ++ q) = W.length + mineN s m q
  | [], i, h, hw => by simp [mkL]
  | w :: W, i, h, hw => by
    obtain ⟨h1, h2⟩ := cat_cons h
    have ho : outB s m ⟨i, i + w.length, i + w.length + 1⟩ = false := by
      unfold outB
      dsimp only
      rw [spc_line h1, ind_line h1, mrk_line h1]
      rcases hw w (List.mem_cons_self ..) with h | ⟨h, h'⟩
      · rw [decide_eq_true h]; rfl
      · rw [decide_eq_false (by omega : ¬ m < 0), decide_eq_false (by omega : ¬ ((spc w : Nat) : Int) < m)]
        by_cases e : m = 0
        · rw [h' e]; simp
        · simp [e]
    rw [mkL, List.cons_append, mineN, ho, mine_lines hm W h2 (fun u hu => hw u (List.mem_cons_of_mem _ hu)), List.length_cons]
    simp only [Bool.false_eq_true, if_false]
    omega
def rwOf (m : Int) (w : List UInt8) : Rw := ⟨w.drop m.toNat, true⟩
theorem told_line {m : Int} (hm : 0 ≤ m) (h : Sat s i (w ++ 10 :: r)) : toldR s m ⟨i, i + w.length, i + w.length + 1⟩ = rwOf m w := by
  have h0 := h.1
  unfold toldR rwOf cutL
  dsimp only
  rw [if_neg (by omega), decide_eq_true (by omega)]
  congr 1
  by_cases hc : m.toNat ≤ w.length
  · rw [show min (i + m) (i + (w.length : Int)) = i + m from by omega, show (i + m).toNat = i.toNat + m.toNat from by omega, ← List.drop_drop, h.2.2, show (i + (w.length : Int) - (i + m)).toNat = w.length - m.toNat from by omega, List.drop_append_of_le_length hc, List.take_left']
    rw [List.length_drop]
  · rw [show min (i + m) (i + (w.length : Int)) = i + w.length from by omega, show (i + (w.length : Int) - (i + (w.length : Int))).toNat = 0 from by omega, List.take_zero, List.drop_eq_nil_of_le (by omega)]
theorem told_lines {m : Int} (hm : 0 ≤ m) : ∀ (W : List (List UInt8)) {i : Int}, Sat s i (catL W ++ r) → (mkL i W).map (toldR s m) = W.map (rwOf m)
  | [], i, h => rfl
  | w :: W, i, h => by
    obtain ⟨h1, h2⟩ := cat_cons h
    rw [mkL, List.map_cons, told_line hm h1, told_lines hm W h2, List.map_cons]
def lstW (m : Int) : Int → Int → List (List UInt8) → Int
  | e, _, [] => e
  | e, i, w :: W => lstW m (if w.drop m.toNat = [] then e else i + w.length) (i + w.length + 1) W
theorem lst_lines {m : Int} (hm : 0 ≤ m) : ∀ (W : List (List UInt8)) {i e : Int}, Sat s i (catL W ++ r) → lstE s m e (mkL i W) = lstW m e i W
  | [], i, e, h => rfl
  | w :: W, i, e, h => by
    obtain ⟨h1, h2⟩ := cat_cons h
    rw [mkL, lstE, told_line hm h1, lst_lines hm W h2, lstW]
    rfl
theorem nxt_lines : ∀ (W : List (List UInt8)) (i : Int), nxtE i (mkL i W) = i + (catL W).length
  | [], i => by simp [mkL, nxtE, catL]
  | w :: W, i => by rw [mkL, nxtE, nxt_lines W, catL, List.length_append, List.length_cons]; dsimp only; omega
theorem pln_lines {m : Int} : ∀ W : List (List UInt8), plnL (W.map (rwOf m)) = catL (W.map (List.drop m.toNat))
  | [] => rfl
  | w :: W => by rw [List.map_cons, plnL, pln_lines W, List.map_cons, catL]; rfl
theorem spcN_lines {x : Ln} {q : List Ln} (hx : spcI s x.a x.e x.n = false) : ∀ (S : List (List UInt8)) {i : Int}, Sat s i (catL S ++ r) → (∀ w ∈ S, spc w = w.length) → spcN s (mkL i S ++ x :: q) = S.length
  | [], i, h, hs => by rw [mkL, List.nil_append, spcN, hx]; rfl
  | w :: W, i, h, hs => by
    obtain ⟨h1, h2⟩ := cat_cons h
    rw [mkL, List.cons_append, spcN, spc_line h1, decide_eq_true (hs w (List.mem_cons_self ..)), if_pos rfl, spcN_lines hx W h2 (fun u hu => hs u (List.mem_cons_of_mem _ hu)), List.length_cons]
theorem badF_lines {m : Int} : ∀ (S : List (List UInt8)) {i : Int}, Sat s i (catL S ++ r) → (∀ w ∈ S, (spc w : Int) ≤ m) → badF s m (mkL i S) = none
  | [], i, h, hs => rfl
  | w :: W, i, h, hs => by
    obtain ⟨h1, h2⟩ := cat_cons h
    have := hs w (List.mem_cons_self ..)
    rw [mkL, badF, ind_line h1, if_neg (by omega), badF_lines W h2 (fun u hu => hs u (List.mem_cons_of_mem _ hu))]
/-- The column of a text, by its first line that says something. -/
theorem bnd_lines {S W : List (List UInt8)} {p m : Int} {q : List Ln} (h : Sat s i (catL (S ++ w :: W) ++ r)) (hS : ∀ u ∈ S, spc u = u.length ∧ (u.length : Int) ≤ m) (h1 : (spc w : Int) = m) (h2 : spc w < w.length) (h3 : p < m) (h4 : mrkL w = 0) : bndI s (mkL i (S ++ w :: W) ++ q) p = (m, -1) := by
  have hS1 : Sat s i (catL S ++ (catL (w :: W) ++ r)) := by rw [catL_app] at h; simpa using h
  obtain ⟨k1, k2⟩ := cat_cons hS1.app
  have hx := spc_line k1
  rw [decide_eq_false (by omega)] at hx
  have hn := spcN_lines (q := mkL (i + (catL S).length + w.length + 1) W ++ q) (x := ⟨i + (catL S).length, i + (catL S).length + w.length, i + (catL S).length + w.length + 1⟩) hx S hS1 (fun u hu => (hS u hu).1)
  unfold bndI
  rw [mkL_app, mkL, List.append_assoc, List.cons_append, hn, List.drop_left' (mkL_len _ _), List.take_left' (mkL_len _ _)]
  dsimp only
  rw [ind_line k1, mrk_line k1, h4, if_neg (by omega), h1, badF_lines S hS1 (fun u hu => by have := hS u hu; omega)]
theorem mrk_no (h1 : w.head? ≠ some 45) (h2 : w.head? ≠ some 46) : mrkL w = 0 := by
  have hp : ∀ m : UInt8, w.head? ≠ some m → List.isPrefixOf [m, m, m] w = false := fun m hm => by
    cases w with
    | nil => rfl
    | cons c w =>
      have : (m == c) = false := by
        rw [beq_eq_false_iff_ne]; intro e; exact hm (by rw [e]; rfl)
      simp [List.isPrefixOf, this]
  unfold mrkL
  rw [hp 45 h1, hp 46 h2]
  simp
/-- What is read at a text that is laid so. -/
theorem rd_ok {p m : Int} {W : List (List UInt8)} {q : List Ln} (hok : (bgI v s i).ok = true) (hL : rdL v s i = mkL (bgI v s i).n W ++ q) (hM : rdM v s i p = (m, -1)) (hm : 0 ≤ m) (hs : Sat s (bgI v s i).n (catL W ++ r)) (hW : ∀ w ∈ W, fits m w) (hq : mineN s m q = 0) :
    rdI v s i p = .ok (endL (if (bgI v s i).f = true then foldT (W.map (rwOf m)) else catL (W.map (List.drop m.toNat))) (bgI v s i).c, lstW m (bgI v s i).e (bgI v s i).n W, (bgI v s i).n + (catL W).length) := by
  have hK : rdK v s i p = mkL (bgI v s i).n W := by
    unfold rdK
    rw [hL, hM, mine_lines hm W hs hW, hq]
    exact List.take_left' (by rw [mkL_len]; rfl)
  have hR : rdR v s i p = W.map (rwOf m) := by
    unfold rdR; rw [hK, hM]; exact told_lines hm W hs
  unfold rdI rdT
  rw [if_neg (by rw [hok]; decide), hM, if_neg (show ¬ (0 : Int) ≤ -1 by decide), hK, hR, lst_lines hm W hs, nxt_lines, pln_lines]
/-! ### Heads -/
theorem sg_digit {k : Nat} {d : Int} (h : Sat s i (c :: l)) (h1 : 49 ≤ c.toNat) (h2 : c.toNat ≤ 57) : sgnF s (k + 1) i 0 d = sgnF s k (i + 1) (c.toNat - 48) d := by
  have := h.lt
  rw [sgnF, if_neg (by omega), h.byte, if_pos ⟨rfl, by omega, by omega⟩]
theorem sg_sign {k : Nat} {d : Int} (h : Sat s i (c :: l)) (h1 : c = 43 ∨ c = 45) : sgnF s (k + 1) i d 0 = sgnF s k (i + 1) d c.toNat := by
  have := h.lt
  have hc : c.toNat = 43 ∨ c.toNat = 45 := by rcases h1 with rfl | rfl; exact .inl rfl; exact .inr rfl
  rw [sgnF, if_neg (by omega), h.byte, if_neg (by omega), if_pos ⟨rfl, by omega⟩]
theorem sg_stop {k : Nat} {d e : Int} (h : Sat s i (c :: l)) (h1 : d ≠ 0 ∨ c.toNat < 49 ∨ 57 < c.toNat) (h2 : e ≠ 0 ∨ (c.toNat ≠ 43 ∧ c.toNat ≠ 45)) : sgnF s k i d e = (i, d, e) := by
  cases k with
  | zero => rfl
  | succ k =>
    have := h.lt
    rw [sgnF, if_neg (by omega), h.byte, if_neg (by omega), if_neg (by omega)]
theorem bls_app {b : List UInt8} (hb : b.all isBl = true) (hl : bls l = 0) : bls (b ++ l) = b.length := by
  induction b with
  | nil => simpa using hl
  | cons c b ih =>
    rw [List.all_cons, Bool.and_eq_true] at hb
    rw [List.cons_append, bls, if_pos hb.1, ih hb.2, List.length_cons]
theorem bg_at {c0 : UInt8} {j d e : Int} {b l0 : List UInt8} (h0 : Sat s 0 (c0 :: l0)) (hc : c0 = 124 ∨ c0 = 62) (hg : sgnF s 2 1 0 0 = (j, d, e)) (hj : Sat s j (b ++ (w ++ 10 :: r))) (hb : b.all isBl = true) (hw : nb w) (hn : bls (w ++ 10 :: r) = 0) :
    bgI v s 0 = ⟨decide (c0 = 62), d, e, j + b.length, j + b.length + w.length, j + b.length + w.length + 1, decide (w = []) || remI s (j + b.length)⟩ := by
  have hlt := h0.lt
  have hc' : (c0.toNat = 124 ∨ c0.toNat = 62) := by rcases hc with rfl | rfl; exact .inl rfl; exact .inr rfl
  have ho : overI s j = j + b.length := by rw [hj.over, bls_app hb hn]
  have he : endI v s (j + b.length) = j + b.length + w.length := end_line hj.app hw
  have hk : brkI v s (j + b.length + w.length) = 1 := brk_line hj.app
  unfold bgI
  rw [if_neg (by rw [h0.byte]; omega), h0.byte, show (0 : Int) + 1 = 1 from rfl, hg]
  dsimp only
  rw [ho, he, hk]
  congr 1
  · rw [Bool.eq_iff_iff, decide_eq_true_eq, decide_eq_true_eq]
    rcases hc with rfl | rfl <;> decide
  · congr 1
    rw [Bool.eq_iff_iff, decide_eq_true_eq, decide_eq_true_eq]
    constructor
    · intro h; exact List.length_eq_zero_iff.1 (by omega)
    · rintro rfl; simp
end
end Go.Mini
