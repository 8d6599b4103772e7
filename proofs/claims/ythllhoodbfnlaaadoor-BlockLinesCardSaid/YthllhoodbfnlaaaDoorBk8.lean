/- Block texts: where a text stops, its end, plain heads. Conditions: none. -/
import Derived.Test.YthllhoodbfnlaaaDoorBk7
namespace Go.Mini
open Go Go.RowKit Go.Proofs
set_option maxRecDepth 100000
set_option linter.unusedVariables false
set_option linter.unusedSimpArgs false

section
variable {v : Int} {s : ByteArray} {i : Int} {l r w : List UInt8} {c : UInt8}
theorem says_at (h : Sat s i (w ++ r)) (hw : nb w) : ∃ q, saysL s i (endI v s i) (endI v s i + brkI v s (endI v s i)) = w ++ q ∧ w.length ≤ endI v s i - i := by
  have h0 := h.1
  have he1 := endI_ge v s i
  have he2 := endI_le v (s := s) (i := i) h0 h.2.1
  have hb1 := brkI_nn v s (endI v s i)
  have hb2 := brkI_len v (s := s) (i := endI v s i) (by omega) he2
  have hok : okLn s i (endI v s i) (endI v s i + brkI v s (endI v s i)) = true := okLn_iff.2 ⟨h0, he1, by omega, hb2⟩
  have he := h.eol (v := v)
  rw [eol_app hw] at he
  refine ⟨r.take (Go.Mini.eol (decide (v = 11)) r), ?_, by omega⟩
  · unfold saysL
    rw [if_pos hok, h.2.2, he, show (i + ((w.length + Go.Mini.eol (decide (v = 11)) r : Nat) : Int)).toNat - i.toNat = w.length + Go.Mini.eol (decide (v = 11)) r from by omega, List.take_length_add_append]
/-- A line that is indented less ends a text. -/
theorem stop_less {d k : Nat} {m : Int} (h : Sat s i (List.replicate d 32 ++ c :: r)) (hc : nb [c]) (h1 : c ≠ 32) (hd : d < m) : mineN s m (aftF v s (k + 1) i) = 0 := by
  have hl := h.len
  simp only [List.length_append, List.length_replicate, List.length_cons] at hl
  have h' : Sat s i ((List.replicate d 32 ++ [c]) ++ r) := by simpa using h
  obtain ⟨q, hq, hlen⟩ := says_at (v := v) h' (nb_app (nb_rep d) hc)
  have hi : indI s i (endI v s i) (endI v s i + brkI v s (endI v s i)) = d := by
    unfold indI
    rw [hq, List.append_assoc, spc_rep]
    rw [List.singleton_append, spc, if_neg h1]
  simp only [List.length_append, List.length_replicate, List.length_singleton] at hlen
  rw [aftF, if_neg (by omega), mineN]
  have ho : outB s m ⟨i, endI v s i, endI v s i + brkI v s (endI v s i)⟩ = true := by
    unfold outB spcI
    dsimp only
    rw [hi, decide_eq_false (by omega : ¬ ((d : Nat) : Int) = endI v s i - i), decide_eq_true (by omega : ((d : Nat) : Int) < m)]
    simp
  rw [ho]; rfl
theorem mrk_is (hw : w = [45, 45, 45] ∨ w = [46, 46, 46]) : 0 < mrkL w ∧ spc w = 0 ∧ w.length = 3 ∧ nb w := by
  rcases hw with rfl | rfl
  · exact ⟨by decide, by decide, rfl, fun c hc => by simp at hc; subst hc; decide⟩
  · exact ⟨by decide, by decide, rfl, fun c hc => by simp at hc; subst hc; decide⟩
/-- A marker ends a text. -/
theorem stop_mark {k : Nat} (h : Sat s i (w ++ 10 :: r)) (hw : w = [45, 45, 45] ∨ w = [46, 46, 46]) : mineN s 0 (aftF v s (k + 1) i) = 0 := by
  obtain ⟨h1, h2, h3, h4⟩ := mrk_is hw
  have hl := h.len
  simp only [List.length_append, List.length_cons] at hl
  have he := end_line (v := v) h h4
  have hb := brk_line (v := v) h
  rw [aftF, if_neg (by omega), he, hb, mineN]
  have ho : outB s 0 ⟨i, i + w.length, i + w.length + 1⟩ = true := by
    unfold outB
    dsimp only
    rw [spc_line h, mrk_line h, decide_eq_false (by omega : ¬ spc w = w.length), decide_eq_true h1]
    simp
  rw [ho]; rfl
theorem chop_snoc (l : List UInt8) (c : UInt8) : chopL (l ++ [c]) = if c = 10 then chopL l else l ++ [c] := by
  unfold chopL
  rw [List.reverse_append, List.reverse_singleton, List.singleton_append, List.dropWhile_cons]
  by_cases h : c = 10
  · rw [if_pos h]; simp [h]
  · rw [if_neg h]; simp [h]
theorem chop_nl (l : List UInt8) (n : Nat) : chopL (l ++ List.replicate n 10) = chopL l := by
  induction n with
  | zero => simp
  | succ n ih => rw [List.replicate_succ', ← List.append_assoc, chop_snoc, if_pos rfl, ih]
theorem let_snoc (x : List UInt8) : ∃ u c, letL x = u ++ [c] ∧ c ≠ 10 := by
  have hne : letL x ≠ [] := by simp [letL]
  refine ⟨(letL x).dropLast, (letL x).getLast hne, (List.dropLast_concat_getLast hne).symm, ?_⟩
  exact (nb_let (letL_let x) _ (List.getLast_mem hne)).2.1
theorem chop_let (u x : List UInt8) : chopL (u ++ letL x) = u ++ letL x := by
  obtain ⟨w, c, e, hc⟩ := let_snoc x
  rw [e, ← List.append_assoc, chop_snoc, if_neg hc]
theorem let_ne (x : List UInt8) : letL x ≠ [] := by simp [letL]
theorem spc_let (x : List UInt8) : spc (letL x) = 0 := by simp [letL, spc]
theorem mrk_pad (d : Nat) (x : List UInt8) : mrkL (List.replicate d 32 ++ letL x) = 0 := by
  cases d with
  | zero => exact mrk_no (by simp [letL]) (by simp [letL])
  | succ d => exact mrk_no (by simp [List.replicate_succ]) (by simp [List.replicate_succ])
theorem spc_pad (d : Nat) (x : List UInt8) : spc (List.replicate d 32 ++ letL x) = d := spc_rep d (spc_let x)
theorem nb_pad (d : Nat) (x : List UInt8) : nb (List.replicate d 32 ++ letL x) := nb_app (nb_rep d) (nb_let (letL_let x))
theorem fits_pad (d : Nat) (x : List UInt8) : fits d (List.replicate d 32 ++ letL x) := .inr ⟨by rw [spc_pad]; omega, fun _ => mrk_pad d x⟩
theorem drop_pad (d : Nat) (x : List UInt8) : (List.replicate d 32 ++ letL x).drop d = letL x := List.drop_left' (by simp)
theorem bg_plain (h : Sat s 0 (124 :: 10 :: r)) : bgI v s 0 = ⟨false, 0, 0, 1, 1, 2, true⟩ := by
  have := bg_at (v := v) (b := []) (w := []) h (.inl rfl) (sg_stop (k := 2) (d := 0) (e := 0) h.step (.inr (.inl (by decide))) (.inr (by decide))) (by simpa using h.step) rfl nb_nil (by simp [bls, isBl])
  rw [this]
  simp
/-- Behind a plain head: the column is told by the first line. -/
theorem rd_plain {S W : List (List UInt8)} {p m : Int} {q : List Ln} (h : Sat s 0 (124 :: 10 :: (catL (S ++ w :: W) ++ r))) (hL : aftI v s 2 = mkL 2 (S ++ w :: W) ++ q) (hS : ∀ u ∈ S, spc u = u.length ∧ (u.length : Int) ≤ m) (h1 : (spc w : Int) = m) (h2 : spc w < w.length) (h3 : p < m) (h4 : mrkL w = 0) (hW : ∀ w' ∈ S ++ w :: W, fits m w') (hq : mineN s m q = 0) :
    rdI v s 0 p = .ok (endL (catL ((S ++ w :: W).map (List.drop m.toNat))) 0, lstW m 1 2 (S ++ w :: W), 2 + (catL (S ++ w :: W)).length) := by
  have hb := bg_plain (v := v) h
  have h2' : Sat s 2 (catL (S ++ w :: W) ++ r) := h.step.step
  have hL' : rdL v s 0 = mkL (bgI v s 0).n (S ++ w :: W) ++ q := by unfold rdL; rw [hb]; exact hL
  have hM : rdM v s 0 p = (m, -1) := by
    unfold rdM
    rw [if_pos (by rw [hb]), hL', hb]
    exact bnd_lines h2' hS h1 h2 h3 h4
  have := rd_ok (r := r) (by rw [hb]) hL' hM (by omega) (by rw [hb]; exact h2') hW hq
  rw [this, hb]
  rfl
end
/-! ### BlockEnds -/
theorem ends_less (v : Int) (m : Nat) (x R : List UInt8) (hm : 1 ≤ m) : rdI v (strOf (124 :: 10 :: (List.replicate m 32 ++ (letL x ++ (10 :: (List.replicate (m - 1) 32 ++ 120 :: R)))))) 0 (-1) = .ok (letL x ++ [10], 2 + m + (letL x).length, 3 + m + (letL x).length) := by
  have h : Sat (strOf (124 :: 10 :: (List.replicate m 32 ++ (letL x ++ (10 :: (List.replicate (m - 1) 32 ++ 120 :: R)))))) 0 (124 :: 10 :: (catL ([] ++ (List.replicate m 32 ++ letL x) :: []) ++ (List.replicate (m - 1) 32 ++ 120 :: R))) := by
    have := Sat.start (124 :: 10 :: (List.replicate m 32 ++ (letL x ++ (10 :: (List.replicate (m - 1) 32 ++ 120 :: R)))))
    simpa [catL] using this
  have h2 := h.step.step
  obtain ⟨k, hk⟩ := aft_rest (v := v) h2 (fun w hw => by simp at hw; subst hw; exact nb_pad m x)
  have := rd_plain (v := v) (p := -1) (m := m) h hk (fun u hu => by cases hu) (by rw [spc_pad]) (by rw [spc_pad, List.length_append, List.length_replicate, letL_len]; omega) (by omega) (mrk_pad m x) (fun w hw => by simp at hw; subst hw; exact fits_pad m x) (stop_less h2.app (fun c hc => by simp at hc; subst hc; decide) (by decide) (by omega))
  rw [this]
  simp only [List.nil_append, List.map_cons, List.map_nil, catL, Int.toNat_natCast, drop_pad, lstW, List.length_append, List.length_replicate, List.length_cons, List.length_nil, if_neg (let_ne x)]
  simp only [Except.ok.injEq, Prod.mk.injEq]
  refine ⟨?_, ?_, ?_⟩
  · unfold endL
    have e := chop_let [] x
    rw [List.nil_append] at e
    rw [if_neg (by decide), chop_snoc, if_pos rfl, e, if_neg]
    rintro (h | h | h)
    · exact absurd h (by decide)
    · have := congrArg List.length h; simp at this
    · exact let_ne x h
  · omega
  · omega
theorem end_let (x : List UInt8) : endL (letL x ++ [10]) 0 = letL x ++ [10] := by
  unfold endL
  have e := chop_let [] x
  rw [List.nil_append] at e
  rw [if_neg (by decide), chop_snoc, if_pos rfl, e, if_neg]
  rintro (h | h | h)
  · exact absurd h (by decide)
  · have := congrArg List.length h; simp at this
  · exact let_ne x h
theorem ends_mark (v : Int) (M x R : List UInt8) (hM : M = [45, 45, 45] ∨ M = [46, 46, 46]) : rdI v (strOf (124 :: 10 :: (letL x ++ (10 :: (M ++ (10 :: R)))))) 0 (-1) = .ok (letL x ++ [10], 2 + (letL x).length, 3 + (letL x).length) := by
  have h : Sat (strOf (124 :: 10 :: (letL x ++ (10 :: (M ++ (10 :: R)))))) 0 (124 :: 10 :: (catL ([] ++ letL x :: []) ++ (M ++ 10 :: R))) := by
    have := Sat.start (124 :: 10 :: (letL x ++ (10 :: (M ++ (10 :: R)))))
    simpa [catL] using this
  have h2 := h.step.step
  have hf := fits_pad 0 x
  have hm := mrk_pad 0 x
  rw [List.replicate_zero, List.nil_append] at hf hm
  obtain ⟨k, hk⟩ := aft_rest (v := v) h2 (fun w hw => by simp at hw; subst hw; exact nb_let (letL_let x))
  have := rd_plain (v := v) (p := -1) (m := 0) h hk (fun u hu => by cases hu) (by rw [spc_let]; rfl) (by rw [spc_let, letL_len]; omega) (by omega) hm (fun w hw => by simp at hw; subst hw; exact hf) (stop_mark h2.app hM)
  rw [this]
  simp only [List.nil_append, List.map_cons, List.map_nil, catL, Int.toNat_zero, List.drop_zero, lstW, List.length_append, List.length_replicate, List.length_cons, List.length_nil, if_neg (let_ne x), end_let]
  simp only [Except.ok.injEq, Prod.mk.injEq]
  refine ⟨trivial, ?_, ?_⟩
  · first | trivial | omega
  · omega
theorem ends_more (v : Int) (m : Nat) (M x : List UInt8) (hm : 1 ≤ m) (hM : M = [45, 45, 45] ∨ M = [46, 46, 46]) : rdI v (strOf (124 :: 10 :: (List.replicate m 32 ++ (letL x ++ (10 :: (List.replicate m 32 ++ (M ++ [10]))))))) 0 (-1) = .ok (letL x ++ (10 :: (M ++ [10])), 6 + 2 * m + (letL x).length, 7 + 2 * m + (letL x).length) := by
  obtain ⟨k1, k2, k3, k4⟩ := mrk_is hM
  have h : Sat (strOf (124 :: 10 :: (List.replicate m 32 ++ (letL x ++ (10 :: (List.replicate m 32 ++ (M ++ [10]))))))) 0 (124 :: 10 :: (catL ([] ++ (List.replicate m 32 ++ letL x) :: [List.replicate m 32 ++ M]) ++ [])) := by
    have := Sat.start (124 :: 10 :: (List.replicate m 32 ++ (letL x ++ (10 :: (List.replicate m 32 ++ (M ++ [10]))))))
    simpa [catL] using this
  have h2 := h.step.step
  have hk : aftI v (strOf (124 :: 10 :: (List.replicate m 32 ++ (letL x ++ (10 :: (List.replicate m 32 ++ (M ++ [10]))))))) 2 = mkL 2 ([] ++ (List.replicate m 32 ++ letL x) :: [List.replicate m 32 ++ M]) ++ [] := by
    rw [List.append_nil]
    refine aft_all (by rw [List.append_nil] at h2; exact h2) (fun w hw => ?_)
    simp at hw
    rcases hw with rfl | rfl
    · exact nb_pad m x
    · exact nb_app (nb_rep m) k4
  have := rd_plain (v := v) (p := -1) (m := m) h hk (fun u hu => by cases hu) (by rw [spc_pad]) (by rw [spc_pad, List.length_append, List.length_replicate, letL_len]; omega) (by omega) (mrk_pad m x) (fun w hw => by
    simp at hw
    rcases hw with rfl | rfl
    · exact fits_pad m x
    · exact .inr ⟨by rw [spc_rep m k2]; omega, fun e => by omega⟩) rfl
  rw [this]
  have hd : (List.replicate m 32 ++ M).drop m = M := List.drop_left' (by simp)
  have hne : M ≠ [] := by rintro rfl; simp at k3
  have hc : ∃ u c, M = u ++ [c] ∧ c ≠ 10 := by
    rcases hM with rfl | rfl
    · exact ⟨[45, 45], 45, rfl, by decide⟩
    · exact ⟨[46, 46], 46, rfl, by decide⟩
  simp only [List.nil_append, List.map_cons, List.map_nil, catL, Int.toNat_natCast, drop_pad, hd, lstW, List.length_append, List.length_replicate, List.length_cons, List.length_nil, if_neg (let_ne x), if_neg hne]
  simp only [Except.ok.injEq, Prod.mk.injEq]
  refine ⟨?_, ?_, ?_⟩
  · obtain ⟨u, c, e, hc⟩ := hc
    have e2 : letL x ++ 10 :: (M ++ [10]) = (letL x ++ (10 :: u)) ++ [c] ++ [10] := by rw [e]; simp
    unfold endL
    rw [if_neg (by decide), e2, chop_snoc, if_pos rfl, chop_snoc, if_neg hc, if_neg]
    rintro (h | h | h)
    · exact absurd h (by decide)
    · have := congrArg List.length h; simp at this
    · simp at h
  · omega
  · omega
end Go.Mini
