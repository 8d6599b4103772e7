/- Plain texts of letters: lines are folded. Conditions: none. -/
import Derived.Test.YtcdkcdapbadkaaaDoorFold20
namespace Go.Mini
open Go Go.RowKit Go.Proofs
set_option maxRecDepth 100000
set_option linter.unusedVariables false
set_option linter.unusedSimpArgs false

section
variable {v p : Int} {s : ByteArray} {i : Int} {c : UInt8} {l r w : List UInt8}
/-- What stands between two lines: n blank lines, d spaces. -/
def gapT (n d : Nat) : List UInt8 := 32 :: 10 :: ((List.replicate n [9, 10]).flatten ++ List.replicate d 32)
def gapW (n : Nat) : List UInt8 := if n = 0 then [32] else List.replicate n 10
theorem gapW_eq (n : Nat) : foldedL ((n : Int) + 1) = gapW n := by
  unfold foldedL gapW
  by_cases h : n = 0
  · subst h; rfl
  · rw [if_neg (by omega), if_neg h, show ((n : Int) + 1 - 1).toNat = n from by omega]
theorem bls_rep (d : Nat) (hl : bls l = 0) : bls (List.replicate d 32 ++ l) = d := by
  induction d with
  | zero => simpa using hl
  | succ d ih => rw [List.replicate_succ, List.cons_append, bls, if_pos (by decide), ih]
theorem spc_rep (d : Nat) (hl : spc l = 0) : spc (List.replicate d 32 ++ l) = d := by
  induction d with
  | zero => simpa using hl
  | succ d ih => rw [List.replicate_succ, List.cons_append, spc, if_pos rfl, ih]
theorem eol_app {old : Bool} : ∀ {w : List UInt8}, (∀ c ∈ w, c ≠ 13 ∧ c ≠ 10 ∧ c ≠ 194 ∧ c ≠ 226) → Go.Mini.eol old (w ++ r) = w.length + Go.Mini.eol old r
  | [], h => by simp
  | c :: w, h => by
    obtain ⟨h1, h2, h3, h4⟩ := h c (List.mem_cons_self ..)
    rw [List.cons_append, Go.Mini.eol, brkL_no h1 h2 h3 h4, if_neg (by omega), eol_app (fun d hd => h d (List.mem_cons_of_mem _ hd)), List.length_cons]; omega
theorem let_nb (hw : w.all isLet = true) : ∀ c ∈ w, c ≠ 13 ∧ c ≠ 10 ∧ c ≠ 194 ∧ c ≠ 226 := fun c hc => by
  obtain ⟨h1, h2, h3, h4, _⟩ := okc_ne (flow := false) (let_okc (List.all_eq_true.1 hw c hc))
  exact ⟨h1, h2, h3, h4⟩
/-- A line of letters behind spaces: deeper than p, no mark. -/
theorem says_at {n : Nat} (h : Sat s i (w ++ r)) (hw : ∀ c ∈ w, c ≠ 13 ∧ c ≠ 10 ∧ c ≠ 194 ∧ c ≠ 226) : ∃ q, saysL s i (endI v s i) (nxtI v s i) = w ++ q := by
  have hok : okLn s i (endI v s i) (nxtI v s i) = true := okLn_iff.2 ⟨h.1, endI_ge v s i, by unfold nxtI; have := brkI_nn v s (endI v s i); omega, nxtI_le v h.1 h.2.1⟩
  have he := h.eol (v := v)
  rw [eol_app hw] at he
  have h0 := h.1
  unfold saysL
  rw [if_pos hok, h.2.2, he, show (i + ((w.length + Go.Mini.eol (decide (v = 11)) r : Nat) : Int)).toNat - i.toNat = w.length + Go.Mini.eol (decide (v = 11)) r from by omega, List.take_length_add_append]
  exact ⟨_, rfl⟩
theorem text_line {d : Nat} {k : Nat} {n : Int} (h : Sat s i (List.replicate d 32 ++ (w ++ r))) (hw : w.all isLet = true) (h0 : w ≠ []) (hd : p < d) : onF v s p (k + 1) i n = (i + d, n) := by
  rcases w with _ | ⟨c, w⟩
  · exact absurd rfl h0
  have hc : isLet c = true := List.all_eq_true.1 hw c (List.mem_cons_self ..)
  obtain ⟨h1, h2, h3, h4, h5, h6, h7, h8⟩ := okc_ne (flow := false) (let_okc hc)
  obtain ⟨_, _, k1, k2, k3, k4, k5⟩ := isLet_ok hc
  have hbl : bls (c :: w ++ r) = 0 := by rw [List.cons_append, bls, if_neg (by rw [h7]; decide)]
  have hov : overI s i = i + d := by rw [h.over, bls_rep d hbl]
  have hby : byteAt s (i + d).toNat = c := by
    have := h.app; rw [List.length_replicate] at this
    exact Sat.byte (l := w ++ r) this
  have hlt : i < s.size := by have := h.len; simp only [List.length_append, List.length_cons] at this; omega
  obtain ⟨q, hq⟩ := says_at (v := v) (n := 0) (w := List.replicate d 32 ++ c :: w) (by simpa using h) (fun b hb => by
    rcases List.mem_append.1 hb with hb | hb
    · rw [(List.mem_replicate.1 hb).2]; decide
    · exact let_nb hw b hb)
  have hsp : spc (saysL s i (endI v s i) (nxtI v s i)) = d := by
    rw [hq, List.append_assoc, spc_rep]
    rw [List.cons_append, spc, if_neg k5]
  have hbn : blnI s i (endI v s i) (nxtI v s i) = false := by
    unfold blnI; rw [hq]
    simp [h7]
  have hmk : mrkI s i (endI v s i) (nxtI v s i) = 0 := by
    unfold mrkI mrkL; rw [hq]
    have hp1 : ∀ m : UInt8, m ≠ 32 → m ≠ c → List.isPrefixOf [m, m, m] (List.replicate d 32 ++ c :: w ++ q) = false := fun m hm hm2 => by
      cases d with
      | zero => simp [List.isPrefixOf, hm2]
      | succ d => simp [List.replicate_succ, List.isPrefixOf, hm]
    rw [hp1 45 (by decide) (fun e => k3 e.symm), hp1 46 (by decide) (fun e => k4 e.symm)]
    simp
  rw [onF, if_neg (by omega), if_neg (by rw [hbn]; decide), if_neg, hov]
  unfold refuse indI
  rw [hsp, hmk, hov, hby, decide_eq_false (by omega : ¬ ((d : Nat) : Int) ≤ p), decide_eq_false h6, decide_eq_false h5]
  simp
theorem blank_line {k : Nat} {n : Int} (h : Sat s i (9 :: 10 :: l)) : onF v s p (k + 1) i n = onF v s p k (i + 2) (n + 1) := by
  have hlt := h.lt
  have he : endI v s i = i + 1 := by rw [h.eol]; simp [Go.Mini.eol, brkL]
  have hb : brkI v s (i + 1) = 1 := by rw [h.step.brk]; simp [brkL]
  have hn : nxtI v s i = i + 2 := by unfold nxtI; rw [he, hb]; omega
  have hl := h.len
  simp only [List.length_cons] at hl
  have h0 := h.1
  have hbn : blnI s i (endI v s i) (nxtI v s i) = true := by
    unfold blnI saysL
    rw [he, hn]
    have hok : okLn s i (i + 1) (i + 2) = true := okLn_iff.2 ⟨h.1, by omega, by omega, by omega⟩
    rw [hok, if_pos rfl, h.2.2, show (i + 1).toNat - i.toNat = 1 from by omega]
    simp [isBl]
  rw [onF, if_neg (by omega), if_pos hbn, hn]
theorem gap_lines : ∀ {g : Nat} {d k : Nat} {i n : Int}, Sat s i ((List.replicate g [9, 10]).flatten ++ (List.replicate d 32 ++ (w ++ r))) → w.all isLet = true → w ≠ [] → p < d → g < k → onF v s p k i n = (i + 2 * g + d, n + g)
  | 0, d, k, i, n, h, hw, h0, hd, hk => by
    obtain ⟨k, rfl⟩ : ∃ k', k = k' + 1 := ⟨k - 1, by omega⟩
    rw [text_line (by simpa using h) hw h0 hd]
    simp
  | g + 1, d, k, i, n, h, hw, h0, hd, hk => by
    obtain ⟨k, rfl⟩ : ∃ k', k = k' + 1 := ⟨k - 1, by omega⟩
    have h' : Sat s i (9 :: 10 :: ((List.replicate g [9, 10]).flatten ++ (List.replicate d 32 ++ (w ++ r)))) := by simpa [List.replicate_succ] using h
    rw [blank_line h', gap_lines (i := i + 2) (by have := h'.step.step; rwa [show i + 1 + 1 = i + 2 from by omega] at this) hw h0 hd (by omega)]
    refine Prod.ext ?_ ?_ <;> simp only <;> omega
/-- From a part's end on to the next line's text. -/
theorem on_gap {g d : Nat} (h : Sat s i (gapT g d ++ (w ++ r))) (hw : w.all isLet = true) (h0 : w ≠ []) (hd : p < d) : onI v s i p = (i + (gapT g d).length, (g : Int)) := by
  have h' : Sat s i (32 :: 10 :: ((List.replicate g [9, 10]).flatten ++ (List.replicate d 32 ++ (w ++ r)))) := by simpa [gapT] using h
  have hl := h'.len
  have hov : overI s i = i + 1 := by rw [h'.over]; simp [bls, isBl]
  have hb : brkI v s (i + 1) = 1 := by rw [h'.step.brk]; simp [brkL]
  have he : endI v s (i + 1) = i + 1 := by rw [h'.step.eol]; simp [Go.Mini.eol, brkL]
  have hg : (gapT g d).length = 2 + 2 * g + d := by simp [gapT]; omega
  have hg2 : ((List.replicate g [(9 : UInt8), 10]).flatten).length = 2 * g := by simp; omega
  have h0' := h'.1
  simp only [List.length_cons, List.length_append] at hl
  rw [hg2] at hl
  unfold onI
  rw [hov, he, if_neg (by omega), show nxtI v s (i + 1) = i + 2 from by unfold nxtI; rw [he, hb]; omega, gap_lines (by have := h'.step.step; rwa [show i + 1 + 1 = i + 2 from by omega] at this) hw h0 hd (by omega), hg]
  refine Prod.ext ?_ ?_ <;> simp only <;> omega
/-- What stands behind a part: the part ends. -/
def Shut (v : Int) (r : List UInt8) : Prop := ∀ (s : ByteArray) (i : Int), Sat s i r → endsJ v s false i i = i
/-- No line follows. -/
def Last (v p : Int) (r : List UInt8) : Prop := ∀ (s : ByteArray) (i : Int), Sat s i r → (onI v s i p).1 < 0
theorem stopE_brk (h : Sat s i (10 :: l)) : stopE v s false i = true := by
  unfold stopE; rw [h.brk]; simp [brkL]
theorem shut_nil : Shut v [] := fun s i h => endsJ_end h
theorem shut_brk : Shut v (10 :: l) := fun s i h => endsJ_stop (stopE_brk h)
theorem shut_sbrk : Shut v (32 :: 10 :: l) := fun s i h => by rw [space h, endsJ_stop (stopE_brk h.step)]
theorem shut_note : Shut v (32 :: 35 :: l) := fun s i h => by
  rw [space h, endsJ_stop]
  unfold stopE remI
  rw [h.step.byte, show i + 1 - 1 = i from by omega, h.blank, decide_eq_true h.step.1]
  simp [isBl]
theorem onF_end {k : Nat} {n : Int} (h : s.size ≤ i) : (onF v s p k i n).1 < 0 := by
  cases k with
  | zero => simp [onF]
  | succ k => rw [onF, if_pos h]; simp
theorem last_nil : Last v p [] := fun s i h => by
  have hl := h.len
  simp only [List.length_nil] at hl
  have hov : overI s i = i := by rw [h.over]; simp [bls]
  have he : endI v s i = i := by rw [h.eol]; simp [Go.Mini.eol]
  have hn := nxtI_ge v s i
  unfold onI
  rw [hov, he, if_neg (by omega)]
  exact onF_end (by omega)
theorem last_note : Last v p (32 :: 35 :: l) := fun s i h => by
  have hov : overI s i = i + 1 := by rw [h.over]; simp [bls, isBl]
  have he : endI v s (i + 1) = i + 1 + (Go.Mini.eol (decide (v = 11)) l + 1 : Nat) := by
    rw [h.step.eol, Go.Mini.eol, brkL_no (by decide) (by decide) (by decide) (by decide)]; simp
  unfold onI
  rw [hov, he, if_pos (by omega)]
  simp
theorem on_brk (h : Sat s i (10 :: l)) : onI v s i p = onF v s p (s.size + 1) (i + 1) 0 := by
  have hov : overI s i = i := by rw [h.over]; simp [bls, isBl]
  have he : endI v s i = i := by rw [h.eol]; simp [Go.Mini.eol, brkL]
  have hb : brkI v s i = 1 := by rw [h.brk]; simp [brkL]
  unfold onI
  rw [hov, he, if_neg (by omega), show nxtI v s i = i + 1 from by unfold nxtI; rw [he, hb]]
theorem last_mark : Last v p [10, 46, 46, 46, 10] := fun s i h => by
  rw [on_brk h]
  have h2 := h.step
  obtain ⟨q, hq⟩ := says_at (v := v) (n := 0) (w := [46, 46, 46]) (r := [10]) h2 (by decide)
  have he : endI v s (i + 1) = i + 1 + 3 := by rw [h2.eol]; simp [Go.Mini.eol, brkL]
  have hlt := h2.lt
  have hok : okLn s (i + 1) (endI v s (i + 1)) (nxtI v s (i + 1)) = true := okLn_iff.2 ⟨h2.1, endI_ge v s _, by unfold nxtI; have := brkI_nn v s (endI v s (i + 1)); omega, nxtI_le v h2.1 h2.2.1⟩
  have hsy : saysL s (i + 1) (endI v s (i + 1)) (nxtI v s (i + 1)) = [46, 46, 46] := by
    have h0 := h2.1
    unfold saysL
    rw [if_pos hok, h2.2.2, he, show (i + 1 + 3).toNat - (i + 1).toNat = 3 from by omega]
    rfl
  rw [onF, if_neg (by omega), if_neg, if_pos]
  · simp
  · unfold refuse mrkI
    rw [hsy]
    simp [mrkL, List.isPrefixOf]
  · unfold blnI; rw [hsy, hok]; decide
theorem last_remark : Last v p (10 :: 35 :: l) := fun s i h => by
  rw [on_brk h]
  have h2 := h.step
  obtain ⟨q, hq⟩ := says_at (v := v) (n := 0) (w := [35]) (r := l) h2 (by decide)
  have hlt := h2.lt
  have hok : okLn s (i + 1) (endI v s (i + 1)) (nxtI v s (i + 1)) = true := okLn_iff.2 ⟨h2.1, endI_ge v s _, by unfold nxtI; have := brkI_nn v s (endI v s (i + 1)); omega, nxtI_le v h2.1 h2.2.1⟩
  have hov : overI s (i + 1) = i + 1 := by rw [h2.over]; simp [bls, isBl]
  rw [onF, if_neg (by omega), if_neg, if_pos]
  · simp
  · unfold refuse
    rw [hov, h2.byte]
    simp
  · unfold blnI; rw [hq, hok]
    simp [isBl]

/-- Lines, each with what stands ahead of it. -/
def itT (l : List (Nat × Nat × List UInt8)) : List UInt8 := (l.map fun x => gapT x.1 x.2.1 ++ x.2.2).flatten
def itW (l : List (Nat × Nat × List UInt8)) : List UInt8 := (l.map fun x => gapW x.1 ++ x.2.2).flatten
def itOk (p : Int) (l : List (Nat × Nat × List UInt8)) : Prop := ∀ x ∈ l, p < (x.2.1 : Int) ∧ x.2.2.all isLet = true ∧ x.2.2 ≠ []
theorem shut_it {l : List (Nat × Nat × List UInt8)} (hr : Shut v r) : Shut v (itT l ++ r) := by
  cases l with
  | nil => simpa [itT] using hr
  | cons x l => simpa [itT, gapT] using shut_sbrk
theorem plF_it (hr : Shut v r) (hl : Last v p r) : ∀ {l : List (Nat × Nat × List UInt8)} {k : Nat} {i : Int}, Sat s i (itT l ++ r) → itOk p l → l.length < k → plF v s p k i = (itW l, i + (itT l).length)
  | [], k, i, h, ho, hk => by
    obtain ⟨k, rfl⟩ : ∃ k', k = k' + 1 := ⟨k - 1, by simp at hk; omega⟩
    rw [plF, if_pos (hl s i (by simpa [itT] using h))]
    simp [itT, itW]
  | x :: l, k, i, h, ho, hk => by
    obtain ⟨k, rfl⟩ : ∃ k', k = k' + 1 := ⟨k - 1, by simp at hk; omega⟩
    obtain ⟨q1, q2, q3⟩ := ho x (List.mem_cons_self ..)
    have h' : Sat s i (gapT x.1 x.2.1 ++ (x.2.2 ++ (itT l ++ r))) := by simpa [itT] using h
    have hon := on_gap (v := v) h' q2 q3 q1
    have h2 := h'.app
    have he : endsI v s (i + (gapT x.1 x.2.1).length) false = i + (gapT x.1 x.2.1).length + x.2.2.length := by
      have := sweep_let (v := v) (flow := false) (e := i + (gapT x.1 x.2.1).length) h2 q2 q3
      rw [show endsI v s (i + (gapT x.1 x.2.1).length) false = endsJ v s false (i + (gapT x.1 x.2.1).length) (i + (gapT x.1 x.2.1).length) from rfl, this]
      exact shut_it hr _ _ h2.app
    have h0 := h2.1
    rw [plF, hon, if_neg (by dsimp only; omega)]
    dsimp only
    rw [he, h2.take, gapW_eq, plF_it hr hl h2.app (fun y hy => ho y (List.mem_cons_of_mem _ hy)) (by simp at hk; omega)]
    refine Prod.ext ?_ ?_
    · simp [itW]
    · simp [itT]; omega
/-- The whole text. -/
theorem plain_it {w0 : List UInt8} {l : List (Nat × Nat × List UInt8)} (hr : Shut v r) (hl : Last v p r) (hw : w0.all isLet = true) (h0 : w0 ≠ []) (ho : itOk p l) : plainI v (strOf (w0 ++ itT l ++ r)) 0 p = (w0 ++ itW l, ((w0 ++ itT l).length : Int)) := by
  have h : Sat (strOf (w0 ++ itT l ++ r)) 0 (w0 ++ (itT l ++ r)) := by simpa using Sat.start (w0 ++ itT l ++ r)
  have hp : partI v (strOf (w0 ++ itT l ++ r)) 0 false = 0 + w0.length := by
    rw [part_let h hw h0]; exact shut_it hr _ _ h.app
  have hlen : l.length ≤ (itT l).length := by
    clear h hp ho
    induction l with
    | nil => simp
    | cons x l ih => simp [itT, gapT] at ih ⊢; omega
  unfold plainI
  rw [hp, if_neg (by omega), h.take, plF_it hr hl h.app ho (by rw [strOf_size]; simp only [List.length_append]; omega)]
  refine Prod.ext rfl ?_
  simp
end
end Go.Mini
