/- Block texts: heads with a digit and a sign; heads that are none. Conditions: none. -/
import Derived.Test.YthllhoodbfnlaaaDoorBk8
namespace Go.Mini
open Go Go.RowKit Go.Proofs
set_option maxRecDepth 100000
set_option linter.unusedVariables false
set_option linter.unusedSimpArgs false

section
variable {v : Int} {s : ByteArray} {i : Int} {l r w : List UInt8} {c c0 sg dg : UInt8}
/-- Behind a head with a digit: the column is told by it. -/
theorem rd_digit {W : List (List UInt8)} {f : Bool} {d c a e n p m : Int} (hb : bgI v s 0 = ⟨f, d, c, a, e, n, true⟩) (hd : 0 < d) (hm : d + min (max p 0) s.size = m) (h : Sat s n (catL W)) (hnb : ∀ w ∈ W, nb w) (hW : ∀ w ∈ W, fits m w) :
    rdI v s 0 p = .ok (endL (if f = true then foldT (W.map (rwOf m)) else catL (W.map (List.drop m.toNat))) c, lstW m e n W, n + (catL W).length) := by
  have hL : rdL v s 0 = mkL (bgI v s 0).n W ++ [] := by unfold rdL; rw [hb, List.append_nil]; exact aft_all h hnb
  have hM : rdM v s 0 p = (m, -1) := by
    unfold rdM
    rw [if_neg (by rw [hb]; dsimp only; omega), hb, ← hm]
  have := rd_ok (r := []) (by rw [hb]) hL hM (by omega) (by rw [hb, List.append_nil]; exact h) hW rfl
  rw [this, hb]
theorem rd_none (h : (bgI v s i).ok = false) {p : Int} : rdI v s i p = .error (11, i) := by unfold rdI; rw [if_pos h]
def hdP (dg : UInt8) : Nat := dg.toNat - 48
abbrev hdW (dg : UInt8) (x : List UInt8) : List (List UInt8) := [List.replicate (hdP dg) 32 ++ letL x, []]
theorem hd_ok {x : List UInt8} {e n a : Int} (h1 : 49 ≤ dg.toNat) (h2 : dg.toNat ≤ 57) (hb : bgI v s 0 = ⟨decide (c0 = 62), (dg.toNat : Int) - 48, sg.toNat, a, e, n, true⟩) (hs : Sat s n (List.replicate (hdP dg) 32 ++ (letL x ++ [10, 10]))) :
    rdI v s 0 0 = .ok (endL (if decide (c0 = 62) = true then foldT ((hdW dg x).map (rwOf (hdP dg))) else catL ((hdW dg x).map (List.drop (hdP dg)))) sg.toNat, n + hdP dg + (letL x).length, n + hdP dg + (letL x).length + 2) := by
  have hsz := hs.len
  have h0 := hs.1
  have hm : (dg.toNat : Int) - 48 + min (max (0 : Int) 0) s.size = (hdP dg : Nat) := by unfold hdP; omega
  have := rd_digit (W := hdW dg x) hb (by omega) hm (by simpa [catL] using hs) (fun w hw => by
    simp at hw
    rcases hw with rfl | rfl
    · exact nb_pad _ x
    · exact nb_nil) (fun w hw => by
    simp at hw
    rcases hw with rfl | rfl
    · exact fits_pad _ x
    · exact .inl rfl)
  rw [this]
  simp only [Except.ok.injEq, Prod.mk.injEq, Int.toNat_natCast, lstW, drop_pad, if_neg (let_ne x), List.drop_nil, if_true, catL, List.length_append, List.length_replicate, List.length_cons, List.length_nil]
  refine ⟨trivial, ?_, ?_⟩
  · omega
  · omega
theorem sgn_ds (h : Sat s 0 (c0 :: dg :: sg :: l)) (hsg : sg = 43 ∨ sg = 45) (h1 : 49 ≤ dg.toNat) (h2 : dg.toNat ≤ 57) : sgnF s 2 1 0 0 = (3, (dg.toNat : Int) - 48, (sg.toNat : Int)) := by
  rw [show (1 : Int) = 0 + 1 from rfl, sg_digit h.step h1 h2, sg_sign h.step.step hsg]; rfl
theorem sgn_sd (h : Sat s 0 (c0 :: sg :: dg :: l)) (hsg : sg = 43 ∨ sg = 45) (h1 : 49 ≤ dg.toNat) (h2 : dg.toNat ≤ 57) : sgnF s 2 1 0 0 = (3, (dg.toNat : Int) - 48, (sg.toNat : Int)) := by
  rw [show (1 : Int) = 0 + 1 from rfl, sg_sign h.step hsg, sg_digit h.step.step h1 h2]; rfl
theorem hd_a (hc : c0 = 124 ∨ c0 = 62) (hsg : sg = 43 ∨ sg = 45) (h1 : 49 ≤ dg.toNat) (h2 : dg.toNat ≤ 57) (v : Int) (x : List UInt8) :
    rdI v (strOf (c0 :: dg :: sg :: 10 :: (List.replicate (hdP dg) 32 ++ (letL x ++ [10, 10])))) 0 0 = .ok (endL (if decide (c0 = 62) = true then foldT ((hdW dg x).map (rwOf (hdP dg))) else catL ((hdW dg x).map (List.drop (hdP dg)))) sg.toNat, 4 + hdP dg + (letL x).length, 4 + hdP dg + (letL x).length + 2) := by
  have h := Sat.start (c0 :: dg :: sg :: 10 :: (List.replicate (hdP dg) 32 ++ (letL x ++ [10, 10])))
  have hb := bg_at (v := v) (b := []) (w := []) h hc (sgn_ds h hsg h1 h2) h.step.step.step rfl nb_nil (by simp [bls, isBl])
  exact hd_ok (c0 := c0) h1 h2 hb h.step.step.step.step
theorem hd_b (hc : c0 = 124 ∨ c0 = 62) (hsg : sg = 43 ∨ sg = 45) (h1 : 49 ≤ dg.toNat) (h2 : dg.toNat ≤ 57) (v : Int) (x : List UInt8) :
    rdI v (strOf (c0 :: sg :: dg :: 10 :: (List.replicate (hdP dg) 32 ++ (letL x ++ [10, 10])))) 0 0 = .ok (endL (if decide (c0 = 62) = true then foldT ((hdW dg x).map (rwOf (hdP dg))) else catL ((hdW dg x).map (List.drop (hdP dg)))) sg.toNat, 4 + hdP dg + (letL x).length, 4 + hdP dg + (letL x).length + 2) := by
  have h := Sat.start (c0 :: sg :: dg :: 10 :: (List.replicate (hdP dg) 32 ++ (letL x ++ [10, 10])))
  have hb := bg_at (v := v) (b := []) (w := []) h hc (sgn_sd h hsg h1 h2) h.step.step.step rfl nb_nil (by simp [bls, isBl])
  exact hd_ok (c0 := c0) h1 h2 hb h.step.step.step.step
theorem hd_c (hc : c0 = 124 ∨ c0 = 62) (hsg : sg = 43 ∨ sg = 45) (h1 : 49 ≤ dg.toNat) (h2 : dg.toNat ≤ 57) (v : Int) (x : List UInt8) :
    rdI v (strOf (c0 :: sg :: dg :: 32 :: 9 :: 35 :: 32 :: (letL x ++ (10 :: (List.replicate (hdP dg) 32 ++ (letL x ++ [10, 10])))))) 0 0 = .ok (endL (if decide (c0 = 62) = true then foldT ((hdW dg x).map (rwOf (hdP dg))) else catL ((hdW dg x).map (List.drop (hdP dg)))) sg.toNat, 8 + (letL x).length + hdP dg + (letL x).length, 8 + (letL x).length + hdP dg + (letL x).length + 2) := by
  have h := Sat.start (c0 :: sg :: dg :: 32 :: 9 :: 35 :: 32 :: (letL x ++ (10 :: (List.replicate (hdP dg) 32 ++ (letL x ++ [10, 10])))))
  have h5 := h.step.step.step.step.step
  have hb := bg_at (v := v) (b := [32, 9]) (w := 35 :: 32 :: letL x) h hc (sgn_sd h hsg h1 h2) h.step.step.step rfl (nb_app (u := [35, 32]) (fun c hc => by simp at hc; rcases hc with rfl | rfl <;> decide) (nb_let (letL_let x))) (by simp [bls, isBl])
  have hr : remI (strOf (c0 :: sg :: dg :: 32 :: 9 :: 35 :: 32 :: (letL x ++ (10 :: (List.replicate (hdP dg) 32 ++ (letL x ++ [10, 10])))))) (3 + (([32, 9] : List UInt8).length : Int)) = true := by
    unfold remI
    rw [show (3 : Int) + (([32, 9] : List UInt8).length : Int) = 0 + 1 + 1 + 1 + 1 + 1 from rfl, h5.byte, show (0 : Int) + 1 + 1 + 1 + 1 + 1 - 1 = 0 + 1 + 1 + 1 + 1 from rfl, h.step.step.step.step.blank]
    decide
  rw [hr, Bool.or_true] at hb
  have hs := (Sat.app (w := 35 :: 32 :: letL x) h5).step
  refine (hd_ok (x := x) (c0 := c0) h1 h2 hb ?_).trans ?_
  · have e : (3 : Int) + (([32, 9] : List UInt8).length : Int) + ((35 :: 32 :: letL x : List UInt8).length : Int) + 1 = 0 + 1 + 1 + 1 + 1 + 1 + ((35 :: 32 :: letL x : List UInt8).length : Int) + 1 := by simp
    rw [e]; exact hs
  · simp only [Except.ok.injEq, Prod.mk.injEq, List.length_cons, List.length_nil]
    refine ⟨trivial, ?_, ?_⟩ <;> omega
theorem hd_bad (hc : c0 = 124 ∨ c0 = 62) {j d e : Int} {b : List UInt8} (v : Int) (h : Sat s 0 (c0 :: l)) (hg : sgnF s 2 1 0 0 = (j, d, e)) (hj : Sat s j (b ++ (c :: w ++ 10 :: r))) (hb : b.all isBl = true) (hw : nb (c :: w)) (hn : isBl c = false) (hr : c ≠ 35 ∨ (b = [] ∧ blankI s (j - 1) = false)) : rdI v s 0 0 = .error (11, 0) := by
  refine rd_none ?_
  rw [bg_at (v := v) h hc hg hj hb hw (by rw [List.cons_append, bls, if_neg (by rw [hn]; decide)])]
  dsimp only
  rw [decide_eq_false (by simp), Bool.false_or]
  unfold remI
  rcases hr with hr | ⟨rfl, hr⟩
  · have hby : byteAt s (j + b.length).toNat = c := Sat.byte hj.app
    rw [hby, decide_eq_false hr]; simp
  · rw [List.length_nil, show j + ((0 : Nat) : Int) - 1 = j - 1 from by omega, hr]; simp
theorem hd_d (hc : c0 = 124 ∨ c0 = 62) (hsg : sg = 43 ∨ sg = 45) (h1 : 49 ≤ dg.toNat) (h2 : dg.toNat ≤ 57) (v : Int) : rdI v (strOf (c0 :: sg :: dg :: 35 :: 10 :: r)) 0 0 = .error (11, 0) := by
  have h := Sat.start (c0 :: sg :: dg :: 35 :: 10 :: r)
  refine hd_bad hc (w := []) (b := []) v h (sgn_sd h hsg h1 h2) h.step.step.step rfl (fun c hc => by simp at hc; subst hc; decide) rfl (.inr ⟨rfl, ?_⟩)
  rw [show (3 : Int) - 1 = 0 + 1 + 1 from rfl, h.step.step.blank]
  unfold isBl
  rw [Bool.or_eq_false_iff]
  exact ⟨decide_eq_false (by omega), decide_eq_false (by omega)⟩
theorem hd_e (hc : c0 = 124 ∨ c0 = 62) (hsg : sg = 43 ∨ sg = 45) (v : Int) : rdI v (strOf (c0 :: sg :: sg :: 10 :: r)) 0 0 = .error (11, 0) := by
  have h := Sat.start (c0 :: sg :: sg :: 10 :: r)
  have hg : sgnF (strOf (c0 :: sg :: sg :: 10 :: r)) 2 1 0 0 = (2, 0, (sg.toNat : Int)) := by
    rw [show (1 : Int) = 0 + 1 from rfl, sg_sign h.step hsg, sg_stop h.step.step (.inr (by rcases hsg with rfl | rfl <;> decide)) (.inl (by rcases hsg with rfl | rfl <;> decide))]; rfl
  exact hd_bad hc (w := []) (b := []) v h hg h.step.step rfl (fun c hc => by simp at hc; subst hc; rcases hsg with rfl | rfl <;> decide) (by rcases hsg with rfl | rfl <;> rfl) (.inl (by rcases hsg with rfl | rfl <;> decide))
theorem hd_f (hc : c0 = 124 ∨ c0 = 62) (v : Int) : rdI v (strOf (c0 :: 48 :: 10 :: r)) 0 0 = .error (11, 0) := by
  have h := Sat.start (c0 :: 48 :: 10 :: r)
  have hg : sgnF (strOf (c0 :: 48 :: 10 :: r)) 2 1 0 0 = (1, 0, 0) := sg_stop h.step (.inr (.inl (by decide))) (.inr (by decide))
  exact hd_bad hc (w := []) (b := []) v h hg h.step rfl (fun c hc => by simp at hc; subst hc; decide) rfl (.inl (by decide))
theorem hd_g (hc : c0 = 124 ∨ c0 = 62) (v : Int) (x : List UInt8) : rdI v (strOf (c0 :: 32 :: (letL x ++ 10 :: r))) 0 0 = .error (11, 0) := by
  have h := Sat.start (c0 :: 32 :: (letL x ++ 10 :: r))
  have hg : sgnF (strOf (c0 :: 32 :: (letL x ++ 10 :: r))) 2 1 0 0 = (1, 0, 0) := sg_stop h.step (.inr (.inl (by decide))) (.inr (by decide))
  exact hd_bad hc (c := 113) (w := (letL x).tail) (b := [32]) v h hg (by exact h.step) rfl (nb_let (letL_let x)) rfl (.inl (by decide))
end
end Go.Mini
