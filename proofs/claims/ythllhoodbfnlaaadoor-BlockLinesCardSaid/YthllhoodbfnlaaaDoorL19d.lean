/- BlockLines: for every input the answer is true. No condition. -/
import Derived.Test.YthllhoodbfnlaaaDoorL19a
import Derived.Test.YthllhoodbfnlaaaDoorBk9
namespace Go.Mini
open Go Go.RowKit Go.Proofs
set_option maxRecDepth 100000
set_option linter.unusedVariables false
set_option linter.unusedSimpArgs false

def emW (m g : Nat) : List (List UInt8) := (List.range g).map fun k => List.replicate (m * k / 4) 32
theorem emW_succ (m g : Nat) : emW m (g + 1) = emW m g ++ [List.replicate (m * g / 4) 32] := by unfold emW; rw [List.range_succ, List.map_append]; rfl
theorem emW_mem {m g : Nat} {w : List UInt8} (h : w ∈ emW m g) (hg : g ≤ 3) : ∃ d, d ≤ m ∧ w = List.replicate d 32 := by
  unfold emW at h
  obtain ⟨k, hk, rfl⟩ := List.mem_map.1 h
  have := List.mem_range.1 hk
  refine ⟨m * k / 4, ?_, rfl⟩
  have : m * k ≤ m * 4 := Nat.mul_le_mul_left m (by omega)
  omega
theorem emW_len (m : Nat) : ∀ g : Nat, g ≤ 3 → (catL (emW m g)).length ≤ g * (m + 1)
  | 0, _ => by simp [emW, catL]
  | g + 1, h => by
    have ih := emW_len m g (by omega)
    have : m * g ≤ m * 4 := Nat.mul_le_mul_left m (by omega)
    rw [emW_succ, catL_app, List.length_append, Nat.add_mul, catL, catL, List.length_append, List.length_replicate, List.length_singleton]
    omega
def lnW (m : Nat) (L : List (List UInt8)) (G : List UInt8) : Nat → List (List UInt8)
  | 0 => []
  | j + 1 => lnW m L G j ++ ((List.replicate m 32 ++ letL (L.getD j [])) :: emW m ((G.getD j 0).toNat % 4))
def lnT (L : List (List UInt8)) (G : List UInt8) : Nat → List UInt8
  | 0 => []
  | j + 1 => lnT L G j ++ (letL (L.getD j []) ++ 10 :: List.replicate ((G.getD j 0).toNat % 4) 10)
def lnN (L : List (List UInt8)) (G : List UInt8) : Nat → Nat
  | 0 => 0
  | j + 1 => (lnT L G j).length + (letL (L.getD j [])).length + 1
theorem drop_em {m g : Nat} (hg : g ≤ 3) : catL ((emW m g).map (List.drop m)) = List.replicate g 10 := by
  have : ∀ W : List (List UInt8), (∀ w ∈ W, w.drop m = []) → catL (W.map (List.drop m)) = List.replicate W.length 10 := by
    intro W
    induction W with
    | nil => intro _; rfl
    | cons w W ih => intro h; rw [List.map_cons, catL, h w (List.mem_cons_self ..), ih (fun u hu => h u (List.mem_cons_of_mem _ hu)), List.length_cons, List.replicate_succ]; rfl
  rw [this _ (fun w hw => by obtain ⟨d, hd, rfl⟩ := emW_mem hw hg; simp; omega)]
  simp [emW]
theorem lnW_drop (m : Nat) (L : List (List UInt8)) (G : List UInt8) : ∀ j, catL ((lnW m L G j).map (List.drop m)) = lnT L G j
  | 0 => rfl
  | j + 1 => by rw [lnW, List.map_append, catL_app, lnW_drop m L G j, List.map_cons, catL, drop_pad, drop_em (by omega), lnT]
theorem lnW_mem (m : Nat) (L : List (List UInt8)) (G : List UInt8) : ∀ j, ∀ w ∈ lnW m L G j, fits m w ∧ nb w
  | 0, w, h => by cases h
  | j + 1, w, h => by
    rw [lnW] at h
    rcases List.mem_append.1 h with h | h
    · exact lnW_mem m L G j w h
    · rcases List.mem_cons.1 h with rfl | h
      · exact ⟨fits_pad m _, nb_pad m _⟩
      · obtain ⟨d, hd, rfl⟩ := emW_mem h (by omega)
        exact ⟨.inl (by have := spc_rep (l := []) d rfl; rw [List.append_nil] at this; rw [this, List.length_replicate]), nb_rep d⟩
theorem lnW_first (m : Nat) (L : List (List UInt8)) (G : List UInt8) : ∀ j, ∃ W, lnW m L G (j + 1) = [] ++ (List.replicate m 32 ++ letL (L.getD 0 [])) :: W
  | 0 => ⟨_, rfl⟩
  | j + 1 => by
    obtain ⟨W, hW⟩ := lnW_first m L G j
    rw [lnW, hW]
    exact ⟨_, rfl⟩
theorem ln_len (m : Nat) (L : List (List UInt8)) (G : List UInt8) (hm : m ≤ 8) : ∀ j, (∀ k, k < j → (L.getD k []).length ≤ 30) → (catL (lnW m L G j)).length ≤ 100 * j ∧ (lnT L G j).length ≤ 100 * j
  | 0, _ => by simp [lnW, lnT, catL]
  | j + 1, h => by
    obtain ⟨h1, h2⟩ := ln_len m L G hm j (fun k hk => h k (by omega))
    have h3 := h j (by omega)
    have h4 := emW_len m ((G.getD j 0).toNat % 4) (by omega)
    have h5 : ((G.getD j 0).toNat % 4) * (m + 1) ≤ 3 * 9 := Nat.mul_le_mul (by omega) (by omega)
    rw [lnW, lnT, catL_app, catL]
    simp only [List.length_append, List.length_cons, List.length_replicate, letL_len]
    omega
/-- What the sign of a head makes of the text. -/
theorem ln_end (L : List (List UInt8)) (G : List UInt8) (j : Nat) : endL (lnT L G (j + 1)) 0 = (lnT L G (j + 1)).take (lnN L G (j + 1)) ∧ endL (lnT L G (j + 1)) 45 = (lnT L G (j + 1)).take (lnN L G (j + 1) - 1) ∧ endL (lnT L G (j + 1)) 43 = lnT L G (j + 1) := by
  have e : lnT L G (j + 1) = (lnT L G j ++ letL (L.getD j [])) ++ List.replicate ((G.getD j 0).toNat % 4 + 1) 10 := by rw [lnT, List.replicate_succ, List.append_assoc]
  have hc : chopL (lnT L G (j + 1)) = lnT L G j ++ letL (L.getD j []) := by rw [e, chop_nl, chop_let]
  have hl : (lnT L G j ++ letL (L.getD j [])).length = (lnT L G j).length + (letL (L.getD j [])).length := List.length_append
  refine ⟨?_, ?_, ?_⟩
  · unfold endL
    rw [if_neg (by decide), hc, if_neg]
    · rw [e, lnN, List.replicate_succ, ← hl, List.take_append, List.take_of_length_le (by omega)]
      simp
    · rintro (h | h | h)
      · exact absurd h (by decide)
      · try rw [e] at h
        have := congrArg List.length h
        simp only [List.length_append, List.length_replicate] at this
        omega
      · have := congrArg List.length h
        rw [hl, letL_len] at this
        simp at this
  · unfold endL
    rw [if_neg (by decide), if_pos (.inl rfl), hc, e, lnN, Nat.add_sub_cancel, ← hl, List.take_left']
    rfl
  · unfold endL
    rw [if_pos rfl]
/-- What is behind the lines: nothing, or a marker. -/
def tailR (r : List UInt8) : Prop := r = [] ∨ r = [46, 46, 46, 10]
theorem ln_rd {v : Int} {s : ByteArray} {p d c a e n : Int} {m : Nat} {L : List (List UInt8)} {G r : List UInt8} {j : Nat} (hb : bgI v s 0 = ⟨false, d, c, a, e, n, true⟩) (h : Sat s n (catL (lnW m L G (j + 1)) ++ r)) (hr : tailR r) (hp : p < m) (hd : d = 0 ∨ (0 < d ∧ d + min (max p 0) s.size = m)) :
    ∃ x : Int, rdI v s 0 p = .ok (endL (lnT L G (j + 1)) c, x, n + (catL (lnW m L G (j + 1))).length) := by
  obtain ⟨W, hW⟩ := lnW_first m L G j
  obtain ⟨q, hq, hm⟩ : ∃ q, aftI v s n = mkL n (lnW m L G (j + 1)) ++ q ∧ mineN s m q = 0 := by
    rcases hr with rfl | rfl
    · exact ⟨[], by rw [List.append_nil]; exact aft_all (by simpa using h) (fun w hw => (lnW_mem m L G _ w hw).2), rfl⟩
    · obtain ⟨k, hk⟩ := aft_rest (v := v) h (fun w hw => (lnW_mem m L G _ w hw).2)
      refine ⟨_, hk, ?_⟩
      by_cases h0 : m = 0
      · obtain rfl : m = 0 := h0
        exact stop_mark (w := [46, 46, 46]) (r := []) h.app (.inr rfl)
      · exact stop_less (d := 0) (c := 46) (r := [46, 46, 10]) h.app (fun c hc => by simp at hc; subst hc; decide) (by decide) (by omega)
  have hL : rdL v s 0 = mkL (bgI v s 0).n (lnW m L G (j + 1)) ++ q := by unfold rdL; rw [hb]; exact hq
  have hM : rdM v s 0 p = ((m : Int), -1) := by
    unfold rdM
    rw [hL, hb]
    rcases hd with rfl | ⟨h1, h2⟩
    · rw [if_pos rfl, hW]
      rw [hW] at h
      exact bnd_lines (r := r) h (fun u hu => by cases hu) (by rw [spc_pad]) (by rw [spc_pad, List.length_append, List.length_replicate, letL_len]; omega) hp (mrk_pad m _)
    · rw [if_neg (by dsimp only; omega), h2]
  have := rd_ok (r := r) (by rw [hb]) hL hM (by omega) (by rw [hb]; exact h) (fun w hw => (lnW_mem m L G _ w hw).1) hm
  rw [hb] at this
  simp only [Bool.false_eq_true, if_false, Int.toNat_natCast, lnW_drop] at this
  exact ⟨_, this⟩
/-- The four heads. -/
theorem bg_s {v : Int} {s : ByteArray} {sg : UInt8} {r : List UInt8} (h : Sat s 0 (124 :: sg :: 10 :: r)) (hs : sg = 43 ∨ sg = 45) : bgI v s 0 = ⟨false, 0, sg.toNat, 2, 2, 3, true⟩ := by
  have hg : sgnF s 2 1 0 0 = (2, 0, (sg.toNat : Int)) := by
    rw [show (1 : Int) = 0 + 1 from rfl, sg_sign h.step hs, sg_stop h.step.step (.inr (.inl (by decide))) (.inr (by decide))]; rfl
  have := bg_at (v := v) (b := []) (w := []) h (.inl rfl) hg h.step.step rfl nb_nil (by simp [bls, isBl])
  rw [this]; simp
theorem bg_d {v : Int} {s : ByteArray} {dg : UInt8} {r : List UInt8} (h : Sat s 0 (124 :: dg :: 10 :: r)) (h1 : 49 ≤ dg.toNat) (h2 : dg.toNat ≤ 57) : bgI v s 0 = ⟨false, (dg.toNat : Int) - 48, 0, 2, 2, 3, true⟩ := by
  have hg : sgnF s 2 1 0 0 = (2, (dg.toNat : Int) - 48, 0) := by
    rw [show (1 : Int) = 0 + 1 from rfl, sg_digit h.step h1 h2, sg_stop h.step.step (.inr (.inl (by decide))) (.inr (by decide))]; rfl
  have := bg_at (v := v) (b := []) (w := []) h (.inl rfl) hg h.step.step rfl nb_nil (by simp [bls, isBl])
  rw [this]; simp
theorem bg_sd {v : Int} {s : ByteArray} {sg dg : UInt8} {r : List UInt8} (h : Sat s 0 (124 :: sg :: dg :: 10 :: r)) (hs : sg = 43 ∨ sg = 45) (h1 : 49 ≤ dg.toNat) (h2 : dg.toNat ≤ 57) : bgI v s 0 = ⟨false, (dg.toNat : Int) - 48, sg.toNat, 3, 3, 4, true⟩ := by
  have := bg_at (v := v) (b := []) (w := []) h (.inl rfl) (sgn_sd h hs h1 h2) h.step.step.step rfl nb_nil (by simp [bls, isBl])
  rw [this]; simp
/-- A head: its bytes, its sign, its digit (or 0). -/
def headL (c d : Nat) : List UInt8 := 124 :: ((if c = 0 then [] else [UInt8.ofNat c]) ++ (if d = 0 then [] else [UInt8.ofNat (48 + d)]))
theorem headL_len (c d : Nat) : (headL c d).length ≤ 3 := by unfold headL; split <;> split <;> simp
theorem bg_head {v : Int} {s : ByteArray} {c d : Nat} {r : List UInt8} (h : Sat s 0 (headL c d ++ 10 :: r)) (hc : c = 0 ∨ c = 43 ∨ c = 45) (hd : d ≤ 9) : ∃ a e : Int, bgI v s 0 = ⟨false, d, c, a, e, ((headL c d).length : Int) + 1, true⟩ := by
  have hdg : (UInt8.ofNat (48 + d)).toNat = 48 + d := by rw [UInt8.toNat_ofNat']; omega
  by_cases h0 : c = 0
  · subst h0
    by_cases hd0 : d = 0
    · subst hd0; exact ⟨1, 1, bg_plain h⟩
    · have h' : Sat s 0 (124 :: UInt8.ofNat (48 + d) :: 10 :: r) := by simpa [headL, hd0] using h
      refine ⟨2, 2, (bg_d h' (by omega) (by omega)).trans ?_⟩
      rw [hdg]; simp [headL, hd0]; omega
  · have hs : (UInt8.ofNat c) = 43 ∨ UInt8.ofNat c = 45 := by
      rcases hc with h | rfl | rfl
      · exact absurd h h0
      · exact .inl rfl
      · exact .inr rfl
    have hcn : (UInt8.ofNat c).toNat = c := by rw [UInt8.toNat_ofNat']; omega
    by_cases hd0 : d = 0
    · subst hd0
      have h' : Sat s 0 (124 :: UInt8.ofNat c :: 10 :: r) := by simpa [headL, h0] using h
      refine ⟨2, 2, (bg_s h' hs).trans ?_⟩
      rw [hcn]; simp [headL, h0]
    · have h' : Sat s 0 (124 :: UInt8.ofNat c :: UInt8.ofNat (48 + d) :: 10 :: r) := by simpa [headL, h0, hd0] using h
      refine ⟨3, 3, (bg_sd h' hs (by omega) (by omega)).trans ?_⟩
      rw [hdg, hcn]; simp [headL, h0, hd0]; omega
/-- What is read at such a text. -/
theorem ln_all (v : Int) {p : Int} {c d m : Nat} {L : List (List UInt8)} {G r : List UInt8} {j : Nat} (hc : c = 0 ∨ c = 43 ∨ c = 45) (hd : d ≤ 9) (hr : tailR r) (hp : p < m) (hp3 : p ≤ 3) (hdm : d = 0 ∨ (d : Int) + max p 0 = m) :
    ∃ x : Int, rdI v (strOf (headL c d ++ 10 :: (catL (lnW m L G (j + 1)) ++ r))) 0 p = .ok (endL (lnT L G (j + 1)) c, x, (headL c d).length + 1 + (catL (lnW m L G (j + 1))).length) := by
  have h := Sat.start (headL c d ++ 10 :: (catL (lnW m L G (j + 1)) ++ r))
  obtain ⟨a, e, hb⟩ := bg_head (v := v) h hc hd
  have hs : Sat (strOf (headL c d ++ 10 :: (catL (lnW m L G (j + 1)) ++ r))) ((headL c d).length + 1) (catL (lnW m L G (j + 1)) ++ r) := by
    have := h.app.step
    rwa [Int.zero_add] at this
  obtain ⟨W, hW⟩ := lnW_first m L G j
  have hsz := hs.len
  have hl : m + 1 ≤ (catL (lnW m L G (j + 1))).length := by
    rw [hW, List.nil_append, catL]; simp only [List.length_append, List.length_replicate, List.length_cons]; omega
  rw [List.length_append] at hsz
  exact ln_rd hb hs hr hp (by
    rcases hdm with h | h
    · exact .inl (by omega)
    · by_cases h0 : d = 0
      · exact .inl (by omega)
      · exact .inr ⟨by omega, by omega⟩)

abbrev txtsB (l : List (List UInt8)) : Option Blk := some ⟨9, 1, strsV l, false⟩
abbrev sgnB : Option Blk := some ⟨25, 3, [.string (ByteArray.mk #[]), .string (ByteArray.mk #[45]), .string (ByteArray.mk #[43])], true⟩
def KL : CT := (extC (extC (extC (extC (extC KQ targumlaw19_known.n targumlaw19_known.s) targumlaw19_letters.n targumlaw19_letters.s) targumref4_Text.n targumref4_Text.s) targumhelp_Version.n targumhelp_Version.s) targumhelp_Few.n targumhelp_Few.s)
theorem KL_ok : COk Tryd.prog KL := (extC_ok (extC_ok (extC_ok (extC_ok (extC_ok KQ_ok targumlaw19_known.sc targumlaw19_known.sd) targumlaw19_letters.sc targumlaw19_letters.sd) targumref4_Text.sc targumref4_Text.sd) targumhelp_Version.sc targumhelp_Version.sd) targumhelp_Few.sc targumhelp_Few.sd)
theorem KL_mono : CMono KL := (extC_mono (extC_mono (extC_mono (extC_mono (extC_mono KQ_mono targumlaw19_known.sm) targumlaw19_letters.sm) targumref4_Text.sm) targumhelp_Version.sm) targumhelp_Few.sm)
def targumlaw19_BlockLines.sp0 : LSpec := ⟨targumlaw19_BlockLines.cs0, targumlaw19_BlockLines.ts0, fun vs h K => ∃ (m k : Nat), (vs = [.int .i64 m, .string (strOf (List.replicate k 32)), .int .i64 k] ∧ (m ≤ 10 ∧ k ≤ m)) ∧ (∀ x : Int, K (.exit 0) [.int .i64 m, .string (strOf (List.replicate m 32)), .int .i64 x] h)⟩
theorem targumlaw19_BlockLines.spm0 : LSpecMono targumlaw19_BlockLines.sp0 := by
  rintro vs h K K' hk ⟨m, k, h3, h4⟩
  exact ⟨m, k, h3, fun x => hk _ _ _ (h4 x)⟩
theorem targumlaw19_BlockLines.t0 (m k : Nat) (h : Heap) (E : Env) (N : List Value → Heap → Prop) (K : LK) : mwp S0 (lt0) targumlaw19_BlockLines.l0 (lK targumlaw19_BlockLines.cs0 N K) (zipE targumlaw19_BlockLines.cs0 [.int .i64 m, .string (strOf (List.replicate k 32)), .int .i64 k] ++ E) h = (br (decide ((↑k : Int) < (↑m : Int))) ((strOf (List.replicate k (32 : UInt8))).size + (ByteArray.mk #[(32 : UInt8)]).size ≤ (9223372036854775807 : Nat) ∧ rng IntKind.i64 ((↑k : Int) + (1 : Int)) ∧ N [Value.int IntKind.i64 (↑m : Int), Value.string (strOf (List.replicate k (32 : UInt8)) ++ ByteArray.mk #[(32 : UInt8)]), Value.int IntKind.i64 ((↑k : Int) + (1 : Int))] h) (K (Exit.exit (0 : Nat)) [Value.int IntKind.i64 (↑m : Int), Value.string (strOf (List.replicate k (32 : UInt8))), Value.int IntKind.i64 (↑k : Int)] h)) := by kernel_rfl
theorem targumlaw19_BlockLines.lo0 : LOk1 Tryd.prog targumlaw19_BlockLines.nt targumlaw19_BlockLines.sp0 (.loop 0 targumlaw19_BlockLines.l0) := by
  refine loop_res (σ := Nat × Nat) S0_ok S0_mono (lt0_mono) (LS := lt0) (by simp only [targumlaw19_BlockLines.l0, LOk, and_true, true_and]) rfl rfl (fun ⟨m, k⟩ => [.int .i64 m, .string (strOf (List.replicate k 32)), .int .i64 k]) (fun ⟨m, k⟩ h => m ≤ 10 ∧ k ≤ m) (fun ⟨m, k⟩ => m - k) (fun ⟨m, k⟩ K h => ∀ x : Int, K (.exit 0) [.int .i64 m, .string (strOf (List.replicate m 32)), .int .i64 x] h) ?_ ?_
  · rintro vs h K ⟨m, k, ⟨h1, h2⟩, h3⟩
    exact ⟨⟨m, k⟩, h1, h2, h3⟩
  rintro ⟨m, k⟩ E h N K hE hp hN hK
  dsimp only at hp hN hK
  refine Eq.mpr (targumlaw19_BlockLines.t0 m k h E N K) ?_
  obtain ⟨h1, h2⟩ := hp
  refine br_intro (fun hb => ?_) (fun hb => ?_)
  · simp only [decide_eq_true_eq] at hb
    refine ⟨by rw [strOf_size, List.length_replicate]; show _ + 1 ≤ _; omega, by simp only [rng]; omega, ?_⟩
    rw [show ByteArray.mk #[(32 : UInt8)] = strOf [32] from rfl, strOf_app, ← List.replicate_succ']
    exact hN (m, k + 1) h ⟨h1, by dsimp only; omega⟩ (by dsimp only; omega) hK
  · simp only [decide_eq_false_iff_not] at hb
    obtain rfl : k = m := by omega
    exact hK _

def targumlaw19_BlockLines.N4 (L : List (List UInt8)) (G : List UInt8) (m : Nat) (a b : List UInt8) (i k : Nat) (vs : List Value) (h : Heap) : Prop := vs = [.slice (some ⟨1, 0, none⟩) G.length G.length, .int .i64 m, .string (strOf (List.replicate m 32)), .string (strOf (a ++ catL (emW m k))), .string (strOf (b ++ List.replicate k 10)), .int .i64 i, .int .i64 k] ∧ h = lit [txtsB L, seedB G, sgnB]
def targumlaw19_BlockLines.sp4 : LSpec := ⟨targumlaw19_BlockLines.cs4, targumlaw19_BlockLines.ts4, fun vs h K => ∃ (L : List (List UInt8)) (G : List UInt8) (m : Nat) (a b : List UInt8) (i k : Nat), (h.n = 3 ∧ In 3 (targumlaw19_BlockLines.N4 L G m a b i k) vs h ∧ (i < G.length ∧ i ≤ 100 ∧ m ≤ 8 ∧ k ≤ (G.getD i 0).toNat % 4 ∧ a.length ≤ 10000 ∧ b.length ≤ 10000)) ∧ (∀ k' : Int, K (.exit 4) [.slice (some ⟨1, 0, none⟩) G.length G.length, .int .i64 m, .string (strOf (List.replicate m 32)), .string (strOf (a ++ catL (emW m ((G.getD i 0).toNat % 4)))), .string (strOf (b ++ List.replicate ((G.getD i 0).toNat % 4) 10)), .int .i64 i, .int .i64 k'] (lit [txtsB L, seedB G, sgnB]))⟩
theorem targumlaw19_BlockLines.spm4 : LSpecMono targumlaw19_BlockLines.sp4 := by
  rintro vs h K K' hk ⟨L, G, m, a, b, i, k, h3, h4⟩
  exact ⟨L, G, m, a, b, i, k, h3, fun k' => hk _ _ _ (h4 k')⟩
theorem targumlaw19_BlockLines.t4 (L : List (List UInt8)) (G : List UInt8) (m : Nat) (a b : List UInt8) (i k : Nat) (E : Env) (N : List Value → Heap → Prop) (K : LK) : mwp S0 (lt0) targumlaw19_BlockLines.l4 (lK targumlaw19_BlockLines.cs4 N K) (zipE targumlaw19_BlockLines.cs4 [.slice (some ⟨1, 0, none⟩) G.length G.length, .int .i64 m, .string (strOf (List.replicate m 32)), .string (strOf (a ++ catL (emW m k))), .string (strOf (b ++ List.replicate k 10)), .int .i64 i, .int .i64 k] ++ E) (lit [txtsB L, seedB G, sgnB]) = (((0 : Int) ≤ (↑i : Int) ∧ (↑i : Int) < (↑G.length : Int)) ∧ ∃ (z : Int), List.take (1 : Nat) (List.drop ((0 : Nat) + (↑i : Int).toNat * (1 : Nat)) (byV G)) = [Value.int IntKind.u8 z] ∧ (4 : Int) ≠ (0 : Int) ∧ rng IntKind.i64 (z.tmod (4 : Int)) ∧ br (decide ((↑k : Int) < z.tmod (4 : Int))) (rng IntKind.i64 ((↑m : Int) * (↑k : Int)) ∧ (4 : Int) ≠ (0 : Int) ∧ rng IntKind.i64 (((↑m : Int) * (↑k : Int)).tdiv (4 : Int)) ∧ ((0 : Int) ≤ ((↑m : Int) * (↑k : Int)).tdiv (4 : Int) ∧ ((↑m : Int) * (↑k : Int)).tdiv (4 : Int) ≤ (↑(strOf (List.replicate m (32 : UInt8))).size : Int)) ∧ (strOf (a ++ catL (emW m k))).size + ((strOf (List.replicate m (32 : UInt8))).extract (0 : Nat) (((↑m : Int) * (↑k : Int)).tdiv (4 : Int)).toNat).size ≤ (9223372036854775807 : Nat) ∧ (strOf (a ++ catL (emW m k)) ++ (strOf (List.replicate m (32 : UInt8))).extract (0 : Nat) (((↑m : Int) * (↑k : Int)).tdiv (4 : Int)).toNat).size + (ByteArray.mk #[(10 : UInt8)]).size ≤ (9223372036854775807 : Nat) ∧ (strOf (b ++ List.replicate k (10 : UInt8))).size + (ByteArray.mk #[(10 : UInt8)]).size ≤ (9223372036854775807 : Nat) ∧ rng IntKind.i64 ((↑k : Int) + (1 : Int)) ∧ N [Value.slice (some (Addr.mk (1 : Nat) (0 : Nat) none)) G.length G.length, Value.int IntKind.i64 (↑m : Int), Value.string (strOf (List.replicate m (32 : UInt8))), Value.string (strOf (a ++ catL (emW m k)) ++ (strOf (List.replicate m (32 : UInt8))).extract (0 : Nat) (((↑m : Int) * (↑k : Int)).tdiv (4 : Int)).toNat ++ ByteArray.mk #[(10 : UInt8)]), Value.string (strOf (b ++ List.replicate k (10 : UInt8)) ++ ByteArray.mk #[(10 : UInt8)]), Value.int IntKind.i64 (↑i : Int), Value.int IntKind.i64 ((↑k : Int) + (1 : Int))] (Heap.mk (3 : Nat) [txtsB L, seedB G, sgnB])) (K (Exit.exit (4 : Nat)) [Value.slice (some (Addr.mk (1 : Nat) (0 : Nat) none)) G.length G.length, Value.int IntKind.i64 (↑m : Int), Value.string (strOf (List.replicate m (32 : UInt8))), Value.string (strOf (a ++ catL (emW m k))), Value.string (strOf (b ++ List.replicate k (10 : UInt8))), Value.int IntKind.i64 (↑i : Int), Value.int IntKind.i64 (↑k : Int)] (Heap.mk (3 : Nat) [txtsB L, seedB G, sgnB]))) := by kernel_rfl
theorem targumlaw19_BlockLines.lo4 : LOk1 Tryd.prog targumlaw19_BlockLines.nt targumlaw19_BlockLines.sp4 (.loop 4 targumlaw19_BlockLines.l4) := by
  refine loop_resC (σ := (List (List UInt8)) × (List UInt8) × Nat × (List UInt8) × (List UInt8) × Nat × Nat) S0_ok S0_mono (lt0_mono) (LS := lt0) (by simp only [targumlaw19_BlockLines.l4, LOk, and_true, true_and]) rfl rfl (fun ⟨L, G, m, a, b, i, k⟩ => [.slice (some ⟨1, 0, none⟩) G.length G.length, .int .i64 m, .string (strOf (List.replicate m 32)), .string (strOf (a ++ catL (emW m k))), .string (strOf (b ++ List.replicate k 10)), .int .i64 i, .int .i64 k]) (fun ⟨L, G, m, a, b, i, k⟩ => lit [txtsB L, seedB G, sgnB]) (fun ⟨L, G, m, a, b, i, k⟩ => i < G.length ∧ i ≤ 100 ∧ m ≤ 8 ∧ k ≤ (G.getD i 0).toNat % 4 ∧ a.length ≤ 10000 ∧ b.length ≤ 10000) (fun ⟨L, G, m, a, b, i, k⟩ => (G.getD i 0).toNat % 4 - k) 3 (fun ⟨L, G, m, a, b, i, k⟩ K => ∀ k' : Int, K (.exit 4) [.slice (some ⟨1, 0, none⟩) G.length G.length, .int .i64 m, .string (strOf (List.replicate m 32)), .string (strOf (a ++ catL (emW m ((G.getD i 0).toNat % 4)))), .string (strOf (b ++ List.replicate ((G.getD i 0).toNat % 4) 10)), .int .i64 i, .int .i64 k'] (lit [txtsB L, seedB G, sgnB])) ?_ ?_
  · rintro vs h K ⟨L, G, m, a, b, i, k, ⟨h1, h2, h3⟩, h4⟩
    exact ⟨h1, ⟨L, G, m, a, b, i, k⟩, h2, h3, h4⟩
  rintro ⟨L, G, m, a, b, i, k⟩ E N K hE hp hN hK
  dsimp only at hp hN hK
  refine Eq.mpr (targumlaw19_BlockLines.t4 L G m a b i k E N (fun x => In 3 (K x))) ?_
  obtain ⟨h1, h2, h3, h4, h5, h6⟩ := hp
  have hz : (G.getD i 0).toNat < 256 := UInt8.toNat_lt _
  have e1 : (((G.getD i 0).toNat : Int)).tmod 4 = (((G.getD i 0).toNat % 4 : Nat) : Int) := by rw [Int.tmod_eq_emod_of_nonneg (by omega)]; omega
  have hmk : m * k ≤ 8 * 3 := Nat.mul_le_mul h3 (by omega)
  have emk : (m : Int) * (k : Int) = ((m * k : Nat) : Int) := by omega
  have ed : ((m * k : Nat) : Int).tdiv 4 = ((m * k / 4 : Nat) : Int) := by rw [Int.tdiv_eq_ediv_of_nonneg (by omega)]; omega
  have hm4 : m * k / 4 ≤ m := by
    have : m * k ≤ m * 4 := Nat.mul_le_mul_left m (by omega)
    omega
  have hex : (strOf (List.replicate m 32)).extract 0 (((m * k / 4 : Nat) : Int)).toNat = strOf (List.replicate (m * k / 4) 32) := by
    rw [← strOf_lst ((strOf (List.replicate m 32)).extract _ _), lst_ext, lst_strOf, List.drop_zero, List.take_replicate]
    congr 2
    omega
  have hem := emW_len m k (by omega)
  have hkm : k * (m + 1) ≤ 3 * 9 := Nat.mul_le_mul (by omega) (by omega)
  refine ⟨⟨by omega, by omega⟩, ((G.getD i 0).toNat : Int), by rw [show 0 + (i : Int).toNat * 1 = i from by omega]; exact byV_at h1, by decide, ?_⟩
  rw [e1, emk, ed, hex]
  refine ⟨by simp only [rng]; omega, br_intro (fun hb => ?_) (fun hb => ?_)⟩
  · simp only [decide_eq_true_eq] at hb
    have c2 : ByteArray.mk #[(10 : UInt8)] = strOf [10] := rfl
    rw [c2]
    simp only [strOf_app, strOf_size, List.length_append, List.length_replicate, List.length_cons, List.length_nil]
    refine ⟨by simp only [rng]; omega, by decide, by simp only [rng]; omega, ⟨by omega, by omega⟩, by omega, by omega, by omega, by simp only [rng]; omega, ?_⟩
    refine hN (L, G, m, a, b, i, k + 1) _ _ ⟨h1, h2, h3, by dsimp only; omega, h5, h6⟩ (by dsimp only; omega) hK (.inl ⟨?_, rfl⟩)
    dsimp only
    rw [emW_succ, catL_app, List.replicate_succ']
    simp [catL]
  · simp only [decide_eq_false_iff_not] at hb
    obtain rfl : k = (G.getD i 0).toNat % 4 := by omega
    exact .inl (hK _)

def targumlaw19_BlockLines.L4 : LT := (extL lt0 4 targumlaw19_BlockLines.sp4)
theorem targumlaw19_BlockLines.L4_mono : LMono targumlaw19_BlockLines.L4 := (extL_mono lt0_mono targumlaw19_BlockLines.spm4)
def targumlaw19_BlockLines.N2 (L : List (List UInt8)) (G : List UInt8) (m : Nat) (q : Bool) (H : List UInt8) (j : Nat) (vs : List Value) (h : Heap) : Prop := vs = [.slice (some ⟨0, 0, none⟩) L.length L.length, .slice (some ⟨1, 0, none⟩) G.length G.length, .bool q, .int .i64 m, .string (strOf (List.replicate m 32)), .string (strOf (H ++ catL (lnW m L G j))), .string (strOf (lnT L G j)), .int .i64 (lnN L G j), .int .i64 j] ∧ h = lit [txtsB L, seedB G, sgnB]
def targumlaw19_BlockLines.sp2 : LSpec := ⟨targumlaw19_BlockLines.cs2, targumlaw19_BlockLines.ts2, fun vs h K => ∃ (L : List (List UInt8)) (G : List UInt8) (m : Nat) (q : Bool) (H : List UInt8) (j : Nat), (h.n = 3 ∧ In 3 (targumlaw19_BlockLines.N2 L G m q H j) vs h ∧ (1 ≤ L.length ∧ L.length ≤ 8 ∧ L.length ≤ G.length ∧ m ≤ 8 ∧ H.length ≤ 10 ∧ j ≤ L.length ∧ (∀ k, k < j → (L.getD k []).length ≤ 30))) ∧ ((∀ (a b : ByteArray) (n j' : Int), K .ret [.slice (some ⟨0, 0, none⟩) L.length L.length, .slice (some ⟨1, 0, none⟩) G.length G.length, .bool true, .int .i64 m, .string (strOf (List.replicate m 32)), .string a, .string b, .int .i64 n, .int .i64 j'] (lit [txtsB L, seedB G, sgnB])) ∧ ((∀ k, k < L.length → (L.getD k []).length ≤ 30) → K (.exit 2) [.slice (some ⟨0, 0, none⟩) L.length L.length, .slice (some ⟨1, 0, none⟩) G.length G.length, .bool q, .int .i64 m, .string (strOf (List.replicate m 32)), .string (strOf (H ++ catL (lnW m L G L.length))), .string (strOf (lnT L G L.length)), .int .i64 (lnN L G L.length), .int .i64 L.length] (lit [txtsB L, seedB G, sgnB])))⟩
theorem targumlaw19_BlockLines.spm2 : LSpecMono targumlaw19_BlockLines.sp2 := by
  rintro vs h K K' hk ⟨L, G, m, q, H, j, h3, h4⟩
  exact ⟨L, G, m, q, H, j, h3, ⟨fun a b n j' => hk _ _ _ (h4.1 a b n j'), fun h => hk _ _ _ (h4.2 h)⟩⟩
theorem targumlaw19_BlockLines.t2 (L : List (List UInt8)) (G : List UInt8) (m : Nat) (q : Bool) (H : List UInt8) (j : Nat) (E : Env) (N : List Value → Heap → Prop) (K : LK) : mwp KL (targumlaw19_BlockLines.L4) targumlaw19_BlockLines.l2 (lK targumlaw19_BlockLines.cs2 N K) (zipE targumlaw19_BlockLines.cs2 [.slice (some ⟨0, 0, none⟩) L.length L.length, .slice (some ⟨1, 0, none⟩) G.length G.length, .bool q, .int .i64 m, .string (strOf (List.replicate m 32)), .string (strOf (H ++ catL (lnW m L G j))), .string (strOf (lnT L G j)), .int .i64 (lnN L G j), .int .i64 j] ++ E) (lit [txtsB L, seedB G, sgnB]) = (br (decide ((↑j : Int) < (↑L.length : Int))) (((0 : Int) ≤ (↑j : Int) ∧ (↑j : Int) < (↑L.length : Int)) ∧ ∃ (s : ByteArray), List.take (1 : Nat) (List.drop ((0 : Nat) + (↑j : Int).toNat * (1 : Nat)) (strsV L)) = [Value.string s] ∧ br (decide ((30 : Int) < (↑s.size : Int))) (K Exit.ret [Value.slice (some (Addr.mk (0 : Nat) (0 : Nat) none)) L.length L.length, Value.slice (some (Addr.mk (1 : Nat) (0 : Nat) none)) G.length G.length, Value.bool true, Value.int IntKind.i64 (↑m : Int), Value.string (strOf (List.replicate m (32 : UInt8))), Value.string (strOf (H ++ catL (lnW m L G j))), Value.string (strOf (lnT L G j)), Value.int IntKind.i64 (↑(lnN L G j) : Int), Value.int IntKind.i64 (↑j : Int)] (Heap.mk (3 : Nat) [txtsB L, seedB G, sgnB])) ((strOf (H ++ catL (lnW m L G j))).size + (strOf (List.replicate m (32 : UInt8))).size ≤ (9223372036854775807 : Nat) ∧ ((0 : Int) ≤ (↑j : Int) ∧ (↑j : Int) < (↑L.length : Int)) ∧ ∃ (s : ByteArray), List.take (1 : Nat) (List.drop ((0 : Nat) + (↑j : Int).toNat * (1 : Nat)) (strsV L)) = [Value.string s] ∧ s.size ≤ (1000000 : Nat) ∧ (strOf (H ++ catL (lnW m L G j)) ++ strOf (List.replicate m (32 : UInt8))).size + (strOf (letL (lst s))).size ≤ (9223372036854775807 : Nat) ∧ (strOf (H ++ catL (lnW m L G j)) ++ strOf (List.replicate m (32 : UInt8)) ++ strOf (letL (lst s))).size + (ByteArray.mk #[(10 : UInt8)]).size ≤ (9223372036854775807 : Nat) ∧ ((0 : Int) ≤ (↑j : Int) ∧ (↑j : Int) < (↑L.length : Int)) ∧ ∃ (s_1 : ByteArray), List.take (1 : Nat) (List.drop ((0 : Nat) + (↑j : Int).toNat * (1 : Nat)) (strsV L)) = [Value.string s_1] ∧ s_1.size ≤ (1000000 : Nat) ∧ (strOf (lnT L G j)).size + (strOf (letL (lst s_1))).size ≤ (9223372036854775807 : Nat) ∧ (strOf (lnT L G j) ++ strOf (letL (lst s_1))).size + (ByteArray.mk #[(10 : UInt8)]).size ≤ (9223372036854775807 : Nat) ∧ ∃ (L_1 : List (List UInt8)), ∃ (G_1 : List UInt8), ∃ (m_1 : Nat), ∃ (a : List UInt8), ∃ (b : List UInt8), ∃ (i : Nat), ∃ (k : Nat), ((3 : Nat) = (3 : Nat) ∧ In (3 : Nat) (targumlaw19_BlockLines.N4 L_1 G_1 m_1 a b i k) [Value.slice (some (Addr.mk (1 : Nat) (0 : Nat) none)) G.length G.length, Value.int IntKind.i64 (↑m : Int), Value.string (strOf (List.replicate m (32 : UInt8))), Value.string (strOf (H ++ catL (lnW m L G j)) ++ strOf (List.replicate m (32 : UInt8)) ++ strOf (letL (lst s)) ++ ByteArray.mk #[(10 : UInt8)]), Value.string (strOf (lnT L G j) ++ strOf (letL (lst s_1)) ++ ByteArray.mk #[(10 : UInt8)]), Value.int IntKind.i64 (↑j : Int), Value.int IntKind.i64 (0 : Int)] (Heap.mk (3 : Nat) [txtsB L, seedB G, sgnB]) ∧ i < G_1.length ∧ i ≤ (100 : Nat) ∧ m_1 ≤ (8 : Nat) ∧ k ≤ (G_1.getD i (0 : UInt8)).toNat % (4 : Nat) ∧ a.length ≤ (10000 : Nat) ∧ b.length ≤ (10000 : Nat)) ∧ ∀ (k' : Int), rng IntKind.i64 ((↑i : Int) + (1 : Int)) ∧ N [Value.slice (some (Addr.mk (0 : Nat) (0 : Nat) none)) L.length L.length, Value.slice (some (Addr.mk (1 : Nat) (0 : Nat) none)) G_1.length G_1.length, Value.bool q, Value.int IntKind.i64 (↑m_1 : Int), Value.string (strOf (List.replicate m_1 (32 : UInt8))), Value.string (strOf (a ++ catL (emW m_1 ((G_1.getD i (0 : UInt8)).toNat % (4 : Nat))))), Value.string (strOf (b ++ List.replicate ((G_1.getD i (0 : UInt8)).toNat % (4 : Nat)) (10 : UInt8))), Value.int IntKind.i64 (↑(strOf (lnT L G j) ++ strOf (letL (lst s_1)) ++ ByteArray.mk #[(10 : UInt8)]).size : Int), Value.int IntKind.i64 ((↑i : Int) + (1 : Int))] (Heap.mk (3 : Nat) [txtsB L_1, seedB G_1, sgnB]))) (K (Exit.exit (2 : Nat)) [Value.slice (some (Addr.mk (0 : Nat) (0 : Nat) none)) L.length L.length, Value.slice (some (Addr.mk (1 : Nat) (0 : Nat) none)) G.length G.length, Value.bool q, Value.int IntKind.i64 (↑m : Int), Value.string (strOf (List.replicate m (32 : UInt8))), Value.string (strOf (H ++ catL (lnW m L G j))), Value.string (strOf (lnT L G j)), Value.int IntKind.i64 (↑(lnN L G j) : Int), Value.int IntKind.i64 (↑j : Int)] (Heap.mk (3 : Nat) [txtsB L, seedB G, sgnB]))) := by kernel_rfl
theorem targumlaw19_BlockLines.lo2 : LOk1 Tryd.prog targumlaw19_BlockLines.nt targumlaw19_BlockLines.sp2 (.loop 2 targumlaw19_BlockLines.l2) := by
  refine loop_resC (σ := (List (List UInt8)) × (List UInt8) × Nat × Bool × (List UInt8) × Nat) KL_ok KL_mono (targumlaw19_BlockLines.L4_mono) (LS := targumlaw19_BlockLines.L4) (by simp only [targumlaw19_BlockLines.l2, LOk, and_true, true_and]; (repeat' apply And.intro) <;> first | trivial | exact targumlaw19_BlockLines.lo4) rfl rfl (fun ⟨L, G, m, q, H, j⟩ => [.slice (some ⟨0, 0, none⟩) L.length L.length, .slice (some ⟨1, 0, none⟩) G.length G.length, .bool q, .int .i64 m, .string (strOf (List.replicate m 32)), .string (strOf (H ++ catL (lnW m L G j))), .string (strOf (lnT L G j)), .int .i64 (lnN L G j), .int .i64 j]) (fun ⟨L, G, m, q, H, j⟩ => lit [txtsB L, seedB G, sgnB]) (fun ⟨L, G, m, q, H, j⟩ => 1 ≤ L.length ∧ L.length ≤ 8 ∧ L.length ≤ G.length ∧ m ≤ 8 ∧ H.length ≤ 10 ∧ j ≤ L.length ∧ (∀ k, k < j → (L.getD k []).length ≤ 30)) (fun ⟨L, G, m, q, H, j⟩ => L.length - j) 3 (fun ⟨L, G, m, q, H, j⟩ K => (∀ (a b : ByteArray) (n j' : Int), K .ret [.slice (some ⟨0, 0, none⟩) L.length L.length, .slice (some ⟨1, 0, none⟩) G.length G.length, .bool true, .int .i64 m, .string (strOf (List.replicate m 32)), .string a, .string b, .int .i64 n, .int .i64 j'] (lit [txtsB L, seedB G, sgnB])) ∧ ((∀ k, k < L.length → (L.getD k []).length ≤ 30) → K (.exit 2) [.slice (some ⟨0, 0, none⟩) L.length L.length, .slice (some ⟨1, 0, none⟩) G.length G.length, .bool q, .int .i64 m, .string (strOf (List.replicate m 32)), .string (strOf (H ++ catL (lnW m L G L.length))), .string (strOf (lnT L G L.length)), .int .i64 (lnN L G L.length), .int .i64 L.length] (lit [txtsB L, seedB G, sgnB]))) ?_ ?_
  · rintro vs h K ⟨L, G, m, q, H, j, ⟨h1, h2, h3⟩, h4⟩
    exact ⟨h1, ⟨L, G, m, q, H, j⟩, h2, h3, h4⟩
  rintro ⟨L, G, m, q, H, j⟩ E N K hE hp hN hK
  dsimp only at hp hN hK
  refine Eq.mpr (targumlaw19_BlockLines.t2 L G m q H j E N (fun x => In 3 (K x))) ?_
  obtain ⟨h1, h2, h3, h4, h5, h6, h7⟩ := hp
  have hln := ln_len m L G h4 j h7
  refine br_intro (fun hb => ?_) (fun hb => ?_)
  · simp only [decide_eq_true_eq] at hb
    have hj : j < L.length := by omega
    have hLj : ((strsV L).drop (0 + (j : Int).toNat * 1)).take 1 = [.string (strOf (L.getD j []))] := by rw [show 0 + (j : Int).toNat * 1 = j from by omega]; exact strsV_at hj
    refine ⟨⟨by omega, by omega⟩, strOf (L.getD j []), hLj, br_intro (fun hc => ?_) (fun hc => ?_)⟩
    · exact .inl (hK.1 _ _ _ _)
    simp only [decide_eq_false_iff_not, strOf_size] at hc
    have hlt := letL_len (L.getD j [])
    have c2 : ByteArray.mk #[(10 : UInt8)] = strOf [10] := rfl
    rw [strOf_size, strOf_size, List.length_append, List.length_replicate]
    refine ⟨by omega, ⟨by omega, by omega⟩, strOf (L.getD j []), hLj, by rw [strOf_size]; omega, ?_⟩
    rw [lst_strOf, c2]
    simp only [strOf_app, strOf_size, List.length_append, List.length_replicate, List.length_cons, List.length_nil]
    refine ⟨by omega, by omega, ⟨by omega, by omega⟩, strOf (L.getD j []), hLj, by rw [strOf_size]; omega, ?_⟩
    rw [lst_strOf]
    try simp only [strOf_app, strOf_size, List.length_append, List.length_replicate, List.length_cons, List.length_nil]
    refine ⟨by omega, by omega, L, G, m, H ++ catL (lnW m L G j) ++ List.replicate m 32 ++ letL (L.getD j []) ++ [10], lnT L G j ++ letL (L.getD j []) ++ [10], j, 0, ⟨trivial, .inl ⟨?_, rfl⟩, by omega, by omega, h4, by omega, by simp only [List.length_append, List.length_replicate, List.length_cons, List.length_nil]; omega, by simp only [List.length_append, List.length_cons, List.length_nil]; omega⟩, fun k' => ⟨by simp only [rng]; omega, ?_⟩⟩
    · simp [emW, catL]
    · refine hN (L, G, m, q, H, j + 1) _ _ ⟨h1, h2, h3, h4, h5, by dsimp only; omega, fun k hk => ?_⟩ (by dsimp only; omega) hK (.inl ⟨?_, rfl⟩)
      · rcases Nat.lt_or_ge k j with h | h
        · exact h7 k h
        · have e : k = j := by dsimp only at hk; omega
          subst e; dsimp only; omega
      · dsimp only
        rw [lnW, lnT, lnN, catL_app, catL]
        simp [List.append_assoc]
  · simp only [decide_eq_false_iff_not] at hb
    obtain rfl : j = L.length := by omega
    exact .inl (hK.2 h7)

def targumlaw19_BlockLines.LS : LT := (extL (extL lt0 0 targumlaw19_BlockLines.sp0) 2 targumlaw19_BlockLines.sp2)
theorem targumlaw19_BlockLines.LS_mono : LMono targumlaw19_BlockLines.LS := (extL_mono (extL_mono lt0_mono targumlaw19_BlockLines.spm0) targumlaw19_BlockLines.spm2)
theorem targumlaw19_BlockLines.t (X : List ByteArray) (G : List UInt8) (dep par sg : UInt8) (old digit : Bool) (K : Value → Prop) : mwp KL (targumlaw19_BlockLines.LS) targumlaw19_BlockLines.m (retK [.t 14] (fun v _ => K v)) (argE 0 [.slice (some ⟨0, 0, none⟩) X.length X.length, .slice (some ⟨1, 0, none⟩) G.length G.length, .int .u8 dep.toNat, .int .u8 par.toNat, .int .u8 sg.toNat, .bool old, .bool digit]) (lit ([some ⟨9, 1, X.map Value.string, false⟩, seedB G])) = (br (decide ((↑X.length : Int) < (1 : Int))) (K (Value.bool true)) (br (decide ((8 : Int) < (↑X.length : Int))) (K (Value.bool true)) (br (decide ((↑G.length : Int) < (↑X.length : Int))) (K (Value.bool true)) ((5 : Int) ≠ (0 : Int) ∧ rng IntKind.i64 ((↑par.toNat : Int).tmod (5 : Int)) ∧ rng IntKind.i64 ((↑par.toNat : Int).tmod (5 : Int) - (1 : Int)) ∧ rng IntKind.i64 ((↑par.toNat : Int).tmod (5 : Int) - (1 : Int) + (1 : Int)) ∧ (5 : Int) ≠ (0 : Int) ∧ rng IntKind.i64 ((↑dep.toNat : Int).tmod (5 : Int)) ∧ rng IntKind.i64 ((↑par.toNat : Int).tmod (5 : Int) - (1 : Int) + (1 : Int) + (↑dep.toNat : Int).tmod (5 : Int)) ∧ br digit (br (decide ((↑par.toNat : Int).tmod (5 : Int) - (1 : Int) + (1 : Int) + (↑dep.toNat : Int).tmod (5 : Int) = (0 : Int))) (K (Value.bool true)) (∃ (m : Nat), ∃ (k : Nat), ([Value.int IntKind.i64 ((↑par.toNat : Int).tmod (5 : Int) - (1 : Int) + (1 : Int) + (↑dep.toNat : Int).tmod (5 : Int)), Value.string (ByteArray.mk #[]), Value.int IntKind.i64 (0 : Int)] = [Value.int IntKind.i64 (↑m : Int), Value.string (strOf (List.replicate k (32 : UInt8))), Value.int IntKind.i64 (↑k : Int)] ∧ m ≤ (10 : Nat) ∧ k ≤ m) ∧ ∀ (x : Int), (3 : Int) ≠ (0 : Int) ∧ ((0 : Int) ≤ (↑sg.toNat : Int).tmod (3 : Int) ∧ (↑sg.toNat : Int).tmod (3 : Int) < (↑(3 : Nat) : Int)) ∧ ∃ (s : ByteArray), List.take (1 : Nat) (List.drop ((0 : Nat) + ((↑sg.toNat : Int).tmod (3 : Int)).toNat * (1 : Nat)) ([] ++ [Value.string (ByteArray.mk #[]), Value.string (ByteArray.mk #[(45 : UInt8)]), Value.string (ByteArray.mk #[(43 : UInt8)])] ++ [])) = [Value.string s] ∧ (ByteArray.mk #[(124 : UInt8)]).size + s.size ≤ (9223372036854775807 : Nat) ∧ br digit (rng IntKind.i64 ((↑m : Int) - max ((↑par.toNat : Int).tmod (5 : Int) - (1 : Int)) (0 : Int)) ∧ ((0 : Int) ≤ (↑m : Int) - max ((↑par.toNat : Int).tmod (5 : Int) - (1 : Int)) (0 : Int) ∧ (↑m : Int) - max ((↑par.toNat : Int).tmod (5 : Int) - (1 : Int)) (0 : Int) ≤ (9 : Int)) ∧ (ByteArray.mk #[(124 : UInt8)] ++ s).size + (strOf [UInt8.ofNat ((48 : Nat) + ((↑m : Int) - max ((↑par.toNat : Int).tmod (5 : Int) - (1 : Int)) (0 : Int)).toNat)]).size ≤ (9223372036854775807 : Nat) ∧ rng IntKind.i64 ((↑m : Int) - max ((↑par.toNat : Int).tmod (5 : Int) - (1 : Int)) (0 : Int)) ∧ br (decide ((↑m : Int) - max ((↑par.toNat : Int).tmod (5 : Int) - (1 : Int)) (0 : Int) < (1 : Int))) (K (Value.bool true)) (rng IntKind.i64 ((↑m : Int) - max ((↑par.toNat : Int).tmod (5 : Int) - (1 : Int)) (0 : Int)) ∧ br (decide ((9 : Int) < (↑m : Int) - max ((↑par.toNat : Int).tmod (5 : Int) - (1 : Int)) (0 : Int))) (K (Value.bool true)) ((ByteArray.mk #[(124 : UInt8)] ++ s ++ strOf [UInt8.ofNat ((48 : Nat) + ((↑m : Int) - max ((↑par.toNat : Int).tmod (5 : Int) - (1 : Int)) (0 : Int)).toNat)]).size + (ByteArray.mk #[(10 : UInt8)]).size ≤ (9223372036854775807 : Nat) ∧ ∃ (L : List (List UInt8)), ∃ (G_1 : List UInt8), ∃ (m_1 : Nat), ∃ (q : Bool), ∃ (H : List UInt8), ∃ (j : Nat), ((3 : Nat) = (3 : Nat) ∧ In (3 : Nat) (targumlaw19_BlockLines.N2 L G_1 m_1 q H j) [Value.slice (some (Addr.mk (0 : Nat) (0 : Nat) none)) X.length X.length, Value.slice (some (Addr.mk (1 : Nat) (0 : Nat) none)) G.length G.length, Value.bool false, Value.int IntKind.i64 (↑m : Int), Value.string (strOf (List.replicate m (32 : UInt8))), Value.string (ByteArray.mk #[(124 : UInt8)] ++ s ++ strOf [UInt8.ofNat ((48 : Nat) + ((↑m : Int) - max ((↑par.toNat : Int).tmod (5 : Int) - (1 : Int)) (0 : Int)).toNat)] ++ ByteArray.mk #[(10 : UInt8)]), Value.string (ByteArray.mk #[]), Value.int IntKind.i64 (0 : Int), Value.int IntKind.i64 (0 : Int)] (Heap.mk (3 : Nat) [some (Blk.mk (9 : TypeId) (1 : Nat) (List.map Value.string X) false), seedB G, some (Blk.mk (25 : Nat) (3 : Nat) ([] ++ [Value.string (ByteArray.mk #[]), Value.string (ByteArray.mk #[(45 : UInt8)]), Value.string (ByteArray.mk #[(43 : UInt8)])] ++ []) true)]) ∧ (1 : Nat) ≤ L.length ∧ L.length ≤ (8 : Nat) ∧ L.length ≤ G_1.length ∧ m_1 ≤ (8 : Nat) ∧ H.length ≤ (10 : Nat) ∧ j ≤ L.length ∧ ∀ (k : Nat), k < j → (L.getD k []).length ≤ (30 : Nat)) ∧ (∀ (a b : ByteArray) (n j' : Int), K (Value.bool true)) ∧ ((∀ (k : Nat), k < L.length → (L.getD k []).length ≤ (30 : Nat)) → (3 : Int) ≠ (0 : Int) ∧ br (decide ((↑sg.toNat : Int).tmod (3 : Int) = (0 : Int))) (((0 : Int) ≤ (↑(lnN L G_1 L.length) : Int) ∧ (↑(lnN L G_1 L.length) : Int) ≤ (↑(strOf (lnT L G_1 L.length)).size : Int)) ∧ ((strOf (H ++ catL (lnW m_1 L G_1 L.length))).size ≤ (100000 : Nat) ∧ (-10000000 : Int) ≤ (0 : Int) ∧ (0 : Int) ≤ (10000000 : Int) ∧ (-1 : Int) ≤ (↑par.toNat : Int).tmod (5 : Int) - (1 : Int) ∧ (↑par.toNat : Int).tmod (5 : Int) - (1 : Int) ≤ (1000000 : Int)) ∧ (strOf (H ++ catL (lnW m_1 L G_1 L.length))).size + (ByteArray.mk #[(46 : UInt8), (46 : UInt8), (46 : UInt8), (10 : UInt8)]).size ≤ (9223372036854775807 : Nat) ∧ ((strOf (H ++ catL (lnW m_1 L G_1 L.length)) ++ ByteArray.mk #[(46 : UInt8), (46 : UInt8), (46 : UInt8), (10 : UInt8)]).size ≤ (100000 : Nat) ∧ (-10000000 : Int) ≤ (0 : Int) ∧ (0 : Int) ≤ (10000000 : Int) ∧ (-1 : Int) ≤ (↑par.toNat : Int).tmod (5 : Int) - (1 : Int) ∧ (↑par.toNat : Int).tmod (5 : Int) - (1 : Int) ≤ (1000000 : Int)) ∧ br (decide (rdC' (rdJ (verI old) (strOf (H ++ catL (lnW m_1 L G_1 L.length))) (0 : Int) ((↑par.toNat : Int).tmod (5 : Int) - (1 : Int)) (0 : Nat)) = (0 : Int))) (br (decide (strOf (rdT' (rdJ (verI old) (strOf (H ++ catL (lnW m_1 L G_1 L.length))) (0 : Int) ((↑par.toNat : Int).tmod (5 : Int) - (1 : Int)) (0 : Nat))) = (strOf (lnT L G_1 L.length)).extract (0 : Nat) (↑(lnN L G_1 L.length) : Int).toNat)) (br (decide (rdN' (rdJ (verI old) (strOf (H ++ catL (lnW m_1 L G_1 L.length))) (0 : Int) ((↑par.toNat : Int).tmod (5 : Int) - (1 : Int)) (0 : Nat)) = (↑(strOf (H ++ catL (lnW m_1 L G_1 L.length))).size : Int))) (br (decide (rdC' (rdJ (verI old) (strOf (H ++ catL (lnW m_1 L G_1 L.length)) ++ ByteArray.mk #[(46 : UInt8), (46 : UInt8), (46 : UInt8), (10 : UInt8)]) (0 : Int) ((↑par.toNat : Int).tmod (5 : Int) - (1 : Int)) (0 : Nat)) = (0 : Int))) (br (decide (strOf (rdT' (rdJ (verI old) (strOf (H ++ catL (lnW m_1 L G_1 L.length)) ++ ByteArray.mk #[(46 : UInt8), (46 : UInt8), (46 : UInt8), (10 : UInt8)]) (0 : Int) ((↑par.toNat : Int).tmod (5 : Int) - (1 : Int)) (0 : Nat))) = (strOf (lnT L G_1 L.length)).extract (0 : Nat) (↑(lnN L G_1 L.length) : Int).toNat)) (K (Value.bool (decide (rdN' (rdJ (verI old) (strOf (H ++ catL (lnW m_1 L G_1 L.length)) ++ ByteArray.mk #[(46 : UInt8), (46 : UInt8), (46 : UInt8), (10 : UInt8)]) (0 : Int) ((↑par.toNat : Int).tmod (5 : Int) - (1 : Int)) (0 : Nat)) = (↑(strOf (H ++ catL (lnW m_1 L G_1 L.length))).size : Int))))) (K (Value.bool false))) (K (Value.bool false))) (K (Value.bool false))) (K (Value.bool false))) (K (Value.bool false))) (br (decide ((↑sg.toNat : Int).tmod (3 : Int) = (1 : Int))) (rng IntKind.i64 ((↑(lnN L G_1 L.length) : Int) - (1 : Int)) ∧ ((0 : Int) ≤ (↑(lnN L G_1 L.length) : Int) - (1 : Int) ∧ (↑(lnN L G_1 L.length) : Int) - (1 : Int) ≤ (↑(strOf (lnT L G_1 L.length)).size : Int)) ∧ ((strOf (H ++ catL (lnW m_1 L G_1 L.length))).size ≤ (100000 : Nat) ∧ (-10000000 : Int) ≤ (0 : Int) ∧ (0 : Int) ≤ (10000000 : Int) ∧ (-1 : Int) ≤ (↑par.toNat : Int).tmod (5 : Int) - (1 : Int) ∧ (↑par.toNat : Int).tmod (5 : Int) - (1 : Int) ≤ (1000000 : Int)) ∧ (strOf (H ++ catL (lnW m_1 L G_1 L.length))).size + (ByteArray.mk #[(46 : UInt8), (46 : UInt8), (46 : UInt8), (10 : UInt8)]).size ≤ (9223372036854775807 : Nat) ∧ ((strOf (H ++ catL (lnW m_1 L G_1 L.length)) ++ ByteArray.mk #[(46 : UInt8), (46 : UInt8), (46 : UInt8), (10 : UInt8)]).size ≤ (100000 : Nat) ∧ (-10000000 : Int) ≤ (0 : Int) ∧ (0 : Int) ≤ (10000000 : Int) ∧ (-1 : Int) ≤ (↑par.toNat : Int).tmod (5 : Int) - (1 : Int) ∧ (↑par.toNat : Int).tmod (5 : Int) - (1 : Int) ≤ (1000000 : Int)) ∧ br (decide (rdC' (rdJ (verI old) (strOf (H ++ catL (lnW m_1 L G_1 L.length))) (0 : Int) ((↑par.toNat : Int).tmod (5 : Int) - (1 : Int)) (0 : Nat)) = (0 : Int))) (br (decide (strOf (rdT' (rdJ (verI old) (strOf (H ++ catL (lnW m_1 L G_1 L.length))) (0 : Int) ((↑par.toNat : Int).tmod (5 : Int) - (1 : Int)) (0 : Nat))) = (strOf (lnT L G_1 L.length)).extract (0 : Nat) ((↑(lnN L G_1 L.length) : Int) - (1 : Int)).toNat)) (br (decide (rdN' (rdJ (verI old) (strOf (H ++ catL (lnW m_1 L G_1 L.length))) (0 : Int) ((↑par.toNat : Int).tmod (5 : Int) - (1 : Int)) (0 : Nat)) = (↑(strOf (H ++ catL (lnW m_1 L G_1 L.length))).size : Int))) (br (decide (rdC' (rdJ (verI old) (strOf (H ++ catL (lnW m_1 L G_1 L.length)) ++ ByteArray.mk #[(46 : UInt8), (46 : UInt8), (46 : UInt8), (10 : UInt8)]) (0 : Int) ((↑par.toNat : Int).tmod (5 : Int) - (1 : Int)) (0 : Nat)) = (0 : Int))) (br (decide (strOf (rdT' (rdJ (verI old) (strOf (H ++ catL (lnW m_1 L G_1 L.length)) ++ ByteArray.mk #[(46 : UInt8), (46 : UInt8), (46 : UInt8), (10 : UInt8)]) (0 : Int) ((↑par.toNat : Int).tmod (5 : Int) - (1 : Int)) (0 : Nat))) = (strOf (lnT L G_1 L.length)).extract (0 : Nat) ((↑(lnN L G_1 L.length) : Int) - (1 : Int)).toNat)) (K (Value.bool (decide (rdN' (rdJ (verI old) (strOf (H ++ catL (lnW m_1 L G_1 L.length)) ++ ByteArray.mk #[(46 : UInt8), (46 : UInt8), (46 : UInt8), (10 : UInt8)]) (0 : Int) ((↑par.toNat : Int).tmod (5 : Int) - (1 : Int)) (0 : Nat)) = (↑(strOf (H ++ catL (lnW m_1 L G_1 L.length))).size : Int))))) (K (Value.bool false))) (K (Value.bool false))) (K (Value.bool false))) (K (Value.bool false))) (K (Value.bool false))) (((strOf (H ++ catL (lnW m_1 L G_1 L.length))).size ≤ (100000 : Nat) ∧ (-10000000 : Int) ≤ (0 : Int) ∧ (0 : Int) ≤ (10000000 : Int) ∧ (-1 : Int) ≤ (↑par.toNat : Int).tmod (5 : Int) - (1 : Int) ∧ (↑par.toNat : Int).tmod (5 : Int) - (1 : Int) ≤ (1000000 : Int)) ∧ (strOf (H ++ catL (lnW m_1 L G_1 L.length))).size + (ByteArray.mk #[(46 : UInt8), (46 : UInt8), (46 : UInt8), (10 : UInt8)]).size ≤ (9223372036854775807 : Nat) ∧ ((strOf (H ++ catL (lnW m_1 L G_1 L.length)) ++ ByteArray.mk #[(46 : UInt8), (46 : UInt8), (46 : UInt8), (10 : UInt8)]).size ≤ (100000 : Nat) ∧ (-10000000 : Int) ≤ (0 : Int) ∧ (0 : Int) ≤ (10000000 : Int) ∧ (-1 : Int) ≤ (↑par.toNat : Int).tmod (5 : Int) - (1 : Int) ∧ (↑par.toNat : Int).tmod (5 : Int) - (1 : Int) ≤ (1000000 : Int)) ∧ br (decide (rdC' (rdJ (verI old) (strOf (H ++ catL (lnW m_1 L G_1 L.length))) (0 : Int) ((↑par.toNat : Int).tmod (5 : Int) - (1 : Int)) (0 : Nat)) = (0 : Int))) (br (decide (strOf (rdT' (rdJ (verI old) (strOf (H ++ catL (lnW m_1 L G_1 L.length))) (0 : Int) ((↑par.toNat : Int).tmod (5 : Int) - (1 : Int)) (0 : Nat))) = strOf (lnT L G_1 L.length))) (br (decide (rdN' (rdJ (verI old) (strOf (H ++ catL (lnW m_1 L G_1 L.length))) (0 : Int) ((↑par.toNat : Int).tmod (5 : Int) - (1 : Int)) (0 : Nat)) = (↑(strOf (H ++ catL (lnW m_1 L G_1 L.length))).size : Int))) (br (decide (rdC' (rdJ (verI old) (strOf (H ++ catL (lnW m_1 L G_1 L.length)) ++ ByteArray.mk #[(46 : UInt8), (46 : UInt8), (46 : UInt8), (10 : UInt8)]) (0 : Int) ((↑par.toNat : Int).tmod (5 : Int) - (1 : Int)) (0 : Nat)) = (0 : Int))) (br (decide (strOf (rdT' (rdJ (verI old) (strOf (H ++ catL (lnW m_1 L G_1 L.length)) ++ ByteArray.mk #[(46 : UInt8), (46 : UInt8), (46 : UInt8), (10 : UInt8)]) (0 : Int) ((↑par.toNat : Int).tmod (5 : Int) - (1 : Int)) (0 : Nat))) = strOf (lnT L G_1 L.length))) (K (Value.bool (decide (rdN' (rdJ (verI old) (strOf (H ++ catL (lnW m_1 L G_1 L.length)) ++ ByteArray.mk #[(46 : UInt8), (46 : UInt8), (46 : UInt8), (10 : UInt8)]) (0 : Int) ((↑par.toNat : Int).tmod (5 : Int) - (1 : Int)) (0 : Nat)) = (↑(strOf (H ++ catL (lnW m_1 L G_1 L.length))).size : Int))))) (K (Value.bool false))) (K (Value.bool false))) (K (Value.bool false))) (K (Value.bool false))) (K (Value.bool false)))))))) ((ByteArray.mk #[(124 : UInt8)] ++ s).size + (ByteArray.mk #[(10 : UInt8)]).size ≤ (9223372036854775807 : Nat) ∧ ∃ (L : List (List UInt8)), ∃ (G_1 : List UInt8), ∃ (m_1 : Nat), ∃ (q : Bool), ∃ (H : List UInt8), ∃ (j : Nat), ((3 : Nat) = (3 : Nat) ∧ In (3 : Nat) (targumlaw19_BlockLines.N2 L G_1 m_1 q H j) [Value.slice (some (Addr.mk (0 : Nat) (0 : Nat) none)) X.length X.length, Value.slice (some (Addr.mk (1 : Nat) (0 : Nat) none)) G.length G.length, Value.bool false, Value.int IntKind.i64 (↑m : Int), Value.string (strOf (List.replicate m (32 : UInt8))), Value.string (ByteArray.mk #[(124 : UInt8)] ++ s ++ ByteArray.mk #[(10 : UInt8)]), Value.string (ByteArray.mk #[]), Value.int IntKind.i64 (0 : Int), Value.int IntKind.i64 (0 : Int)] (Heap.mk (3 : Nat) [some (Blk.mk (9 : TypeId) (1 : Nat) (List.map Value.string X) false), seedB G, some (Blk.mk (25 : Nat) (3 : Nat) ([] ++ [Value.string (ByteArray.mk #[]), Value.string (ByteArray.mk #[(45 : UInt8)]), Value.string (ByteArray.mk #[(43 : UInt8)])] ++ []) true)]) ∧ (1 : Nat) ≤ L.length ∧ L.length ≤ (8 : Nat) ∧ L.length ≤ G_1.length ∧ m_1 ≤ (8 : Nat) ∧ H.length ≤ (10 : Nat) ∧ j ≤ L.length ∧ ∀ (k : Nat), k < j → (L.getD k []).length ≤ (30 : Nat)) ∧ (∀ (a b : ByteArray) (n j' : Int), K (Value.bool true)) ∧ ((∀ (k : Nat), k < L.length → (L.getD k []).length ≤ (30 : Nat)) → (3 : Int) ≠ (0 : Int) ∧ br (decide ((↑sg.toNat : Int).tmod (3 : Int) = (0 : Int))) (((0 : Int) ≤ (↑(lnN L G_1 L.length) : Int) ∧ (↑(lnN L G_1 L.length) : Int) ≤ (↑(strOf (lnT L G_1 L.length)).size : Int)) ∧ ((strOf (H ++ catL (lnW m_1 L G_1 L.length))).size ≤ (100000 : Nat) ∧ (-10000000 : Int) ≤ (0 : Int) ∧ (0 : Int) ≤ (10000000 : Int) ∧ (-1 : Int) ≤ (↑par.toNat : Int).tmod (5 : Int) - (1 : Int) ∧ (↑par.toNat : Int).tmod (5 : Int) - (1 : Int) ≤ (1000000 : Int)) ∧ (strOf (H ++ catL (lnW m_1 L G_1 L.length))).size + (ByteArray.mk #[(46 : UInt8), (46 : UInt8), (46 : UInt8), (10 : UInt8)]).size ≤ (9223372036854775807 : Nat) ∧ ((strOf (H ++ catL (lnW m_1 L G_1 L.length)) ++ ByteArray.mk #[(46 : UInt8), (46 : UInt8), (46 : UInt8), (10 : UInt8)]).size ≤ (100000 : Nat) ∧ (-10000000 : Int) ≤ (0 : Int) ∧ (0 : Int) ≤ (10000000 : Int) ∧ (-1 : Int) ≤ (↑par.toNat : Int).tmod (5 : Int) - (1 : Int) ∧ (↑par.toNat : Int).tmod (5 : Int) - (1 : Int) ≤ (1000000 : Int)) ∧ br (decide (rdC' (rdJ (verI old) (strOf (H ++ catL (lnW m_1 L G_1 L.length))) (0 : Int) ((↑par.toNat : Int).tmod (5 : Int) - (1 : Int)) (0 : Nat)) = (0 : Int))) (br (decide (strOf (rdT' (rdJ (verI old) (strOf (H ++ catL (lnW m_1 L G_1 L.length))) (0 : Int) ((↑par.toNat : Int).tmod (5 : Int) - (1 : Int)) (0 : Nat))) = (strOf (lnT L G_1 L.length)).extract (0 : Nat) (↑(lnN L G_1 L.length) : Int).toNat)) (br (decide (rdN' (rdJ (verI old) (strOf (H ++ catL (lnW m_1 L G_1 L.length))) (0 : Int) ((↑par.toNat : Int).tmod (5 : Int) - (1 : Int)) (0 : Nat)) = (↑(strOf (H ++ catL (lnW m_1 L G_1 L.length))).size : Int))) (br (decide (rdC' (rdJ (verI old) (strOf (H ++ catL (lnW m_1 L G_1 L.length)) ++ ByteArray.mk #[(46 : UInt8), (46 : UInt8), (46 : UInt8), (10 : UInt8)]) (0 : Int) ((↑par.toNat : Int).tmod (5 : Int) - (1 : Int)) (0 : Nat)) = (0 : Int))) (br (decide (strOf (rdT' (rdJ (verI old) (strOf (H ++ catL (lnW m_1 L G_1 L.length)) ++ ByteArray.mk #[(46 : UInt8), (46 : UInt8), (46 : UInt8), (10 : UInt8)]) (0 : Int) ((↑par.toNat : Int).tmod (5 : Int) - (1 : Int)) (0 : Nat))) = (strOf (lnT L G_1 L.length)).extract (0 : Nat) (↑(lnN L G_1 L.length) : Int).toNat)) (K (Value.bool (decide (rdN' (rdJ (verI old) (strOf (H ++ catL (lnW m_1 L G_1 L.length)) ++ ByteArray.mk #[(46 : UInt8), (46 : UInt8), (46 : UInt8), (10 : UInt8)]) (0 : Int) ((↑par.toNat : Int).tmod (5 : Int) - (1 : Int)) (0 : Nat)) = (↑(strOf (H ++ catL (lnW m_1 L G_1 L.length))).size : Int))))) (K (Value.bool false))) (K (Value.bool false))) (K (Value.bool false))) (K (Value.bool false))) (K (Value.bool false))) (br (decide ((↑sg.toNat : Int).tmod (3 : Int) = (1 : Int))) (rng IntKind.i64 ((↑(lnN L G_1 L.length) : Int) - (1 : Int)) ∧ ((0 : Int) ≤ (↑(lnN L G_1 L.length) : Int) - (1 : Int) ∧ (↑(lnN L G_1 L.length) : Int) - (1 : Int) ≤ (↑(strOf (lnT L G_1 L.length)).size : Int)) ∧ ((strOf (H ++ catL (lnW m_1 L G_1 L.length))).size ≤ (100000 : Nat) ∧ (-10000000 : Int) ≤ (0 : Int) ∧ (0 : Int) ≤ (10000000 : Int) ∧ (-1 : Int) ≤ (↑par.toNat : Int).tmod (5 : Int) - (1 : Int) ∧ (↑par.toNat : Int).tmod (5 : Int) - (1 : Int) ≤ (1000000 : Int)) ∧ (strOf (H ++ catL (lnW m_1 L G_1 L.length))).size + (ByteArray.mk #[(46 : UInt8), (46 : UInt8), (46 : UInt8), (10 : UInt8)]).size ≤ (9223372036854775807 : Nat) ∧ ((strOf (H ++ catL (lnW m_1 L G_1 L.length)) ++ ByteArray.mk #[(46 : UInt8), (46 : UInt8), (46 : UInt8), (10 : UInt8)]).size ≤ (100000 : Nat) ∧ (-10000000 : Int) ≤ (0 : Int) ∧ (0 : Int) ≤ (10000000 : Int) ∧ (-1 : Int) ≤ (↑par.toNat : Int).tmod (5 : Int) - (1 : Int) ∧ (↑par.toNat : Int).tmod (5 : Int) - (1 : Int) ≤ (1000000 : Int)) ∧ br (decide (rdC' (rdJ (verI old) (strOf (H ++ catL (lnW m_1 L G_1 L.length))) (0 : Int) ((↑par.toNat : Int).tmod (5 : Int) - (1 : Int)) (0 : Nat)) = (0 : Int))) (br (decide (strOf (rdT' (rdJ (verI old) (strOf (H ++ catL (lnW m_1 L G_1 L.length))) (0 : Int) ((↑par.toNat : Int).tmod (5 : Int) - (1 : Int)) (0 : Nat))) = (strOf (lnT L G_1 L.length)).extract (0 : Nat) ((↑(lnN L G_1 L.length) : Int) - (1 : Int)).toNat)) (br (decide (rdN' (rdJ (verI old) (strOf (H ++ catL (lnW m_1 L G_1 L.length))) (0 : Int) ((↑par.toNat : Int).tmod (5 : Int) - (1 : Int)) (0 : Nat)) = (↑(strOf (H ++ catL (lnW m_1 L G_1 L.length))).size : Int))) (br (decide (rdC' (rdJ (verI old) (strOf (H ++ catL (lnW m_1 L G_1 L.length)) ++ ByteArray.mk #[(46 : UInt8), (46 : UInt8), (46 : UInt8), (10 : UInt8)]) (0 : Int) ((↑par.toNat : Int).tmod (5 : Int) - (1 : Int)) (0 : Nat)) = (0 : Int))) (br (decide (strOf (rdT' (rdJ (verI old) (strOf (H ++ catL (lnW m_1 L G_1 L.length)) ++ ByteArray.mk #[(46 : UInt8), (46 : UInt8), (46 : UInt8), (10 : UInt8)]) (0 : Int) ((↑par.toNat : Int).tmod (5 : Int) - (1 : Int)) (0 : Nat))) = (strOf (lnT L G_1 L.length)).extract (0 : Nat) ((↑(lnN L G_1 L.length) : Int) - (1 : Int)).toNat)) (K (Value.bool (decide (rdN' (rdJ (verI old) (strOf (H ++ catL (lnW m_1 L G_1 L.length)) ++ ByteArray.mk #[(46 : UInt8), (46 : UInt8), (46 : UInt8), (10 : UInt8)]) (0 : Int) ((↑par.toNat : Int).tmod (5 : Int) - (1 : Int)) (0 : Nat)) = (↑(strOf (H ++ catL (lnW m_1 L G_1 L.length))).size : Int))))) (K (Value.bool false))) (K (Value.bool false))) (K (Value.bool false))) (K (Value.bool false))) (K (Value.bool false))) (((strOf (H ++ catL (lnW m_1 L G_1 L.length))).size ≤ (100000 : Nat) ∧ (-10000000 : Int) ≤ (0 : Int) ∧ (0 : Int) ≤ (10000000 : Int) ∧ (-1 : Int) ≤ (↑par.toNat : Int).tmod (5 : Int) - (1 : Int) ∧ (↑par.toNat : Int).tmod (5 : Int) - (1 : Int) ≤ (1000000 : Int)) ∧ (strOf (H ++ catL (lnW m_1 L G_1 L.length))).size + (ByteArray.mk #[(46 : UInt8), (46 : UInt8), (46 : UInt8), (10 : UInt8)]).size ≤ (9223372036854775807 : Nat) ∧ ((strOf (H ++ catL (lnW m_1 L G_1 L.length)) ++ ByteArray.mk #[(46 : UInt8), (46 : UInt8), (46 : UInt8), (10 : UInt8)]).size ≤ (100000 : Nat) ∧ (-10000000 : Int) ≤ (0 : Int) ∧ (0 : Int) ≤ (10000000 : Int) ∧ (-1 : Int) ≤ (↑par.toNat : Int).tmod (5 : Int) - (1 : Int) ∧ (↑par.toNat : Int).tmod (5 : Int) - (1 : Int) ≤ (1000000 : Int)) ∧ br (decide (rdC' (rdJ (verI old) (strOf (H ++ catL (lnW m_1 L G_1 L.length))) (0 : Int) ((↑par.toNat : Int).tmod (5 : Int) - (1 : Int)) (0 : Nat)) = (0 : Int))) (br (decide (strOf (rdT' (rdJ (verI old) (strOf (H ++ catL (lnW m_1 L G_1 L.length))) (0 : Int) ((↑par.toNat : Int).tmod (5 : Int) - (1 : Int)) (0 : Nat))) = strOf (lnT L G_1 L.length))) (br (decide (rdN' (rdJ (verI old) (strOf (H ++ catL (lnW m_1 L G_1 L.length))) (0 : Int) ((↑par.toNat : Int).tmod (5 : Int) - (1 : Int)) (0 : Nat)) = (↑(strOf (H ++ catL (lnW m_1 L G_1 L.length))).size : Int))) (br (decide (rdC' (rdJ (verI old) (strOf (H ++ catL (lnW m_1 L G_1 L.length)) ++ ByteArray.mk #[(46 : UInt8), (46 : UInt8), (46 : UInt8), (10 : UInt8)]) (0 : Int) ((↑par.toNat : Int).tmod (5 : Int) - (1 : Int)) (0 : Nat)) = (0 : Int))) (br (decide (strOf (rdT' (rdJ (verI old) (strOf (H ++ catL (lnW m_1 L G_1 L.length)) ++ ByteArray.mk #[(46 : UInt8), (46 : UInt8), (46 : UInt8), (10 : UInt8)]) (0 : Int) ((↑par.toNat : Int).tmod (5 : Int) - (1 : Int)) (0 : Nat))) = strOf (lnT L G_1 L.length))) (K (Value.bool (decide (rdN' (rdJ (verI old) (strOf (H ++ catL (lnW m_1 L G_1 L.length)) ++ ByteArray.mk #[(46 : UInt8), (46 : UInt8), (46 : UInt8), (10 : UInt8)]) (0 : Int) ((↑par.toNat : Int).tmod (5 : Int) - (1 : Int)) (0 : Nat)) = (↑(strOf (H ++ catL (lnW m_1 L G_1 L.length))).size : Int))))) (K (Value.bool false))) (K (Value.bool false))) (K (Value.bool false))) (K (Value.bool false))) (K (Value.bool false)))))))) (∃ (m : Nat), ∃ (k : Nat), ([Value.int IntKind.i64 ((↑par.toNat : Int).tmod (5 : Int) - (1 : Int) + (1 : Int) + (↑dep.toNat : Int).tmod (5 : Int)), Value.string (ByteArray.mk #[]), Value.int IntKind.i64 (0 : Int)] = [Value.int IntKind.i64 (↑m : Int), Value.string (strOf (List.replicate k (32 : UInt8))), Value.int IntKind.i64 (↑k : Int)] ∧ m ≤ (10 : Nat) ∧ k ≤ m) ∧ ∀ (x : Int), (3 : Int) ≠ (0 : Int) ∧ ((0 : Int) ≤ (↑sg.toNat : Int).tmod (3 : Int) ∧ (↑sg.toNat : Int).tmod (3 : Int) < (↑(3 : Nat) : Int)) ∧ ∃ (s : ByteArray), List.take (1 : Nat) (List.drop ((0 : Nat) + ((↑sg.toNat : Int).tmod (3 : Int)).toNat * (1 : Nat)) ([] ++ [Value.string (ByteArray.mk #[]), Value.string (ByteArray.mk #[(45 : UInt8)]), Value.string (ByteArray.mk #[(43 : UInt8)])] ++ [])) = [Value.string s] ∧ (ByteArray.mk #[(124 : UInt8)]).size + s.size ≤ (9223372036854775807 : Nat) ∧ br digit (rng IntKind.i64 ((↑m : Int) - max ((↑par.toNat : Int).tmod (5 : Int) - (1 : Int)) (0 : Int)) ∧ ((0 : Int) ≤ (↑m : Int) - max ((↑par.toNat : Int).tmod (5 : Int) - (1 : Int)) (0 : Int) ∧ (↑m : Int) - max ((↑par.toNat : Int).tmod (5 : Int) - (1 : Int)) (0 : Int) ≤ (9 : Int)) ∧ (ByteArray.mk #[(124 : UInt8)] ++ s).size + (strOf [UInt8.ofNat ((48 : Nat) + ((↑m : Int) - max ((↑par.toNat : Int).tmod (5 : Int) - (1 : Int)) (0 : Int)).toNat)]).size ≤ (9223372036854775807 : Nat) ∧ rng IntKind.i64 ((↑m : Int) - max ((↑par.toNat : Int).tmod (5 : Int) - (1 : Int)) (0 : Int)) ∧ br (decide ((↑m : Int) - max ((↑par.toNat : Int).tmod (5 : Int) - (1 : Int)) (0 : Int) < (1 : Int))) (K (Value.bool true)) (rng IntKind.i64 ((↑m : Int) - max ((↑par.toNat : Int).tmod (5 : Int) - (1 : Int)) (0 : Int)) ∧ br (decide ((9 : Int) < (↑m : Int) - max ((↑par.toNat : Int).tmod (5 : Int) - (1 : Int)) (0 : Int))) (K (Value.bool true)) ((ByteArray.mk #[(124 : UInt8)] ++ s ++ strOf [UInt8.ofNat ((48 : Nat) + ((↑m : Int) - max ((↑par.toNat : Int).tmod (5 : Int) - (1 : Int)) (0 : Int)).toNat)]).size + (ByteArray.mk #[(10 : UInt8)]).size ≤ (9223372036854775807 : Nat) ∧ ∃ (L : List (List UInt8)), ∃ (G_1 : List UInt8), ∃ (m_1 : Nat), ∃ (q : Bool), ∃ (H : List UInt8), ∃ (j : Nat), ((3 : Nat) = (3 : Nat) ∧ In (3 : Nat) (targumlaw19_BlockLines.N2 L G_1 m_1 q H j) [Value.slice (some (Addr.mk (0 : Nat) (0 : Nat) none)) X.length X.length, Value.slice (some (Addr.mk (1 : Nat) (0 : Nat) none)) G.length G.length, Value.bool false, Value.int IntKind.i64 (↑m : Int), Value.string (strOf (List.replicate m (32 : UInt8))), Value.string (ByteArray.mk #[(124 : UInt8)] ++ s ++ strOf [UInt8.ofNat ((48 : Nat) + ((↑m : Int) - max ((↑par.toNat : Int).tmod (5 : Int) - (1 : Int)) (0 : Int)).toNat)] ++ ByteArray.mk #[(10 : UInt8)]), Value.string (ByteArray.mk #[]), Value.int IntKind.i64 (0 : Int), Value.int IntKind.i64 (0 : Int)] (Heap.mk (3 : Nat) [some (Blk.mk (9 : TypeId) (1 : Nat) (List.map Value.string X) false), seedB G, some (Blk.mk (25 : Nat) (3 : Nat) ([] ++ [Value.string (ByteArray.mk #[]), Value.string (ByteArray.mk #[(45 : UInt8)]), Value.string (ByteArray.mk #[(43 : UInt8)])] ++ []) true)]) ∧ (1 : Nat) ≤ L.length ∧ L.length ≤ (8 : Nat) ∧ L.length ≤ G_1.length ∧ m_1 ≤ (8 : Nat) ∧ H.length ≤ (10 : Nat) ∧ j ≤ L.length ∧ ∀ (k : Nat), k < j → (L.getD k []).length ≤ (30 : Nat)) ∧ (∀ (a b : ByteArray) (n j' : Int), K (Value.bool true)) ∧ ((∀ (k : Nat), k < L.length → (L.getD k []).length ≤ (30 : Nat)) → (3 : Int) ≠ (0 : Int) ∧ br (decide ((↑sg.toNat : Int).tmod (3 : Int) = (0 : Int))) (((0 : Int) ≤ (↑(lnN L G_1 L.length) : Int) ∧ (↑(lnN L G_1 L.length) : Int) ≤ (↑(strOf (lnT L G_1 L.length)).size : Int)) ∧ ((strOf (H ++ catL (lnW m_1 L G_1 L.length))).size ≤ (100000 : Nat) ∧ (-10000000 : Int) ≤ (0 : Int) ∧ (0 : Int) ≤ (10000000 : Int) ∧ (-1 : Int) ≤ (↑par.toNat : Int).tmod (5 : Int) - (1 : Int) ∧ (↑par.toNat : Int).tmod (5 : Int) - (1 : Int) ≤ (1000000 : Int)) ∧ (strOf (H ++ catL (lnW m_1 L G_1 L.length))).size + (ByteArray.mk #[(46 : UInt8), (46 : UInt8), (46 : UInt8), (10 : UInt8)]).size ≤ (9223372036854775807 : Nat) ∧ ((strOf (H ++ catL (lnW m_1 L G_1 L.length)) ++ ByteArray.mk #[(46 : UInt8), (46 : UInt8), (46 : UInt8), (10 : UInt8)]).size ≤ (100000 : Nat) ∧ (-10000000 : Int) ≤ (0 : Int) ∧ (0 : Int) ≤ (10000000 : Int) ∧ (-1 : Int) ≤ (↑par.toNat : Int).tmod (5 : Int) - (1 : Int) ∧ (↑par.toNat : Int).tmod (5 : Int) - (1 : Int) ≤ (1000000 : Int)) ∧ br (decide (rdC' (rdJ (verI old) (strOf (H ++ catL (lnW m_1 L G_1 L.length))) (0 : Int) ((↑par.toNat : Int).tmod (5 : Int) - (1 : Int)) (0 : Nat)) = (0 : Int))) (br (decide (strOf (rdT' (rdJ (verI old) (strOf (H ++ catL (lnW m_1 L G_1 L.length))) (0 : Int) ((↑par.toNat : Int).tmod (5 : Int) - (1 : Int)) (0 : Nat))) = (strOf (lnT L G_1 L.length)).extract (0 : Nat) (↑(lnN L G_1 L.length) : Int).toNat)) (br (decide (rdN' (rdJ (verI old) (strOf (H ++ catL (lnW m_1 L G_1 L.length))) (0 : Int) ((↑par.toNat : Int).tmod (5 : Int) - (1 : Int)) (0 : Nat)) = (↑(strOf (H ++ catL (lnW m_1 L G_1 L.length))).size : Int))) (br (decide (rdC' (rdJ (verI old) (strOf (H ++ catL (lnW m_1 L G_1 L.length)) ++ ByteArray.mk #[(46 : UInt8), (46 : UInt8), (46 : UInt8), (10 : UInt8)]) (0 : Int) ((↑par.toNat : Int).tmod (5 : Int) - (1 : Int)) (0 : Nat)) = (0 : Int))) (br (decide (strOf (rdT' (rdJ (verI old) (strOf (H ++ catL (lnW m_1 L G_1 L.length)) ++ ByteArray.mk #[(46 : UInt8), (46 : UInt8), (46 : UInt8), (10 : UInt8)]) (0 : Int) ((↑par.toNat : Int).tmod (5 : Int) - (1 : Int)) (0 : Nat))) = (strOf (lnT L G_1 L.length)).extract (0 : Nat) (↑(lnN L G_1 L.length) : Int).toNat)) (K (Value.bool (decide (rdN' (rdJ (verI old) (strOf (H ++ catL (lnW m_1 L G_1 L.length)) ++ ByteArray.mk #[(46 : UInt8), (46 : UInt8), (46 : UInt8), (10 : UInt8)]) (0 : Int) ((↑par.toNat : Int).tmod (5 : Int) - (1 : Int)) (0 : Nat)) = (↑(strOf (H ++ catL (lnW m_1 L G_1 L.length))).size : Int))))) (K (Value.bool false))) (K (Value.bool false))) (K (Value.bool false))) (K (Value.bool false))) (K (Value.bool false))) (br (decide ((↑sg.toNat : Int).tmod (3 : Int) = (1 : Int))) (rng IntKind.i64 ((↑(lnN L G_1 L.length) : Int) - (1 : Int)) ∧ ((0 : Int) ≤ (↑(lnN L G_1 L.length) : Int) - (1 : Int) ∧ (↑(lnN L G_1 L.length) : Int) - (1 : Int) ≤ (↑(strOf (lnT L G_1 L.length)).size : Int)) ∧ ((strOf (H ++ catL (lnW m_1 L G_1 L.length))).size ≤ (100000 : Nat) ∧ (-10000000 : Int) ≤ (0 : Int) ∧ (0 : Int) ≤ (10000000 : Int) ∧ (-1 : Int) ≤ (↑par.toNat : Int).tmod (5 : Int) - (1 : Int) ∧ (↑par.toNat : Int).tmod (5 : Int) - (1 : Int) ≤ (1000000 : Int)) ∧ (strOf (H ++ catL (lnW m_1 L G_1 L.length))).size + (ByteArray.mk #[(46 : UInt8), (46 : UInt8), (46 : UInt8), (10 : UInt8)]).size ≤ (9223372036854775807 : Nat) ∧ ((strOf (H ++ catL (lnW m_1 L G_1 L.length)) ++ ByteArray.mk #[(46 : UInt8), (46 : UInt8), (46 : UInt8), (10 : UInt8)]).size ≤ (100000 : Nat) ∧ (-10000000 : Int) ≤ (0 : Int) ∧ (0 : Int) ≤ (10000000 : Int) ∧ (-1 : Int) ≤ (↑par.toNat : Int).tmod (5 : Int) - (1 : Int) ∧ (↑par.toNat : Int).tmod (5 : Int) - (1 : Int) ≤ (1000000 : Int)) ∧ br (decide (rdC' (rdJ (verI old) (strOf (H ++ catL (lnW m_1 L G_1 L.length))) (0 : Int) ((↑par.toNat : Int).tmod (5 : Int) - (1 : Int)) (0 : Nat)) = (0 : Int))) (br (decide (strOf (rdT' (rdJ (verI old) (strOf (H ++ catL (lnW m_1 L G_1 L.length))) (0 : Int) ((↑par.toNat : Int).tmod (5 : Int) - (1 : Int)) (0 : Nat))) = (strOf (lnT L G_1 L.length)).extract (0 : Nat) ((↑(lnN L G_1 L.length) : Int) - (1 : Int)).toNat)) (br (decide (rdN' (rdJ (verI old) (strOf (H ++ catL (lnW m_1 L G_1 L.length))) (0 : Int) ((↑par.toNat : Int).tmod (5 : Int) - (1 : Int)) (0 : Nat)) = (↑(strOf (H ++ catL (lnW m_1 L G_1 L.length))).size : Int))) (br (decide (rdC' (rdJ (verI old) (strOf (H ++ catL (lnW m_1 L G_1 L.length)) ++ ByteArray.mk #[(46 : UInt8), (46 : UInt8), (46 : UInt8), (10 : UInt8)]) (0 : Int) ((↑par.toNat : Int).tmod (5 : Int) - (1 : Int)) (0 : Nat)) = (0 : Int))) (br (decide (strOf (rdT' (rdJ (verI old) (strOf (H ++ catL (lnW m_1 L G_1 L.length)) ++ ByteArray.mk #[(46 : UInt8), (46 : UInt8), (46 : UInt8), (10 : UInt8)]) (0 : Int) ((↑par.toNat : Int).tmod (5 : Int) - (1 : Int)) (0 : Nat))) = (strOf (lnT L G_1 L.length)).extract (0 : Nat) ((↑(lnN L G_1 L.length) : Int) - (1 : Int)).toNat)) (K (Value.bool (decide (rdN' (rdJ (verI old) (strOf (H ++ catL (lnW m_1 L G_1 L.length)) ++ ByteArray.mk #[(46 : UInt8), (46 : UInt8), (46 : UInt8), (10 : UInt8)]) (0 : Int) ((↑par.toNat : Int).tmod (5 : Int) - (1 : Int)) (0 : Nat)) = (↑(strOf (H ++ catL (lnW m_1 L G_1 L.length))).size : Int))))) (K (Value.bool false))) (K (Value.bool false))) (K (Value.bool false))) (K (Value.bool false))) (K (Value.bool false))) (((strOf (H ++ catL (lnW m_1 L G_1 L.length))).size ≤ (100000 : Nat) ∧ (-10000000 : Int) ≤ (0 : Int) ∧ (0 : Int) ≤ (10000000 : Int) ∧ (-1 : Int) ≤ (↑par.toNat : Int).tmod (5 : Int) - (1 : Int) ∧ (↑par.toNat : Int).tmod (5 : Int) - (1 : Int) ≤ (1000000 : Int)) ∧ (strOf (H ++ catL (lnW m_1 L G_1 L.length))).size + (ByteArray.mk #[(46 : UInt8), (46 : UInt8), (46 : UInt8), (10 : UInt8)]).size ≤ (9223372036854775807 : Nat) ∧ ((strOf (H ++ catL (lnW m_1 L G_1 L.length)) ++ ByteArray.mk #[(46 : UInt8), (46 : UInt8), (46 : UInt8), (10 : UInt8)]).size ≤ (100000 : Nat) ∧ (-10000000 : Int) ≤ (0 : Int) ∧ (0 : Int) ≤ (10000000 : Int) ∧ (-1 : Int) ≤ (↑par.toNat : Int).tmod (5 : Int) - (1 : Int) ∧ (↑par.toNat : Int).tmod (5 : Int) - (1 : Int) ≤ (1000000 : Int)) ∧ br (decide (rdC' (rdJ (verI old) (strOf (H ++ catL (lnW m_1 L G_1 L.length))) (0 : Int) ((↑par.toNat : Int).tmod (5 : Int) - (1 : Int)) (0 : Nat)) = (0 : Int))) (br (decide (strOf (rdT' (rdJ (verI old) (strOf (H ++ catL (lnW m_1 L G_1 L.length))) (0 : Int) ((↑par.toNat : Int).tmod (5 : Int) - (1 : Int)) (0 : Nat))) = strOf (lnT L G_1 L.length))) (br (decide (rdN' (rdJ (verI old) (strOf (H ++ catL (lnW m_1 L G_1 L.length))) (0 : Int) ((↑par.toNat : Int).tmod (5 : Int) - (1 : Int)) (0 : Nat)) = (↑(strOf (H ++ catL (lnW m_1 L G_1 L.length))).size : Int))) (br (decide (rdC' (rdJ (verI old) (strOf (H ++ catL (lnW m_1 L G_1 L.length)) ++ ByteArray.mk #[(46 : UInt8), (46 : UInt8), (46 : UInt8), (10 : UInt8)]) (0 : Int) ((↑par.toNat : Int).tmod (5 : Int) - (1 : Int)) (0 : Nat)) = (0 : Int))) (br (decide (strOf (rdT' (rdJ (verI old) (strOf (H ++ catL (lnW m_1 L G_1 L.length)) ++ ByteArray.mk #[(46 : UInt8), (46 : UInt8), (46 : UInt8), (10 : UInt8)]) (0 : Int) ((↑par.toNat : Int).tmod (5 : Int) - (1 : Int)) (0 : Nat))) = strOf (lnT L G_1 L.length))) (K (Value.bool (decide (rdN' (rdJ (verI old) (strOf (H ++ catL (lnW m_1 L G_1 L.length)) ++ ByteArray.mk #[(46 : UInt8), (46 : UInt8), (46 : UInt8), (10 : UInt8)]) (0 : Int) ((↑par.toNat : Int).tmod (5 : Int) - (1 : Int)) (0 : Nat)) = (↑(strOf (H ++ catL (lnW m_1 L G_1 L.length))).size : Int))))) (K (Value.bool false))) (K (Value.bool false))) (K (Value.bool false))) (K (Value.bool false))) (K (Value.bool false)))))))) ((ByteArray.mk #[(124 : UInt8)] ++ s).size + (ByteArray.mk #[(10 : UInt8)]).size ≤ (9223372036854775807 : Nat) ∧ ∃ (L : List (List UInt8)), ∃ (G_1 : List UInt8), ∃ (m_1 : Nat), ∃ (q : Bool), ∃ (H : List UInt8), ∃ (j : Nat), ((3 : Nat) = (3 : Nat) ∧ In (3 : Nat) (targumlaw19_BlockLines.N2 L G_1 m_1 q H j) [Value.slice (some (Addr.mk (0 : Nat) (0 : Nat) none)) X.length X.length, Value.slice (some (Addr.mk (1 : Nat) (0 : Nat) none)) G.length G.length, Value.bool false, Value.int IntKind.i64 (↑m : Int), Value.string (strOf (List.replicate m (32 : UInt8))), Value.string (ByteArray.mk #[(124 : UInt8)] ++ s ++ ByteArray.mk #[(10 : UInt8)]), Value.string (ByteArray.mk #[]), Value.int IntKind.i64 (0 : Int), Value.int IntKind.i64 (0 : Int)] (Heap.mk (3 : Nat) [some (Blk.mk (9 : TypeId) (1 : Nat) (List.map Value.string X) false), seedB G, some (Blk.mk (25 : Nat) (3 : Nat) ([] ++ [Value.string (ByteArray.mk #[]), Value.string (ByteArray.mk #[(45 : UInt8)]), Value.string (ByteArray.mk #[(43 : UInt8)])] ++ []) true)]) ∧ (1 : Nat) ≤ L.length ∧ L.length ≤ (8 : Nat) ∧ L.length ≤ G_1.length ∧ m_1 ≤ (8 : Nat) ∧ H.length ≤ (10 : Nat) ∧ j ≤ L.length ∧ ∀ (k : Nat), k < j → (L.getD k []).length ≤ (30 : Nat)) ∧ (∀ (a b : ByteArray) (n j' : Int), K (Value.bool true)) ∧ ((∀ (k : Nat), k < L.length → (L.getD k []).length ≤ (30 : Nat)) → (3 : Int) ≠ (0 : Int) ∧ br (decide ((↑sg.toNat : Int).tmod (3 : Int) = (0 : Int))) (((0 : Int) ≤ (↑(lnN L G_1 L.length) : Int) ∧ (↑(lnN L G_1 L.length) : Int) ≤ (↑(strOf (lnT L G_1 L.length)).size : Int)) ∧ ((strOf (H ++ catL (lnW m_1 L G_1 L.length))).size ≤ (100000 : Nat) ∧ (-10000000 : Int) ≤ (0 : Int) ∧ (0 : Int) ≤ (10000000 : Int) ∧ (-1 : Int) ≤ (↑par.toNat : Int).tmod (5 : Int) - (1 : Int) ∧ (↑par.toNat : Int).tmod (5 : Int) - (1 : Int) ≤ (1000000 : Int)) ∧ (strOf (H ++ catL (lnW m_1 L G_1 L.length))).size + (ByteArray.mk #[(46 : UInt8), (46 : UInt8), (46 : UInt8), (10 : UInt8)]).size ≤ (9223372036854775807 : Nat) ∧ ((strOf (H ++ catL (lnW m_1 L G_1 L.length)) ++ ByteArray.mk #[(46 : UInt8), (46 : UInt8), (46 : UInt8), (10 : UInt8)]).size ≤ (100000 : Nat) ∧ (-10000000 : Int) ≤ (0 : Int) ∧ (0 : Int) ≤ (10000000 : Int) ∧ (-1 : Int) ≤ (↑par.toNat : Int).tmod (5 : Int) - (1 : Int) ∧ (↑par.toNat : Int).tmod (5 : Int) - (1 : Int) ≤ (1000000 : Int)) ∧ br (decide (rdC' (rdJ (verI old) (strOf (H ++ catL (lnW m_1 L G_1 L.length))) (0 : Int) ((↑par.toNat : Int).tmod (5 : Int) - (1 : Int)) (0 : Nat)) = (0 : Int))) (br (decide (strOf (rdT' (rdJ (verI old) (strOf (H ++ catL (lnW m_1 L G_1 L.length))) (0 : Int) ((↑par.toNat : Int).tmod (5 : Int) - (1 : Int)) (0 : Nat))) = (strOf (lnT L G_1 L.length)).extract (0 : Nat) (↑(lnN L G_1 L.length) : Int).toNat)) (br (decide (rdN' (rdJ (verI old) (strOf (H ++ catL (lnW m_1 L G_1 L.length))) (0 : Int) ((↑par.toNat : Int).tmod (5 : Int) - (1 : Int)) (0 : Nat)) = (↑(strOf (H ++ catL (lnW m_1 L G_1 L.length))).size : Int))) (br (decide (rdC' (rdJ (verI old) (strOf (H ++ catL (lnW m_1 L G_1 L.length)) ++ ByteArray.mk #[(46 : UInt8), (46 : UInt8), (46 : UInt8), (10 : UInt8)]) (0 : Int) ((↑par.toNat : Int).tmod (5 : Int) - (1 : Int)) (0 : Nat)) = (0 : Int))) (br (decide (strOf (rdT' (rdJ (verI old) (strOf (H ++ catL (lnW m_1 L G_1 L.length)) ++ ByteArray.mk #[(46 : UInt8), (46 : UInt8), (46 : UInt8), (10 : UInt8)]) (0 : Int) ((↑par.toNat : Int).tmod (5 : Int) - (1 : Int)) (0 : Nat))) = (strOf (lnT L G_1 L.length)).extract (0 : Nat) (↑(lnN L G_1 L.length) : Int).toNat)) (K (Value.bool (decide (rdN' (rdJ (verI old) (strOf (H ++ catL (lnW m_1 L G_1 L.length)) ++ ByteArray.mk #[(46 : UInt8), (46 : UInt8), (46 : UInt8), (10 : UInt8)]) (0 : Int) ((↑par.toNat : Int).tmod (5 : Int) - (1 : Int)) (0 : Nat)) = (↑(strOf (H ++ catL (lnW m_1 L G_1 L.length))).size : Int))))) (K (Value.bool false))) (K (Value.bool false))) (K (Value.bool false))) (K (Value.bool false))) (K (Value.bool false))) (br (decide ((↑sg.toNat : Int).tmod (3 : Int) = (1 : Int))) (rng IntKind.i64 ((↑(lnN L G_1 L.length) : Int) - (1 : Int)) ∧ ((0 : Int) ≤ (↑(lnN L G_1 L.length) : Int) - (1 : Int) ∧ (↑(lnN L G_1 L.length) : Int) - (1 : Int) ≤ (↑(strOf (lnT L G_1 L.length)).size : Int)) ∧ ((strOf (H ++ catL (lnW m_1 L G_1 L.length))).size ≤ (100000 : Nat) ∧ (-10000000 : Int) ≤ (0 : Int) ∧ (0 : Int) ≤ (10000000 : Int) ∧ (-1 : Int) ≤ (↑par.toNat : Int).tmod (5 : Int) - (1 : Int) ∧ (↑par.toNat : Int).tmod (5 : Int) - (1 : Int) ≤ (1000000 : Int)) ∧ (strOf (H ++ catL (lnW m_1 L G_1 L.length))).size + (ByteArray.mk #[(46 : UInt8), (46 : UInt8), (46 : UInt8), (10 : UInt8)]).size ≤ (9223372036854775807 : Nat) ∧ ((strOf (H ++ catL (lnW m_1 L G_1 L.length)) ++ ByteArray.mk #[(46 : UInt8), (46 : UInt8), (46 : UInt8), (10 : UInt8)]).size ≤ (100000 : Nat) ∧ (-10000000 : Int) ≤ (0 : Int) ∧ (0 : Int) ≤ (10000000 : Int) ∧ (-1 : Int) ≤ (↑par.toNat : Int).tmod (5 : Int) - (1 : Int) ∧ (↑par.toNat : Int).tmod (5 : Int) - (1 : Int) ≤ (1000000 : Int)) ∧ br (decide (rdC' (rdJ (verI old) (strOf (H ++ catL (lnW m_1 L G_1 L.length))) (0 : Int) ((↑par.toNat : Int).tmod (5 : Int) - (1 : Int)) (0 : Nat)) = (0 : Int))) (br (decide (strOf (rdT' (rdJ (verI old) (strOf (H ++ catL (lnW m_1 L G_1 L.length))) (0 : Int) ((↑par.toNat : Int).tmod (5 : Int) - (1 : Int)) (0 : Nat))) = (strOf (lnT L G_1 L.length)).extract (0 : Nat) ((↑(lnN L G_1 L.length) : Int) - (1 : Int)).toNat)) (br (decide (rdN' (rdJ (verI old) (strOf (H ++ catL (lnW m_1 L G_1 L.length))) (0 : Int) ((↑par.toNat : Int).tmod (5 : Int) - (1 : Int)) (0 : Nat)) = (↑(strOf (H ++ catL (lnW m_1 L G_1 L.length))).size : Int))) (br (decide (rdC' (rdJ (verI old) (strOf (H ++ catL (lnW m_1 L G_1 L.length)) ++ ByteArray.mk #[(46 : UInt8), (46 : UInt8), (46 : UInt8), (10 : UInt8)]) (0 : Int) ((↑par.toNat : Int).tmod (5 : Int) - (1 : Int)) (0 : Nat)) = (0 : Int))) (br (decide (strOf (rdT' (rdJ (verI old) (strOf (H ++ catL (lnW m_1 L G_1 L.length)) ++ ByteArray.mk #[(46 : UInt8), (46 : UInt8), (46 : UInt8), (10 : UInt8)]) (0 : Int) ((↑par.toNat : Int).tmod (5 : Int) - (1 : Int)) (0 : Nat))) = (strOf (lnT L G_1 L.length)).extract (0 : Nat) ((↑(lnN L G_1 L.length) : Int) - (1 : Int)).toNat)) (K (Value.bool (decide (rdN' (rdJ (verI old) (strOf (H ++ catL (lnW m_1 L G_1 L.length)) ++ ByteArray.mk #[(46 : UInt8), (46 : UInt8), (46 : UInt8), (10 : UInt8)]) (0 : Int) ((↑par.toNat : Int).tmod (5 : Int) - (1 : Int)) (0 : Nat)) = (↑(strOf (H ++ catL (lnW m_1 L G_1 L.length))).size : Int))))) (K (Value.bool false))) (K (Value.bool false))) (K (Value.bool false))) (K (Value.bool false))) (K (Value.bool false))) (((strOf (H ++ catL (lnW m_1 L G_1 L.length))).size ≤ (100000 : Nat) ∧ (-10000000 : Int) ≤ (0 : Int) ∧ (0 : Int) ≤ (10000000 : Int) ∧ (-1 : Int) ≤ (↑par.toNat : Int).tmod (5 : Int) - (1 : Int) ∧ (↑par.toNat : Int).tmod (5 : Int) - (1 : Int) ≤ (1000000 : Int)) ∧ (strOf (H ++ catL (lnW m_1 L G_1 L.length))).size + (ByteArray.mk #[(46 : UInt8), (46 : UInt8), (46 : UInt8), (10 : UInt8)]).size ≤ (9223372036854775807 : Nat) ∧ ((strOf (H ++ catL (lnW m_1 L G_1 L.length)) ++ ByteArray.mk #[(46 : UInt8), (46 : UInt8), (46 : UInt8), (10 : UInt8)]).size ≤ (100000 : Nat) ∧ (-10000000 : Int) ≤ (0 : Int) ∧ (0 : Int) ≤ (10000000 : Int) ∧ (-1 : Int) ≤ (↑par.toNat : Int).tmod (5 : Int) - (1 : Int) ∧ (↑par.toNat : Int).tmod (5 : Int) - (1 : Int) ≤ (1000000 : Int)) ∧ br (decide (rdC' (rdJ (verI old) (strOf (H ++ catL (lnW m_1 L G_1 L.length))) (0 : Int) ((↑par.toNat : Int).tmod (5 : Int) - (1 : Int)) (0 : Nat)) = (0 : Int))) (br (decide (strOf (rdT' (rdJ (verI old) (strOf (H ++ catL (lnW m_1 L G_1 L.length))) (0 : Int) ((↑par.toNat : Int).tmod (5 : Int) - (1 : Int)) (0 : Nat))) = strOf (lnT L G_1 L.length))) (br (decide (rdN' (rdJ (verI old) (strOf (H ++ catL (lnW m_1 L G_1 L.length))) (0 : Int) ((↑par.toNat : Int).tmod (5 : Int) - (1 : Int)) (0 : Nat)) = (↑(strOf (H ++ catL (lnW m_1 L G_1 L.length))).size : Int))) (br (decide (rdC' (rdJ (verI old) (strOf (H ++ catL (lnW m_1 L G_1 L.length)) ++ ByteArray.mk #[(46 : UInt8), (46 : UInt8), (46 : UInt8), (10 : UInt8)]) (0 : Int) ((↑par.toNat : Int).tmod (5 : Int) - (1 : Int)) (0 : Nat)) = (0 : Int))) (br (decide (strOf (rdT' (rdJ (verI old) (strOf (H ++ catL (lnW m_1 L G_1 L.length)) ++ ByteArray.mk #[(46 : UInt8), (46 : UInt8), (46 : UInt8), (10 : UInt8)]) (0 : Int) ((↑par.toNat : Int).tmod (5 : Int) - (1 : Int)) (0 : Nat))) = strOf (lnT L G_1 L.length))) (K (Value.bool (decide (rdN' (rdJ (verI old) (strOf (H ++ catL (lnW m_1 L G_1 L.length)) ++ ByteArray.mk #[(46 : UInt8), (46 : UInt8), (46 : UInt8), (10 : UInt8)]) (0 : Int) ((↑par.toNat : Int).tmod (5 : Int) - (1 : Int)) (0 : Nat)) = (↑(strOf (H ++ catL (lnW m_1 L G_1 L.length))).size : Int))))) (K (Value.bool false))) (K (Value.bool false))) (K (Value.bool false))) (K (Value.bool false))) (K (Value.bool false))))))))))) := by kernel_rfl
theorem targumlaw19_BlockLines.law (X : List ByteArray) (G : List UInt8) (dep par sg : UInt8) (old digit : Bool) : ACalls Tryd.prog targumlaw19_BlockLines.n [.slice (some ⟨0, 0, none⟩) X.length X.length, .slice (some ⟨1, 0, none⟩) G.length G.length, .int .u8 dep.toNat, .int .u8 par.toNat, .int .u8 sg.toNat, .bool old, .bool digit] (lit ([some ⟨9, 1, X.map Value.string, false⟩, seedB G])) (fun v _ => v = .bool true) := by
  refine acalls_mk KL_ok targumlaw19_BlockLines.ok (LS := targumlaw19_BlockLines.LS) (by simp only [targumlaw19_BlockLines.m, LOk, and_true, true_and]; (repeat' apply And.intro) <;> first | trivial | exact targumlaw19_BlockLines.lo0 | exact targumlaw19_BlockLines.lo4 | exact targumlaw19_BlockLines.lo2) (Nat.le_of_ble_eq_true rfl) (Eq.mpr (targumlaw19_BlockLines.t X G dep par sg old digit (fun v => v = .bool true)) ?_)
  obtain ⟨L, rfl⟩ : ∃ L : List (List UInt8), X = L.map strOf := ⟨X.map lst, by simp [Function.comp_def, strOf_lst]⟩
  simp only [List.length_map, List.map_map, show (L.map (Value.string ∘ strOf)) = strsV L from rfl]
  have hpr : par.toNat < 256 := UInt8.toNat_lt _
  have hdr : dep.toNat < 256 := UInt8.toNat_lt _
  have hsr : sg.toNat < 256 := UInt8.toNat_lt _
  have e5 : (par.toNat : Int).tmod 5 = ((par.toNat % 5 : Nat) : Int) := by rw [Int.tmod_eq_emod_of_nonneg (by omega)]; omega
  have e6 : (dep.toNat : Int).tmod 5 = ((dep.toNat % 5 : Nat) : Int) := by rw [Int.tmod_eq_emod_of_nonneg (by omega)]; omega
  have e7 : (sg.toNat : Int).tmod 3 = ((sg.toNat % 3 : Nat) : Int) := by rw [Int.tmod_eq_emod_of_nonneg (by omega)]; omega
  refine br_intro (fun _ => trivial) (fun q1 => br_intro (fun _ => trivial) (fun q2 => br_intro (fun _ => trivial) (fun q3 => ?_)))
  simp only [decide_eq_false_iff_not] at q1 q2 q3
  rw [e5, e6, e7]
  have hk5 : par.toNat % 5 < 5 := by omega
  have hd5 : dep.toNat % 5 < 5 := by omega
  have hs3 : sg.toNat % 3 = 0 ∨ sg.toNat % 3 = 1 ∨ sg.toNat % 3 = 2 := by omega
  generalize par.toNat % 5 = k5 at hk5 ⊢
  generalize dep.toNat % 5 = d5 at hd5 ⊢
  generalize sg.toNat % 3 = s3 at hs3 ⊢
  have hm : (k5 : Int) - 1 + 1 + (d5 : Int) = ((k5 + d5 : Nat) : Int) := by omega
  rw [hm]
  refine ⟨by decide, by simp only [rng]; omega, by simp only [rng]; omega, by simp only [rng]; omega, by decide, by simp only [rng]; omega, by simp only [rng]; omega, ?_⟩
  obtain ⟨j, hj⟩ : ∃ j, L.length = j + 1 := ⟨L.length - 1, by omega⟩
  have c1 : ByteArray.mk #[(124 : UInt8)] = strOf [124] := rfl
  have c2 : ByteArray.mk #[(10 : UInt8)] = strOf [10] := rfl
  have c3 : ByteArray.mk #[(46 : UInt8), 46, 46, 10] = strOf [46, 46, 46, 10] := rfl
  have c4 : ByteArray.mk #[(45 : UInt8)] = strOf [45] := rfl
  have c5 : ByteArray.mk #[(43 : UInt8)] = strOf [43] := rfl
  have c6 : ByteArray.mk #[] = strOf [] := rfl
  have ext : ∀ (l : List UInt8) (n : Nat), (strOf l).extract 0 n = strOf (l.take n) := fun l n => by
    rw [← strOf_lst ((strOf l).extract 0 n), lst_ext, lst_strOf, List.drop_zero, Nat.sub_zero]
  have hle := fun hall => ln_len (k5 + d5) L G (by omega) L.length hall
  have hNl : lnN L G L.length ≤ (lnT L G L.length).length ∧ 1 ≤ lnN L G L.length := by
    rw [hj, lnN, lnT]; simp only [List.length_append, List.length_cons]; omega
  have hN1 : ((lnN L G L.length : Nat) : Int) - 1 = ((lnN L G L.length - 1 : Nat) : Int) := by omega
  obtain ⟨n1, n2, n3⟩ := ln_end L G j
  rw [← hj] at n1 n2 n3
  replace n1 : endL (lnT L G L.length) ((0 : Nat) : Int) = (lnT L G L.length).take (lnN L G L.length) := n1
  replace n2 : endL (lnT L G L.length) ((45 : Nat) : Int) = (lnT L G L.length).take (lnN L G L.length - 1) := n2
  replace n3 : endL (lnT L G L.length) ((43 : Nat) : Int) = lnT L G L.length := n3
  have key : ∀ (c d : Nat), (c = 0 ∨ c = 43 ∨ c = 45) → d ≤ 9 → (d = 0 ∨ (d : Int) + max ((k5 : Int) - 1) 0 = ((k5 + d5 : Nat) : Int)) → (∃ x : Int, rdI (verI old) (strOf ((headL c d ++ [10]) ++ catL (lnW (k5 + d5) L G L.length))) 0 ((k5 : Int) - 1) = .ok (endL (lnT L G L.length) c, x, (headL c d).length + 1 + (catL (lnW (k5 + d5) L G L.length)).length)) ∧ (∃ x : Int, rdI (verI old) (strOf ((headL c d ++ [10]) ++ (catL (lnW (k5 + d5) L G L.length) ++ [46, 46, 46, 10]))) 0 ((k5 : Int) - 1) = .ok (endL (lnT L G L.length) c, x, (headL c d).length + 1 + (catL (lnW (k5 + d5) L G L.length)).length)) := fun c d hc hd hdm => by
    obtain ⟨x1, k1⟩ := ln_all (verI old) (p := (k5 : Int) - 1) (m := k5 + d5) (L := L) (G := G) (r := []) (j := j) hc hd (.inl rfl) (by omega) (by omega) hdm
    obtain ⟨x2, k2⟩ := ln_all (verI old) (p := (k5 : Int) - 1) (m := k5 + d5) (L := L) (G := G) (r := [46, 46, 46, 10]) (j := j) hc hd (.inr rfl) (by omega) (by omega) hdm
    rw [← hj] at k1 k2
    exact ⟨⟨x1, by simpa using k1⟩, ⟨x2, by simpa using k2⟩⟩
  have hdd : ((k5 + d5 : Nat) : Int) - max ((k5 : Int) - 1) 0 = ((k5 + d5 - (k5 - 1) : Nat) : Int) := by omega
  have hd9 : k5 + d5 - (k5 - 1) ≤ 9 := by omega
  have hdm : ((k5 + d5 - (k5 - 1) : Nat) : Int) + max ((k5 : Int) - 1) 0 = ((k5 + d5 : Nat) : Int) := by omega
  have hd1 : k5 + d5 ≠ 0 → 1 ≤ k5 + d5 - (k5 - 1) := by omega
  simp only [Int.toNat_natCast] at *
  generalize k5 + d5 - (k5 - 1) = dN at *
  cases digit with
  | false =>
    rw [br_f]
    rcases hs3 with hs | hs | hs
    · subst hs
      refine ⟨k5 + d5, 0, ⟨rfl, by omega, by omega⟩, fun x => ⟨by decide, ⟨by decide, by decide⟩, ByteArray.mk #[], rfl, ?_⟩⟩
      obtain ⟨⟨x1, k1⟩, ⟨x2, k2⟩⟩ := key 0 0 (by decide) (by omega) (.inl rfl)
      have hH := headL_len 0 0
      simp only [hdd, Int.toNat_natCast, c1, c2, c3, c4, c5, c6, strOf_app, strOf_size, List.append_assoc, List.length_append, List.length_cons, List.length_nil, br_t, br_f]
      refine ⟨by omega, ?_⟩
      refine ⟨by omega, ?_⟩
      refine ⟨L, G, k5 + d5, false, headL 0 0 ++ [10], 0, ⟨trivial, .inl ⟨by simp [headL, lnW, lnT, lnN, catL], rfl⟩, by omega, by omega, by omega, by omega, by simp only [List.length_append, List.length_cons, List.length_nil]; omega, by omega, fun k hk => absurd hk (Nat.not_lt_zero _)⟩, fun _ _ _ _ => trivial, fun hall => ⟨by decide, ?_⟩⟩
      obtain ⟨l1, l2⟩ := hle hall
      rw [decide_eq_true (by omega), br_t]
      simp only [rdJ_eq, k1, k2, rdC', rdT', rdE', rdN', rdO', ext, n1, n2, n3, Int.toNat_natCast, decide_true, br_t, br_f, List.length_append, List.length_cons, List.length_nil]
      repeat (first
        | refine And.intro (by first | omega | (simp only [rng]; omega)) ?_
        | (rw [decide_eq_true (by omega)]; try simp only [br_t]))
    · subst hs
      refine ⟨k5 + d5, 0, ⟨rfl, by omega, by omega⟩, fun x => ⟨by decide, ⟨by decide, by decide⟩, ByteArray.mk #[45], rfl, ?_⟩⟩
      obtain ⟨⟨x1, k1⟩, ⟨x2, k2⟩⟩ := key 45 0 (by decide) (by omega) (.inl rfl)
      have hH := headL_len 45 0
      simp only [hdd, Int.toNat_natCast, c1, c2, c3, c4, c5, c6, strOf_app, strOf_size, List.append_assoc, List.length_append, List.length_cons, List.length_nil, br_t, br_f]
      refine ⟨by omega, ?_⟩
      refine ⟨by omega, ?_⟩
      refine ⟨L, G, k5 + d5, false, headL 45 0 ++ [10], 0, ⟨trivial, .inl ⟨by simp [headL, lnW, lnT, lnN, catL], rfl⟩, by omega, by omega, by omega, by omega, by simp only [List.length_append, List.length_cons, List.length_nil]; omega, by omega, fun k hk => absurd hk (Nat.not_lt_zero _)⟩, fun _ _ _ _ => trivial, fun hall => ⟨by decide, ?_⟩⟩
      obtain ⟨l1, l2⟩ := hle hall
      rw [decide_eq_false (by omega), br_f, decide_eq_true (by omega), br_t, hN1]
      simp only [rdJ_eq, k1, k2, rdC', rdT', rdE', rdN', rdO', ext, n1, n2, n3, Int.toNat_natCast, decide_true, br_t, br_f, List.length_append, List.length_cons, List.length_nil]
      repeat (first
        | refine And.intro (by first | omega | (simp only [rng]; omega)) ?_
        | (rw [decide_eq_true (by omega)]; try simp only [br_t]))
    · subst hs
      refine ⟨k5 + d5, 0, ⟨rfl, by omega, by omega⟩, fun x => ⟨by decide, ⟨by decide, by decide⟩, ByteArray.mk #[43], rfl, ?_⟩⟩
      obtain ⟨⟨x1, k1⟩, ⟨x2, k2⟩⟩ := key 43 0 (by decide) (by omega) (.inl rfl)
      have hH := headL_len 43 0
      simp only [hdd, Int.toNat_natCast, c1, c2, c3, c4, c5, c6, strOf_app, strOf_size, List.append_assoc, List.length_append, List.length_cons, List.length_nil, br_t, br_f]
      refine ⟨by omega, ?_⟩
      refine ⟨by omega, ?_⟩
      refine ⟨L, G, k5 + d5, false, headL 43 0 ++ [10], 0, ⟨trivial, .inl ⟨by simp [headL, lnW, lnT, lnN, catL], rfl⟩, by omega, by omega, by omega, by omega, by simp only [List.length_append, List.length_cons, List.length_nil]; omega, by omega, fun k hk => absurd hk (Nat.not_lt_zero _)⟩, fun _ _ _ _ => trivial, fun hall => ⟨by decide, ?_⟩⟩
      obtain ⟨l1, l2⟩ := hle hall
      rw [decide_eq_false (by omega), br_f, decide_eq_false (by omega), br_f]
      simp only [rdJ_eq, k1, k2, rdC', rdT', rdE', rdN', rdO', ext, n1, n2, n3, Int.toNat_natCast, decide_true, br_t, br_f, List.length_append, List.length_cons, List.length_nil]
      repeat (first
        | refine And.intro (by first | omega | (simp only [rng]; omega)) ?_
        | (rw [decide_eq_true (by omega)]; try simp only [br_t]))
  | true =>
    rw [br_t]
    refine br_intro (fun _ => trivial) (fun hz => ?_)
    simp only [decide_eq_false_iff_not] at hz
    have hd0 : ¬ dN = 0 := by omega
    rcases hs3 with hs | hs | hs
    · subst hs
      refine ⟨k5 + d5, 0, ⟨rfl, by omega, by omega⟩, fun x => ⟨by decide, ⟨by decide, by decide⟩, ByteArray.mk #[], rfl, ?_⟩⟩
      obtain ⟨⟨x1, k1⟩, ⟨x2, k2⟩⟩ := key 0 dN (by decide) (by omega) (.inr hdm)
      have hH := headL_len 0 dN
      simp only [hdd, Int.toNat_natCast, c1, c2, c3, c4, c5, c6, strOf_app, strOf_size, List.append_assoc, List.length_append, List.length_cons, List.length_nil, br_t, br_f]
      refine ⟨by omega, ?_⟩
      rw [decide_eq_false (by omega), br_f, decide_eq_false (by omega), br_f]
      refine ⟨by simp only [rng]; omega, ⟨by omega, by omega⟩, by omega, by simp only [rng]; omega, by simp only [rng]; omega, by omega, ?_⟩
      refine ⟨L, G, k5 + d5, false, headL 0 dN ++ [10], 0, ⟨trivial, .inl ⟨by simp [headL, lnW, lnT, lnN, catL, hd0], rfl⟩, by omega, by omega, by omega, by omega, by simp only [List.length_append, List.length_cons, List.length_nil]; omega, by omega, fun k hk => absurd hk (Nat.not_lt_zero _)⟩, fun _ _ _ _ => trivial, fun hall => ⟨by decide, ?_⟩⟩
      obtain ⟨l1, l2⟩ := hle hall
      rw [decide_eq_true (by omega), br_t]
      simp only [rdJ_eq, k1, k2, rdC', rdT', rdE', rdN', rdO', ext, n1, n2, n3, Int.toNat_natCast, decide_true, br_t, br_f, List.length_append, List.length_cons, List.length_nil]
      repeat (first
        | refine And.intro (by first | omega | (simp only [rng]; omega)) ?_
        | (rw [decide_eq_true (by omega)]; try simp only [br_t]))
    · subst hs
      refine ⟨k5 + d5, 0, ⟨rfl, by omega, by omega⟩, fun x => ⟨by decide, ⟨by decide, by decide⟩, ByteArray.mk #[45], rfl, ?_⟩⟩
      obtain ⟨⟨x1, k1⟩, ⟨x2, k2⟩⟩ := key 45 dN (by decide) (by omega) (.inr hdm)
      have hH := headL_len 45 dN
      simp only [hdd, Int.toNat_natCast, c1, c2, c3, c4, c5, c6, strOf_app, strOf_size, List.append_assoc, List.length_append, List.length_cons, List.length_nil, br_t, br_f]
      refine ⟨by omega, ?_⟩
      rw [decide_eq_false (by omega), br_f, decide_eq_false (by omega), br_f]
      refine ⟨by simp only [rng]; omega, ⟨by omega, by omega⟩, by omega, by simp only [rng]; omega, by simp only [rng]; omega, by omega, ?_⟩
      refine ⟨L, G, k5 + d5, false, headL 45 dN ++ [10], 0, ⟨trivial, .inl ⟨by simp [headL, lnW, lnT, lnN, catL, hd0], rfl⟩, by omega, by omega, by omega, by omega, by simp only [List.length_append, List.length_cons, List.length_nil]; omega, by omega, fun k hk => absurd hk (Nat.not_lt_zero _)⟩, fun _ _ _ _ => trivial, fun hall => ⟨by decide, ?_⟩⟩
      obtain ⟨l1, l2⟩ := hle hall
      rw [decide_eq_false (by omega), br_f, decide_eq_true (by omega), br_t, hN1]
      simp only [rdJ_eq, k1, k2, rdC', rdT', rdE', rdN', rdO', ext, n1, n2, n3, Int.toNat_natCast, decide_true, br_t, br_f, List.length_append, List.length_cons, List.length_nil]
      repeat (first
        | refine And.intro (by first | omega | (simp only [rng]; omega)) ?_
        | (rw [decide_eq_true (by omega)]; try simp only [br_t]))
    · subst hs
      refine ⟨k5 + d5, 0, ⟨rfl, by omega, by omega⟩, fun x => ⟨by decide, ⟨by decide, by decide⟩, ByteArray.mk #[43], rfl, ?_⟩⟩
      obtain ⟨⟨x1, k1⟩, ⟨x2, k2⟩⟩ := key 43 dN (by decide) (by omega) (.inr hdm)
      have hH := headL_len 43 dN
      simp only [hdd, Int.toNat_natCast, c1, c2, c3, c4, c5, c6, strOf_app, strOf_size, List.append_assoc, List.length_append, List.length_cons, List.length_nil, br_t, br_f]
      refine ⟨by omega, ?_⟩
      rw [decide_eq_false (by omega), br_f, decide_eq_false (by omega), br_f]
      refine ⟨by simp only [rng]; omega, ⟨by omega, by omega⟩, by omega, by simp only [rng]; omega, by simp only [rng]; omega, by omega, ?_⟩
      refine ⟨L, G, k5 + d5, false, headL 43 dN ++ [10], 0, ⟨trivial, .inl ⟨by simp [headL, lnW, lnT, lnN, catL, hd0], rfl⟩, by omega, by omega, by omega, by omega, by simp only [List.length_append, List.length_cons, List.length_nil]; omega, by omega, fun k hk => absurd hk (Nat.not_lt_zero _)⟩, fun _ _ _ _ => trivial, fun hall => ⟨by decide, ?_⟩⟩
      obtain ⟨l1, l2⟩ := hle hall
      rw [decide_eq_false (by omega), br_f, decide_eq_false (by omega), br_f]
      simp only [rdJ_eq, k1, k2, rdC', rdT', rdE', rdN', rdO', ext, n1, n2, n3, Int.toNat_natCast, decide_true, br_t, br_f, List.length_append, List.length_cons, List.length_nil]
      repeat (first
        | refine And.intro (by first | omega | (simp only [rng]; omega)) ?_
        | (rw [decide_eq_true (by omega)]; try simp only [br_t]))

end Go.Mini
