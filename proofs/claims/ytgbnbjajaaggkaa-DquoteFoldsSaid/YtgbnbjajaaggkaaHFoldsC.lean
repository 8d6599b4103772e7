/- The law DquoteFolds: what it makes is read as it should be, so the law answers true. Conditions: the row's bounds. -/
import Derived.Test.YtgbnbjajaaggkaaHFolds
namespace Go.Proofs.Ytgbnbjajaaggkaa.Q
open Go Go.RowKit Go.Proofs Go.Proofs.YtgbnbjajaaggkaaW.PrintWords Go.Proofs.YtgbnbjajaaggkaaW.PrintLast Go.Proofs.YtgbnbjajaaggkaaW.PrintMore
set_option linter.unusedVariables false
set_option linter.unusedSimpArgs false

theorem brks_is (v : Int) (nb : Nat) (h : nb < 4) (h3 : nb = 3 → v = 11) (c : UInt8) (t : List UInt8) (hc : blankB c) : isBrk v (brks.getD nb []) (c :: t) ∧ ∀ d u, brks.getD nb [] = d :: u → ¬ blankB d := by
  rcases (by omega : nb = 0 ∨ nb = 1 ∨ nb = 2 ∨ nb = 3) with rfl | rfl | rfl | rfl
  · exact ⟨isBrk_lf v _, fun d u e => by rw [← (List.cons.inj e).1]; decide⟩
  · exact ⟨isBrk_crlf v _, fun d u e => by rw [← (List.cons.inj e).1]; decide⟩
  · refine ⟨isBrk_cr v _ ?_, fun d u e => by rw [← (List.cons.inj e).1]; decide⟩
    rcases hc with rfl | rfl <;> exact fun h => absurd (Option.some.inj h) (by decide)
  · obtain rfl := h3 rfl
    exact ⟨isBrk_nel _, fun d u e => by rw [← (List.cons.inj e).1]; decide⟩

/-- Behind a first break: so many lines of two blanks each, then the next part. -/
def gapT (b p : List UInt8) : Nat → List UInt8
  | 0 => [9, 32] ++ p
  | m + 1 => [32, 32] ++ (b ++ gapT b p m)
theorem gapT_eq (b p : List UInt8) (m : Nat) : b ++ gapS b m ++ [9, 32] ++ p = b ++ gapT b p m := by
  have h : ∀ m, gapS b m ++ [9, 32] ++ p = gapT b p m := by
    intro m
    induction m with
    | zero => rfl
    | succ m ih =>
      unfold gapS at ih ⊢
      rw [List.replicate_succ, List.flatten_cons, gapT, ← ih]
      simp
  rw [← h m]
  simp
theorem gapT_head (b p : List UInt8) (m : Nat) : ∃ c t, gapT b p m = c :: t ∧ blankB c := by
  cases m with
  | zero => exact ⟨9, _, rfl, by decide⟩
  | succ m => exact ⟨32, _, rfl, by decide⟩
def pHead (p : List UInt8) : Prop := ∃ t, p = 113 :: t
theorem gap_fold {v : Int} {s : ByteArray} {nb : Nat} (h : nb < 4) (h3 : nb = 3 → v = 11) {p : List UInt8} (hp : pHead p) : ∀ (m k n a : Nat), rest s a = brks.getD nb [] ++ gapT (brks.getD nb []) p m →
    ∃ e, foldN v s (k + m + 2) n a = (some (n + m + 1), e) ∧ rest s e = p ∧ a ≤ e := by
  obtain ⟨t, rfl⟩ := hp
  have nq : noBlank (113 :: t) := word_noBlank (by decide)
  have bq : brkL (v == 11) (113 :: t) = 0 := not_brk _ _ _ (by decide) (by decide) (by decide) (by decide)
  intro m
  induction m with
  | zero =>
    intro k n a hr
    have hs := foldN_step (v := v) (k := k + 1) (n := n) (b := brks.getD nb []) (w := [9, 32]) (l := 113 :: t) hr (brks_is v nb h h3 9 _ (by decide)).1
      (by intro c hc; simp at hc; rcases hc with rfl | rfl <;> decide) nq (fun x y e => by rw [← (List.cons.inj e).1]; decide)
    refine ⟨_, ?_, hs.2, by omega⟩
    rw [show k + 0 + 2 = (k + 1) + 1 by omega, hs.1, foldN_end (by rw [hs.2]; exact bq)]
  | succ m ih =>
    intro k n a hr
    obtain ⟨c, u, hcu, hcb⟩ := gapT_head (brks.getD nb []) (113 :: t) m
    have hbb := brks_is v nb h h3 c u hcb
    have hs := foldN_step (v := v) (k := k + m + 2) (n := n) (b := brks.getD nb []) (w := [32, 32]) (l := brks.getD nb [] ++ gapT (brks.getD nb []) (113 :: t) m) hr (brks_is v nb h h3 32 _ (by decide)).1
      (by intro c hc; simp at hc; rw [hc]; decide) (by
        intro d w e
        have hpos := hbb.1.1
        cases hq : brks.getD nb [] with
        | nil => rw [hq] at hpos; exact absurd hpos (by decide)
        | cons d' w' =>
          rw [hq] at e
          rw [← (List.cons.inj e).1]
          exact hbb.2 d' w' hq) (fun x y e => by rw [← (List.cons.inj e).1]; decide)
    obtain ⟨e, he, hre, hle⟩ := ih k (n + 1) _ hs.2
    refine ⟨e, ?_, hre, by omega⟩
    rw [show k + (m + 1) + 2 = (k + m + 2) + 1 by omega, hs.1, he]
    congr 2
    omega

theorem partL_word (x : ByteArray) : ∀ c ∈ partL x, wordB2 c := by
  intro c hc
  rcases List.mem_cons.1 hc with rfl | h
  · exact ⟨⟨by decide, by decide, by decide, by decide⟩, by decide, by decide, by decide, by decide⟩
  · exact lets_word c h

/-- What is behind the first k parts. -/
theorem foldS_tail (l : List ByteArray) (g : List Int) (b : List UInt8) : ∀ (d k : Nat), 0 < k → ∃ t, foldS l g b (k + d) ++ [34] = foldS l g b k ++ t
  | 0, k, h => ⟨[34], rfl⟩
  | d + 1, k, h => by
    obtain ⟨t, ht⟩ := foldS_tail l g b d (k + 1) (by omega)
    refine ⟨[32, 9] ++ b ++ gapS b (gapN g k) ++ [9, 32] ++ partL (l.getD k ⟨#[]⟩) ++ t, ?_⟩
    rw [show k + (d + 1) = k + 1 + d by omega, ht, foldS_succ l g b k h]
    simp
theorem gapN_lt (g : List Int) (k : Nat) : gapN g k < 4 := by unfold gapN; omega

theorem folds_goes (l : List ByteArray) (g : List Int) (v : Int) (nb : Nat) (h : nb < 4) (h3 : nb = 3 → v = 11) (n : Nat) (s : ByteArray) (hs : s.size ≤ 1000000) (h0 : rest s 0 = foldS l g (brks.getD nb []) n ++ [34]) :
    ∀ (k : Nat), 0 < k → k ≤ n → Goes v s 1 [] (foldS l g (brks.getD nb []) k).length (foldW l g k) := by
  have at_ : ∀ k t, foldS l g (brks.getD nb []) n ++ [34] = foldS l g (brks.getD nb []) k ++ t → rest s (foldS l g (brks.getD nb []) k).length = t := by
    intro k t ht
    rw [ht] at h0
    have := rest_append h0
    rw [Nat.zero_add] at this
    exact this
  intro k
  induction k with
  | zero => intro hk; omega
  | succ k ih =>
    intro hk hkn
    by_cases hk0 : k = 0
    · subst hk0
      obtain ⟨t, ht⟩ := foldS_tail l g (brks.getD nb []) (n - 1) 1 (by decide)
      rw [show 1 + (n - 1) = n by omega] at ht
      have e : rest s 0 = 34 :: (partL (l.getD 0 ⟨#[]⟩) ++ t) := by rw [h0, ht]; rfl
      have := goes_word (v := v) (l := []) (rest_head e).2 (partL_word _)
      have el : (foldS l g (brks.getD nb []) (0 + 1)).length = 0 + 1 + (partL (l.getD 0 ⟨#[]⟩)).length := by
        show ([34] ++ partL (l.getD 0 ⟨#[]⟩)).length = _
        rw [List.length_append]
        rfl
      rw [el]
      exact this
    · have g1 := ih (by omega) (by omega)
      obtain ⟨t, ht⟩ := foldS_tail l g (brks.getD nb []) (n - (k + 1)) (k + 1) (by omega)
      rw [show k + 1 + (n - (k + 1)) = n by omega] at ht
      have ht1 := ht
      rw [foldS_succ l g _ k (by omega)] at ht1
      have hr : rest s (foldS l g (brks.getD nb []) k).length = [32, 9] ++ (brks.getD nb [] ++ gapT (brks.getD nb []) (partL (l.getD k ⟨#[]⟩) ++ t) (gapN g k)) := by
        rw [← gapT_eq]
        exact at_ k _ (by rw [ht1]; simp)
      have hr2 := rest_append hr
      have hgl := gapN_lt g k
      have hsz : 8 ≤ s.size := by
        have := rest_length s (foldS l g (brks.getD nb []) k).length
        rw [hr] at this
        have hp : 0 < (partL (l.getD k ⟨#[]⟩)).length := by unfold partL; simp
        have hb := (brks_is v nb h h3 9 [] (by decide)).1.1
        have hgt : 3 ≤ (gapT (brks.getD nb []) (partL (l.getD k ⟨#[]⟩) ++ t) (gapN g k)).length := by
          cases hgk : gapN g k with
          | zero => rw [gapT, List.length_append, List.length_append]; simp only [List.length_cons, List.length_nil]; omega
          | succ m => rw [gapT, List.length_append, List.length_append]; simp only [List.length_cons, List.length_nil]; omega
        have hf : 2 ≤ (foldS l g (brks.getD nb []) k).length := by
          obtain ⟨j, rfl⟩ : ∃ j, k = j + 1 := ⟨k - 1, by omega⟩
          cases j with
          | zero => show 2 ≤ ([34] ++ partL (l.getD 0 ⟨#[]⟩)).length; unfold partL; simp
          | succ j => rw [foldS_succ l g _ (j + 1) (by omega)]; simp only [List.length_append, List.length_cons, List.length_nil]; omega
        rw [List.length_append, List.length_append] at this
        simp only [List.length_cons, List.length_nil] at this
        omega
      obtain ⟨e, he, hre, hle⟩ := gap_fold h h3 (p := partL (l.getD k ⟨#[]⟩) ++ t) ⟨_, rfl⟩ (gapN g k) (s.size - 1 - gapN g k) 0 _ hr2
      rw [show s.size - 1 - gapN g k + gapN g k + 2 = s.size + 1 by omega] at he
      obtain ⟨c, u, hcu, hcb⟩ := gapT_head (brks.getD nb []) (partL (l.getD k ⟨#[]⟩) ++ t) (gapN g k)
      have hbb := brks_is v nb h h3 c u hcb
      have hnb : noBlank (brks.getD nb [] ++ gapT (brks.getD nb []) (partL (l.getD k ⟨#[]⟩) ++ t) (gapN g k)) := by
        intro d w e
        have hpos := hbb.1.1
        cases hq : brks.getD nb [] with
        | nil => rw [hq] at hpos; exact absurd hpos (by decide)
        | cons d' w' =>
          rw [hq] at e
          rw [← (List.cons.inj e).1]
          exact hbb.2 d' w' hq
      have hkk : 0 < brkL (v == 11) (brks.getD nb [] ++ gapT (brks.getD nb []) (partL (l.getD k ⟨#[]⟩) ++ t) (gapN g k)) := by
        rw [hcu, hbb.1.2]
        exact hbb.1.1
      have g2 := goes_fold (v := v) (l := foldW l g k) hr (by intro c hc; simp at hc; rcases hc with rfl | rfl <;> decide) hnb hkk hs he
      have g3 := goes_word (v := v) (l := foldW l g k ++ foldedL (0 + gapN g k + 1)) hre (partL_word _)
      have hend : e + (partL (l.getD k ⟨#[]⟩)).length = (foldS l g (brks.getD nb []) (k + 1)).length := by
        have a1 := at_ (k + 1) t ht
        have a2 := rest_append hre
        have b1 := rest_length s (foldS l g (brks.getD nb []) (k + 1)).length
        have b2 := rest_length s (e + (partL (l.getD k ⟨#[]⟩)).length)
        have c1 := rest_length s e
        rw [a1] at b1
        rw [a2] at b2
        rw [hre, List.length_append] at c1
        have hp : 0 < (partL (l.getD k ⟨#[]⟩)).length := by unfold partL; simp
        have b0 := rest_length s 0
        rw [h0, ht, List.length_append] at b0
        omega
      rw [hend] at g3
      have hw : foldW l g k ++ foldedL (0 + gapN g k + 1) ++ partL (l.getD k ⟨#[]⟩) = foldW l g (k + 1) := by
        rw [foldW_succ l g k (by omega)]
        congr 1
        rw [List.append_assoc]
        congr 1
        unfold foldedL
        by_cases hz : gapN g k = 0
        · rw [hz]; rfl
        · rw [if_neg (by omega), if_neg hz, List.append_nil, show 0 + gapN g k + 1 - 1 = gapN g k by omega]
          generalize gapN g k = m
          induction m with
          | zero => rfl
          | succ m ih => show [10] ++ Lib.repeatL [10] m = _; rw [ih]; rfl
      rw [hw] at g3
      exact (g1.trans g2).trans g3

theorem folds_read (l : List ByteArray) (g : List Int) (v : Int) (nb : Nat) (h : nb < 4) (h3 : nb = 3 → v = 11) (h1 : 1 ≤ l.length) (hs : (foldS l g (brks.getD nb []) l.length).length ≤ 10000) :
    readF v (txt (foldS l g (brks.getD nb []) l.length ++ [34])) 0 = (txt (foldW l g l.length), ((foldS l g (brks.getD nb []) l.length).length : Int) + 1, 0, 0) := by
  have h0 := rest_txt (foldS l g (brks.getD nb []) l.length ++ [34])
  have hz : (txt (foldS l g (brks.getD nb []) l.length ++ [34])).size ≤ 1000000 := by rw [txt_size, List.length_append]; simp only [List.length_cons, List.length_nil]; omega
  have gg := folds_goes l g v nb h h3 l.length _ hz h0 l.length (by omega) (Nat.le_refl _)
  obtain ⟨t, ht⟩ := foldS_tail l g (brks.getD nb []) (l.length - 1) 1 (by decide)
  rw [show 1 + (l.length - 1) = l.length by omega] at ht
  have h34 : rest (txt (foldS l g (brks.getD nb []) l.length ++ [34])) 0 = 34 :: (partL (l.getD 0 ⟨#[]⟩) ++ t) := by rw [h0, ht]; rfl
  have he := rest_append h0
  rw [Nat.zero_add] at he
  exact Goes.read (i := 0) (rest_lt h34) (rest_head h34).1 gg he

/-- The law, as its row wants it. -/
def targumlaw17_DquoteFolds.f (k : Nat) (l0 : List ByteArray) (l1 : List Int) (a2 : Int) (a3 : Bool) : Option Bool :=
  if ((∀ x ∈ l0, x.size ≤ 140737488351232) ∧ l0.length * 16 ≤ 140737488351232) ∧ ((∀ x ∈ l1, (Lit.int .u8 x).wf = true) ∧ l1.length * 1 ≤ 140737488351232) ∧ (Lit.int .u8 a2).wf = true then some true else none
theorem u8_wf {x : Int} (h : (Lit.int .u8 x).wf = true) : 0 ≤ x ∧ x < 256 := by
  simp only [Lit.wf, Bool.and_eq_true, decide_eq_true_eq] at h
  have e0 : IntKind.u8.min = 0 := rfl
  have e1 : IntKind.u8.max = 255 := rfl
  omega
theorem foldS_length (l : List ByteArray) (g : List Int) (nb : Nat) (h : nb < 4) (hl : ∀ (j : Nat) (hj : j < l.length), l[j].size ≤ 30) : ∀ k, k ≤ l.length → (foldS l g (brks.getD nb []) k).length ≤ 1 + 60 * k := by
  have hb : (brks.getD nb []).length ≤ 2 := (brks_at nb h).1
  have hp : ∀ k, k < l.length → (partL (l.getD k ⟨#[]⟩)).length ≤ 31 := fun k hk => by
    have e : l.getD k ⟨#[]⟩ = l[k] := by simp [List.getD, hk]
    rw [e]
    unfold partL
    rw [List.length_cons, lets_length]
    have := hl k hk
    have e2 : l[k].data.toList.length = l[k].size := by rw [Array.length_toList]; rfl
    omega
  have hgs : ∀ m, m < 4 → (gapS (brks.getD nb []) m).length ≤ 12 := fun m hm => by
    unfold gapS
    rcases (by omega : m = 0 ∨ m = 1 ∨ m = 2 ∨ m = 3) with rfl | rfl | rfl | rfl <;>
    · simp only [List.replicate, List.flatten_cons, List.flatten_nil, List.length_append, List.length_cons, List.length_nil]
      omega
  intro k
  induction k with
  | zero => intro _; exact Nat.le_refl 1
  | succ k ih =>
    intro hk
    by_cases h0 : k = 0
    · subst h0
      have := hp 0 (by omega)
      show ([34] ++ partL (l.getD 0 ⟨#[]⟩)).length ≤ _
      rw [List.length_append]
      simp only [List.length_cons, List.length_nil]
      omega
    · have i := ih (by omega)
      have a := hp k (by omega)
      have c := hgs _ (gapN_lt g k)
      rw [foldS_succ l g _ k (by omega)]
      simp only [List.length_append, List.length_cons, List.length_nil]
      omega

theorem targumlaw17_DquoteFolds.calls (k : Nat) (A0 : Option Addr) (c0 : Nat) (l0 : List ByteArray) (A1 : Option Addr) (c1 : Nat) (l1 : List Int) (a2 : Int) (a3 : Bool) (r : Bool) (w : World)
    (hr0 : Kd.C Kd.string w A0 l0.length l0) (hc0 : l0.length ≤ c0) (hr1 : Kd.C (Kd.int .u8) w A1 l1.length l1) (hc1 : l1.length ≤ c1) (h : targumlaw17_DquoteFolds.f k l0 l1 a2 a3 = some r) :
    Calls Try.prog 5 #[.slice A0 l0.length c0, .slice A1 l1.length c1, .int .u8 a2, .bool a3] w fun e w' => e = .returned (.bool r) ∧ Below w.heap.size w w' := by
  unfold targumlaw17_DquoteFolds.f at h
  split at h
  case isFalse => cases h
  rename_i hs
  obtain ⟨⟨b1, b2⟩, ⟨b3, b4⟩, b5⟩ := hs
  obtain rfl := Option.some.inj h
  clear h
  have cK : ∀ w, Calls Try.prog 8 #[] w fun e w' => e = .returned (.bool true) ∧ Below w.heap.size w w' := fun w => targumlaw17_known.calls true w rfl
  by_cases he : 1 ≤ l0.length ∧ l0.length ≤ 8 ∧ l0.length ≤ l1.length
  case neg => exact folds_early l0 l1 A0 A1 c0 c1 a2 a3 w cK he (by omega)
  obtain ⟨v, hv, hv3⟩ : ∃ v, targumhelp_Version.f a3 = some v ∧ (a3 = true → v = 11) := by
    unfold targumhelp_Version.f
    cases a3
    · exact ⟨12, rfl, fun h => nomatch h⟩
    · exact ⟨11, rfl, fun _ => rfl⟩
  have w2 := u8_wf b5
  obtain ⟨nb, hn, hnb, h3⟩ : ∃ nb : Nat, (nb : Int) = (if a3 = true then a2 % 4 else a2 % 3) ∧ nb < 4 ∧ (nb = 3 → v = 11) := by
    cases a3
    · refine ⟨(a2 % 3).toNat, ?_, by omega, fun h => by omega⟩
      rw [if_neg (by decide)]
      omega
    · refine ⟨(a2 % 4).toNat, ?_, by omega, fun _ => hv3 rfl⟩
      rw [if_pos rfl]
      omega
  refine folds_walk l0 l1 A0 A1 c0 c1 a2 a3 nb v w cK (fun w => targumhelp_Version.calls a3 v w hv) he.1 he.2.1 he.2.2 (by omega) (fun i hi => ?_) (fun i hi => ?_) (fun i hi => u8_wf (b3 _ (List.getElem_mem hi))) w2 hnb hn (fun hok => ?_)
  · obtain ⟨ad, e, hcell⟩ := Kd.at_string hr0 (i : Int) (by omega) (by omega)
    refine ⟨ad, e, ?_⟩
    rw [show rdOf ByteArray.empty l0 (i : Int) = l0[i] from by unfold rdOf; simp [hi, List.getD]] at hcell
    simpa using hcell
  · obtain ⟨ad, e, hcell⟩ := Kd.at_int hr1 (i : Int) (by omega) (by omega)
    refine ⟨ad, e, ?_⟩
    rw [show rd l1 (i : Int) = l1[i] from by unfold rd; simp [hi, List.getD]] at hcell
    simpa using hcell
  · have := foldS_length l0 l1 nb hnb (fun j hj => (hok j hj).2) l0.length (Nat.le_refl _)
    exact folds_read l0 l1 v nb hnb h3 he.1 (by omega)
end Go.Proofs.Ytgbnbjajaaggkaa.Q
