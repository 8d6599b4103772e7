/- Trial: TagAlone by hand. -/
import Derived.Test.YtmceepmchfjinaaQx7
import Derived.RegionCalls
import Derived.IntWalk
import Derived.Deep.RegionHeld3
import Derived.KernelRfl
namespace Go.Proofs.Ytmceepmchfjinaa.Q
open Go.RowKit Go.Proofs.YtmceepmchfjinaaW.PrintWords Go.Proofs.YtmceepmchfjinaaW.PrintLast Go.Proofs.YtmceepmchfjinaaW.PrintMore
set_option linter.unusedVariables false
set_option linter.unusedSimpArgs false


def targumlaw12_TagAlone.core (v : Bool) (h u : ByteArray) (x : ByteArray) (l1 : List S39) (a2 : ByteArray) : Option Bool :=
  (tagname_Expand.f v h u (l1 ++ [⟨⟨#[33]⟩, a2⟩])).bind fun ap => (tagname_Expand.f v h u [⟨⟨#[33, 33]⟩, a2⟩]).bind fun bq =>
    if ap.2 = true ∧ bq.2 = true ∧ a2.size + x.size ≤ 1000000000000000 ∧ ap.1 = (if x.size = 0 then (⟨#[33]⟩ : ByteArray) else a2 ++ x) ∧ bq.1 = (⟨#[33]⟩ : ByteArray) ++ x then some true else none
def targumlaw12_TagAlone.f (k : Nat) (a0 : ByteArray) (l1 : List S39) (a2 : ByteArray) : Option Bool :=
  if targumlaw12_known.f = some true then (if (a0.size : Int) > 30 ∨ (l1.length : Int) > 30 then some true else
    (targumlaw12_tagged.f k a0 (⟨#[95, 46, 126, 42, 39, 40, 41, 59, 47, 63, 58, 64, 38, 61, 43, 36, 35, 37]⟩ : ByteArray)).bind fun x => (if x.size ≤ 1000 then (tagname_Read.f ((⟨#[33]⟩ : ByteArray) ++ x) 0).bind fun r =>
      (if r.1 = false ∧ r.2.1 = ⟨#[33]⟩ ∧ r.2.2.1 = x ∧ r.2.2.2.1 = 1 + (x.size : Int) ∧ r.2.2.2.2 = true then targumlaw12_TagAlone.core r.1 r.2.1 r.2.2.1 x l1 a2 else none) else none)) else none
theorem targumlaw12_TagAlone.mono : ∀ a0 a1 a2 k, LeO (targumlaw12_TagAlone.f k a0 a1 a2) (targumlaw12_TagAlone.f (k + 1) a0 a1 a2) := by
  intro a0 a1 a2 k
  unfold targumlaw12_TagAlone.f
  repeat' first
      | (with_reducible exact LeO.refl _)
      | exact targumlaw12_tagged.mono _ _ k
      | (with_reducible exact LeO.none _)
      | (with_reducible refine LeO.ite ?_ ?_)
      | (with_reducible refine LeO.bind ?_ (fun _ => ?_))

theorem keep_own {W : World} {v1 v : Value} {b : Nat} (hat : v1.ownBlock = v.ownBlock ∨ ∃ c, v1.ownBlock = some c ∧ W.heap.size ≤ c) (hv : v.ownBlock = none) (hb : b < W.heap.size) : some b ≠ v1.ownBlock := by
  rcases hat with h | ⟨c, h, hc⟩
  · rw [h, hv]; simp
  · rw [h]
    intro e
    have := Option.some.inj e
    omega

theorem readsLit (W : World) (ad : Addr) (x : S39) (h0 : W.cell? (ad.add 0) = some (.string x.f0)) (h1 : W.cell? (ad.add 1) = some (.string x.f1)) : ReadsRow (k39.K W) k39.sz W (some ad) 1 [x] := by
  refine ⟨rfl, by omega, fun _ => ⟨ad, rfl, fun j p hj => ?_⟩⟩
  rcases j with _ | j
  · have hp : x = p := by simpa using hj
    subst hp
    refine ⟨[.string x.f0, .string x.f1], rfl, k39_mk W x, fun i u hu => ?_⟩
    rcases i with _ | _ | i
    · simp at hu; subst hu; simpa using h0
    · simp at hu; subst hu; simpa using h1
    · simp at hu
  · simp at hj

theorem litA (W : World) (x : S39) : ReadsRow (k39.K (W.alloc (Obj.cells #[.string x.f0, .string x.f1] 39))) k39.sz (W.alloc (Obj.cells #[.string x.f0, .string x.f1] 39)) (some ⟨W.heap.size, 0, none⟩) 1 [x] :=
  readsLit _ _ _ (by simp [go_sem, Addr.add]) (by simp [go_sem, Addr.add])
theorem litB {W w1 : World} {v : Value} (x : S39) (hg : (W.alloc (Obj.cells #[.string x.f0, .string x.f1] 39)).drew.grownBy w1 v.ownBlock) (hv : v.ownBlock = none) : ReadsRow (k39.K w1) k39.sz w1 (some ⟨W.heap.size, 0, none⟩) 1 [x] :=
  readsLit _ _ _ (hg.cell (by simp [go_sem, Addr.add]) (by rw [hv]; simp)) (hg.cell (by simp [go_sem, Addr.add]) (by rw [hv]; simp))

theorem inf39 : (Try.prog.info? 39).map (fun i => (i.zero, i.size, i.bytes)) = some (some (.agg #[.string ⟨#[]⟩, .string ⟨#[]⟩]), 2, 32) := by kernel_rfl

set_option maxHeartbeats 1000000 in
theorem TagAlone_walk (a0 x a2 : ByteArray) (A1 : Option Addr) (c1 : Nat) (l1 : List S39) (w : World) (hr1 : Kd.C k39 w A1 l1.length l1) (hc1 : l1.length ≤ c1) (h0 : a0.size ≤ 30) (h1 : l1.length ≤ 30) (hx : x.size ≤ 1000) (hax : a2.size + x.size ≤ 1000000000000000)
    (pa : ByteArray) (ee : Bool) (hee : (x.toList == ([] : List UInt8)) = ee) (he1 : ee = true → (pa.toList == ([33] : List UInt8)) = true ∧ (((⟨#[33]⟩ : ByteArray) ++ x).toList == ([33] : List UInt8)) = true) (he2 : ee = false → pa = a2 ++ x)
    (cK : ∀ w, Calls Try.prog 7 #[] w fun e w' => e = .returned (.bool true) ∧ Below w.heap.size w w')
    (cT : ∀ w, Calls Try.prog 17 #[.string a0, .string (⟨#[95, 46, 126, 42, 39, 40, 41, 59, 47, 63, 58, 64, 38, 61, 43, 36, 35, 37]⟩ : ByteArray)] w fun e w' => e = .returned (.string x) ∧ Drawn0 w w')
    (cR : ∀ w, Calls Try.prog 9 #[.string ((⟨#[33]⟩ : ByteArray) ++ x), .int .i64 0] w fun e w' => e = .returned (.tuple #[.agg #[.bool false, .string ⟨#[33]⟩, .string x], .int .i64 (1 + (x.size : Int)), .bool true]) ∧ Below w.heap.size w w')
    (cE : ∀ (A : Option Addr) (n c : Nat) w, n = (l1 ++ [(⟨⟨#[33]⟩, a2⟩ : S39)]).length → Kd.C k39 w A n (l1 ++ [⟨⟨#[33]⟩, a2⟩]) → n ≤ c →
       Calls Try.prog 11 #[.agg #[.bool false, .string ⟨#[33]⟩, .string x], .slice A n c] w fun e w' => e = .returned (.tuple #[.string pa, .bool true]) ∧ Below w.heap.size w w')
    (cE2 : ∀ (A : Option Addr) (c : Nat) w, Kd.C k39 w A 1 [⟨⟨#[33, 33]⟩, a2⟩] → 1 ≤ c →
       Calls Try.prog 11 #[.agg #[.bool false, .string ⟨#[33]⟩, .string x], .slice A 1 c] w fun e w' => e = .returned (.tuple #[.string ((⟨#[33]⟩ : ByteArray) ++ x), .bool true]) ∧ Below w.heap.size w w') :
    Calls Try.prog 6 #[.string a0, .slice A1 l1.length c1, .string a2] w fun e w' => e = .returned (.bool true) ∧ Below w.heap.size w w' := by
  have hu := Try.underlying23
  have d0 : decide (30 < (a0.size : Int)) = false := decide_eq_false (by omega)
  have d1 : decide (30 < (l1.length : Int)) = false := decide_eq_false (by omega)
  have d2 : ((1 + (x.size : Int)) != 1 + (x.size : Int)) = false := bne_self_eq_false _
  have d3 : decide ((30 : Int) < (a0.size : Int)) = false := decide_eq_false (by omega)
  go_enter Try.func6, Try.ntmps6
  go_wp2_with (first | ((with_reducible refine (cK _).mono ?_); rintro e wk ⟨rfl, hbk⟩) | ((with_reducible refine (cT _).mono ?_); rintro e w' ⟨rfl, ⟨n2, rfl⟩⟩) | ((with_reducible refine (cR _).mono ?_); rintro e wr ⟨rfl, hbr⟩; obtain ⟨hcr, hfr⟩ := bcell hbr))
  have hB0 : Below w.heap.size w (wr.alloc (Obj.cells #[.bool false, .string ⟨#[33]⟩, .string x] 23)) := by
    refine below_alloc ?_ _
    exact below_step (pw_below_drewN hbk _) hbr
  have hz0 : (wr.alloc (Obj.cells #[.bool false, .string ⟨#[33]⟩, .string x] 23)).cell? ⟨wr.heap.size, 0, none⟩ = some (.bool false) := by simp [go_sem]
  have hz1 : (wr.alloc (Obj.cells #[.bool false, .string ⟨#[33]⟩, .string x] 23)).cell? ⟨wr.heap.size, 1, none⟩ = some (.string ⟨#[33]⟩) := by simp [go_sem]
  have hz2 : (wr.alloc (Obj.cells #[.bool false, .string ⟨#[33]⟩, .string x] 23)).cell? ⟨wr.heap.size, 2, none⟩ = some (.string x) := by simp [go_sem]
  have hlt : wr.heap.size < (wr.alloc (Obj.cells #[.bool false, .string ⟨#[33]⟩, .string x] 23)).heap.size := by simp
  generalize (wr.alloc (Obj.cells #[.bool false, .string ⟨#[33]⟩, .string x] 23)) = W0 at hB0 hz0 hz1 hz2 hlt ⊢
  generalize wr.heap.size = b at hz0 hz1 hz2 hlt ⊢
  clear hcr hfr hbr hbk
  go_region_held3 (fun W' => W'.cell? ⟨b, 0, none⟩ = some (.bool false) ∧ W'.cell? ⟨b, 1, none⟩ = some (.string ⟨#[33]⟩) ∧ W'.cell? ⟨b, 2, none⟩ = some (.string x)) (first
      | exact ⟨s0, s1, s2⟩
      | exact ⟨((bcell (W := w2) (by repeat (first | exact Below.refl _ _ | apply below_alloc | apply pw_below_drewN | apply below_drew1))).1 b 0 hb2).trans r0, ((bcell (W := w2) (by repeat (first | exact Below.refl _ _ | apply below_alloc | apply pw_below_drewN | apply below_drew1))).1 b 1 hb2).trans r1, ((bcell (W := w2) (by repeat (first | exact Below.refl _ _ | apply below_alloc | apply pw_below_drewN | apply below_drew1))).1 b 2 hb2).trans r2⟩
      | exact ⟨((bcell (W := w1) (by repeat (first | exact Below.refl _ _ | apply below_alloc | apply pw_below_drewN | apply below_drew1))).1 b 0 hb1).trans q0, ((bcell (W := w1) (by repeat (first | exact Below.refl _ _ | apply below_alloc | apply pw_below_drewN | apply below_drew1))).1 b 1 hb1).trans q1, ((bcell (W := w1) (by repeat (first | exact Below.refl _ _ | apply below_alloc | apply pw_below_drewN | apply below_drew1))).1 b 2 hb1).trans q2⟩
      | exact ⟨((bcell (W := W0) (by repeat (first | exact Below.refl _ _ | apply below_alloc | apply pw_below_drewN | apply below_drew1))).1 b 0 hlt).trans hz0, ((bcell (W := W0) (by repeat (first | exact Below.refl _ _ | apply below_alloc | apply pw_below_drewN | apply below_drew1))).1 b 1 hlt).trans hz1, ((bcell (W := W0) (by repeat (first | exact Below.refl _ _ | apply below_alloc | apply pw_below_drewN | apply below_drew1))).1 b 2 hlt).trans hz2⟩)
    (first
      | (((fail_if_success go_at_call 11); refine Kd.R_append_rows_step k39 (w0 := w) w.heap.size (by rfl) (.const (.slice none 0 0)) (.tmp 51) 24 39 (.agg #[.string ⟨#[]⟩, .string ⟨#[]⟩]) 32 (by rfl) Try.underlying24 inf39 rfl (by decide) (by omega) (.slice none 0 0) [] l1 A1 l1.length c1 (fun _ => True) (fun _ => False) (by rfl) (by rfl) (Kd.R_nil _ _ _ _ _) (Kd.C_below hr1 (by repeat (first | exact hB0 | exact hB1 | apply below_alloc | apply pw_below_drewN | apply below_drew1))) (fun _ _ h => h) (fun _ h => h.elim) (fun _ _ => trivial) (by repeat (first | exact hB0 | exact hB1 | apply below_alloc | apply pw_below_drewN | apply below_drew1)) (Below.size (by repeat (first | exact hB0 | exact hB1 | apply below_alloc | apply pw_below_drewN | apply below_drew1))) (by simp; omega) ?_); intro v1 w1 hR1 hB1 hg1 hat1; have hs1 := hg1.size; have hb1 : b < w1.heap.size := (by (try simp at hs1); omega); have q0 : w1.cell? ⟨b, 0, none⟩ = some (.bool false) := hg1.cell (a := ⟨b, 0, none⟩) (((bcell (W := W0) (by repeat (first | exact Below.refl _ _ | apply below_alloc | apply pw_below_drewN | apply below_drew1))).1 b 0 hlt).trans hz0) (by simp [Value.ownBlock]); have q1 : w1.cell? ⟨b, 1, none⟩ = some (.string ⟨#[33]⟩) := hg1.cell (a := ⟨b, 1, none⟩) (((bcell (W := W0) (by repeat (first | exact Below.refl _ _ | apply below_alloc | apply pw_below_drewN | apply below_drew1))).1 b 1 hlt).trans hz1) (by simp [Value.ownBlock]); have q2 : w1.cell? ⟨b, 2, none⟩ = some (.string x) := hg1.cell (a := ⟨b, 2, none⟩) (((bcell (W := W0) (by repeat (first | exact Below.refl _ _ | apply below_alloc | apply pw_below_drewN | apply below_drew1))).1 b 2 hlt).trans hz2) (by simp [Value.ownBlock]))
      | (((fail_if_success go_at_call 11); refine Kd.R_append_rows_step k39 (w0 := w) w.heap.size (by rfl) (.tmp 52) (.tmp 55) 24 39 (.agg #[.string ⟨#[]⟩, .string ⟨#[]⟩]) 32 (by rfl) Try.underlying24 inf39 rfl (by decide) (by omega) v1 ([] ++ l1) [⟨⟨#[33]⟩, a2⟩] (some _) 1 1 (fun _ => True) (fun _ => False) (by rfl) (by rfl) (by repeat (first | exact hR1 | apply Kd.R_alloc | apply Kd.R_drewN | apply Kd.R_drew)) (litA _ ⟨⟨#[33]⟩, a2⟩) (fun _ _ h => h) (fun _ h => h.elim) (fun _ _ => trivial) (by repeat (first | exact hB0 | exact hB1 | apply below_alloc | apply pw_below_drewN | apply below_drew1)) (Below.size (by repeat (first | exact hB0 | exact hB1 | apply below_alloc | apply pw_below_drewN | apply below_drew1))) (by simp; omega) ?_); intro v2 w2 hR2 hB2 hg2 hat2; have hs2 := hg2.size; have hb2 : b < w2.heap.size := (by (try simp at hs2); omega); have r0 : w2.cell? ⟨b, 0, none⟩ = some (.bool false) := hg2.cell (a := ⟨b, 0, none⟩) (((bcell (W := w1) (by repeat (first | exact Below.refl _ _ | apply below_alloc | apply pw_below_drewN | apply below_drew1))).1 b 0 hb1).trans q0) (keep_own hat1 rfl (by first | omega | (simp; omega))); have r1 : w2.cell? ⟨b, 1, none⟩ = some (.string ⟨#[33]⟩) := hg2.cell (a := ⟨b, 1, none⟩) (((bcell (W := w1) (by repeat (first | exact Below.refl _ _ | apply below_alloc | apply pw_below_drewN | apply below_drew1))).1 b 1 hb1).trans q1) (keep_own hat1 rfl (by first | omega | (simp; omega))); have r2 : w2.cell? ⟨b, 2, none⟩ = some (.string x) := hg2.cell (a := ⟨b, 2, none⟩) (((bcell (W := w1) (by repeat (first | exact Below.refl _ _ | apply below_alloc | apply pw_below_drewN | apply below_drew1))).1 b 2 hb1).trans q2) (keep_own hat1 rfl (by first | omega | (simp; omega))); obtain ⟨A9, c9, rfl, hc9, hC9⟩ := Kd.R_reads hR2)
      | (((fail_if_success go_at_call 11); refine Kd.R_append_rows_step k39 (w0 := w) w.heap.size (by rfl) (.tmp 52) (.tmp 55) 24 39 (.agg #[.string ⟨#[]⟩, .string ⟨#[]⟩]) 32 (by rfl) Try.underlying24 inf39 rfl (by decide) (by omega) v1 ([] ++ l1) [⟨⟨#[33]⟩, a2⟩] (some _) 1 1 (fun _ => True) (fun _ => False) (by rfl) (by rfl) (by repeat (first | exact hR1 | apply Kd.R_alloc | apply Kd.R_drewN | apply Kd.R_drew)) (litB ⟨⟨#[33]⟩, a2⟩ hg1 rfl) (fun _ _ h => h) (fun _ h => h.elim) (fun _ _ => trivial) (by repeat (first | exact hB0 | exact hB1 | apply below_alloc | apply pw_below_drewN | apply below_drew1)) (Below.size (by repeat (first | exact hB0 | exact hB1 | apply below_alloc | apply pw_below_drewN | apply below_drew1))) (by simp; omega) ?_); intro v2 w2 hR2 hB2 hg2 hat2; have hs2 := hg2.size; have hb2 : b < w2.heap.size := (by (try simp at hs2); omega); have r0 : w2.cell? ⟨b, 0, none⟩ = some (.bool false) := hg2.cell (a := ⟨b, 0, none⟩) (((bcell (W := w1) (by repeat (first | exact Below.refl _ _ | apply below_alloc | apply pw_below_drewN | apply below_drew1))).1 b 0 hb1).trans q0) (keep_own hat1 rfl (by first | omega | (simp; omega))); have r1 : w2.cell? ⟨b, 1, none⟩ = some (.string ⟨#[33]⟩) := hg2.cell (a := ⟨b, 1, none⟩) (((bcell (W := w1) (by repeat (first | exact Below.refl _ _ | apply below_alloc | apply pw_below_drewN | apply below_drew1))).1 b 1 hb1).trans q1) (keep_own hat1 rfl (by first | omega | (simp; omega))); have r2 : w2.cell? ⟨b, 2, none⟩ = some (.string x) := hg2.cell (a := ⟨b, 2, none⟩) (((bcell (W := w1) (by repeat (first | exact Below.refl _ _ | apply below_alloc | apply pw_below_drewN | apply below_drew1))).1 b 2 hb1).trans q2) (keep_own hat1 rfl (by first | omega | (simp; omega))); obtain ⟨A9, c9, rfl, hc9, hC9⟩ := Kd.R_reads hR2)
      | (go_at_call 11; (refine (cE _ _ _ _ ?h1 ?h2 ?h3).mono ?_); (case h1 => simp); (case h2 => simpa using (Kd.C_below hC9 (by repeat (first | exact Below.refl _ _ | apply pw_below_drewN | apply below_drew1)))); (case h3 => simpa using hc9); rintro e w3 ⟨rfl, hb3⟩; have hs3 := hb3.size; have s0 := ((bcell hb3).1 b 0 (by first | exact hb2 | (simp; omega))).trans r0; have s1 := ((bcell hb3).1 b 1 (by first | exact hb2 | (simp; omega))).trans r1; have s2 := ((bcell hb3).1 b 2 (by first | exact hb2 | (simp; omega))).trans r2; dsimp only))
  all_goals
    have hb3b : b < w3.heap.size := by
      have h_ := hb3.size
      first
        | omega
        | (simp at h_; omega)
    have hB3 : Below w.heap.size w w3 := below_step (by repeat (first | exact hB2 | apply pw_below_drewN | apply below_drew1)) hb3
    go_wp2_with (first | ((with_reducible refine (cE2 _ _ _ ?h2 ?h3).mono ?_); (case h2 => exact readsLit _ _ _ (by simp [go_sem, Addr.add]) (by simp [go_sem, Addr.add])); (case h3 => omega); rintro e w4 ⟨rfl, hb4⟩))
  all_goals
    go_ret
    exact ⟨by first | rfl | simp, below_step (by repeat (first | exact hB3 | apply below_alloc | apply pw_below_drewN | apply below_drew1)) hb4⟩

end Go.Proofs.Ytmceepmchfjinaa.Q
