/- Mini: a drawn region whose first operations are quiet, and that goes on in order. No condition. -/
import Derived.Test.YthllhoodbfnlaaaDoorMiniG
import Derived.Deep.Quiet
import Derived.StillTail
namespace Go.Mini
open Go Go.RowKit
set_option linter.unusedVariables false
set_option linter.unusedSimpArgs false

/-! A quiet head, then what the text has behind it, in order. -/
section
variable {P : Program} {ops : Array Oper} {md : Region.Mode} {C : World → Prop}

/-- f quiet operations, whatever order is picked, all of the first n; then L. -/
def quietHead (P : Program) (md : Region.Mode) (ops : Array Oper) (C : World → Prop) (n : Nat) (L : Array Bool → Act → Prop) : Nat → Array Bool → Act → Prop
  | 0, t, a => L t a
  | f + 1, t, a => Region.ready md ops t ≠ [] ∧ ∀ i ∈ Region.ready md ops t, i < n ∧ qOp P ops C i (quietHead P md ops C n L f (t.setIfInBounds i true)) a

theorem quietHead_any {n g : Nat} {L : Array Bool → Act → Prop} {Q : Exit → Act → World → Prop} (hL : ∀ t a w, C w → L t a → wpAny P md ops Q g t a w) (f : Nat) :
    ∀ (t : Array Bool) (a : Act) (w : World), C w → quietHead P md ops C n L f t a → wpAny P md ops Q (f + g) t a w := by
  induction f with
  | zero => intro t a w hw h; rw [Nat.zero_add]; exact hL _ _ _ hw h
  | succ f ih =>
    intro t a w hw h
    rw [show f + 1 + g = (f + g) + 1 from by omega]
    exact ⟨fun e => absurd e h.1, fun i hi => wpOp_of_qOp hw (fun a' w' hw' h' => ih _ a' w' hw' h') (h.2 i hi).2⟩

theorem quietHead_take {n i : Nat} {oi : Oper} {v : Value} {L : Array Bool → Act → Prop} (hi : ops[i]? = some oi) (hsel : ∀ (j : Nat) (o : Oper) cs b, ops[j]? = some o → o.op ≠ .select cs b)
    (hs : Region.sinkB md ops n = true) (hc : Region.chainB md ops n = true) (hn : n < ops.size) (hin : i < n) (hdone : ∀ t a, L t a → ∀ j ∈ Region.ready md ops t, n ≤ j) (f : Nat) :
    ∀ (t : Array Bool) (a : Act), HeadInv md ops n t →
      (∀ j oj, ops[j]? = some oj → j ≠ i → t.getD j true = false → (∀ e ∈ oj.after, Region.binds md e = true → e.on ≠ i) → oi.apart ops oj = true) →
      i ∈ Region.ready md ops t → YieldsIn P ops C oi v a → quietHead P md ops C n L f (t.setIfInBounds i true) (a.put oi.dst v) → quietHead P md ops C n L (f + 1) t a := by
  induction f with
  | zero =>
    intro t a inv _ hr hy H
    have hun := (mem_ready.1 hr).1
    refine ⟨fun h => (by rw [h] at hr; cases hr), fun j hj => ?_⟩
    have hjn : j < n := Nat.lt_of_not_le fun h => absurd hj (tail_waits hs hc hn inv _ i rfl hin hun j h)
    refine ⟨hjn, ?_⟩
    by_cases e : j = i
    · subst e; exact hy.qOp hi H
    · have := hdone _ _ H j (ready_mono hj e); omega
  | succ f ih =>
    intro t a inv hfree hr hy H
    have hun := (mem_ready.1 hr).1
    refine ⟨fun h => (by rw [h] at hr; cases hr), fun j hj => ?_⟩
    have hjn : j < n := Nat.lt_of_not_le fun h => absurd hj (tail_waits hs hc hn inv _ i rfl hin hun j h)
    refine ⟨hjn, ?_⟩
    by_cases e : j = i
    · subst e; exact hy.qOp hi H
    · obtain ⟨hjun, oj, hoj, hall⟩ := mem_ready.1 hj
      have hnot : ∀ e ∈ oj.after, Region.binds md e = true → e.on ≠ i := fun e he hb heq => by
        have h1 := hall e he hb
        rw [heq, getD_both hun] at h1
        cases h1
      have h2 := qOp_put hoj (hfree j oj hoj e hjun hnot) (fun cs b => hsel i oi cs b hi) (fun cs b => hsel j oj cs b hoj) hy (H.2 j (ready_mono hj e)).2
      refine qOp_mono (fun a' h3 => ih (t.setIfInBounds j true) a' (inv.set hj hjn) (fun k ok hk hki hku hno => hfree k ok hk hki ?_ hno) (ready_mono hr (Ne.symm e)) h3.1 ?_) h2
      · by_cases hjk : j = k
        · subst hjk; exact hjun
        · rw [getD_set_ne true hjk] at hku; exact hku
      · rw [Array.setIfInBounds_comm _ _ e]
        exact h3.2

theorem quietHead_lex {n g : Nat} {K : Act → Prop} (hsel : Region.noSelect ops = true) (hs : Region.sinkB md ops n = true) (hc : Region.chainB md ops n = true) (hn : n < ops.size) :
    ∀ (l : List Oper) (k : Nat) (t : Array Bool) (a : Act), (∀ j, j < l.length → l[j]? = ops[k + j]?) → k + l.length = n → HeadInv md ops n t →
    Region.lexHead md ops g l.length k t = true → wpQuiet P ops C K l a → quietHead P md ops C n (fun t' a' => Region.seqB md ops g n t' = true ∧ K a') l.length t a := by
  intro l
  induction l with
  | nil =>
    intro k t a _ hk _ hB h
    obtain rfl : k = n := by simpa using hk
    exact ⟨by simpa [Region.lexHead] using hB, h⟩
  | cons o l ih =>
    intro k t a hl hk inv hB h
    have h0 : ops[k]? = some o := by simpa using (hl 0 (by simp)).symm
    simp only [List.length_cons, Region.lexHead, Bool.and_eq_true] at hB
    obtain ⟨⟨hr, hf⟩, hB'⟩ := hB
    have hkn : k < n := by simp only [List.length_cons] at hk; omega
    have hst : qOp P ops C k (wpQuiet P ops C K l) a := by unfold qOp; simp only [h0]; exact h
    obtain ⟨v, hy, hK⟩ := yieldsIn_of_qOp h0 hst
    have hr' : k ∈ Region.ready md ops t := by simpa using hr
    exact quietHead_take h0 (Region.noSelect_spec hsel) hs hc hn hkn (fun t' a' hL => seqB_ready hL.1) l.length t a inv (Region.free_spec h0 hf) hr' hy
      (ih (k + 1) _ _ (fun j hj => by have := hl (j + 1) (by simp; omega); simpa [Nat.add_assoc, Nat.add_comm 1 j] using this) (by simp only [List.length_cons] at hk; omega) (inv.set hr' hkn) hB' hK)

/-- A region whose first n operations are quiet, all of them waited for by what is behind them, and that goes on in order. -/
theorem wpAny_quiet_tail {Q : Exit → Act → World → Prop} {a : Act} {w : World} {l : List Oper} (n : Nat) (hB : Region.lexTailB .any l.toArray n = true) (hC : C { w with drawn := w.drawn + 1 })
    (h : wpQuiet P l.toArray C (fun a' => ∀ w', C w' → wpList P l.toArray Q (l.drop n) a' w') (l.take n) a) : wpAny P .any l.toArray Q l.toArray.size (Array.replicate l.toArray.size false) a { w with drawn := w.drawn + 1 } := by
  simp only [Region.lexTailB, Bool.and_eq_true, decide_eq_true_eq] at hB
  obtain ⟨⟨⟨⟨hsel, hn⟩, hs⟩, hc⟩, hlex⟩ := hB
  have hn' : n < l.length := by simpa using hn
  have htl : (l.take n).length = n := by simp; omega
  have hdl : (l.drop n).length = l.toArray.size - n := by simp
  have inv0 : HeadInv .any l.toArray n (Array.replicate l.toArray.size false) :=
    ⟨by simp, fun j oj _ hl => (by rw [getD_replicate_false] at hl; cases hl), fun t _ ht => getD_in (by simpa using ht) (getD_replicate_false _ _)⟩
  have H := quietHead_lex (md := .any) (C := C) (g := l.toArray.size - n) hsel hs hc hn (l.take n) 0 _ a (fun j hj => by
    have hj' : j < n := by rw [htl] at hj; exact hj
    simp [hj']) (by simpa using htl) inv0 (by rw [htl]; exact hlex) h
  have := quietHead_any (Q := Q) (g := l.toArray.size - n) (fun t a' w' hw' hL => by
    have := wpAny_of_seq (P := P) (Q' := Q) (l.drop n) n t a' w' (fun j => by simp) (by rw [hdl]; exact hL.1) (hL.2 w' hw')
    rwa [hdl] at this) (l.take n).length _ a _ hC H
  rw [htl] at this
  rwa [show n + (l.toArray.size - n) = l.toArray.size from by simp; omega] at this

theorem wp_region_quiet_tail {id : Nat} {Q : Exit → Act → World → Prop} {a : Act} {w : World} {l : List Oper} (n : Nat) (hm : P.follows .mixedOrders = true) (hB : Region.lexTailB .any l.toArray n = true) (hC : C { w with drawn := w.drawn + 1 })
    (h : wpQuiet P l.toArray C (fun a' => ∀ w', C w' → wpList P l.toArray Q (l.drop n) a' w') (l.take n) a) : (Code.region id l.toArray true).wp P Q a w :=
  wp_region_any hm (wpAny_quiet_tail n hB hC h)

end

section
variable {μ μ' : Mu} {n n' : Nat}
def cleanT : Value → Bool
  | .tuple vs => vs.toList.all clean
  | v => clean v

theorem AR.same_clean {v v' : Value} (hw : AR μ n v v') (hc : clean v = true) : v' = v := by
  cases hw with
  | one hw => 
    have hf := hw.flatness
    unfold clean at hc
    split at hc
    · exact absurd rfl (hf.1 _)
    · exact hw.of_flat hc
  | agg hw =>
    simp only [clean] at hc
    rename_i cs cs'
    have : cs' = cs := by
      induction hw with
      | nil => rfl
      | cons h t ih =>
        simp only [List.all_cons, Bool.and_eq_true] at hc
        rw [h.of_flat hc.1, ih hc.2]
    rw [this]

theorem VR.same_clean {v v' : Value} (hw : VR μ n v v') (hc : cleanT v = true) : v' = v := by
  cases hw with
  | one hw =>
    refine hw.same_clean ?_
    cases hw with
    | one hw => have := hw.flatness; unfold cleanT at hc; split at hc; exact absurd rfl (this.2.1 _); exact hc
    | agg hw => exact hc
  | tup hw =>
    simp only [cleanT] at hc
    rename_i vs vs'
    have : vs' = vs := by
      induction hw with
      | nil => rfl
      | cons h t ih =>
        simp only [List.all_cons, Bool.and_eq_true] at hc
        rw [h.same_clean hc.1, ih hc.2]
    rw [this]

theorem VR.of_cleanT {v : Value} (hc : cleanT v = true) : VR μ n v v := by
  unfold cleanT at hc
  split at hc
  · rename_i vs
    have : All2 (AR μ n) vs.toList vs.toList := All2.same fun a ha => by
      have h1 := VR.of_clean (μ := μ) (n := n) (List.all_eq_true.1 hc a ha)
      cases h1 with
      | one h1 => exact h1
      | tup h1 => have := List.all_eq_true.1 hc _ ha; simp [clean, flatV] at this
    simpa using VR.tup this
  · exact VR.of_clean hc

end

/-! ### Quiet operations over the heap of numbered rows -/
def det : Value → Bool
  | .pointer (some ⟨_, _, none⟩) => true
  | v => cleanT v


def quietM : MOp → Bool
  | .new .. | .box .. | .bsl .. | .st .. | .app .. | .apps .. | .call .. => false
  | _ => true

section
variable {C : CT} {e : Env} {h : Heap} {K : VK}
/-- One value, the heap as it was. -/
abbrev At (h : Heap) (v0 : Value) : VK := fun v h' => v = v0 ∧ h' = h
theorem kv_at {x : Option Value} (hh : kv x h K) : ∃ v0, K v0 h ∧ kv x h (At h v0) := by
  unfold kv at hh ⊢
  split at hh
  · exact ⟨_, hh, rfl, rfl⟩
  · exact hh.elim
theorem ibin_at {op : BinOp} {k : IntKind} {a b : Int} (hh : ibin op k a b h K) : ∃ v0, K v0 h ∧ ibin op k a b h (At h v0) := by
  unfold ibin at hh ⊢
  split at hh
  case h_1 => exact ⟨_, hh.2, hh.1, rfl, rfl⟩
  case h_2 => exact ⟨_, hh.2, hh.1, rfl, rfl⟩
  case h_3 => exact ⟨_, hh.2, hh.1, rfl, rfl⟩
  case h_4 => exact ⟨_, hh.2.2, hh.1, hh.2.1, rfl, rfl⟩
  case h_5 => exact ⟨_, hh.2, hh.1, rfl, rfl⟩
  all_goals first | exact ⟨_, hh, rfl, rfl⟩ | exact hh.elim
theorem sbin_at {op : BinOp} {a b : ByteArray} (hh : sbin op a b h K) : ∃ v0, K v0 h ∧ sbin op a b h (At h v0) := by
  unfold sbin at hh ⊢
  split at hh
  case h_1 => exact ⟨_, hh.2, hh.1, rfl, rfl⟩
  all_goals first | exact ⟨_, hh, rfl, rfl⟩ | exact hh.elim
theorem vbin_at {op : BinOp} {x y : Option Value} (hh : vbin op x y h K) : ∃ v0, K v0 h ∧ vbin op x y h (At h v0) := by
  unfold vbin at hh ⊢
  split at hh
  · rename_i k a k' b
    cases hsh : isSh op with
    | true =>
      rw [hsh] at hh
      unfold shbin at hh ⊢
      dsimp only [cond] at hh ⊢
      split at hh <;> first | exact ⟨_, hh.2, hh.1, rfl, rfl⟩ | exact hh.elim
    | false =>
      rw [hsh] at hh
      dsimp only [cond] at hh ⊢
      cases hkk : kindEq k k' with
      | false => rw [hkk] at hh; exact hh.elim
      | true => rw [hkk] at hh; exact ibin_at hh
  · exact sbin_at hh
  · exact hh.elim
theorem vbb_at {op : BinOp} {x y : Option Value} (hh : vbb op x y h K) : ∃ v0, K v0 h ∧ vbb op x y h (At h v0) := by
  unfold vbb at hh ⊢
  split at hh
  · unfold bbin at hh ⊢
    split at hh <;> first | exact ⟨_, hh, rfl, rfl⟩ | exact hh.elim
  · exact hh.elim
theorem vpick_at {x y z : Option Value} (hh : vpick x y z h K) : ∃ v0, K v0 h ∧ vpick x y z h (At h v0) := by
  unfold vpick at hh ⊢
  split at hh
  · rename_i t
    cases t with
    | false => exact kv_at (show kv z h K from hh)
    | true => exact kv_at (show kv y h K from hh)
  · exact hh.elim
theorem vun_at {op : UnOp} {x : Option Value} (hh : vun op x h K) : ∃ v0, K v0 h ∧ vun op x h (At h v0) := by
  unfold vun at hh ⊢
  split at hh <;> first | exact ⟨_, hh, rfl, rfl⟩ | exact ⟨_, hh.2, hh.1, rfl, rfl⟩ | exact hh.elim
theorem vsub_at {x : Option Value} {y z : Option (Option Value)} (hh : vsub x y z h K) : ∃ v0, K v0 h ∧ vsub x y z h (At h v0) := by
  unfold vsub at hh ⊢
  split at hh <;> first | exact ⟨_, hh, rfl, rfl⟩ | exact ⟨_, hh.2, hh.1, rfl, rfl⟩ | exact hh.elim
theorem vslc_at {sz : Nat} {x : Option Value} {y z : Option (Option Value)} (hh : vslc sz x y z h K) : ∃ v0, K v0 h ∧ vslc sz x y z h (At h v0) := by
  unfold vslc at hh ⊢
  split at hh
  · split at hh
    · exact hh.elim
    · obtain ⟨h1, hh⟩ := ck_iff.1 hh
      simp only [ck_iff]
      split at hh <;> first | exact ⟨_, hh, h1, rfl, rfl⟩ | exact ⟨_, hh.2, h1, hh.1, rfl, rfl⟩ | exact hh.elim
  · split at hh <;> first | exact ⟨_, hh, rfl, rfl⟩ | exact ⟨_, hh.2, hh.1, rfl, rfl⟩ | exact hh.elim
  · exact hh.elim
theorem vpart_at {cs : List Value} {off : Nat} {n : Option Nat} (hh : vpart cs off n h K) : ∃ v0, K v0 h ∧ vpart cs off n h (At h v0) := by
  unfold vpart at hh ⊢
  split at hh
  · exact kv_at hh
  · exact ⟨_, (ck_iff.1 hh).2, ck_iff.2 ⟨(ck_iff.1 hh).1, rfl, rfl⟩⟩
theorem tyv_at : ∀ {sh : List Sh} {Q : List Value → Prop}, tyv sh Q → ∃ vs, Q vs ∧ tyv sh (fun ws => ws = vs)
  | [], Q, h => ⟨[], h, rfl⟩
  | .int k :: l, Q, ⟨z, h⟩ => by
    obtain ⟨vs, h1, h2⟩ := tyv_at h
    exact ⟨_, h1, z, tyv_mono0 (fun ws hw => by rw [hw]) h2⟩
  | .str :: l, Q, ⟨z, h⟩ => by
    obtain ⟨vs, h1, h2⟩ := tyv_at h
    exact ⟨_, h1, z, tyv_mono0 (fun ws hw => by rw [hw]) h2⟩
  | .bool :: l, Q, ⟨z, h⟩ => by
    obtain ⟨vs, h1, h2⟩ := tyv_at h
    exact ⟨_, h1, z, tyv_mono0 (fun ws hw => by rw [hw]) h2⟩
  | .slc :: l, Q, ⟨r, o, z, h⟩ => by
    obtain ⟨vs, h1, h2⟩ := tyv_at h
    exact ⟨_, h1, r, o, z, tyv_mono0 (fun ws hw => by rw [hw]) h2⟩
  | .ptr :: l, Q, ⟨r, o, h⟩ => by
    obtain ⟨vs, h1, h2⟩ := tyv_at h
    exact ⟨_, h1, r, o, tyv_mono0 (fun ws hw => by rw [hw]) h2⟩
  where tyv_mono0 : ∀ {sh : List Sh} {Q Q' : List Value → Prop}, (∀ vs, Q vs → Q' vs) → tyv sh Q → tyv sh Q'
  | [], Q, Q', hq, h => hq _ h
  | .int k :: l, Q, Q', hq, ⟨z, h⟩ => ⟨z, tyv_mono0 (fun vs => hq _) h⟩
  | .str :: l, Q, Q', hq, ⟨z, h⟩ => ⟨z, tyv_mono0 (fun vs => hq _) h⟩
  | .bool :: l, Q, Q', hq, ⟨z, h⟩ => ⟨z, tyv_mono0 (fun vs => hq _) h⟩
  | .slc :: l, Q, Q', hq, ⟨r, o, z, h⟩ => ⟨r, o, z, tyv_mono0 (fun vs => hq _) h⟩
  | .ptr :: l, Q, Q', hq, ⟨r, o, h⟩ => ⟨r, o, tyv_mono0 (fun vs => hq _) h⟩
theorem vpartT_at {sh : List Sh} {cs : List Value} {off : Nat} {n : Option Nat} (hh : vpartT sh cs off n h K) : ∃ v0, K v0 h ∧ vpartT sh cs off n h (At h v0) := by
  obtain ⟨vs, ⟨h1, h2⟩, h3⟩ := tyv_at hh
  exact ⟨_, h2, tyv_at.tyv_mono0 (fun ws hw => by subst hw; exact ⟨h1, rfl, rfl⟩) h3⟩
theorem vfill_at {L : List Value → Prop} : ∀ {l : List (Nat × Nat × MO)} {cs : List Value}, vfill e cs l L → ∃ c0, L c0 ∧ vfill e cs l (fun c => c = c0)
  | [], cs, hh => ⟨_, hh, rfl⟩
  | (o, s, x) :: l, cs, hh => by
    unfold vfill at hh ⊢
    split at hh
    · obtain ⟨c0, h1, h2⟩ := vfill_at (ck_iff.1 hh).2
      exact ⟨c0, h1, ck_iff.2 ⟨(ck_iff.1 hh).1, h2⟩⟩
    · exact hh.elim
theorem vfill_mono0 {L L' : List Value → Prop} (hk : ∀ cs, L cs → L' cs) : ∀ {l : List (Nat × Nat × MO)} {cs : List Value}, vfill e cs l L → vfill e cs l L'
  | [], cs, hh => hk _ hh
  | (o, s, x) :: l, cs, hh => by
    unfold vfill at hh ⊢
    split at hh
    · exact ck_iff.2 ⟨(ck_iff.1 hh).1, vfill_mono0 hk (ck_iff.1 hh).2⟩
    · exact hh.elim
theorem eop_at {m : MOp} (hq : quietM m = true) (hh : eop C e h K m) : ∃ v0, K v0 h ∧ eop C e h (At h v0) m := by
  cases m <;> simp only [eop] at hh ⊢
  case mv => exact kv_at hh
  case pick => exact vpick_at hh
  case bin => exact vbin_at hh
  case bb => exact vbb_at hh
  case eqa => unfold veqa at hh ⊢; split at hh; (split at hh; exact ⟨_, hh, rfl, rfl⟩; exact hh.elim); exact hh.elim
  case un => exact vun_at hh
  case cint => split at hh; exact ⟨_, hh.2, hh.1, rfl, rfl⟩; exact hh.elim
  case cid => split at hh; exact ⟨_, hh, rfl, rfl⟩; exact hh.elim
  case bts =>
    split at hh
    · exact ⟨_, hh, rfl, rfl⟩
    · split at hh
      · obtain ⟨l, h1, hh⟩ := hh
        exact ⟨_, hh, l, h1, rfl, rfl⟩
      · exact hh.elim
    · exact hh.elim
  case ldT =>
    unfold vldT at hh ⊢
    split at hh
    · split at hh
      · exact vpartT_at hh
      · exact hh.elim
    · exact hh.elim
  case ixAT =>
    unfold vixAT at hh ⊢
    split at hh
    · obtain ⟨v0, h1, h2⟩ := vpartT_at hh.2
      exact ⟨v0, h1, hh.1, h2⟩
    · exact hh.elim
  case sub => exact vsub_at hh
  case slc => exact vslc_at hh
  case fa => split at hh; exact ⟨_, hh, rfl, rfl⟩; exact hh.elim
  case fld => unfold vfld at hh ⊢; split at hh; exact vpart_at hh; exact hh.elim
  case ia => unfold via at hh ⊢; split at hh; exact ⟨_, hh.2, hh.1, rfl, rfl⟩; exact hh.elim
  case iaA => unfold viaA at hh ⊢; split at hh; exact ⟨_, hh.2, hh.1, rfl, rfl⟩; exact hh.elim
  case ixs => unfold vixs at hh ⊢; split at hh; exact ⟨_, hh.2, hh.1, rfl, rfl⟩; exact hh.elim
  case ixA =>
    unfold vixA at hh ⊢
    split at hh
    · obtain ⟨v0, h1, h2⟩ := vpart_at hh.2
      exact ⟨v0, h1, hh.1, h2⟩
    · exact hh.elim
  case ld =>
    unfold vld at hh ⊢
    split at hh
    · split at hh
      · exact vpart_at hh
      · exact hh.elim
    · exact hh.elim
  case nil => unfold vnil at hh ⊢; split at hh; exact ⟨_, hh, rfl, rfl⟩; exact hh.elim
  case bld =>
    obtain ⟨c0, h1, h2⟩ := vfill_at hh
    exact ⟨_, h1, vfill_mono0 (fun c hc => by subst hc; exact ⟨rfl, rfl⟩) h2⟩
  case lens => unfold vlens at hh ⊢; split at hh; exact ⟨_, hh, rfl, rfl⟩; exact hh.elim
  case lenl => unfold vlenl at hh ⊢; split at hh; exact ⟨_, hh, rfl, rfl⟩; exact ⟨_, hh, rfl, rfl⟩; exact hh.elim
  case mx => unfold vmx at hh ⊢; split at hh; exact ⟨_, hh, rfl, rfl⟩; exact hh.elim
  case mn => unfold vmn at hh ⊢; split at hh; exact ⟨_, hh, rfl, rfl⟩; exact hh.elim
  case ext => unfold vext at hh ⊢; split at hh; exact kv_at hh; exact hh.elim
  all_goals cases hq
end

def qop (C : CT) (e : Env) (h : Heap) (K : Value → Prop) (m : MOp) : Prop :=
  match m with
  | .mv x => match x.ev e with | some v => K v | none => False
  | .call f args => match evs e args with
    | some vs => C f vs (froze h) (fun v _ => ck (cleanT v) (K v))
    | none => False
  | m => bif quietM m then eop C e h (fun v _ => ck (det v) (K v)) m else False

def qops (C : CT) : List MOper → Env → Heap → (Env → Prop) → Prop
  | [], e, h, K => K e
  | o :: l, e, h, K => gd e o.guard (fun e => qop C e h (fun v => qops C l (e.put o.dst v) h K) o.op) (fun e => qops C l (e.put o.dst undef) h K)

section
variable {P : Program} {nt : NT} {w0 : Org P} {w w1 : World} {μ μ' : Mu} {h : Heap} {e : Env} {a : Act} {o : Oper} {n n' : Nat}

theorem VR.determined {v v' v'' : Value} (h1 : VR μ n v v') (h2 : VR μ' n' v v'') (x : Ext n μ n' μ') (hd : det v = true) : v'' = v' := by
  unfold det at hd
  split at hd
  · obtain ⟨h3, rfl⟩ := h1.ptr
    obtain ⟨h4, rfl⟩ := h2.ptr
    rw [x.2 _ h3]
  · rw [h1.same_clean hd, h2.same_clean hd]

theorem Rep.froze (hr : Rep w0 μ h w) (hb : Below w.heap.size w w1) : Rep ⟨w1, fun _ => none, hr.gl.below hb⟩ μ (Mini.froze h) w1 := by
  have hg : ∀ {i b}, (Mini.froze h).g i = some b → ∃ c, h.g i = some c ∧ b = { c with own := false } := fun {i b} hi => by
    obtain ⟨c, h1, h2⟩ := Option.map_eq_some_iff.1 ((froze_g h i).symm.trans hi)
    exact ⟨c, h1, h2.symm⟩
  have hr1 := hr.on hb
  refine ⟨Below.refl _ _, fun i b hi => ?_, fun i b hi j v hv => ?_, fun i b hi hz => ?_, fun i b hi ho => ?_, fun i b hi _ hz => ?_, fun k o hk => (by cases hk), fun i b hi ho _ => rfl, fun i b hi => ?_, fun i b hi ho => ?_, fun i j b c hij hi hj ho => ?_⟩
  · obtain ⟨c, h1, _⟩ := hg hi; exact hr.fin i c h1
  · obtain ⟨c, h1, rfl⟩ := hg hi; exact hr1.reads i c h1 j v hv
  · obtain ⟨c, h1, rfl⟩ := hg hi; exact hr.ghost i c h1 hz
  · obtain ⟨c, h1, rfl⟩ := hg hi; cases ho
  · obtain ⟨c, h1, rfl⟩ := hg hi
    have := hb.size
    left
    show (μ i).r < w1.heap.size
    cases hco : c.own with
    | true => have := hr.blk_lt h1 hco hz; omega
    | false =>
      rcases hr.old i c h1 hco hz with h | h
      · have := hr.below.size; omega
      · obtain ⟨o, ho⟩ := Option.ne_none_iff_exists'.1 h
        have := (Array.getElem?_eq_some_iff.1 (hr.rest _ o ho)).1
        omega
  · obtain ⟨c, h1, rfl⟩ := hg hi; exact hr.sz i c h1
  · obtain ⟨c, h1, rfl⟩ := hg hi; cases ho
  · obtain ⟨c, h1, rfl⟩ := hg hi; cases ho

theorem qop_quiet {C : CT} {T : List Nat} (hC : COk P C) {m : MOp} {K : Value → Prop} (hc : cop P T o.op = some m) (hq : quietR o.op = true) (hr : Rep w0 μ h w) (he : ER nt μ h.n e a) (hK : qop C e h K m) :
    ∃ v v', VR μ h.n v v' ∧ K v ∧ ∀ w1, Below w.heap.size w w1 → o.quietAt P a (fun w' => Below w.heap.size w w') w1 v' := by
  have gen : isCall m = false → (∃ v0, eop C e h (fun v h' => v = v0 ∧ h' = h) m ∧ det v0 = true ∧ K v0) → ∃ v v', VR μ h.n v v' ∧ K v ∧ ∀ w1, Below w.heap.size w w1 → o.quietAt P a (fun w' => Below w.heap.size w w') w1 v' := by
    rintro hn ⟨v0, h1, h2, h3⟩
    obtain ⟨v, h', μ', w', v', ⟨rfl, rfl⟩, q2, q3, q4, q5, q6⟩ := eop_does hc hn hr he h1
    have base : VR μ h'.n v v' := by
      have : ∀ {u u' : Value}, VR μ' h'.n u u' → VR μ h'.n u u' := fun hu => hu.ext ⟨Nat.le_refl _, fun i hi => (q3.2 i hi).symm⟩
      exact this q5
    refine ⟨v, v', base, h3, fun w1 hb => ?_⟩
    obtain ⟨v1, h1', μ1, w1', v1', ⟨rfl, rfl⟩, p2, p3, p4, p5, p6⟩ := eop_does hc hn (hr.on hb) he h1
    have e1 : v1' = v' := base.determined p5 p3 h2
    have e2 : w1' = w1 := p6 hq
    subst e1 e2
    unfold Oper.quietAt
    rcases p2 with p2 | ⟨rfl, p2⟩
    · rw [p2]; exact ⟨rfl, rfl⟩
    · rw [p2]; exact ⟨rfl, rfl⟩
  have key : (bif quietM m then eop C e h (fun v _ => ck (det v) (K v)) m else False) → isCall m = false → ∃ v v', VR μ h.n v v' ∧ K v ∧ ∀ w1, Below w.heap.size w w1 → o.quietAt P a (fun w' => Below w.heap.size w w') w1 v' := fun hh hn => by
    cases hqm : quietM m with
    | false => rw [hqm] at hh; exact hh.elim
    | true =>
      rw [hqm] at hh
      obtain ⟨v0, h1, h2⟩ := eop_at hqm hh
      exact gen hn ⟨v0, h2, (ck_iff.1 h1).1, (ck_iff.1 h1).2⟩
  cases m with
  | mv x =>
    simp only [qop] at hK
    split at hK
    · rename_i v hv
      have hop : (∃ y, (o.op = .move y ∨ o.op = .assign y) ∧ cmo y = some x) := by
        generalize hq' : o.op = q at hc
        unfold cop at hc
        split at hc <;> first
          | (obtain ⟨y, hy, hh⟩ := Option.map_eq_some_iff.1 hc; injection hh with hh; subst hh; first | exact ⟨_, .inl rfl, hy⟩ | exact ⟨_, .inr rfl, hy⟩)
          | (exfalso; revert hc; (repeat' split) <;> first | (intro hc; cases hc; done) | (intro hc; obtain ⟨_, _, hh⟩ := Option.map_eq_some_iff.1 hc; cases hh; done))
      obtain ⟨y, hy, hcy⟩ := hop
      refine ⟨v, a.eval y, cmo_ev hcy he hv, hK, fun w1 hb => ?_⟩
      unfold Oper.quietAt
      have : (execOp a.eval o).run P w1 = .ok (.value (a.eval y)) w1 := by rcases hy with hy | hy <;> simp [execOp, hy]
      rw [this]
      exact ⟨rfl, rfl⟩
    · exact hK.elim
  | call f ys =>
    simp only [qop] at hK
    split at hK
    · rename_i vs hvs
      obtain ⟨v0, h23, h1⟩ := hC.2 _ _ _ (fun v => ck (cleanT v) (K v)) hK
      obtain ⟨h2, h3⟩ := ck_iff.1 h23
      obtain ⟨⟨fn, g1, g2, g3⟩, g4⟩ := hC.1 _ _ _ _ h1
      obtain ⟨args, tys, hop, hcs⟩ : ∃ args tys, o.op = .call ⟨.value (.func f), args, tys⟩ ∧ cmos args.toList = some ys := by
        generalize hq : o.op = q at hc
        unfold cop at hc
        split at hc <;> first
          | (obtain ⟨_, _, hh⟩ := Option.map_eq_some_iff.1 hc; first | (cases hh; done) | (injection hh with e1 e2; subst e1 e2; exact ⟨_, _, rfl, by assumption⟩))
          | (exfalso; revert hc; (repeat' split) <;> first | (intro hc; cases hc; done) | (intro hc; obtain ⟨_, _, hh⟩ := Option.map_eq_some_iff.1 hc; cases hh; done))
      refine ⟨v0, v0, VR.of_cleanT h2, h3, fun w1 hb => ?_⟩
      have hall := cmos_ev he hcs hvs
      have hcall := g4 ⟨w1, fun _ => none, hr.gl.below hb⟩ μ w1 _ (hr.froze hb) hall
      unfold Oper.quietAt
      have hrun : (execOp a.eval o).run P w1 = .ok (.enter f (args.toList.map a.eval).toArray) w1 := by
        have ha : args.map a.eval = (args.toList.map a.eval).toArray := by apply Array.ext'; simp
        have h2' : ¬ fn.body = none := fun hh => by rw [hh] at g2; cases g2
        have h3' : ¬ fn.name = "runtime.NumGoroutine" := by simpa using g3
        simp [execOp, hop, resolve, Deferred.ofValue, Act.eval, invoke, callFunc, g1, h2', h3', ha, program, Sem.run, pure, Sem.bind, bind]
      rw [hrun]
      refine ⟨rfl, hcall.mono fun e w' ⟨v, v', h', μ', q1, q2, q3, q4, q5⟩ => ?_⟩
      subst q5
      rw [q4.same_clean h2] at q1
      exact ⟨q1, hb.trans (q3.below.mono hb.size)⟩
    · exact hK.elim
  | _ => exact key hK rfl
end
end Go.Mini
