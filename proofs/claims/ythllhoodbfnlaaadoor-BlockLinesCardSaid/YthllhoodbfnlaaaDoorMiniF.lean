/- Mini: regions, control, calls. No condition. -/
import Derived.Test.YthllhoodbfnlaaaDoorMiniE
import Derived.ScopeJumps
namespace Go.Mini
open Go Go.RowKit
set_option linter.unusedVariables false
set_option linter.unusedSimpArgs false

def isCall : MOp → Bool
  | .call _ _ => true
  | _ => false

section
variable {P : Program} {nt : NT} {w0 : Org P} {w : World} {μ : Mu} {h : Heap} {e : Env} {a : Act} {o : Oper} {K : VK} {n : Nat} {C : CT}

theorem tyv_elim : ∀ {sh : List Sh} {Q : List Value → Prop}, tyv sh Q → ∃ vs, vs.length = sh.length ∧ Q vs
  | [], Q, h => ⟨[], rfl, h⟩
  | .int k :: l, Q, ⟨z, h⟩ => by obtain ⟨vs, h1, h2⟩ := tyv_elim h; exact ⟨_, by simp [h1], h2⟩
  | .str :: l, Q, ⟨z, h⟩ => by obtain ⟨vs, h1, h2⟩ := tyv_elim h; exact ⟨_, by simp [h1], h2⟩
  | .bool :: l, Q, ⟨z, h⟩ => by obtain ⟨vs, h1, h2⟩ := tyv_elim h; exact ⟨_, by simp [h1], h2⟩
  | .slc :: l, Q, ⟨r, o, z, h⟩ => by obtain ⟨vs, h1, h2⟩ := tyv_elim h; exact ⟨_, by simp [h1], h2⟩
  | .ptr :: l, Q, ⟨r, o, h⟩ => by obtain ⟨vs, h1, h2⟩ := tyv_elim h; exact ⟨_, by simp [h1], h2⟩
theorem partT_part {sh : List Sh} {cs : List Value} {off : Nat} {n : Option Nat} (hf : shFits n sh = true) (hK : vpartT sh cs off n h K) : vpart cs off n h K := by
  obtain ⟨vs, h1, h2, h3⟩ := tyv_elim hK
  unfold vpart
  have hlen := congrArg List.length h2
  rw [List.length_take, List.length_drop, h1] at hlen
  cases n with
  | none =>
    have hsh : sh.length = 1 := by simpa [shFits] using hf
    match vs, (by rw [h1, hsh] : vs.length = 1) with
    | [v], _ =>
      have : cs[off]? = some v := by
        have h4 : ((cs.drop off).take sh.length)[0]? = some v := by rw [h2]; rfl
        rw [hsh] at h4
        simpa using h4
      dsimp only
      rw [this]
      exact h3
  | some n =>
    have hsh : sh.length = n ∧ 0 < n := by simpa [shFits] using hf
    obtain ⟨hsh, hn0⟩ := hsh
    dsimp only
    rw [← hsh, ck_le, h2]
    exact ⟨by omega, h3⟩
theorem ldT_ld {sh : List Sh} {n : Option Nat} {x : MO} (hf : shFits n sh = true) (hK : eop C e h K (.ldT sh n x)) : eop C e h K (.ld n x) := by
  simp only [eop, vldT, vld] at hK ⊢
  split at hK
  · split at hK
    · exact partT_part hf hK
    · exact hK.elim
  · exact hK.elim
theorem ixAT_ixA {sh : List Sh} {len sz : Nat} {n : Option Nat} {x i : MO} (hf : shFits n sh = true) (hK : eop C e h K (.ixAT sh len sz n x i)) : eop C e h K (.ixA len sz n x i) := by
  simp only [eop, vixAT, vixA] at hK ⊢
  split at hK
  · exact ⟨hK.1, partT_part hf hK.2⟩
  · exact hK.elim
theorem eop_does {m : MOp} {T : List Nat} (hc : cop P T o.op = some m) (hn : isCall m = false) (hr : Rep w0 μ h w) (he : ER nt μ h.n e a) (hK : eop C e h K m) : Does P o a w0 μ h.n w K := by
  have hop : o.op = o.op := rfl
  generalize hq : o.op = q at hc
  unfold cop at hc
  split at hc
  · obtain ⟨x', hx, rfl⟩ := Option.map_eq_some_iff.1 hc
    simp only [eop, kv] at hK
    split at hK
    · exact does_mv (.inl hq) hx hr he (by assumption) hK
    · exact hK.elim
  · obtain ⟨x', hx, rfl⟩ := Option.map_eq_some_iff.1 hc
    simp only [eop, kv] at hK
    split at hK
    · exact does_mv (.inr hq) hx hr he (by assumption) hK
    · exact hK.elim
  · split at hc
    · obtain rfl := Option.some.inj hc
      exact does_pick hq (by assumption) (by assumption) (by assumption) hr he hK
    · cases hc
  · split at hc
    · obtain rfl := Option.some.inj hc
      exact does_new hq (by assumption) (by simp) hr hK
    · cases hc
  · obtain ⟨x', hx, rfl⟩ := Option.map_eq_some_iff.1 hc
    exact does_box hq hx hr he hK
  · split at hc
    · split at hc
      · obtain ⟨l, hl, rfl⟩ := Option.map_eq_some_iff.1 hc
        exact does_bldS hq (by assumption) (by assumption) (by assumption) hl hr he hK
      · cases hc
    · split at hc
      · obtain ⟨l, hl, rfl⟩ := Option.map_eq_some_iff.1 hc
        exact does_bldA hq (by assumption) (by assumption) (by assumption) hl hr he hK
      · cases hc
    · cases hc
  · split at hc
    · split at hc
      · split at hc
        · rename_i hcond
          obtain ⟨l, hl, rfl⟩ := Option.map_eq_some_iff.1 hc
          simp only [Bool.and_eq_true, decide_eq_true_eq, beq_iff_eq] at hcond
          exact does_bsl hq (by assumption) (by assumption) (by assumption) hcond.1.1 hcond.1.2 hcond.2 hl hr he hK
        · cases hc
      · cases hc
    · cases hc
  · split at hc
    · split at hc
      · split at hc
        · split at hc
          · rename_i hfit
            obtain rfl := Option.some.inj hc
            exact does_ld hq (by assumption) (by assumption) hr he (ldT_ld hfit hK)
          · cases hc
        · obtain rfl := Option.some.inj hc
          exact does_ld hq (by assumption) (by assumption) hr he hK
      · obtain rfl := Option.some.inj hc
        exact does_ld hq (by assumption) (by assumption) hr he hK
    · cases hc
  · split at hc
    · obtain rfl := Option.some.inj hc
      exact does_st hq (by assumption) (by assumption) (by assumption) hr he hK
    · cases hc
  · obtain ⟨x', hx, rfl⟩ := Option.map_eq_some_iff.1 hc
    exact does_nil hq hx hr he hK
  · split at hc
    · obtain rfl := Option.some.inj hc
      exact does_bin hq (by assumption) (by assumption) hr he hK
    · obtain rfl := Option.some.inj hc
      exact does_bin hq (by assumption) (by assumption) hr he hK
    · obtain rfl := Option.some.inj hc
      exact does_bb hq (by assumption) (by assumption) (by assumption) hr he hK
    · split at hc
      · obtain rfl := Option.some.inj hc
        exact does_eql hq (by assumption) (by assumption) (by assumption) (by assumption) hr he hK
      · obtain rfl := Option.some.inj hc
        exact does_neq hq (by assumption) (by assumption) (by assumption) (by assumption) hr he hK
      · cases hc
    · cases hc
  · obtain ⟨x', hx, rfl⟩ := Option.map_eq_some_iff.1 hc
    exact does_un hq hx hr he hK
  · split at hc
    · obtain rfl := Option.some.inj hc
      exact does_cint (C := C) hq (by assumption) (by assumption) (by assumption) hr he hK
    · obtain rfl := Option.some.inj hc
      exact does_cid (C := C) hq (by assumption) (by assumption) (by assumption) hr he hK
    · split at hc
      · obtain rfl := Option.some.inj hc
        exact does_bts (C := C) hq (by assumption) (by assumption) (by assumption) (by assumption) hr he hK
      · cases hc
    · cases hc
  · split at hc
    · obtain rfl := Option.some.inj hc
      exact does_sub hq (by assumption) (by assumption) (by assumption) (by assumption) hr he hK
    · split at hc
      · obtain rfl := Option.some.inj hc
        exact does_slc hq (by assumption) (by assumption) (by assumption) (by assumption) (by assumption) hr he hK
      · cases hc
    · cases hc
  · split at hc
    · split at hc
      · split at hc
        · split at hc
          · cases hc
          · obtain rfl := Option.some.inj hc
            exact does_fa (C := C) hq (by assumption) (by assumption) (by assumption) (by assumption) (by assumption) hr he hK
        · cases hc
      · cases hc
    · cases hc
  · split at hc
    · split at hc
      · split at hc
        · obtain rfl := Option.some.inj hc
          exact does_fld hq (by assumption) (by assumption) (by assumption) (by assumption) hr he hK
        · cases hc
      · cases hc
    · cases hc
  · split at hc
    · split at hc
      · obtain rfl := Option.some.inj hc
        exact does_ia hq (by assumption) (by assumption) (by assumption) (by assumption) hr he hK
      · cases hc
    · split at hc
      · obtain rfl := Option.some.inj hc
        exact does_iaA hq (by assumption) (by assumption) (by assumption) (by assumption) hr he hK
      · cases hc
    · cases hc
  · split at hc
    · obtain rfl := Option.some.inj hc
      exact does_ixs hq (by assumption) (by assumption) (by assumption) hr he hK
    · split at hc
      · split at hc
        · split at hc
          · split at hc
            · rename_i hfit
              obtain rfl := Option.some.inj hc
              exact does_ixA hq (by assumption) (by assumption) (by assumption) (by assumption) (by assumption) hr he (ixAT_ixA hfit hK)
            · cases hc
          · obtain rfl := Option.some.inj hc
            exact does_ixA hq (by assumption) (by assumption) (by assumption) (by assumption) (by assumption) hr he hK
        · obtain rfl := Option.some.inj hc
          exact does_ixA hq (by assumption) (by assumption) (by assumption) (by assumption) (by assumption) hr he hK
      · cases hc
    · cases hc
  · obtain ⟨x', hx, rfl⟩ := Option.map_eq_some_iff.1 hc
    exact does_ext hq hx hr he hK
  · obtain ⟨x', hx, rfl⟩ := Option.map_eq_some_iff.1 hc
    cases hn
  · rename_i b args tys
    split at hc
    · rename_i x t hl1 hl2
      have e1 : args = #[x] := by apply Array.ext'; exact hl1
      have e2 : tys = #[t] := by apply Array.ext'; exact hl2
      subst e1 e2
      split at hc
      · obtain rfl := Option.some.inj hc
        exact does_lens hq (by assumption) (by assumption) hr he hK
      · obtain rfl := Option.some.inj hc
        exact does_lenl hq (by assumption) (by assumption) hr he hK
      · cases hc
    · rename_i x y t u hl1 hl2
      have e1 : args = #[x, y] := by apply Array.ext'; exact hl1
      have e2 : tys = #[t, u] := by apply Array.ext'; exact hl2
      subst e1 e2
      split at hc
      · split at hc
        · split at hc
          · rename_i htu
            obtain rfl := eq_of_beq htu
            split at hc
            · rename_i hcond
              obtain rfl := Option.some.inj hc
              simp only [Bool.and_eq_true, decide_eq_true_eq, beq_iff_eq] at hcond
              obtain ⟨h2, h3⟩ := hcond
              exact does_app hq (by assumption) (by assumption) (by assumption) h3 h2 (by assumption) (by assumption) hr he hK
            · cases hc
          · split at hc
            · split at hc
              · rename_i hcond
                obtain rfl := Option.some.inj hc
                simp only [Bool.and_eq_true, beq_iff_eq] at hcond
                obtain ⟨h2, h3⟩ := hcond
                exact does_apps hq (by assumption) (by assumption) (by assumption) (by assumption) h2 h3 (by assumption) (by assumption) hr he hK
              · cases hc
            · cases hc
        · cases hc
      · cases hc
    · rename_i x y hl1
      have e1 : args = #[x, y] := by apply Array.ext'; exact hl1
      subst e1
      split at hc
      · obtain rfl := Option.some.inj hc
        exact does_mx hq (by assumption) (by assumption) hr he hK
      · cases hc
    · rename_i x y hl1
      have e1 : args = #[x, y] := by apply Array.ext'; exact hl1
      subst e1
      split at hc
      · obtain rfl := Option.some.inj hc
        exact does_mn hq (by assumption) (by assumption) hr he hK
      · cases hc
    · cases hc
  · cases hc
end
end Go.Mini
