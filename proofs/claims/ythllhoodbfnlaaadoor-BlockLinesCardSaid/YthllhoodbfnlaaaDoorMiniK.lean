/- Mini: how the steps are worked out by hand: two ways, loops with a state. No condition. -/
import Derived.Test.YthllhoodbfnlaaaDoorMiniI
namespace Go.Mini
open Go Go.RowKit
set_option linter.unusedVariables false

section
variable {P : Program} {nt : NT} {C : CT} {LS : LT} {sp : LSpec}
/-- A loop with a state x; 'Res x K h': what is asked of K at x. -/
theorem loop_res {σ : Type} (hC : COk P C) (hM : CMono C) (hL : LMono LS) {id : Nat} {c : MCode} (hl : LOk P nt LS c) (hw : wr sp.ts LS c = true) (hcs : sp.cs.all (memN · sp.ts) = true)
    (enc : σ → List Value) (inv : σ → Heap → Prop) (μ : σ → Nat) (Res : σ → LK → Heap → Prop)
    (hf : ∀ vs h K, sp.f vs h K → ∃ x, vs = enc x ∧ inv x h ∧ Res x K h)
    (round : ∀ x E h N K, Apart sp.ts E → inv x h → (∀ y h', inv y h' → μ y < μ x → Res y K h' → N (enc y) h') → Res x K h → mwp C LS c (lK sp.cs N K) (zipE sp.cs (enc x) ++ E) h) : LOk1 P nt sp (.loop id c) := by
  refine loop_rule hC hM hL hl hw hcs fun vs h K hh => ?_
  obtain ⟨x, rfl, hx, hk⟩ := hf vs h K hh
  refine ⟨fun n vs' h' => ∃ y, vs' = enc y ∧ inv y h' ∧ Res y K h' ∧ n = μ y, ⟨μ x, x, rfl, hx, hk, rfl⟩, ?_⟩
  rintro n vs' h' E hE ⟨y, rfl, hy, hr, rfl⟩
  exact round y E h' _ K hE hy (fun z h'' hz hlt hrz => ⟨μ z, hlt, z, rfl, hz, hrz, rfl⟩) hr

/-- A scope with one label, the same way: 'first' up to the label, then from the label on. -/
theorem scope_res {σ : Type} (hC : COk P C) (hM : CMono C) (hL : LMono LS) {id l : Nat} {c rest : MCode} (hl : LOk P nt LS c) (hw : wr sp.ts LS c = true) (hcs : sp.cs.all (memN · sp.ts) = true) (hfd : mfind c l = some rest)
    (enc : σ → List Value) (inv : σ → Heap → Prop) (μ : σ → Nat) (Res : σ → LK → Heap → Prop)
    (first : ∀ vs h K E, Apart sp.ts E → sp.f vs h K → mwp C LS c (gK sp.cs (fun l' vs' h' => l' = l ∧ ∃ y, vs' = enc y ∧ inv y h' ∧ Res y K h') K) (zipE sp.cs vs ++ E) h)
    (round : ∀ x E h K, Apart sp.ts E → inv x h → Res x K h → mwp C LS rest (gK sp.cs (fun l' vs' h' => l' = l ∧ ∃ y, vs' = enc y ∧ inv y h' ∧ μ y < μ x ∧ Res y K h') K) (zipE sp.cs (enc x) ++ E) h) : LOk1 P nt sp (.scope id c) := by
  refine scope_rule hC hM hL hl hw hcs fun vs h K hh => ?_
  refine ⟨fun l' n vs' h' => l' = l ∧ ∃ y, vs' = enc y ∧ inv y h' ∧ Res y K h' ∧ n = μ y, fun E hE => ?_, ?_⟩
  · refine mwp_mono hM hL c (fun x e h hk => ?_) (first vs h K E hE hh)
    unfold gK at hk ⊢
    split at hk
    · cases x with
      | goto l' => obtain ⟨rfl, y, h1, h2, h3⟩ := hk; exact ⟨μ y, rfl, y, h1, h2, h3, rfl⟩
      | _ => exact hk
    · exact hk.elim
  · rintro l' n vs' h' E hE ⟨rfl, y, rfl, hy, hr, rfl⟩
    refine ⟨rest, hfd, mwp_mono hM hL rest (fun x e h hk => ?_) (round y E h' K hE hy hr)⟩
    unfold gK at hk ⊢
    split at hk
    · cases x with
      | goto l' => obtain ⟨rfl, z, h1, h2, h4, h3⟩ := hk; exact ⟨μ z, h4, rfl, z, h1, h2, h3, rfl⟩
      | _ => exact hk
    · exact hk.elim

/-- A callee of the library, out of a contract that holds in every world. -/
theorem acalls_of {f : Nat} {vs : List Value} {v : Value} {h : Heap} {K : VK} (hfn : ∃ fn, P.funcs[f]? = some fn ∧ fn.body.isNone = false ∧ (fn.name == "runtime.NumGoroutine") = false)
    (hvs : vs.all cleanT = true) (hv : cleanT v = true) (hcall : ∀ w, Calls P f vs.toArray w fun e w' => e = .returned v ∧ Below w.heap.size w w') (hk : K v h) : ACalls P f vs h K := by
  refine ⟨hfn, fun w0 μ w vs' hr hall => ?_⟩
  have e : vs' = vs := by
    clear hcall hk
    induction hall with
    | nil => rfl
    | cons h0 t ih =>
      simp only [List.all_cons, Bool.and_eq_true] at hvs
      rw [h0.same_clean hvs.1, ih hvs.2]
  subst e
  exact (hcall w).mono fun e w' ⟨he, hb⟩ => ⟨v, v, h, μ, he, Ext.refl _ _, hr.on hb, VR.of_cleanT hv, hk⟩
end
end Go.Mini
