/- Mini: scopes with more than one label. No condition. -/
import Derived.Test.YthllhoodbfnlaaaDoorMiniX
namespace Go.Mini
open Go Go.RowKit
set_option linter.unusedVariables false
set_option linter.unusedSimpArgs false
section
variable {P : Program} {nt : NT} {w0 : Org P} {w w1 : World} {μ μ' : Mu} {h hc h' : Heap} {n n' N : Nat} {ρ : Nat → Option Nat} {v v' : Value} {e E : Env} {a : Act} {C : CT} {LS : LT} {sp : LSpec}
/-- A scope with labels; the state tells at which one it stands; at each the slots cl. -/
theorem scope_resL {σ : Type} (hC : COk P C) (hM : CMono C) (hL : LMono LS) {id : Nat} {c : MCode} (lab : σ → Nat) (rest : σ → MCode) (hl : LOk P nt LS c) (hw : wr sp.ts LS c = true) (hcs : sp.cs.all (memN · sp.ts) = true) (cl : List Nat) (hcl : cl.all (memN · sp.ts) = true) 
    (enc : σ → List Value) (H : σ → Heap) (inv : σ → Prop) (μ : σ → Nat) (n0 : Nat) (Res : σ → LK → Prop) (hfd : ∀ y, inv y → mfind c (lab y) = some (rest y))
    (first : ∀ vs h K, sp.f vs h K → h.n = n0 ∧ ∀ E G, Apart sp.ts E → (∀ y vs' h', inv y → Res y K → In n0 (fun vs h => vs = enc y ∧ h = H y) vs' h' → G (lab y) vs' h') → mwp C LS c (gK2 sp.cs cl G (fun x => In n0 (K x))) (zipE sp.cs vs ++ E) h)
    (round : ∀ x E G K, Apart sp.ts E → inv x → (∀ y vs' h', inv y → μ y < μ x → Res y K → In n0 (fun vs h => vs = enc y ∧ h = H y) vs' h' → G (lab y) vs' h') → Res x K → mwp C LS (rest x) (gK2 sp.cs cl G (fun x => In n0 (K x))) (zipE cl (enc x) ++ E) (H x)) : LOk1 P nt sp (.scope id c) := by
  intro R e h hP code k hc w0 μ0 a w hr he
  obtain ⟨cc, k', rfl, hcc⟩ := compile_scope hc
  unfold loopP at hP
  split at hP
  · rename_i vs hg
    obtain ⟨rfl, first⟩ := first vs h _ hP
    have hE : Apart sp.ts (e.forget sp.ts) := apart_forget e
    have up : ∀ {N N' : List Value → Heap → Prop} {vs h0}, (∀ vs h, N vs h → N' vs h) → In h.n N vs h0 → In h.n N' vs h0 := fun hNN hin => by
      rcases hin with hin | ⟨ρ, vsc, hc, q1, q2, q3, q4⟩
      · exact .inl (hNN _ _ hin)
      · exact .inr ⟨ρ, vsc, hc, q1, q2, q3, hNN _ _ q4⟩
    refine wp_scope_all (fun l' n a' w' => ∃ vs' h' μ', Ext h.n μ0 h'.n μ' ∧ Rep w0 μ' h' w' ∧ ER nt μ' h'.n (zipE cl vs' ++ e.forget sp.ts) a' ∧ ∃ y, l' = lab y ∧ vs' = enc y ∧ h' = H y ∧ inv y ∧ Res y (fun x vs h => R x (zipE sp.cs vs ++ e.forget sp.ts) h) ∧ n = μ y) ?_ ?_
    · have hm := mwp_frame hM hL hE c hw (sub_zip hE hcs vs) (first _ (fun l' => In h.n fun vs' h' => ∃ y, l' = lab y ∧ vs' = enc y ∧ h' = H y ∧ inv y ∧ Res y (fun x vs h => R x (zipE sp.cs vs ++ e.forget sp.ts) h)) hE (fun y vs' h' hy hry hin => up (fun vs h hh => ⟨y, rfl, hh.1, hh.2, hy, hry⟩) hin))
      refine wp_mono (mwp_sound hC cc hcc hl hm w0 μ0 a w hr (he.sub (sub_append (gets_zip hg) (forget_sub e)))) ?_
      rintro z a'' w'' ⟨e2, h2, μ2, x2, hr2, he2, hs2, hR⟩
      unfold gK2 at hR
      split at hR
      · split at hR
        · rename_i vs2 hg2
          have he3 := he2.sub (sub_append (gets_zip hg2) hs2)
          obtain ⟨vs3, h3, μ3, x3, hr3, he3, y, hl3, q1, q2, q3, q4⟩ := In.go hR x2 hr2 (he.forget sp.ts) he3
          exact ⟨μ y, vs3, h3, μ3, x3, hr3, he3, y, hl3, q1, q2, q3, q4, rfl⟩
        · exact hR.elim
      · rename_i hne
        split at hR
        · rename_i vs2 hg2
          have he3 := he2.sub (sub_append (gets_zip hg2) hs2)
          obtain ⟨vs3, h3, μ3, x3, hr3, he3, hK⟩ := In.go hR x2 hr2 (he.forget sp.ts) he3
          cases z with
          | goto l' => exact absurd rfl (hne l')
          | _ => exact ⟨_, h3, μ3, x3, hr3, he3, hK⟩
        · exact hR.elim
    · rintro l' n a' w' ⟨vs1, h1, μ1, x1, hr1, he1, y, rfl, rfl, rfl, hy, hry, rfl⟩
      obtain ⟨rc, hf', hrc⟩ := mfind_find cc hcc (hfd y hy)
      obtain ⟨hl', hw'⟩ := mfind_ok c (hfd y hy) hl hw
      have hm0 := round y (e.forget sp.ts) (fun l'' => In h.n fun vs' h' => ∃ z, l'' = lab z ∧ vs' = enc z ∧ h' = H z ∧ inv z ∧ μ z < μ y ∧ Res z _) _ hE hy (fun z vs' h' hz hlt hrz hin => up (fun vs h hh => ⟨z, rfl, hh.1, hh.2, hz, hlt, hrz⟩) hin) hry
      have hm := mwp_frame hM hL hE (rest y) hw' (sub_zip hE hcl (enc y)) hm0
      refine ⟨rc, hf', wp_mono (mwp_sound hC rc hrc hl' hm w0 μ1 a' w' hr1 he1) ?_⟩
      rintro z a'' w'' ⟨e2, h2, μ2, x2, hr2, he2, hs2, hR⟩
      unfold gK2 at hR
      split at hR
      · split at hR
        · rename_i vs2 hg2
          have he3 := he2.sub (sub_append (gets_zip hg2) hs2)
          obtain ⟨vs3, h3, μ3, x3, hr3, he3, t, hl3, q1, q2, q3, q4, q5⟩ := In.go hR (x1.trans x2) hr2 (he.forget sp.ts) he3
          exact ⟨μ t, q4, vs3, h3, μ3, x3, hr3, he3, t, hl3, q1, q2, q3, q5, rfl⟩
        · exact hR.elim
      · rename_i hne
        split at hR
        · rename_i vs2 hg2
          have he3 := he2.sub (sub_append (gets_zip hg2) hs2)
          obtain ⟨vs3, h3, μ3, x3, hr3, he3, hK⟩ := In.go hR (x1.trans x2) hr2 (he.forget sp.ts) he3
          cases z with
          | goto l' => exact absurd rfl (hne l')
          | _ => exact ⟨_, h3, μ3, x3, hr3, he3, hK⟩
        · exact hR.elim
  · exact hP.elim


/-- A scope with labels over any heap; the state tells at which label it stands. -/
theorem scope_resM {σ : Type} (hC : COk P C) (hM : CMono C) (hL : LMono LS) {id : Nat} {c : MCode} (lab : σ → Nat) (rest : σ → MCode) (hl : LOk P nt LS c) (hw : wr sp.ts LS c = true) (hcs : sp.cs.all (memN · sp.ts) = true) (cl : List Nat) (hcl : cl.all (memN · sp.ts) = true)
    (enc : σ → List Value) (inv : σ → Heap → Prop) (μ : σ → Nat) (Res : σ → LK → Heap → Prop) (hfd : ∀ y h, inv y h → mfind c (lab y) = some (rest y))
    (first : ∀ vs h K, sp.f vs h K → ∀ E, Apart sp.ts E → mwp C LS c (gK2 sp.cs cl (fun l' vs' h' => ∃ y, l' = lab y ∧ vs' = enc y ∧ inv y h' ∧ Res y K h') K) (zipE sp.cs vs ++ E) h)
    (round : ∀ x E h K, Apart sp.ts E → inv x h → Res x K h → mwp C LS (rest x) (gK2 sp.cs cl (fun l' vs' h' => ∃ y, l' = lab y ∧ vs' = enc y ∧ inv y h' ∧ μ y < μ x ∧ Res y K h') K) (zipE cl (enc x) ++ E) h) : LOk1 P nt sp (.scope id c) := by
  intro R e h hP code k hc w0 μ0 a w hr he
  obtain ⟨cc, k', rfl, hcc⟩ := compile_scope hc
  unfold loopP at hP
  split at hP
  · rename_i vs hg
    have hE : Apart sp.ts (e.forget sp.ts) := apart_forget e
    have first := first vs h _ hP _ hE
    refine wp_scope_all (fun l' n a' w' => ∃ vs' h' μ', Ext h.n μ0 h'.n μ' ∧ Rep w0 μ' h' w' ∧ ER nt μ' h'.n (zipE cl vs' ++ e.forget sp.ts) a' ∧ ∃ y, l' = lab y ∧ vs' = enc y ∧ inv y h' ∧ Res y (fun x vs h => R x (zipE sp.cs vs ++ e.forget sp.ts) h) h' ∧ n = μ y) ?_ ?_
    · have hm := mwp_frame hM hL hE c hw (sub_zip hE hcs vs) first
      refine wp_mono (mwp_sound hC cc hcc hl hm w0 μ0 a w hr (he.sub (sub_append (gets_zip hg) (forget_sub e)))) ?_
      rintro z a'' w'' ⟨e2, h2, μ2, x2, hr2, he2, hs2, hR⟩
      unfold gK2 at hR
      split at hR
      · split at hR
        · rename_i vs2 hg2
          have he3 := he2.sub (sub_append (gets_zip hg2) hs2)
          obtain ⟨y, q0, q1, q2, q3⟩ := hR
          exact ⟨μ y, vs2, h2, μ2, x2, hr2, he3, y, q0, q1, q2, q3, rfl⟩
        · exact hR.elim
      · rename_i hne
        split at hR
        · rename_i vs2 hg2
          have he3 := he2.sub (sub_append (gets_zip hg2) hs2)
          cases z with
          | goto l' => exact absurd rfl (hne l')
          | _ => exact ⟨_, h2, μ2, x2, hr2, he3, hR⟩
        · exact hR.elim
    · rintro l' n a' w' ⟨vs1, h1, μ1, x1, hr1, he1, y, rfl, rfl, hy, hry, rfl⟩
      obtain ⟨rc, hf', hrc⟩ := mfind_find cc hcc (hfd y h1 hy)
      obtain ⟨hl', hw'⟩ := mfind_ok c (hfd y h1 hy) hl hw
      have hm := mwp_frame hM hL hE (rest y) hw' (sub_zip hE hcl (enc y)) (round y _ h1 _ hE hy hry)
      refine ⟨rc, hf', wp_mono (mwp_sound hC rc hrc hl' hm w0 μ1 a' w' hr1 he1) ?_⟩
      rintro z a'' w'' ⟨e2, h2, μ2, x2, hr2, he2, hs2, hR⟩
      unfold gK2 at hR
      split at hR
      · split at hR
        · rename_i vs2 hg2
          have he3 := he2.sub (sub_append (gets_zip hg2) hs2)
          obtain ⟨t, q0, q1, q2, q4, q3⟩ := hR
          exact ⟨μ t, q4, vs2, h2, μ2, x1.trans x2, hr2, he3, t, q0, q1, q2, q3, rfl⟩
        · exact hR.elim
      · rename_i hne
        split at hR
        · rename_i vs2 hg2
          have he3 := he2.sub (sub_append (gets_zip hg2) hs2)
          cases z with
          | goto l' => exact absurd rfl (hne l')
          | _ => exact ⟨_, h2, μ2, x1.trans x2, hr2, he3, hR⟩
        · exact hR.elim
  · exact hP.elim

/-- A callee of the library, out of a contract that wants the library's globals. -/
theorem acalls_gl {f : Nat} {vs : List Value} {v : Value} {h : Heap} {K : VK} (hfn : ∃ fn, P.funcs[f]? = some fn ∧ fn.body.isNone = false ∧ (fn.name == "runtime.NumGoroutine") = false)
    (hvs : vs.all cleanT = true) (hv : cleanT v = true) (hcall : ∀ w, Gl P w → Calls P f vs.toArray w fun e w' => e = .returned v ∧ Below w.heap.size w w') (hk : K v h) : ACalls P f vs h K := by
  refine ⟨hfn, fun w0 μ w vs' hr hall => ?_⟩
  have e : vs' = vs := by
    clear hcall hk
    induction hall with
    | nil => rfl
    | cons h0 t ih =>
      simp only [List.all_cons, Bool.and_eq_true] at hvs
      rw [h0.same_clean hvs.1, ih hvs.2]
  subst e
  exact (hcall w hr.gl).mono fun e w' ⟨he, hb⟩ => ⟨v, v, h, μ, he, Ext.refl _ _, hr.on hb, VR.of_cleanT hv, hk⟩
end
end Go.Mini
