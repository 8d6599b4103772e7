/- Mini: functions. No condition. -/
import Derived.Test.YthllhoodbfnlaaaDoorMiniL
namespace Go.Mini
open Go Go.RowKit
set_option linter.unusedVariables false
set_option linter.unusedSimpArgs false

def argE : Nat → List Value → Env
  | _, [] => []
  | k, v :: vs => (k, v) :: argE (k + 1) vs

/-- A result: a slot, or the variable that a slot leads to. -/
inductive MR where
  | t (n : Nat)
  | v (n : Nat) (k : Option Nat)

def cres (P : Program) : List ResultVar → Option (List MR)
  | [] => some []
  | .tmp t :: l => match cres P l with
    | some r => some (.t t :: r)
    | none => none
  | .cell a ty :: l => match aggN P ty, cres P l with
    | some k, some r => some (.v a k :: r)
    | _, _ => none

def noTup : Value → Bool
  | .tuple _ => false
  | _ => true

def rval (e : Env) (h : Heap) (K : Value → Prop) : MR → Prop
  | .t n => match e.get n with
    | some v => K v
    | none => False
  | .v n k => vld k (e.get n) h (fun v _ => K v)

def rvals (e : Env) (h : Heap) : List MR → (List Value → Prop) → Prop
  | [], K => K []
  | r :: rs, K => rval e h (fun v => ck (noTup v) (rvals e h rs fun vs => K (v :: vs))) r

def retV (rs : List MR) (K : VK) (e : Env) (h : Heap) : Prop :=
  match rs with
  | [r] => rval e h (fun v => K v h) r
  | rs => rvals e h rs fun vs => K (.tuple vs.toArray) h
def retK (rs : List MR) (K : VK) : XK := fun x e h => match x with
  | .normal => retV rs K e h
  | .ret => retV rs K e h
  | _ => False

def fnOk (P : Program) (f : Nat) (nt : NT) (rs : List MR) (m : MCode) : Prop :=
  ∃ fn c, P.funcs[f]? = some fn ∧ fn.body = some c ∧ fn.ntmps = nt.n ∧ cres P fn.results.toList = some rs ∧ (fn.name == "runtime.NumGoroutine") = false ∧ compile P nt c 999 = some m

section
variable {P : Program} {nt : NT} {w0 : Org P} {w w1 : World} {μ μ' : Mu} {h h' : Heap} {e : Env} {a : Act} {R : XK} {n n' : Nat}

theorem argE_get : ∀ (k : Nat) (vs : List Value) (t : Nat) (v : Value), (argE k vs).get t = some v → ∃ j, t = k + j ∧ vs[j]? = some v
  | k, [], t, v, h => by cases h
  | k, u :: vs, t, v, h => by
    simp only [argE, Env.get_if] at h
    by_cases hk : k = t
    · rw [if_pos hk] at h
      exact ⟨0, hk.symm, h⟩
    · rw [if_neg hk] at h
      obtain ⟨j, h1, h2⟩ := argE_get (k + 1) vs t v h
      exact ⟨j + 1, by omega, by simpa using h2⟩

theorem ER.args {vs vs' : List Value} (hv : All2 (VR μ n) vs vs') (hl : vs.length ≤ nt.n) : ER nt μ n (argE 0 vs) { tmps := vs'.toArray ++ Array.replicate (nt.n - vs'.toArray.size) undef, defers := [] } := by
  have hlen := hv.length
  refine ⟨by simp; omega, rfl, fun t v ht => ?_⟩
  obtain ⟨j, rfl, h2⟩ := argE_get 0 vs t v ht
  obtain ⟨v', h3, h4⟩ := hv.get h2
  have hj : j < vs'.length := by
    rcases Nat.lt_or_ge j vs'.length with h | h
    · exact h
    · rw [List.getElem?_eq_none h] at h3; cases h3
  rw [Nat.zero_add, Array.getD_eq_getD_getElem?, Array.getElem?_append_left (by simpa using hj), List.getElem?_toArray, h3]
  exact h4

def resOf (tmps : Array Value) : ResultVar → Sem Value
  | .tmp t => pure (tmps.getD t undef)
  | .cell a t => do loadVar t (← asAddr (tmps.getD a undef))

theorem rval_run (hr : Rep w0 μ h w) (he : ER nt μ h.n e a) {x : ResultVar} {l : List ResultVar} {r : MR} {rs : List MR} (hc : cres P (x :: l) = some (r :: rs)) {K : Value → Prop} (hK : rval e h K r) :
    cres P l = some rs ∧ ∃ v v', K v ∧ (resOf a.tmps x).run P w = .ok v' w ∧ VR μ h.n v v' := by
  cases x with
  | tmp t =>
    simp only [cres] at hc
    split at hc
    · rename_i r' h1
      obtain ⟨rfl, rfl⟩ := List.cons.inj (Option.some.inj hc)
      simp only [rval] at hK
      split at hK
      · rename_i v hv
        exact ⟨h1, v, _, hK, rfl, he.2.2 t v hv⟩
      · exact hK.elim
    · cases hc
  | cell p ty =>
    simp only [cres] at hc
    split at hc
    · rename_i k r' h0 h1
      obtain ⟨rfl, rfl⟩ := List.cons.inj (Option.some.inj hc)
      refine ⟨h1, ?_⟩
      simp only [rval] at hK
      obtain ⟨q, v, v', h2, h3, h4, h5⟩ := ld_run h0 hr (fun v hv => he.2.2 p v hv) hK
      exact ⟨v, v', h3, by simp [resOf, asAddr, h2, h4], h5⟩
    · cases hc

theorem cres_length : ∀ {l : List ResultVar} {rs : List MR}, cres P l = some rs → rs.length = l.length
  | [], rs, hc => by obtain rfl := Option.some.inj hc; rfl
  | .tmp t :: l, rs, hc => by
    simp only [cres] at hc
    split at hc
    · rename_i r h1
      obtain rfl := Option.some.inj hc
      simp [cres_length h1]
    · cases hc
  | .cell p t :: l, rs, hc => by
    simp only [cres] at hc
    split at hc
    · rename_i k r h0 h1
      obtain rfl := Option.some.inj hc
      simp [cres_length h1]
    · cases hc

theorem rvals_run (hr : Rep w0 μ h w) (he : ER nt μ h.n e a) : ∀ {l : List ResultVar} {rs : List MR}, cres P l = some rs → ∀ {K : List Value → Prop}, rvals e h rs K → ∃ vs vs', K vs ∧ (l.mapM (resOf a.tmps)).run P w = .ok vs' w ∧ All2 (AR μ h.n) vs vs' ∧ vs'.length = l.length
  | [], rs, hc, K, hK => by
    obtain rfl := Option.some.inj hc
    exact ⟨[], [], hK, by simp, .nil, rfl⟩
  | x :: l, [], hc, K, hK => by
    have := cres_length hc; simp at this
  | x :: l, r :: rs, hc, K, hK => by
    obtain ⟨h1, v, v', h23, h4, h5⟩ := rval_run hr he hc hK
    obtain ⟨h2, h3⟩ := ck_iff.1 h23
    obtain ⟨vs, vs', k1, k2, k3, k4⟩ := rvals_run hr he h1 h3
    refine ⟨v :: vs, v' :: vs', k1, ?_, .cons ?_ k3, by simp [k4]⟩
    · rw [List.mapM_cons, Sem.run_bind, h4, Result.andThen_ok, Sem.run_bind, k2, Result.andThen_ok, Sem.run_pure]
    · cases h5 with
      | one h5 => exact h5
      | tup h5 => simp [noTup] at h2

theorem retV_run {fn : Func} {rs : List MR} (hrs : cres P fn.results.toList = some rs) (hr : Rep w0 μ h w) (he : ER nt μ h.n e a) {K : VK} (hK : retV rs K e h) : ∃ v v', K v h ∧ (results fn a.tmps).run P w = .ok v' w ∧ VR μ h.n v v' := by
  have hres : ∀ {vs' : List Value}, ((fn.results.toList.mapM (resOf a.tmps)).run P w = .ok vs' w) → (results fn a.tmps).run P w = .ok (if h : vs'.toArray.size = 1 then vs'.toArray[0] else .tuple vs'.toArray) w := by
    intro vs' hh
    unfold results
    rw [Array.mapM_eq_mapM_toList]
    have key : ∀ (f : ResultVar → Sem Value), (∀ x, f x = resOf a.tmps x) → (fn.results.toList.mapM f).run P w = .ok vs' w := by
      intro f hf
      rw [show f = resOf a.tmps from funext hf]
      exact hh
    simp only [Sem.run_bind, Sem.run_map]
    rw [key _ (fun x => by cases x <;> rfl)]
    simp only [Result.andThen_ok, Sem.run_pure]
  unfold retV at hK
  split at hK
  · rename_i r
    obtain ⟨x, hx⟩ : ∃ x, fn.results.toList = [x] := by
      cases hl : fn.results.toList with
      | nil => rw [hl] at hrs; cases hrs
      | cons x l =>
        rw [hl] at hrs
        obtain ⟨h1, _⟩ := rval_run hr he hrs hK
        cases l with
        | nil => exact ⟨x, rfl⟩
        | cons y l => have := cres_length h1; simp at this
    rw [hx] at hrs
    obtain ⟨_, v, v', h2, h4, h5⟩ := rval_run hr he hrs hK
    refine ⟨v, v', h2, ?_, h5⟩
    have := hres (vs' := [v']) (by rw [hx, List.mapM_cons, Sem.run_bind, h4, Result.andThen_ok]; simp)
    simpa using this
  · rename_i hne
    obtain ⟨vs, vs', k1, k2, k3, k4⟩ := rvals_run hr he hrs hK
    refine ⟨_, _, k1, hres k2, ?_⟩
    rw [dif_neg ?_]
    · exact .tup k3
    · intro hh
      have hl1 : fn.results.toList.length = 1 := by rw [← k4]; simpa using hh
      have hl2 := cres_length hrs
      rw [hl1] at hl2
      match rs, hl2 with
      | [r], _ => exact hne r rfl

theorem acalls_mk {C : CT} {LS : LT} (hC : COk P C) {f : Nat} {rs : List MR} {m : MCode} (hf : fnOk P f nt rs m) (hLS : LOk P nt LS m) {vs : List Value} (hl : vs.length ≤ nt.n) {K : VK} (hm : mwp C LS m (retK rs K) (argE 0 vs) h) : ACalls P f vs h K := by
  obtain ⟨fn, c, h1, h2, h3, h4, h5, h6⟩ := hf
  refine ⟨⟨fn, h1, by rw [h2]; rfl, h5⟩, fun w0 μ w vs' hr hv => ?_⟩
  refine calls_of_wp h1 h2 ?_
  rw [h3]
  refine wp_mono (mwp_sound hC c h6 hLS hm w0 μ _ w hr (ER.args hv hl)) ?_
  rintro z a' w' ⟨e', h', μ', q1, q2, q3, q5⟩
  have fin : retV rs K e' h' → bodyPost P fn (fun e w' => ∃ v v' h' μ', e = .returned v' ∧ Ext h.n μ h'.n μ' ∧ Rep w0 μ' h' w' ∧ VR μ' h'.n v v' ∧ K v h') .ret a' w' := by
    intro q4
    obtain ⟨v, v', k1, k2, k3⟩ := retV_run h4 q2 q3 q4
    exact ⟨q3.2.1, v', k2, v, v', h', μ', rfl, q1, q2, k3, k1⟩
  cases z with
  | normal => exact fin q5
  | ret => exact fin q5
  | _ => exact q5.elim

/-! ### What a call made for itself falls away -/
theorem FR.back {v v' u : Value} (hv : FR μ n v u) (hw : FR μ' n' v v') (x : Ext n μ n' μ') : FR μ n v v' := by
  cases hw with
  | same hf => exact .same hf
  | ptr hi hz =>
    cases hv with
    | same hf => cases hf
    | ptr hi' _ => rw [x.2 _ hi'] at hz ⊢; exact .ptr hi' hz
  | slc hi hk hc hz =>
    cases hv with
    | same hf => cases hf
    | slc hi' hk' hc' _ => rw [x.2 _ hi'] at hc hz ⊢; exact .slc hi' hk hc hz
    | slc0 hi' _ => rw [x.2 _ hi'] at hc hz ⊢; exact .slc hi' hk hc hz
    | nil hi' _ => rw [x.2 _ hi'] at hc hz ⊢; exact .slc hi' hk hc hz
  | slc0 hi hz =>
    cases hv with
    | same hf => cases hf
    | slc hi' hk' hc' _ => rw [x.2 _ hi'] at hz ⊢; exact .slc0 hi' hz
    | slc0 hi' _ => rw [x.2 _ hi'] at hz ⊢; exact .slc0 hi' hz
    | nil hi' _ => rw [x.2 _ hi'] at hz ⊢; exact .slc0 hi' hz
  | nil hi hz =>
    cases hv with
    | same hf => cases hf
    | slc hi' hk' hc' _ => rw [x.2 _ hi'] at hz; exact .nil hi' hz
    | slc0 hi' _ => rw [x.2 _ hi'] at hz; exact .nil hi' hz
    | nil hi' _ => rw [x.2 _ hi'] at hz; exact .nil hi' hz

def keeps (h h' : Heap) : Prop := h.n ≤ h'.n ∧ ∀ i, i < h.n → h'.g i = h.g i

theorem Rep.back (hr : Rep w0 μ h w) (hr' : Rep w0 μ' h' w1) (x : Ext h.n μ h'.n μ') (hk : keeps h h') : Rep w0 μ h w1 := by
  refine ⟨hr'.below, hr.fin, fun i b hi j v hv => ?_, hr.ghost, fun i b hi ho hz => ?_, hr.old, hr'.rest, hr.free, hr.sz, hr.d0, hr.apart⟩
  · have hin := hr.fin i b hi
    obtain ⟨u, _, hu⟩ := hr.reads i b hi j v hv
    obtain ⟨v', h1, h2⟩ := hr'.reads i b ((hk.2 i hin).trans hi) j v hv
    rw [x.2 i hin] at h1
    exact ⟨v', h1, hu.back h2 x⟩
  · have hin := hr.fin i b hi
    have := hr'.owns i b ((hk.2 i hin).trans hi) ho
    rw [x.2 i hin] at this
    exact this hz

/-- A call that hands back plain values and changes nothing that stood there. -/
theorem ACalls.tidy {f : Nat} {vs : List Value} {K : VK} (hh : ACalls P f vs h fun v h' => keeps h h' ∧ cleanT v = true ∧ K v h) : ACalls P f vs h K :=
  ⟨hh.1, fun w0 μ w vs' hr hv => (hh.2 w0 μ w vs' hr hv).mono fun e w' ⟨v, v', h', μ', h1, h2, h3, h4, h5, h6, h7⟩ => by
    refine ⟨v, v', h, μ, h1, Ext.refl _ _, hr.back h3 h2 h5, ?_, h7⟩
    rw [h4.same_clean h6]
    exact VR.of_cleanT h6⟩
end

/-! ### Tables -/
def noC : CT := fun _ _ _ _ => False
def extC (S : CT) (f : Nat) (spec : List Value → Heap → VK → Prop) : CT := fun g vs h K => bif Nat.beq g f then spec vs h K else S g vs h K
def noL : LSpec := ⟨[], [], fun _ _ _ => False⟩
def lt0 : LT := fun _ => noL
def extL (S : LT) (id : Nat) (sp : LSpec) : LT := fun i => bif Nat.beq i id then sp else S i
section
variable {P : Program} {S : CT} {L : LT}
theorem noC_ok : COk P noC := ⟨fun _ _ _ _ h => h.elim, fun _ _ _ _ h => h.elim⟩
def SpecDet (spec : List Value → Heap → VK → Prop) : Prop := ∀ vs h (K : Value → Prop), spec vs (froze h) (fun v _ => K v) → ∃ v0, K v0 ∧ spec vs (froze h) (fun v _ => v = v0)
theorem noC_mono : CMono noC := fun _ _ _ _ _ _ h => h.elim
theorem lt0_mono : LMono lt0 := fun _ _ _ _ _ _ h => h.elim
def SpecMono (spec : List Value → Heap → VK → Prop) : Prop := ∀ vs h (K K' : VK), (∀ v h', K v h' → K' v h') → spec vs h K → spec vs h K'
def LSpecMono (sp : LSpec) : Prop := ∀ vs h (K K' : LK), (∀ x vs h', K x vs h' → K' x vs h') → sp.f vs h K → sp.f vs h K'
theorem extC_ok (hS : COk P S) {f : Nat} {spec : List Value → Heap → VK → Prop} (hf : ∀ vs h K, spec vs h K → ACalls P f vs h K) (hd : SpecDet spec) : COk P (extC S f spec) := by
  refine ⟨fun g vs h K hh => ?_, fun g vs h K hh => ?_⟩
  · unfold extC at hh
    cases hb : Nat.beq g f with
    | true => rw [hb] at hh; obtain rfl := Nat.eq_of_beq_eq_true hb; exact hf vs h K hh
    | false => rw [hb] at hh; exact hS.1 g vs h K hh
  · unfold extC at hh ⊢
    cases hb : Nat.beq g f with
    | true => rw [hb] at hh; exact hd vs h K hh
    | false => rw [hb] at hh; exact hS.2 g vs h K hh
theorem extC_mono (hS : CMono S) {f : Nat} {spec : List Value → Heap → VK → Prop} (hf : SpecMono spec) : CMono (extC S f spec) := by
  intro g vs h K K' hk hh
  unfold extC at hh ⊢
  cases hb : Nat.beq g f with
  | true => rw [hb] at hh; exact hf vs h K K' hk hh
  | false => rw [hb] at hh; exact hS g vs h K K' hk hh
theorem extL_mono (hL : LMono L) {id : Nat} {sp : LSpec} (hf : LSpecMono sp) : LMono (extL L id sp) := by
  intro g vs h K K' hk hh
  unfold extL at hh ⊢
  cases hb : Nat.beq g id with
  | true => rw [hb] at hh; exact hf vs h K K' hk hh
  | false => rw [hb] at hh; exact hL g vs h K K' hk hh
end
theorem br_intro {b : Bool} {A B : Prop} (h1 : b = true → A) (h2 : b = false → B) : br b A B := by
  cases b
  · exact h2 rfl
  · exact h1 rfl
end Go.Mini
