/- Mini: loops whose rounds make rows; calls of plain values, told over the empty heap. No condition. -/
import Derived.Test.YthllhoodbfnlaaaDoorMiniR
namespace Go.Mini
open Go Go.RowKit
set_option linter.unusedVariables false
set_option linter.unusedSimpArgs false

/-- A heap, row by row. -/
def lit (l : List (Option Blk)) : Heap := ⟨l.length, l⟩
theorem mrow_getD : ∀ (l : List (Option Blk)) (i : Nat), mrow l i = l.getD i none
  | [], i => by rw [mrow_nil]; simp
  | x :: l, 0 => rfl
  | x :: l, i + 1 => mrow_getD l i
theorem lit_g (l : List (Option Blk)) (i : Nat) : (lit l).g i = l.getD i none := mrow_getD l i

section
variable {P : Program} {nt : NT} {w0 : Org P} {w w1 : World} {μ μ' : Mu} {h hc h' : Heap} {n n' N : Nat} {ρ : Nat → Option Nat} {v v' : Value} {e E : Env} {a : Act} {C : CT} {LS : LT} {sp : LSpec}

theorem okF_mono (hn : n ≤ n') (h : okF n v = true) : okF n' v = true := by
  unfold okF at h ⊢
  split
  · rename_i i o
    have : i < n := by simpa using h
    simp; omega
  · simp only [Bool.and_eq_true, Nat.blt_eq] at h ⊢
    exact ⟨by omega, h.2⟩
  · rename_i h1 h2
    split at h
    · exact absurd rfl (h1 _ _)
    · exact absurd rfl (h2 _ _ _ _)
    · exact h
theorem okA_mono (hn : n ≤ n') (h : okA n v = true) : okA n' v = true := by
  unfold okA at h ⊢
  split
  · exact List.all_eq_true.2 fun a ha => okF_mono hn (List.all_eq_true.1 h a ha)
  · rename_i h1
    split at h
    · exact absurd rfl (h1 _)
    · exact okF_mono hn h
theorem okT_mono (hn : n ≤ n') (h : okT n v = true) : okT n' v = true := by
  unfold okT at h ⊢
  split
  · exact List.all_eq_true.2 fun a ha => okA_mono hn (List.all_eq_true.1 h a ha)
  · rename_i h1
    split at h
    · exact absurd rfl (h1 _)
    · exact okA_mono hn h

theorem okF_flat (h : flatV v = true) : okF n v = true := by
  unfold okF
  split
  · cases h
  · unfold flatV at h; split at h <;> simp_all
  · exact h
theorem FR.low (h : FR μ n v v') (hρ : ∀ i, i < n → ρ i = some i) : okF n v = true ∧ ren ρ v = v := by
  cases h with
  | same hf => exact ⟨okF_flat hf, ren_flat hf⟩
  | ptr hi => exact ⟨by simpa [okF] using hi, by simp [ren, hρ _ hi]⟩
  | slc hi hk hc => exact ⟨by simpa [okF] using hi, by simp [ren, hρ _ hi]⟩
  | slc0 hi => exact ⟨by simpa [okF] using hi, by simp [ren, hρ _ hi]⟩
  | nil hi => exact ⟨by simpa [okF] using hi, by simp [ren, hρ _ hi]⟩
theorem All2.low {R : Value → Value → Prop} {ok : Value → Bool} {f : Value → Value} : ∀ {l m : List Value}, All2 R l m → (∀ a b, R a b → ok a = true ∧ f a = a) → l.all ok = true ∧ l.map f = l
  | _, _, .nil, _ => ⟨rfl, rfl⟩
  | _, _, .cons h t, hs => by
    obtain ⟨h1, h2⟩ := hs _ _ h
    obtain ⟨h3, h4⟩ := t.low hs
    simp [h1, h2, h3, h4]
theorem AR.low (h : AR μ n v v') (hρ : ∀ i, i < n → ρ i = some i) : okA n v = true ∧ renA ρ v = v := by
  cases h with
  | one h =>
    have h1 := h.low hρ
    unfold okA renA
    split
    · rename_i cs; exact absurd rfl (h.flatness.1 cs)
    · exact h1
  | agg h =>
    obtain ⟨h1, h2⟩ := h.low (ok := okF n) (f := ren ρ) fun a b hab => hab.low hρ
    simp only [okA, renA]
    exact ⟨h1, by rw [h2]⟩
theorem VR.low (h : VR μ n v v') (hρ : ∀ i, i < n → ρ i = some i) : okT n v = true ∧ renT ρ v = v := by
  cases h with
  | one h =>
    have h1 := h.low hρ
    unfold okT renT
    split
    · rename_i cs
      cases h with
      | one h => exact absurd rfl (h.flatness.2.1 cs)
    · exact h1
  | tup h =>
    obtain ⟨h1, h2⟩ := h.low (ok := okA n) (f := renA ρ) fun a b hab => hab.low hρ
    simp only [okT, renT]
    exact ⟨h1, by rw [h2]⟩

theorem zipE_map (f : Value → Value) : ∀ (cs : List Nat) (vs : List Value) (t : Nat), (zipE cs (vs.map f)).get t = ((zipE cs vs).get t).map f
  | [], vs, t => by cases vs <;> rfl
  | c :: cs, [], t => rfl
  | c :: cs, v :: vs, t => by
    show Env.get ((c, f v) :: zipE cs (vs.map f)) t = (Env.get ((c, v) :: zipE cs vs) t).map f
    rw [Env.get_if, Env.get_if]
    split
    · rfl
    · exact zipE_map f cs vs t
theorem zipE_mem : ∀ (cs : List Nat) (vs : List Value) (t : Nat) (v : Value), (zipE cs vs).get t = some v → v ∈ vs
  | [], vs, t, v, h => by cases vs <;> cases h
  | c :: cs, [], t, v, h => by cases h
  | c :: cs, u :: vs, t, v, h => by
    have h' : Env.get ((c, u) :: zipE cs vs) t = some v := h
    rw [Env.get_if] at h'
    split at h'
    · obtain rfl := Option.some.inj h'; exact List.mem_cons_self ..
    · exact List.mem_cons_of_mem _ (zipE_mem cs vs t v h')

/-- With rows of small numbers. -/
def Tid (n : Nat) (N : List Value → Heap → Prop) (vs : List Value) (h : Heap) : Prop := ∃ ρ vsc hc, Cmp n ρ hc h ∧ vs = vsc.map (renT ρ) ∧ vsc.all (okT hc.n) = true ∧ N vsc hc
def In (n : Nat) (N : List Value → Heap → Prop) (vs : List Value) (h : Heap) : Prop := N vs h ∨ Tid n N vs h

theorem In.go {N : List Value → Heap → Prop} {vs : List Value} {cs : List Nat} {E : Env} {a0 : Act} {h0 : Heap} {μ0 : Mu} (hi : In h0.n N vs h) (x : Ext h0.n μ0 h.n μ) (hr : Rep w0 μ h w) (hE : ER nt μ0 h0.n E a0) (he : ER nt μ h.n (zipE cs vs ++ E) a) :
    ∃ vs' h' μ', Ext h0.n μ0 h'.n μ' ∧ Rep w0 μ' h' w ∧ ER nt μ' h'.n (zipE cs vs' ++ E) a ∧ N vs' h' := by
  rcases hi with hi | ⟨ρ, vsc, hc, hC, rfl, hok, hN⟩
  · exact ⟨vs, h, μ, x, hr, he, hi⟩
  · refine ⟨vsc, hc, μ.via ρ hc, ⟨hC.le, fun i hi => by rw [Mu.via_some (hC.low i hi)]; exact x.2 i hi⟩, hr.cmp hC, ⟨he.1, he.2.1, fun t v ht => ?_⟩, hN⟩
    rw [get_append] at ht
    have he' := he.2.2 t
    rw [get_append, zipE_map] at he'
    split at ht
    · rename_i u hu
      obtain rfl := Option.some.inj ht
      rw [hu] at he'
      exact (he' _ rfl).cmp (List.all_eq_true.1 hok _ (zipE_mem _ _ _ _ hu))
    · rename_i hu
      rw [hu] at he'
      have h1 := he' v ht
      obtain ⟨h2, h3⟩ := (hE.2.2 t v ht).low (ρ := ρ) hC.low
      refine VR.cmp (N := h.n) (okT_mono hC.le h2) ?_
      rw [h3]
      exact h1

theorem ER.forget (he : ER nt μ n e a) (ts : List Nat) : ER nt μ n (e.forget ts) a := he.sub (forget_sub e)

/-- The rule of a loop, rows renumbered behind each round. -/
theorem loop_ruleC (hC : COk P C) (hM : CMono C) (hL : LMono LS) {id : Nat} {c : MCode} (hl : LOk P nt LS c) (hw : wr sp.ts LS c = true) (hcs : sp.cs.all (memN · sp.ts) = true)
    (rule : ∀ vs h K, sp.f vs h K → ∃ I : Nat → List Value → Heap → Prop, In h.n (fun vs h => ∃ n, I n vs h) vs h ∧ ∀ n vs h1 E, Apart sp.ts E → I n vs h1 → mwp C LS c (lK sp.cs (In h.n fun vs' h' => ∃ m, m < n ∧ I m vs' h') (fun x => In h.n (K x))) (zipE sp.cs vs ++ E) h1) : LOk1 P nt sp (.loop id c) := by
  intro R e h hP code k hc w0 μ a w hr he
  obtain ⟨cc, k', rfl, hcc⟩ := compile_loop hc
  unfold loopP at hP
  split at hP
  · rename_i vs hg
    obtain ⟨I, h0, round⟩ := rule vs h _ hP
    have hE : Apart sp.ts (e.forget sp.ts) := apart_forget e
    obtain ⟨vs0, h0', μ0, x0, hr0, he0, n0, hI0⟩ := h0.go (cs := sp.cs) (Ext.refl _ _) hr (he.forget sp.ts) (he.sub (sub_append (gets_zip hg) (forget_sub e)))
    refine wp_loop_rounds (fun n a' w' => ∃ vs' h' μ', Ext h.n μ h'.n μ' ∧ Rep w0 μ' h' w' ∧ ER nt μ' h'.n (zipE sp.cs vs' ++ e.forget sp.ts) a' ∧ I n vs' h') (n0 := n0) ⟨vs0, h0', μ0, x0, hr0, he0, hI0⟩ ?_
    rintro n a' w' ⟨vs1, h1, μ1, x1, hr1, he1, hI1⟩
    have hm := mwp_frame hM hL hE c hw (sub_zip hE hcs vs1) (round n vs1 h1 _ hE hI1)
    refine wp_mono (mwp_sound hC cc hcc hl hm w0 μ1 a' w' hr1 he1) ?_
    rintro z a'' w'' ⟨e2, h2, μ2, x2, hr2, he2, hs2, hR⟩
    unfold lK at hR
    split at hR
    · rename_i vs2 hg2
      have he3 := he2.sub (sub_append (gets_zip hg2) hs2)
      cases z with
      | normal =>
        obtain ⟨vs3, h3, μ3, x3, hr3, he3, m, hlt, hI⟩ := In.go hR (x1.trans x2) hr2 (he.forget sp.ts) he3
        exact ⟨m, hlt, vs3, h3, μ3, x3, hr3, he3, hI⟩
      | _ =>
        obtain ⟨vs3, h3, μ3, x3, hr3, he3, hK⟩ := In.go hR (x1.trans x2) hr2 (he.forget sp.ts) he3
        exact ⟨_, h3, μ3, x3, hr3, he3, hK⟩
    · exact hR.elim
  · exact hP.elim

/-- A loop with a state x, over a heap H x. -/
theorem loop_resC {σ : Type} (hC : COk P C) (hM : CMono C) (hL : LMono LS) {id : Nat} {c : MCode} (hl : LOk P nt LS c) (hw : wr sp.ts LS c = true) (hcs : sp.cs.all (memN · sp.ts) = true)
    (enc : σ → List Value) (H : σ → Heap) (inv : σ → Prop) (μ : σ → Nat) (n0 : Nat) (Res : σ → LK → Prop)
    (hf : ∀ vs h K, sp.f vs h K → h.n = n0 ∧ ∃ x, In n0 (fun vs h => vs = enc x ∧ h = H x) vs h ∧ inv x ∧ Res x K)
    (round : ∀ x E N K, Apart sp.ts E → inv x → (∀ y vs' h', inv y → μ y < μ x → Res y K → In n0 (fun vs h => vs = enc y ∧ h = H y) vs' h' → N vs' h') → Res x K → mwp C LS c (lK sp.cs N (fun x => In n0 (K x))) (zipE sp.cs (enc x) ++ E) (H x)) : LOk1 P nt sp (.loop id c) := by
  refine loop_ruleC hC hM hL hl hw hcs fun vs h K hh => ?_
  obtain ⟨rfl, x, hx, hi, hk⟩ := hf vs h K hh
  have up : ∀ {N N' : List Value → Heap → Prop} {vs h0}, (∀ vs h, N vs h → N' vs h) → In h.n N vs h0 → In h.n N' vs h0 := fun hNN hin => by
    rcases hin with hin | ⟨ρ, vsc, hc, q1, q2, q3, q4⟩
    · exact .inl (hNN _ _ hin)
    · exact .inr ⟨ρ, vsc, hc, q1, q2, q3, hNN _ _ q4⟩
  refine ⟨fun n vs' h' => ∃ y, vs' = enc y ∧ h' = H y ∧ inv y ∧ Res y K ∧ n = μ y, up (fun vs h hh => ⟨μ x, x, hh.1, hh.2, hi, hk, rfl⟩) hx, ?_⟩
  rintro n vs' h1 E hE ⟨y, rfl, rfl, hy, hr, rfl⟩
  exact round y E _ K hE hy (fun z vs' h' hz hlt hrz hin => up (fun vs h hh => ⟨μ z, hlt, z, hh.1, hh.2, hz, hrz, rfl⟩) hin) hr

def gK2 (cs cl : List Nat) (G : Nat → List Value → Heap → Prop) (K : LK) : XK := fun x e h => match x with
  | .goto l => match gets e cl with
    | some vs => G l vs h
    | none => False
  | x => match gets e cs with
    | some vs => K x vs h
    | none => False

/-- A scope with one label; at the label the slots cl; rows renumbered at each jump. -/
theorem scope_resC {σ : Type} (hC : COk P C) (hM : CMono C) (hL : LMono LS) {id l : Nat} {c rest : MCode} (hl : LOk P nt LS c) (hw : wr sp.ts LS c = true) (hcs : sp.cs.all (memN · sp.ts) = true) (cl : List Nat) (hcl : cl.all (memN · sp.ts) = true) (hfd : mfind c l = some rest)
    (enc : σ → List Value) (H : σ → Heap) (inv : σ → Prop) (μ : σ → Nat) (n0 : Nat) (Res : σ → LK → Prop)
    (first : ∀ vs h K, sp.f vs h K → h.n = n0 ∧ ∀ E G, Apart sp.ts E → (∀ y vs' h', inv y → Res y K → In n0 (fun vs h => vs = enc y ∧ h = H y) vs' h' → G l vs' h') → mwp C LS c (gK2 sp.cs cl G (fun x => In n0 (K x))) (zipE sp.cs vs ++ E) h)
    (round : ∀ x E G K, Apart sp.ts E → inv x → (∀ y vs' h', inv y → μ y < μ x → Res y K → In n0 (fun vs h => vs = enc y ∧ h = H y) vs' h' → G l vs' h') → Res x K → mwp C LS rest (gK2 sp.cs cl G (fun x => In n0 (K x))) (zipE cl (enc x) ++ E) (H x)) : LOk1 P nt sp (.scope id c) := by
  intro R e h hP code k hc w0 μ0 a w hr he
  obtain ⟨cc, k', rfl, hcc⟩ := compile_scope hc
  unfold loopP at hP
  split at hP
  · rename_i vs hg
    obtain ⟨rfl, first⟩ := first vs h _ hP
    have hE : Apart sp.ts (e.forget sp.ts) := apart_forget e
    have up : ∀ {N N' : List Value → Heap → Prop} {vs h0}, (∀ vs h, N vs h → N' vs h) → In h.n N vs h0 → In h.n N' vs h0 := fun hNN hin => by
      rcases hin with hin | ⟨ρ, vsc, hc, q1, q2, q3, q4⟩
      · exact .inl (hNN _ _ hin)
      · exact .inr ⟨ρ, vsc, hc, q1, q2, q3, hNN _ _ q4⟩
    refine wp_scope_all (fun l' n a' w' => ∃ vs' h' μ', Ext h.n μ0 h'.n μ' ∧ Rep w0 μ' h' w' ∧ ER nt μ' h'.n (zipE cl vs' ++ e.forget sp.ts) a' ∧ l' = l ∧ ∃ y, vs' = enc y ∧ h' = H y ∧ inv y ∧ Res y (fun x vs h => R x (zipE sp.cs vs ++ e.forget sp.ts) h) ∧ n = μ y) ?_ ?_
    · have hm := mwp_frame hM hL hE c hw (sub_zip hE hcs vs) (first _ (fun l' => In h.n fun vs' h' => l' = l ∧ ∃ y, vs' = enc y ∧ h' = H y ∧ inv y ∧ Res y (fun x vs h => R x (zipE sp.cs vs ++ e.forget sp.ts) h)) hE (fun y vs' h' hy hry hin => up (fun vs h hh => ⟨rfl, y, hh.1, hh.2, hy, hry⟩) hin))
      refine wp_mono (mwp_sound hC cc hcc hl hm w0 μ0 a w hr (he.sub (sub_append (gets_zip hg) (forget_sub e)))) ?_
      rintro z a'' w'' ⟨e2, h2, μ2, x2, hr2, he2, hs2, hR⟩
      unfold gK2 at hR
      split at hR
      · split at hR
        · rename_i vs2 hg2
          have he3 := he2.sub (sub_append (gets_zip hg2) hs2)
          obtain ⟨vs3, h3, μ3, x3, hr3, he3, hl3, y, q1, q2, q3, q4⟩ := In.go hR x2 hr2 (he.forget sp.ts) he3
          exact ⟨μ y, vs3, h3, μ3, x3, hr3, he3, hl3, y, q1, q2, q3, q4, rfl⟩
        · exact hR.elim
      · rename_i hne
        split at hR
        · rename_i vs2 hg2
          have he3 := he2.sub (sub_append (gets_zip hg2) hs2)
          obtain ⟨vs3, h3, μ3, x3, hr3, he3, hK⟩ := In.go hR x2 hr2 (he.forget sp.ts) he3
          cases z with
          | goto l' => exact absurd rfl (hne l')
          | _ => exact ⟨_, h3, μ3, x3, hr3, he3, hK⟩
        · exact hR.elim
    · rintro l' n a' w' ⟨vs1, h1, μ1, x1, hr1, he1, rfl, y, rfl, rfl, hy, hry, rfl⟩
      obtain ⟨rc, hf', hrc⟩ := mfind_find cc hcc hfd
      obtain ⟨hl', hw'⟩ := mfind_ok c hfd hl hw
      have hm0 := round y (e.forget sp.ts) (fun l'' => In h.n fun vs' h' => l'' = l' ∧ ∃ z, vs' = enc z ∧ h' = H z ∧ inv z ∧ μ z < μ y ∧ Res z _) _ hE hy (fun z vs' h' hz hlt hrz hin => up (fun vs h hh => ⟨rfl, z, hh.1, hh.2, hz, hlt, hrz⟩) hin) hry
      have hm := mwp_frame hM hL hE rest hw' (sub_zip hE hcl (enc y)) hm0
      refine ⟨rc, hf', wp_mono (mwp_sound hC rc hrc hl' hm w0 μ1 a' w' hr1 he1) ?_⟩
      rintro z a'' w'' ⟨e2, h2, μ2, x2, hr2, he2, hs2, hR⟩
      unfold gK2 at hR
      split at hR
      · split at hR
        · rename_i vs2 hg2
          have he3 := he2.sub (sub_append (gets_zip hg2) hs2)
          obtain ⟨vs3, h3, μ3, x3, hr3, he3, hl3, t, q1, q2, q3, q4, q5⟩ := In.go hR (x1.trans x2) hr2 (he.forget sp.ts) he3
          exact ⟨μ t, q4, vs3, h3, μ3, x3, hr3, he3, hl3, t, q1, q2, q3, q5, rfl⟩
        · exact hR.elim
      · rename_i hne
        split at hR
        · rename_i vs2 hg2
          have he3 := he2.sub (sub_append (gets_zip hg2) hs2)
          obtain ⟨vs3, h3, μ3, x3, hr3, he3, hK⟩ := In.go hR (x1.trans x2) hr2 (he.forget sp.ts) he3
          cases z with
          | goto l' => exact absurd rfl (hne l')
          | _ => exact ⟨_, h3, μ3, x3, hr3, he3, hK⟩
        · exact hR.elim
  · exact hP.elim

theorem fin_lit {L : List (Option Blk)} : ∀ j b, (lit L).g j = some b → j < L.length := fun j b hj => by
  rcases Nat.lt_or_ge j L.length with h1 | h1
  · exact h1
  · rw [lit_g, List.getD_eq_getElem?_getD, List.getElem?_eq_none h1] at hj; cases hj
/-- Flat rows, renumbered. -/
theorem Cmp.flat {L : List (Option Blk)} {ρl : List (Option Nat)} (hn : n ≤ L.length) (hlow : ∀ j, j < n → ρl.getD j none = some j) (hlt : ∀ j k, j < L.length → ρl.getD j none = some k → k < h.n)
    (hinj : ∀ i j b c k, (lit L).g i = some b → (lit L).g j = some c → ρl.getD i none = some k → ρl.getD j none = some k → i = j)
    (hg : ∀ j b k, (lit L).g j = some b → ρl.getD j none = some k → b.cells.all flatV = true ∧ h.g k = some b) (hgh : ∀ j b, (lit L).g j = some b → ρl.getD j none = none → b.cells = []) : Cmp n (fun j => ρl.getD j none) (lit L) h := by
  refine ⟨⟨hlt, fin_lit, hinj, fun j b k hj hk => ?_, hgh⟩, fun j b b' k hj hk hb' => ?_, hn, hlow⟩
  · obtain ⟨h1, h2⟩ := hg j b k hj hk
    refine ⟨List.all_eq_true.2 fun v hv => okF_flat (List.all_eq_true.1 h1 v hv), b.own, ?_, id⟩
    have : b.cells.map (ren fun j => ρl.getD j none) = b.cells := by
      exact (List.map_congr_left (g := id) fun v hv => ren_flat (List.all_eq_true.1 h1 v hv)).trans (List.map_id _)
    rw [this]
    exact h2
  · have := (hg j b k hj hk).2.symm.trans hb'
    rw [← Option.some.inj this]

/-- A call with plain values, told over the empty heap. -/
theorem ACalls.alone {f : Nat} {vs : List Value} {K : VK} (hvs : vs.all cleanT = true) (hh : ACalls P f vs (lit []) fun v _ => ck (cleanT v) (K v h)) : ACalls P f vs h K := by
  refine ⟨hh.1, fun w0 μ w vs' hr hall => ?_⟩
  have e : vs' = vs := by
    clear hh
    induction hall with
    | nil => rfl
    | cons h0 t ih =>
      simp only [List.all_cons, Bool.and_eq_true] at hvs
      rw [h0.same_clean hvs.1, ih hvs.2]
  subst e
  have hno : ∀ {i b}, (lit []).g i = some b → False := fun {i b} hi => by rw [lit_g] at hi; simp at hi
  have hr0 : Rep ⟨w, fun _ => none, hr.gl⟩ μ (lit []) w := ⟨Below.refl _ _, fun i b hi => (hno hi).elim, fun i b hi => (hno hi).elim, fun i b hi => (hno hi).elim, fun i b hi => (hno hi).elim, fun i b hi => (hno hi).elim, fun k o hk => (by cases hk), fun i b hi => (hno hi).elim, fun i b hi => (hno hi).elim, fun i b hi => (hno hi).elim, fun i j b c hij hi => (hno hi).elim⟩
  refine (hh.2 _ μ w _ hr0 (All2.same fun v hv => VR.of_cleanT (List.all_eq_true.1 hvs v hv))).mono ?_
  rintro e w' ⟨v, v', h', μ', rfl, _, hr', hv, hcK⟩
  obtain ⟨hcl, hK⟩ := ck_iff.1 hcK
  refine ⟨v, v', h, μ, rfl, Ext.refl _ _, hr.on hr'.below, ?_, hK⟩
  rw [hv.same_clean hcl]
  exact VR.of_cleanT hcl
end
end Go.Mini
