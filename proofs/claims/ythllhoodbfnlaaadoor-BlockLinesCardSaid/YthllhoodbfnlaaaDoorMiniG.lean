/- Mini: regions, control flow, calls: what is asked of the short form holds of the code. No condition. -/
import Derived.Test.YthllhoodbfnlaaaDoorMiniF
namespace Go.Mini
open Go Go.RowKit
set_option linter.unusedVariables false
set_option linter.unusedSimpArgs false

/-- A call, told over the heap of numbered rows. -/
def ACalls (P : Program) (f : Nat) (vs : List Value) (h : Heap) (K : VK) : Prop :=
  (∃ fn, P.funcs[f]? = some fn ∧ fn.body.isNone = false ∧ (fn.name == "runtime.NumGoroutine") = false) ∧
  ∀ (w0 : Org P) μ w vs', Rep w0 μ h w → All2 (VR μ h.n) vs vs' → Calls P f vs'.toArray w fun e w' => ∃ v v' h' μ', e = .returned v' ∧ Ext h.n μ h'.n μ' ∧ Rep w0 μ' h' w' ∧ VR μ' h'.n v v' ∧ K v h'

theorem ACalls.mono {P : Program} {f : Nat} {vs : List Value} {h : Heap} {K K' : VK} (hh : ACalls P f vs h K) (hk : ∀ v h', K v h' → K' v h') : ACalls P f vs h K' :=
  ⟨hh.1, fun w0 μ w vs' hr hv => (hh.2 w0 μ w vs' hr hv).mono fun e w' ⟨v, v', h', μ', h1, h2, h3, h4, h5⟩ => ⟨v, v', h', μ', h1, h2, h3, h4, hk _ _ h5⟩⟩

section
variable {P : Program} {nt : NT} {w0 : Org P} {w : World} {μ : Mu} {h : Heap} {e : Env} {a : Act} {o : Oper} {K : VK} {n : Nat}

theorem cmos_ev (he : ER nt μ n e a) : ∀ {xs : List Operand} {ys : List MO}, cmos xs = some ys → ∀ {vs : List Value}, evs e ys = some vs → All2 (VR μ n) vs (xs.map a.eval)
  | [], ys, hc, vs, hv => by
    obtain rfl := Option.some.inj hc
    obtain rfl := Option.some.inj hv
    exact .nil
  | x :: xs, ys, hc, vs, hv => by
    unfold cmos at hc
    split at hc
    · rename_i y ys' h1 h2
      obtain rfl := Option.some.inj hc
      unfold evs at hv
      split at hv
      · rename_i v vs' h3 h4
        obtain rfl := Option.some.inj hv
        exact .cons (cmo_ev h1 he h3) (cmos_ev he h2 h4)
      · cases hv
    · cases hc

/-- What holds behind code. -/
def XQ {P : Program} (w0 : Org P) (nt : NT) (μ : Mu) (n : Nat) (R : XK) : Exit → Act → World → Prop := fun x a' w' => ∃ e' h' μ', Ext n μ h'.n μ' ∧ Rep w0 μ' h' w' ∧ ER nt μ' h'.n e' a' ∧ R x e' h'

theorem XQ.ext {P : Program} {w0 : Org P} {nt : NT} {μ μ' : Mu} {n n' : Nat} {R : XK} {x : Exit} {a : Act} {w : World} (hh : XQ w0 nt μ' n' R x a w) (hx : Ext n μ n' μ') : XQ w0 nt μ n R x a w :=
  let ⟨e', h', μ'', h1, h2, h3, h4⟩ := hh; ⟨e', h', μ'', hx.trans h1, h2, h3, h4⟩

def froze (h : Heap) : Heap := ⟨h.n, h.l.map (Option.map fun b => { b with own := false })⟩
theorem mrow_map (f : Blk → Blk) : ∀ (l : List (Option Blk)) (i : Nat), mrow (l.map (Option.map f)) i = (mrow l i).map f
  | [], i => by rw [List.map_nil, mrow_nil]; rfl
  | x :: l, 0 => rfl
  | x :: l, i + 1 => mrow_map f l i
theorem froze_g (h : Heap) (i : Nat) : (froze h).g i = (h.g i).map fun b => { b with own := false } := mrow_map _ _ _
/-- What is told of calls that write nothing leaves no choice. -/
def CDet (C : CT) : Prop := ∀ f vs h (K : Value → Prop), C f vs (froze h) (fun v _ => K v) → ∃ v0, K v0 ∧ C f vs (froze h) (fun v _ => v = v0)
def COk (P : Program) (C : CT) : Prop := (∀ f vs h K, C f vs h K → ACalls P f vs h K) ∧ CDet C

theorem vcall_ok' {C : CT} (hC : COk P C) {f : Nat} {vs : Option (List Value)} (hh : vcall C f vs h K) : vcall (ACalls P) f vs h K := by
  unfold vcall at hh ⊢
  split at hh
  · exact hC.1 _ _ _ _ hh
  · exact hh.elim

theorem call_wp {args : Array Operand} {tys : Array TypeId} {f : Nat} {ys : List MO} (hop : o.op = .call ⟨.value (.func f), args, tys⟩) (hc : cmos args.toList = some ys) (hr : Rep w0 μ h w) (he : ER nt μ h.n e a) (hK : vcall (ACalls P) f (evs e ys) h K)
    {L : Act → World → Prop} {Q : Exit → Act → World → Prop} (hL : ∀ v v' h' μ' w', Ext h.n μ h'.n μ' → Rep w0 μ' h' w' → VR μ' h'.n v v' → K v h' → L (a.put o.dst v') w') : o.wp P a w L Q := by
  unfold vcall at hK
  split at hK
  · rename_i vs hvs
    obtain ⟨⟨fn, h1, h2, h3⟩, hK⟩ := hK
    have hall := cmos_ev he hc hvs
    have hcall := hK w0 μ w _ hr hall
    unfold Oper.wp
    have hrun : (execOp a.eval o).run P w = .ok (.enter f (args.toList.map a.eval).toArray) w := by
      have ha : args.map a.eval = (args.toList.map a.eval).toArray := by apply Array.ext'; simp
      have h2' : ¬ fn.body = none := fun hh => by rw [hh] at h2; cases h2
      have h3' : ¬ fn.name = "runtime.NumGoroutine" := by simpa using h3
      simp [execOp, hop, resolve, Deferred.ofValue, Act.eval, invoke, callFunc, h1, h2', h3', ha, program, Sem.run, pure, Sem.bind, bind]
    rw [hrun]
    simp only [Oper.upon]
    exact hcall.mono fun e w' ⟨v, v', h', μ', q1, q2, q3, q4, q5⟩ => by subst q1; exact hL v v' h' μ' w' q2 q3 q4 q5
  · exact hK.elim

theorem yielded_of {ops : Array Oper} {j t : Nat} (hj : (ops[j]?).bind (·.dst) = some t) (he : ER nt μ n e a) {v : Value} (hv : e.get t = some v) (ht : t < nt.n) :
    (∀ b, v = .bool b → yielded ops a.tmps j = some b) ∧ (∀ vs, v = .tuple vs → yielded ops a.tmps j = none) := by
  have h1 := he.2.2 t v hv
  have h2 : a.tmps[t]? = some (a.tmps.getD t undef) := by
    rw [Array.getD_eq_getD_getElem?, Array.getElem?_eq_getElem (by rw [he.1]; exact ht)]
    rfl
  unfold yielded
  simp only [hj, Option.bind_some, h2]
  constructor
  · rintro b rfl
    rw [h1.flat rfl]
  · rintro vs rfl
    obtain ⟨vs', h3, _⟩ := h1.tuple
    rw [h3]

theorem aops_wp {C : CT} (hC : COk P C) {ops : Array Oper} {R : XK} {Q : Exit → Act → World → Prop} (hnt : ∀ o ∈ ops.toList, o.dst.all (· < nt.n) = true) : ∀ {l : List Oper} {ml : List MOper}, copers P nt ops l = some ml → ∀ {e : Env} {h : Heap} {μ : Mu} {a : Act} {w : World}, Rep w0 μ h w → ER nt μ h.n e a → aops C R ml e h →
    (∀ e' h' μ' a' w', Ext h.n μ h'.n μ' → Rep w0 μ' h' w' → ER nt μ' h'.n e' a' → R .normal e' h' → Q .normal a' w') → wpList P ops Q l a w
  | [], ml, hc, e, h, μ, a, w, hr, he, hK, hQ => by
    obtain rfl := Option.some.inj hc
    exact hQ e h μ a w (Ext.refl _ _) hr he hK
  | o :: l, ml, hc, e, h, μ, a, w, hr, he, hK, hQ => by
    unfold copers at hc
    split at hc
    · rename_i m ml' h1 h2
      obtain rfl := Option.some.inj hc
      unfold coper at h1
      split at h1
      · cases h1
      · rename_i mop hmop
        split at h1
        · rename_i hd
          -- the operation itself
          have run : ∀ {e : Env}, ER nt μ h.n e a → ∀ (hK : eop C e h (fun v h' => aops C R ml' (e.put o.dst v) h') mop), ∀ K' : Act → World → Prop, (∀ a w, wpList P ops Q l a w → K' a w) → o.wp P a w K' Q := by
            intro e he hK K' hK'
            cases hcall : isCall mop with
            | false =>
              obtain ⟨v, h', μ', w', v', q1, q2, q3, q4, q5, _⟩ := eop_does hmop hcall hr he hK
              have hgo : wpList P ops Q l (a.put o.dst v') w' := aops_wp hC hnt h2 q4 ((he.ext q3).put hd q5) q1 (fun e' h'' μ'' a' w' x => hQ e' h'' μ'' a' w' (q3.trans x))
              unfold Oper.wp
              rcases q2 with q2 | ⟨rfl, q2⟩
              · rw [q2]; exact hK' _ _ hgo
              · rw [q2]; exact hK' _ _ hgo
            | true =>
              obtain ⟨f, ys, rfl⟩ : ∃ f ys, mop = .call f ys := by cases mop <;> first | exact ⟨_, _, rfl⟩ | cases hcall
              have hop : o.op = o.op := rfl
              obtain ⟨args, tys, hq, hcs⟩ : ∃ args tys, o.op = .call ⟨.value (.func f), args, tys⟩ ∧ cmos args.toList = some ys := by
                generalize hq : o.op = q at hmop
                unfold cop at hmop
                split at hmop <;> first
                  | (obtain ⟨_, _, hh⟩ := Option.map_eq_some_iff.1 hmop; first | (cases hh; done) | (injection hh with e1 e2; subst e1 e2; exact ⟨_, _, rfl, by assumption⟩))
                  | (exfalso; revert hmop; (repeat' split) <;> first | (intro hmop; cases hmop; done) | (intro hmop; obtain ⟨_, _, hh⟩ := Option.map_eq_some_iff.1 hmop; cases hh; done))
              exact call_wp hq hcs hr he (vcall_ok' hC hK) fun v v' h' μ' w' x hr' hv' hk => hK' _ _ (aops_wp hC hnt h2 hr' ((he.ext x).put hd hv') hk (fun e' h'' μ'' a' w' y => hQ e' h'' μ'' a' w' (x.trans y)))
          have skip : ∀ {e : Env}, ER nt μ h.n e a → ∀ (hK : aops C R ml' (e.put o.dst undef) h), ∀ K' : Act → World → Prop, (∀ a w, wpList P ops Q l a w → K' a w) → K' (a.put o.dst undef) w := fun he hK K' hK' =>
            hK' _ _ (aops_wp hC hnt h2 hr (he.put hd VR.undef) hK hQ)
          split at h1
          · rename_i hg
            obtain rfl := Option.some.inj h1
            simp only [aops, gd] at hK
            exact wpList_plain hg (run he hK)
          · rename_i j want hg
            split at h1
            · rename_i t ht
              obtain rfl := Option.some.inj h1
              have htn : t < nt.n := by
                cases hoj : ops[j]? with
                | none => rw [hoj] at ht; cases ht
                | some oj =>
                  rw [hoj] at ht
                  have := hnt oj (Array.mem_toList_iff.2 (Array.mem_of_getElem? hoj))
                  simp only [Option.bind_some] at ht
                  rw [ht] at this
                  simpa using this
              simp only [aops, gd] at hK
              refine wpList_step fun K' hK' => ?_
              simp only [Region.wanted, hg]
              split at hK
              · rename_i b hb
                obtain ⟨y1, _⟩ := yielded_of ht he hb htn
                rw [y1 b rfl]
                cases b with
                | true =>
                  have hK1 := hK
                  cases want with
                  | true => simpa using run (he.told hb) hK1 K' hK'
                  | false => simpa using skip (he.told hb) hK1 K' hK'
                | false =>
                  have hK1 := hK
                  cases want with
                  | true => simpa using skip (he.told hb) hK1 K' hK'
                  | false => simpa using run (he.told hb) hK1 K' hK'
              · rename_i vs hb
                obtain ⟨_, y2⟩ := yielded_of ht he hb htn
                rw [y2 vs rfl]
                exact skip he hK K' hK'
              · exact hK.elim
            · cases h1
        · cases h1
    · cases hc
end
end Go.Mini
