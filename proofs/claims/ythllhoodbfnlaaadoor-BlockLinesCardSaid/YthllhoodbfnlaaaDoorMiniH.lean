/- Mini: control flow. No condition. -/
import Derived.Test.YthllhoodbfnlaaaDoorMiniM
namespace Go.Mini
open Go Go.RowKit
set_option linter.unusedVariables false
set_option linter.unusedSimpArgs false

abbrev LK := Exit → List Value → Heap → Prop

/-- What a loop is told to do: the slots that it carries, the slots that it writes, and its rule. -/
structure LSpec where
  cs : List Nat
  ts : List Nat
  f : List Value → Heap → LK → Prop
abbrev LT := Nat → LSpec

def Env.forget (ts : List Nat) : Env → Env
  | [] => []
  | (t, v) :: e => bif memN t ts then Env.forget ts e else (t, v) :: Env.forget ts e

def gets (e : Env) : List Nat → Option (List Value)
  | [] => some []
  | t :: ts => match e.get t, gets e ts with
    | some v, some vs => some (v :: vs)
    | _, _ => none

def zipE : List Nat → List Value → Env
  | t :: ts, v :: vs => (t, v) :: zipE ts vs
  | _, _ => []

def seqK (B : Env → Heap → Prop) (R : XK) : XK := fun x e h => match x with | .normal => B e h | x => R x e h
def blockK (id : Nat) (R : XK) : XK := fun x e h => match x with | .exit id' => (bif Nat.beq id' id then R .normal e h else R (.exit id') e h) | x => R x e h
/-- Behind a loop: what it carries, and what it didn't write. -/
def behind (cs ts : List Nat) (e : Env) (R : XK) : LK := fun x vs h => R x (zipE cs vs ++ e.forget ts) h

def MSem (P : Program) (nt : NT) (c : Code) (R : XK) (e : Env) (h : Heap) : Prop := ∀ (w0 : Org P) μ a w, Rep w0 μ h w → ER nt μ h.n e a → c.wp P (XQ w0 nt μ h.n R) a w
def MW (P : Program) (nt : NT) (m : MCode) (R : XK) (e : Env) (h : Heap) : Prop := ∀ c k, compile P nt c k = some m → MSem P nt c R e h

def loopP (sp : LSpec) (R : XK) (e : Env) (h : Heap) : Prop :=
  match gets e sp.cs with
  | some vs => sp.f vs h (behind sp.cs sp.ts e R)
  | none => False

def mwp (C : CT) (LS : LT) : MCode → XK → Env → Heap → Prop
  | .skip, R => R .normal
  | .label _, R => R .normal
  | .reg ops, R => aops C R ops
  | .dreg hd tl, R => fun e h => qops C hd e h fun e' => aops C R tl e' h
  | .seq a b, R => mwp C LS a (seqK (mwp C LS b R) R)
  | .cond c a b, R => fun e h => match c.ev e with
    | some (.bool t) => br t (mwp C LS a R e h) (mwp C LS b R e h)
    | _ => False
  | .block id c, R => mwp C LS c (blockK id R)
  | .loop id _, R => loopP (LS id) R
  | .exit id, R => R (.exit id)
  | .scope id _, R => loopP (LS id) R
  | .goto l, R => R (.goto l)
  | .ret, R => R .ret

/-- A loop's rule holds of it. -/
def LOk1 (P : Program) (nt : NT) (sp : LSpec) (m : MCode) : Prop := ∀ R e h, loopP sp R e h → MW P nt m R e h
def LOk (P : Program) (nt : NT) (LS : LT) : MCode → Prop
  | .seq a b => LOk P nt LS a ∧ LOk P nt LS b
  | .cond _ a b => LOk P nt LS a ∧ LOk P nt LS b
  | .block _ c => LOk P nt LS c
  | .loop id c => LOk1 P nt (LS id) (.loop id c)
  | .scope id c => LOk1 P nt (LS id) (.scope id c)
  | _ => True

section
variable {P : Program} {nt : NT} {w0 : Org P} {w : World} {μ : Mu} {h : Heap} {e : Env} {a : Act} {R : XK} {C : CT} {LS : LT}

def Env.Sub (e' e : Env) : Prop := ∀ t v, e'.get t = some v → e.get t = some v
theorem ER.sub {e' : Env} {n : Nat} (he : ER nt μ n e a) (hs : Env.Sub e' e) : ER nt μ n e' a := ⟨he.1, he.2.1, fun t v ht => he.2.2 t v (hs t v ht)⟩

theorem copers_nt {ops : Array Oper} : ∀ {l : List Oper} {ml : List MOper}, copers P nt ops l = some ml → ∀ o ∈ l, o.dst.all (· < nt.n) = true
  | [], ml, hc, o, ho => by cases ho
  | x :: l, ml, hc, o, ho => by
    unfold copers at hc
    split at hc
    · rename_i m ml' h1 h2
      rcases List.mem_cons.1 ho with rfl | ho
      · unfold coper at h1
        split at h1
        · cases h1
        · split at h1
          · assumption
          · cases h1
      · exact copers_nt h2 o ho
    · cases hc

theorem copers_take {ops : Array Oper} : ∀ {l : List Oper} {ml : List MOper} (n : Nat), copers P nt ops l = some ml → copers P nt ops (l.take n) = some (ml.take n) ∧ copers P nt ops (l.drop n) = some (ml.drop n)
  | [], ml, n, hc => by obtain rfl := Option.some.inj hc; simp [copers]
  | x :: l, ml, 0, hc => ⟨rfl, hc⟩
  | x :: l, ml, n + 1, hc => by
    unfold copers at hc
    split at hc
    · rename_i m ml' h1 h2
      obtain rfl := Option.some.inj hc
      obtain ⟨h3, h4⟩ := copers_take n h2
      exact ⟨by simp [copers, h1, h3], h4⟩
    · cases hc

theorem qops_quiet (hC : COk P C) {ops : Array Oper} {Qa : Act → Prop} {K : Env → Prop} (hnt : ∀ o ∈ ops.toList, o.dst.all (· < nt.n) = true) (hr : Rep w0 μ h w) : ∀ {l : List Oper} {ml : List MOper}, copers P nt ops l = some ml → (∀ o ∈ l, quietR o.op = true) → ∀ {e : Env} {a : Act}, ER nt μ h.n e a → qops C ml e h K →
    (∀ e' a', ER nt μ h.n e' a' → K e' → Qa a') → wpQuiet P ops (fun w' => Below w.heap.size w w') Qa l a
  | [], ml, hc, hq, e, a, he, hK, hQ => by
    obtain rfl := Option.some.inj hc
    exact hQ e a he hK
  | o :: l, ml, hc, hq, e, a, he, hK, hQ => by
    unfold copers at hc
    split at hc
    · rename_i m ml' h1 h2
      obtain rfl := Option.some.inj hc
      unfold coper at h1
      split at h1
      · cases h1
      · rename_i mop hmop
        split at h1
        · rename_i hd
          have run : ∀ {e : Env}, ER nt μ h.n e a → qop C e h (fun v => qops C ml' (e.put o.dst v) h K) mop → o.quiet P a (fun w' => Below w.heap.size w w') (wpQuiet P ops (fun w' => Below w.heap.size w w') Qa l) := fun he hK => by
            obtain ⟨v, v', q1, q2, q3⟩ := qop_quiet hC hmop (hq o (List.mem_cons_self ..)) hr he hK
            exact ⟨v', q3, qops_quiet hC hnt hr h2 (fun x hx => hq x (List.mem_cons_of_mem _ hx)) (he.put hd q1) q2 hQ⟩
          have skip : ∀ {e : Env}, ER nt μ h.n e a → qops C ml' (e.put o.dst undef) h K → wpQuiet P ops (fun w' => Below w.heap.size w w') Qa l (a.put o.dst undef) := fun he hK =>
            qops_quiet hC hnt hr h2 (fun x hx => hq x (List.mem_cons_of_mem _ hx)) (he.put hd VR.undef) hK hQ
          unfold wpQuiet
          split at h1
          · rename_i hg
            obtain rfl := Option.some.inj h1
            simp only [qops, gd] at hK
            rw [if_pos (by simp [Region.wanted, hg])]
            exact run he hK
          · rename_i j want hg
            split at h1
            · rename_i t ht
              obtain rfl := Option.some.inj h1
              have htn : t < nt.n := by
                cases hoj : ops[j]? with
                | none => rw [hoj] at ht; cases ht
                | some oj =>
                  rw [hoj] at ht
                  have := hnt oj (Array.mem_toList_iff.2 (Array.mem_of_getElem? hoj))
                  simp only [Option.bind_some] at ht
                  rw [ht] at this
                  simpa using this
              simp only [qops, gd] at hK
              simp only [Region.wanted, hg]
              split at hK
              · rename_i b hb
                obtain ⟨y1, _⟩ := yielded_of ht he hb htn
                rw [y1 b rfl]
                cases b with
                | true =>
                  have hK1 := hK
                  cases want with
                  | true => simpa using run (he.told hb) hK1
                  | false => simpa using skip (he.told hb) hK1
                | false =>
                  have hK1 := hK
                  cases want with
                  | true => simpa using skip (he.told hb) hK1
                  | false => simpa using run (he.told hb) hK1
              · rename_i vs hb
                obtain ⟨_, y2⟩ := yielded_of ht he hb htn
                rw [y2 vs rfl]
                exact skip he hK
              · exact hK.elim
            · cases h1
        · cases h1
    · cases hc

theorem quietN_spec {ops : Array Oper} {n : Nat} (hq : quietN ops = some n) : (Region.lexB .any ops = true ∧ n = ops.size ∧ ∀ o ∈ ops.toList, quietR o.op = true) ∨ (Region.lexTailB .any ops n = true ∧ ∀ o ∈ ops.toList.take n, quietR o.op = true) := by
  unfold quietN at hq
  split at hq
  · rename_i hc
    simp only [Bool.and_eq_true, List.all_eq_true] at hc
    exact .inl ⟨hc.1, (Option.some.inj hq).symm, hc.2⟩
  · have := List.find?_some hq
    simp only [Bool.and_eq_true, List.all_eq_true] at this
    exact .inr this

theorem mwp_sound (hC : COk P C) : ∀ (c : Code) {m : MCode} {k : Nat}, compile P nt c k = some m → LOk P nt LS m → ∀ {R : XK} {e : Env} {h : Heap}, mwp C LS m R e h → MSem P nt c R e h := by
  intro c
  induction c with
  | skip =>
    intro m k hc hl R e h hm w0 μ a w hr he
    obtain rfl := Option.some.inj hc
    exact wp_skip ⟨e, h, μ, Ext.refl _ _, hr, he, hm⟩
  | region id ops draw =>
    intro m k hc hl R e h hm w0 μ a w hr he
    unfold compile at hc
    split at hc
    · rename_i hd
      subst hd
      split at hc
      · rename_i hmix
        cases hT : memN 1000000 nt.T with
        | true =>
          rw [hT, cond_true] at hc
          split at hc
          · rename_i l hpe
            split at hc
            · rename_i x y h1 h2
              obtain rfl := Option.some.inj hc
              have hB : Below w.heap.size w { w with drawn := w.drawn + 1 } := ⟨rfl, rfl, rfl, Nat.le_refl _, fun _ _ => rfl⟩
              have key : (Code.region id ops true).wp P (fun x a w => x = .normal ∧ XQ w0 nt μ h.n R x a w) a w :=
                wp_region_perm hpe hmix (fun c a w hq => by cases hq.1) (fun ⟨a, w, hq⟩ => by cases hq.1)
                  (aops_wp hC (copers_nt h1) h2 (hr.on hB) he hm fun e'' h' μ' a'' w'' x hr' he'' hR => ⟨rfl, e'', h', μ', x, hr', he'', hR⟩)
              exact wp_mono key fun z a' w' hq => hq.2
            · cases hc
          · cases hc
        | false =>
        rw [hT, cond_false] at hc
        split at hc
        · rename_i n hqn
          split at hc
          · rename_i l hlo
            obtain rfl := Option.some.inj hc
            have hnt := copers_nt hlo
            obtain ⟨ht, hdp⟩ := copers_take n hlo
            have hB : Below w.heap.size w { w with drawn := w.drawn + 1 } := ⟨rfl, rfl, rfl, Nat.le_refl _, fun _ _ => rfl⟩
            have tail : ∀ e' a', ER nt μ h.n e' a' → aops C R (l.drop n) e' h → ∀ w', Below w.heap.size w w' → wpList P ops (XQ w0 nt μ h.n R) (ops.toList.drop n) a' w' := fun e' a' he' hK w' hb =>
              aops_wp hC hnt hdp (hr.on hb) he' hK fun e'' h' μ' a'' w'' x hr' he'' hR => ⟨e'', h', μ', x, hr', he'', hR⟩
            rcases quietN_spec hqn with ⟨hlex, hn, hqs⟩ | ⟨hlex, hqs⟩
            · have hall : ops.toList.take n = ops.toList := List.take_of_length_le (by simp [hn])
              have hnil : ops.toList.drop n = [] := List.drop_of_length_le (by simp [hn])
              rw [hall] at ht
              refine wp_region_quiet (C := fun w' => Below w.heap.size w w') hmix hlex hB ?_
              refine qops_quiet hC hnt hr ht hqs he hm fun e' a' he' hK w' hb => ?_
              have := tail e' a' he' hK w' hb
              rw [hnil] at this
              exact this
            · have e0 : ops.toList.toArray = ops := by simp
              have := wp_region_quiet_tail (id := id) (P := P) (l := ops.toList) (a := a) (w := w) (Q := XQ w0 nt μ h.n R) (C := fun w' => Below w.heap.size w w') n hmix (by rw [e0]; exact hlex) hB (by
                rw [e0]
                exact qops_quiet hC hnt hr ht hqs he hm tail)
              rw [e0] at this
              exact this
          · cases hc
        · split at hc
          · rename_i p hlate
            split at hc
            · rename_i l hlo
              obtain rfl := Option.some.inj hc
              have hnt := copers_nt hlo
              obtain ⟨ht, hdp⟩ := copers_take p.1 hlo
              have hB : Below w.heap.size w { w with drawn := w.drawn + 1 } := ⟨rfl, rfl, rfl, Nat.le_refl _, fun _ _ => rfl⟩
              have key : (Code.region id ops true).wp P (fun x a w => x = .normal ∧ XQ w0 nt μ h.n R x a w) a w :=
                wp_region_late (C := fun w' => Below w.heap.size w w') hlate hmix hB (fun c a w hq => by cases hq.1) (fun ⟨a, w, hq⟩ => by cases hq.1)
                  (qops_quiet hC hnt hr ht (lateN_spec hlate).2.2 he hm fun e' a' he' hK w' hb =>
                    aops_wp hC hnt hdp (hr.on hb) he' hK fun e'' h' μ' a'' w'' x hr' he'' hR => ⟨rfl, e'', h', μ', x, hr', he'', hR⟩)
              exact wp_mono key fun z a' w' hq => hq.2
            · cases hc
          · cases hc
      · cases hc
    · rename_i hd
      obtain ⟨ml, h1, rfl⟩ := Option.map_eq_some_iff.1 hc
      have hd' : draw = false := by simpa using hd
      subst hd'
      exact wp_region_list (aops_wp hC (copers_nt h1) h1 hr he hm fun e' h' μ' a' w' x hr' he' hR => ⟨e', h', μ', x, hr', he', hR⟩)
  | seq x y ihx ihy =>
    intro m k hc hl R e h hm w0 μ a w hr he
    unfold compile at hc
    split at hc
    · rename_i mx my h1 h2
      obtain rfl := Option.some.inj hc
      refine wp_seq (wp_mono (ihx h1 hl.1 hm w0 μ a w hr he) ?_)
      rintro z a' w' ⟨e', h', μ', q1, q2, q3, q4⟩
      cases z with
      | normal => exact wp_mono (ihy h2 hl.2 q4 w0 μ' a' w' q2 q3) fun z a'' w'' hq => hq.ext q1
      | _ => exact ⟨e', h', μ', q1, q2, q3, q4⟩
    · cases hc
  | cond x y z ihy ihz =>
    intro m k hc hl R e h hm w0 μ a w hr he
    unfold compile at hc
    split at hc
    · rename_i mx my mz h1 h2 h3
      obtain rfl := Option.some.inj hc
      simp only [mwp] at hm
      split at hm
      · rename_i t ht
        have hv := (cmo_ev h1 he ht).flat rfl
        cases t with
        | true => exact wp_cond_true hv (ihy h2 hl.1 hm w0 μ a w hr he)
        | false => exact wp_cond_false hv (ihz h3 hl.2 hm w0 μ a w hr he)
      · exact hm.elim
    · cases hc
  | block id c ih =>
    intro m k hc hl R e h hm w0 μ a w hr he
    obtain ⟨mc, h1, rfl⟩ := Option.map_eq_some_iff.1 hc
    refine wp_block (wp_mono (ih h1 hl hm w0 μ a w hr he) ?_)
    rintro z a' w' ⟨e', h', μ', q1, q2, q3, q4⟩
    cases z with
    | exit id' =>
      simp only [Exit.inBlock]
      simp only [blockK] at q4
      split
      · rename_i hid; rw [show Nat.beq id' id = true from by rw [hid]; exact Nat.beq_refl id] at q4; exact ⟨e', h', μ', q1, q2, q3, q4⟩
      · rename_i hid
        have hb : Nat.beq id' id = false := by cases hb : Nat.beq id' id; rfl; exact absurd (Nat.eq_of_beq_eq_true hb) hid
        rw [hb] at q4; exact ⟨e', h', μ', q1, q2, q3, q4⟩
    | _ => exact ⟨e', h', μ', q1, q2, q3, q4⟩
  | loop c ih =>
    intro m k hc hl R e h hm
    obtain ⟨mc, h1, rfl⟩ := Option.map_eq_some_iff.1 hc
    exact hl _ _ _ hm _ _ hc
  | rangeFunc f ps x y _ _ => intro m k hc; cases hc
  | exit id =>
    intro m k hc hl R e h hm w0 μ a w hr he
    obtain rfl := Option.some.inj hc
    exact wp_exit ⟨e, h, μ, Ext.refl _ _, hr, he, hm⟩
  | scope c ih =>
    intro m k hc hl R e h hm
    obtain ⟨mc, h1, rfl⟩ := Option.map_eq_some_iff.1 hc
    exact hl _ _ _ hm _ _ hc
  | label l =>
    intro m k hc hl R e h hm w0 μ a w hr he
    obtain rfl := Option.some.inj hc
    exact wp_label ⟨e, h, μ, Ext.refl _ _, hr, he, hm⟩
  | goto l =>
    intro m k hc hl R e h hm w0 μ a w hr he
    obtain rfl := Option.some.inj hc
    exact wp_goto ⟨e, h, μ, Ext.refl _ _, hr, he, hm⟩
  | ret =>
    intro m k hc hl R e h hm w0 μ a w hr he
    obtain rfl := Option.some.inj hc
    exact wp_ret ⟨e, h, μ, Ext.refl _ _, hr, he, hm⟩
  | refuse why => intro m k hc; cases hc

theorem wp_loop_rounds {c : Code} {Q : Exit → Act → World → Prop} (J : Nat → Act → World → Prop) {n0 : Nat} (h0 : J n0 a w)
    (round : ∀ n a w, J n a w → c.wp P (Exit.then (fun a' w' => ∃ m, m < n ∧ J m a' w') Q) a w) : (Code.loop c).wp P Q a w := by
  intro b k cs
  have key : ∀ n a w, J n a w → ∃ e a' w', Q e a' w' ∧ Arrives P (lone (b.at a (.code c :: .inLoop c :: k)) cs w) b k cs e a' w' := by
    intro n
    induction n using Nat.strongRecOn with
    | _ n ih =>
      intro a w hI
      obtain ⟨e, a₁, w₁, hq, harr⟩ := round n a w hI b (.inLoop c :: k) cs
      cases e with
      | normal =>
        obtain ⟨m, hlt, hI₁⟩ := hq
        obtain ⟨e₂, a₂, w₂, hq₂, harr₂⟩ := ih m hlt a₁ w₁ hI₁
        exact ⟨e₂, a₂, w₂, hq₂, .of_steps (Steps.trans harr (.one step_inLoop)) harr₂⟩
      | exit id => exact ⟨_, a₁, w₁, hq, .pass (x := .inLoop c) rfl (fun _ _ => .inl (by simp)) harr⟩
      | goto l => exact ⟨_, a₁, w₁, hq, .pass (x := .inLoop c) rfl (fun _ _ => .inl (by simp)) harr⟩
      | ret => exact ⟨_, a₁, w₁, hq, .pass (x := .inLoop c) rfl (fun _ _ => .inl (by simp)) harr⟩
      | panic ch => exact ⟨_, a₁, w₁, hq, .pass (x := .inLoop c) rfl (fun _ _ => .inl (by simp)) harr⟩
      | outgrown => exact ⟨_, a₁, w₁, hq, .pass (x := .inLoop c) rfl (fun _ _ => .inl (by simp)) harr⟩
  obtain ⟨e, a', w', hq, harr⟩ := key n0 a w h0
  exact ⟨e, a', w', hq, .of_steps (.one step_loop) harr⟩

def mfind : MCode → Nat → Option MCode
  | .seq a b, l => match mfind a l with
    | some r => some (.seq r b)
    | none => mfind b l
  | .label l', l => if l' = l then some .skip else none
  | _, _ => none

theorem mfind_find : ∀ (c : Code) {m : MCode} {k : Nat}, compile P nt c k = some m → ∀ {l : Nat} {r : MCode}, mfind m l = some r → ∃ rest, findLabel c l = some rest ∧ compile P nt rest k = some r := by
  intro c
  induction c with
  | seq x y ihx ihy =>
    intro m k hc l r hm
    have hc0 := hc
    unfold compile at hc
    split at hc
    · rename_i mx my h1 h2
      obtain rfl := Option.some.inj hc
      simp only [mfind] at hm
      split at hm
      · rename_i r' hr'
        obtain rfl := Option.some.inj hm
        obtain ⟨rest, h3, h4⟩ := ihx h1 hr'
        exact ⟨.seq rest y, by simp [findLabel, h3], by simp [compile, h4, h2]⟩
      · rename_i hn
        obtain ⟨rest, h3, h4⟩ := ihy h2 hm
        have : findLabel x l = none := by
          cases hf : findLabel x l with
          | none => rfl
          | some r0 =>
            exfalso
            exact absurd hn (by
              clear ihx ihy hm h3 h4 hc0
              -- a label that is found in the code is found in the short form
              have : ∀ (c : Code) {m : MCode} {k : Nat}, compile P nt c k = some m → ∀ {r0 : Code}, findLabel c l = some r0 → mfind m l ≠ none := by
                intro c
                induction c with
                | seq x y ihx ihy =>
                  intro m k hc r0 hf
                  unfold compile at hc
                  split at hc
                  · rename_i mx my h1 h2
                    obtain rfl := Option.some.inj hc
                    simp only [findLabel] at hf
                    simp only [mfind]
                    split at hf
                    · rename_i r1 hr1
                      have := ihx h1 hr1
                      split
                      · simp
                      · rename_i hh; exact absurd hh this
                    · have := ihy h2 hf
                      split
                      · simp
                      · exact this
                  · cases hc
                | label l' =>
                  intro m k hc r0 hf
                  obtain rfl := Option.some.inj hc
                  simp only [findLabel] at hf
                  split at hf
                  · rename_i hl; simp only [mfind]; rw [if_pos (by simpa using hl)]; simp
                  · cases hf
                | _ => intro m k hc r0 hf; cases hf
              exact this x h1 hf)
        exact ⟨rest, by simp [findLabel, this, h3], h4⟩
    · cases hc
  | label l' =>
    intro m k hc l r hm
    obtain rfl := Option.some.inj hc
    simp only [mfind] at hm
    split at hm
    · rename_i hl
      obtain rfl := Option.some.inj hm
      exact ⟨.skip, by simp [findLabel, hl], rfl⟩
    · cases hm
  | region id ops draw =>
    intro m k hc l r hm
    unfold compile at hc
    split at hc
    · split at hc
      · cases hT : memN 1000000 nt.T with
        | true =>
          rw [hT, cond_true] at hc
          split at hc
          · split at hc
            · obtain rfl := Option.some.inj hc; cases hm
            · cases hc
          · cases hc
        | false =>
        rw [hT, cond_false] at hc
        split at hc
        · split at hc
          · obtain rfl := Option.some.inj hc; cases hm
          · cases hc
        · split at hc
          · split at hc
            · obtain rfl := Option.some.inj hc; cases hm
            · cases hc
          · cases hc
      · cases hc
    · obtain ⟨ml, h1, rfl⟩ := Option.map_eq_some_iff.1 hc
      cases hm
  | cond x y z _ _ =>
    intro m k hc l r hm
    unfold compile at hc
    split at hc
    · obtain rfl := Option.some.inj hc
      cases hm
    · cases hc
  | block id c _ =>
    intro m k hc l r hm
    obtain ⟨mc, h1, rfl⟩ := Option.map_eq_some_iff.1 hc
    cases hm
  | loop c _ =>
    intro m k hc l r hm
    obtain ⟨mc, h1, rfl⟩ := Option.map_eq_some_iff.1 hc
    cases hm
  | scope c _ =>
    intro m k hc l r hm
    obtain ⟨mc, h1, rfl⟩ := Option.map_eq_some_iff.1 hc
    cases hm
  | rangeFunc f ps x y _ _ => intro m k hc; cases hc
  | refuse why => intro m k hc; cases hc
  | skip => intro m k hc l r hm; obtain rfl := Option.some.inj hc; cases hm
  | exit id => intro m k hc l r hm; obtain rfl := Option.some.inj hc; cases hm
  | goto l' => intro m k hc l r hm; obtain rfl := Option.some.inj hc; cases hm
  | ret => intro m k hc l r hm; obtain rfl := Option.some.inj hc; cases hm

theorem wp_scope_all {c : Code} {Q : Exit → Act → World → Prop} (J : Nat → Nat → Act → World → Prop) 
    (first : c.wp P (fun x a w => match x with | .goto l => ∃ n, J l n a w | x => Q x a w) a w)
    (pass : ∀ l n a w, J l n a w → ∃ rest, findLabel c l = some rest ∧ rest.wp P (fun x a w => match x with | .goto l => ∃ m, m < n ∧ J l m a w | x => Q x a w) a w) : (Code.scope c).wp P Q a w := by
  intro b k cs
  have key : ∀ N l a w, J l N a w → ∀ m, (∀ k', gotoIn l (.inScope c :: k) = some k' → Steps P m (lone (b.at a k') cs w)) → ∃ e a' w', Q e a' w' ∧ Arrives P m b k cs e a' w' := by
    intro N
    induction N using Nat.strongRecOn with
    | _ N ih =>
      intro l a w hJ m hm
      obtain ⟨rest, hf, hw⟩ := pass l N a w hJ
      have hg : gotoIn l (.inScope c :: k) = some (.code rest :: .inScope c :: k) := by simp [gotoIn, hf]
      obtain ⟨e₁, a₁, w₁, hq₁, harr₁⟩ := hw b (.inScope c :: k) cs
      have harr := Arrives.of_steps (hm _ hg) harr₁
      cases e₁ with
      | normal => exact ⟨.normal, a₁, w₁, hq₁, Steps.trans harr (.one step_inScope)⟩
      | exit id => exact ⟨.exit id, a₁, w₁, hq₁, fun k' hk => harr k' (by simp [exitTo, hk])⟩
      | goto l' =>
        obtain ⟨M, hlt, hJ'⟩ := hq₁
        exact ih M hlt l' a₁ w₁ hJ' m harr
      | ret => exact ⟨_, a₁, w₁, hq₁, harr⟩
      | panic ch => exact ⟨_, a₁, w₁, hq₁, harr⟩
      | outgrown => exact ⟨_, a₁, w₁, hq₁, harr⟩
  obtain ⟨e₁, a₁, w₁, hq₁, harr₁⟩ := first b (.inScope c :: k) cs
  have harr := Arrives.of_steps (.one step_scope) harr₁
  cases e₁ with
  | normal => exact ⟨.normal, a₁, w₁, hq₁, Steps.trans harr (.one step_inScope)⟩
  | exit id => exact ⟨.exit id, a₁, w₁, hq₁, fun k' hk => harr k' (by simp [exitTo, hk])⟩
  | goto l' =>
    obtain ⟨M, hJ'⟩ := hq₁
    exact key M l' a₁ w₁ hJ' _ harr
  | ret => exact ⟨_, a₁, w₁, hq₁, harr⟩
  | panic ch => exact ⟨_, a₁, w₁, hq₁, harr⟩
  | outgrown => exact ⟨_, a₁, w₁, hq₁, harr⟩

end
end Go.Mini
