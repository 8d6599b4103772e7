/- Mini: loops: what they don't write stays; the rules of loops and of scopes with labels. No condition. -/
import Derived.Test.YthllhoodbfnlaaaDoorMiniH
namespace Go.Mini
open Go Go.RowKit
set_option linter.unusedVariables false
set_option linter.unusedSimpArgs false

def CMono (C : CT) : Prop := ∀ f vs h (K K' : VK), (∀ v h', K v h' → K' v h') → C f vs h K → C f vs h K'
def LMono (LS : LT) : Prop := ∀ id vs h (K K' : LK), (∀ x vs h', K x vs h' → K' x vs h') → (LS id).f vs h K → (LS id).f vs h K'

section
variable {C : CT} {LS : LT} {h : Heap} {e E : Env} {K K' : VK} {R R' : XK} {ts : List Nat}

theorem kv_mono (hk : ∀ v h', K v h' → K' v h') {x : Option Value} (hh : kv x h K) : kv x h K' := by
  cases x with
  | none => exact hh
  | some v => exact hk _ _ hh
theorem br_mono {b : Bool} {A A' B B' : Prop} (h1 : A → A') (h2 : B → B') (hh : br b A B) : br b A' B' := by
  cases b
  · exact h2 hh
  · exact h1 hh
theorem ibin_mono (hk : ∀ v h', K v h' → K' v h') {op : BinOp} {k : IntKind} {a b : Int} (hh : ibin op k a b h K) : ibin op k a b h K' := by
  unfold ibin at hh ⊢
  split at hh
  case h_1 => exact ⟨hh.1, hk _ _ hh.2⟩
  case h_2 => exact ⟨hh.1, hk _ _ hh.2⟩
  case h_3 => exact ⟨hh.1, hk _ _ hh.2⟩
  case h_4 => exact ⟨hh.1, hh.2.1, hk _ _ hh.2.2⟩
  case h_5 => exact ⟨hh.1, hk _ _ hh.2⟩
  all_goals first | exact hk _ _ hh | exact hh.elim
theorem sbin_mono (hk : ∀ v h', K v h' → K' v h') {op : BinOp} {a b : ByteArray} (hh : sbin op a b h K) : sbin op a b h K' := by
  unfold sbin at hh ⊢
  split at hh
  case h_1 => exact ⟨hh.1, hk _ _ hh.2⟩
  all_goals first | exact hk _ _ hh | exact hh.elim
theorem vbin_mono (hk : ∀ v h', K v h' → K' v h') {op : BinOp} {x y : Option Value} (hh : vbin op x y h K) : vbin op x y h K' := by
  unfold vbin at hh ⊢
  split at hh
  · rename_i k a k' b
    cases hsh : isSh op with
    | true =>
      rw [hsh] at hh
      unfold shbin at hh ⊢
      dsimp only [cond] at hh ⊢
      split at hh <;> first | exact ⟨hh.1, hk _ _ hh.2⟩ | exact hh.elim
    | false =>
      rw [hsh] at hh
      dsimp only [cond] at hh ⊢
      cases hkk : kindEq k k' with
      | false => rw [hkk] at hh; exact hh.elim
      | true => rw [hkk] at hh; exact ibin_mono hk hh
  · exact sbin_mono hk hh
  · exact hh.elim
theorem vbb_mono (hk : ∀ v h', K v h' → K' v h') {op : BinOp} {x y : Option Value} (hh : vbb op x y h K) : vbb op x y h K' := by
  unfold vbb at hh ⊢
  split at hh
  · unfold bbin at hh ⊢
    split at hh <;> first | exact hk _ _ hh | exact hh.elim
  · exact hh.elim
theorem vpick_mono (hk : ∀ v h', K v h' → K' v h') {x y z : Option Value} (hh : vpick x y z h K) : vpick x y z h K' := by
  unfold vpick at hh ⊢
  split at hh
  · exact br_mono (kv_mono hk) (kv_mono hk) hh
  · exact hh.elim
theorem vun_mono (hk : ∀ v h', K v h' → K' v h') {op : UnOp} {x : Option Value} (hh : vun op x h K) : vun op x h K' := by
  unfold vun at hh ⊢
  split at hh <;> first | exact hk _ _ hh | exact ⟨hh.1, hk _ _ hh.2⟩ | exact hh.elim
theorem vsub_mono (hk : ∀ v h', K v h' → K' v h') {x : Option Value} {y z : Option (Option Value)} (hh : vsub x y z h K) : vsub x y z h K' := by
  unfold vsub at hh ⊢
  split at hh <;> first | exact hk _ _ hh | exact ⟨hh.1, hk _ _ hh.2⟩ | exact hh.elim
theorem ck_mono {b : Bool} {A A' : Prop} (h : A → A') (hh : ck b A) : ck b A' := ck_iff.2 ⟨(ck_iff.1 hh).1, h (ck_iff.1 hh).2⟩
theorem vslc_mono (hk : ∀ v h', K v h' → K' v h') {sz : Nat} {x : Option Value} {y z : Option (Option Value)} (hh : vslc sz x y z h K) : vslc sz x y z h K' := by
  unfold vslc at hh ⊢
  split at hh
  · split at hh
    · exact hh.elim
    · rw [ck_iff] at hh ⊢
      refine ⟨hh.1, ?_⟩
      replace hh := hh.2
      split at hh <;> first | exact hk _ _ hh | exact ⟨hh.1, hk _ _ hh.2⟩ | exact hh.elim
  · split at hh <;> first | exact hk _ _ hh | exact ⟨hh.1, hk _ _ hh.2⟩ | exact hh.elim
  · exact hh.elim
theorem vpart_mono (hk : ∀ v h', K v h' → K' v h') {cs : List Value} {off : Nat} {n : Option Nat} (hh : vpart cs off n h K) : vpart cs off n h K' := by
  unfold vpart at hh ⊢
  split at hh
  · exact kv_mono hk hh
  · exact ck_mono (hk _ _) hh
theorem tyv_mono : ∀ {sh : List Sh} {Q Q' : List Value → Prop}, (∀ vs, Q vs → Q' vs) → tyv sh Q → tyv sh Q'
  | [], Q, Q', hq, h => hq _ h
  | .int k :: l, Q, Q', hq, ⟨z, h⟩ => ⟨z, tyv_mono (fun vs => hq _) h⟩
  | .str :: l, Q, Q', hq, ⟨z, h⟩ => ⟨z, tyv_mono (fun vs => hq _) h⟩
  | .bool :: l, Q, Q', hq, ⟨z, h⟩ => ⟨z, tyv_mono (fun vs => hq _) h⟩
  | .slc :: l, Q, Q', hq, ⟨r, o, z, h⟩ => ⟨r, o, z, tyv_mono (fun vs => hq _) h⟩
  | .ptr :: l, Q, Q', hq, ⟨r, o, h⟩ => ⟨r, o, tyv_mono (fun vs => hq _) h⟩
theorem vpartT_mono (hk : ∀ v h', K v h' → K' v h') {sh : List Sh} {cs : List Value} {off : Nat} {n : Option Nat} (hh : vpartT sh cs off n h K) : vpartT sh cs off n h K' := tyv_mono (fun vs h => ⟨h.1, hk _ _ h.2⟩) hh
theorem vfill_mono {L L' : List Value → Prop} (hk : ∀ cs, L cs → L' cs) : ∀ {l : List (Nat × Nat × MO)} {cs : List Value}, vfill e cs l L → vfill e cs l L'
  | [], cs, hh => hk _ hh
  | (o, s, x) :: l, cs, hh => by
    unfold vfill at hh ⊢
    split at hh
    · exact ck_mono (vfill_mono hk) hh
    · exact hh.elim

theorem eop_mono (hC : CMono C) (hk : ∀ v h', K v h' → K' v h') {m : MOp} (hh : eop C e h K m) : eop C e h K' m := by
  cases m <;> simp only [eop] at hh ⊢
  case mv => exact kv_mono hk hh
  case pick => exact vpick_mono hk hh
  case bin => exact vbin_mono hk hh
  case bb => exact vbb_mono hk hh
  case eqa => unfold veqa at hh ⊢; split at hh; (split at hh; exact hk _ _ hh; exact hh.elim); exact hh.elim
  case un => exact vun_mono hk hh
  case cint => split at hh; exact ⟨hh.1, hk _ _ hh.2⟩; exact hh.elim
  case cid => split at hh; exact hk _ _ hh; exact hh.elim
  case bts =>
    split at hh
    · exact hk _ _ hh
    · split at hh
      · obtain ⟨l, h1, hh⟩ := hh
        exact ⟨l, h1, hk _ _ hh⟩
      · exact hh.elim
    · exact hh.elim
  case ldT =>
    unfold vldT at hh ⊢
    split at hh
    · split at hh
      · exact vpartT_mono hk hh
      · exact hh.elim
    · exact hh.elim
  case ixAT => unfold vixAT at hh ⊢; split at hh; exact ⟨hh.1, vpartT_mono hk hh.2⟩; exact hh.elim
  case sub => exact vsub_mono hk hh
  case slc => exact vslc_mono hk hh
  case fa => split at hh; exact hk _ _ hh; exact hh.elim
  case fld => unfold vfld at hh ⊢; split at hh; exact vpart_mono hk hh; exact hh.elim
  case ia => unfold via at hh ⊢; split at hh; exact ⟨hh.1, hk _ _ hh.2⟩; exact hh.elim
  case iaA => unfold viaA at hh ⊢; split at hh; exact ⟨hh.1, hk _ _ hh.2⟩; exact hh.elim
  case ixs => unfold vixs at hh ⊢; split at hh; exact ⟨hh.1, hk _ _ hh.2⟩; exact hh.elim
  case ixA => unfold vixA at hh ⊢; split at hh; exact ⟨hh.1, vpart_mono hk hh.2⟩; exact hh.elim
  case ld =>
    unfold vld at hh ⊢
    split at hh
    · split at hh
      · exact vpart_mono hk hh
      · exact hh.elim
    · exact hh.elim
  case st =>
    unfold vst at hh ⊢
    split at hh
    · split at hh
      · exact ck_mono (ck_mono (hk _ _)) hh
      · exact hh.elim
    · exact hh.elim
  case nil => unfold vnil at hh ⊢; split at hh; exact hk _ _ hh; exact hh.elim
  case new => exact hk _ _ hh
  case box => split at hh; exact ck_mono (hk _ _) hh; exact hh.elim
  case bld => exact vfill_mono (fun cs => hk _ _) hh
  case bsl => exact vfill_mono (fun cs => hk _ _) hh
  case app =>
    unfold vapp at hh ⊢
    split at hh
    · split at hh
      · exact ck_mono (ck_mono fun hh => ⟨hh.1, hk _ _ hh.2⟩) hh
      · exact hh.elim
    · split at hh
      · exact ck_mono (ck_mono fun hh => ⟨hh.1, hk _ _ hh.2⟩) hh
      · exact hh.elim
    · split at hh
      · exact hk _ _ hh
      · exact hk _ _ hh
      · exact hh.elim
    · exact hh.elim
  case apps =>
    unfold vapps at hh ⊢
    split at hh
    · refine br_mono (fun hh => hk _ _ hh) (fun hh => ⟨hh.1, hk _ _ hh.2⟩) hh
    · split at hh
      · exact ck_mono (fun hh => ⟨hh.1, hk _ _ hh.2⟩) hh
      · exact hh.elim
    · exact hh.elim
  case lens => unfold vlens at hh ⊢; split at hh; exact hk _ _ hh; exact hh.elim
  case lenl => unfold vlenl at hh ⊢; split at hh; exact hk _ _ hh; exact hk _ _ hh; exact hh.elim
  case mx => unfold vmx at hh ⊢; split at hh; exact hk _ _ hh; exact hh.elim
  case mn => unfold vmn at hh ⊢; split at hh; exact hk _ _ hh; exact hh.elim
  case ext => unfold vext at hh ⊢; split at hh; exact kv_mono hk hh; exact hh.elim
  case call => unfold vcall at hh ⊢; split at hh; exact hC _ _ _ _ _ hk hh; exact hh.elim

theorem gd_mono {g : Option (Nat × Bool)} {A A' B B' : Env → Prop} (h1 : ∀ e, A e → A' e) (h2 : ∀ e, B e → B' e) (hh : gd e g A B) : gd e g A' B' := by
  unfold gd at hh ⊢
  split at hh
  · exact h1 _ hh
  · rename_i t want
    split at hh
    · rename_i b hb
      cases b <;> cases want <;> first | exact h1 _ hh | exact h2 _ hh
    · rename_i vs hb
      exact h2 _ hh
    · exact hh.elim

theorem aops_mono (hC : CMono C) (hr : ∀ x e h, R x e h → R' x e h) : ∀ {l : List MOper} {e : Env} {h : Heap}, aops C R l e h → aops C R' l e h
  | [], e, h, hh => hr _ _ _ hh
  | o :: l, e, h, hh => gd_mono (fun e hh => eop_mono hC (fun v h' hk => aops_mono hC hr hk) hh) (fun e hh => aops_mono hC hr hh) hh

theorem qop_mono (hC : CMono C) {K K' : Value → Prop} (hk : ∀ v, K v → K' v) {m : MOp} (hh : qop C e h K m) : qop C e h K' m := by
  have key : (bif quietM m then eop C e h (fun v _ => ck (det v) (K v)) m else False) → (bif quietM m then eop C e h (fun v _ => ck (det v) (K' v)) m else False) := fun hh => by
    cases hqm : quietM m with
    | false => rw [hqm] at hh; exact hh.elim
    | true => rw [hqm] at hh; exact eop_mono hC (K := fun v _ => ck (det v) (K v)) (fun v _ hv => ck_mono (hk _) hv) hh
  cases m with
  | mv x => simp only [qop] at hh ⊢; split at hh; exact hk _ hh; exact hh.elim
  | call f args => simp only [qop] at hh ⊢; split at hh; exact hC _ _ _ _ _ (fun v _ hv => ck_mono (hk _) hv) hh; exact hh.elim
  | _ => exact key hh
theorem qops_mono (hC : CMono C) {K K' : Env → Prop} (hk : ∀ e, K e → K' e) : ∀ {l : List MOper} {e : Env}, qops C l e h K → qops C l e h K'
  | [], e, hh => hk _ hh
  | o :: l, e, hh => gd_mono (fun e hh => qop_mono hC (fun v hk' => qops_mono hC hk hk') hh) (fun e hh => qops_mono hC hk hh) hh

theorem mwp_mono (hC : CMono C) (hL : LMono LS) : ∀ (m : MCode) {R R' : XK} {e : Env} {h : Heap}, (∀ x e h, R x e h → R' x e h) → mwp C LS m R e h → mwp C LS m R' e h := by
  have lp : ∀ {id : Nat} {R R' : XK} {e : Env} {h : Heap}, (∀ x e h, R x e h → R' x e h) → loopP (LS id) R e h → loopP (LS id) R' e h := by
    intro id R R' e h hr hh
    unfold loopP at hh ⊢
    split at hh
    · exact hL _ _ _ _ _ (fun x vs h' hk => hr _ _ _ hk) hh
    · exact hh.elim
  intro m
  induction m with
  | skip => intro R R' e h hr hh; exact hr _ _ _ hh
  | label l => intro R R' e h hr hh; exact hr _ _ _ hh
  | reg ops => intro R R' e h hr hh; exact aops_mono hC hr hh
  | dreg hd tl => intro R R' e h hr hh; exact qops_mono hC (fun e hh => aops_mono hC hr hh) hh
  | seq a b iha ihb =>
    intro R R' e h hr hh
    refine iha (fun x e h hk => ?_) hh
    cases x <;> first | exact ihb hr hk | exact hr _ _ _ hk
  | cond c a b iha ihb =>
    intro R R' e h hr hh
    simp only [mwp] at hh ⊢
    split at hh
    · exact br_mono (iha hr) (ihb hr) hh
    · exact hh.elim
  | block id c ih =>
    intro R R' e h hr hh
    refine ih (fun x e h hk => ?_) hh
    cases x with
    | exit id' =>
      simp only [blockK] at hk ⊢
      cases hb : Nat.beq id' id with
      | true => rw [hb] at hk; exact hr _ _ _ hk
      | false => rw [hb] at hk; exact hr _ _ _ hk
    | _ => exact hr _ _ _ hk
  | loop id c _ => intro R R' e h hr hh; exact lp hr hh
  | exit id => intro R R' e h hr hh; exact hr _ _ _ hh
  | scope id c _ => intro R R' e h hr hh; exact lp hr hh
  | goto l => intro R R' e h hr hh; exact hr _ _ _ hh
  | ret => intro R R' e h hr hh; exact hr _ _ _ hh

/-! ### What isn't written stays -/
def dstIn (ts : List Nat) (o : MOper) : Bool := match o.dst with | none => true | some d => memN d ts
def wr (ts : List Nat) (LS : LT) : MCode → Bool
  | .reg ops => ops.all (dstIn ts)
  | .dreg hd tl => hd.all (dstIn ts) && tl.all (dstIn ts)
  | .seq a b => wr ts LS a && wr ts LS b
  | .cond _ a b => wr ts LS a && wr ts LS b
  | .block _ c => wr ts LS c
  | .loop id _ => (LS id).ts.all (memN · ts) && (LS id).cs.all (memN · ts)
  | .scope id _ => (LS id).ts.all (memN · ts) && (LS id).cs.all (memN · ts)
  | _ => true

def Apart (ts : List Nat) (E : Env) : Prop := ∀ t, memN t ts = true → E.get t = none
def frK (E : Env) (R : XK) : XK := fun x e h => Env.Sub E e ∧ R x e h

theorem Sub.put (hs : Env.Sub E e) (hE : Apart ts E) {o : MOper} (hd : dstIn ts o = true) (v : Value) : Env.Sub E (e.put o.dst v) := by
  intro t u ht
  unfold dstIn at hd
  split at hd
  · rename_i h0; rw [h0]; exact hs t u ht
  · rename_i d h0
    rw [h0]
    by_cases hdt : d = t
    · subst hdt; rw [hE d hd] at ht; cases ht
    · rw [Env.put, Env.get_ne hdt]; exact hs t u ht
theorem Sub.told (hs : Env.Sub E e) {t : Nat} {b : Bool} (hb : e.get t = some (.bool b)) : Env.Sub E ((t, .bool b) :: e) := by
  intro u v hu
  by_cases h0 : t = u
  · subst h0; rw [Env.get_self, ← hb]; exact hs t v hu
  · rw [Env.get_ne h0]; exact hs u v hu
theorem gd_frame (hs : Env.Sub E e) {g : Option (Nat × Bool)} {A A' B B' : Env → Prop} (h1 : ∀ e, Env.Sub E e → A e → A' e) (h2 : ∀ e, Env.Sub E e → B e → B' e) (hh : gd e g A B) : gd e g A' B' := by
  unfold gd at hh ⊢
  split at hh
  · exact h1 _ hs hh
  · rename_i t want
    split at hh
    · rename_i b hb
      cases b <;> cases want <;> first | exact h1 _ (Sub.told hs hb) hh | exact h2 _ (Sub.told hs hb) hh
    · rename_i vs hb
      exact h2 _ hs hh
    · exact hh.elim
theorem aops_frame (hC : CMono C) (hE : Apart ts E) : ∀ {l : List MOper} {e : Env} {h : Heap}, l.all (dstIn ts) = true → Env.Sub E e → aops C R l e h → aops C (frK E R) l e h
  | [], e, h, hw, hs, hh => ⟨hs, hh⟩
  | o :: l, e, h, hw, hs, hh => by
    simp only [List.all_cons, Bool.and_eq_true] at hw
    exact gd_frame hs (fun e hs hh => eop_mono hC (fun v h' hk => aops_frame hC hE hw.2 (Sub.put hs hE hw.1 v) hk) hh) (fun e hs hh => aops_frame hC hE hw.2 (Sub.put hs hE hw.1 _) hh) hh
theorem qops_frame (hC : CMono C) (hE : Apart ts E) {K : Env → Prop} : ∀ {l : List MOper} {e : Env}, l.all (dstIn ts) = true → Env.Sub E e → qops C l e h K → qops C l e h (fun e' => Env.Sub E e' ∧ K e')
  | [], e, hw, hs, hh => ⟨hs, hh⟩
  | o :: l, e, hw, hs, hh => by
    simp only [List.all_cons, Bool.and_eq_true] at hw
    exact gd_frame hs (fun e hs hh => qop_mono hC (fun v hk => qops_frame hC hE hw.2 (Sub.put hs hE hw.1 v) hk) hh) (fun e hs hh => qops_frame hC hE hw.2 (Sub.put hs hE hw.1 _) hh) hh

theorem forget_get : ∀ (e : Env) (t : Nat), (e.forget ts).get t = bif memN t ts then none else e.get t
  | [], t => by cases memN t ts <;> rfl
  | (u, v) :: e, t => by
    unfold Env.forget
    by_cases hut : u = t
    · subst hut
      cases hm : memN u ts with
      | true => show (Env.forget ts e).get u = none; rw [forget_get e u, hm]; rfl
      | false => show Env.get ((u, v) :: Env.forget ts e) u = Env.get ((u, v) :: e) u; rw [Env.get_self, Env.get_self]
    · rw [Env.get_ne hut]
      cases hm : memN u ts with
      | true => exact forget_get e t
      | false => show Env.get ((u, v) :: Env.forget ts e) t = _; rw [Env.get_ne hut]; exact forget_get e t
theorem apart_forget (e : Env) : Apart ts (e.forget ts) := fun t ht => by rw [forget_get, ht]; rfl
theorem forget_sub (e : Env) : Env.Sub (e.forget ts) e := fun t v ht => by
  rw [forget_get] at ht
  cases hm : memN t ts with
  | true => rw [hm] at ht; cases ht
  | false => rw [hm] at ht; exact ht
theorem get_append : ∀ (e' e : Env) (t : Nat), Env.get (e' ++ e) t = match e'.get t with | some v => some v | none => e.get t
  | [], e, t => rfl
  | (u, v) :: e', e, t => by
    by_cases hut : u = t
    · subst hut; rw [List.cons_append, Env.get_self, Env.get_self]
    · rw [List.cons_append, Env.get_ne hut, Env.get_ne hut]; exact get_append e' e t
theorem zipE_none : ∀ (cs : List Nat) (vs : List Value) (t : Nat), memN t cs = false → (zipE cs vs).get t = none
  | [], vs, t, h => by cases vs <;> rfl
  | c :: cs, [], t, h => rfl
  | c :: cs, v :: vs, t, h => by
    unfold memN at h
    cases hb : Nat.beq c t with
    | true => rw [hb] at h; cases h
    | false =>
      rw [hb] at h
      have hne : c ≠ t := fun hh => by subst hh; rw [Nat.beq_refl] at hb; cases hb
      rw [zipE, Env.get_ne hne]
      exact zipE_none cs vs t h
theorem gets_zip : ∀ {cs : List Nat} {vs : List Value} {e : Env}, gets e cs = some vs → Env.Sub (zipE cs vs) e
  | [], vs, e, hg => fun t v ht => by cases vs <;> cases ht
  | c :: cs, vs, e, hg => by
    unfold gets at hg
    split at hg
    · rename_i v vs' h1 h2
      obtain rfl := Option.some.inj hg
      intro t u ht
      by_cases hct : c = t
      · subst hct; rw [zipE, Env.get_self] at ht; rw [← ht]; exact h1
      · rw [zipE, Env.get_ne hct] at ht; exact gets_zip h2 t u ht
    · cases hg
theorem sub_append {e1 e2 e : Env} (h1 : Env.Sub e1 e) (h2 : Env.Sub e2 e) : Env.Sub (e1 ++ e2) e := fun t v ht => by
  rw [get_append] at ht
  cases hg : e1.get t with
  | some u => rw [hg] at ht; exact h1 t v (hg.trans ht)
  | none => rw [hg] at ht; exact h2 t v ht
theorem all_mem {ts us : List Nat} (h : ts.all (memN · us) = true) {t : Nat} (ht : memN t ts = true) : memN t us = true := by
  induction ts with
  | nil => cases ht
  | cons c ts ih =>
    simp only [List.all_cons, Bool.and_eq_true] at h
    unfold memN at ht
    cases hb : Nat.beq c t with
    | true => have := Nat.eq_of_beq_eq_true hb; subst this; exact h.1
    | false => rw [hb] at ht; exact ih h.2 ht

theorem mwp_frame (hC : CMono C) (hL : LMono LS) (hE : Apart ts E) : ∀ (m : MCode) {R : XK} {e : Env} {h : Heap}, wr ts LS m = true → Env.Sub E e → mwp C LS m R e h → mwp C LS m (frK E R) e h := by
  have lp : ∀ {id : Nat} {R : XK} {e : Env} {h : Heap}, ((LS id).ts.all (memN · ts) && (LS id).cs.all (memN · ts)) = true → Env.Sub E e → loopP (LS id) R e h → loopP (LS id) (frK E R) e h := by
    intro id R e h hw hs hh
    simp only [Bool.and_eq_true] at hw
    unfold loopP at hh ⊢
    split at hh
    · refine hL _ _ _ _ _ (fun x vs h' hk => ⟨?_, hk⟩) hh
      intro t v ht
      have h1 : memN t (LS id).cs = false := by
        cases hm : memN t (LS id).cs with
        | false => rfl
        | true => rw [hE t (all_mem hw.2 hm)] at ht; cases ht
      have h2 : memN t (LS id).ts = false := by
        cases hm : memN t (LS id).ts with
        | false => rfl
        | true => rw [hE t (all_mem hw.1 hm)] at ht; cases ht
      rw [get_append, zipE_none _ _ _ h1]
      show (e.forget _).get t = some v
      rw [forget_get, h2]
      exact hs t v ht
    · exact hh.elim
  intro m
  induction m with
  | skip => intro R e h hw hs hh; exact ⟨hs, hh⟩
  | label l => intro R e h hw hs hh; exact ⟨hs, hh⟩
  | reg ops => intro R e h hw hs hh; exact aops_frame hC hE hw hs hh
  | dreg hd tl =>
    intro R e h hw hs hh
    simp only [wr, Bool.and_eq_true] at hw
    exact qops_mono hC (fun e hh => aops_frame hC hE hw.2 hh.1 hh.2) (qops_frame hC hE hw.1 hs hh)
  | seq a b iha ihb =>
    intro R e h hw hs hh
    simp only [wr, Bool.and_eq_true] at hw
    refine mwp_mono hC hL a (fun x e h hk => ?_) (iha hw.1 hs hh)
    cases x with
    | normal => exact ihb hw.2 hk.1 hk.2
    | _ => exact hk
  | cond c a b iha ihb =>
    intro R e h hw hs hh
    simp only [wr, Bool.and_eq_true] at hw
    simp only [mwp] at hh ⊢
    split at hh
    · exact br_mono (iha hw.1 hs) (ihb hw.2 hs) hh
    · exact hh.elim
  | block id c ih =>
    intro R e h hw hs hh
    refine mwp_mono hC hL c (fun x e h hk => ?_) (ih hw hs hh)
    cases x with
    | exit id' =>
      obtain ⟨h1, hk⟩ := hk
      simp only [blockK] at hk ⊢
      cases hb : Nat.beq id' id with
      | true => rw [hb] at hk; exact ⟨h1, hk⟩
      | false => rw [hb] at hk; exact ⟨h1, hk⟩
    | _ => exact hk
  | loop id c _ => intro R e h hw hs hh; exact lp hw hs hh
  | exit id => intro R e h hw hs hh; exact ⟨hs, hh⟩
  | scope id c _ => intro R e h hw hs hh; exact lp hw hs hh
  | goto l => intro R e h hw hs hh; exact ⟨hs, hh⟩
  | ret => intro R e h hw hs hh; exact ⟨hs, hh⟩

/-! ### The rules -/
def lK (cs : List Nat) (N : List Value → Heap → Prop) (K : LK) : XK := fun x e h => match gets e cs with
  | some vs => match x with
    | .normal => N vs h
    | x => K x vs h
  | none => False
def gK (cs : List Nat) (G : Nat → List Value → Heap → Prop) (K : LK) : XK := fun x e h => match gets e cs with
  | some vs => match x with
    | .goto l => G l vs h
    | x => K x vs h
  | none => False
end

section
variable {P : Program} {nt : NT} {w0 : Org P} {w : World} {μ : Mu} {C : CT} {LS : LT} {sp : LSpec}

theorem sub_zip {cs ts : List Nat} {E : Env} (hE : Apart ts E) (hcs : cs.all (memN · ts) = true) (vs : List Value) : Env.Sub E (zipE cs vs ++ E) := fun t v ht => by
  rw [get_append, zipE_none]
  · exact ht
  · cases hm : memN t cs with
    | false => rfl
    | true => rw [hE t (all_mem hcs hm)] at ht; cases ht

theorem compile_loop {code : Code} {k id : Nat} {c : MCode} (hc : compile P nt code k = some (.loop id c)) : ∃ cc k, code = .loop cc ∧ compile P nt cc k = some c := by
  cases code <;> simp only [compile] at hc <;> try (first | cases hc; done | (obtain ⟨_, _, hh⟩ := Option.map_eq_some_iff.1 hc; cases hh; done))
  case loop cc => obtain ⟨mc, h1, h2⟩ := Option.map_eq_some_iff.1 hc; injection h2 with h0 h2; subst h2; exact ⟨cc, k, rfl, h1⟩
  all_goals (exfalso; revert hc; (try cases memN 1000000 nt.T) <;> (try simp only [cond_true, cond_false]) <;> (repeat' split) <;> first | (intro hc; cases hc; done) | (intro hc; obtain ⟨_, _, hh⟩ := Option.map_eq_some_iff.1 hc; cases hh; done))
theorem compile_scope {code : Code} {k id : Nat} {c : MCode} (hc : compile P nt code k = some (.scope id c)) : ∃ cc k, code = .scope cc ∧ compile P nt cc k = some c := by
  cases code <;> simp only [compile] at hc <;> try (first | cases hc; done | (obtain ⟨_, _, hh⟩ := Option.map_eq_some_iff.1 hc; cases hh; done))
  case scope cc => obtain ⟨mc, h1, h2⟩ := Option.map_eq_some_iff.1 hc; injection h2 with h0 h2; subst h2; exact ⟨cc, k, rfl, h1⟩
  all_goals (exfalso; revert hc; (try cases memN 1000000 nt.T) <;> (try simp only [cond_true, cond_false]) <;> (repeat' split) <;> first | (intro hc; cases hc; done) | (intro hc; obtain ⟨_, _, hh⟩ := Option.map_eq_some_iff.1 hc; cases hh; done))

/-- The rule of a loop. -/
theorem loop_rule (hC : COk P C) (hM : CMono C) (hL : LMono LS) {id : Nat} {c : MCode} (hl : LOk P nt LS c) (hw : wr sp.ts LS c = true) (hcs : sp.cs.all (memN · sp.ts) = true)
    (rule : ∀ vs h K, sp.f vs h K → ∃ I : Nat → List Value → Heap → Prop, (∃ n, I n vs h) ∧ ∀ n vs h E, Apart sp.ts E → I n vs h → mwp C LS c (lK sp.cs (fun vs' h' => ∃ m, m < n ∧ I m vs' h') K) (zipE sp.cs vs ++ E) h) : LOk1 P nt sp (.loop id c) := by
  intro R e h hP code k hc w0 μ a w hr he
  obtain ⟨cc, k', rfl, hcc⟩ := compile_loop hc
  unfold loopP at hP
  split at hP
  · rename_i vs hg
    obtain ⟨I, ⟨n0, h0⟩, round⟩ := rule vs h _ hP
    have hE : Apart sp.ts (e.forget sp.ts) := apart_forget e
    refine wp_loop_rounds (fun n a' w' => ∃ vs' h' μ', Ext h.n μ h'.n μ' ∧ Rep w0 μ' h' w' ∧ ER nt μ' h'.n (zipE sp.cs vs' ++ e.forget sp.ts) a' ∧ I n vs' h') (n0 := n0) ⟨vs, h, μ, Ext.refl _ _, hr, he.sub (sub_append (gets_zip hg) (forget_sub e)), h0⟩ ?_
    rintro n a' w' ⟨vs1, h1, μ1, x1, hr1, he1, hI1⟩
    have hm := mwp_frame hM hL hE c hw (sub_zip hE hcs vs1) (round n vs1 h1 _ hE hI1)
    refine wp_mono (mwp_sound hC cc hcc hl hm w0 μ1 a' w' hr1 he1) ?_
    rintro z a'' w'' ⟨e2, h2, μ2, x2, hr2, he2, hs2, hR⟩
    unfold lK at hR
    split at hR
    · rename_i vs2 hg2
      have he3 := he2.sub (sub_append (gets_zip hg2) hs2)
      cases z with
      | normal => obtain ⟨m, hlt, hI⟩ := hR; exact ⟨m, hlt, vs2, h2, μ2, x1.trans x2, hr2, he3, hI⟩
      | _ => exact ⟨_, h2, μ2, x1.trans x2, hr2, he3, hR⟩
    · exact hR.elim
  · exact hP.elim

theorem mfind_ok : ∀ (c : MCode) {l : Nat} {r : MCode} {ts : List Nat}, mfind c l = some r → LOk P nt LS c → wr ts LS c = true → LOk P nt LS r ∧ wr ts LS r = true := by
  intro c
  induction c with
  | seq a b iha ihb =>
    intro l r ts hf hl hw
    simp only [wr, Bool.and_eq_true] at hw
    simp only [mfind] at hf
    split at hf
    · rename_i r' hr'
      obtain rfl := Option.some.inj hf
      obtain ⟨h1, h2⟩ := iha hr' hl.1 hw.1
      exact ⟨⟨h1, hl.2⟩, by simp [wr, h2, hw.2]⟩
    · exact ihb hf hl.2 hw.2
  | label l' =>
    intro l r ts hf hl hw
    simp only [mfind] at hf
    split at hf
    · obtain rfl := Option.some.inj hf; exact ⟨trivial, rfl⟩
    · cases hf
  | _ => intro l r ts hf; cases hf

/-- The rule of a scope with labels. -/
theorem scope_rule (hC : COk P C) (hM : CMono C) (hL : LMono LS) {id : Nat} {c : MCode} (hl : LOk P nt LS c) (hw : wr sp.ts LS c = true) (hcs : sp.cs.all (memN · sp.ts) = true)
    (rule : ∀ vs h K, sp.f vs h K → ∃ J : Nat → Nat → List Value → Heap → Prop, (∀ E, Apart sp.ts E → mwp C LS c (gK sp.cs (fun l vs' h' => ∃ n, J l n vs' h') K) (zipE sp.cs vs ++ E) h) ∧
      ∀ l n vs h E, Apart sp.ts E → J l n vs h → ∃ rest, mfind c l = some rest ∧ mwp C LS rest (gK sp.cs (fun l vs' h' => ∃ m, m < n ∧ J l m vs' h') K) (zipE sp.cs vs ++ E) h) : LOk1 P nt sp (.scope id c) := by
  intro R e h hP code k hc w0 μ a w hr he
  obtain ⟨cc, k', rfl, hcc⟩ := compile_scope hc
  unfold loopP at hP
  split at hP
  · rename_i vs hg
    obtain ⟨J, first, pass⟩ := rule vs h _ hP
    have hE : Apart sp.ts (e.forget sp.ts) := apart_forget e
    refine wp_scope_all (fun l n a' w' => ∃ vs' h' μ', Ext h.n μ h'.n μ' ∧ Rep w0 μ' h' w' ∧ ER nt μ' h'.n (zipE sp.cs vs' ++ e.forget sp.ts) a' ∧ J l n vs' h') ?_ ?_
    · have hm := mwp_frame hM hL hE c hw (sub_zip hE hcs vs) (first _ hE)
      refine wp_mono (mwp_sound hC cc hcc hl hm w0 μ a w hr (he.sub (sub_append (gets_zip hg) (forget_sub e)))) ?_
      rintro z a'' w'' ⟨e2, h2, μ2, x2, hr2, he2, hs2, hR⟩
      unfold gK at hR
      split at hR
      · rename_i vs2 hg2
        have he3 := he2.sub (sub_append (gets_zip hg2) hs2)
        cases z with
        | goto l => obtain ⟨m, hI⟩ := hR; exact ⟨m, vs2, h2, μ2, x2, hr2, he3, hI⟩
        | _ => exact ⟨_, h2, μ2, x2, hr2, he3, hR⟩
      · exact hR.elim
    · rintro l n a' w' ⟨vs1, h1, μ1, x1, hr1, he1, hI1⟩
      obtain ⟨rest, hf, hm0⟩ := pass l n vs1 h1 _ hE hI1
      obtain ⟨rc, hf', hrc⟩ := mfind_find cc hcc hf
      obtain ⟨hl', hw'⟩ := mfind_ok c hf hl hw
      have hm := mwp_frame hM hL hE rest hw' (sub_zip hE hcs vs1) hm0
      refine ⟨rc, hf', wp_mono (mwp_sound hC rc hrc hl' hm w0 μ1 a' w' hr1 he1) ?_⟩
      rintro z a'' w'' ⟨e2, h2, μ2, x2, hr2, he2, hs2, hR⟩
      unfold gK at hR
      split at hR
      · rename_i vs2 hg2
        have he3 := he2.sub (sub_append (gets_zip hg2) hs2)
        cases z with
        | goto l' => obtain ⟨m, hlt, hI⟩ := hR; exact ⟨m, hlt, vs2, h2, μ2, x1.trans x2, hr2, he3, hI⟩
        | _ => exact ⟨_, h2, μ2, x1.trans x2, hr2, he3, hR⟩
      · exact hR.elim
  · exact hP.elim
end
end Go.Mini
