/- strings.Builder: what its methods do to the builder's two rows. Conditions: sizes. -/
import Derived.Test.YthllhoodbfnlaaaDoorCodB
import Derived.Test.YthllhoodbfnlaaaDoorMiniP
import Derived.Test.YthllhoodbfnlaaaDoorProg
import Derived.Lib.Builder
import Derived.Lib.FrozenHead2
import Derived.Lib.UnsafeStr
import Derived.WalkKit
import Derived.KernelRfl
import Derived.Outline
import Derived.RegionTactic
namespace Go.Mini
open Go Go.RowKit Go.Proofs
set_option maxRecDepth 100000
set_option linter.unusedVariables false
set_option linter.unusedSimpArgs false

abbrev TB : Nat := 73
abbrev TU : Nat := 5

set_option maxHeartbeats 1000000 in
theorem copyCheck_used (b k : Nat) (w : World) (h0 : w.cell? ⟨b, k, none⟩ = some (.pointer (some ⟨b, k, none⟩))) :
    Calls Tryd.prog 64 #[.pointer (some ⟨b, k, none⟩)] w fun e w' => e = .returned (.tuple #[]) ∧ w' = w := by
  obtain ⟨j, hj, _⟩ := Option.map_eq_some_iff.1 (show (Tryd.prog.info? 73).map (·.size) = some 2 from by kernel_rfl)
  go_enter Tryd.func64, Tryd.ntmps64
  go_wp2
  rw [Lib.run_neq_ptr_same w _ Tryd.underlying71 hj]
  go_wp2
  go_end0
  exact ⟨rfl, rfl⟩

set_option maxHeartbeats 1000000 in
theorem copyCheck_fresh (b k n : Nat) (T : TypeId) (w : World) (h0 : w.cell? ⟨b, k, none⟩ = some (.pointer none)) (hsh : w.shape? b = some (T, n)) (hfz : w.frozen? ⟨b, k, none⟩ = false) (hk : k < n) (hlies : liesAt Tryd.prog Tryd.prog.depth T (n / Tryd.prog.cellsOf T) k 73 1 = true) :
    Calls Tryd.prog 64 #[.pointer (some ⟨b, k, none⟩)] w fun e w' => e = .returned (.tuple #[]) ∧ w' = w.setCell ⟨b, k, none⟩ (.pointer (some ⟨b, k, none⟩)) := by
  obtain ⟨j, hj, hjs⟩ := Option.map_eq_some_iff.1 (show (Tryd.prog.info? 73).map (·.size) = some 2 from by kernel_rfl)
  go_enter Tryd.func64, Tryd.ntmps64
  go_wp2
  rw [Lib.run_to_unsafe w ⟨b, k, none⟩ Tryd.underlying71 Tryd.underlying113 hj (by rw [hjs]; decide) hsh hk]
  simp only [Result.andThen]
  rw [Oper.upon_value]
  go_wp2
  rw [run_callFunc_extern Tryd.func86 (by kernel_rfl) (by kernel_rfl) (by kernel_rfl) (e := Extern.AbiNoEscape.same) (by kernel_rfl)]
  rw [Lib.run_noEscape]
  simp only [Result.andThen]
  rw [Oper.upon_value]
  go_wp2
  rw [Lib.run_from_unsafe w ⟨b, k, none⟩ Tryd.underlying113 Tryd.underlying71 hj hsh hlies]
  simp only [Result.andThen]
  rw [Oper.upon_value]
  go_wp2
  go_end0
  exact ⟨rfl, rfl⟩

/-! ### copyCheck -/
def cchk.s : List Value → Heap → VK → Prop := fun vs h K => ∃ i p buf, vs = [.pointer (some ⟨i, 0, none⟩)] ∧ h.g i = some ⟨TB, 2, [p, buf], true⟩ ∧ (p = .pointer none ∨ p = .pointer (some ⟨i, 0, none⟩)) ∧ K (.tuple #[]) (h.upd i (some ⟨TB, 2, [.pointer (some ⟨i, 0, none⟩), buf], true⟩))
theorem cchk.sm : SpecMono cchk.s := by
  rintro vs h K K' hk ⟨i, p, buf, h1, h2, h3, h4⟩
  exact ⟨i, p, buf, h1, h2, h3, hk _ _ h4⟩
theorem cchk.sd : SpecDet cchk.s := by
  rintro vs h K ⟨i, p, buf, _, h2, _⟩
  obtain ⟨c, _, h3⟩ := Option.map_eq_some_iff.1 ((froze_g h i).symm.trans h2)
  exact Bool.noConfusion (show false = true from congrArg Blk.own h3)
theorem BldS.froze {T U : Nat} {h0 h : Heap} {i : Nat} {l : List UInt8} (B : BldS T U h0 (froze h) i l) : False := by
  obtain ⟨p, buf, h2, _⟩ := B.ex
  obtain ⟨c, _, h3⟩ := Option.map_eq_some_iff.1 ((froze_g h i).symm.trans h2)
  exact Bool.noConfusion (show false = true from congrArg Blk.own h3)
theorem cchk.sc : ∀ vs h K, cchk.s vs h K → ACalls Tryd.prog 64 vs h K := by
  rintro vs h K ⟨i, p, buf, rfl, hi, hp, hK⟩
  refine ⟨⟨_, Tryd.func64, rfl, rfl⟩, fun w0 μ w vs' hr hall => ?_⟩
  obtain ⟨q, hq, rfl⟩ : ∃ q, i < h.n ∧ vs' = [.pointer (some ⟨(μ i).r, (μ i).d + 0, none⟩)] := by
    cases hall with
    | cons h0 t => cases t; obtain ⟨h1, h2⟩ := h0.ptr; exact ⟨0, h1, by rw [h2]⟩
  have hd := hr.d0 i _ hi rfl
  rw [hd]
  have zi : (μ i).n ≠ 0 := hr.nz hi (j := 0) (v := p) rfl
  obtain ⟨hr0, cs, hcs, hcn, hcd⟩ := hr.owns i _ hi rfl zi
  obtain ⟨p', hc0, hf0⟩ := hr.reads i _ hi 0 p rfl
  rw [hd] at hc0 hcd
  have h2 : 2 ≤ cs.size := by rw [hcn]; simpa using hcd
  rcases hp with rfl | rfl
  · have hp' : p' = .pointer none := hf0.of_flat rfl
    subst hp'
    have hsh : w.shape? (μ i).r = some (TB, cs.size) := by simp [World.shape?, hcs]
    have hc2 : Tryd.prog.cellsOf TB = 2 := by kernel_rfl
    refine (copyCheck_fresh (μ i).r 0 cs.size TB w hc0 hsh (by simp [World.frozen?, hcs]) (by omega) (lies0 (by rw [hc2]; decide) _ (by rw [hc2]; omega))).mono ?_
    rintro e w' ⟨rfl, rfl⟩
    refine ⟨.tuple #[], _, h.upd i (some ⟨TB, 2, [.pointer (some ⟨i, 0, none⟩), buf], true⟩), μ, rfl, Ext.refl _ _, ?_, .tup (vs := []) (vs' := []) .nil, hK⟩
    rw [setCell_eq_setRow w (μ i).r 0 cs TB (0, 0) _ hcs]
    refine hr.set (cs' := cs.setIfInBounds 0 (.pointer (some ⟨(μ i).r, 0, none⟩))) hi rfl zi hcs (Array.size_setIfInBounds ..) [.pointer (some ⟨i, 0, none⟩), buf] rfl fun j v hv => ?_
    rw [hd]
    match j, hv with
    | 0, hv =>
      obtain rfl := Option.some.inj hv
      have := FR.ptr (μ := μ) (n := h.n) (i := i) (o := 0) hq zi
      rw [hd] at this
      exact ⟨_, by simp [show 0 < cs.size by omega], this⟩
    | 1, hv =>
      obtain ⟨v', q1, q2⟩ := hr.reads i _ hi 1 v hv
      rw [cell_of_row w _ _ cs _ _ hcs, hd] at q1
      exact ⟨v', by simpa using q1, q2⟩
    | j + 2, hv => cases hv
  · have hp' : p' = .pointer (some ⟨(μ i).r, 0, none⟩) := by
      have := (VR.one (.one hf0)).ptr
      rw [this.2, hd]
    subst hp'
    refine (copyCheck_used (μ i).r 0 w hc0).mono ?_
    rintro e w' ⟨rfl, rfl⟩
    rw [Heap.upd_self hi] at hK
    exact ⟨.tuple #[], _, h, μ, rfl, Ext.refl _ _, hr, .tup (vs := []) (vs' := []) .nil, hK⟩

/-! ### String -/
set_option maxHeartbeats 2000000 in
theorem string_row (w : World) (b g cap : Nat) (l : List UInt8) (cur : Array Value) (h0 : l ≠ []) (hcap : l.length ≤ cap) (hcur : l.length ≤ cur.size) (h63 : l.length ≤ 9223372036854775807) (hg : w.heap[g]? = some (.cells cur TU (0, 0))) (hb : w.cell? ⟨b, 1, none⟩ = some (.slice (some ⟨g, 0, none⟩) l.length cap)) (hl : ∀ j x, l[j]? = some x → w.cell? ⟨g, j, none⟩ = some (.int .u8 x.toNat)) :
    Calls Tryd.prog 39 #[.pointer (some ⟨b, 0, none⟩)] w fun e w' => e = .returned (.string ⟨l.toArray⟩) ∧ w' = w.drew.freeze ⟨g, 0, none⟩ l.length := by
  have hl0 : l.length ≠ 0 := by simpa using h0
  have c1 : w.drew.cell? ⟨b, 1, none⟩ = some (.slice (some ⟨g, 0, none⟩) l.length cap) := hb
  have hSD : (Builtin.unsafeSliceData_ #[23] 94 #[.slice (some ⟨g, 0, none⟩) l.length cap]).run Tryd.prog w.drew = .ok (.pointer (some ⟨g, 0, none⟩)) w.drew :=
    Lib.run_unsafeSliceData_row _ _ _ _ _ _ (by omega)
  have hUS : (Builtin.unsafeString_ #[94, 3] 9 #[.pointer (some ⟨g, 0, none⟩), .int .i64 l.length]).run Tryd.prog w.drew = .ok (.string ⟨l.toArray⟩) (w.drew.freeze ⟨g, 0, none⟩ l.length) := by
    refine Lib.run_unsafeString_row w.drew 94 3 9 5 Tryd.underlying94 (by kernel_rfl) g cur.size (by have hg' : w.drew.heap[g]? = some (.cells cur 5 (0, 0)) := hg; simp [World.shape?, hg']) l h0 hcur h63 ?_
    intro j x hx
    have := hl j x hx
    rw [add_lit0, Nat.zero_add]
    exact this
  generalize hW : w.drew.freeze ⟨g, 0, none⟩ l.length = W at hUS ⊢
  clear hcur hg hl hW hb
  go_enter Tryd.func39, Tryd.ntmps39
  go_wp2
  go_region
  all_goals (go_wp2; go_ret; exact ⟨rfl, rfl⟩)

set_option maxHeartbeats 2000000 in
theorem string_nil (w : World) (b : Nat) (hb : w.cell? ⟨b, 1, none⟩ = some (.slice none 0 0)) :
    Calls Tryd.prog 39 #[.pointer (some ⟨b, 0, none⟩)] w fun e w' => e = .returned (.string ⟨#[]⟩) ∧ w' = w.drew := by
  have hUS : ∀ (W : World) (q : Option Addr), (Builtin.unsafeString_ #[94, 3] 9 #[.pointer q, .int .i64 0]).run Tryd.prog W = .ok (.string .empty) W := fun W q => Lib.run_unsafeString_none W _ _ _ q
  have c1 : w.drew.cell? ⟨b, 1, none⟩ = some (.slice none 0 0) := hb
  have hSD : (Builtin.unsafeSliceData_ #[23] 94 #[.slice none 0 0]).run Tryd.prog w.drew = .ok (.pointer none) w.drew := rfl
  go_enter Tryd.func39, Tryd.ntmps39
  go_wp2
  go_region
  all_goals (go_wp2; go_ret; exact ⟨rfl, rfl⟩)

def bstr.s : List Value → Heap → VK → Prop := fun vs h K => ∃ i h0 l, vs = [.pointer (some ⟨i, 0, none⟩)] ∧ BldS TB TU h0 h i l ∧ l.length ≤ 100000000000000 ∧ ∀ h', keepsX i h0 h' → K (.string ⟨l.toArray⟩) h'
theorem bstr.sm : SpecMono bstr.s := by
  rintro vs h K K' hk ⟨i, h0, l, h1, h2, h3, h4⟩
  exact ⟨i, h0, l, h1, h2, h3, fun h' hh => hk _ _ (h4 h' hh)⟩
theorem bstr.sd : SpecDet bstr.s := by
  rintro vs h K ⟨i, h0, l, _, B, _⟩
  exact B.froze.elim
theorem bstr.sc : ∀ vs h K, bstr.s vs h K → ACalls Tryd.prog 39 vs h K := by
  rintro vs h K ⟨i, h0, l, rfl, B, hll, hK⟩
  refine ⟨⟨_, Tryd.func39, rfl, rfl⟩, fun w0 μ w vs' hr hall => ?_⟩
  obtain ⟨p, buf, hi, hp, hbuf⟩ := B.ex
  obtain ⟨q, hq, rfl⟩ : ∃ q, i < h.n ∧ vs' = [.pointer (some ⟨(μ i).r, (μ i).d + 0, none⟩)] := by
    cases hall with
    | cons h0 t => cases t; obtain ⟨h1, h2⟩ := h0.ptr; exact ⟨0, h1, by rw [h2]⟩
  have hd := hr.d0 i _ hi rfl
  rw [hd]
  obtain ⟨buf', hc1, hf1⟩ := hr.reads i _ hi 1 buf rfl
  rw [hd] at hc1
  rcases hbuf with ⟨rfl, rfl⟩ | ⟨j, rfl, hj, hji, hj0, hjn, hl0⟩
  · have : buf' = .slice none 0 0 := hf1.of_flat rfl
    subst this
    refine (string_nil w (μ i).r hc1).mono ?_
    rintro e w' ⟨rfl, rfl⟩
    exact ⟨.string ⟨#[]⟩, _, h, μ, rfl, Ext.refl _ _, hr.on ((Below.refl _ w).drew), .same rfl, hK h B.keep⟩
  · have hdj := hr.d0 j _ hj rfl
    have zj : (μ j).n ≠ 0 := by
      cases l with
      | nil => exact absurd rfl hl0
      | cons c l => exact hr.nz hj (j := 0) (v := .int .u8 c.toNat) rfl
    obtain ⟨hr0, cs, hcs, hcn, hcd⟩ := hr.owns j _ hj rfl zj
    obtain ⟨cap, hb', hcap⟩ : ∃ cap, buf' = .slice (some ⟨(μ j).r, 0, none⟩) l.length cap ∧ l.length ≤ cap := by
      have hl' : l.length ≠ 0 := by simpa using hl0
      obtain ⟨_, _, hv⟩ := (VR.one (.one hf1)).slc
      rcases hv with ⟨c', h1, h2, _⟩ | ⟨h1, _⟩ | ⟨h1, _⟩
      · exact ⟨c', by rw [h1, hdj], h2⟩
      · exact absurd h1 hl'
      · exact absurd h1 hl'
    subst hb'
    have hcd' : l.length ≤ cs.size := by rw [hcn]; have := hcd; rw [hdj] at this; simp [byV_len] at this; exact this
    refine (string_row w (μ i).r (μ j).r cap l cs hl0 hcap hcd' (by omega) hcs hc1 (fun k x hx => ?_)).mono ?_
    · obtain ⟨v', q1, q2⟩ := hr.reads j _ hj k (.int .u8 x.toNat) (by simp [byV, hx])
      rw [hdj, Nat.zero_add] at q1
      rw [q1, q2.of_flat rfl]
    · rintro e w' ⟨rfl, rfl⟩
      refine ⟨.string ⟨l.toArray⟩, _, h.upd j none, μ, rfl, Ext.refl _ _, ?_, .same rfl, hK _ (B.keep.upd hj0 none)⟩
      refine ((hr.drop j).on ((Below.refl _ w).drew)).grown (grown_freeze _ _ _) hr0 (hr.free j _ hj rfl zj) fun k b hk ho zk => ?_
      have hkj : k ≠ j := fun e => by subst e; rw [Heap.upd_at] at hk; cases hk
      have hk' : h.g k = some b := by rw [Heap.upd_ne _ _ hkj] at hk; exact hk
      exact hr.apart k j b _ hkj hk' hj ho rfl zk zj

/-! ### WriteString -/
def SB0 : CT := extC noC 64 cchk.s
theorem SB0_ok : COk Tryd.prog SB0 := extC_ok noC_ok cchk.sc cchk.sd
theorem SB0_mono : CMono SB0 := extC_mono noC_mono cchk.sm

theorem WriteString.t1 (i : Nat) (s : ByteArray) (h : Heap) (K : VK) : mwp SB0 lt0 strings_Builder_WriteString.m (retK [.t 4, .t 5] K) (argE 0 [.pointer (some ⟨i, 0, none⟩), .string s]) h =
    cchk.s [.pointer (some ⟨i, 0, none⟩)] h (fun _ h => vld none (some (.pointer (some ⟨i, 1, none⟩))) h (fun v h => vapps TU (some v) (some (.string s)) h (fun v h => vst 1 (some (.pointer (some ⟨i, 1, none⟩))) (some v) h (fun _ h => K (.tuple #[.int .i64 s.size, .nilIface]) h)))) := by kernel_rfl

def bws.s : List Value → Heap → VK → Prop := fun vs h K => ∃ i s h0 l, vs = [.pointer (some ⟨i, 0, none⟩), .string s] ∧ BldS TB TU h0 h i l ∧ l.length + s.size ≤ 100000000000000 ∧ ∀ h', BldS TB TU h0 h' i (l ++ s.data.toList) → K (.tuple #[.int .i64 s.size, .nilIface]) h'
theorem bws.sm : SpecMono bws.s := by
  rintro vs h K K' hk ⟨i, s, h0, l, h1, h2, h3, h4⟩
  exact ⟨i, s, h0, l, h1, h2, h3, fun h' hh => hk _ _ (h4 h' hh)⟩
theorem strV_by (s : ByteArray) : strV s = byV s.data.toList := rfl
theorem sz_lst (s : ByteArray) : s.data.toList.length = s.size := Array.length_toList
theorem bws.sd : SpecDet bws.s := by
  rintro vs h K ⟨i, s, h0, l, _, B, _⟩
  exact B.froze.elim
theorem bws.sc : ∀ vs h K, bws.s vs h K → ACalls Tryd.prog 38 vs h K := by
  rintro vs h K ⟨i, s, h0, l, rfl, B, hll, hK⟩
  refine acalls_mk SB0_ok strings_Builder_WriteString.ok (LS := lt0) (by simp only [strings_Builder_WriteString.m, LOk, and_true, true_and]) (Nat.le_of_ble_eq_true rfl) (Eq.mpr (WriteString.t1 i s h K) ?_)
  obtain ⟨p, buf, hi, hp, hbuf⟩ := B.ex
  have hlt := B.lt
  have hkp := B.keep
  have hs := sz_lst s
  refine ⟨i, p, buf, rfl, hi, hp, ?_⟩
  have hk1 := hkp.updI (some ⟨TB, 2, [.pointer (some ⟨i, 0, none⟩), buf], true⟩)
  unfold vld
  dsimp only
  rw [Heap.upd_at]
  dsimp only [vpart, kv, List.getElem?_cons_succ, List.getElem?_cons_zero]
  unfold vapps
  rcases hbuf with ⟨rfl, rfl⟩ | ⟨j, rfl, hj, hji, hj0, hjn, hl0⟩
  · dsimp only
    refine br_intro (fun h1 => ?_) (fun h1 => ?_)
    · unfold vst
      dsimp only
      rw [Heap.upd_at]
      refine ck_iff.2 ⟨rfl, ck_le.2 ⟨Nat.le_refl _, hK _ ?_⟩⟩
      have hs0 : s.data.toList = [] := List.eq_nil_of_length_eq_zero (by rw [hs]; simpa using h1)
      rw [hs0]
      refine ⟨hk1.updI _, hlt, _, _, Heap.upd_at _ _ _, .inr rfl, .inl ⟨rfl, rfl⟩⟩
    · have hs0 : s.data.toList ≠ [] := fun e => by rw [e, List.length_nil] at hs; rw [← hs] at h1; exact absurd h1 (by decide)
      refine ⟨by have : ([] : List UInt8).length = 0 := rfl
                 omega, ?_⟩
      unfold vst
      dsimp only
      rw [Heap.add_ne (h.upd i _) _ (show i ≠ (h.upd i _).n from Nat.ne_of_lt hlt), Heap.upd_at]
      refine ck_iff.2 ⟨rfl, ck_le.2 ⟨Nat.le_refl _, hK _ ?_⟩⟩
      refine ⟨(hk1.add _).updI _, Nat.lt_succ_of_lt hlt, _, _, Heap.upd_at _ _ _, .inr rfl, .inr ⟨h.n, ?_, ?_, Nat.ne_of_gt hlt, hkp.1, Nat.lt_succ_self _, by simpa using hs0⟩⟩
      · rw [List.nil_append, hs]; rfl
      · rw [Heap.upd_ne _ _ (Nat.ne_of_gt hlt)]
        exact Heap.add_self _ _
  · dsimp only
    rw [Heap.upd_ne _ _ hji, hj]
    dsimp only
    have hl1 : 0 < l.length := List.length_pos_iff.2 hl0
    refine ck_iff.2 ⟨rfl, ⟨hll, by rw [byV_len]; exact Nat.le_refl _⟩, ?_⟩
    unfold vst
    dsimp only
    rw [Heap.add_ne ((h.upd i _).upd j none) _ (show i ≠ ((h.upd i _).upd j none).n from Nat.ne_of_lt hlt), Heap.upd_ne _ _ (Ne.symm hji), Heap.upd_at]
    refine ck_iff.2 ⟨rfl, ck_le.2 ⟨Nat.le_refl _, hK _ ?_⟩⟩
    refine ⟨((hk1.upd hj0 none).add _).updI _, Nat.lt_succ_of_lt hlt, _, _, Heap.upd_at _ _ _, .inr rfl, .inr ⟨h.n, ?_, ?_, Nat.ne_of_gt hlt, hkp.1, Nat.lt_succ_self _, by simp [hl0]⟩⟩
    · rw [List.length_append, hs]; rfl
    · rw [Heap.upd_ne _ _ (Nat.ne_of_gt hlt)]
      refine (Heap.add_self _ _).trans ?_
      rw [← byV_len l, List.take_length, byV_app, strV_by]
end Go.Mini
