/- strings.Builder, its two rows told outright. Conditions: sizes. -/
import Derived.Test.YthllhoodbfnlaaaDoorBld
import Derived.Test.YthllhoodbfnlaaaDoorStrs
import Derived.Test.YthllhoodbfnlaaaDoorMiniY
namespace Go.Mini
open Go Go.RowKit Go.Proofs
set_option maxRecDepth 100000
set_option linter.unusedVariables false
set_option linter.unusedSimpArgs false

theorem froze_own {h : Heap} {i : Nat} {b : Blk} (e : (froze h).g i = some b) : b.own = false := by
  obtain ⟨c, _, h3⟩ := Option.map_eq_some_iff.1 ((froze_g h i).symm.trans e)
  rw [← h3]
def bok (i : Nat) (p : Value) : Prop := p = .pointer none ∨ p = .pointer (some ⟨i, 0, none⟩)
/-- copyCheck, and the buffer's row put elsewhere. -/
def bwI : List Value → Heap → VK → Prop
  | [.pointer (some ⟨i, 0, none⟩), .string s], h, K => match h.g i with
    | some ⟨T, n, [p, buf], true⟩ => ck (Nat.beq T TB && Nat.beq n 2) (bok i p ∧ vapps TU (some buf) (some (.string s)) (h.upd i (some ⟨TB, 2, [.pointer (some ⟨i, 0, none⟩), buf], true⟩)) fun v h' => vst 1 (some (.pointer (some ⟨i, 1, none⟩))) (some v) h' fun _ h'' => K (.tuple #[.int .i64 s.size, .nilIface]) h'')
    | _ => False
  | _, _, _ => False
def bbI : List Value → Heap → VK → Prop
  | [.pointer (some ⟨i, 0, none⟩), .int .u8 c], h, K => match h.g i with
    | some ⟨T, n, [p, buf], true⟩ => ck (Nat.beq T TB && Nat.beq n 2) (bok i p ∧ vapp TU 1 1 (some buf) (some (.slice (some ⟨h.n, 0, none⟩) 1 1)) ((h.upd i (some ⟨TB, 2, [.pointer (some ⟨i, 0, none⟩), buf], true⟩)).add ⟨TU, 1, [.int .u8 c], true⟩) fun v h' => vst 1 (some (.pointer (some ⟨i, 1, none⟩))) (some v) h' fun _ h'' => K .nilIface h'')
    | _ => False
  | _, _, _ => False
theorem bwI_c (i : Nat) (s : ByteArray) (h : Heap) (K : VK) (hh : bwI [.pointer (some ⟨i, 0, none⟩), .string s] h K) : ACalls Tryd.prog 38 [.pointer (some ⟨i, 0, none⟩), .string s] h K := by
  simp only [bwI] at hh
  split at hh
  · rename_i T n p buf hi
    obtain ⟨hq, hp, hv⟩ := ck_iff.1 hh
    clear hh
    simp only [Bool.and_eq_true, Nat.beq_eq] at hq
    obtain ⟨rfl, rfl⟩ := hq
    refine acalls_mk SB0_ok strings_Builder_WriteString.ok (LS := lt0) (by simp only [strings_Builder_WriteString.m, LOk, and_true, true_and]) (Nat.le_of_ble_eq_true rfl) (Eq.mpr (WriteString.t1 i s h K) ⟨i, p, buf, rfl, hi, hp, ?_⟩)
    unfold vld
    dsimp only
    rw [Heap.upd_at]
    exact hv
  · exact hh.elim
theorem bwI_sc : ∀ vs h K, bwI vs h K → ACalls Tryd.prog 38 vs h K := by
  intro vs h K hh
  have hh' := hh
  unfold bwI at hh
  split at hh
  · exact bwI_c _ _ _ _ hh'
  · exact hh.elim
theorem WriteByte.t1 (i : Nat) (c : Int) (h : Heap) (K : VK) : mwp SB0 lt0 strings_Builder_WriteByte.m (retK [.t 4] K) (argE 0 [.pointer (some ⟨i, 0, none⟩), .int .u8 c]) h =
    cchk.s [.pointer (some ⟨i, 0, none⟩)] h (fun _ h => vld none (some (.pointer (some ⟨i, 1, none⟩))) h (fun v h => vapp TU 1 1 (some v) (some (.slice (some ⟨h.n, 0, none⟩) 1 1)) (h.add ⟨TU, 1, [.int .u8 c], true⟩) (fun v h => vst 1 (some (.pointer (some ⟨i, 1, none⟩))) (some v) h (fun _ h => K .nilIface h)))) := by kernel_rfl
theorem bbI_c (i : Nat) (c : Int) (h : Heap) (K : VK) (hh : bbI [.pointer (some ⟨i, 0, none⟩), .int .u8 c] h K) : ACalls Tryd.prog 58 [.pointer (some ⟨i, 0, none⟩), .int .u8 c] h K := by
  simp only [bbI] at hh
  split at hh
  · rename_i T n p buf hi
    obtain ⟨hq, hp, hv⟩ := ck_iff.1 hh
    clear hh
    simp only [Bool.and_eq_true, Nat.beq_eq] at hq
    obtain ⟨rfl, rfl⟩ := hq
    refine acalls_mk SB0_ok strings_Builder_WriteByte.ok (LS := lt0) (by simp only [strings_Builder_WriteByte.m, LOk, and_true, true_and]) (Nat.le_of_ble_eq_true rfl) (Eq.mpr (WriteByte.t1 i c h K) ⟨i, p, buf, rfl, hi, hp, ?_⟩)
    unfold vld
    dsimp only
    rw [Heap.upd_at]
    exact hv
  · exact hh.elim
theorem bbI_sc : ∀ vs h K, bbI vs h K → ACalls Tryd.prog 58 vs h K := by
  intro vs h K hh
  have hh' := hh
  unfold bbI at hh
  split at hh
  · exact bbI_c _ _ _ _ hh'
  · exact hh.elim
theorem vapps_mono {T : Nat} {a b : Value} {h : Heap} {K K' : VK} (hk : ∀ v h', K v h' → K' v h') (hh : vapps T (some a) (some b) h K) : vapps T (some a) (some b) h K' :=
  eop_mono (C := noC) (e := []) (m := .apps T (.c a) (.c b)) noC_mono hk hh
theorem vapp_mono {T sz by' : Nat} {a b : Value} {h : Heap} {K K' : VK} (hk : ∀ v h', K v h' → K' v h') (hh : vapp T sz by' (some a) (some b) h K) : vapp T sz by' (some a) (some b) h K' :=
  eop_mono (C := noC) (e := []) (m := .app T sz by' [] (.c a) (.c b)) noC_mono hk hh
theorem vst_mono {n : Nat} {a b : Value} {h : Heap} {K K' : VK} (hk : ∀ v h', K v h' → K' v h') (hh : vst n (some a) (some b) h K) : vst n (some a) (some b) h K' :=
  eop_mono (C := noC) (e := []) (m := .st n (.c a) (.c b)) noC_mono hk hh
theorem bwI_sm : SpecMono bwI := by
  intro vs h K K' hk hh
  unfold bwI at hh ⊢
  split at hh
  · split at hh
    · obtain ⟨hq, hp, hh⟩ := ck_iff.1 hh
      exact ck_iff.2 ⟨hq, hp, vapps_mono (fun v h' hv => vst_mono (fun v h'' hv => hk _ _ hv) hv) hh⟩
    · exact hh.elim
  · exact hh.elim
theorem bbI_sm : SpecMono bbI := by
  intro vs h K K' hk hh
  unfold bbI at hh ⊢
  split at hh
  · split at hh
    · obtain ⟨hq, hp, hh⟩ := ck_iff.1 hh
      exact ck_iff.2 ⟨hq, hp, vapp_mono (fun v h' hv => vst_mono (fun v h'' hv => hk _ _ hv) hv) hh⟩
    · exact hh.elim
  · exact hh.elim
theorem bwI_sd : SpecDet bwI := by
  intro vs h K hh
  unfold bwI at hh
  split at hh
  · split at hh
    · rename_i hi; exact Bool.noConfusion (froze_own hi)
    · exact hh.elim
  · exact hh.elim
theorem bbI_sd : SpecDet bbI := by
  intro vs h K hh
  unfold bbI at hh
  split at hh
  · split at hh
    · rename_i hi; exact Bool.noConfusion (froze_own hi)
    · exact hh.elim
  · exact hh.elim
set_option maxHeartbeats 2000000 in
theorem string_zero (w : World) (b : Nat) (a : Addr) (cap : Nat) (hb : w.cell? ⟨b, 1, none⟩ = some (.slice (some a) 0 cap)) (sh : TypeId × Nat) (hsh : w.shape? a.block = some sh) :
    Calls Tryd.prog 39 #[.pointer (some ⟨b, 0, none⟩)] w fun e w' => e = .returned (.string ⟨#[]⟩) ∧ Below w.heap.size w w' := by
  have hUS : ∀ (W : World) (q : Option Addr), (Builtin.unsafeString_ #[94, 3] 9 #[.pointer q, .int .i64 0]).run Tryd.prog W = .ok (.string .empty) W := fun W q => Lib.run_unsafeString_none W _ _ _ q
  have c1 : w.drew.cell? ⟨b, 1, none⟩ = some (.slice (some a) 0 cap) := hb
  have hd : Below w.heap.size w w.drew := (Below.refl _ w).drew
  obtain ⟨q, W, hSD, hW⟩ : ∃ q W, (Builtin.unsafeSliceData_ #[23] 94 #[.slice (some a) 0 cap]).run Tryd.prog w.drew = .ok (.pointer (some q)) W ∧ Below w.heap.size w W := by
    by_cases hc : cap = 0
    · subst hc
      exact ⟨_, _, Lib.run_unsafeSliceData_zero (P := Tryd.prog) (w := w.drew) _ 94 5 (by first | exact Tryd.underlying94 | kernel_rfl) a 0 sh hsh, hd.trans (below_alloc w.drew _)⟩
    · exact ⟨_, _, Lib.run_unsafeSliceData_row _ _ _ _ _ _ hc, hd⟩
  have c2 : W.cell? ⟨b, 1, none⟩ = some (.slice (some a) 0 cap) := by rw [hW.cell (cell_lt hb)]; exact hb
  clear hsh
  go_enter Tryd.func39, Tryd.ntmps39
  go_wp2
  go_region
  all_goals (go_wp2; go_ret; exact ⟨rfl, hW⟩)

/-- String, at a builder whose buffer's row is told. -/
def bsI : List Value → Heap → VK → Prop
  | [.pointer (some ⟨i, 0, none⟩)], h, K => match h.g i with
    | some ⟨T, n, [p, .slice (some ⟨j, 0, none⟩) m m'], true⟩ => match h.g j with
      | some ⟨U, z, cells, true⟩ => ck (Nat.beq T TB && Nat.beq n 2 && Nat.beq U TU && Nat.beq z 1 && !Nat.beq j i) (bok i p ∧ ∃ l : List UInt8, (cells = byV l ∧ m = l.length ∧ m' = l.length ∧ l.length ≤ 100000000000000) ∧ K (.string (strOf l)) (h.upd j none))
      | _ => False
    | _ => False
  | _, _, _ => False
theorem bsI_c (i : Nat) (h : Heap) (K : VK) (hh : bsI [.pointer (some ⟨i, 0, none⟩)] h K) : ACalls Tryd.prog 39 [.pointer (some ⟨i, 0, none⟩)] h K := by
  simp only [bsI] at hh
  split at hh
  · rename_i T n p j m m' hi
    split at hh
    · rename_i U z cells hj
      obtain ⟨hq, hp, l, ⟨rfl, rfl, rfl, hll⟩, hK⟩ := ck_iff.1 hh
      clear hh
      simp only [Bool.and_eq_true, Nat.beq_eq, Bool.not_eq_true'] at hq
      obtain ⟨⟨⟨⟨rfl, rfl⟩, rfl⟩, rfl⟩, hji⟩ := hq
      have hji : j ≠ i := fun e => by subst e; rw [Nat.beq_refl] at hji; cases hji
      refine ⟨⟨_, Tryd.func39, rfl, rfl⟩, fun w0 μ w vs' hr hall => ?_⟩
      obtain ⟨q, hq, rfl⟩ : ∃ q, i < h.n ∧ vs' = [.pointer (some ⟨(μ i).r, (μ i).d + 0, none⟩)] := by
        cases hall with
        | cons h0 t => cases t; obtain ⟨h1, h2⟩ := h0.ptr; exact ⟨0, h1, by rw [h2]⟩
      have hd := hr.d0 i _ hi rfl
      rw [hd]
      obtain ⟨buf', hc1, hf1⟩ := hr.reads i _ hi 1 _ rfl
      rw [hd] at hc1
      by_cases hl0 : l = []
      · subst hl0
        obtain ⟨_, _, hv⟩ := (VR.one (.one hf1)).slc
        have shp : (μ j).n ≠ 0 → ∃ sh, w.shape? (μ j).r = some sh := fun hz => by
          obtain ⟨_, cs, hcs, _⟩ := hr.owns j _ hj rfl hz
          exact ⟨(TU, cs.size), by simp [World.shape?, hcs]⟩
        rcases hv with ⟨c', rfl, h2, _, hz⟩ | ⟨_, hz, o', rfl⟩ | ⟨_, _, rfl⟩
        · obtain ⟨sh, hsh⟩ := shp hz
          refine (string_zero w (μ i).r _ _ hc1 sh hsh).mono ?_
          rintro e w' ⟨rfl, hb⟩
          exact ⟨.string ⟨#[]⟩, _, h.upd j none, μ, rfl, Ext.refl _ _, (hr.drop j).on hb, .same rfl, hK⟩
        · obtain ⟨sh, hsh⟩ := shp hz
          refine (string_zero w (μ i).r _ _ hc1 sh hsh).mono ?_
          rintro e w' ⟨rfl, hb⟩
          exact ⟨.string ⟨#[]⟩, _, h.upd j none, μ, rfl, Ext.refl _ _, (hr.drop j).on hb, .same rfl, hK⟩
        · refine (string_nil w (μ i).r hc1).mono ?_
          rintro e w' ⟨rfl, rfl⟩
          exact ⟨.string ⟨#[]⟩, _, h.upd j none, μ, rfl, Ext.refl _ _, (hr.drop j).on ((Below.refl _ w).drew), .same rfl, hK⟩
      · have hdj := hr.d0 j _ hj rfl
        have zj : (μ j).n ≠ 0 := by
          cases l with
          | nil => exact absurd rfl hl0
          | cons c l => exact hr.nz hj (j := 0) (v := .int .u8 c.toNat) rfl
        obtain ⟨hr0, cs, hcs, hcn, hcd⟩ := hr.owns j _ hj rfl zj
        obtain ⟨cap, hb', hcap⟩ : ∃ cap, buf' = .slice (some ⟨(μ j).r, 0, none⟩) l.length cap ∧ l.length ≤ cap := by
          have hl' : l.length ≠ 0 := by simpa using hl0
          obtain ⟨_, _, hv⟩ := (VR.one (.one hf1)).slc
          rcases hv with ⟨c', h1, h2, _⟩ | ⟨h1, _⟩ | ⟨h1, _⟩
          · exact ⟨c', by rw [h1, hdj], h2⟩
          · exact absurd h1 hl'
          · exact absurd h1 hl'
        subst hb'
        have hcd' : l.length ≤ cs.size := by rw [hcn]; have := hcd; rw [hdj] at this; simp [byV_len] at this; exact this
        refine (string_row w (μ i).r (μ j).r cap l cs hl0 hcap hcd' (by omega) hcs hc1 (fun k x hx => ?_)).mono ?_
        · obtain ⟨v', q1, q2⟩ := hr.reads j _ hj k (.int .u8 x.toNat) (by simp [byV, hx])
          rw [hdj, Nat.zero_add] at q1
          rw [q1, q2.of_flat rfl]
        · rintro e w' ⟨rfl, rfl⟩
          refine ⟨.string ⟨l.toArray⟩, _, h.upd j none, μ, rfl, Ext.refl _ _, ?_, .same rfl, hK⟩
          refine ((hr.drop j).on ((Below.refl _ w).drew)).grown (grown_freeze _ _ _) hr0 (hr.free j _ hj rfl zj) fun k b hk ho zk => ?_
          have hkj : k ≠ j := fun e => by subst e; rw [Heap.upd_at] at hk; cases hk
          have hk' : h.g k = some b := by rw [Heap.upd_ne _ _ hkj] at hk; exact hk
          exact hr.apart k j b _ hkj hk' hj ho rfl zk zj
    · exact hh.elim
  · exact hh.elim
theorem bsI_sc : ∀ vs h K, bsI vs h K → ACalls Tryd.prog 39 vs h K := by
  intro vs h K hh
  have hh' := hh
  unfold bsI at hh
  split at hh
  · exact bsI_c _ _ _ hh'
  · exact hh.elim
theorem bsI_sm : SpecMono bsI := by
  intro vs h K K' hk hh
  unfold bsI at hh ⊢
  split at hh
  · split at hh
    · split at hh
      · obtain ⟨hq, hp, l, h1, hh⟩ := ck_iff.1 hh
        exact ck_iff.2 ⟨hq, hp, l, h1, hk _ _ hh⟩
      · exact hh.elim
    · exact hh.elim
  · exact hh.elim
theorem bsI_sd : SpecDet bsI := by
  intro vs h K hh
  unfold bsI at hh
  split at hh
  · split at hh
    · rename_i hi; exact Bool.noConfusion (froze_own hi)
    · exact hh.elim
  · exact hh.elim

end Go.Mini
