/- The law PropTwice answers true at every input, with what its callees tell. Conditions: sizes and numbers as the row gives them. -/
import Derived.Test.YtaoameejkpipcaaHTwice
import Derived.Test.YtaoameejkpipcaaReadAt
import Derived.Test.YtaoameejkpipcaaQx3
import Derived.Test.YtaoameejkpipcaaQx5
namespace Go.Proofs.Ytaoameejkpipcaa.Q
open Go Go.RowKit Go.Proofs.YtaoameejkpipcaaW.PrintWords Go.Proofs.YtaoameejkpipcaaW.PrintLast Go.Proofs.YtaoameejkpipcaaW.PrintMore
set_option linter.unusedVariables false
set_option linter.unusedSimpArgs false

theorem ba_app (a b : ByteArray) : (a ++ b).data.toList = a.data.toList ++ b.data.toList := by rw [ByteArray.data_append, Array.toList_append]

theorem twice_anchors (v : Int) (flow : Bool) (s : ByteArray) (m0 m1 l : List UInt8) (hs : s.data.toList = 38 :: (m0 ++ 32 :: 38 :: l)) (hz : s.size ≤ 1000) (h0 : m0 ≠ []) (hall : ∀ c ∈ m0, nameB c = true) :
    Ev (fun k => prop_Read.f k v s 0 flow) (prop_Read.wrong ((m0.length : Int) + 2)) := by
  refine prop_read_l0 v s flow 0 _ (by omega) ?_
  refine anchor_ev v s flow _ 0 m0 (32 :: 38 :: l) _ (by omega) (by rw [List.drop_zero]; exact hs) h0 hall (by intro c hc; simp at hc; rw [← hc]; decide) (by decide +kernel) (by simp [stopL]) ?_
  have hb : blanksL (32 :: 38 :: l) = 1 := rfl
  rw [hb, show (m0.length : Int) + 2 = ((0 + 1 + m0.length + 1 : Nat) : Int) from by omega]
  refine twice_anchor v s flow _ _ l ?_ (fun h => h0 (by rw [Lib.toList_data] at h; simpa using h))
  have d1 : s.data.toList.drop 1 = m0 ++ 32 :: 38 :: l := by rw [hs]; rfl
  have d2 : s.data.toList.drop (1 + m0.length) = 32 :: 38 :: l := drop_more d1 rfl
  exact drop_more (a := [32]) d2 (by simp <;> omega)

theorem twice_tags (v : Int) (flow : Bool) (s : ByteArray) (m0 l : List UInt8) (hs : s.data.toList = 33 :: 60 :: (m0 ++ 62 :: 32 :: 33 :: l)) (hz : s.size ≤ 1000) (h0 : m0 ≠ []) (hall : ∀ c ∈ m0, signB c = true) :
    Ev (fun k => prop_Read.f k v s 0 flow) (prop_Read.wrong ((m0.length : Int) + 4)) := by
  refine prop_read_l0 v s flow 0 _ (by omega) ?_
  refine tag_ev v s flow _ 0 m0 (32 :: 33 :: l) _ (by omega) (by rw [List.drop_zero]; exact hs) h0 hall rfl (by simp [stopL]) ?_
  have hb : blanksL (32 :: 33 :: l) = 1 := rfl
  rw [hb, show (m0.length : Int) + 4 = ((0 + 3 + m0.length + 1 : Nat) : Int) from by omega]
  refine twice_tag v s flow _ _ l ?_ rfl
  have d1 : s.data.toList.drop 2 = m0 ++ 62 :: 32 :: 33 :: l := by rw [hs]; rfl
  have d2 : s.data.toList.drop (2 + m0.length) = 62 :: 32 :: 33 :: l := drop_more d1 rfl
  exact drop_more (a := [62, 32]) d2 (by simp <;> omega)

/-- The five that are none. -/
def bads : List (ByteArray × ByteArray × Int) := [(⟨#[38]⟩, ⟨#[33, 121]⟩, 38), (⟨#[33, 60]⟩, ⟨#[38, 121]⟩, 33), (⟨#[38, 97, 58]⟩, ⟨#[33, 121]⟩, 38), (⟨#[38, 97, 42]⟩, ⟨#[33, 121]⟩, 38), (⟨#[33, 60, 120, 62, 120]⟩, ⟨#[38, 121]⟩, 33)]
def bad2 (v : Int) (flow : Bool) (q : ByteArray × ByteArray × Int) : Prop :=
  prop_Read.f 30 v (q.1 ++ ⟨#[32, 120]⟩) 0 flow = some (prop_Read.wrong 0) ∧ prop_Read.f 30 v (((q.2.1 ++ ⟨#[32, 32]⟩) ++ q.1) ++ ⟨#[10]⟩) 0 flow = some (prop_Read.wrong 4)
theorem bad_all (v : Int) (hv : v = 11 ∨ v = 12) (flow : Bool) : ∀ q ∈ bads, bad2 v flow q := by
  intro q hq
  simp only [bads, List.mem_cons, List.not_mem_nil, or_false] at hq
  rcases hv with rfl | rfl <;> cases flow <;> rcases hq with rfl | rfl | rfl | rfl | rfl <;> exact ⟨by kernel_rfl, by kernel_rfl⟩

def targumlaw21_PropTwice.f (k : Nat) (a0 a1 : ByteArray) (a2 a3 a4 : Bool) (a5 : Int) : Option Bool :=
  if a0.size ≤ 140737488351232 ∧ a1.size ≤ 140737488351232 ∧ (Lit.int .u8 a5).wf = true then some true else none
theorem targumlaw21_PropTwice.calls (k : Nat) (a0 a1 : ByteArray) (a2 a3 a4 : Bool) (a5 : Int) (r : Bool) (w : World) (h : targumlaw21_PropTwice.f k a0 a1 a2 a3 a4 a5 = some r) :
    Calls Try.prog 5 #[.string a0, .string a1, .bool a2, .bool a3, .bool a4, .int .u8 a5] w fun e w' => e = .returned (.bool r) ∧ Below w.heap.size w w' := by
  unfold targumlaw21_PropTwice.f at h
  split at h
  case isFalse => cases h
  rename_i hs
  obtain ⟨h1, h2, h3⟩ := hs
  obtain rfl := Option.some.inj h
  clear h
  have hw : 0 ≤ a5 ∧ a5 ≤ 255 := by
    simp only [Lit.wf, Bool.and_eq_true, decide_eq_true_eq] at h3
    obtain ⟨p, q⟩ := h3
    have p' : (0 : Int) ≤ a5 := p
    have q' : a5 ≤ 255 := q
    exact ⟨p', q'⟩
  have cK : ∀ w, Calls Try.prog 7 #[] w fun e w' => e = .returned (.bool true) ∧ Below w.heap.size w w' := fun w => targumlaw21_known.calls true w rfl
  by_cases he : 40 < (a0.size : Int) ∨ 40 < (a1.size : Int)
  · exact targumlaw21_PropTwice.early a0 a1 a2 a3 a4 a5 w cK he
  obtain ⟨v, hv, hvv⟩ : ∃ v, targumhelp_Version.f a2 = some v ∧ (v = 11 ∨ v = 12) := by
    cases a2
    · exact ⟨12, rfl, .inr rfl⟩
    · exact ⟨11, rfl, .inl rfl⟩
  obtain ⟨K0, hK0⟩ := (name_ev a0 (by omega)).rounds
  obtain ⟨K1, hK1⟩ := (name_ev a1 (by omega)).rounds
  obtain ⟨m0, hm0⟩ : ∃ m : ByteArray, m = ⟨(nameL a0).toArray⟩ := ⟨_, rfl⟩
  obtain ⟨m1, hm1⟩ : ∃ m : ByteArray, m = ⟨(nameL a1).toArray⟩ := ⟨_, rfl⟩
  rw [← hm0] at hK0
  rw [← hm1] at hK1
  have l0 : m0.data.toList = nameL a0 := by rw [hm0]
  have l1 : m1.data.toList = nameL a1 := by rw [hm1]
  have z0 : m0.size = a0.size + 1 := by rw [size_list, l0, nameL_len]
  have z1 : m1.size = a1.size + 1 := by rw [size_list, l1, nameL_len]
  obtain ⟨a, ha⟩ : ∃ a : ByteArray, a = if a4 = true then ((⟨#[33, 60]⟩ : ByteArray) ++ m0) ++ ⟨#[62]⟩ else (⟨#[38]⟩ : ByteArray) ++ m0 := ⟨_, rfl⟩
  obtain ⟨b, hb⟩ : ∃ b : ByteArray, b = if a4 = true then (⟨#[33]⟩ : ByteArray) ++ m1 else (⟨#[38]⟩ : ByteArray) ++ m1 := ⟨_, rfl⟩
  have la : a.data.toList = if a4 = true then 33 :: 60 :: (nameL a0 ++ [62]) else 38 :: nameL a0 := by
    rw [ha]; split
    · rw [ba_app, ba_app, l0]; rfl
    · rw [ba_app, l0]; rfl
  have lb : b.data.toList = if a4 = true then 33 :: nameL a1 else 38 :: nameL a1 := by
    rw [hb]; split
    · rw [ba_app, l1]; rfl
    · rw [ba_app, l1]; rfl
  have za : a.size = if a4 = true then a0.size + 4 else a0.size + 2 := by
    rw [size_list, la]; split
    · rw [List.length_cons, List.length_cons, List.length_append, nameL_len]; rfl
    · rw [List.length_cons, nameL_len]
  have zb : b.size = a1.size + 2 := by
    rw [size_list, lb]; split <;> rw [List.length_cons, nameL_len]
  have n0 : nameL a0 ≠ [] := by unfold nameL; simp
  obtain ⟨x, hx⟩ : ∃ x : ByteArray, x = ((a ++ ⟨#[32]⟩) ++ b) ++ ⟨#[32, 120]⟩ := ⟨_, rfl⟩
  have lx : x.data.toList = a.data.toList ++ 32 :: (b.data.toList ++ [32, 120]) := by rw [hx, ba_app, ba_app, ba_app]; simp
  have zx : x.size = a.size + b.size + 3 := by rw [size_list, lx, List.length_append, List.length_cons, List.length_append, ← size_list, ← size_list, List.length_cons, List.length_singleton]; omega
  have hr1 : Ev (fun k => prop_Read.f k v x 0 a3) (prop_Read.wrong ((a.size : Int) + 1)) := by
    cases a4
    · rw [if_neg (by decide)] at la lb za
      rw [za, show ((a0.size + 2 : Nat) : Int) + 1 = ((nameL a0).length : Int) + 2 from by rw [nameL_len]; omega]
      exact twice_anchors v a3 x (nameL a0) [] (nameL a1 ++ [32, 120]) (by rw [lx, la, lb]; simp) (by omega) n0 (nameL_all a0)
    · rw [if_pos rfl] at la lb za
      rw [za, show ((a0.size + 4 : Nat) : Int) + 1 = ((nameL a0).length : Int) + 4 from by rw [nameL_len]; omega]
      exact twice_tags v a3 x (nameL a0) (nameL a1 ++ [32, 120]) (by rw [lx, la, lb]; simp) (by omega) n0 (fun c hc => name_sign c (nameL_all a0 c hc))
  obtain ⟨KR, hR⟩ := hr1.rounds
  have fin : ∀ q ∈ bads, (∀ w, (Instr.index 45 (.agg #[.string ⟨#[38]⟩, .string ⟨#[33, 60]⟩, .string ⟨#[38, 97, 58]⟩, .string ⟨#[38, 97, 42]⟩, .string ⟨#[33, 60, 120, 62, 120]⟩]) (.int .u8 (a5 % 5))).run Try.prog w = .ok (.string q.1) w) →
      (∀ w, (Instr.index 9 (.string q.1) (.int .i64 0)).run Try.prog w = .ok (.int .u8 q.2.2) w) → q.1.size ≤ 10 ∧ 0 < q.1.size → (q.2.2 = 33 ∧ q.2.1 = ⟨#[38, 121]⟩ ∨ q.2.2 = 38 ∧ q.2.1 = ⟨#[33, 121]⟩) →
      Calls Try.prog 5 #[.string a0, .string a1, .bool a2, .bool a3, .bool a4, .int .u8 a5] w fun e w' => e = .returned (.bool true) ∧ Below w.heap.size w w' := by
    intro q hq hix hi0 hz ho
    obtain ⟨b2, b3⟩ := bad_all v hvv a3 q hq
    exact targumlaw21_PropTwice.walk a0 a1 m0 m1 a b q.1 q.2.1 a2 a3 a4 a5 v q.2.2 w cK (fun w => targumhelp_Version.calls a2 v w hv) (fun w => targumlaw21_name.calls K0 a0 m0 w hK0) (fun w => targumlaw21_name.calls K1 a1 m1 w hK1)
      (by omega) (by omega) (by omega) (by omega) hw.1 hw.2 hz.1 hz.2 (by rw [za]; split <;> omega) (by omega) (Lib.hid ha) (Lib.hid hb) hix hi0 ho
      (fun w => by rw [← hx]; exact prop_Read.calls KR v x 0 a3 _ _ _ _ _ _ _ _ _ _ _ _ w hR)
      (fun w => prop_Read.calls 30 v _ 0 a3 _ _ _ _ _ _ _ _ _ _ _ _ w b2)
      (fun w => prop_Read.calls 30 v _ 0 a3 _ _ _ _ _ _ _ _ _ _ _ _ w b3)
  have h5 : a5 % 5 = 0 ∨ a5 % 5 = 1 ∨ a5 % 5 = 2 ∨ a5 % 5 = 3 ∨ a5 % 5 = 4 := by omega
  rcases h5 with h5 | h5 | h5 | h5 | h5
  · exact fin (⟨#[38]⟩, ⟨#[33, 121]⟩, 38) (by simp [bads]) (fun w => by rw [h5]; kernel_rfl) (fun w => by kernel_rfl) (by decide) (.inr ⟨rfl, rfl⟩)
  · exact fin (⟨#[33, 60]⟩, ⟨#[38, 121]⟩, 33) (by simp [bads]) (fun w => by rw [h5]; kernel_rfl) (fun w => by kernel_rfl) (by decide) (.inl ⟨rfl, rfl⟩)
  · exact fin (⟨#[38, 97, 58]⟩, ⟨#[33, 121]⟩, 38) (by simp [bads]) (fun w => by rw [h5]; kernel_rfl) (fun w => by kernel_rfl) (by decide) (.inr ⟨rfl, rfl⟩)
  · exact fin (⟨#[38, 97, 42]⟩, ⟨#[33, 121]⟩, 38) (by simp [bads]) (fun w => by rw [h5]; kernel_rfl) (fun w => by kernel_rfl) (by decide) (.inr ⟨rfl, rfl⟩)
  · exact fin (⟨#[33, 60, 120, 62, 120]⟩, ⟨#[38, 121]⟩, 33) (by simp [bads]) (fun w => by rw [h5]; kernel_rfl) (fun w => by kernel_rfl) (by decide) (.inl ⟨rfl, rfl⟩)
end Go.Proofs.Ytaoameejkpipcaa.Q
