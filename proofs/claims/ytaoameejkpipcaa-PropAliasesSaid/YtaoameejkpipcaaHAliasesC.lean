/- The law PropAliases answers true at every input, with what its callees tell. Conditions: sizes and numbers as the row gives them. -/
import Derived.Test.YtaoameejkpipcaaHAliases
import Derived.Test.YtaoameejkpipcaaAliasAt
import Derived.Test.YtaoameejkpipcaaQx3
import Derived.Test.YtaoameejkpipcaaQx5
namespace Go.Proofs.Ytaoameejkpipcaa.Q
open Go Go.RowKit Go.Proofs.YtaoameejkpipcaaW.PrintWords Go.Proofs.YtaoameejkpipcaaW.PrintLast Go.Proofs.YtaoameejkpipcaaW.PrintMore
set_option linter.unusedVariables false
set_option linter.unusedSimpArgs false

set_option maxRecDepth 100000 in
set_option maxHeartbeats 4000000 in
theorem targumlaw21_PropAliases.early (a0 : ByteArray) (a1 : Bool) (a2 : Int) (w : World)
    (cK : ∀ w, Calls Try.prog 7 #[] w fun e w' => e = .returned (.bool true) ∧ Below w.heap.size w w')
    (h : 40 < (a0.size : Int) ∨ a2 < 32 ∨ 126 < a2) :
    Calls Try.prog 6 #[.string a0, .bool a1, .int .u8 a2] w fun e w' => e = .returned (.bool true) ∧ Below w.heap.size w w' := by
  have H := Holds.nil w
  rcases h with h | h | h
  · have hd : decide ((40 : Int) < (a0.size : Int)) = true := decide_eq_true h
    go_enter Try.func6, Try.ntmps6
    go_wp2_with ((with_reducible refine (cK _).mono ?_); rintro e w' ⟨rfl, hb⟩; replace H := H.on hb; clear hb)
    go_ret
    exact ⟨rfl, H.below⟩
  · have hd : decide (a2 < 32) = true := decide_eq_true h
    go_enter Try.func6, Try.ntmps6
    go_wp2_with ((with_reducible refine (cK _).mono ?_); rintro e w' ⟨rfl, hb⟩; replace H := H.on hb; clear hb)
    all_goals
      go_ret
      exact ⟨rfl, H.below⟩
  · have hd : decide (126 < a2) = true := decide_eq_true h
    go_enter Try.func6, Try.ntmps6
    go_wp2_with ((with_reducible refine (cK _).mono ?_); rintro e w' ⟨rfl, hb⟩; replace H := H.on hb; clear hb)
    all_goals
      go_ret
      exact ⟨rfl, H.below⟩

theorem more_b (c : UInt8) : moreI (c.toNat : Int) = nameB c := all_bytes (p := fun c => moreI (c.toNat : Int) = nameB c) (by decide +kernel) c
theorem alias_one (c : UInt8) : ∀ old flow : Bool, 32 ≤ c.toNat → c.toNat ≤ 126 → aliasL old flow [c] = ((c == 32 || c == 58) || (flow && signI (c.toNat : Int))) :=
  all_bytes (p := fun c => ∀ old flow : Bool, 32 ≤ c.toNat → c.toNat ≤ 126 → aliasL old flow [c] = ((c == 32 || c == 58) || (flow && signI (c.toNat : Int)))) (by decide +kernel) c

def targumlaw21_PropAliases.f (k : Nat) (a0 : ByteArray) (a1 : Bool) (a2 : Int) : Option Bool :=
  if a0.size ≤ 140737488351232 ∧ (Lit.int .u8 a2).wf = true then some true else none
theorem targumlaw21_PropAliases.calls (k : Nat) (a0 : ByteArray) (a1 : Bool) (a2 : Int) (r : Bool) (w : World) (h : targumlaw21_PropAliases.f k a0 a1 a2 = some r) :
    Calls Try.prog 6 #[.string a0, .bool a1, .int .u8 a2] w fun e w' => e = .returned (.bool r) ∧ Below w.heap.size w w' := by
  unfold targumlaw21_PropAliases.f at h
  split at h
  case isFalse => cases h
  rename_i hs
  obtain ⟨h1, h2⟩ := hs
  obtain rfl := Option.some.inj h
  clear h
  have cK : ∀ w, Calls Try.prog 7 #[] w fun e w' => e = .returned (.bool true) ∧ Below w.heap.size w w' := fun w => targumlaw21_known.calls true w rfl
  by_cases he : 40 < (a0.size : Int) ∨ a2 < 32 ∨ 126 < a2
  · exact targumlaw21_PropAliases.early a0 a1 a2 w cK he
  obtain ⟨c, rfl⟩ : ∃ c : UInt8, a2 = (c.toNat : Int) := ⟨UInt8.ofNat a2.toNat, by rw [UInt8.toNat_ofNat']; omega⟩
  obtain ⟨v, hv⟩ : ∃ v, targumhelp_Version.f a1 = some v := by cases a1 <;> exact ⟨_, rfl⟩
  obtain ⟨K, hK⟩ := (name_ev a0 (by omega)).rounds
  obtain ⟨nm, hnm⟩ : ∃ nm : ByteArray, nm = ⟨(nameL a0).toArray⟩ := ⟨_, rfl⟩
  rw [← hnm] at hK
  have hnl : nm.data.toList = nameL a0 := by rw [hnm]
  have hns : nm.size = a0.size + 1 := by rw [size_list, hnl, nameL_len]
  obtain ⟨x, hx⟩ : ∃ x : ByteArray, x = ((⟨#[42]⟩ : ByteArray) ++ nm) ++ ⟨#[c]⟩ := ⟨_, rfl⟩
  obtain ⟨s, hs⟩ : ∃ s : ByteArray, s = (⟨#[42]⟩ : ByteArray) ++ nm := ⟨_, rfl⟩
  have hsl : s.data.toList = 42 :: nameL a0 := by rw [hs, ByteArray.data_append, Array.toList_append, hnl]; rfl
  have hxl : x.data.toList = 42 :: (nameL a0 ++ [c]) := by rw [hx, ← hs, ByteArray.data_append, Array.toList_append, hsl]; rfl
  have hss : s.size = a0.size + 2 := by rw [size_list, hsl, List.length_cons, nameL_len]
  have hxs : x.size = a0.size + 3 := by rw [size_list, hxl, List.length_cons, List.length_append, nameL_len]; rfl
  have hcon : ∀ flow : Bool, Ev (fun k => prop_Alias.f k v x 0 flow) (if nameB c = true then (x.extract 1 x.size, (x.size : Int), true) else if ((c == 32 || c == 58) || (flow && signI (c.toNat : Int))) = true then (s.extract 1 s.size, (s.size : Int), true) else (⟨#[]⟩, 0, false)) := by
    intro flow
    cases hm : nameB c
    · rw [if_neg (by decide), ← alias_one c (v == 11) flow (by omega) (by omega)]
      have := alias_list v flow x (nameL a0) [c] hxl (by omega) (by unfold nameL; simp) (nameL_all a0) (by intro d hd; simp at hd; rw [← hd]; exact hm)
      have e1 : s.extract 1 s.size = ⟨(nameL a0).toArray⟩ := ba_ext (by rw [extract_list, hsl, List.drop_one, List.tail_cons, List.take_of_length_le (by rw [nameL_len]; omega)])
      rw [e1, hss, show a0.size + 2 = 1 + (nameL a0).length from by rw [nameL_len]; omega]
      exact this
    · rw [if_pos rfl]
      have := alias_list v flow x (nameL a0 ++ [c]) [] (by rw [hxl]; simp) (by omega) (by simp) (by
        intro d hd
        rcases List.mem_append.1 hd with hd | hd
        · exact nameL_all a0 d hd
        · rw [List.mem_singleton.1 hd]; exact hm) (by intro d hd; cases hd)
      have e1 : x.extract 1 x.size = ⟨(nameL a0 ++ [c]).toArray⟩ := ba_ext (by rw [extract_list, hxl, List.drop_one, List.tail_cons, List.take_of_length_le (by rw [List.length_append, nameL_len, List.length_singleton]; omega)])
      rw [if_pos (by rfl)] at this
      rw [e1, hxs, show a0.size + 3 = 1 + (nameL a0 ++ [c]).length from by rw [List.length_append, nameL_len]; simp; omega]
      exact this
  obtain ⟨KA, hA⟩ := (hcon false).rounds
  obtain ⟨KB, hB⟩ := (hcon true).rounds
  rw [Bool.false_and, Bool.or_false] at hA
  rw [Bool.true_and] at hB
  clear hcon
  refine targumlaw21_PropAliases.walk a0 nm a1 c v w cK (fun w => targumhelp_Version.calls a1 v w hv) (fun w => targumlaw21_name.calls K a0 nm w hK) (by omega) (by omega) (by omega) (by omega)
    (nameB c) (signI (c.toNat : Int)) (c == 32 || c == 58) ((c == 32 || c == 58) || signI (c.toNat : Int)) (Lib.hid (more_b c)) (Lib.hid rfl) (Lib.hid (fun _ => ?_)) (Lib.hid (fun _ => rfl)) (fun w => ?_) (fun w => ?_)
  · rw [Bool.or_eq_true, beq_iff_eq, beq_iff_eq]
    exact or_congr (byte_eq c 32).symm (byte_eq c 58).symm
  · rw [← hs, hs, ← hx, ← hs]
    revert hA
    generalize (c == 32 || c == 58) = ok
    generalize nameB c = more
    cases more <;> cases ok <;> intro hA <;> exact prop_Alias.calls KA v x 0 false _ _ _ w hA
  · rw [← hs, hs, ← hx, ← hs]
    revert hB
    generalize ((c == 32 || c == 58) || signI (c.toNat : Int)) = ok
    generalize nameB c = more
    cases more <;> cases ok <;> intro hB <;> exact prop_Alias.calls KB v x 0 true _ _ _ w hB
end Go.Proofs.Ytaoameejkpipcaa.Q
