/- The plain law of an alias and of names, told over lists of bytes: what stands at the text's begin. No condition but sizes. -/
import Derived.Test.YtaoameejkpipcaaProps
import Derived.Test.YtaoameejkpipcaaNames
namespace Go.Proofs.Ytaoameejkpipcaa.Q
open Go Go.RowKit Go.Proofs.YtaoameejkpipcaaW.PrintWords Go.Proofs.YtaoameejkpipcaaW.PrintLast Go.Proofs.YtaoameejkpipcaaW.PrintMore
set_option linter.unusedVariables false
set_option linter.unusedSimpArgs false

theorem rowN_append (p : UInt8 → Bool) (r : List UInt8) : ∀ l : List UInt8, (∀ c ∈ l, p c = true) → rowN p (l ++ r) = l.length + rowN p r
  | [], _ => by simp
  | c :: l, h => by
    rw [List.cons_append, rowN, if_pos (h c (by simp)), rowN_append p r l (fun c hc => h c (by simp [hc]))]
    simp
    omega

theorem rowN_stop (p : UInt8 → Bool) (r : List UInt8) (h : ∀ c ∈ r.head?, p c = false) : rowN p r = 0 := by
  cases r with
  | nil => rfl
  | cons c l => rw [rowN, if_neg (by rw [h c (by simp)]; decide)]

theorem extract_list (s : ByteArray) (a b : Nat) : (s.extract a b).data.toList = (s.data.toList.drop a).take (b - a) := by
  rw [ByteArray.data_extract, Array.toList_extract, List.extract_eq_take_drop]

theorem ba_ext {a b : ByteArray} (h : a.data.toList = b.data.toList) : a = b := by
  cases a; cases b
  simp only [ByteArray.mk.injEq]
  exact Array.toList_inj.1 h

theorem size_list (s : ByteArray) : s.size = s.data.toList.length := by rw [Array.length_toList]; rfl

/-- Is a stop where these bytes begin? -/
def stopL (old : Bool) (flow : Bool) : List UInt8 → Bool
  | [] => true
  | c :: l => (c == 32 || c == 9) || decide (0 < brkL old (c :: l)) || (flow && (c == 44 || c == 91 || c == 93 || c == 123 || c == 125))

theorem stopB_list (v : Int) (s : ByteArray) (n : Nat) (flow : Bool) (h : n ≤ s.size) : stopB v s (n : Int) flow = stopL (v == 11) flow (s.data.toList.drop n) := by
  unfold stopB
  by_cases hn : n < s.size
  · rw [decide_eq_false (by omega), Int.toNat_natCast, drop_cons s n hn, stopL, ← flow_bt s n hn]
    have hb : blankB s (n : Int) = (s[n] == 32 || s[n] == 9) := by
      rw [Bool.eq_iff_iff, blankB_nat]
      simp only [Bool.or_eq_true, beq_iff_eq]
      exact ⟨fun ⟨_, h⟩ => h, fun h => ⟨hn, h⟩⟩
    rw [hb]
    simp
  · have hd : s.data.toList.drop n = [] := List.drop_eq_nil_of_le (by rw [← size_list]; omega)
    rw [decide_eq_true (by omega), hd]
    simp [stopL]

theorem bt_list (s : ByteArray) (n : Nat) (c : UInt8) (l : List UInt8) (h : s.data.toList.drop n = c :: l) : n < s.size ∧ bt s (n : Int) = (c.toNat : Int) := by
  have hn : n < s.size := by
    apply Nat.lt_of_not_le
    intro hle
    rw [List.drop_eq_nil_of_le (by rw [← size_list]; exact hle)] at h
    cases h
  refine ⟨hn, ?_⟩
  rw [bt_nat s n hn]
  rw [drop_cons s n hn] at h
  rw [(List.cons.inj h).1]

/-- What stands behind a name lets it be an alias. -/
def aliasL (old flow : Bool) (r : List UInt8) : Bool := stopL old flow r || decide (r.head? = some 58)

theorem alias_list (v : Int) (flow : Bool) (x : ByteArray) (nm r : List UInt8) (hx : x.data.toList = 42 :: (nm ++ r)) (hs : x.size ≤ 1000) (hn : nm ≠ []) (hall : ∀ c ∈ nm, nameB c = true) (hr : ∀ c ∈ r.head?, nameB c = false) :
    Ev (fun k => prop_Alias.f k v x 0 flow) (if aliasL (v == 11) flow r = true then (⟨nm.toArray⟩, ((1 + nm.length : Nat) : Int), true) else (⟨#[]⟩, 0, false)) := by
  have hsz : x.size = 1 + nm.length + r.length := by rw [size_list, hx]; simp; omega
  have hl : 0 < nm.length := List.length_pos_iff.2 hn
  have d1 : x.data.toList.drop 1 = nm ++ r := by rw [hx]; rfl
  have hrun : run nameB x 1 = nm.length := by unfold run; rw [d1, rowN_append _ _ _ hall, rowN_stop _ _ hr]; rfl
  have hN : nameN x 1 = 1 + nm.length := by unfold nameN; rw [hrun]
  have dN : x.data.toList.drop (1 + nm.length) = r := by rw [← List.drop_drop, d1]; simp
  have np : Ev (fun k => prop_name.f k x 1) ((1 + nm.length : Nat) : Int) := by
    rw [← hN]
    exact name_prog x (by omega) x.size 1 (by omega) (by omega)
  have h42 := bt_list x 0 42 _ (by rw [List.drop_zero]; exact hx)
  have st := stop_prog v x ((1 + nm.length : Nat) : Int) flow (by omega) (by omega)
  rw [stopB_list v x _ flow (by omega), dN] at st
  have ex : x.extract 1 (1 + nm.length) = ⟨nm.toArray⟩ := ba_ext (by rw [extract_list, d1]; simp)
  have hcl : strings_Clone.f (x.extract 1 (1 + nm.length)) = some ⟨nm.toArray⟩ := by
    unfold strings_Clone.f stringslite_Clone.f
    rw [if_pos (by simp; omega), ex]
    rfl
  unfold prop_Alias.f
  refine ev_if_neg (by omega) (ev_if_neg (by omega) (ev_if_pos (by omega) (ev_if_pos (by omega) ?_)))
  rw [show (bt x 0 != 42) = false from by rw [bne_eq_false_iff_eq]; exact h42.2]
  refine Ev.step (fun k => by rw [prop_Alias.j0]) (ev_if_neg (by decide) ?_)
  rw [show wrap64 (0 + 1) = 1 from wrap_id (by omega) (by omega)]
  refine Ev.bind np (ev_if_neg (by omega) ?_)
  rw [st]
  have yes : Ev (fun _ => (if 0 ≤ (1 : Int) then (if (1 : Int) ≤ ((1 + nm.length : Nat) : Int) then (if ((1 + nm.length : Nat) : Int) ≤ (x.size : Int) then ((strings_Clone.f (x.extract (1 : Int).toNat ((1 + nm.length : Nat) : Int).toNat)).bind fun t116 => (some (t116, ((1 + nm.length : Nat) : Int), true))) else (none)) else (none)) else (none) : Option (ByteArray × Int × Bool))) ((⟨nm.toArray⟩ : ByteArray), ((1 + nm.length : Nat) : Int), true) := by
    refine ev_if_pos (by omega) (ev_if_pos (by omega) (ev_if_pos (by omega) ?_))
    rw [show (1 : Int).toNat = 1 from rfl, Int.toNat_natCast, hcl]
    exact Ev.now _
  unfold aliasL
  cases hst : stopL (v == 11) flow r
  · refine Ev.bind (Ev.now _) (ev_if_neg (by decide) (ev_if_pos (by omega) ?_))
    cases r with
    | nil => cases hst
    | cons c l =>
      have hc := bt_list x (1 + nm.length) c l dN
      refine ev_if_pos (by omega) ?_
      rw [hc.2, List.head?_cons]
      by_cases h58 : c = 58
      · subst h58
        exact ev_if_pos (by decide) (by simpa using yes)
      · rw [decide_eq_false (by simpa using h58)]
        exact ev_if_neg (fun h => h58 ((byte_eq c 58).1 h)) (Ev.now _)
  · exact Ev.bind (Ev.now _) (ev_if_pos rfl yes)

/-- A sign of a name, of a number. -/
def sgnB (c : UInt8) : UInt8 := [97, 98, 99, 120, 121, 122, 65, 66, 67, 88, 89, 90, 48, 49, 50, 51, 52, 53, 54, 55, 56, 57, 45, 95].getD (c.toNat % 24) 0
theorem sgnB_name (c : UInt8) : nameB (sgnB c) = true := all_bytes (p := fun c => nameB (sgnB c) = true) (by decide +kernel) c
def sgns : ByteArray := ⟨#[97, 98, 99, 120, 121, 122, 65, 66, 67, 88, 89, 90, 48, 49, 50, 51, 52, 53, 54, 55, 56, 57, 45, 95]⟩
theorem sgnB_at (c : UInt8) : (sgns.extract (c.toNat % 24) (c.toNat % 24 + 1)).data.toList = [sgnB c] := all_bytes (p := fun c => (sgns.extract (c.toNat % 24) (c.toNat % 24 + 1)).data.toList = [sgnB c]) (by decide +kernel) c

/-- The name of a seed. -/
def nameL (s : ByteArray) : List UInt8 := 113 :: s.data.toList.map sgnB
theorem nameL_all (s : ByteArray) : ∀ c ∈ nameL s, nameB c = true := by
  intro c hc
  rcases List.mem_cons.1 hc with rfl | hc
  · decide
  · obtain ⟨d, _, rfl⟩ := List.mem_map.1 hc
    exact sgnB_name d
theorem nameL_len (s : ByteArray) : (nameL s).length = s.size + 1 := by unfold nameL; rw [List.length_cons, List.length_map, ← size_list]

theorem name_loop (s : ByteArray) (hs : s.size ≤ 1000) : ∀ (d n : Nat), s.size - n = d → n ≤ s.size →
    Ev (fun k => targumlaw21_name.l0 k s ⟨(113 :: (s.data.toList.take n).map sgnB).toArray⟩ (n : Int)) ⟨(nameL s).toArray⟩ := by
  intro d
  induction d with
  | zero =>
    intro n h1 h2
    obtain rfl : n = s.size := by omega
    refine Ev.step (fun k => by rw [targumlaw21_name.l0]) (ev_if_neg (by omega) ?_)
    rw [List.take_of_length_le (by rw [← size_list]; omega)]
    exact Ev.now _
  | succ d ih =>
    intro n h1 h2
    have hn : n < s.size := by omega
    have hb := bt_nat s n hn
    have hlt : (s[n]).toNat < 256 := UInt8.toNat_lt s[n]
    have c1 : (n : Int) < (s.size : Int) := by omega
    have c2 : 0 ≤ (n : Int) := by omega
    have c3 : 0 ≤ (((s[n]).toNat % 24 : Nat) : Int) := by omega
    have c4 : (((s[n]).toNat % 24 : Nat) : Int) ≤ (((s[n]).toNat % 24 + 1 : Nat) : Int) := by omega
    have c5 : (((s[n]).toNat % 24 + 1 : Nat) : Int) ≤ 24 := by omega
    have ihn := ih (n + 1) (by omega) (by omega)
    have e4 : wrap64 ((n : Int) + 1) = ((n + 1 : Nat) : Int) := by rw [wrap_id (by omega) (by omega)]; omega
    have e1 : wrap64 (bt s (n : Int)) = ((s[n]).toNat : Int) := by rw [hb]; exact wrap_id (by omega) (by omega)
    have e2 : Int.tmod ((s[n]).toNat : Int) 24 = (((s[n]).toNat % 24 : Nat) : Int) := by rw [Int.tmod_eq_emod_of_nonneg (by omega)]; omega
    have e3 : wrap64 ((((s[n]).toNat % 24 : Nat) : Int) + 1) = (((s[n]).toNat % 24 + 1 : Nat) : Int) := by rw [wrap_id (by omega) (by omega)]; omega
    refine Ev.step (fun k => by rw [targumlaw21_name.l0]) (ev_if_pos c1 (ev_if_pos c2 ?_))
    rw [e1, e2, e3]
    refine ev_if_pos c3 (ev_if_pos c4 (ev_if_pos c5 ?_))
    rw [Int.toNat_natCast, Int.toNat_natCast, e4]
    have hx := sgnB_at s[n]
    have hsz : (sgns.extract ((s[n]).toNat % 24) ((s[n]).toNat % 24 + 1)).size = 1 := by rw [size_list, hx]; rfl
    have hcat : (⟨(113 :: (s.data.toList.take n).map sgnB).toArray⟩ : ByteArray) ++ sgns.extract ((s[n]).toNat % 24) ((s[n]).toNat % 24 + 1) = ⟨(113 :: (s.data.toList.take (n + 1)).map sgnB).toArray⟩ := by
      apply ba_ext
      rw [ByteArray.data_append, Array.toList_append, hx, List.take_succ_eq_append_getElem (by rw [← size_list]; exact hn)]
      simp
      rfl
    change Ev (fun k => if (⟨(113 :: (s.data.toList.take n).map sgnB).toArray⟩ : ByteArray).size + (sgns.extract ((s[n]).toNat % 24) ((s[n]).toNat % 24 + 1)).size ≤ 9223372036854775807 then targumlaw21_name.l0 k s ((⟨(113 :: (s.data.toList.take n).map sgnB).toArray⟩ : ByteArray) ++ sgns.extract ((s[n]).toNat % 24) ((s[n]).toNat % 24 + 1)) ((n + 1 : Nat) : Int) else none) _
    rw [hcat, hsz]
    clear hcat hsz hx e1 e2 e3 e4
    refine ev_if_pos ?_ ihn
    rw [size_list]
    simp
    omega

theorem name_ev (s : ByteArray) (hs : s.size ≤ 1000) : Ev (fun k => targumlaw21_name.f k s) ⟨(nameL s).toArray⟩ := name_loop s hs s.size 0 (by omega) (by omega)
end Go.Proofs.Ytaoameejkpipcaa.Q
