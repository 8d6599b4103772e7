/- The plain law of properties: the program and the reference read the same properties, the same alias. No condition but sizes. -/
import Derived.Test.YtaoameejkpipcaaProps
namespace Go.Proofs.Ytaoameejkpipcaa.Q
open Go Go.RowKit Go.Proofs.YtaoameejkpipcaaW.PrintWords Go.Proofs.YtaoameejkpipcaaW.PrintLast Go.Proofs.YtaoameejkpipcaaW.PrintMore
set_option linter.unusedVariables false
set_option linter.unusedSimpArgs false

theorem specR_end (s : ByteArray) (n : Nat) (h : n < s.size) (hk : (specR s n).2.2.2.2 = true) : ∃ e : Nat, (specR s n).2.2.2.1 = (e : Int) ∧ n < e ∧ e ≤ s.size := by
  unfold specR at hk ⊢
  split at hk
  · rename_i hv
    rw [dif_pos hv]
    split at hk
    · rename_i h2
      rw [dif_pos h2]
      split at hk
      · cases hk
      · rename_i h3
        rw [if_neg h3]
        exact ⟨_, rfl, by omega, by omega⟩
    · cases hk
  · rename_i hv
    rw [dif_neg hv]
    split at hk
    · cases hk
    · rename_i h3
      rw [if_neg h3]
      have h1 := handAt_le s n h
      have h2 := run_le shortB s (n + handAt s n) (by omega)
      exact ⟨_, rfl, by omega, by omega⟩

structure PInv (p : prop_Read.St) (i0 i : Int) : Prop where
  no : p.has = false → p = prop_Read.zero ∧ i = i0
  anchor : p.anchor.toList = [] ↔ ¬ p.pname > 0

theorem ex_both {α : Type} {g f : Nat → Option α} {r : α} (h : Ev g r) (k : Ev f r) : ∃ r, Ev g r ∧ Ev f r := ⟨r, h, k⟩

theorem props_end (v : Int) (s : ByteArray) (flow : Bool) (i0 : Int) (p : prop_Read.St) (i : Int) (hI : PInv p i0 i) :
    Ev (fun k => targumref17_Props.j1 k v s i0 flow i false p.has p.tagged p.verb p.handle p.suffix p.anchor (if p.has = true then p.pat else i0) p.pend p.pname) (p.out i) := by
  refine Ev.step (fun k => by rw [targumref17_Props.j1]) (ev_if_neg (by decide) ?_)
  by_cases hh : p.has = true
  · refine ev_if_pos hh ?_
    rw [if_pos hh]
    exact Ev.now _
  · refine ev_if_neg hh ?_
    obtain ⟨rfl, rfl⟩ := hI.no (by simpa using hh)
    exact Ev.now _

theorem props_loop (v : Int) (s : ByteArray) (flow : Bool) (i0 : Int) (hs : s.size ≤ 1000000) : ∀ (d : Nat) (p : prop_Read.St) (i : Int), ((s.size : Int) - i).toNat < d → PInv p i0 i →
    ∃ r : prop_Read.R, Ev (fun k => prop_Read.l0 k v s flow p i) r ∧ Ev (fun k => targumref17_Props.l0 k v s i0 flow i p.has p.tagged p.verb p.handle p.suffix p.anchor (if p.has = true then p.pat else i0) p.pend p.pname) r := by
  intro d
  induction d with
  | zero => intro p i h; omega
  | succ d ih =>
    intro p i hd hI
    -- behind a property: a stop, blanks, the next one
    have both : ∀ (q : prop_Read.St) (n e : Nat), n < e → e ≤ s.size → i = n → q.has = p.has → q.pat = p.pat → (q.anchor.toList = [] ↔ ¬ q.pname > 0) →
        ∃ r : prop_Read.R, Ev (fun k => prop_Read.both k v s flow (prop_Read.l0 k v s flow) q n e true) r ∧
          Ev (fun k => targumref17_Props.j2 k v s i0 flow e p.has q.tagged q.verb q.handle q.suffix q.anchor (if p.has = true then p.pat else i0) p.pend q.pname 11 n) r := by
      intro q n e hne hes hin hqh hqp hqa
      have st := stop_prog v s (e : Int) flow (by omega) (by omega)
      have sr := stop_ref v s (e : Int) flow (by omega) (by omega)
      cases hst : stopB v s (e : Int) flow
      · rw [hst] at st sr
        refine ex_both (r := prop_Read.wrong n) ?_ ?_
        · unfold prop_Read.both
          refine ev_if_pos rfl ?_
          rw [st]
          exact Ev.bind (Ev.now _) (ev_if_neg (by decide) (Ev.now _))
        · refine Ev.step (fun k => by rw [targumref17_Props.j2]) ?_
          exact Ev.bind sr (ev_if_neg (by decide) (Ev.now _))
      · rw [hst] at st sr
        have ho := overN_le s e hes
        obtain ⟨r, h1, h2⟩ := ih { q with has := true, pat := if q.has = true then q.pat else (n : Int), pend := (e : Int) } ((overN s e : Nat) : Int) (by omega) ⟨(fun h => by cases h), hqa⟩
        refine ⟨r, ?_, ?_⟩
        · unfold prop_Read.both
          refine ev_if_pos rfl ?_
          rw [st]
          refine Ev.bind (Ev.now _) (ev_if_pos rfl (Ev.bind ?_ h1))
          unfold rows_Over.f
          exact over_prog s (by omega) s.size e (by omega)
        · refine Ev.step (fun k => by rw [targumref17_Props.j2]) ?_
          refine Ev.bind sr (ev_if_pos rfl (Ev.bind (a := ((overN s e : Nat) : Int)) ?_ ?_))
          · unfold targumref17_over.f
            exact over_ref s (by omega) s.size e (by omega)
          · have e1 : (if q.has = true then q.pat else (n : Int)) = (if p.has = true then p.pat else i0) := by
              rw [hqh, hqp]
              by_cases hh : p.has = true
              · rw [if_pos hh, if_pos hh]
              · rw [if_neg hh, if_neg hh, ← hin]
                exact (hI.no (by simpa using hh)).2
            rw [if_pos rfl, e1] at h2
            exact h2
    by_cases h1 : i < 0 ∨ i ≥ (s.size : Int)
    · refine ⟨p.out i, Ev.step (fun k => by rw [prop_Read.l0]) (ev_if_pos h1 (Ev.now _)), ?_⟩
      refine Ev.step (fun k => by rw [targumref17_Props.l0]) ?_
      rcases h1 with h1 | h1
      · exact ev_if_neg (by omega) (props_end v s flow i0 p i hI)
      · by_cases h2 : i ≥ 0
        · exact ev_if_pos h2 (ev_if_neg (by omega) (props_end v s flow i0 p i hI))
        · exact ev_if_neg h2 (props_end v s flow i0 p i hI)
    · obtain ⟨n, rfl⟩ : ∃ n : Nat, i = n := ⟨i.toNat, by omega⟩
      have hn : n < s.size := by omega
      have hbt := bt_nat s n hn
      by_cases h33 : s[n] = 33
      · have f33 : bt s (n : Int) = 33 := by rw [hbt]; exact (byte_eq (s[n]) 33).2 h33
        have pr := read_at s n hs hn h33
        have rr := ref_at s n hs hn h33
        by_cases ht : p.tagged = true
        · refine ⟨prop_Read.wrong n, Ev.step (fun k => by rw [prop_Read.l0]) (ev_if_neg h1 (ev_if_pos f33 (ev_if_pos ht (Ev.now _)))), ?_⟩
          refine Ev.step (fun k => by rw [targumref17_Props.l0]) (ev_if_pos (by omega) (ev_if_pos (by omega) (ev_if_pos (by omega) (ev_if_pos f33 ?_))))
          refine Ev.step (fun k => by rw [targumref17_Props.j1]) (ev_if_pos rfl (ev_if_pos (by omega) (ev_if_pos (by omega) (ev_if_pos f33 ?_))))
          exact Ev.bind rr (ev_if_pos ht (Ev.now _))
        · cases hok : (specR s n).2.2.2.2
          · refine ⟨prop_Read.wrong n, Ev.step (fun k => by rw [prop_Read.l0]) (ev_if_neg h1 (ev_if_pos f33 (ev_if_neg ht ?_))), ?_⟩
            · rw [pr]
              refine Ev.bind (Ev.now _) ?_
              unfold prop_Read.both
              exact ev_if_neg (by rw [hok]; decide) (Ev.now _)
            · refine Ev.step (fun k => by rw [targumref17_Props.l0]) (ev_if_pos (by omega) (ev_if_pos (by omega) (ev_if_pos (by omega) (ev_if_pos f33 ?_))))
              refine Ev.step (fun k => by rw [targumref17_Props.j1]) (ev_if_pos rfl (ev_if_pos (by omega) (ev_if_pos (by omega) (ev_if_pos f33 ?_))))
              exact Ev.bind rr (ev_if_neg ht (ev_if_neg (by rw [hok]; decide) (Ev.now _)))
          · obtain ⟨e, he, hne, hes⟩ := specR_end s n hn hok
            obtain ⟨r, b1, b2⟩ := both { p with tagged := true, verb := (specR s n).1, handle := (specR s n).2.1, suffix := (specR s n).2.2.1 } n e hne hes rfl rfl rfl hI.anchor
            refine ⟨r, Ev.step (fun k => by rw [prop_Read.l0]) (ev_if_neg h1 (ev_if_pos f33 (ev_if_neg ht ?_))), ?_⟩
            · rw [pr]
              refine Ev.bind (Ev.now _) ?_
              rw [he, hok]
              exact b1
            · refine Ev.step (fun k => by rw [targumref17_Props.l0]) (ev_if_pos (by omega) (ev_if_pos (by omega) (ev_if_pos (by omega) (ev_if_pos f33 ?_))))
              refine Ev.step (fun k => by rw [targumref17_Props.j1]) (ev_if_pos rfl (ev_if_pos (by omega) (ev_if_pos (by omega) (ev_if_pos f33 ?_))))
              refine Ev.bind rr (ev_if_neg ht (ev_if_pos hok ?_))
              rw [he]
              exact b2
      · have f33 : ¬ bt s (n : Int) = 33 := by rw [hbt]; exact fun h => h33 ((byte_eq (s[n]) 33).1 h)
        by_cases h38 : s[n] = 38
        · have f38 : bt s (n : Int) = 38 := by rw [hbt]; exact (byte_eq (s[n]) 38).2 h38
          have hl := nameN_le s (n + 1) (by omega)
          have np : Ev (fun k => prop_name.f k s ((n : Int) + 1)) ((nameN s (n + 1) : Nat) : Int) := by
            unfold prop_name.f
            rw [show (n : Int) + 1 = ((n + 1 : Nat) : Int) from by omega]
            exact name_prog s (by omega) s.size (n + 1) (by omega) (by omega)
          have nr : Ev (fun k => targumref17_name.f k s (wrap64 ((n : Int) + 1))) ((run nameB s (n + 1) : Nat) : Int) := by
            unfold targumref17_name.f
            rw [wrap_id (by omega) (by omega), show (n : Int) + 1 = ((n + 1 : Nat) : Int) from by omega]
            have := name_ref s (by omega) (n + 1) s.size 0 (by omega) (by omega)
            simpa using this
          have refgo : ∀ r : prop_Read.R, Ev (fun k => (targumref17_name.f k s (wrap64 ((n : Int) + 1))).bind fun t198 => (if p.pname > 0 then (some (false, false, false, (⟨#[]⟩ : ByteArray), (⟨#[]⟩ : ByteArray), (⟨#[]⟩ : ByteArray), 0, 0, 0, 0, 11, (n : Int))) else (if t198 = 0 then (some (false, false, false, (⟨#[]⟩ : ByteArray), (⟨#[]⟩ : ByteArray), (⟨#[]⟩ : ByteArray), 0, 0, 0, 0, 11, (n : Int))) else (if 0 ≤ (wrap64 ((n : Int) + 1)) then (if (wrap64 ((n : Int) + 1)) ≤ (wrap64 ((wrap64 ((n : Int) + 1)) + t198)) then (if (wrap64 ((wrap64 ((n : Int) + 1)) + t198)) ≤ (s.size : Int) then (targumref17_Props.j2 k v s i0 flow (wrap64 ((wrap64 ((n : Int) + 1)) + t198)) p.has p.tagged p.verb p.handle p.suffix (s.extract ((wrap64 ((n : Int) + 1)) : Int).toNat ((wrap64 ((wrap64 ((n : Int) + 1)) + t198)) : Int).toNat) (if p.has = true then p.pat else i0) p.pend (wrap64 ((n : Int) + 1)) 11 (n : Int)) else (none)) else (none)) else (none))))) r →
              Ev (fun k => targumref17_Props.l0 k v s i0 flow (n : Int) p.has p.tagged p.verb p.handle p.suffix p.anchor (if p.has = true then p.pat else i0) p.pend p.pname) r := by
            intro r h
            refine Ev.step (fun k => by rw [targumref17_Props.l0]) (ev_if_pos (by omega) (ev_if_pos (by omega) (ev_if_pos (by omega) (ev_if_neg f33 ?_))))
            rw [show (bt s (n : Int) == 38) = true from by rw [beq_iff_eq]; exact f38]
            exact Ev.step (fun k => by rw [targumref17_Props.j1]) (ev_if_pos rfl (ev_if_pos (by omega) (ev_if_pos (by omega) (ev_if_neg f33 h))))
          by_cases hp : p.pname > 0
          · have ha : ¬ p.anchor.toList = [] := fun h => hI.anchor.1 h hp
            refine ⟨prop_Read.wrong n, Ev.step (fun k => by rw [prop_Read.l0]) (ev_if_neg h1 (ev_if_neg f33 (ev_if_pos f38 (ev_if_neg ha (Ev.now _))))), ?_⟩
            exact refgo _ (Ev.bind nr (ev_if_pos hp (Ev.now _)))
          · have ha : p.anchor.toList = [] := hI.anchor.2 hp
            by_cases hz : run nameB s (n + 1) = 0
            · refine ⟨prop_Read.wrong n, Ev.step (fun k => by rw [prop_Read.l0]) (ev_if_neg h1 (ev_if_neg f33 (ev_if_pos f38 (ev_if_pos ha (Ev.bind np (ev_if_pos (show (n : Int) + 1 ≤ ((nameN s (n + 1) : Nat) : Int) ∧ ((nameN s (n + 1) : Nat) : Int) ≤ (s.size : Int) from ⟨by omega, by omega⟩) ?_)))))), ?_⟩
              · unfold prop_Read.both
                exact ev_if_neg (by unfold nameN; rw [hz, decide_eq_false (by omega)]; decide) (Ev.now _)
              · exact refgo _ (Ev.bind nr (ev_if_neg hp (ev_if_pos (by omega) (Ev.now _))))
            · have hne : n + 1 < nameN s (n + 1) := by unfold nameN; omega
              have e1 : wrap64 ((n : Int) + 1) = (n : Int) + 1 := wrap_id (by omega) (by omega)
              have e2 : wrap64 ((n : Int) + 1 + ((run nameB s (n + 1) : Nat) : Int)) = ((nameN s (n + 1) : Nat) : Int) := by
                rw [wrap_id (by unfold nameN at hl; omega) (by unfold nameN at hl; omega)]
                unfold nameN
                omega
              obtain ⟨r, b1, b2⟩ := both { p with anchor := s.extract (n + 1) (nameN s (n + 1)), pname := (n : Int) + 1 } n (nameN s (n + 1)) (by omega) hl.2 rfl rfl rfl ⟨fun h => by
                  exfalso
                  have e3 : (s.extract (n + 1) (nameN s (n + 1))).data.toList = [] := by rw [← Lib.toList_data]; exact h
                  have e4 : (s.extract (n + 1) (nameN s (n + 1))).data.toList.length = (s.extract (n + 1) (nameN s (n + 1))).size := by rw [Array.length_toList]; rfl
                  rw [e3] at e4
                  simp at e4
                  omega, fun h => by exfalso; apply h; show (n : Int) + 1 > 0; omega⟩
              refine ⟨r, Ev.step (fun k => by rw [prop_Read.l0]) (ev_if_neg h1 (ev_if_neg f33 (ev_if_pos f38 (ev_if_pos ha (Ev.bind np (ev_if_pos (show (n : Int) + 1 ≤ ((nameN s (n + 1) : Nat) : Int) ∧ ((nameN s (n + 1) : Nat) : Int) ≤ (s.size : Int) from ⟨by omega, by omega⟩) ?_)))))), ?_⟩
              · rw [decide_eq_true (by omega), show ((n : Int) + 1).toNat = n + 1 from by omega, Int.toNat_natCast]
                exact b1
              · refine refgo _ (Ev.bind nr (ev_if_neg hp (ev_if_neg (by omega) ?_)))
                rw [e1, e2, show ((n : Int) + 1).toNat = n + 1 from by omega, Int.toNat_natCast]
                exact ev_if_pos (by omega) (ev_if_pos (by omega) (ev_if_pos (by omega) b2))
        · have f38 : ¬ bt s (n : Int) = 38 := by rw [hbt]; exact fun h => h38 ((byte_eq (s[n]) 38).1 h)
          refine ⟨p.out n, Ev.step (fun k => by rw [prop_Read.l0]) (ev_if_neg h1 (ev_if_neg f33 (ev_if_neg f38 (Ev.now _)))), ?_⟩
          refine Ev.step (fun k => by rw [targumref17_Props.l0]) (ev_if_pos (by omega) (ev_if_pos (by omega) (ev_if_pos (by omega) (ev_if_neg f33 ?_))))
          rw [show (bt s (n : Int) == 38) = false from by rw [beq_eq_false_iff_ne]; exact f38]
          exact props_end v s flow i0 p n hI

theorem props_same (v : Int) (s : ByteArray) (i : Int) (flow : Bool) (hs : s.size ≤ 1000000) :
    ∃ r : prop_Read.R, Ev (fun k => prop_Read.f k v s i flow) r ∧ Ev (fun k => targumref17_Props.f k v s i flow) r := by
  obtain ⟨r, h1, h2⟩ := props_loop v s flow i hs (((s.size : Int) - i).toNat + 1) prop_Read.zero i (by omega) ⟨fun _ => ⟨rfl, rfl⟩, by decide +kernel⟩
  refine ⟨r, ?_, h2⟩
  unfold prop_Read.f
  exact ev_if_pos (by omega) h1

theorem clone_some (x : ByteArray) (h : x.size ≤ 281474976710656) : strings_Clone.f x = some x := by
  unfold strings_Clone.f stringslite_Clone.f
  rw [if_pos h]
  rfl

theorem alias_same (v : Int) (s : ByteArray) (i : Int) (flow : Bool) (hs : s.size ≤ 1000000) :
    ∃ r : ByteArray × Int × Bool, Ev (fun k => prop_Alias.f k v s i flow) r ∧ Ev (fun k => targumref17_Alias.f k v s i flow) r := by
  by_cases hc : 0 ≤ i ∧ i < (s.size : Int) ∧ bt s i = 42
  · obtain ⟨h0, h1, h2⟩ := hc
    obtain ⟨n, rfl⟩ : ∃ n : Nat, i = n := ⟨i.toNat, by omega⟩
    have hn : n < s.size := by omega
    have hl := nameN_le s (n + 1) (by omega)
    have e1 : wrap64 ((n : Int) + 1) = (n : Int) + 1 := wrap_id (by omega) (by omega)
    have np : Ev (fun k => prop_name.f k s ((n : Int) + 1)) ((nameN s (n + 1) : Nat) : Int) := by
      unfold prop_name.f
      rw [show (n : Int) + 1 = ((n + 1 : Nat) : Int) from by omega]
      exact name_prog s (by omega) s.size (n + 1) (by omega) (by omega)
    have nr : Ev (fun k => targumref17_name.f k s ((n : Int) + 1)) ((run nameB s (n + 1) : Nat) : Int) := by
      unfold targumref17_name.f
      rw [show (n : Int) + 1 = ((n + 1 : Nat) : Int) from by omega]
      have := name_ref s (by omega) (n + 1) s.size 0 (by omega) (by omega)
      simpa using this
    have prog : ∀ r, Ev (fun k => prop_Alias.j0 k v s (n : Int) flow false) r → Ev (fun k => prop_Alias.f k v s (n : Int) flow) r := by
      intro r h
      unfold prop_Alias.f
      refine ev_if_neg (by omega) (ev_if_neg (by omega) (ev_if_pos (by omega) (ev_if_pos (by omega) ?_)))
      rw [show (bt s (n : Int) != 42) = false from by rw [bne_eq_false_iff_eq]; exact h2]
      exact h
    by_cases hz : run nameB s (n + 1) = 0
    · refine ex_both (r := (⟨#[]⟩, 0, false)) (prog _ (Ev.step (fun k => by rw [prop_Alias.j0]) (ev_if_neg (by decide) ?_))) ?_
      · rw [e1]
        exact Ev.bind np (ev_if_pos (by unfold nameN; omega) (Ev.now _))
      · unfold targumref17_Alias.f
        exact ev_if_pos (by omega) (ev_if_pos ⟨h0, h1, h2⟩ (Ev.bind nr (ev_if_pos (by omega) (Ev.now _))))
    · have e2 : (n : Int) + 1 + ((run nameB s (n + 1) : Nat) : Int) = ((nameN s (n + 1) : Nat) : Int) := by unfold nameN; omega
      have e3 : ((n : Int) + 1).toNat = n + 1 := by omega
      have st := stop_prog v s ((nameN s (n + 1) : Nat) : Int) flow (by omega) (by omega)
      have sr := stop_ref v s ((nameN s (n + 1) : Nat) : Int) flow (by omega) (by omega)
      have hcl := clone_some (s.extract (n + 1) (nameN s (n + 1))) (by simp; omega)
      have ref : ∀ r, Ev (fun k => (targumref17_Stop.f k v s ((nameN s (n + 1) : Nat) : Int) flow).bind fun st =>
            if st = true then some (s.extract (n + 1) (nameN s (n + 1)), ((nameN s (n + 1) : Nat) : Int), true)
            else if ((nameN s (n + 1) : Nat) : Int) < (s.size : Int) then
              (if bt s ((nameN s (n + 1) : Nat) : Int) = 58 then some (s.extract (n + 1) (nameN s (n + 1)), ((nameN s (n + 1) : Nat) : Int), true) else some (⟨#[]⟩, 0, false))
            else none) r → Ev (fun k => targumref17_Alias.f k v s (n : Int) flow) r := by
        intro r h
        unfold targumref17_Alias.f
        refine ev_if_pos (by omega) (ev_if_pos ⟨h0, h1, h2⟩ (Ev.bind nr (ev_if_neg (by omega) ?_)))
        rw [e2, e3, Int.toNat_natCast]
        exact ev_if_pos ⟨by omega, by omega⟩ h
      have progt : ∀ r, Ev (fun k => (rows_Stop.f v s ((nameN s (n + 1) : Nat) : Int) flow).bind fun t115 => (if t115 = true then (if 0 ≤ ((n : Int) + 1) then (if ((n : Int) + 1) ≤ ((nameN s (n + 1) : Nat) : Int) then (if ((nameN s (n + 1) : Nat) : Int) ≤ (s.size : Int) then ((strings_Clone.f (s.extract (((n : Int) + 1) : Int).toNat (((nameN s (n + 1) : Nat) : Int) : Int).toNat)).bind fun t116 => (some (t116, ((nameN s (n + 1) : Nat) : Int), true))) else (none)) else (none)) else (none)) else (if 0 ≤ ((nameN s (n + 1) : Nat) : Int) then (if ((nameN s (n + 1) : Nat) : Int) < (s.size : Int) then (if (bt s ((nameN s (n + 1) : Nat) : Int)) = 58 then (if 0 ≤ ((n : Int) + 1) then (if ((n : Int) + 1) ≤ ((nameN s (n + 1) : Nat) : Int) then (if ((nameN s (n + 1) : Nat) : Int) ≤ (s.size : Int) then ((strings_Clone.f (s.extract (((n : Int) + 1) : Int).toNat (((nameN s (n + 1) : Nat) : Int) : Int).toNat)).bind fun t117 => (some (t117, ((nameN s (n + 1) : Nat) : Int), true))) else (none)) else (none)) else (none)) else (some ((⟨#[]⟩ : ByteArray), 0, false))) else (none)) else (none)))) r → Ev (fun k => prop_Alias.f k v s (n : Int) flow) r := by
        intro r h
        refine prog _ (Ev.step (fun k => by rw [prop_Alias.j0]) (ev_if_neg (by decide) ?_))
        rw [e1]
        exact Ev.bind np (ev_if_neg (by unfold nameN; omega) h)
      have yes : Ev (fun _ => (if 0 ≤ ((n : Int) + 1) then (if ((n : Int) + 1) ≤ ((nameN s (n + 1) : Nat) : Int) then (if ((nameN s (n + 1) : Nat) : Int) ≤ (s.size : Int) then ((strings_Clone.f (s.extract (((n : Int) + 1) : Int).toNat (((nameN s (n + 1) : Nat) : Int) : Int).toNat)).bind fun t116 => (some (t116, ((nameN s (n + 1) : Nat) : Int), true))) else (none)) else (none)) else (none))) (s.extract (n + 1) (nameN s (n + 1)), ((nameN s (n + 1) : Nat) : Int), true) := by
        refine ev_if_pos (by omega) (ev_if_pos (by omega) (ev_if_pos (by omega) ?_))
        rw [e3, Int.toNat_natCast, hcl]
        exact Ev.now _
      cases hst : stopB v s ((nameN s (n + 1) : Nat) : Int) flow
      · rw [hst] at st sr
        have hlt : nameN s (n + 1) < s.size := by
          apply Nat.lt_of_not_le
          intro hle
          unfold stopB at hst
          rw [decide_eq_true (by omega)] at hst
          simp at hst
        by_cases h58 : bt s ((nameN s (n + 1) : Nat) : Int) = 58
        · refine ex_both (r := (s.extract (n + 1) (nameN s (n + 1)), ((nameN s (n + 1) : Nat) : Int), true)) (progt _ ?_) (ref _ ?_)
          · rw [st]
            exact Ev.bind (Ev.now _) (ev_if_neg (by decide) (ev_if_pos (by omega) (ev_if_pos (by omega) (ev_if_pos h58 yes))))
          · exact Ev.bind sr (ev_if_neg (by decide) (ev_if_pos (by omega) (ev_if_pos h58 (Ev.now _))))
        · refine ex_both (r := (⟨#[]⟩, 0, false)) (progt _ ?_) (ref _ ?_)
          · rw [st]
            exact Ev.bind (Ev.now _) (ev_if_neg (by decide) (ev_if_pos (by omega) (ev_if_pos (by omega) (ev_if_neg h58 (Ev.now _)))))
          · exact Ev.bind sr (ev_if_neg (by decide) (ev_if_pos (by omega) (ev_if_neg h58 (Ev.now _))))
      · rw [hst] at st sr
        refine ex_both (r := (s.extract (n + 1) (nameN s (n + 1)), ((nameN s (n + 1) : Nat) : Int), true)) (progt _ ?_) (ref _ ?_)
        · rw [st]
          exact Ev.bind (Ev.now _) (ev_if_pos rfl yes)
        · exact Ev.bind sr (ev_if_pos rfl (Ev.now _))
  · refine ex_both (r := (⟨#[]⟩, 0, false)) ?_ ?_
    · have j : Ev (fun k => prop_Alias.j0 k v s i flow true) ((⟨#[]⟩, 0, false) : ByteArray × Int × Bool) := Ev.step (fun k => by rw [prop_Alias.j0]) (ev_if_pos rfl (Ev.now _))
      unfold prop_Alias.f
      by_cases h0 : i < 0
      · exact ev_if_pos h0 j
      · refine ev_if_neg h0 ?_
        by_cases h1 : i ≥ (s.size : Int)
        · exact ev_if_pos h1 j
        · refine ev_if_neg h1 (ev_if_pos (by omega) (ev_if_pos (by omega) ?_))
          rw [show (bt s i != 42) = true from by rw [bne_iff_ne]; exact fun h => hc ⟨by omega, by omega, h⟩]
          exact j
    · unfold targumref17_Alias.f
      exact ev_if_pos (by omega) (ev_if_neg hc (Ev.now _))
end Go.Proofs.Ytaoameejkpipcaa.Q
