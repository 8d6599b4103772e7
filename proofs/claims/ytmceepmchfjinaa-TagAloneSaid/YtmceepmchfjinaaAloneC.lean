/- TagAlone: the early ways, and the contract. -/
import Derived.Test.YtmceepmchfjinaaAlone
namespace Go.Proofs.Ytmceepmchfjinaa.Q
open Go.RowKit Go.Proofs.YtmceepmchfjinaaW.PrintWords Go.Proofs.YtmceepmchfjinaaW.PrintLast Go.Proofs.YtmceepmchfjinaaW.PrintMore
set_option linter.unusedVariables false
set_option linter.unusedSimpArgs false

set_option maxHeartbeats 4000000 in
theorem TagAlone_early (a0 a2 : ByteArray) (A1 : Option Addr) (c1 : Nat) (l1 : List S39) (w : World)
    (cK : ∀ w, Calls Try.prog 7 #[] w fun e w' => e = .returned (.bool true) ∧ Below w.heap.size w w')
    (h : (a0.size : Int) > 30 ∨ (l1.length : Int) > 30) :
    Calls Try.prog 6 #[.string a0, .slice A1 l1.length c1, .string a2] w fun e w' => e = .returned (.bool true) ∧ Below w.heap.size w w' := by
  by_cases h0 : (30 : Int) < (a0.size : Int)
  · have d0 : decide (30 < (a0.size : Int)) = true := decide_eq_true h0
    clear h
    go_enter Try.func6, Try.ntmps6
    go_wp2_with (first | ((with_reducible refine (cK _).mono ?_); rintro e wk ⟨rfl, hbk⟩))
    go_ret
    exact ⟨rfl, hbk⟩
  · have d0 : decide (30 < (a0.size : Int)) = false := decide_eq_false h0
    have h1 : (30 : Int) < (l1.length : Int) := by omega
    have d1 : decide (30 < (l1.length : Int)) = true := decide_eq_true h1
    clear h
    go_enter Try.func6, Try.ntmps6
    go_wp2_with (first | ((with_reducible refine (cK _).mono ?_); rintro e wk ⟨rfl, hbk⟩))
    go_ret
    exact ⟨rfl, hbk⟩

theorem size_nil (x : ByteArray) : x.toList = [] ↔ x.size = 0 := by
  rw [ByteArray.toList_eq]
  constructor
  · intro h
    have := congrArg List.length h
    simpa using this
  · intro h
    apply List.eq_nil_of_length_eq_zero
    simpa using h

theorem targumlaw12_TagAlone.calls (k : Nat) (a0 : ByteArray) (A1 : Option Addr) (c1 : Nat) (l1 : List S39) (a2 : ByteArray) (r : Bool) (w : World) (hr1 : Kd.C k39 w A1 l1.length l1) (hc1 : l1.length ≤ c1) (h : targumlaw12_TagAlone.f k a0 l1 a2 = some r) :
    Calls Try.prog 6 #[.string a0, .slice A1 l1.length c1, .string a2] w fun e w' => e = .returned (.bool r) ∧ Below w.heap.size w w' := by
  unfold targumlaw12_TagAlone.f at h
  by_cases hk : targumlaw12_known.f = some true
  · rw [if_pos hk] at h
    have cK := fun w => targumlaw12_known.calls true w hk
    by_cases hs : (a0.size : Int) > 30 ∨ (l1.length : Int) > 30
    · rw [if_pos hs] at h
      obtain rfl := Option.some.inj h
      exact TagAlone_early a0 a2 A1 c1 l1 w cK hs
    · rw [if_neg hs] at h
      obtain ⟨x, hx, h⟩ := Option.bind_eq_some_iff.1 h
      by_cases hxs : x.size ≤ 1000
      · rw [if_pos hxs] at h
        obtain ⟨⟨b1, h1, u1, i1, o1⟩, hrd, h⟩ := Option.bind_eq_some_iff.1 h
        by_cases hc : b1 = false ∧ h1 = ⟨#[33]⟩ ∧ u1 = x ∧ i1 = 1 + (x.size : Int) ∧ o1 = true
        · rw [if_pos hc] at h
          obtain ⟨hc1_, hc2_, hc3_, hc4_, hc5_⟩ := hc
          subst hc1_
          subst hc2_
          subst hc3_
          subst hc4_
          subst hc5_
          unfold targumlaw12_TagAlone.core at h
          obtain ⟨⟨pa, pb⟩, hE, h⟩ := Option.bind_eq_some_iff.1 h
          obtain ⟨⟨qa, qb⟩, hE2, h⟩ := Option.bind_eq_some_iff.1 h
          by_cases hf : (pb = true ∧ qb = true ∧ a2.size + u1.size ≤ 1000000000000000 ∧ pa = (if u1.size = 0 then (⟨#[33]⟩ : ByteArray) else a2 ++ u1) ∧ qa = (⟨#[33]⟩ : ByteArray) ++ u1)
          · have h' : some true = some r := (if_pos hf).symm.trans h
            obtain ⟨f1, f2, f3, f4, f5⟩ := hf
            subst f1
            subst f2
            subst f5
            obtain rfl := Option.some.inj h'
            dsimp only at hE hE2
            have cE : ∀ (A : Option Addr) (n c : Nat) w, n = (l1 ++ [(⟨⟨#[33]⟩, a2⟩ : S39)]).length → Kd.C k39 w A n (l1 ++ [⟨⟨#[33]⟩, a2⟩]) → n ≤ c →
                Calls Try.prog 11 #[.agg #[.bool false, .string ⟨#[33]⟩, .string u1], .slice A n c] w fun e w' => e = .returned (.tuple #[.string pa, .bool true]) ∧ Below w.heap.size w w' := by
              intro A n c w hn hC hc
              subst hn
              revert hC hc hE
              generalize l1 ++ [(⟨⟨#[33]⟩, a2⟩ : S39)] = L
              intro hE hC hc
              exact tagname_Expand.calls false ⟨#[33]⟩ u1 A c L pa true w hC hc hE
            have cE2 : ∀ (A : Option Addr) (c : Nat) w, Kd.C k39 w A 1 [⟨⟨#[33, 33]⟩, a2⟩] → 1 ≤ c →
                Calls Try.prog 11 #[.agg #[.bool false, .string ⟨#[33]⟩, .string u1], .slice A 1 c] w fun e w' => e = .returned (.tuple #[.string ((⟨#[33]⟩ : ByteArray) ++ u1), .bool true]) ∧ Below w.heap.size w w' := by
              intro A c w hC hc
              exact tagname_Expand.calls false ⟨#[33]⟩ u1 A c [⟨⟨#[33, 33]⟩, a2⟩] ((⟨#[33]⟩ : ByteArray) ++ u1) true w hC hc hE2
            clear hE hE2 h
            refine TagAlone_walk a0 u1 a2 A1 c1 l1 w hr1 hc1 (by omega) (by omega) hxs f3 pa (u1.toList == []) rfl ?_ ?_ cK (fun w => targumlaw12_tagged.calls k a0 _ u1 w hx) (fun w => tagname_Read.calls _ _ _ _ _ _ _ w hrd) cE cE2
            · intro e
              have e0 := (size_nil u1).1 (beq_iff_eq.1 e)
              rw [if_pos e0] at f4
              have e1 : u1 = ⟨#[]⟩ := by
                apply ByteArray.ext
                exact Array.eq_empty_of_size_eq_zero e0
              subst e1
              subst f4
              exact ⟨by rw [ByteArray.toList_eq]; rfl, by rw [ByteArray.toList_eq]; rfl⟩
            · intro e
              rw [if_neg (fun e0 => by rw [(size_nil u1).2 e0] at e; simp at e)] at f4
              exact f4
          · have h' : (none : Option Bool) = some r := (if_neg hf).symm.trans h
            cases h'
        · rw [if_neg hc] at h
          cases h
      · rw [if_neg hxs] at h
        cases h
  · rw [if_neg hk] at h
    cases h
end Go.Proofs.Ytmceepmchfjinaa.Q
