/- What the print doesn't take of package tagname: row at a function value, Expand over a map. -/
import Derived.Test.YtmceepmchfjinaaShelf
import Derived.Test.YtmceepmchfjinaaMaps
import Derived.WalkKit
import Derived.LoopTactic
import Derived.Outline
import Derived.Below
import Derived.Deep.LoopGhost
import Derived.Maps.OwnOps
namespace Go.Proofs.Ytmceepmchfjinaa
open Go.RowKit
set_option linter.unusedVariables false
set_option linter.unusedSimpArgs false

def handles (l : List (ByteArray × ByteArray)) : List (ByteArray × ByteArray) :=
  l.foldl (fun m p => putA p.1 p.2 m) [(⟨#[33]⟩, ⟨#[33]⟩), (⟨#[33, 33]⟩, ⟨#[116, 97, 103, 58, 121, 97, 109, 108, 46, 111, 114, 103, 44, 50, 48, 48, 50, 58]⟩)]

theorem handles_succ (l : List (ByteArray × ByteArray)) (k : Nat) (h : k < l.length) : handles (l.take (k + 1)) = putA (l[k]).1 (l[k]).2 (handles (l.take k)) := by
  unfold handles
  rw [List.take_succ_eq_append_getElem h, List.foldl_append]
  rfl

theorem cell_below {w w' : World} {p : Addr} {v : Value} (h : Below w.heap.size w w') (hc : w.cell? p = some v) : w'.cell? p = some v := by
  have hlt : p.block < w.heap.size := by
    unfold World.cell? at hc
    cases hh : w.heap[p.block]? with
    | none => rw [hh] at hc; cases hc
    | some o => exact (Array.getElem?_eq_some_iff.1 hh).1
  unfold World.cell? at hc ⊢
  rw [h.block _ hlt]
  exact hc

theorem expand_map (h s : ByteArray) (A : Option Addr) (c : Nat) (l : List (ByteArray × ByteArray)) (w : World) (hm : l.length ≤ 9223372036854775807)
    (hl : ∀ (i : Nat) (hi : i < l.length), ∃ ad, A = some ad ∧ w.cell? (ad.add (i * 2)) = some (.string (l[i]).1) ∧ w.cell? ⟨(ad.add (i * 2)).block, (ad.add (i * 2)).off + 1, none⟩ = some (.string (l[i]).2))
    (hh : (h.toList == [33] && s.toList.isEmpty) = false) (hsz : ∀ p, getA h (handles l) = some p → p.size + s.size ≤ 9223372036854775807) :
   Calls Try.prog 11 #[.agg #[.bool false, .string h, .string s], .slice A l.length c] w fun e w' => e = .returned (.tuple #[.string (((getA h (handles l)).map (· ++ s)).getD ⟨#[]⟩), .bool (getA h (handles l)).isSome]) ∧ Below w.heap.size w w' := by
  have hmm := @run_makeMap Try.prog
  have hkk := strKeys Try.underlying9
  have hmade := fun (W : World) (n : Nat) (h : n = W.heap.size) => (h ▸ MapRep.made Value.string Value.string W : MapRep Value.string Value.string (W.alloc (.map #[] 0)) n ([] : List (ByteArray × ByteArray)))
  go_enter Try.func11, Try.ntmps11
  cases h1 : (h.toList == [33])
  all_goals (try (rw [h1] at hh; have h2 : s.toList.isEmpty = false := by simpa using hh))
  all_goals clear hh
  all_goals
    go_wp2_with (refine wpList_store_rep _ rfl _ _ _ 46 (.inr rfl) 9 9 hkk Try.underlying46 Value.string (w.heap.size + 1) [] rfl (hmade _ _ (by simp)) ⟨#[33]⟩ rfl ⟨#[33]⟩ rfl ?_)
    intro w1 hr1 hg1
    go_wp2_with (refine wpList_store_rep _ rfl _ _ _ 46 (.inr rfl) 9 9 hkk Try.underlying46 Value.string (w.heap.size + 1) _ rfl hr1 ⟨#[33, 33]⟩ rfl ⟨#[116, 97, 103, 58, 121, 97, 109, 108, 46, 111, 114, 103, 44, 50, 48, 48, 50, 58]⟩ rfl ?_)
    intro w2 hr2 hg2
    go_wp2
    go_loopw [8, 27] (fun v i wr => ∃ k : Nat, k ≤ l.length ∧ i = .int .i64 k ∧ MapRep Value.string Value.string wr (w.heap.size + 1) (handles (l.take k)) ∧ Below w.heap.size w wr ∧ wr.heap[w.heap.size]? = some (.cells #[.bool false, .string h, .string s] 23 (0, 0))) (fun _ i _ => l.length - (intOf i).toNat)
    case atStart =>
      refine ⟨0, Nat.zero_le _, rfl, ?_, ?_, ?_⟩
      · simpa [handles, putA] using hr2
      · exact ((((Below.refl _ w).alloc (Nat.le_refl _) _).alloc (by simp) _).grown hg1 (by simp; omega) (fun k hk => by cases hk; omega)).grown hg2 (by have := hg1.size; simp at this; omega) (fun k hk => by cases hk; omega)
      · rw [hg2.block _ (by have := hg1.size; simp at this; omega) (by simp), hg1.block _ (by simp; omega) (by simp), Below.heap_alloc _ _ _ (by simp)]
        exact heap_alloc_new _ _
    case round =>
      obtain ⟨k, hk, rfl, hrep, hbel, hbox⟩ := hrel
      by_cases hlt : k < l.length
      · obtain ⟨ad, rfl, hc1, hc2⟩ := hl k hlt
        have hc1' := cell_below hbel hc1
        have hc2' := cell_below hbel hc2
        clear hc1 hc2 hl
        have hsu := Lib.hid (handles_succ l k hlt)
        go_wp2_with (refine wpList_store_rep _ rfl _ _ _ 46 (.inl rfl) 9 9 hkk Try.underlying46 Value.string (w.heap.size + 1) _ rfl (hrep.alloc _) _ rfl _ rfl ?_)
        intro w3 hr3 hg3
        go_wp2
        go_roundw
        case rel =>
          have hs3 := hg3.size
          have hs := hbel.size
          have hlt3 := hrep.lt
          simp at hs3
          refine ⟨k + 1, by omega, by go_num, by rw [hsu.out]; exact hr3, (hbel.alloc (by omega) _).grown hg3 (by simp; omega) (fun k hk => by cases hk; omega), ?_⟩
          rw [hg3.block _ (by simp; omega) (by simp), Below.heap_alloc _ _ _ (by omega)]
          exact hbox
        case measure => simp [intOf]; omega
      · have hke : k = l.length := by omega
        subst hke
        rw [List.take_length] at hrep
        have hb0 : wr.cell? ⟨w.heap.size, 1, none⟩ = some (.string h) := by unfold World.cell?; rw [hbox]; rfl
        have hb1 : wr.cell? ⟨w.heap.size, 2, none⟩ = some (.string s) := by unfold World.cell?; rw [hbox]; rfl
        clear hl
        cases hg : getA h (handles l) with
        | none =>
          go_wp2_with (refine wpList_lookup_rep _ rfl _ _ 46 true rfl 9 9 hkk Try.underlying46 Value.string (.string ⟨#[]⟩) (Try.zeroValue9 _) (w.heap.size + 1) _ rfl hrep h rfl ?_; rw [hg]; simp only [Option.map_none, Option.getD_none, Option.isSome_none, if_true])
          go_ret2
          exact ⟨by rw [hg]; rfl, hbel⟩
        | some p =>
          have hp := hsz p hg
          go_wp2_with (refine wpList_lookup_rep _ rfl _ _ 46 true rfl 9 9 hkk Try.underlying46 Value.string (.string ⟨#[]⟩) (Try.zeroValue9 _) (w.heap.size + 1) _ rfl hrep h rfl ?_; rw [hg]; simp only [Option.map_some, Option.getD_some, Option.isSome_some, if_true])
          go_ret2
          exact ⟨by rw [hg]; rfl, hbel⟩

/-- What Expand tells; none: the sum of two lengths would pass the greatest int. -/
def expandF (v : Bool) (h s : ByteArray) (l : List (ByteArray × ByteArray)) : Option (ByteArray × Bool) :=
  if v then some (s, true) else if (h.toList == [33] && s.toList.isEmpty) = true then some (⟨#[33]⟩, true)
  else match getA h (handles l) with
    | none => some (⟨#[]⟩, false)
    | some p => if p.size + s.size ≤ 9223372036854775807 then some (p ++ s, true) else none

theorem expand_any (v : Bool) (h s : ByteArray) (A : Option Addr) (c : Nat) (l : List (ByteArray × ByteArray)) (w : World) (hm : l.length ≤ 9223372036854775807)
    (hl : ∀ (i : Nat) (hi : i < l.length), ∃ ad, A = some ad ∧ w.cell? (ad.add (i * 2)) = some (.string (l[i]).1) ∧ w.cell? ⟨(ad.add (i * 2)).block, (ad.add (i * 2)).off + 1, none⟩ = some (.string (l[i]).2))
    (x : ByteArray) (y : Bool) (hr : expandF v h s l = some (x, y)) :
   Calls Try.prog 11 #[.agg #[.bool v, .string h, .string s], .slice A l.length c] w fun e w' => e = .returned (.tuple #[.string x, .bool y]) ∧ Below w.heap.size w w' := by
  unfold expandF at hr
  cases v
  · simp only [Bool.false_eq_true, if_false] at hr
    by_cases hh : (h.toList == [33] && s.toList.isEmpty) = true
    · rw [if_pos hh] at hr
      obtain ⟨rfl, rfl⟩ := Prod.mk.inj (Option.some.inj hr)
      rw [Bool.and_eq_true] at hh
      obtain ⟨h1, h2⟩ := hh
      clear hl hr
      go_enter Try.func11, Try.ntmps11
      go_wp2
      go_ret2
      exact ⟨rfl, (Below.refl _ _).alloc (Nat.le_refl _) _⟩
    · rw [if_neg hh] at hr
      have hh' := eq_false_of_ne_true hh
      cases hg : getA h (handles l) with
      | none =>
        rw [hg] at hr
        obtain ⟨rfl, rfl⟩ := Prod.mk.inj (Option.some.inj hr)
        have := expand_map h s A c l w hm hl hh' (fun p hp => by rw [hg] at hp; cases hp)
        rw [hg] at this
        exact this
      | some p =>
        rw [hg] at hr
        simp only at hr
        split at hr
        · rename_i hsz
          obtain ⟨rfl, rfl⟩ := Prod.mk.inj (Option.some.inj hr)
          have := expand_map h s A c l w hm hl hh' (fun q hq => by rw [hg] at hq; cases hq; exact hsz)
          rw [hg] at this
          exact this
        · cases hr
  · simp only [if_true] at hr
    obtain ⟨rfl, rfl⟩ := Prod.mk.inj (Option.some.inj hr)
    clear hl hr
    go_enter Try.func11, Try.ntmps11
    go_wp2
    go_ret2
    exact ⟨rfl, (Below.refl _ _).alloc (Nat.le_refl _) _⟩

/-! ### row, at a function value -/
def rowN (p : UInt8 → Bool) : List UInt8 → Nat
  | [] => 0
  | c :: l => if p c then rowN p l + 1 else 0

theorem row_any (F : Nat) (hF : ∀ args w, (callFunc F args).run Try.prog w = .ok (.enter F args) w) (p : UInt8 → Bool) (hp : ∀ (c : UInt8) w, Calls Try.prog F #[.int .u8 c.toNat] w fun e w' => e = .returned (.bool (p c)) ∧ ∃ n, w' = w.drewN n) (s : ByteArray) (hs : s.size ≤ 9223372036854775807) (w : World) :
   Calls Try.prog 19 #[.string s, .func (.func F) #[] #[]] w fun e w' => e = .returned (.int .i64 (rowN p s.data.toList)) ∧ ∃ n, w' = w.drewN n := by
  go_enter Try.func19, Try.ntmps19
  go_wp2
  go_loopw [5] (fun i wr => ∃ k : Nat, k ≤ s.size ∧ i = .int .i64 k ∧ rowN p s.data.toList = k + rowN p (s.data.toList.drop k) ∧ ∃ n, wr = w.drewN n) (fun i _ => s.size - (intOf i).toNat)
  case atStart => exact ⟨0, Nat.zero_le _, rfl, by simp, 0, rfl⟩
  case round =>
    obtain ⟨k, hk, rfl, H0, n, rfl⟩ := hrel
    have H := Lib.hid H0; clear H0
    by_cases hlt : k < s.size
    · have hd : s.data.toList.drop k = s[k] :: s.data.toList.drop (k + 1) := by
        rw [List.drop_eq_getElem_cons (by simpa using hlt)]; rfl
      by_cases hpk : p s[k] = true
      · have hp1 : ∀ w, Calls Try.prog F #[.int .u8 s[k].toNat] w fun e w' => e = .returned (.bool true) ∧ ∃ n, w' = w.drewN n := fun w => by have := hp s[k] w; rw [hpk] at this; exact this
        clear hp
        have H2 := Lib.hid hpk; clear hpk
        have H3 := Lib.hid hd; clear hd
        go_wp2_with (refine (hp1 _).mono ?_; rintro e w' ⟨rfl, n2, rfl⟩)
        go_roundw
        case rel => exact ⟨k + 1, by omega, by go_num, by rw [H.out, H3.out, rowN, if_pos H2.out]; omega, n + n2, rfl⟩
        case measure => simp [intOf]; omega
      · have hp1 : ∀ w, Calls Try.prog F #[.int .u8 s[k].toNat] w fun e w' => e = .returned (.bool false) ∧ ∃ n, w' = w.drewN n := fun w => by have := hp s[k] w; rw [eq_false_of_ne_true hpk] at this; exact this
        clear hp
        have H2 := Lib.hid hpk; clear hpk
        have H3 := Lib.hid hd; clear hd
        go_wp2_with (refine (hp1 _).mono ?_; rintro e w' ⟨rfl, n2, rfl⟩)
        go_ret
        exact ⟨by rw [H.out, H3.out, rowN, if_neg H2.out]; simp, n + n2, rfl⟩
    · have hd : s.data.toList.drop k = [] := by simp; omega
      have H3 := Lib.hid hd; clear hd
      go_wp2
      go_ret
      exact ⟨by rw [H.out, H3.out, rowN]; simp, n, rfl⟩
end Go.Proofs.Ytmceepmchfjinaa
