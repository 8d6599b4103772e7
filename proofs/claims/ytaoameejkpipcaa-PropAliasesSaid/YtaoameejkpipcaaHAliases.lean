/- The law PropAliases: its walk. Conditions: sizes and numbers as the row gives them. -/
import Derived.Test.YtaoameejkpipcaaHoldRow
import Derived.Test.YtaoameejkpipcaaQx0
import Derived.WalkKit
import Derived.LoopTactic
import Derived.Outline
import Derived.Deep.DeepCutAuto
import Derived.IntWalk
import Derived.WalkLawsBesides
import Derived.WalkSpells
import Derived.Laws.IdiomStrings
import Derived.KernelRfl
namespace Go.Proofs.Ytaoameejkpipcaa.Q
open Go Go.RowKit Go.Proofs.YtaoameejkpipcaaW.PrintWords Go.Proofs.YtaoameejkpipcaaW.PrintLast Go.Proofs.YtaoameejkpipcaaW.PrintMore
set_option linter.unusedVariables false
set_option linter.unusedSimpArgs false

theorem conv_byte (w : World) (c : UInt8) (s d e : TypeId) (hs : Try.prog.underlying s = some (.slice e)) (he : Try.prog.underlying e = some (.int .u8)) (hd : Try.prog.underlying d = some .string) :
    (convert s d (.slice (some ⟨w.heap.size, 0, none⟩) 1 1)).run Try.prog (w.alloc (.cells #[.int .u8 (c.toNat : Int)] e)) = .ok (.string ⟨#[c]⟩) (w.alloc (.cells #[.int .u8 (c.toNat : Int)] e)) := by
  refine run_convert_bytes_back _ s d e _ 1 [c] hs he hd (fun j hj => ?_)
  obtain rfl : j = 0 := by simpa using hj
  rw [show (⟨w.heap.size, 0, none⟩ : Addr).add 0 = ⟨w.heap.size, 0, none⟩ from rfl]
  simp [World.cell?_alloc_new]

def moreI (c : Int) : Bool := decide (48 ≤ c ∧ c ≤ 57 ∨ 97 ≤ c ∧ c ≤ 122 ∨ 65 ≤ c ∧ c ≤ 90 ∨ c = 45 ∨ c = 95)
def signI (c : Int) : Bool := decide (c = 44 ∨ c = 91 ∨ c = 93 ∨ c = 123 ∨ c = 125)

set_option maxRecDepth 100000 in
set_option maxHeartbeats 4000000 in
theorem targumlaw21_PropAliases.walk (a0 nm : ByteArray) (a1 : Bool) (c : UInt8) (v : Int) (w : World)
    (cK : ∀ w, Calls Try.prog 7 #[] w fun e w' => e = .returned (.bool true) ∧ Below w.heap.size w w')
    (cV : ∀ w, Calls Try.prog 9 #[.bool a1] w fun e w' => e = .returned (.int .i64 v) ∧ Drawn0 w w')
    (cN : ∀ w, Calls Try.prog 18 #[.string a0] w fun e w' => e = .returned (.string nm) ∧ Drawn0 w w')
    (h40 : a0.size ≤ 40) (hn : nm.size ≤ 100) (h1 : 32 ≤ (c.toNat : Int)) (h2 : (c.toNat : Int) ≤ 126) (more sgn ok is : Bool)
    (Hm : Hid (moreI (c.toNat : Int) = more)) (Hs : Hid (signI (c.toNat : Int) = sgn)) (Hok : Hid (more = false → (ok = true ↔ (c.toNat : Int) = 32 ∨ (c.toNat : Int) = 58))) (His : Hid (more = false → is = (ok || sgn)))
    (cA : ∀ w, Calls Try.prog 15 #[.int .i64 v, .string (((⟨#[42]⟩ : ByteArray) ++ nm) ++ ⟨#[c]⟩), .int .i64 0, .bool false] w fun e w' => e = .returned (if more = true then .tuple #[.string ((((⟨#[42]⟩ : ByteArray) ++ nm) ++ ⟨#[c]⟩).extract 1 (((⟨#[42]⟩ : ByteArray) ++ nm) ++ ⟨#[c]⟩).size), .int .i64 ((((⟨#[42]⟩ : ByteArray) ++ nm) ++ ⟨#[c]⟩).size : Int), .bool true] else if ok = true then .tuple #[.string (((⟨#[42]⟩ : ByteArray) ++ nm).extract 1 ((⟨#[42]⟩ : ByteArray) ++ nm).size), .int .i64 (((⟨#[42]⟩ : ByteArray) ++ nm).size : Int), .bool true] else .tuple #[.string ⟨#[]⟩, .int .i64 0, .bool false]) ∧ Below w.heap.size w w')
    (cB : ∀ w, Calls Try.prog 15 #[.int .i64 v, .string (((⟨#[42]⟩ : ByteArray) ++ nm) ++ ⟨#[c]⟩), .int .i64 0, .bool true] w fun e w' => e = .returned (if more = true then .tuple #[.string ((((⟨#[42]⟩ : ByteArray) ++ nm) ++ ⟨#[c]⟩).extract 1 (((⟨#[42]⟩ : ByteArray) ++ nm) ++ ⟨#[c]⟩).size), .int .i64 ((((⟨#[42]⟩ : ByteArray) ++ nm) ++ ⟨#[c]⟩).size : Int), .bool true] else if is = true then .tuple #[.string (((⟨#[42]⟩ : ByteArray) ++ nm).extract 1 ((⟨#[42]⟩ : ByteArray) ++ nm).size), .int .i64 (((⟨#[42]⟩ : ByteArray) ++ nm).size : Int), .bool true] else .tuple #[.string ⟨#[]⟩, .int .i64 0, .bool false]) ∧ Below w.heap.size w w') :
    Calls Try.prog 6 #[.string a0, .bool a1, .int .u8 (c.toNat : Int)] w fun e w' => e = .returned (.bool true) ∧ Below w.heap.size w w' := by
  have H := Holds.nil w
  have hcv : ∀ w : World, (convert 22 9 (.slice (some ⟨w.heap.size, 0, none⟩) 1 1)).run Try.prog (w.alloc (.cells #[.int .u8 (c.toNat : Int)] 5)) = .ok (.string ⟨#[c]⟩) (w.alloc (.cells #[.int .u8 (c.toNat : Int)] 5)) :=
    fun w => conv_byte w c _ _ _ (by kernel_rfl) (by kernel_rfl) (by kernel_rfl)
  go_enter Try.func6, Try.ntmps6
  go_upto_region 8 with (first | ((with_reducible refine (cK _).mono ?_); rintro e w' ⟨rfl, hb⟩; replace H := H.on hb; clear hb) | ((with_reducible refine (cV _).mono ?_); rintro e w' ⟨rfl, hb⟩; replace H := H.on hb.below; clear hb) | ((with_reducible refine (cN _).mono ?_); rintro e w' ⟨rfl, hb⟩; replace H := H.on hb.below; clear hb))
  go_cut [2, 8, 9, 10] (fun s2 s8 s9 s10 wx => s2 = .int .u8 (c.toNat : Int) ∧ s8 = .string ((⟨#[42]⟩ : ByteArray) ++ nm) ∧ s9 = .string (((⟨#[42]⟩ : ByteArray) ++ nm) ++ ⟨#[c]⟩) ∧ s10 = .bool more ∧ Holds w [] wx)
  case first =>
    go_wp2_with fail
    all_goals
      go_meet
      case rel => exact ⟨by first | rfl | (simp [*]), rfl, rfl, by rw [← Hm.out]; unfold moreI; congr 1; first | (rw [eq_comm, decide_eq_true_eq]; omega) | (rw [eq_comm, decide_eq_false_iff_not]; omega) | (rw [Bool.eq_iff_iff, decide_eq_true_eq]; simp; omega), (H.alloc [_] 5).tail⟩
  case rest =>
    obtain ⟨rfl, rfl, rfl, rfl, hw⟩ := hcut
    clear hcv cK cV cN H
    go_upto_region 9 with fail
    go_cut [2, 11] (fun s2 s11 wx => s2 = .int .u8 (c.toNat : Int) ∧ s11 = .bool sgn ∧ Holds w [] wx)
    case first =>
      go_wp2_with fail
      all_goals
        go_meet
        case rel => exact ⟨by first | rfl | (simp [*]), by rw [← Hs.out]; unfold signI; congr 1; first | (rw [eq_comm, decide_eq_true_eq]; omega) | (rw [eq_comm, decide_eq_false_iff_not]; omega) | (rw [Bool.eq_iff_iff, decide_eq_true_eq]; simp; omega), hw⟩
    case rest =>
      obtain ⟨rfl, rfl, H⟩ := hcut
      have hsz : (((⟨#[42]⟩ : ByteArray) ++ nm)).size = nm.size + 1 := by rw [ByteArray.size_append]; show 1 + _ = _; omega
      have hsx : ((((⟨#[42]⟩ : ByteArray) ++ nm) ++ ⟨#[c]⟩)).size = nm.size + 2 := by rw [ByteArray.size_append, hsz]; rfl
      generalize hX : (((⟨#[42]⟩ : ByteArray) ++ nm) ++ ⟨#[c]⟩) = x at *
      generalize hS : ((⟨#[42]⟩ : ByteArray) ++ nm) = s at *
      have l1 : 1 ≤ s.size := by omega
      have l2 : 1 ≤ x.size := by omega
      have l3 : s.size ≤ 1000 := by omega
      have l4 : x.size ≤ 1000 := by omega
      clear hX hS hsz hsx hw Hm Hs
      cases more
      · have hok := Hok.out rfl
        have his := His.out rfl
        clear Hok His
        simp only [if_neg (show ¬ (false = true) from by decide)] at cA cB
        by_cases hst : (c.toNat : Int) = 32 ∨ (c.toNat : Int) = 58
        · obtain rfl := hok.2 hst
          rw [Bool.true_or] at his
          subst his
          clear hok
          simp only [if_true] at cA cB
          go_wp2_with (first | ((with_reducible refine (cA _).mono ?_); rintro e w' ⟨rfl, hb⟩; replace H := H.on hb; clear hb) | ((with_reducible refine (cB _).mono ?_); rintro e w' ⟨rfl, hb⟩; replace H := H.on hb; clear hb))
          all_goals
            go_ret
            exact ⟨rfl, H.below⟩
        · have ho : ok = false := by cases ok <;> simp_all
          subst ho
          rw [Bool.false_or] at his
          subst his
          have n32 : ¬ (c.toNat : Int) = 32 := fun h => hst (.inl h)
          have n58 : ¬ (c.toNat : Int) = 58 := fun h => hst (.inr h)
          have b32 : ((c.toNat : Int) == 32) = false := beq_eq_false_iff_ne.2 n32
          have b58 : ((c.toNat : Int) == 58) = false := beq_eq_false_iff_ne.2 n58
          clear hok hst n32 n58
          cases is
          all_goals
            simp only [if_true, if_neg (show ¬ (false = true) from by decide)] at cA cB
            go_wp2_with (first | ((with_reducible refine (cA _).mono ?_); rintro e w' ⟨rfl, hb⟩; replace H := H.on hb; clear hb) | ((with_reducible refine (cB _).mono ?_); rintro e w' ⟨rfl, hb⟩; replace H := H.on hb; clear hb))
          all_goals
            go_ret
            exact ⟨rfl, H.below⟩
      · clear Hok His
        simp only [if_true] at cA cB
        go_wp2_with (first | ((with_reducible refine (cA _).mono ?_); rintro e w' ⟨rfl, hb⟩; replace H := H.on hb; clear hb) | ((with_reducible refine (cB _).mono ?_); rintro e w' ⟨rfl, hb⟩; replace H := H.on hb; clear hb))
        go_ret
        exact ⟨rfl, H.below⟩
end Go.Proofs.Ytaoameejkpipcaa.Q
