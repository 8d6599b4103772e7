/- The walk of targumref17.Props by hand (its definitions are the printer's). No condition. -/
import Derived.Test.YtaoameejkpipcaaHoldDraw
import Derived.Test.YtaoameejkpipcaaEvs
import Derived.Test.YtaoameejkpipcaaQx7
import Derived.Test.YtaoameejkpipcaaQx8
import Derived.Test.YtaoameejkpipcaaQx9
import Derived.WalkKit
import Derived.LoopTactic
import Derived.Outline
import Derived.Deep.LoopGhost
import Derived.Deep.Cut
import Derived.IntWalk
import Derived.Deep.QuietTactic
namespace Go.Proofs.Ytaoameejkpipcaa.Q
open Go Go.RowKit Go.Proofs.YtaoameejkpipcaaW.PrintWords Go.Proofs.YtaoameejkpipcaaW.PrintLast Go.Proofs.YtaoameejkpipcaaW.PrintMore
set_option linter.unusedVariables false
set_option linter.unusedSimpArgs false
mutual
def targumref17_Props.l0 : Nat → Int → ByteArray → Int → Bool → Int → Bool → Bool → Bool → ByteArray → ByteArray → ByteArray → Int → Int → Int → Option (Bool × Bool × Bool × ByteArray × ByteArray × ByteArray × Int × Int × Int × Int × Int × Int)
  | 0, _, _, _, _, _, _, _, _, _, _, _, _, _, _ => none
  | k + 1, x0, x1, x2, x3, x12, x143000, x143001, x143002, x143003, x143004, x143005, x143006, x143007, x143008 => if x12 ≥ 0 then (if x12 < (x1.size : Int) then (if 0 ≤ x12 then (if (bt x1 x12) = 33 then (targumref17_Props.j1 k x0 x1 x2 x3 x12 true x143000 x143001 x143002 x143003 x143004 x143005 x143006 x143007 x143008) else (targumref17_Props.j1 k x0 x1 x2 x3 x12 ((bt x1 x12) == 38) x143000 x143001 x143002 x143003 x143004 x143005 x143006 x143007 x143008)) else (none)) else (targumref17_Props.j1 k x0 x1 x2 x3 x12 false x143000 x143001 x143002 x143003 x143004 x143005 x143006 x143007 x143008)) else (targumref17_Props.j1 k x0 x1 x2 x3 x12 false x143000 x143001 x143002 x143003 x143004 x143005 x143006 x143007 x143008)
def targumref17_Props.j1 : Nat → Int → ByteArray → Int → Bool → Int → Bool → Bool → Bool → Bool → ByteArray → ByteArray → ByteArray → Int → Int → Int → Option (Bool × Bool × Bool × ByteArray × ByteArray × ByteArray × Int × Int × Int × Int × Int × Int)
  | 0, _, _, _, _, _, _, _, _, _, _, _, _, _, _, _ => none
  | k + 1, x0, x1, x2, x3, x12, x41, x143000, x143001, x143002, x143003, x143004, x143005, x143006, x143007, x143008 => if x41 = true then (if 0 ≤ x12 then (if x12 < (x1.size : Int) then (if (bt x1 x12) = 33 then ((targumref12_Read.f k x1 x12).bind fun bt144 => (if x143001 = true then (some (false, false, false, (⟨#[]⟩ : ByteArray), (⟨#[]⟩ : ByteArray), (⟨#[]⟩ : ByteArray), 0, 0, 0, 0, 11, x12)) else (if bt144.2.2.2.2 = true then (targumref17_Props.j2 k x0 x1 x2 x3 bt144.2.2.2.1 x143000 true bt144.1 bt144.2.1 bt144.2.2.1 x143005 x143006 x143007 x143008 11 x12) else (some (false, false, false, (⟨#[]⟩ : ByteArray), (⟨#[]⟩ : ByteArray), (⟨#[]⟩ : ByteArray), 0, 0, 0, 0, 11, x12))))) else ((targumref17_name.f k x1 (wrap64 (x12 + 1))).bind fun t150 => (if x143008 > 0 then (some (false, false, false, (⟨#[]⟩ : ByteArray), (⟨#[]⟩ : ByteArray), (⟨#[]⟩ : ByteArray), 0, 0, 0, 0, 11, x12)) else (if t150 = 0 then (some (false, false, false, (⟨#[]⟩ : ByteArray), (⟨#[]⟩ : ByteArray), (⟨#[]⟩ : ByteArray), 0, 0, 0, 0, 11, x12)) else (if 0 ≤ (wrap64 (x12 + 1)) then (if (wrap64 (x12 + 1)) ≤ (wrap64 ((wrap64 (x12 + 1)) + t150)) then (if (wrap64 ((wrap64 (x12 + 1)) + t150)) ≤ (x1.size : Int) then (targumref17_Props.j2 k x0 x1 x2 x3 (wrap64 ((wrap64 (x12 + 1)) + t150)) x143000 x143001 x143002 x143003 x143004 (x1.extract ((wrap64 (x12 + 1)) : Int).toNat ((wrap64 ((wrap64 (x12 + 1)) + t150)) : Int).toNat) x143006 x143007 (wrap64 (x12 + 1)) 11 x12) else (none)) else (none)) else (none)))))) else (none)) else (none)) else (if x143000 = true then (some (x143000, x143001, x143002, x143003, x143004, x143005, x143006, x143007, x143008, x12, 0, 0)) else (some (false, false, false, (⟨#[]⟩ : ByteArray), (⟨#[]⟩ : ByteArray), (⟨#[]⟩ : ByteArray), 0, 0, 0, x2, 0, 0)))
def targumref17_Props.j2 : Nat → Int → ByteArray → Int → Bool → Int → Bool → Bool → Bool → ByteArray → ByteArray → ByteArray → Int → Int → Int → Int → Int → Option (Bool × Bool × Bool × ByteArray × ByteArray × ByteArray × Int × Int × Int × Int × Int × Int)
  | 0, _, _, _, _, _, _, _, _, _, _, _, _, _, _, _, _ => none
  | k + 1, x0, x1, x2, x3, x14, x143000, x143001, x143002, x143003, x143004, x143005, x143006, x143007, x143008, x144000, x144001 => (targumref17_Stop.f k x0 x1 x14 x3).bind fun t151 => (if t151 = true then ((targumref17_over.f k x1 x14).bind fun t152 => (targumref17_Props.l0 k x0 x1 x2 x3 t152 true x143001 x143002 x143003 x143004 x143005 x143006 x14 x143008)) else (some (false, false, false, (⟨#[]⟩ : ByteArray), (⟨#[]⟩ : ByteArray), (⟨#[]⟩ : ByteArray), 0, 0, 0, 0, x144000, x144001)))
end
def targumref17_Props.f (k : Nat) (a0 : Int) (a1 : ByteArray) (a2 : Int) (a3 : Bool) : Option (Bool × Bool × Bool × ByteArray × ByteArray × ByteArray × Int × Int × Int × Int × Int × Int) := targumref17_Props.l0 k a0 a1 a2 a3 a2 false false false (⟨#[]⟩ : ByteArray) (⟨#[]⟩ : ByteArray) (⟨#[]⟩ : ByteArray) a2 0 0
theorem targumref17_Props.mono_l : ∀ k, (∀ y0 y1 y2 y3 y4 y5 y6 y7 y8 y9 y10 y11 y12 y13, LeO (targumref17_Props.l0 k y0 y1 y2 y3 y4 y5 y6 y7 y8 y9 y10 y11 y12 y13) (targumref17_Props.l0 (k + 1) y0 y1 y2 y3 y4 y5 y6 y7 y8 y9 y10 y11 y12 y13)) ∧ (∀ y0 y1 y2 y3 y4 y5 y6 y7 y8 y9 y10 y11 y12 y13 y14, LeO (targumref17_Props.j1 k y0 y1 y2 y3 y4 y5 y6 y7 y8 y9 y10 y11 y12 y13 y14) (targumref17_Props.j1 (k + 1) y0 y1 y2 y3 y4 y5 y6 y7 y8 y9 y10 y11 y12 y13 y14)) ∧ (∀ y0 y1 y2 y3 y4 y5 y6 y7 y8 y9 y10 y11 y12 y13 y14 y15, LeO (targumref17_Props.j2 k y0 y1 y2 y3 y4 y5 y6 y7 y8 y9 y10 y11 y12 y13 y14 y15) (targumref17_Props.j2 (k + 1) y0 y1 y2 y3 y4 y5 y6 y7 y8 y9 y10 y11 y12 y13 y14 y15))
  | 0 => ⟨fun _ _ _ _ _ _ _ _ _ _ _ _ _ _ r h => by simp [targumref17_Props.l0] at h, fun _ _ _ _ _ _ _ _ _ _ _ _ _ _ _ r h => by simp [targumref17_Props.j1] at h, fun _ _ _ _ _ _ _ _ _ _ _ _ _ _ _ _ r h => by simp [targumref17_Props.j2] at h⟩
  | k + 1 => by
    obtain ⟨ih0, ih1, ih2⟩ := targumref17_Props.mono_l k
    refine ⟨?_, ?_, ?_⟩
    · intro y0 y1 y2 y3 y4 y5 y6 y7 y8 y9 y10 y11 y12 y13
      unfold targumref17_Props.l0
      repeat' first
      | (with_reducible exact ih0 _ _ _ _ _ _ _ _ _ _ _ _ _ _)
      | (with_reducible exact ih1 _ _ _ _ _ _ _ _ _ _ _ _ _ _ _)
      | (with_reducible exact ih2 _ _ _ _ _ _ _ _ _ _ _ _ _ _ _ _)
      | (with_reducible exact targumref12_Read.mono _ _ _)
      | (with_reducible exact targumref17_Stop.mono _ _ _ _ _)
      | (with_reducible exact targumref17_name.mono _ _ _)
      | (with_reducible exact targumref17_over.mono _ _ _)
      | (with_reducible exact LeO.refl _)
      | (with_reducible exact LeO.none _)
      | (with_reducible refine LeO.ite ?_ ?_)
      | (with_reducible refine LeO.bind ?_ (fun _ => ?_))
      | exact ih0 _ _ _ _ _ _ _ _ _ _ _ _ _ _
      | exact ih1 _ _ _ _ _ _ _ _ _ _ _ _ _ _ _
      | exact ih2 _ _ _ _ _ _ _ _ _ _ _ _ _ _ _ _
      | exact targumref12_Read.mono _ _ _
      | exact targumref17_Stop.mono _ _ _ _ _
      | exact targumref17_name.mono _ _ _
      | exact targumref17_over.mono _ _ _
      | exact LeO.none _
      | refine LeO.ite ?_ ?_
      | refine LeO.bind ?_ (fun _ => ?_)
    · intro y0 y1 y2 y3 y4 y5 y6 y7 y8 y9 y10 y11 y12 y13 y14
      unfold targumref17_Props.j1
      repeat' first
      | (with_reducible exact ih0 _ _ _ _ _ _ _ _ _ _ _ _ _ _)
      | (with_reducible exact ih1 _ _ _ _ _ _ _ _ _ _ _ _ _ _ _)
      | (with_reducible exact ih2 _ _ _ _ _ _ _ _ _ _ _ _ _ _ _ _)
      | (with_reducible exact targumref12_Read.mono _ _ _)
      | (with_reducible exact targumref17_Stop.mono _ _ _ _ _)
      | (with_reducible exact targumref17_name.mono _ _ _)
      | (with_reducible exact targumref17_over.mono _ _ _)
      | (with_reducible exact LeO.refl _)
      | (with_reducible exact LeO.none _)
      | (with_reducible refine LeO.ite ?_ ?_)
      | (with_reducible refine LeO.bind ?_ (fun _ => ?_))
      | exact ih0 _ _ _ _ _ _ _ _ _ _ _ _ _ _
      | exact ih1 _ _ _ _ _ _ _ _ _ _ _ _ _ _ _
      | exact ih2 _ _ _ _ _ _ _ _ _ _ _ _ _ _ _ _
      | exact targumref12_Read.mono _ _ _
      | exact targumref17_Stop.mono _ _ _ _ _
      | exact targumref17_name.mono _ _ _
      | exact targumref17_over.mono _ _ _
      | exact LeO.none _
      | refine LeO.ite ?_ ?_
      | refine LeO.bind ?_ (fun _ => ?_)
    · intro y0 y1 y2 y3 y4 y5 y6 y7 y8 y9 y10 y11 y12 y13 y14 y15
      unfold targumref17_Props.j2
      repeat' first
      | (with_reducible exact ih0 _ _ _ _ _ _ _ _ _ _ _ _ _ _)
      | (with_reducible exact ih1 _ _ _ _ _ _ _ _ _ _ _ _ _ _ _)
      | (with_reducible exact ih2 _ _ _ _ _ _ _ _ _ _ _ _ _ _ _ _)
      | (with_reducible exact targumref12_Read.mono _ _ _)
      | (with_reducible exact targumref17_Stop.mono _ _ _ _ _)
      | (with_reducible exact targumref17_name.mono _ _ _)
      | (with_reducible exact targumref17_over.mono _ _ _)
      | (with_reducible exact LeO.refl _)
      | (with_reducible exact LeO.none _)
      | (with_reducible refine LeO.ite ?_ ?_)
      | (with_reducible refine LeO.bind ?_ (fun _ => ?_))
      | exact ih0 _ _ _ _ _ _ _ _ _ _ _ _ _ _
      | exact ih1 _ _ _ _ _ _ _ _ _ _ _ _ _ _ _
      | exact ih2 _ _ _ _ _ _ _ _ _ _ _ _ _ _ _ _
      | exact targumref12_Read.mono _ _ _
      | exact targumref17_Stop.mono _ _ _ _ _
      | exact targumref17_name.mono _ _ _
      | exact targumref17_over.mono _ _ _
      | exact LeO.none _
      | refine LeO.ite ?_ ?_
      | refine LeO.bind ?_ (fun _ => ?_)
theorem targumref17_Props.mono : ∀ a0 a1 a2 a3 k, LeO (targumref17_Props.f k a0 a1 a2 a3) (targumref17_Props.f (k + 1) a0 a1 a2 a3) := by
  intro a0 a1 a2 a3 k
  obtain ⟨ih0, ih1, ih2⟩ := targumref17_Props.mono_l k
  unfold targumref17_Props.f
  repeat' first
      | (with_reducible exact ih0 _ _ _ _ _ _ _ _ _ _ _ _ _ _)
      | (with_reducible exact ih1 _ _ _ _ _ _ _ _ _ _ _ _ _ _ _)
      | (with_reducible exact ih2 _ _ _ _ _ _ _ _ _ _ _ _ _ _ _ _)
      | (with_reducible exact targumref12_Read.mono _ _ _)
      | (with_reducible exact targumref17_Stop.mono _ _ _ _ _)
      | (with_reducible exact targumref17_name.mono _ _ _)
      | (with_reducible exact targumref17_over.mono _ _ _)
      | (with_reducible exact LeO.refl _)
      | (with_reducible exact LeO.none _)
      | (with_reducible refine LeO.ite ?_ ?_)
      | (with_reducible refine LeO.bind ?_ (fun _ => ?_))
      | exact ih0 _ _ _ _ _ _ _ _ _ _ _ _ _ _
      | exact ih1 _ _ _ _ _ _ _ _ _ _ _ _ _ _ _
      | exact ih2 _ _ _ _ _ _ _ _ _ _ _ _ _ _ _ _
      | exact targumref12_Read.mono _ _ _
      | exact targumref17_Stop.mono _ _ _ _ _
      | exact targumref17_name.mono _ _ _
      | exact targumref17_over.mono _ _ _
      | exact LeO.none _
      | refine LeO.ite ?_ ?_
      | refine LeO.bind ?_ (fun _ => ?_)

structure targumref17_Props.St where
  has : Bool
  tagged : Bool
  verb : Bool
  handle : ByteArray
  suffix : ByteArray
  anchor : ByteArray
  pat : Int
  pend : Int
  pname : Int
def targumref17_Props.St.cells (p : targumref17_Props.St) : List Value := [.bool p.has, .bool p.tagged, .bool p.verb, .string p.handle, .string p.suffix, .string p.anchor, .int .i64 p.pat, .int .i64 p.pend, .int .i64 p.pname]
def targumref17_Props.zero : targumref17_Props.St := ⟨false, false, false, ⟨#[]⟩, ⟨#[]⟩, ⟨#[]⟩, 0, 0, 0⟩
abbrev targumref17_Props.R := Bool × Bool × Bool × ByteArray × ByteArray × ByteArray × Int × Int × Int × Int × Int × Int
def targumref17_Props.go (N : Nat) (v : Int) (s : ByteArray) (i0 : Int) (flow : Bool) (i : Int) (p : targumref17_Props.St) : Option targumref17_Props.R := targumref17_Props.l0 N v s i0 flow i p.has p.tagged p.verb p.handle p.suffix p.anchor p.pat p.pend p.pname
def targumref17_Props.pat (v : Int) (s : ByteArray) (i0 : Int) (flow : Bool) (b1 b2 b3 : Nat) (i : Int) (u : Nat → Value) : Array Value :=
  #[.int .i64 v, .string s, .int .i64 i0, .bool flow, u 4, u 5, u 6, u 7, .pointer (some ⟨b1, 0, none⟩), u 9, .pointer (some ⟨b2, 0, none⟩), .pointer (some ⟨b3, 0, none⟩), .int .i64 i, u 13, u 14, u 15, u 16, u 17, u 18, u 19, u 20, u 21, u 22, u 23, u 24, u 25, u 26, u 27, u 28, u 29, u 30, u 31, u 32, u 33, u 34, u 35, u 36, u 37, u 38, u 39, u 40, u 41, u 42, u 43, u 44, u 45, u 46, u 47, u 48, u 49, u 50, u 51, u 52, u 53, u 54, u 55, u 56, u 57, u 58, u 59, u 60, u 61, u 62, u 63, u 64, u 65, u 66, u 67, u 68, u 69, u 70, u 71, u 72, u 73, u 74, u 75, u 76, u 77, u 78, u 79, u 80, u 81, u 82, u 83, u 84, u 85, u 86, u 87, u 88, u 89, u 90, u 91, u 92, u 93, u 94, u 95, u 96, u 97, u 98, u 99, u 100, u 101, u 102, u 103, u 104, u 105, u 106, u 107, u 108, u 109, u 110, u 111, u 112, u 113, u 114, u 115, u 116, u 117, u 118, u 119, u 120]
def targumref17_Props.J (w : World) (v : Int) (s : ByteArray) (i0 : Int) (flow : Bool) (b1 b2 b3 : Nat) (r : targumref17_Props.R) (N : Nat) (a' : Act) (w' : World) : Prop :=
  ∃ (p : targumref17_Props.St) (i : Int) (u : Nat → Value), a' = { tmps := targumref17_Props.pat v s i0 flow b1 b2 b3 i u, defers := [] } ∧
    Holds w [(b3, p.cells, 33), (b2, [.int .i64 0, .int .i64 0], 36), (b1, targumref17_Props.zero.cells, 33)] w' ∧ targumref17_Props.go N v s i0 flow i p = some r
theorem targumref17_Props.J.mk {w : World} {v : Int} {s : ByteArray} {i0 : Int} {flow : Bool} {b1 b2 b3 : Nat} {r : targumref17_Props.R} {N : Nat} {w' : World} (p : targumref17_Props.St) (i : Int) (ts : Array Value) (hu : ts = targumref17_Props.pat v s i0 flow b1 b2 b3 i (fun n => ts.getD n undef)) (H : Holds w [(b3, p.cells, 33), (b2, [.int .i64 0, .int .i64 0], 36), (b1, targumref17_Props.zero.cells, 33)] w') (hl : targumref17_Props.go N v s i0 flow i p = some r) :
    targumref17_Props.J w v s i0 flow b1 b2 b3 r N { tmps := ts, defers := [] } w' :=
  ⟨p, i, fun n => ts.getD n undef, by rw [← hu], H, hl⟩
theorem targumref17_Props.fin (tmps : Array Value) (i : Int) (b1 b2 : Nat) (w w' : World) (h8 : tmps.getD 8 undef = .pointer (some ⟨b1, 0, none⟩)) (h9 : tmps.getD 9 undef = .int .i64 i) (h10 : tmps.getD 10 undef = .pointer (some ⟨b2, 0, none⟩))
    {L : List (Nat × List Value × TypeId)} (H : Holds w L w') {c1 c2 : List Value} (m1 : (b1, c1, 33) ∈ L) (m2 : (b2, c2, 36) ∈ L) (hc1 : c1.length = 9) (hc2 : c2.length = 2) :
    (results Try.f14 tmps).run Try.prog w' = .ok (.tuple #[.agg c1.toArray, .int .i64 i, .agg c2.toArray]) w' := by
  have l1 := run_loadVar_H (P := Try.prog) H m1 33 Try.isAgg33 9 Try.sizeOf33 0 (by omega)
  have l2 := run_loadVar_H (P := Try.prog) H m2 36 Try.isAgg36 2 Try.sizeOf36 0 (by omega)
  rw [List.drop_zero, List.take_of_length_le (by omega)] at l1 l2
  have h8' : tmps[8]?.getD undef = .pointer (some ⟨b1, 0, none⟩) := by simpa using h8
  have h9' : tmps[9]?.getD undef = .int .i64 i := by simpa using h9
  have h10' : tmps[10]?.getD undef = .pointer (some ⟨b2, 0, none⟩) := by simpa using h10
  simp [results, Try.results14, h8', h9', h10', asAddr, l1, l2]

set_option maxHeartbeats 20000000 in
theorem targumref17_Props.calls (k : Nat) (a0 : Int) (a1 : ByteArray) (a2 : Int) (a3 : Bool) (r1 : Bool) (r2 : Bool) (r3 : Bool) (r4 : ByteArray) (r5 : ByteArray) (r6 : ByteArray) (r7 : Int) (r8 : Int) (r9 : Int) (r10 : Int) (r11 : Int) (r12 : Int) (w : World) (hs : a1.size ≤ 140737488351232) (h : targumref17_Props.f k a0 a1 a2 a3 = some (r1, r2, r3, r4, r5, r6, r7, r8, r9, r10, r11, r12)) :
    Calls Try.prog 14 #[.int .i64 a0, .string a1, .int .i64 a2, .bool a3] w fun e w' => e = .returned (.tuple #[.agg #[.bool r1, .bool r2, .bool r3, .string r4, .string r5, .string r6, .int .i64 r7, .int .i64 r8, .int .i64 r9], .int .i64 r10, .agg #[.int .i64 r11, .int .i64 r12]]) ∧ Below w.heap.size w w' := by
  have H := Holds.nil w
  go_enter Try.func14, Try.ntmps14
  go_wp2_with (first | ((with_reducible refine at_alloc 36 ?_); refine wpList_alloc_H rfl 36 rfl _ (Try.zeroValue36) _ rfl H ?_; intro b2 w1 H1 hb1; replace H := H1; clear H1 hb1) | ((with_reducible refine at_alloc 33 ?_); refine wpList_alloc_H rfl 33 rfl _ (Try.zeroValue33) _ rfl (L := []) H ?_; intro b1 w1 H1 hb1; replace H := H1; clear H1 hb1) | ((with_reducible refine at_alloc 33 ?_); refine wpList_alloc_H rfl 33 rfl _ (Try.zeroValue33) _ rfl H ?_; intro b3 w1 H1 hb1; replace H := H1; clear H1 hb1) | ((with_reducible refine at_store 33 ?_); refine wpList_store_H rfl 33 _ _ rfl _ _ rfl _ rfl (Try.sizeOf33) rfl (A := []) H (Nat.le_of_ble_eq_true rfl) _ rfl ?_; intro w2 H2 hg2; replace H := H2; clear H2 hg2))
  refine wp_loop_ghost_k (fun N a' w' => ∃ b3, targumref17_Props.J w a0 a1 a2 a3 b1 b2 b3 (r1, r2, r3, r4, r5, r6, r7, r8, r9, r10, r11, r12) N a' w') k ?start ?round
  case start => exact ⟨b3, targumref17_Props.J.mk ⟨false, false, false, ⟨#[]⟩, ⟨#[]⟩, ⟨#[]⟩, a2, 0, 0⟩ a2 _ (by rfl) H h⟩
  case round =>
    intro N a' w' hJ J' K' hJ' hK'
    obtain ⟨b3, hJ⟩ := hJ
    clear H
    obtain ⟨p, i, u, rfl, H, hl⟩ := hJ
    unfold targumref17_Props.pat
    unfold targumref17_Props.go at hl
    obtain ⟨ph, pt, pv, phd, psf, pan, pat, pend, pnm⟩ := p
    dsimp only [targumref17_Props.St.cells, targumref17_Props.zero] at H hl
    cases N with
    | zero => simp [targumref17_Props.l0] at hl
    | succ N =>
    rw [targumref17_Props.l0] at hl
    by_cases h0 : i ≥ 0
    case neg =>
      rw [if_neg h0] at hl
      cases N with
      | zero => simp [targumref17_Props.j1] at hl
      | succ N =>
      rw [targumref17_Props.j1, if_neg (by decide)] at hl
      cases ph
      · rw [if_neg (by decide)] at hl
        replace hl := Aside0.mk hl
        go_wp2_with (first | ((with_reducible refine at_load 4 ?_); refine wpList_load_H rfl 4 _ rfl (Try.isAgg4) _ _ rfl H (.head _) _ rfl ?_) | ((with_reducible refine at_load 9 ?_); refine wpList_load_H rfl 9 _ rfl (Try.isAgg9) _ _ rfl H (.head _) _ rfl ?_) | ((with_reducible refine at_load 3 ?_); refine wpList_load_H rfl 3 _ rfl (Try.isAgg3) _ _ rfl H (.head _) _ rfl ?_) | ((with_reducible refine at_load 33 ?_); refine wpList_loads_H rfl 33 _ rfl (Try.isAgg33) 9 (Try.sizeOf33) _ _ rfl H (.head _) (Nat.le_of_ble_eq_true rfl) _ rfl ?_) | ((with_reducible refine at_store 33 ?_); refine wpList_store_H rfl 33 _ _ rfl _ _ rfl _ rfl (Try.sizeOf33) rfl (A := [_, _]) H (Nat.le_of_ble_eq_true rfl) _ rfl ?_; intro w2 H2 hg2; replace H := H2; clear H2 hg2) | ((with_reducible refine at_store 36 ?_); refine wpList_store_H rfl 36 _ _ rfl _ _ rfl _ rfl (Try.sizeOf36) rfl (A := [_]) H (Nat.le_of_ble_eq_true rfl) _ rfl ?_; intro w2 H2 hg2; replace H := H2; clear H2 hg2))
        replace hl := hl.out
        simp only [Option.some.injEq, Prod.mk.injEq] at hl
        obtain ⟨rfl, rfl, rfl, rfl, rfl, rfl, rfl, rfl, rfl, rfl, rfl, rfl⟩ := hl
        exact bodyPost_ret (targumref17_Props.fin _ _ _ _ _ _ rfl rfl rfl H (.tail _ (.tail _ (.head _))) (.tail _ (.head _)) rfl rfl) rfl ⟨rfl, H.below⟩
      · rw [if_pos rfl] at hl
        replace hl := Aside0.mk hl
        go_wp2_with (first | ((with_reducible refine at_load 4 ?_); refine wpList_load_H rfl 4 _ rfl (Try.isAgg4) _ _ rfl H (.head _) _ rfl ?_) | ((with_reducible refine at_load 9 ?_); refine wpList_load_H rfl 9 _ rfl (Try.isAgg9) _ _ rfl H (.head _) _ rfl ?_) | ((with_reducible refine at_load 3 ?_); refine wpList_load_H rfl 3 _ rfl (Try.isAgg3) _ _ rfl H (.head _) _ rfl ?_) | ((with_reducible refine at_load 33 ?_); refine wpList_loads_H rfl 33 _ rfl (Try.isAgg33) 9 (Try.sizeOf33) _ _ rfl H (.head _) (Nat.le_of_ble_eq_true rfl) _ rfl ?_) | ((with_reducible refine at_store 33 ?_); refine wpList_store_H rfl 33 _ _ rfl _ _ rfl _ rfl (Try.sizeOf33) rfl (A := [_, _]) H (Nat.le_of_ble_eq_true rfl) _ rfl ?_; intro w2 H2 hg2; replace H := H2; clear H2 hg2) | ((with_reducible refine at_store 36 ?_); refine wpList_store_H rfl 36 _ _ rfl _ _ rfl _ rfl (Try.sizeOf36) rfl (A := [_]) H (Nat.le_of_ble_eq_true rfl) _ rfl ?_; intro w2 H2 hg2; replace H := H2; clear H2 hg2))
        replace hl := hl.out
        simp only [Option.some.injEq, Prod.mk.injEq] at hl
        obtain ⟨rfl, rfl, rfl, rfl, rfl, rfl, rfl, rfl, rfl, rfl, rfl, rfl⟩ := hl
        exact bodyPost_ret (targumref17_Props.fin _ _ _ _ _ _ rfl rfl rfl H (.tail _ (.tail _ (.head _))) (.tail _ (.head _)) rfl rfl) rfl ⟨rfl, H.below⟩
    rw [if_pos h0] at hl
    obtain ⟨n, rfl⟩ : ∃ n : Nat, i = n := ⟨i.toNat, by omega⟩
    have hp0 : (0 : Int) ≤ (n : Int) := by omega
    by_cases hn : n < a1.size
    case neg =>
      rw [if_neg (by omega)] at hl
      have hd : decide (n < a1.size) = false := decide_eq_false (by omega)
      cases N with
      | zero => simp [targumref17_Props.j1] at hl
      | succ N =>
      rw [targumref17_Props.j1, if_neg (by decide)] at hl
      cases ph
      · rw [if_neg (by decide)] at hl
        replace hl := Aside0.mk hl
        go_wp2_with (first | ((with_reducible refine at_load 4 ?_); refine wpList_load_H rfl 4 _ rfl (Try.isAgg4) _ _ rfl H (.head _) _ rfl ?_) | ((with_reducible refine at_load 9 ?_); refine wpList_load_H rfl 9 _ rfl (Try.isAgg9) _ _ rfl H (.head _) _ rfl ?_) | ((with_reducible refine at_load 3 ?_); refine wpList_load_H rfl 3 _ rfl (Try.isAgg3) _ _ rfl H (.head _) _ rfl ?_) | ((with_reducible refine at_load 33 ?_); refine wpList_loads_H rfl 33 _ rfl (Try.isAgg33) 9 (Try.sizeOf33) _ _ rfl H (.head _) (Nat.le_of_ble_eq_true rfl) _ rfl ?_) | ((with_reducible refine at_store 33 ?_); refine wpList_store_H rfl 33 _ _ rfl _ _ rfl _ rfl (Try.sizeOf33) rfl (A := [_, _]) H (Nat.le_of_ble_eq_true rfl) _ rfl ?_; intro w2 H2 hg2; replace H := H2; clear H2 hg2) | ((with_reducible refine at_store 36 ?_); refine wpList_store_H rfl 36 _ _ rfl _ _ rfl _ rfl (Try.sizeOf36) rfl (A := [_]) H (Nat.le_of_ble_eq_true rfl) _ rfl ?_; intro w2 H2 hg2; replace H := H2; clear H2 hg2))
        replace hl := hl.out
        simp only [Option.some.injEq, Prod.mk.injEq] at hl
        obtain ⟨rfl, rfl, rfl, rfl, rfl, rfl, rfl, rfl, rfl, rfl, rfl, rfl⟩ := hl
        exact bodyPost_ret (targumref17_Props.fin _ _ _ _ _ _ rfl rfl rfl H (.tail _ (.tail _ (.head _))) (.tail _ (.head _)) rfl rfl) rfl ⟨rfl, H.below⟩
      · rw [if_pos rfl] at hl
        replace hl := Aside0.mk hl
        go_wp2_with (first | ((with_reducible refine at_load 4 ?_); refine wpList_load_H rfl 4 _ rfl (Try.isAgg4) _ _ rfl H (.head _) _ rfl ?_) | ((with_reducible refine at_load 9 ?_); refine wpList_load_H rfl 9 _ rfl (Try.isAgg9) _ _ rfl H (.head _) _ rfl ?_) | ((with_reducible refine at_load 3 ?_); refine wpList_load_H rfl 3 _ rfl (Try.isAgg3) _ _ rfl H (.head _) _ rfl ?_) | ((with_reducible refine at_load 33 ?_); refine wpList_loads_H rfl 33 _ rfl (Try.isAgg33) 9 (Try.sizeOf33) _ _ rfl H (.head _) (Nat.le_of_ble_eq_true rfl) _ rfl ?_) | ((with_reducible refine at_store 33 ?_); refine wpList_store_H rfl 33 _ _ rfl _ _ rfl _ rfl (Try.sizeOf33) rfl (A := [_, _]) H (Nat.le_of_ble_eq_true rfl) _ rfl ?_; intro w2 H2 hg2; replace H := H2; clear H2 hg2) | ((with_reducible refine at_store 36 ?_); refine wpList_store_H rfl 36 _ _ rfl _ _ rfl _ rfl (Try.sizeOf36) rfl (A := [_]) H (Nat.le_of_ble_eq_true rfl) _ rfl ?_; intro w2 H2 hg2; replace H := H2; clear H2 hg2))
        replace hl := hl.out
        simp only [Option.some.injEq, Prod.mk.injEq] at hl
        obtain ⟨rfl, rfl, rfl, rfl, rfl, rfl, rfl, rfl, rfl, rfl, rfl, rfl⟩ := hl
        exact bodyPost_ret (targumref17_Props.fin _ _ _ _ _ _ rfl rfl rfl H (.tail _ (.tail _ (.head _))) (.tail _ (.head _)) rfl rfl) rfl ⟨rfl, H.below⟩
    have hd : decide (n < a1.size) = true := decide_eq_true (by omega)
    have eb : bt a1 (n : Int) = ((a1[n]).toNat : Int) := by simp [bt, hn]
    have hlt : (n : Int) < (a1.size : Int) := by omega
    rw [if_pos hlt, if_pos h0, eb] at hl
    cases N with
    | zero => simp [targumref17_Props.j1] at hl
    | succ N =>
    rw [targumref17_Props.j1, targumref17_Props.j1] at hl
    rw [eb, if_pos hlt, if_pos h0] at hl
    clear h0
    by_cases h33 : ((a1[n]).toNat : Int) = 33
    · rw [if_pos h33, if_pos rfl, if_pos h33] at hl
      have f33 : (((a1[n]).toNat : Int) == 33) = true := by rw [beq_iff_eq]; exact h33
      clear h33 eb hlt
      cases hq : targumref12_Read.f N a1 (n : Int) with
      | none => rw [hq] at hl; cases hl
      | some q =>
      obtain ⟨q1, q2, q3, q4, q5⟩ := q
      rw [hq, Option.bind_some] at hl
      have cR : ∀ w, Calls Try.prog 26 #[.string a1, .int .i64 n] w fun e w' => e = .returned (.tuple #[.agg #[.bool q1, .string q2, .string q3], .int .i64 q4, .bool q5]) ∧ Below w.heap.size w w' := fun w => targumref12_Read.calls N a1 n q1 q2 q3 q4 q5 w hq
      clear hq
      dsimp only at hl
      cases pt
      · rw [if_neg (by decide)] at hl
        cases q5
        · rw [if_neg (by decide)] at hl
          replace hl := Aside0.mk hl
          go_upto_region 9 with (first | ((with_reducible refine (cR _).mono ?_); rintro e w' ⟨rfl, hb⟩; replace H := H.on hb; clear hb) | ((with_reducible refine at_alloc 36 ?_); refine wpList_alloc_H rfl 36 rfl _ (Try.zeroValue36) _ rfl H ?_; intro b13 w1 H1 hb1; replace H := H1; clear H1 hb1) | ((with_reducible refine at_alloc 31 ?_); refine wpList_alloc_H rfl 31 rfl _ (Try.zeroValue31) _ rfl H ?_; intro b15 w1 H1 hb1; replace H := H1; clear H1 hb1) | ((with_reducible refine at_store 36 ?_); refine wpList_store_H rfl 36 _ _ rfl _ _ rfl _ rfl (Try.sizeOf36) rfl (A := []) H (Nat.le_of_ble_eq_true rfl) _ rfl ?_; intro w2 H2 hg2; replace H := H2; clear H2 hg2) | ((with_reducible refine at_store 31 ?_); refine wpList_store_H rfl 31 _ _ rfl _ _ rfl _ rfl (Try.sizeOf31) rfl (A := []) H (Nat.le_of_ble_eq_true rfl) _ rfl ?_; intro w2 H2 hg2; replace H := H2; clear H2 hg2) | ((with_reducible refine at_load 4 ?_); refine wpList_load_H rfl 4 _ rfl (Try.isAgg4) _ _ rfl H (.tail _ (.tail _ (.head _))) _ rfl ?_) | ((with_reducible refine at_load 9 ?_); refine wpList_load_H rfl 9 _ rfl (Try.isAgg9) _ _ rfl H (.tail _ (.tail _ (.head _))) _ rfl ?_) | ((with_reducible refine at_load 3 ?_); refine wpList_load_H rfl 3 _ rfl (Try.isAgg3) _ _ rfl H (.tail _ (.tail _ (.head _))) _ rfl ?_) | ((with_reducible refine at_store 4 ?_); refine wpList_store_H rfl 4 _ _ rfl _ _ rfl _ rfl (Try.sizeOf4) rfl (A := [_, _]) H (Nat.le_of_ble_eq_true rfl) _ rfl ?_; intro w2 H2 hg2; replace H := H2; clear H2 hg2) | ((with_reducible refine at_store 9 ?_); refine wpList_store_H rfl 9 _ _ rfl _ _ rfl _ rfl (Try.sizeOf9) rfl (A := [_, _]) H (Nat.le_of_ble_eq_true rfl) _ rfl ?_; intro w2 H2 hg2; replace H := H2; clear H2 hg2) | ((with_reducible refine at_store 3 ?_); refine wpList_store_H rfl 3 _ _ rfl _ _ rfl _ rfl (Try.sizeOf3) rfl (A := [_, _]) H (Nat.le_of_ble_eq_true rfl) _ rfl ?_; intro w2 H2 hg2; replace H := H2; clear H2 hg2))
          refine wp_region_held (S := Has [(b13, [.int .i64 11, .int .i64 (n : Int)], 36)]) (by kernel_rfl) ?_
          replace H := H.drew1
          refine wpAnyH_takeD (i := 0) (d := 63) rfl rfl (by kernel_rfl) (by kernel_rfl) (by kernel_rfl) (fun _ _ _ h => h) (yields_any (.agg #[.bool false, .bool false, .bool false, .string ⟨#[]⟩, .string ⟨#[]⟩, .string ⟨#[]⟩, .int .i64 0, .int .i64 0, .int .i64 0]) rfl (fun w => by go_simp)) (H.has _ (fun _ hx => by obtain rfl := List.mem_singleton.1 hx; exact (.tail _ (.head _)))) ?_
          simp only [Act.put, List.setIfInBounds_toArray, List.set_cons_zero, List.set_cons_succ]
          refine wpAnyH_takeD (i := 1) (d := 64) rfl rfl (by kernel_rfl) (by kernel_rfl) (by kernel_rfl) (fun _ _ _ h => h) (yields_loads rfl 36 _ rfl (Try.isAgg36) 2 (Try.sizeOf36) b13 rfl _ _ (.head _) rfl) (H.has _ (fun _ hx => by obtain rfl := List.mem_singleton.1 hx; exact (.tail _ (.head _)))) ?_
          simp only [Act.put, List.setIfInBounds_toArray, List.set_cons_zero, List.set_cons_succ]
          refine wpAnyH_all (rs := [2]) (by kernel_rfl) (by decide) (fun i hi => ?_)
          obtain rfl := List.mem_singleton.1 hi; clear hi
          refine wpOp_store_H rfl rfl 33 _ _ rfl b1 0 rfl _ rfl (Try.sizeOf33) rfl (A := [_, _, _, _]) H (Nat.le_of_ble_eq_true rfl) _ rfl rfl ?_
          intro w2 H2; replace H := H2; clear H2; refine ⟨(H.has _ (fun _ hx => by obtain rfl := List.mem_singleton.1 hx; exact (.tail _ (.head _)))), ?_⟩
          refine wpAnyH_takeD (i := 3) (d := 9) rfl rfl (by kernel_rfl) (by kernel_rfl) (by kernel_rfl) (fun _ _ _ h => h) (yields_any (.int .i64 0) rfl (fun w => by go_simp)) (H.has _ (fun _ hx => by obtain rfl := List.mem_singleton.1 hx; exact (.tail _ (.head _)))) ?_
          simp only [Act.put, List.setIfInBounds_toArray, List.set_cons_zero, List.set_cons_succ]
          refine wpAnyH_all (rs := [4]) (by kernel_rfl) (by decide) (fun i hi => ?_)
          obtain rfl := List.mem_singleton.1 hi; clear hi
          refine wpOp_store_H rfl rfl 36 _ _ rfl b2 0 rfl _ rfl (Try.sizeOf36) rfl (A := [_, _, _]) H (Nat.le_of_ble_eq_true rfl) _ rfl rfl ?_
          intro w2 H2; replace H := H2; clear H2; refine ⟨(H.has _ (fun _ hx => by obtain rfl := List.mem_singleton.1 hx; exact (.tail _ (.head _)))), ?_⟩
          refine wpAnyH_done (by kernel_rfl) ?_ _
          try simp only [Act.put, List.setIfInBounds_toArray, List.set_cons_zero, List.set_cons_succ]
          go_wp2_with fail
          replace hl := hl.out
          simp only [Option.some.injEq, Prod.mk.injEq] at hl
          obtain ⟨rfl, rfl, rfl, rfl, rfl, rfl, rfl, rfl, rfl, rfl, rfl, rfl⟩ := hl
          exact bodyPost_ret (targumref17_Props.fin _ _ _ _ _ _ rfl rfl rfl H (.tail _ (.tail _ (.tail _ (.tail _ (.head _))))) (.tail _ (.tail _ (.tail _ (.head _)))) rfl rfl) rfl ⟨rfl, H.below⟩
        · rw [if_pos rfl] at hl
          replace hl := Aside0.mk hl
          go_upto_region 10 with (first | ((with_reducible refine (cR _).mono ?_); rintro e w' ⟨rfl, hb⟩; replace H := H.on hb; clear hb) | ((with_reducible refine at_alloc 36 ?_); refine wpList_alloc_H rfl 36 rfl _ (Try.zeroValue36) _ rfl H ?_; intro b13 w1 H1 hb1; replace H := H1; clear H1 hb1) | ((with_reducible refine at_alloc 31 ?_); refine wpList_alloc_H rfl 31 rfl _ (Try.zeroValue31) _ rfl H ?_; intro b15 w1 H1 hb1; replace H := H1; clear H1 hb1) | ((with_reducible refine at_store 36 ?_); refine wpList_store_H rfl 36 _ _ rfl _ _ rfl _ rfl (Try.sizeOf36) rfl (A := []) H (Nat.le_of_ble_eq_true rfl) _ rfl ?_; intro w2 H2 hg2; replace H := H2; clear H2 hg2) | ((with_reducible refine at_store 31 ?_); refine wpList_store_H rfl 31 _ _ rfl _ _ rfl _ rfl (Try.sizeOf31) rfl (A := []) H (Nat.le_of_ble_eq_true rfl) _ rfl ?_; intro w2 H2 hg2; replace H := H2; clear H2 hg2) | ((with_reducible refine at_load 4 ?_); refine wpList_load_H rfl 4 _ rfl (Try.isAgg4) _ _ rfl H (.tail _ (.tail _ (.head _))) _ rfl ?_) | ((with_reducible refine at_load 9 ?_); refine wpList_load_H rfl 9 _ rfl (Try.isAgg9) _ _ rfl H (.tail _ (.tail _ (.head _))) _ rfl ?_) | ((with_reducible refine at_load 3 ?_); refine wpList_load_H rfl 3 _ rfl (Try.isAgg3) _ _ rfl H (.tail _ (.tail _ (.head _))) _ rfl ?_) | ((with_reducible refine at_store 4 ?_); refine wpList_store_H rfl 4 _ _ rfl _ _ rfl _ rfl (Try.sizeOf4) rfl (A := [_, _]) H (Nat.le_of_ble_eq_true rfl) _ rfl ?_; intro w2 H2 hg2; replace H := H2; clear H2 hg2) | ((with_reducible refine at_store 9 ?_); refine wpList_store_H rfl 9 _ _ rfl _ _ rfl _ rfl (Try.sizeOf9) rfl (A := [_, _]) H (Nat.le_of_ble_eq_true rfl) _ rfl ?_; intro w2 H2 hg2; replace H := H2; clear H2 hg2) | ((with_reducible refine at_store 3 ?_); refine wpList_store_H rfl 3 _ _ rfl _ _ rfl _ rfl (Try.sizeOf3) rfl (A := [_, _]) H (Nat.le_of_ble_eq_true rfl) _ rfl ?_; intro w2 H2 hg2; replace H := H2; clear H2 hg2))
          refine wp_region_held (S := Has [(b15, [.bool q1, .string q2, .string q3], 31)]) (by kernel_rfl) ?_
          replace H := H.drew1
          refine wpAnyH_takeD (i := 0) (d := 65) rfl rfl (by kernel_rfl) (by kernel_rfl) (by kernel_rfl) (fun _ _ _ h => h) (yields_loads rfl 31 _ rfl (Try.isAgg31) 3 (Try.sizeOf31) b15 rfl _ _ (.head _) rfl) (H.has _ (fun _ hx => by obtain rfl := List.mem_singleton.1 hx; exact .head _)) ?_
          simp only [Act.put, List.setIfInBounds_toArray, List.set_cons_zero, List.set_cons_succ]
          refine wpAnyH_takeD (i := 1) (d := 66) rfl rfl (by kernel_rfl) (by kernel_rfl) (by kernel_rfl) (fun _ _ _ h => h) (yields_any (.int .i64 q4) rfl (fun w => by go_simp)) (H.has _ (fun _ hx => by obtain rfl := List.mem_singleton.1 hx; exact .head _)) ?_
          simp only [Act.put, List.setIfInBounds_toArray, List.set_cons_zero, List.set_cons_succ]
          refine wpAnyH_takeD (i := 2) (d := 67) rfl rfl (by kernel_rfl) (by kernel_rfl) (by kernel_rfl) (fun _ _ _ h => h) (yields_any (.pointer (some ⟨b3, 1, none⟩)) rfl (fun w => by go_simp)) (H.has _ (fun _ hx => by obtain rfl := List.mem_singleton.1 hx; exact .head _)) ?_
          simp only [Act.put, List.setIfInBounds_toArray, List.set_cons_zero, List.set_cons_succ]
          refine wpAnyH_all (rs := [3]) (by kernel_rfl) (by decide) (fun i hi => ?_)
          obtain rfl := List.mem_singleton.1 hi; clear hi
          refine wpOp_store_H rfl rfl 4 _ _ rfl b3 1 rfl _ rfl (Try.sizeOf4) rfl (A := [_, _]) H (Nat.le_of_ble_eq_true rfl) _ rfl rfl ?_
          intro w2 H2; replace H := H2; clear H2; refine ⟨(H.has _ (fun _ hx => by obtain rfl := List.mem_singleton.1 hx; exact .head _)), ?_⟩
          refine wpAnyH_takeD (i := 4) (d := 68) rfl rfl (by kernel_rfl) (by kernel_rfl) (by kernel_rfl) (fun _ _ _ h => h) (yields_any (.pointer (some ⟨b3, 2, none⟩)) rfl (fun w => by go_simp)) (H.has _ (fun _ hx => by obtain rfl := List.mem_singleton.1 hx; exact .head _)) ?_
          simp only [Act.put, List.setIfInBounds_toArray, List.set_cons_zero, List.set_cons_succ]
          refine wpAnyH_all (rs := [5]) (by kernel_rfl) (by decide) (fun i hi => ?_)
          obtain rfl := List.mem_singleton.1 hi; clear hi
          refine wpOp_store_H rfl rfl 31 _ _ rfl b3 2 rfl _ rfl (Try.sizeOf31) rfl (A := [_, _]) H (Nat.le_of_ble_eq_true rfl) _ rfl rfl ?_
          intro w2 H2; replace H := H2; clear H2; refine ⟨(H.has _ (fun _ hx => by obtain rfl := List.mem_singleton.1 hx; exact .head _)), ?_⟩
          refine wpAnyH_takeD (i := 6) (d := 14) rfl rfl (by kernel_rfl) (by kernel_rfl) (by kernel_rfl) (fun _ _ _ h => h) (yields_any (.int .i64 q4) rfl (fun w => by go_simp)) (H.has _ (fun _ hx => by obtain rfl := List.mem_singleton.1 hx; exact .head _)) ?_
          simp only [Act.put, List.setIfInBounds_toArray, List.set_cons_zero, List.set_cons_succ]
          refine wpAnyH_done (by kernel_rfl) ?_ _
          try simp only [Act.put, List.setIfInBounds_toArray, List.set_cons_zero, List.set_cons_succ]
          replace hl := hl.out
          cases N with
          | zero => simp [targumref17_Props.j2] at hl
          | succ N =>
          rw [targumref17_Props.j2] at hl
          cases hst : targumref17_Stop.f N a0 a1 q4 a3 with
          | none => rw [hst] at hl; cases hl
          | some st =>
          rw [hst, Option.bind_some] at hl
          have cS : ∀ w, Calls Try.prog 28 #[.int .i64 a0, .string a1, .int .i64 q4, .bool a3] w fun e w' => e = .returned (.bool st) ∧ Drawn0 w w' := fun w => targumref17_Stop.calls N a0 a1 q4 a3 st w hst
          clear hst
          cases st
          · rw [if_neg (by decide)] at hl
            replace hl := Aside0.mk hl
            go_upto_region 16 with (first | ((with_reducible refine (cS _).mono ?_); rintro e w' ⟨rfl, ⟨n1, rfl⟩⟩; replace H := H.drewN n1) | ((with_reducible refine at_load 4 ?_); refine wpList_load_H rfl 4 _ rfl (Try.isAgg4) _ _ rfl H (.tail _ (.tail _ (.head _))) _ rfl ?_) | ((with_reducible refine at_load 9 ?_); refine wpList_load_H rfl 9 _ rfl (Try.isAgg9) _ _ rfl H (.tail _ (.tail _ (.head _))) _ rfl ?_) | ((with_reducible refine at_load 3 ?_); refine wpList_load_H rfl 3 _ rfl (Try.isAgg3) _ _ rfl H (.tail _ (.tail _ (.head _))) _ rfl ?_) | ((with_reducible refine at_store 4 ?_); refine wpList_store_H rfl 4 _ _ rfl _ _ rfl _ rfl (Try.sizeOf4) rfl (A := [_, _]) H (Nat.le_of_ble_eq_true rfl) _ rfl ?_; intro w2 H2 hg2; replace H := H2; clear H2 hg2) | ((with_reducible refine at_store 9 ?_); refine wpList_store_H rfl 9 _ _ rfl _ _ rfl _ rfl (Try.sizeOf9) rfl (A := [_, _]) H (Nat.le_of_ble_eq_true rfl) _ rfl ?_; intro w2 H2 hg2; replace H := H2; clear H2 hg2) | ((with_reducible refine at_store 3 ?_); refine wpList_store_H rfl 3 _ _ rfl _ _ rfl _ rfl (Try.sizeOf3) rfl (A := [_, _]) H (Nat.le_of_ble_eq_true rfl) _ rfl ?_; intro w2 H2 hg2; replace H := H2; clear H2 hg2))
            refine wp_region_held (S := Has [(b13, [.int .i64 11, .int .i64 (n : Int)], 36)]) (by kernel_rfl) ?_
            replace H := H.drew1
            refine wpAnyH_takeD (i := 0) (d := 104) rfl rfl (by kernel_rfl) (by kernel_rfl) (by kernel_rfl) (fun _ _ _ h => h) (yields_any (.agg #[.bool false, .bool false, .bool false, .string ⟨#[]⟩, .string ⟨#[]⟩, .string ⟨#[]⟩, .int .i64 0, .int .i64 0, .int .i64 0]) rfl (fun w => by go_simp)) (H.has _ (fun _ hx => by obtain rfl := List.mem_singleton.1 hx; exact (.tail _ (.head _)))) ?_
            simp only [Act.put, List.setIfInBounds_toArray, List.set_cons_zero, List.set_cons_succ]
            refine wpAnyH_takeD (i := 1) (d := 105) rfl rfl (by kernel_rfl) (by kernel_rfl) (by kernel_rfl) (fun _ _ _ h => h) (yields_loads rfl 36 _ rfl (Try.isAgg36) 2 (Try.sizeOf36) b13 rfl _ _ (.head _) rfl) (H.has _ (fun _ hx => by obtain rfl := List.mem_singleton.1 hx; exact (.tail _ (.head _)))) ?_
            simp only [Act.put, List.setIfInBounds_toArray, List.set_cons_zero, List.set_cons_succ]
            refine wpAnyH_all (rs := [2]) (by kernel_rfl) (by decide) (fun i hi => ?_)
            obtain rfl := List.mem_singleton.1 hi; clear hi
            refine wpOp_store_H rfl rfl 33 _ _ rfl b1 0 rfl _ rfl (Try.sizeOf33) rfl (A := [_, _, _, _]) H (Nat.le_of_ble_eq_true rfl) _ rfl rfl ?_
            intro w2 H2; replace H := H2; clear H2; refine ⟨(H.has _ (fun _ hx => by obtain rfl := List.mem_singleton.1 hx; exact (.tail _ (.head _)))), ?_⟩
            refine wpAnyH_takeD (i := 3) (d := 9) rfl rfl (by kernel_rfl) (by kernel_rfl) (by kernel_rfl) (fun _ _ _ h => h) (yields_any (.int .i64 0) rfl (fun w => by go_simp)) (H.has _ (fun _ hx => by obtain rfl := List.mem_singleton.1 hx; exact (.tail _ (.head _)))) ?_
            simp only [Act.put, List.setIfInBounds_toArray, List.set_cons_zero, List.set_cons_succ]
            refine wpAnyH_all (rs := [4]) (by kernel_rfl) (by decide) (fun i hi => ?_)
            obtain rfl := List.mem_singleton.1 hi; clear hi
            refine wpOp_store_H rfl rfl 36 _ _ rfl b2 0 rfl _ rfl (Try.sizeOf36) rfl (A := [_, _, _]) H (Nat.le_of_ble_eq_true rfl) _ rfl rfl ?_
            intro w2 H2; replace H := H2; clear H2; refine ⟨(H.has _ (fun _ hx => by obtain rfl := List.mem_singleton.1 hx; exact (.tail _ (.head _)))), ?_⟩
            refine wpAnyH_done (by kernel_rfl) ?_ _
            try simp only [Act.put, List.setIfInBounds_toArray, List.set_cons_zero, List.set_cons_succ]
            go_wp2_with fail
            replace hl := hl.out
            simp only [Option.some.injEq, Prod.mk.injEq] at hl
            obtain ⟨rfl, rfl, rfl, rfl, rfl, rfl, rfl, rfl, rfl, rfl, rfl, rfl⟩ := hl
            exact bodyPost_ret (targumref17_Props.fin _ _ _ _ _ _ rfl rfl rfl H (.tail _ (.tail _ (.tail _ (.tail _ (.head _))))) (.tail _ (.tail _ (.tail _ (.head _)))) rfl rfl) rfl ⟨rfl, H.below⟩
          · rw [if_pos rfl] at hl
            cases ho : targumref17_over.f N a1 q4 with
            | none => rw [ho] at hl; cases hl
            | some ov =>
            rw [ho, Option.bind_some] at hl
            have cO : ∀ w, Calls Try.prog 29 #[.string a1, .int .i64 q4] w fun e w' => e = .returned (.int .i64 ov) ∧ Drawn0 w w' := fun w => targumref17_over.calls N a1 q4 ov w ho
            clear ho
            replace hl := Aside0.mk hl
            go_wp2_with (first | ((with_reducible refine (cS _).mono ?_); rintro e w' ⟨rfl, ⟨n1, rfl⟩⟩; replace H := H.drewN n1) | ((with_reducible refine (cO _).mono ?_); rintro e w' ⟨rfl, ⟨n1, rfl⟩⟩; replace H := H.drewN n1) | ((with_reducible refine at_load 4 ?_); refine wpList_load_H rfl 4 _ rfl (Try.isAgg4) _ _ rfl H (.tail _ (.tail _ (.head _))) _ rfl ?_) | ((with_reducible refine at_load 9 ?_); refine wpList_load_H rfl 9 _ rfl (Try.isAgg9) _ _ rfl H (.tail _ (.tail _ (.head _))) _ rfl ?_) | ((with_reducible refine at_load 3 ?_); refine wpList_load_H rfl 3 _ rfl (Try.isAgg3) _ _ rfl H (.tail _ (.tail _ (.head _))) _ rfl ?_) | ((with_reducible refine at_store 4 ?_); refine wpList_store_H rfl 4 _ _ rfl _ _ rfl _ rfl (Try.sizeOf4) rfl (A := [_, _]) H (Nat.le_of_ble_eq_true rfl) _ rfl ?_; intro w2 H2 hg2; replace H := H2; clear H2 hg2) | ((with_reducible refine at_store 9 ?_); refine wpList_store_H rfl 9 _ _ rfl _ _ rfl _ rfl (Try.sizeOf9) rfl (A := [_, _]) H (Nat.le_of_ble_eq_true rfl) _ rfl ?_; intro w2 H2 hg2; replace H := H2; clear H2 hg2) | ((with_reducible refine at_store 3 ?_); refine wpList_store_H rfl 3 _ _ rfl _ _ rfl _ rfl (Try.sizeOf3) rfl (A := [_, _]) H (Nat.le_of_ble_eq_true rfl) _ rfl ?_; intro w2 H2 hg2; replace H := H2; clear H2 hg2))
            refine Handed.intro N (by omega) (hJ' _ _ _ ⟨b3, targumref17_Props.J.mk ⟨_, _, _, _, _, _, _, _, _⟩ _ _ (by rfl) H.tail.tail hl.out⟩)
      · rw [if_pos rfl] at hl
        replace hl := Aside0.mk hl
        go_upto_region 9 with (first | ((with_reducible refine (cR _).mono ?_); rintro e w' ⟨rfl, hb⟩; replace H := H.on hb; clear hb) | ((with_reducible refine at_alloc 36 ?_); refine wpList_alloc_H rfl 36 rfl _ (Try.zeroValue36) _ rfl H ?_; intro b13 w1 H1 hb1; replace H := H1; clear H1 hb1) | ((with_reducible refine at_alloc 31 ?_); refine wpList_alloc_H rfl 31 rfl _ (Try.zeroValue31) _ rfl H ?_; intro b15 w1 H1 hb1; replace H := H1; clear H1 hb1) | ((with_reducible refine at_store 36 ?_); refine wpList_store_H rfl 36 _ _ rfl _ _ rfl _ rfl (Try.sizeOf36) rfl (A := []) H (Nat.le_of_ble_eq_true rfl) _ rfl ?_; intro w2 H2 hg2; replace H := H2; clear H2 hg2) | ((with_reducible refine at_store 31 ?_); refine wpList_store_H rfl 31 _ _ rfl _ _ rfl _ rfl (Try.sizeOf31) rfl (A := []) H (Nat.le_of_ble_eq_true rfl) _ rfl ?_; intro w2 H2 hg2; replace H := H2; clear H2 hg2) | ((with_reducible refine at_load 4 ?_); refine wpList_load_H rfl 4 _ rfl (Try.isAgg4) _ _ rfl H (.tail _ (.tail _ (.head _))) _ rfl ?_) | ((with_reducible refine at_load 9 ?_); refine wpList_load_H rfl 9 _ rfl (Try.isAgg9) _ _ rfl H (.tail _ (.tail _ (.head _))) _ rfl ?_) | ((with_reducible refine at_load 3 ?_); refine wpList_load_H rfl 3 _ rfl (Try.isAgg3) _ _ rfl H (.tail _ (.tail _ (.head _))) _ rfl ?_) | ((with_reducible refine at_store 4 ?_); refine wpList_store_H rfl 4 _ _ rfl _ _ rfl _ rfl (Try.sizeOf4) rfl (A := [_, _]) H (Nat.le_of_ble_eq_true rfl) _ rfl ?_; intro w2 H2 hg2; replace H := H2; clear H2 hg2) | ((with_reducible refine at_store 9 ?_); refine wpList_store_H rfl 9 _ _ rfl _ _ rfl _ rfl (Try.sizeOf9) rfl (A := [_, _]) H (Nat.le_of_ble_eq_true rfl) _ rfl ?_; intro w2 H2 hg2; replace H := H2; clear H2 hg2) | ((with_reducible refine at_store 3 ?_); refine wpList_store_H rfl 3 _ _ rfl _ _ rfl _ rfl (Try.sizeOf3) rfl (A := [_, _]) H (Nat.le_of_ble_eq_true rfl) _ rfl ?_; intro w2 H2 hg2; replace H := H2; clear H2 hg2))
        refine wp_region_held (S := Has [(b13, [.int .i64 11, .int .i64 (n : Int)], 36)]) (by kernel_rfl) ?_
        replace H := H.drew1
        refine wpAnyH_takeD (i := 0) (d := 63) rfl rfl (by kernel_rfl) (by kernel_rfl) (by kernel_rfl) (fun _ _ _ h => h) (yields_any (.agg #[.bool false, .bool false, .bool false, .string ⟨#[]⟩, .string ⟨#[]⟩, .string ⟨#[]⟩, .int .i64 0, .int .i64 0, .int .i64 0]) rfl (fun w => by go_simp)) (H.has _ (fun _ hx => by obtain rfl := List.mem_singleton.1 hx; exact (.tail _ (.head _)))) ?_
        simp only [Act.put, List.setIfInBounds_toArray, List.set_cons_zero, List.set_cons_succ]
        refine wpAnyH_takeD (i := 1) (d := 64) rfl rfl (by kernel_rfl) (by kernel_rfl) (by kernel_rfl) (fun _ _ _ h => h) (yields_loads rfl 36 _ rfl (Try.isAgg36) 2 (Try.sizeOf36) b13 rfl _ _ (.head _) rfl) (H.has _ (fun _ hx => by obtain rfl := List.mem_singleton.1 hx; exact (.tail _ (.head _)))) ?_
        simp only [Act.put, List.setIfInBounds_toArray, List.set_cons_zero, List.set_cons_succ]
        refine wpAnyH_all (rs := [2]) (by kernel_rfl) (by decide) (fun i hi => ?_)
        obtain rfl := List.mem_singleton.1 hi; clear hi
        refine wpOp_store_H rfl rfl 33 _ _ rfl b1 0 rfl _ rfl (Try.sizeOf33) rfl (A := [_, _, _, _]) H (Nat.le_of_ble_eq_true rfl) _ rfl rfl ?_
        intro w2 H2; replace H := H2; clear H2; refine ⟨(H.has _ (fun _ hx => by obtain rfl := List.mem_singleton.1 hx; exact (.tail _ (.head _)))), ?_⟩
        refine wpAnyH_takeD (i := 3) (d := 9) rfl rfl (by kernel_rfl) (by kernel_rfl) (by kernel_rfl) (fun _ _ _ h => h) (yields_any (.int .i64 0) rfl (fun w => by go_simp)) (H.has _ (fun _ hx => by obtain rfl := List.mem_singleton.1 hx; exact (.tail _ (.head _)))) ?_
        simp only [Act.put, List.setIfInBounds_toArray, List.set_cons_zero, List.set_cons_succ]
        refine wpAnyH_all (rs := [4]) (by kernel_rfl) (by decide) (fun i hi => ?_)
        obtain rfl := List.mem_singleton.1 hi; clear hi
        refine wpOp_store_H rfl rfl 36 _ _ rfl b2 0 rfl _ rfl (Try.sizeOf36) rfl (A := [_, _, _]) H (Nat.le_of_ble_eq_true rfl) _ rfl rfl ?_
        intro w2 H2; replace H := H2; clear H2; refine ⟨(H.has _ (fun _ hx => by obtain rfl := List.mem_singleton.1 hx; exact (.tail _ (.head _)))), ?_⟩
        refine wpAnyH_done (by kernel_rfl) ?_ _
        try simp only [Act.put, List.setIfInBounds_toArray, List.set_cons_zero, List.set_cons_succ]
        go_wp2_with fail
        replace hl := hl.out
        simp only [Option.some.injEq, Prod.mk.injEq] at hl
        obtain ⟨rfl, rfl, rfl, rfl, rfl, rfl, rfl, rfl, rfl, rfl, rfl, rfl⟩ := hl
        exact bodyPost_ret (targumref17_Props.fin _ _ _ _ _ _ rfl rfl rfl H (.tail _ (.tail _ (.tail _ (.tail _ (.head _))))) (.tail _ (.tail _ (.tail _ (.head _)))) rfl rfl) rfl ⟨rfl, H.below⟩
    · rw [if_neg h33] at hl
      have f33 : (((a1[n]).toNat : Int) == 33) = false := by rw [beq_eq_false_iff_ne]; exact h33
      by_cases h38 : ((a1[n]).toNat : Int) = 38
      · have f38 : (((a1[n]).toNat : Int) == 38) = true := by rw [beq_iff_eq]; exact h38
        rw [f38, if_pos rfl, if_neg h33] at hl
        clear h38 h33 eb hlt
        have ew : wrap64 ((n : Int) + 1) = (n : Int) + 1 := wrap_id (by omega) (by omega)
        rw [ew] at hl
        cases hq : targumref17_name.f N a1 ((n : Int) + 1) with
        | none => rw [hq] at hl; cases hl
        | some m =>
        rw [hq, Option.bind_some] at hl
        have cN : ∀ w, Calls Try.prog 27 #[.string a1, .int .i64 ((n : Int) + 1)] w fun e' w' => e' = .returned (.int .i64 m) ∧ Drawn0 w w' := fun w => targumref17_name.calls N a1 ((n : Int) + 1) m w hq
        clear hq
        by_cases hpn : pnm > 0
        · rw [if_pos hpn] at hl
          have hpn' : decide (0 < pnm) = true := decide_eq_true hpn
          clear hpn
          replace hl := Aside0.mk hl
          go_upto_region 13 with (first | ((with_reducible refine (cN _).mono ?_); rintro e w' ⟨rfl, ⟨n1, rfl⟩⟩; replace H := H.drewN n1) | ((with_reducible refine at_alloc 36 ?_); refine wpList_alloc_H rfl 36 rfl _ (Try.zeroValue36) _ rfl H ?_; intro b13 w1 H1 hb1; replace H := H1; clear H1 hb1) | ((with_reducible refine at_store 36 ?_); refine wpList_store_H rfl 36 _ _ rfl _ _ rfl _ rfl (Try.sizeOf36) rfl (A := []) H (Nat.le_of_ble_eq_true rfl) _ rfl ?_; intro w2 H2 hg2; replace H := H2; clear H2 hg2) | ((with_reducible refine at_load 4 ?_); refine wpList_load_H rfl 4 _ rfl (Try.isAgg4) _ _ rfl H (.tail _ (.head _)) _ rfl ?_) | ((with_reducible refine at_load 9 ?_); refine wpList_load_H rfl 9 _ rfl (Try.isAgg9) _ _ rfl H (.tail _ (.head _)) _ rfl ?_) | ((with_reducible refine at_load 3 ?_); refine wpList_load_H rfl 3 _ rfl (Try.isAgg3) _ _ rfl H (.tail _ (.head _)) _ rfl ?_) | ((with_reducible refine at_store 4 ?_); refine wpList_store_H rfl 4 _ _ rfl _ _ rfl _ rfl (Try.sizeOf4) rfl (A := [_]) H (Nat.le_of_ble_eq_true rfl) _ rfl ?_; intro w2 H2 hg2; replace H := H2; clear H2 hg2) | ((with_reducible refine at_store 9 ?_); refine wpList_store_H rfl 9 _ _ rfl _ _ rfl _ rfl (Try.sizeOf9) rfl (A := [_]) H (Nat.le_of_ble_eq_true rfl) _ rfl ?_; intro w2 H2 hg2; replace H := H2; clear H2 hg2) | ((with_reducible refine at_store 3 ?_); refine wpList_store_H rfl 3 _ _ rfl _ _ rfl _ rfl (Try.sizeOf3) rfl (A := [_]) H (Nat.le_of_ble_eq_true rfl) _ rfl ?_; intro w2 H2 hg2; replace H := H2; clear H2 hg2))
          refine wp_region_held (S := Has [(b13, [.int .i64 11, .int .i64 (n : Int)], 36)]) (by kernel_rfl) ?_
          replace H := H.drew1
          refine wpAnyH_takeD (i := 0) (d := 80) rfl rfl (by kernel_rfl) (by kernel_rfl) (by kernel_rfl) (fun _ _ _ h => h) (yields_any (.agg #[.bool false, .bool false, .bool false, .string ⟨#[]⟩, .string ⟨#[]⟩, .string ⟨#[]⟩, .int .i64 0, .int .i64 0, .int .i64 0]) rfl (fun w => by go_simp)) (H.has _ (fun _ hx => by obtain rfl := List.mem_singleton.1 hx; exact (.head _))) ?_
          simp only [Act.put, List.setIfInBounds_toArray, List.set_cons_zero, List.set_cons_succ]
          refine wpAnyH_takeD (i := 1) (d := 81) rfl rfl (by kernel_rfl) (by kernel_rfl) (by kernel_rfl) (fun _ _ _ h => h) (yields_loads rfl 36 _ rfl (Try.isAgg36) 2 (Try.sizeOf36) b13 rfl _ _ (.head _) rfl) (H.has _ (fun _ hx => by obtain rfl := List.mem_singleton.1 hx; exact (.head _))) ?_
          simp only [Act.put, List.setIfInBounds_toArray, List.set_cons_zero, List.set_cons_succ]
          refine wpAnyH_all (rs := [2]) (by kernel_rfl) (by decide) (fun i hi => ?_)
          obtain rfl := List.mem_singleton.1 hi; clear hi
          refine wpOp_store_H rfl rfl 33 _ _ rfl b1 0 rfl _ rfl (Try.sizeOf33) rfl (A := [_, _, _]) H (Nat.le_of_ble_eq_true rfl) _ rfl rfl ?_
          intro w2 H2; replace H := H2; clear H2; refine ⟨(H.has _ (fun _ hx => by obtain rfl := List.mem_singleton.1 hx; exact (.head _))), ?_⟩
          refine wpAnyH_takeD (i := 3) (d := 9) rfl rfl (by kernel_rfl) (by kernel_rfl) (by kernel_rfl) (fun _ _ _ h => h) (yields_any (.int .i64 0) rfl (fun w => by go_simp)) (H.has _ (fun _ hx => by obtain rfl := List.mem_singleton.1 hx; exact (.head _))) ?_
          simp only [Act.put, List.setIfInBounds_toArray, List.set_cons_zero, List.set_cons_succ]
          refine wpAnyH_all (rs := [4]) (by kernel_rfl) (by decide) (fun i hi => ?_)
          obtain rfl := List.mem_singleton.1 hi; clear hi
          refine wpOp_store_H rfl rfl 36 _ _ rfl b2 0 rfl _ rfl (Try.sizeOf36) rfl (A := [_, _]) H (Nat.le_of_ble_eq_true rfl) _ rfl rfl ?_
          intro w2 H2; replace H := H2; clear H2; refine ⟨(H.has _ (fun _ hx => by obtain rfl := List.mem_singleton.1 hx; exact (.head _))), ?_⟩
          refine wpAnyH_done (by kernel_rfl) ?_ _
          try simp only [Act.put, List.setIfInBounds_toArray, List.set_cons_zero, List.set_cons_succ]
          go_wp2_with fail
          replace hl := hl.out
          simp only [Option.some.injEq, Prod.mk.injEq] at hl
          obtain ⟨rfl, rfl, rfl, rfl, rfl, rfl, rfl, rfl, rfl, rfl, rfl, rfl⟩ := hl
          exact bodyPost_ret (targumref17_Props.fin _ _ _ _ _ _ rfl rfl rfl H (.tail _ (.tail _ (.tail _ (.head _)))) (.tail _ (.tail _ (.head _))) rfl rfl) rfl ⟨rfl, H.below⟩
        · rw [if_neg hpn] at hl
          have hpn' : decide (0 < pnm) = false := decide_eq_false (by omega)
          clear hpn
          by_cases hm : m = 0
          · rw [if_pos hm] at hl
            subst hm
            replace hl := Aside0.mk hl
            go_upto_region 13 with (first | ((with_reducible refine (cN _).mono ?_); rintro e w' ⟨rfl, ⟨n1, rfl⟩⟩; replace H := H.drewN n1) | ((with_reducible refine at_alloc 36 ?_); refine wpList_alloc_H rfl 36 rfl _ (Try.zeroValue36) _ rfl H ?_; intro b13 w1 H1 hb1; replace H := H1; clear H1 hb1) | ((with_reducible refine at_store 36 ?_); refine wpList_store_H rfl 36 _ _ rfl _ _ rfl _ rfl (Try.sizeOf36) rfl (A := []) H (Nat.le_of_ble_eq_true rfl) _ rfl ?_; intro w2 H2 hg2; replace H := H2; clear H2 hg2) | ((with_reducible refine at_load 4 ?_); refine wpList_load_H rfl 4 _ rfl (Try.isAgg4) _ _ rfl H (.tail _ (.head _)) _ rfl ?_) | ((with_reducible refine at_load 9 ?_); refine wpList_load_H rfl 9 _ rfl (Try.isAgg9) _ _ rfl H (.tail _ (.head _)) _ rfl ?_) | ((with_reducible refine at_load 3 ?_); refine wpList_load_H rfl 3 _ rfl (Try.isAgg3) _ _ rfl H (.tail _ (.head _)) _ rfl ?_) | ((with_reducible refine at_store 4 ?_); refine wpList_store_H rfl 4 _ _ rfl _ _ rfl _ rfl (Try.sizeOf4) rfl (A := [_]) H (Nat.le_of_ble_eq_true rfl) _ rfl ?_; intro w2 H2 hg2; replace H := H2; clear H2 hg2) | ((with_reducible refine at_store 9 ?_); refine wpList_store_H rfl 9 _ _ rfl _ _ rfl _ rfl (Try.sizeOf9) rfl (A := [_]) H (Nat.le_of_ble_eq_true rfl) _ rfl ?_; intro w2 H2 hg2; replace H := H2; clear H2 hg2) | ((with_reducible refine at_store 3 ?_); refine wpList_store_H rfl 3 _ _ rfl _ _ rfl _ rfl (Try.sizeOf3) rfl (A := [_]) H (Nat.le_of_ble_eq_true rfl) _ rfl ?_; intro w2 H2 hg2; replace H := H2; clear H2 hg2))
            refine wp_region_held (S := Has [(b13, [.int .i64 11, .int .i64 (n : Int)], 36)]) (by kernel_rfl) ?_
            replace H := H.drew1
            refine wpAnyH_takeD (i := 0) (d := 80) rfl rfl (by kernel_rfl) (by kernel_rfl) (by kernel_rfl) (fun _ _ _ h => h) (yields_any (.agg #[.bool false, .bool false, .bool false, .string ⟨#[]⟩, .string ⟨#[]⟩, .string ⟨#[]⟩, .int .i64 0, .int .i64 0, .int .i64 0]) rfl (fun w => by go_simp)) (H.has _ (fun _ hx => by obtain rfl := List.mem_singleton.1 hx; exact (.head _))) ?_
            simp only [Act.put, List.setIfInBounds_toArray, List.set_cons_zero, List.set_cons_succ]
            refine wpAnyH_takeD (i := 1) (d := 81) rfl rfl (by kernel_rfl) (by kernel_rfl) (by kernel_rfl) (fun _ _ _ h => h) (yields_loads rfl 36 _ rfl (Try.isAgg36) 2 (Try.sizeOf36) b13 rfl _ _ (.head _) rfl) (H.has _ (fun _ hx => by obtain rfl := List.mem_singleton.1 hx; exact (.head _))) ?_
            simp only [Act.put, List.setIfInBounds_toArray, List.set_cons_zero, List.set_cons_succ]
            refine wpAnyH_all (rs := [2]) (by kernel_rfl) (by decide) (fun i hi => ?_)
            obtain rfl := List.mem_singleton.1 hi; clear hi
            refine wpOp_store_H rfl rfl 33 _ _ rfl b1 0 rfl _ rfl (Try.sizeOf33) rfl (A := [_, _, _]) H (Nat.le_of_ble_eq_true rfl) _ rfl rfl ?_
            intro w2 H2; replace H := H2; clear H2; refine ⟨(H.has _ (fun _ hx => by obtain rfl := List.mem_singleton.1 hx; exact (.head _))), ?_⟩
            refine wpAnyH_takeD (i := 3) (d := 9) rfl rfl (by kernel_rfl) (by kernel_rfl) (by kernel_rfl) (fun _ _ _ h => h) (yields_any (.int .i64 0) rfl (fun w => by go_simp)) (H.has _ (fun _ hx => by obtain rfl := List.mem_singleton.1 hx; exact (.head _))) ?_
            simp only [Act.put, List.setIfInBounds_toArray, List.set_cons_zero, List.set_cons_succ]
            refine wpAnyH_all (rs := [4]) (by kernel_rfl) (by decide) (fun i hi => ?_)
            obtain rfl := List.mem_singleton.1 hi; clear hi
            refine wpOp_store_H rfl rfl 36 _ _ rfl b2 0 rfl _ rfl (Try.sizeOf36) rfl (A := [_, _]) H (Nat.le_of_ble_eq_true rfl) _ rfl rfl ?_
            intro w2 H2; replace H := H2; clear H2; refine ⟨(H.has _ (fun _ hx => by obtain rfl := List.mem_singleton.1 hx; exact (.head _))), ?_⟩
            refine wpAnyH_done (by kernel_rfl) ?_ _
            try simp only [Act.put, List.setIfInBounds_toArray, List.set_cons_zero, List.set_cons_succ]
            go_wp2_with fail
            replace hl := hl.out
            simp only [Option.some.injEq, Prod.mk.injEq] at hl
            obtain ⟨rfl, rfl, rfl, rfl, rfl, rfl, rfl, rfl, rfl, rfl, rfl, rfl⟩ := hl
            exact bodyPost_ret (targumref17_Props.fin _ _ _ _ _ _ rfl rfl rfl H (.tail _ (.tail _ (.tail _ (.head _)))) (.tail _ (.tail _ (.head _))) rfl rfl) rfl ⟨rfl, H.below⟩
          · rw [if_neg hm] at hl
            have fm : (m == 0) = false := by rw [beq_eq_false_iff_ne]; exact hm
            clear hm
            rw [if_pos (show (0 : Int) ≤ (n : Int) + 1 by omega)] at hl
            by_cases g6 : (n : Int) + 1 ≤ wrap64 ((n : Int) + 1 + m)
            case neg => rw [if_neg g6] at hl; cases hl
            rw [if_pos g6] at hl
            by_cases g7 : wrap64 ((n : Int) + 1 + m) ≤ (a1.size : Int)
            case neg => rw [if_neg g7] at hl; cases hl
            rw [if_pos g7] at hl
            obtain ⟨e, he⟩ : ∃ e : Nat, wrap64 ((n : Int) + 1 + m) = e := ⟨(wrap64 ((n : Int) + 1 + m)).toNat, by omega⟩
            rw [he] at hl g6 g7
            have g3 : ((n : Int) + 1).toNat = n + 1 := by omega
            have g5 : (0 : Int) ≤ (n : Int) + 1 := by omega
            have hen2 : e ≤ a1.size := by omega
            have hsl : ∀ w, (Instr.slice 9 (.string a1) (some (.int .i64 ((n : Int) + 1))) (some (.int .i64 e)) none).run Try.prog w = .ok (.string (a1.extract (n + 1) e)) w := fun w => by
              simp [Instr.slice, Instr.sliceBounds, Instr.sliceBound, run_underlying Try.underlying9, asIntOf, g3, g5, g6, g7, hen2]
            rw [g3, Int.toNat_natCast] at hl
            replace hl := Aside0.mk hl
            go_upto_region 14 with (first | ((with_reducible refine (cN _).mono ?_); rintro e w' ⟨rfl, ⟨n1, rfl⟩⟩; replace H := H.drewN n1) | ((with_reducible refine at_alloc 36 ?_); refine wpList_alloc_H rfl 36 rfl _ (Try.zeroValue36) _ rfl H ?_; intro b13 w1 H1 hb1; replace H := H1; clear H1 hb1) | ((with_reducible refine at_store 36 ?_); refine wpList_store_H rfl 36 _ _ rfl _ _ rfl _ rfl (Try.sizeOf36) rfl (A := []) H (Nat.le_of_ble_eq_true rfl) _ rfl ?_; intro w2 H2 hg2; replace H := H2; clear H2 hg2) | ((with_reducible refine at_load 4 ?_); refine wpList_load_H rfl 4 _ rfl (Try.isAgg4) _ _ rfl H (.tail _ (.head _)) _ rfl ?_) | ((with_reducible refine at_load 9 ?_); refine wpList_load_H rfl 9 _ rfl (Try.isAgg9) _ _ rfl H (.tail _ (.head _)) _ rfl ?_) | ((with_reducible refine at_load 3 ?_); refine wpList_load_H rfl 3 _ rfl (Try.isAgg3) _ _ rfl H (.tail _ (.head _)) _ rfl ?_) | ((with_reducible refine at_store 4 ?_); refine wpList_store_H rfl 4 _ _ rfl _ _ rfl _ rfl (Try.sizeOf4) rfl (A := [_]) H (Nat.le_of_ble_eq_true rfl) _ rfl ?_; intro w2 H2 hg2; replace H := H2; clear H2 hg2) | ((with_reducible refine at_store 9 ?_); refine wpList_store_H rfl 9 _ _ rfl _ _ rfl _ rfl (Try.sizeOf9) rfl (A := [_]) H (Nat.le_of_ble_eq_true rfl) _ rfl ?_; intro w2 H2 hg2; replace H := H2; clear H2 hg2) | ((with_reducible refine at_store 3 ?_); refine wpList_store_H rfl 3 _ _ rfl _ _ rfl _ rfl (Try.sizeOf3) rfl (A := [_]) H (Nat.le_of_ble_eq_true rfl) _ rfl ?_; intro w2 H2 hg2; replace H := H2; clear H2 hg2))
            refine wp_region_held (S := Has ([] : List (Nat × List Value × TypeId))) (by kernel_rfl) ?_
            replace H := H.drew1
            refine wpAnyH_takeD (i := 0) (d := 82) rfl rfl (by kernel_rfl) (by kernel_rfl) (by kernel_rfl) (fun _ _ _ h => h) (yields_any (.int .i64 n) rfl (fun w => by go_simp)) (H.has _ (fun _ hx => nomatch hx)) ?_
            simp only [Act.put, List.setIfInBounds_toArray, List.set_cons_zero, List.set_cons_succ]
            refine wpAnyH_takeD (i := 1) (d := 83) rfl rfl (by kernel_rfl) (by kernel_rfl) (by kernel_rfl) (fun _ _ _ h => h) (yields_any (.int .i64 ((n : Int) + 1)) rfl (fun w => by go_simp; rw [i64_w]; exact ew)) (H.has _ (fun _ hx => nomatch hx)) ?_
            simp only [Act.put, List.setIfInBounds_toArray, List.set_cons_zero, List.set_cons_succ]
            refine wpAnyH_takeD (i := 2) (d := 84) rfl rfl (by kernel_rfl) (by kernel_rfl) (by kernel_rfl) (fun _ _ _ h => h) (yields_any (.string a1) rfl (fun w => by go_simp)) (H.has _ (fun _ hx => nomatch hx)) ?_
            simp only [Act.put, List.setIfInBounds_toArray, List.set_cons_zero, List.set_cons_succ]
            refine wpAnyH_takeD (i := 3) (d := 85) rfl rfl (by kernel_rfl) (by kernel_rfl) (by kernel_rfl) (fun _ _ _ h => h) (yields_any (.int .i64 n) rfl (fun w => by go_simp)) (H.has _ (fun _ hx => nomatch hx)) ?_
            simp only [Act.put, List.setIfInBounds_toArray, List.set_cons_zero, List.set_cons_succ]
            refine wpAnyH_takeD (i := 4) (d := 86) rfl rfl (by kernel_rfl) (by kernel_rfl) (by kernel_rfl) (fun _ _ _ h => h) (yields_any (.int .i64 ((n : Int) + 1)) rfl (fun w => by go_simp; rw [i64_w]; exact ew)) (H.has _ (fun _ hx => nomatch hx)) ?_
            simp only [Act.put, List.setIfInBounds_toArray, List.set_cons_zero, List.set_cons_succ]
            refine wpAnyH_takeD (i := 5) (d := 87) rfl rfl (by kernel_rfl) (by kernel_rfl) (by kernel_rfl) (fun _ _ _ h => h) (yields_any (.int .i64 n) rfl (fun w => by go_simp)) (H.has _ (fun _ hx => nomatch hx)) ?_
            simp only [Act.put, List.setIfInBounds_toArray, List.set_cons_zero, List.set_cons_succ]
            refine wpAnyH_takeD (i := 6) (d := 88) rfl rfl (by kernel_rfl) (by kernel_rfl) (by kernel_rfl) (fun _ _ _ h => h) (yields_any (.int .i64 ((n : Int) + 1)) rfl (fun w => by go_simp; rw [i64_w]; exact ew)) (H.has _ (fun _ hx => nomatch hx)) ?_
            simp only [Act.put, List.setIfInBounds_toArray, List.set_cons_zero, List.set_cons_succ]
            refine wpAnyH_takeD (i := 7) (d := 89) rfl rfl (by kernel_rfl) (by kernel_rfl) (by kernel_rfl) (fun _ _ _ h => h) (yields_any (.int .i64 m) rfl (fun w => by go_simp)) (H.has _ (fun _ hx => nomatch hx)) ?_
            simp only [Act.put, List.setIfInBounds_toArray, List.set_cons_zero, List.set_cons_succ]
            refine wpAnyH_takeD (i := 8) (d := 90) rfl rfl (by kernel_rfl) (by kernel_rfl) (by kernel_rfl) (fun _ _ _ h => h) (yields_any (.int .i64 e) rfl (fun w => by go_simp; rw [i64_w]; exact he)) (H.has _ (fun _ hx => nomatch hx)) ?_
            simp only [Act.put, List.setIfInBounds_toArray, List.set_cons_zero, List.set_cons_succ]
            refine wpAnyH_takeD (i := 9) (d := 91) rfl rfl (by kernel_rfl) (by kernel_rfl) (by kernel_rfl) (fun _ _ _ h => h) (yields_any (.string (a1.extract (n + 1) e)) rfl (fun w => by go_simp)) (H.has _ (fun _ hx => nomatch hx)) ?_
            simp only [Act.put, List.setIfInBounds_toArray, List.set_cons_zero, List.set_cons_succ]
            refine wpAnyH_takeD (i := 10) (d := 92) rfl rfl (by kernel_rfl) (by kernel_rfl) (by kernel_rfl) (fun _ _ _ h => h) (yields_any (.int .i64 n) rfl (fun w => by go_simp)) (H.has _ (fun _ hx => nomatch hx)) ?_
            simp only [Act.put, List.setIfInBounds_toArray, List.set_cons_zero, List.set_cons_succ]
            refine wpAnyH_takeD (i := 11) (d := 93) rfl rfl (by kernel_rfl) (by kernel_rfl) (by kernel_rfl) (fun _ _ _ h => h) (yields_any (.int .i64 ((n : Int) + 1)) rfl (fun w => by go_simp; rw [i64_w]; exact ew)) (H.has _ (fun _ hx => nomatch hx)) ?_
            simp only [Act.put, List.setIfInBounds_toArray, List.set_cons_zero, List.set_cons_succ]
            refine wpAnyH_takeD (i := 12) (d := 94) rfl rfl (by kernel_rfl) (by kernel_rfl) (by kernel_rfl) (fun _ _ _ h => h) (yields_any (.int .i64 m) rfl (fun w => by go_simp)) (H.has _ (fun _ hx => nomatch hx)) ?_
            simp only [Act.put, List.setIfInBounds_toArray, List.set_cons_zero, List.set_cons_succ]
            refine wpAnyH_takeD (i := 13) (d := 95) rfl rfl (by kernel_rfl) (by kernel_rfl) (by kernel_rfl) (fun _ _ _ h => h) (yields_any (.int .i64 e) rfl (fun w => by go_simp; rw [i64_w]; exact he)) (H.has _ (fun _ hx => nomatch hx)) ?_
            simp only [Act.put, List.setIfInBounds_toArray, List.set_cons_zero, List.set_cons_succ]
            refine wpAnyH_takeD (i := 14) (d := 96) rfl rfl (by kernel_rfl) (by kernel_rfl) (by kernel_rfl) (fun _ _ _ h => h) (yields_any (.pointer (some ⟨b3, 8, none⟩)) rfl (fun w => by go_simp)) (H.has _ (fun _ hx => nomatch hx)) ?_
            simp only [Act.put, List.setIfInBounds_toArray, List.set_cons_zero, List.set_cons_succ]
            refine wpAnyH_all (rs := [15]) (by kernel_rfl) (by decide) (fun i hi => ?_)
            obtain rfl := List.mem_singleton.1 hi; clear hi
            refine wpOp_store_H rfl rfl 3 _ _ rfl b3 8 rfl _ rfl (Try.sizeOf3) rfl (A := [_]) H (Nat.le_of_ble_eq_true rfl) _ rfl rfl ?_
            intro w2 H2; replace H := H2; clear H2; refine ⟨(H.has _ (fun _ hx => nomatch hx)), ?_⟩
            refine wpAnyH_takeD (i := 16) (d := 97) rfl rfl (by kernel_rfl) (by kernel_rfl) (by kernel_rfl) (fun _ _ _ h => h) (yields_any (.pointer (some ⟨b3, 5, none⟩)) rfl (fun w => by go_simp)) (H.has _ (fun _ hx => nomatch hx)) ?_
            simp only [Act.put, List.setIfInBounds_toArray, List.set_cons_zero, List.set_cons_succ]
            refine wpAnyH_all (rs := [17]) (by kernel_rfl) (by decide) (fun i hi => ?_)
            obtain rfl := List.mem_singleton.1 hi; clear hi
            refine wpOp_store_H rfl rfl 9 _ _ rfl b3 5 rfl _ rfl (Try.sizeOf9) rfl (A := [_]) H (Nat.le_of_ble_eq_true rfl) _ rfl rfl ?_
            intro w2 H2; replace H := H2; clear H2; refine ⟨(H.has _ (fun _ hx => nomatch hx)), ?_⟩
            refine wpAnyH_takeD (i := 18) (d := 14) rfl rfl (by kernel_rfl) (by kernel_rfl) (by kernel_rfl) (fun _ _ _ h => h) (yields_any (.int .i64 e) rfl (fun w => by go_simp)) (H.has _ (fun _ hx => nomatch hx)) ?_
            simp only [Act.put, List.setIfInBounds_toArray, List.set_cons_zero, List.set_cons_succ]
            refine wpAnyH_done (by kernel_rfl) ?_ _
            try simp only [Act.put, List.setIfInBounds_toArray, List.set_cons_zero, List.set_cons_succ]
            replace hl := hl.out
            cases N with
            | zero => simp [targumref17_Props.j2] at hl
            | succ N =>
            rw [targumref17_Props.j2] at hl
            cases hst : targumref17_Stop.f N a0 a1 e a3 with
            | none => rw [hst] at hl; cases hl
            | some st =>
            rw [hst, Option.bind_some] at hl
            have cS : ∀ w, Calls Try.prog 28 #[.int .i64 a0, .string a1, .int .i64 e, .bool a3] w fun e w' => e = .returned (.bool st) ∧ Drawn0 w w' := fun w => targumref17_Stop.calls N a0 a1 e a3 st w hst
            clear hst
            cases st
            · rw [if_neg (by decide)] at hl
              replace hl := Aside0.mk hl
              go_upto_region 16 with (first | ((with_reducible refine (cS _).mono ?_); rintro e w' ⟨rfl, ⟨n1, rfl⟩⟩; replace H := H.drewN n1) | ((with_reducible refine at_load 4 ?_); refine wpList_load_H rfl 4 _ rfl (Try.isAgg4) _ _ rfl H (.tail _ (.head _)) _ rfl ?_) | ((with_reducible refine at_load 9 ?_); refine wpList_load_H rfl 9 _ rfl (Try.isAgg9) _ _ rfl H (.tail _ (.head _)) _ rfl ?_) | ((with_reducible refine at_load 3 ?_); refine wpList_load_H rfl 3 _ rfl (Try.isAgg3) _ _ rfl H (.tail _ (.head _)) _ rfl ?_) | ((with_reducible refine at_store 4 ?_); refine wpList_store_H rfl 4 _ _ rfl _ _ rfl _ rfl (Try.sizeOf4) rfl (A := [_]) H (Nat.le_of_ble_eq_true rfl) _ rfl ?_; intro w2 H2 hg2; replace H := H2; clear H2 hg2) | ((with_reducible refine at_store 9 ?_); refine wpList_store_H rfl 9 _ _ rfl _ _ rfl _ rfl (Try.sizeOf9) rfl (A := [_]) H (Nat.le_of_ble_eq_true rfl) _ rfl ?_; intro w2 H2 hg2; replace H := H2; clear H2 hg2) | ((with_reducible refine at_store 3 ?_); refine wpList_store_H rfl 3 _ _ rfl _ _ rfl _ rfl (Try.sizeOf3) rfl (A := [_]) H (Nat.le_of_ble_eq_true rfl) _ rfl ?_; intro w2 H2 hg2; replace H := H2; clear H2 hg2))
              refine wp_region_held (S := Has [(b13, [.int .i64 11, .int .i64 (n : Int)], 36)]) (by kernel_rfl) ?_
              replace H := H.drew1
              refine wpAnyH_takeD (i := 0) (d := 104) rfl rfl (by kernel_rfl) (by kernel_rfl) (by kernel_rfl) (fun _ _ _ h => h) (yields_any (.agg #[.bool false, .bool false, .bool false, .string ⟨#[]⟩, .string ⟨#[]⟩, .string ⟨#[]⟩, .int .i64 0, .int .i64 0, .int .i64 0]) rfl (fun w => by go_simp)) (H.has _ (fun _ hx => by obtain rfl := List.mem_singleton.1 hx; exact (.head _))) ?_
              simp only [Act.put, List.setIfInBounds_toArray, List.set_cons_zero, List.set_cons_succ]
              refine wpAnyH_takeD (i := 1) (d := 105) rfl rfl (by kernel_rfl) (by kernel_rfl) (by kernel_rfl) (fun _ _ _ h => h) (yields_loads rfl 36 _ rfl (Try.isAgg36) 2 (Try.sizeOf36) b13 rfl _ _ (.head _) rfl) (H.has _ (fun _ hx => by obtain rfl := List.mem_singleton.1 hx; exact (.head _))) ?_
              simp only [Act.put, List.setIfInBounds_toArray, List.set_cons_zero, List.set_cons_succ]
              refine wpAnyH_all (rs := [2]) (by kernel_rfl) (by decide) (fun i hi => ?_)
              obtain rfl := List.mem_singleton.1 hi; clear hi
              refine wpOp_store_H rfl rfl 33 _ _ rfl b1 0 rfl _ rfl (Try.sizeOf33) rfl (A := [_, _, _]) H (Nat.le_of_ble_eq_true rfl) _ rfl rfl ?_
              intro w2 H2; replace H := H2; clear H2; refine ⟨(H.has _ (fun _ hx => by obtain rfl := List.mem_singleton.1 hx; exact (.head _))), ?_⟩
              refine wpAnyH_takeD (i := 3) (d := 9) rfl rfl (by kernel_rfl) (by kernel_rfl) (by kernel_rfl) (fun _ _ _ h => h) (yields_any (.int .i64 0) rfl (fun w => by go_simp)) (H.has _ (fun _ hx => by obtain rfl := List.mem_singleton.1 hx; exact (.head _))) ?_
              simp only [Act.put, List.setIfInBounds_toArray, List.set_cons_zero, List.set_cons_succ]
              refine wpAnyH_all (rs := [4]) (by kernel_rfl) (by decide) (fun i hi => ?_)
              obtain rfl := List.mem_singleton.1 hi; clear hi
              refine wpOp_store_H rfl rfl 36 _ _ rfl b2 0 rfl _ rfl (Try.sizeOf36) rfl (A := [_, _]) H (Nat.le_of_ble_eq_true rfl) _ rfl rfl ?_
              intro w2 H2; replace H := H2; clear H2; refine ⟨(H.has _ (fun _ hx => by obtain rfl := List.mem_singleton.1 hx; exact (.head _))), ?_⟩
              refine wpAnyH_done (by kernel_rfl) ?_ _
              try simp only [Act.put, List.setIfInBounds_toArray, List.set_cons_zero, List.set_cons_succ]
              go_wp2_with fail
              replace hl := hl.out
              simp only [Option.some.injEq, Prod.mk.injEq] at hl
              obtain ⟨rfl, rfl, rfl, rfl, rfl, rfl, rfl, rfl, rfl, rfl, rfl, rfl⟩ := hl
              exact bodyPost_ret (targumref17_Props.fin _ _ _ _ _ _ rfl rfl rfl H (.tail _ (.tail _ (.tail _ (.head _)))) (.tail _ (.tail _ (.head _))) rfl rfl) rfl ⟨rfl, H.below⟩
            · rw [if_pos rfl] at hl
              cases ho : targumref17_over.f N a1 e with
              | none => rw [ho] at hl; cases hl
              | some ov =>
              rw [ho, Option.bind_some] at hl
              have cO : ∀ w, Calls Try.prog 29 #[.string a1, .int .i64 e] w fun e w' => e = .returned (.int .i64 ov) ∧ Drawn0 w w' := fun w => targumref17_over.calls N a1 e ov w ho
              clear ho
              replace hl := Aside0.mk hl
              go_wp2_with (first | ((with_reducible refine (cS _).mono ?_); rintro e w' ⟨rfl, ⟨n1, rfl⟩⟩; replace H := H.drewN n1) | ((with_reducible refine (cO _).mono ?_); rintro e w' ⟨rfl, ⟨n1, rfl⟩⟩; replace H := H.drewN n1) | ((with_reducible refine at_load 4 ?_); refine wpList_load_H rfl 4 _ rfl (Try.isAgg4) _ _ rfl H (.tail _ (.head _)) _ rfl ?_) | ((with_reducible refine at_load 9 ?_); refine wpList_load_H rfl 9 _ rfl (Try.isAgg9) _ _ rfl H (.tail _ (.head _)) _ rfl ?_) | ((with_reducible refine at_load 3 ?_); refine wpList_load_H rfl 3 _ rfl (Try.isAgg3) _ _ rfl H (.tail _ (.head _)) _ rfl ?_) | ((with_reducible refine at_store 4 ?_); refine wpList_store_H rfl 4 _ _ rfl _ _ rfl _ rfl (Try.sizeOf4) rfl (A := [_]) H (Nat.le_of_ble_eq_true rfl) _ rfl ?_; intro w2 H2 hg2; replace H := H2; clear H2 hg2) | ((with_reducible refine at_store 9 ?_); refine wpList_store_H rfl 9 _ _ rfl _ _ rfl _ rfl (Try.sizeOf9) rfl (A := [_]) H (Nat.le_of_ble_eq_true rfl) _ rfl ?_; intro w2 H2 hg2; replace H := H2; clear H2 hg2) | ((with_reducible refine at_store 3 ?_); refine wpList_store_H rfl 3 _ _ rfl _ _ rfl _ rfl (Try.sizeOf3) rfl (A := [_]) H (Nat.le_of_ble_eq_true rfl) _ rfl ?_; intro w2 H2 hg2; replace H := H2; clear H2 hg2))
              refine Handed.intro N (by omega) (hJ' _ _ _ ⟨b3, targumref17_Props.J.mk ⟨_, _, _, _, _, _, _, _, _⟩ _ _ (by rfl) H.tail hl.out⟩)
      · have f38 : (((a1[n]).toNat : Int) == 38) = false := by rw [beq_eq_false_iff_ne]; exact h38
        rw [f38, if_neg (by decide)] at hl
        clear h38 h33 eb hlt
        cases ph
        · rw [if_neg (by decide)] at hl
          replace hl := Aside0.mk hl
          go_wp2_with (first | ((with_reducible refine at_load 4 ?_); refine wpList_load_H rfl 4 _ rfl (Try.isAgg4) _ _ rfl H (.head _) _ rfl ?_) | ((with_reducible refine at_load 9 ?_); refine wpList_load_H rfl 9 _ rfl (Try.isAgg9) _ _ rfl H (.head _) _ rfl ?_) | ((with_reducible refine at_load 3 ?_); refine wpList_load_H rfl 3 _ rfl (Try.isAgg3) _ _ rfl H (.head _) _ rfl ?_) | ((with_reducible refine at_load 33 ?_); refine wpList_loads_H rfl 33 _ rfl (Try.isAgg33) 9 (Try.sizeOf33) _ _ rfl H (.head _) (Nat.le_of_ble_eq_true rfl) _ rfl ?_) | ((with_reducible refine at_store 33 ?_); refine wpList_store_H rfl 33 _ _ rfl _ _ rfl _ rfl (Try.sizeOf33) rfl (A := [_, _]) H (Nat.le_of_ble_eq_true rfl) _ rfl ?_; intro w2 H2 hg2; replace H := H2; clear H2 hg2) | ((with_reducible refine at_store 36 ?_); refine wpList_store_H rfl 36 _ _ rfl _ _ rfl _ rfl (Try.sizeOf36) rfl (A := [_]) H (Nat.le_of_ble_eq_true rfl) _ rfl ?_; intro w2 H2 hg2; replace H := H2; clear H2 hg2))
          replace hl := hl.out
          simp only [Option.some.injEq, Prod.mk.injEq] at hl
          obtain ⟨rfl, rfl, rfl, rfl, rfl, rfl, rfl, rfl, rfl, rfl, rfl, rfl⟩ := hl
          exact bodyPost_ret (targumref17_Props.fin _ _ _ _ _ _ rfl rfl rfl H (.tail _ (.tail _ (.head _))) (.tail _ (.head _)) rfl rfl) rfl ⟨rfl, H.below⟩
        · rw [if_pos rfl] at hl
          replace hl := Aside0.mk hl
          go_wp2_with (first | ((with_reducible refine at_load 4 ?_); refine wpList_load_H rfl 4 _ rfl (Try.isAgg4) _ _ rfl H (.head _) _ rfl ?_) | ((with_reducible refine at_load 9 ?_); refine wpList_load_H rfl 9 _ rfl (Try.isAgg9) _ _ rfl H (.head _) _ rfl ?_) | ((with_reducible refine at_load 3 ?_); refine wpList_load_H rfl 3 _ rfl (Try.isAgg3) _ _ rfl H (.head _) _ rfl ?_) | ((with_reducible refine at_load 33 ?_); refine wpList_loads_H rfl 33 _ rfl (Try.isAgg33) 9 (Try.sizeOf33) _ _ rfl H (.head _) (Nat.le_of_ble_eq_true rfl) _ rfl ?_) | ((with_reducible refine at_store 33 ?_); refine wpList_store_H rfl 33 _ _ rfl _ _ rfl _ rfl (Try.sizeOf33) rfl (A := [_, _]) H (Nat.le_of_ble_eq_true rfl) _ rfl ?_; intro w2 H2 hg2; replace H := H2; clear H2 hg2) | ((with_reducible refine at_store 36 ?_); refine wpList_store_H rfl 36 _ _ rfl _ _ rfl _ rfl (Try.sizeOf36) rfl (A := [_]) H (Nat.le_of_ble_eq_true rfl) _ rfl ?_; intro w2 H2 hg2; replace H := H2; clear H2 hg2))
          replace hl := hl.out
          simp only [Option.some.injEq, Prod.mk.injEq] at hl
          obtain ⟨rfl, rfl, rfl, rfl, rfl, rfl, rfl, rfl, rfl, rfl, rfl, rfl⟩ := hl
          exact bodyPost_ret (targumref17_Props.fin _ _ _ _ _ _ rfl rfl rfl H (.tail _ (.tail _ (.head _))) (.tail _ (.head _)) rfl rfl) rfl ⟨rfl, H.below⟩

end Go.Proofs.Ytaoameejkpipcaa.Q
