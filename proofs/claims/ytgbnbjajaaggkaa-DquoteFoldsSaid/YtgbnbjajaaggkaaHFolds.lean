/- The law DquoteFolds: its walk. Conditions: sizes and numbers as the row gives them; that the text it makes is read as it should be (cR). -/
import Derived.Test.YtgbnbjajaaggkaaHoldDraw
import Derived.Test.YtgbnbjajaaggkaaDqK
import Derived.Test.YtgbnbjajaaggkaaDqTxt
import Derived.Test.YtgbnbjajaaggkaaQx5
import Derived.WalkKit
import Derived.LoopTactic
import Derived.Outline
import Derived.Deep.DeepCutAuto
import Derived.IntWalk
namespace Go.Proofs.Ytgbnbjajaaggkaa.Q
open Go Go.RowKit Go.Proofs Go.Proofs.YtgbnbjajaaggkaaW.PrintWords Go.Proofs.YtgbnbjajaaggkaaW.PrintLast Go.Proofs.YtgbnbjajaaggkaaW.PrintMore
set_option linter.unusedVariables false
set_option linter.unusedSimpArgs false

/-! ### the texts that the law makes -/
def brks : List (List UInt8) := [[10], [13, 10], [13], [194, 133]]
def partL (x : ByteArray) : List UInt8 := 113 :: lets x.data.toList
def gapN (g : List Int) (j : Nat) : Nat := (g.getD j 0 % 4).toNat
def gapS (b : List UInt8) (n : Nat) : List UInt8 := (List.replicate n ([32, 32] ++ b)).flatten
def foldS (l : List ByteArray) (g : List Int) (b : List UInt8) : Nat → List UInt8
  | 0 => [34]
  | 1 => [34] ++ partL (l.getD 0 ⟨#[]⟩)
  | j + 2 => foldS l g b (j + 1) ++ [32, 9] ++ b ++ gapS b (gapN g (j + 1)) ++ [9, 32] ++ partL (l.getD (j + 1) ⟨#[]⟩)
def foldW (l : List ByteArray) (g : List Int) : Nat → List UInt8
  | 0 => []
  | 1 => partL (l.getD 0 ⟨#[]⟩)
  | j + 2 => foldW l g (j + 1) ++ List.replicate (gapN g (j + 1)) 10 ++ (if gapN g (j + 1) = 0 then [32] else []) ++ partL (l.getD (j + 1) ⟨#[]⟩)
theorem foldS_succ (l : List ByteArray) (g : List Int) (b : List UInt8) (k : Nat) (h : 0 < k) : foldS l g b (k + 1) = foldS l g b k ++ [32, 9] ++ b ++ gapS b (gapN g k) ++ [9, 32] ++ partL (l.getD k ⟨#[]⟩) := by
  obtain ⟨j, rfl⟩ : ∃ j, k = j + 1 := ⟨k - 1, by omega⟩
  rfl
theorem foldW_succ (l : List ByteArray) (g : List Int) (k : Nat) (h : 0 < k) : foldW l g (k + 1) = foldW l g k ++ List.replicate (gapN g k) 10 ++ (if gapN g k = 0 then [32] else []) ++ partL (l.getD k ⟨#[]⟩) := by
  obtain ⟨j, rfl⟩ : ∃ j, k = j + 1 := ⟨k - 1, by omega⟩
  rfl

theorem conv_one (w : World) (x : Int) : (convert 22 9 (.slice (some ⟨w.heap.size, 0, none⟩) 1 1)).run Try.prog (w.alloc (.cells #[.int .u8 x] 5)) = .ok (.string (strOfNums [x])) (w.alloc (.cells #[.int .u8 x] 5)) := by
  refine string_of_reads (A := some ⟨w.heap.size, 0, none⟩) (n := 1) (c := 1) Try.underlying22 Try.underlying5 Try.underlying9 ⟨rfl, by decide, fun _ => ⟨_, rfl, fun j hj => ?_⟩⟩
  obtain rfl : j = 0 := by omega
  rw [add_plain]
  exact ((Holds.nil w).alloc [Value.int .u8 x] 5).cell List.mem_cons_self 0

theorem let_num2 (c : UInt8) : strOfNums [97 + (c.toNat : Int) % 26] = txt [letB c] := by
  have h3 : ((97 : Int) + (c.toNat : Int) % 26).toNat = 97 + c.toNat % 26 := by omega
  unfold strOfNums letB txt
  simp only [List.map_cons, List.map_nil, h3]

section
variable (l : List ByteArray) (g : List Int) (A0 A1 : Option Addr) (c0 c1 : Nat) (kd : Int) (old : Bool) (nb : Nat) (v : Int) (w : World)
variable (cK : ∀ w, Calls Try.prog 8 #[] w fun e w' => e = .returned (.bool true) ∧ Below w.heap.size w w')

set_option maxHeartbeats 8000000 in
set_option maxRecDepth 100000 in
theorem folds_early (cK : ∀ w, Calls Try.prog 8 #[] w fun e w' => e = .returned (.bool true) ∧ Below w.heap.size w w') (h : ¬ (1 ≤ l.length ∧ l.length ≤ 8 ∧ l.length ≤ g.length)) (hm : l.length ≤ 140737488351232 ∧ g.length ≤ 140737488351232) :
    Calls Try.prog 5 #[.slice A0 l.length c0, .slice A1 g.length c1, .int .u8 kd, .bool old] w fun e w' => e = .returned (.bool true) ∧ Below w.heap.size w w' := by
  have H := Holds.nil w
  go_enter Try.func5, Try.ntmps5
  by_cases h1 : l.length < 1
  · have a1 : decide (l.length < 1) = true := decide_eq_true h1
    have a2 : decide ((l.length : Int) < 1) = true := decide_eq_true (by omega)
    clear h h1
    go_wp2_with (first | ((with_reducible refine (cK _).mono ?_); rintro e w' ⟨rfl, hb⟩; replace H := H.on hb; clear hb))
    go_ret
    exact ⟨rfl, H.below⟩
  · have a1 : decide (l.length < 1) = false := decide_eq_false h1
    have a2 : decide ((l.length : Int) < 1) = false := decide_eq_false (by omega)
    by_cases h8 : 8 < l.length
    · have b1 : decide (8 < l.length) = true := decide_eq_true h8
      have b2 : decide ((8 : Int) < (l.length : Int)) = true := decide_eq_true (by omega)
      clear h h1 h8
      go_wp2_with (first | ((with_reducible refine (cK _).mono ?_); rintro e w' ⟨rfl, hb⟩; replace H := H.on hb; clear hb))
      go_ret
      exact ⟨rfl, H.below⟩
    · have b1 : decide (8 < l.length) = false := decide_eq_false h8
      have b2 : decide ((8 : Int) < (l.length : Int)) = false := decide_eq_false (by omega)
      have d1 : decide (g.length < l.length) = true := decide_eq_true (by omega)
      have d2 : decide ((g.length : Int) < (l.length : Int)) = true := decide_eq_true (by omega)
      clear h h1 h8
      go_wp2_with (first | ((with_reducible refine (cK _).mono ?_); rintro e w' ⟨rfl, hb⟩; replace H := H.on hb; clear hb))
      go_ret
      exact ⟨rfl, H.below⟩

theorem brks_at (nb : Nat) (h : nb < 4) : (brks.getD nb []).length ≤ 2 ∧ (brks.map fun b => Value.string (txt b))[nb]? = some (.string (txt (brks.getD nb []))) := by
  rcases (by omega : nb = 0 ∨ nb = 1 ∨ nb = 2 ∨ nb = 3) with rfl | rfl | rfl | rfl <;> exact ⟨by decide, rfl⟩

set_option maxHeartbeats 16000000 in
set_option maxRecDepth 100000 in
theorem folds_walk (cK : ∀ w, Calls Try.prog 8 #[] w fun e w' => e = .returned (.bool true) ∧ Below w.heap.size w w')
    (cV : ∀ w, Calls Try.prog 10 #[.bool old] w fun e w' => e = .returned (.int .i64 v) ∧ Drawn0 w w')
    (h1 : 1 ≤ l.length) (h8 : l.length ≤ 8) (hlg : l.length ≤ g.length) (hgm : g.length ≤ 140737488351232)
    (hl : ∀ (i : Nat) (hi : i < l.length), ∃ ad, A0 = some ad ∧ w.cell? (ad.add i) = some (.string l[i]))
    (hg : ∀ (i : Nat) (hi : i < g.length), ∃ ad, A1 = some ad ∧ w.cell? (ad.add i) = some (.int .u8 g[i]))
    (hgb : ∀ (i : Nat) (hi : i < g.length), 0 ≤ g[i] ∧ g[i] < 256) (hkd : 0 ≤ kd ∧ kd < 256) (hnb : nb < 4) (hn : (nb : Int) = if old = true then kd % 4 else kd % 3)
    (hR : (∀ j (hj : j < l.length), 1 ≤ l[j].size ∧ l[j].size ≤ 30) → readF v (txt (foldS l g (brks.getD nb []) l.length ++ [34])) 0 = (txt (foldW l g l.length), ((foldS l g (brks.getD nb []) l.length).length : Int) + 1, 0, 0)) :
    Calls Try.prog 5 #[.slice A0 l.length c0, .slice A1 g.length c1, .int .u8 kd, .bool old] w fun e w' => e = .returned (.bool true) ∧ Below w.heap.size w w' := by
  have H := Holds.nil w
  have a1 : decide (l.length < 1) = false := decide_eq_false (by omega)
  have a2 : decide ((l.length : Int) < 1) = false := decide_eq_false (by omega)
  have b1 : decide (8 < l.length) = false := decide_eq_false (by omega)
  have b2 : decide ((8 : Int) < (l.length : Int)) = false := decide_eq_false (by omega)
  have d1 : decide (g.length < l.length) = false := decide_eq_false (by omega)
  have d2 : decide ((g.length : Int) < (l.length : Int)) = false := decide_eq_false (by omega)
  have hb4 := brks_at nb hnb
  generalize hbe : brks.getD nb [] = b at hR hb4
  have hHR := Lib.hid hR
  have Hl := Lib.hid hl
  have Hg := Lib.hid hg
  have Hgb := Lib.hid hgb
  have Hn := Lib.hid hn
  clear hR hl hg hgb hn hbe
  go_enter Try.func5, Try.ntmps5
  go_upto_if 42 with (first | ((with_reducible refine (cK _).mono ?_); rintro e w' ⟨rfl, hb⟩; replace H := H.on hb; clear hb) | (refine wpList_alloc_H rfl 42 rfl _ (Try.zeroValue42) _ rfl H ?_; intro bb w1 H1 hb1; clear H) | (refine wpList_store_H rfl 42 _ _ rfl _ _ rfl _ rfl (Try.sizeOf42) rfl (A := []) H1 (by decide) _ rfl ?_; intro w2 H2 hg2; clear H1))
  have H3 : Holds w [(bb, brks.map fun b => Value.string (txt b), 42)] w2 := H2
  clear H2 hb1 hg2 w1 cK a1 a2 b1 b2 d1 d2
  (try simp only [Act.put, List.setIfInBounds_toArray, List.set_cons_zero, List.set_cons_succ])
  go_cut [9, 10] (fun v9 v10 wc => v9 = .pointer (some ⟨bb, 0, none⟩) ∧ v10 = .int .i64 nb ∧ Holds w [(bb, brks.map fun b => Value.string (txt b), 42)] wc)
  case first =>
    cases old with
    | true =>
      have hn := Hn.out
      rw [if_pos rfl] at hn
      clear Hn
      have Hn := Lib.hid hn
      clear hn
      go_wp2
      go_meet
      case rel => exact ⟨rfl, by have hn := Hn.out; go_num, H3⟩
    | false =>
      have hn := Hn.out
      rw [if_neg (by decide)] at hn
      clear Hn
      have Hn := Lib.hid hn
      clear hn
      go_wp2
      go_meet
      case rel => exact ⟨rfl, by have hn := Hn.out; go_num, H3⟩
  case rest =>
    obtain ⟨rfl, rfl, H⟩ := hcut
    clear H3 Hn
    go_wp2
    have HB := H
    clear H
    go_loopw [11, 12, 13] (fun v11 v12 v13 wr => ∃ k : Nat, ∃ s t : ByteArray, k ≤ l.length ∧ v13 = .int .i64 k ∧ v11 = .string s ∧ v12 = .string t ∧ Hid (s = txt (foldS l g b k)) ∧ Hid (t = txt (foldW l g k)) ∧ s.size ≤ 1 + 60 * k ∧ t.size ≤ 60 * k ∧ Hid (∀ (j : Nat) (hj : j < l.length), j < k → 1 ≤ l[j].size ∧ l[j].size ≤ 30) ∧ Holds w [(bb, brks.map fun b => Value.string (txt b), 42)] wr) (fun _ _ i _ => 8 - (intOf i).toNat)
    case atStart => exact ⟨0, ⟨#[34]⟩, ⟨#[]⟩, Nat.zero_le _, rfl, rfl, rfl, Lib.hid rfl, Lib.hid rfl, by decide, by decide, Lib.hid (fun j hj h0 => absurd h0 (by omega)), HB⟩
    case round =>
      clear HB
      obtain ⟨k, s, t, hk, rfl, rfl, rfl, Hs, Ht, hss, hts, Hok, H⟩ := hrel
      by_cases hlt : k < l.length
      · obtain ⟨ad, rfl, hc⟩ := Hl.out k hlt
        have hc' := H.old hc
        have Hx : Hid (l.getD k ⟨#[]⟩ = l[k]) := Lib.hid (by simp [List.getD, hlt])
        have Hok' : Hid (1 ≤ l[k].size ∧ l[k].size ≤ 30 → ∀ (j : Nat) (hj : j < l.length), j < k + 1 → 1 ≤ l[j].size ∧ l[j].size ≤ 30) := Lib.hid (fun h j hj hjk => by
          by_cases hj2 : j < k
          · exact Hok.out j hj hj2
          · obtain rfl : j = k := by omega
            exact h)
        have Hc := Lib.hid hc
        clear hc
        generalize l[k] = x at *
        by_cases hbig : 30 < x.size
        · have e1 : decide ((30 : Int) < (x.size : Int)) = true := decide_eq_true (by omega)
          have e2 : decide (30 < x.size) = true := decide_eq_true hbig
          go_wp2
          go_ret
          exact ⟨rfl, H.below⟩
        by_cases hsm : x.size < 1
        · have e1 : decide ((30 : Int) < (x.size : Int)) = false := decide_eq_false (by omega)
          have e2 : decide (30 < x.size) = false := decide_eq_false hbig
          have e3 : decide ((x.size : Int) < 1) = true := decide_eq_true (by omega)
          have e4 : decide (x.size < 1) = true := decide_eq_true hsm
          go_wp2
          go_ret
          exact ⟨rfl, H.below⟩
        have e1 : decide ((30 : Int) < (x.size : Int)) = false := decide_eq_false (by omega)
        have e2 : decide (30 < x.size) = false := decide_eq_false hbig
        have e3 : decide ((x.size : Int) < 1) = false := decide_eq_false (by omega)
        have e4 : decide (x.size < 1) = false := decide_eq_false hsm
        go_wp2
        have HB := H
        clear H hc' e1 e2 e3 e4
        go_loopw [14, 15] (fun p j wr => ∃ m : Nat, ∃ q : ByteArray, m ≤ x.size ∧ j = .int .i64 m ∧ p = .string q ∧ Hid (q = txt (113 :: lets (x.data.toList.take m))) ∧ q.size ≤ m + 1 ∧ Holds w [(bb, brks.map fun b => Value.string (txt b), 42)] wr) (fun _ i _ => 30 - (intOf i).toNat)
        case atStart => exact ⟨0, ⟨#[113]⟩, Nat.zero_le _, rfl, rfl, Lib.hid rfl, by decide, HB⟩
        case round =>
          clear HB
          obtain ⟨m, q, hm, rfl, rfl, Hq, hqs, H⟩ := hrel
          have hcx := H.old Hc.out
          by_cases hmx : m < x.size
          · have hcv := conv_one
            have hz1 : ∀ y : Int, (strOfNums [y]).size = 1 := fun _ => rfl
            have hnx := Lib.hid (lets_snoc x m hmx)
            have hnm := Lib.hid (let_num2 x[m])
            go_wp2
            go_roundw
            case rel =>
              refine ⟨m + 1, _, by omega, by go_num, rfl, Lib.hid ?_, ?_, H.on ((Below.refl _ _).alloc (Nat.le_refl _) _)⟩
              · rw [Hq.out, hnm.out, txt_append, hnx.out]
                rfl
              · rw [ByteArray.size_append]
                show q.size + 1 ≤ _
                omega
            case measure => simp [intOf]; omega
          · obtain rfl : x.size = m := by omega
            have Hp : Hid (q = txt (partL x)) := Lib.hid (by
              rw [Hq.out]
              unfold partL
              rw [List.take_of_length_le (by rw [Array.length_toList]; exact Nat.le_refl _)])
            clear Hq
            by_cases hk0 : k = 0
            · have f1 : decide ((k : Int) = 0) = true := decide_eq_true (by omega)
              have f2 : ((k : Int) == 0) = true := beq_iff_eq.2 (by omega)
              have Hk0 := Lib.hid hk0
              clear hk0
              go_wp2
              go_roundw
              case rel =>
                have hk0 := Hk0.out
                subst hk0
                refine ⟨0 + 1, _, _, by omega, by go_num, rfl, rfl, Lib.hid ?_, Lib.hid ?_, ?_, ?_, Lib.hid (Hok'.out (by omega)), H⟩
                · rw [Hs.out, Hp.out, txt_append]
                  show txt ([34] ++ partL x) = txt ([34] ++ partL (l.getD 0 ⟨#[]⟩))
                  rw [Hx.out]
                · rw [Hp.out]
                  show txt (partL x) = txt (partL (l.getD 0 ⟨#[]⟩))
                  rw [Hx.out]
                · rw [ByteArray.size_append]; omega
                · omega
              case measure => simp [intOf]; omega
            · have f1 : decide ((k : Int) = 0) = false := decide_eq_false (by omega)
              have f2 : ((k : Int) == 0) = false := beq_eq_false_iff_ne.2 (by omega)
              obtain ⟨ad1, rfl, hcg⟩ := Hg.out k (by omega)
              obtain ⟨g0, g1⟩ := Hgb.out k (by omega)
              have hcg' := H.old hcg
              clear hcg
              have Hgn : Hid ((gapN g k : Int) = (g[k]'(by omega)) % 4) := Lib.hid (by
                unfold gapN
                have : g.getD k 0 = g[k]'(by omega) := by simp [List.getD, (show k < g.length by omega)]
                rw [this]
                omega)
              have hgk : gapN g k < 4 := by have := Hgn.out; omega
              generalize hgy : g[k]'(by omega) = y at *
              clear hgy
              have hcb : wr.cell? ⟨bb, nb, none⟩ = some (.string (txt b)) := by
                rw [H.cell List.mem_cons_self nb]
                exact hb4.2
              have hbs : (txt b).size ≤ 2 := by rw [txt_size]; exact hb4.1
              generalize hn' : gapN g k = n at *
              generalize htb : txt b = tb at *
              have Htb := Lib.hid htb
              have Hnn := Lib.hid hn'
              have Hb4 := Lib.hid hb4
              clear htb hn' hb4
              go_wp2
              have HB := H
              clear H hcg' hcb f1 f2
              go_loopw [11, 12, 17] (fun v11 v12 v17 wr => ∃ m : Nat, ∃ s' t' : ByteArray, m ≤ n ∧ v17 = .int .i64 m ∧ v11 = .string s' ∧ v12 = .string t' ∧ Hid (s' = txt (foldS l g b k ++ [32, 9] ++ b ++ gapS b m)) ∧ Hid (t' = txt (foldW l g k ++ List.replicate m 10)) ∧ s'.size ≤ 5 + 60 * k + 4 * m ∧ t'.size ≤ 60 * k + m ∧ Holds w [(bb, brks.map fun b => Value.string (txt b), 42)] wr) (fun _ _ i _ => 4 - (intOf i).toNat)
              case atStart =>
                refine ⟨0, _, _, Nat.zero_le _, rfl, rfl, rfl, Lib.hid ?_, Lib.hid ?_, ?_, ?_, HB⟩
                · rw [Hs.out, ← Htb.out]
                  rw [show txt (foldS l g b k) ++ (⟨#[32, 9]⟩ : ByteArray) = txt (foldS l g b k ++ [32, 9]) from txt_append _ [32, 9], txt_append, show gapS b 0 = [] from rfl, List.append_nil]
                · rw [Ht.out]
                  simp
                · rw [ByteArray.size_append, ByteArray.size_append]
                  have : (⟨#[32, 9]⟩ : ByteArray).size = 2 := rfl
                  omega
                · omega
              case round =>
                clear HB
                obtain ⟨m, s', t', hm, rfl, rfl, rfl, Hs', Ht', hss', hts', H⟩ := hrel
                have hgn := Hgn.out
                by_cases hmn : m < n
                · have hcb : wr.cell? ⟨bb, nb, none⟩ = some (.string tb) := by
                    rw [H.cell List.mem_cons_self nb]
                    exact Hb4.out.2
                  have hd : decide ((m : Int) < y % 4) = true := decide_eq_true (by omega)
                  clear hgn
                  go_wp2
                  go_roundw
                  case rel =>
                    refine ⟨m + 1, _, _, by omega, by go_num, rfl, rfl, Lib.hid ?_, Lib.hid ?_, ?_, ?_, H⟩
                    · rw [Hs'.out, ← Htb.out]
                      rw [show ∀ z : List UInt8, txt z ++ (⟨#[32, 32]⟩ : ByteArray) = txt (z ++ [32, 32]) from fun z => txt_append _ [32, 32], txt_append]
                      unfold gapS
                      rw [List.replicate_succ', List.flatten_append]
                      simp
                    · rw [Ht'.out, show ∀ z : List UInt8, txt z ++ (⟨#[10]⟩ : ByteArray) = txt (z ++ [10]) from fun z => txt_append _ [10], List.replicate_succ', List.append_assoc]
                    · rw [ByteArray.size_append, ByteArray.size_append]
                      have : (⟨#[32, 32]⟩ : ByteArray).size = 2 := rfl
                      omega
                    · rw [ByteArray.size_append]
                      have : (⟨#[10]⟩ : ByteArray).size = 1 := rfl
                      omega
                  case measure => simp [intOf]; omega
                · obtain rfl : n = m := by omega
                  have hd : decide ((n : Int) < y % 4) = false := decide_eq_false (by omega)
                  have close : ∀ (s2 t2 : ByteArray), s2 = txt (foldS l g b (k + 1)) → t2 = txt (foldW l g (k + 1)) → s2.size ≤ 1 + 60 * (k + 1) → t2.size ≤ 60 * (k + 1) → True := fun _ _ _ _ _ _ => trivial
                  by_cases hn0 : n = 0
                  · have g1 : decide (y % 4 = 0) = true := decide_eq_true (by omega)
                    have g2 : (y % 4 == 0) = true := beq_iff_eq.2 (by omega)
                    have Hn0 := Lib.hid hn0
                    clear hgn hn0 close
                    go_wp2
                    go_roundw
                    case rel =>
                      refine ⟨k + 1, _, _, by omega, by go_num, rfl, rfl, Lib.hid ?_, Lib.hid ?_, ?_, ?_, Lib.hid (Hok'.out (by omega)), H⟩
                      · rw [foldS_succ l g b k (by omega), Hx.out, Hnn.out, Hs'.out, Hp.out]
                        rw [show ∀ z : List UInt8, txt z ++ (⟨#[9, 32]⟩ : ByteArray) = txt (z ++ [9, 32]) from fun z => txt_append _ [9, 32], txt_append]
                      · rw [foldW_succ l g k (by omega), Hx.out, Hnn.out, Ht'.out, Hp.out, if_pos Hn0.out]
                        rw [show ∀ z : List UInt8, txt z ++ (⟨#[32]⟩ : ByteArray) = txt (z ++ [32]) from fun z => txt_append _ [32], txt_append]
                      · rw [ByteArray.size_append, ByteArray.size_append]
                        have : (⟨#[9, 32]⟩ : ByteArray).size = 2 := rfl
                        omega
                      · rw [ByteArray.size_append, ByteArray.size_append]
                        have : (⟨#[32]⟩ : ByteArray).size = 1 := rfl
                        omega
                    case measure => simp [intOf]; omega
                  · have g1 : decide (y % 4 = 0) = false := decide_eq_false (by omega)
                    have g2 : (y % 4 == 0) = false := beq_eq_false_iff_ne.2 (by omega)
                    have Hn0 := Lib.hid hn0
                    clear hgn hn0 close
                    go_wp2
                    go_roundw
                    case rel =>
                      refine ⟨k + 1, _, _, by omega, by go_num, rfl, rfl, Lib.hid ?_, Lib.hid ?_, ?_, ?_, Lib.hid (Hok'.out (by omega)), H⟩
                      · rw [foldS_succ l g b k (by omega), Hx.out, Hnn.out, Hs'.out, Hp.out]
                        rw [show ∀ z : List UInt8, txt z ++ (⟨#[9, 32]⟩ : ByteArray) = txt (z ++ [9, 32]) from fun z => txt_append _ [9, 32], txt_append]
                      · rw [foldW_succ l g k (by omega), Hx.out, Hnn.out, Ht'.out, Hp.out, if_neg Hn0.out, List.append_nil, txt_append]
                      · rw [ByteArray.size_append, ByteArray.size_append]
                        have : (⟨#[9, 32]⟩ : ByteArray).size = 2 := rfl
                        omega
                      · rw [ByteArray.size_append]
                        omega
                    case measure => simp [intOf]; omega
      · obtain rfl : l.length = k := by omega
        have hR := hHR.out (fun j hj => Hok.out j hj hj)
        have hsl : (foldS l g b l.length).length ≤ 1000 := by
          have := hss
          rw [Hs.out, txt_size] at this
          omega
        have cR : ∀ w, Calls Try.prog 14 #[.int .i64 v, .string (s ++ ⟨#[34]⟩), .int .i64 0] w fun e w' => e = .returned (.tuple #[.string t, .int .i64 ((s.size : Int) + 1), .agg #[.int .i64 0, .int .i64 0]]) ∧ Below w.heap.size w w' := by
          intro w
          have hz : (s ++ (⟨#[34]⟩ : ByteArray)).size ≤ 1000000 := by
            rw [ByteArray.size_append]
            have : (⟨#[34]⟩ : ByteArray).size = 1 := rfl
            omega
          have e : s ++ (⟨#[34]⟩ : ByteArray) = txt (foldS l g b l.length ++ [34]) := by rw [Hs.out]; exact txt_append _ [34]
          refine dquote_Read.calls _ _ _ _ _ _ _ w ((if_pos hz).trans (congrArg some ?_))
          rw [e, hR, Hs.out, Ht.out, txt_size]
        clear hR hsl
        go_wp2_with (first | ((with_reducible refine (cV _).mono ?_); rintro e w' ⟨rfl, hb⟩; replace H := H.on hb.below; clear hb) | ((with_reducible refine (cR _).mono ?_); rintro e w' ⟨rfl, hb⟩; replace H := H.on hb; clear hb) | (refine wpList_alloc_H rfl 32 rfl _ (Try.zeroValue32) _ rfl H ?_; intro b2 w1 H1 hb1; replace H := H1; clear H1 hb1) | (refine wpList_store_H rfl 32 _ _ rfl _ _ rfl _ rfl (Try.sizeOf32) rfl (A := []) H (Nat.le_of_ble_eq_true rfl) _ rfl ?_; intro w2 H2 hg2; replace H := H2; clear H2 hg2) | (refine wpList_load_H rfl 30 _ rfl (Try.isAgg30) _ _ rfl H (.head _) _ rfl ?_))
        go_ret
        exact ⟨rfl, H.below⟩
end
end Go.Proofs.Ytgbnbjajaaggkaa.Q
