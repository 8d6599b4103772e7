/- dquote's reader: one part of a text, whole. -/
import Derived.Test.YtgbnbjajaaggkaaDqB
import Derived.Test.YtgbnbjajaaggkaaQx1
namespace Go.Proofs.Ytgbnbjajaaggkaa.Q
open Go Go.RowKit Go.Proofs Go.Proofs.YtgbnbjajaaggkaaW.PrintWords Go.Proofs.YtgbnbjajaaggkaaW.PrintLast Go.Proofs.YtgbnbjajaaggkaaW.PrintMore
set_option linter.unusedVariables false
set_option linter.unusedSimpArgs false

/-- What the reader comes to: a place and a row; or an error. -/
inductive Res where
  | go (a : Nat) (l : List UInt8)
  | bad (c o : Int)
def Res.Post (w0 : World) (L : List (Nat × List Value × TypeId)) (b : Nat) (v : Int) (s : ByteArray) (code off : Int) (R : Res) (e : Ending) (w' : World) : Prop :=
  match R with
  | .go a l => e = .returned (.bool true) ∧ RD w0 L b v s a l code off w'
  | .bad c o => e = .returned (.bool false) ∧ ∃ a l, RD w0 L b v s a l c o w'

/-- The place behind the blanks. -/
def overN (s : ByteArray) (a : Nat) : Nat := a + ((s.data.toList.drop a).takeWhile fun c => c = 32 ∨ c = 9).length
def brkN (v : Int) (s : ByteArray) (a : Nat) : Nat := brkL (v == 11) (s.data.toList.drop a)
def foldedL (n : Nat) : List UInt8 := if n = 1 then [32] else Lib.repeatL [10] (n - 1)
/-- How many digits a sign behind a backslash begins. -/
def widthI (c : UInt8) : Int := Lib.indexByte [45, 45, 120, 45, 117, 45, 45, 45, 85] c
/-- What a sign behind a backslash stands for; -1: nothing. -/
def singleN (v : Int) (c : UInt8) : Int :=
  if c = 48 then 0 else if c = 97 then 7 else if c = 98 then 8 else if c = 116 then 9 else if c = 110 then 10 else if c = 118 then 11 else if c = 102 then 12 else if c = 114 then 13
  else if c = 101 then 27 else if c = 32 then 32 else if c = 34 then 34 else if c = 92 then 92 else if c = 9 then 9 else if c = 78 then 133 else if c = 95 then 160 else if c = 76 then 8232 else if c = 80 then 8233
  else if c = 47 then (if v = 11 then -1 else 47) else -1

/-- What the reader's helpers answer. F: what a row of breaks says (none: a marker), and where it ends. -/
structure Says (v : Int) (s : ByteArray) (F : Nat → Option Nat × Nat) : Prop where
  size : s.size ≤ 1000000
  fold : ∀ a n e, a ≤ s.size → 0 < brkN v s a → F a = (some n, e) → 1 ≤ n ∧ a + n ≤ e ∧ e ≤ s.size
  cO : ∀ (a : Nat) w, a ≤ s.size → Calls Try.prog 30 #[.string s, .int .i64 a] w fun e' w' => e' = .returned (.int .i64 (overN s a)) ∧ Drawn0 w w'
  cB : ∀ (a : Nat) w, Calls Try.prog 31 #[.int .i64 v, .string s, .int .i64 a] w fun e w' => e = .returned (.int .i64 (brkN v s a)) ∧ Drawn0 w w'
  cF : ∀ (a : Nat) w, a ≤ s.size → 0 < brkN v s a → Calls Try.prog 41 #[.int .i64 v, .string s, .int .i64 a] w fun e' w' => e' = .returned (.tuple #[.int .i64 (match (F a).1 with | some n => (n : Int) | none => -1), .int .i64 (F a).2]) ∧ Below w.heap.size w w'
  cR : ∀ (n : Nat) w, 1 ≤ n → n ≤ 1000000 → Calls Try.prog 43 #[.string ⟨#[10]⟩, .int .i64 ((n : Int) - 1)] w fun e w' => e = .returned (.string ⟨(Lib.repeatL [10] (n - 1)).toArray⟩) ∧ Below w.heap.size w w'
  cG : ∀ (n : Nat) w, 1 ≤ n → n ≤ 1000000 → Calls Try.prog 44 #[.int .i64 n] w fun e w' => e = .returned (.string ⟨(foldedL n).toArray⟩) ∧ Below w.heap.size w w'
  cI : ∀ (c : UInt8) w, Calls Try.prog 46 #[.string ⟨#[45, 45, 120, 45, 117, 45, 45, 45, 85]⟩, .int .u8 (c.toNat : Int)] w fun e w' => e = .returned (.int .i64 (widthI c)) ∧ Drawn0 w w'
  cS : ∀ (c : UInt8) w, Calls Try.prog 47 #[.int .i64 v, .int .u8 (c.toNat : Int)] w fun e w' => e = .returned (.int .i32 (singleN v c)) ∧ Drawn0 w w'
  cD : ∀ (c : UInt8) w, Calls Try.prog 49 #[.int .u8 (c.toNat : Int)] w fun e w' => e = .returned (.int .i64 (hexD c)) ∧ Drawn0 w w'
  cV : ∀ (n : Int) w, Calls Try.prog 50 #[.int .i32 n] w fun e w' => e = .returned (.bool (Lib.validRune n)) ∧ Drawn0 w w'

theorem widthI_le (c : UInt8) : widthI c ≤ 8 := all_bytes8 (p := fun c => widthI c ≤ 8) (by decide +kernel) c
theorem singleN_le (v : Int) (c : UInt8) : -1 ≤ singleN v c ∧ singleN v c ≤ 8233 := by
  unfold singleN
  repeat' split
  all_goals omega

def foldR (F : Nat → Option Nat × Nat) (t : Bool) (a : Nat) (l : List UInt8) : Res :=
  match F a with
  | (none, e) => .bad 11 e
  | (some n, e) => .go e (l ++ if t = true then Lib.repeatL [10] (n - 1) else foldedL n)
def hexR (s : ByteArray) (a wd : Nat) (l : List UInt8) : Res :=
  match hexRun wd (s.data.toList.drop (a + 2)) 0 with
  | some n => if Lib.validRune n = true then .go (a + 2 + wd) (l ++ Lib.encodeRune n) else .bad 14 a
  | none => .bad 14 a
def turnedR (v : Int) (s : ByteArray) (F : Nat → Option Nat × Nat) (a : Nat) (l : List UInt8) : Res :=
  if h : a + 1 < s.size then
    if 0 < brkN v s (a + 1) then foldR F true (a + 1) l
    else if 1 < widthI s[a + 1] then hexR s a (widthI s[a + 1]).toNat l
    else if singleN v s[a + 1] < 0 then .bad 14 a
    else .go (a + 2) (l ++ Lib.encodeRune (singleN v s[a + 1]))
  else .bad 14 a
def partR (v : Int) (s : ByteArray) (F : Nat → Option Nat × Nat) (a : Nat) (l : List UInt8) : Res :=
  if 0 < brkN v s (overN s a) then foldR F false (overN s a) l
  else if a < overN s a then .go (overN s a) (l ++ (s.extract a (overN s a)).data.toList)
  else if h : a < s.size then if s[a] = 92 then turnedR v s F a l else .go (a + 1) (l ++ [s[a]])
  else .go a l

theorem Res.split (w0 : World) (L : List (Nat × List Value × TypeId)) (b : Nat) (v : Int) (s : ByteArray) (code off : Int) (R : Res) :
    ∃ (r : Bool) (Q : World → Prop), ∀ e w', Res.Post w0 L b v s code off R e w' ↔ (e = .returned (.bool r) ∧ Q w') := by
  cases R with
  | go a l => exact ⟨true, fun w' => RD w0 L b v s a l code off w', fun _ _ => Iff.rfl⟩
  | bad c o => exact ⟨false, fun w' => ∃ a l, RD w0 L b v s a l c o w', fun _ _ => Iff.rfl⟩

section
variable {w0 w : World} {L : List (Nat × List Value × TypeId)} {b : Nat} {v : Int} {s : ByteArray} {at_ : Nat} {l : List UInt8} {code off : Int} {F : Nat → Option Nat × Nat}

theorem foldedL_length {n : Nat} (h : 1 ≤ n) : (foldedL n).length ≤ n := by
  unfold foldedL
  split
  · simp; omega
  · rw [Lib.repeatL_length]; simp

theorem fold_post (A : Says v s F) (t : Bool) (ha : at_ ≤ s.size) (hb : 0 < brkN v s at_) (hl : l.length ≤ 100000000) (h : RD w0 L b v s at_ l code off w) :
    Calls Try.prog 32 #[.pointer (some ⟨b, 0, none⟩), .bool t] w (Res.Post w0 L b v s code off (foldR F t at_ l)) := by
  have hz := A.size
  have hF := fun w => A.cF at_ w ha hb
  rcases hf : F at_ with ⟨on, e⟩
  have hR : foldR F t at_ l = (match (on, e) with | (none, e) => Res.bad 11 e | (some n, e) => Res.go e (l ++ if t = true then Lib.repeatL [10] (n - 1) else foldedL n)) := by unfold foldR; rw [hf]
  rw [hR]
  rw [hf] at hF
  cases on with
  | none => exact (reader_fold_bad t e hF h).mono fun e' w' hh => ⟨hh.1, _, _, hh.2⟩
  | some n =>
    obtain ⟨h1, h2, h3⟩ := A.fold at_ n e ha hb hf
    have hn : n ≤ 1000000 := by omega
    cases t with
    | true => exact reader_fold_ok true n e ⟨(Lib.repeatL [10] (n - 1)).toArray⟩ hn h1 (by show l.length + (Lib.repeatL [10] (n - 1)).toArray.size ≤ _; rw [List.size_toArray, Lib.repeatL_length]; simp; omega) hF (fun _ w => A.cR n w h1 hn) (fun hc => nomatch hc) h
    | false => exact reader_fold_ok false n e ⟨(foldedL n).toArray⟩ hn h1 (by show l.length + (foldedL n).toArray.size ≤ _; rw [List.size_toArray]; have := foldedL_length h1; omega) hF (fun hc => nomatch hc) (fun _ w => A.cG n w h1 hn) h

theorem turned_post (A : Says v s F) (ha : at_ < s.size) (hl : l.length ≤ 100000000) (h : RD w0 L b v s at_ l code off w) :
    Calls Try.prog 34 #[.pointer (some ⟨b, 0, none⟩)] w (Res.Post w0 L b v s code off (turnedR v s F at_ l)) := by
  have hz := A.size
  unfold turnedR
  by_cases hlt : at_ + 1 < s.size
  · rw [dif_pos hlt]
    have hcB := fun w => A.cB (at_ + 1) w
    by_cases hk : 0 < brkN v s (at_ + 1)
    · rw [if_pos hk]
      obtain ⟨r, Q, hQ⟩ := Res.split w0 L b v s code off (foldR F true (at_ + 1) l)
      exact (turned_broken hz (by omega) hlt (brkN v s (at_ + 1) : Nat) (by omega) r Q hcB (fun w h => (fold_post A true (by omega) hk hl h).mono fun e w' hh => (hQ e w').1 hh) h).mono fun e w' hh => (hQ e w').2 hh
    · rw [if_neg hk]
      have hk0 : brkN v s (at_ + 1) = 0 := by omega
      rw [hk0] at hcB
      have hw := widthI_le s[at_ + 1]
      have hcI := fun w => A.cI s[at_ + 1] w
      by_cases h1 : 1 < widthI s[at_ + 1]
      · rw [if_pos h1]
        obtain ⟨wd, hwd⟩ := Int.eq_ofNat_of_zero_le (a := widthI s[at_ + 1]) (by omega)
        rw [hwd] at hcI hw h1 ⊢
        refine (turned_hex hz (by omega) hlt wd (by omega) (by omega) (by omega) Lib.validRune hcB hcI A.cD A.cV (fun n hn => by simp only [Lib.validRune, decide_eq_true_eq] at hn; omega) h).mono fun e w' hh => ?_
        unfold hexR
        rw [Int.toNat_natCast]
        unfold HexPost at hh
        cases hr : hexRun wd (s.data.toList.drop (at_ + 2)) 0 with
        | none => rw [hr] at hh; obtain ⟨he, a', hr'⟩ := hh; exact ⟨he, a', l, hr'⟩
        | some n =>
          rw [hr] at hh
          show Res.Post w0 L b v s code off (if Lib.validRune n = true then _ else _) e w'
          by_cases hv : Lib.validRune n = true
          · simp only [hv, if_true] at hh ⊢
            exact hh
          · simp only [hv, if_false] at hh ⊢
            obtain ⟨he, a', hr'⟩ := hh
            exact ⟨he, a', l, hr'⟩
      · rw [if_neg h1]
        have hcS := fun w => A.cS s[at_ + 1] w
        have hs := singleN_le v s[at_ + 1]
        by_cases hn : singleN v s[at_ + 1] < 0
        · rw [if_pos hn]
          refine (turned_bad hz (by omega) hlt _ _ (by omega) hn hcB hcI hcS h).mono fun e w' hh => ?_
          obtain ⟨he, a', hr'⟩ := hh
          exact ⟨he, a', l, hr'⟩
        · rw [if_neg hn]
          exact (turned_ok hz (by omega) hlt _ _ (by omega) (by omega) (by omega) (by omega) hcB hcI hcS h).mono fun e w' hh => hh
  · rw [dif_neg hlt]
    refine (turned_end hz (by omega) (by omega) h).mono fun e w' hh => ?_
    obtain ⟨he, a', hr'⟩ := hh
    exact ⟨he, a', l, hr'⟩

theorem overN_le {a : Nat} (h : a ≤ s.size) : a ≤ overN s a ∧ overN s a ≤ s.size := by
  unfold overN
  have := List.takeWhile_sublist (l := s.data.toList.drop a) (p := fun c => decide (c = 32 ∨ c = 9))
  have h2 := this.length_le
  rw [List.length_drop] at h2
  have h3 : s.data.toList.length = s.size := by rw [Array.length_toList]; rfl
  omega

theorem part_post (A : Says v s F) (ha : at_ < s.size) (hl : l.length ≤ 100000000) (h : RD w0 L b v s at_ l code off w) :
    Calls Try.prog 22 #[.pointer (some ⟨b, 0, none⟩)] w (Res.Post w0 L b v s code off (partR v s F at_ l)) := by
  have hz := A.size
  unfold partR
  have ho := overN_le (s := s) (Nat.le_of_lt ha)
  have hcO := fun w => A.cO at_ w (Nat.le_of_lt ha)
  have hcB := fun w => A.cB (overN s at_) w
  by_cases hk : 0 < brkN v s (overN s at_)
  · rw [if_pos hk]
    obtain ⟨r, Q, hQ⟩ := Res.split w0 L b v s code off (foldR F false (overN s at_) l)
    exact (reader_part_fold (overN s at_) (brkN v s (overN s at_) : Nat) (by omega) r Q hcO hcB (fun w h => (fold_post A false ho.2 hk hl h).mono fun e w' hh => (hQ e w').1 hh) h).mono fun e w' hh => (hQ e w').2 hh
  · rw [if_neg hk]
    have hk0 : brkN v s (overN s at_) = 0 := by omega
    rw [hk0] at hcB
    by_cases hlt : at_ < overN s at_
    · rw [if_pos hlt]
      exact (reader_part_blanks (overN s at_) hlt ho.2 hz (by omega) hcO hcB h).mono fun e w' hh => hh
    · rw [if_neg hlt, dif_pos ha]
      have he : overN s at_ = at_ := by omega
      rw [he] at hcO hcB
      by_cases h92 : s[at_] = 92
      · rw [if_pos h92]
        obtain ⟨r, Q, hQ⟩ := Res.split w0 L b v s code off (turnedR v s F at_ l)
        exact (reader_part_turned r Q ha hz h92 hcO hcB (fun w h => (turned_post A ha hl h).mono fun e w' hh => (hQ e w').1 hh) h).mono fun e w' hh => (hQ e w').2 hh
      · rw [if_neg h92]
        exact (reader_part_sign ha hz h92 (by omega) hcO hcB h).mono fun e w' hh => hh
end
end Go.Proofs.Ytgbnbjajaaggkaa.Q
