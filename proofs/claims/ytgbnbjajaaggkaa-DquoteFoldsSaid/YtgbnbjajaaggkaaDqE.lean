/- dquote.Read: one answer for every text. -/
import Derived.Test.YtgbnbjajaaggkaaDqC
import Derived.Test.YtgbnbjajaaggkaaEvs
import Derived.Laws.Strings
import Derived.Lib.IndexBytes
import Derived.Test.YtgbnbjajaaggkaaQx3
import Derived.Test.YtgbnbjajaaggkaaQx2
import Derived.Test.YtgbnbjajaaggkaaDqD
namespace Go.Proofs.Ytgbnbjajaaggkaa.Q
open Go Go.RowKit Go.Proofs Go.Proofs.YtgbnbjajaaggkaaW.PrintWords Go.Proofs.YtgbnbjajaaggkaaW.PrintLast Go.Proofs.YtgbnbjajaaggkaaW.PrintMore
set_option linter.unusedVariables false
set_option linter.unusedSimpArgs false

theorem single_new : ∀ c : UInt8, dquote_single.f 3 11 (c.toNat : Int) = some (singleN 11 c) := fun c => all_bytes8 (p := fun c => dquote_single.f 3 11 (c.toNat : Int) = some (singleN 11 c)) (by decide +kernel) c
theorem single_old : ∀ c : UInt8, dquote_single.f 3 0 (c.toNat : Int) = some (singleN 0 c) := fun c => all_bytes8 (p := fun c => dquote_single.f 3 0 (c.toNat : Int) = some (singleN 0 c)) (by decide +kernel) c
theorem single_any (v : Int) (hv : v ≠ 11) (c : UInt8) : dquote_single.f 3 v (c.toNat : Int) = some (singleN v c) := by
  have h := single_old c
  have e : singleN v c = singleN 0 c := by
    unfold singleN
    rw [if_neg hv, if_neg (show ¬ (0 : Int) = 11 by decide)]
  rw [e, ← h]
  simp only [dquote_single.f, dquote_single.j0, dquote_single.j1, if_neg hv, if_neg (show ¬ (0 : Int) = 11 by decide)]
theorem single_says (v : Int) (c : UInt8) (w : World) : Calls Try.prog 47 #[.int .i64 v, .int .u8 (c.toNat : Int)] w fun e w' => e = .returned (.int .i32 (singleN v c)) ∧ Drawn0 w w' := by
  refine dquote_single.calls 3 v c.toNat _ w ?_
  by_cases hv : v = 11
  · subst hv; exact single_new c
  · exact single_any v hv c

theorem digit_says (c : UInt8) (w : World) : Calls Try.prog 49 #[.int .u8 (c.toNat : Int)] w fun e w' => e = .returned (.int .i64 (hexD c)) ∧ Drawn0 w w' :=
  dquote_digit.calls c.toNat _ w (all_bytes8 (p := fun c => dquote_digit.f (c.toNat : Int) = some (hexD c)) (by decide +kernel) c)

theorem index_says (c : UInt8) (w : World) : Calls Try.prog 46 #[.string ⟨#[45, 45, 120, 45, 117, 45, 45, 45, 85]⟩, .int .u8 (c.toNat : Int)] w fun e w' => e = .returned (.int .i64 (widthI c)) ∧ Drawn0 w w' :=
  strings_IndexByte.calls _ c.toNat _ w (by simp [strings_IndexByte.f, widthI])

theorem valid_says (n : Int) (w : World) : Calls Try.prog 50 #[.int .i32 n] w fun e w' => e = .returned (.bool (Lib.validRune n)) ∧ Drawn0 w w' := by
  refine (utf8_ValidRune.calls 1 n (Lib.validRune n) w ?_).mono fun e w' h => h
  unfold utf8_ValidRune.f Lib.validRune
  by_cases h0 : 0 ≤ n
  · rw [if_pos h0]
    simp only [utf8_ValidRune.j0, decide_eq_true_eq]
    repeat' split
    all_goals (congr 1; symm; first | (apply decide_eq_true; omega) | (apply decide_eq_false; omega))
  · rw [if_neg h0]
    simp only [utf8_ValidRune.j0]
    rw [if_neg (by decide)]
    repeat' split
    all_goals (congr 1; symm; first | (apply decide_eq_true; omega) | (apply decide_eq_false; omega))

theorem overN_at {s : ByteArray} {a : Nat} (h : a < s.size) : overN s a = if s[a] = 32 ∨ s[a] = 9 then overN s (a + 1) else a := by
  unfold overN
  rw [drop_cons s a h, List.takeWhile_cons]
  by_cases hc : s[a] = 32 ∨ s[a] = 9
  · rw [if_pos (decide_eq_true hc), if_pos hc, List.length_cons]
    omega
  · rw [if_neg (by rw [decide_eq_true_eq]; exact hc), if_neg hc]
    rfl
theorem overN_end {s : ByteArray} {a : Nat} (h : s.size ≤ a) : overN s a = a := by
  unfold overN
  rw [List.drop_eq_nil_of_le (by rw [Array.length_toList]; exact h)]
  rfl
theorem blank_f (s : ByteArray) (a : Nat) : rows_Blank.f s a = some (if h : a < s.size then decide (s[a] = 32 ∨ s[a] = 9) else false) := by
  unfold rows_Blank.f
  rw [if_pos (by omega : (a : Int) ≥ 0)]
  by_cases h : a < s.size
  · rw [if_pos (by omega), if_pos (by omega), dif_pos h, bt_nat s a h]
    have e32 : ((s[a].toNat : Int) = 32) ↔ s[a] = 32 := byte_eq s[a] 32
    have e9 : ((s[a].toNat : Int) = 9) ↔ s[a] = 9 := byte_eq s[a] 9
    by_cases h32 : s[a] = 32
    · rw [if_pos (by rw [h32]; rfl)]
      congr 1
      symm
      exact decide_eq_true (.inl h32)
    · rw [if_neg (fun h => h32 (e32.1 h))]
      congr 1
      by_cases h9 : s[a] = 9
      · rw [h9]; rfl
      · rw [decide_eq_false (by rintro (h | h); exact h32 h; exact h9 h)]
        exact beq_eq_false_iff_ne.2 (fun h => h9 (e9.1 h))
  · rw [if_neg (by omega), dif_neg h]

theorem over_f (s : ByteArray) (hs : s.size ≤ 1000000) : ∀ (n a : Nat), a ≤ s.size → s.size - a ≤ n → rows_Over.l0 (n + 1) s (a : Int) = some ((overN s a : Nat) : Int) := by
  intro n
  induction n with
  | zero =>
    intro a ha hn
    rw [rows_Over.l0, blank_f, dif_neg (by omega), overN_end (by omega), Option.bind_some, if_neg Bool.false_ne_true]
  | succ n ih =>
    intro a ha hn
    rw [rows_Over.l0, blank_f]
    by_cases h : a < s.size
    · rw [dif_pos h, overN_at h]
      by_cases hc : s[a] = 32 ∨ s[a] = 9
      · rw [decide_eq_true hc, if_pos hc, Option.bind_some, if_pos rfl]
        have e : wrap64 ((a : Int) + 1) = ((a + 1 : Nat) : Int) := wrap_id (by omega) (by omega)
        rw [e]
        exact ih (a + 1) h (by omega)
      · rw [decide_eq_false hc, if_neg hc, Option.bind_some, if_neg Bool.false_ne_true]
    · rw [dif_neg h, overN_end (by omega), Option.bind_some, if_neg Bool.false_ne_true]
theorem over_says (s : ByteArray) (hs : s.size ≤ 1000000) (a : Nat) (w : World) (ha : a ≤ s.size) : Calls Try.prog 30 #[.string s, .int .i64 a] w fun e' w' => e' = .returned (.int .i64 (overN s a)) ∧ Drawn0 w w' :=
  rows_Over.calls (s.size + 1) s a _ w (over_f s hs s.size a ha (by omega))

theorem brk_f (v : Int) (s : ByteArray) (hs : s.size ≤ 1000000) (a : Nat) : brk_Break.f v s a = some ((brkN v s a : Nat) : Int) := by
  unfold brk_Break.f brkN
  rw [if_pos (by omega), if_pos (by omega), Int.toNat_natCast]
theorem brk_says (v : Int) (s : ByteArray) (hs : s.size ≤ 1000000) (a : Nat) (w : World) : Calls Try.prog 31 #[.int .i64 v, .string s, .int .i64 a] w fun e w' => e = .returned (.int .i64 (brkN v s a)) ∧ Drawn0 w w' :=
  brk_Break.calls v s a _ w (brk_f v s hs a)

theorem repeat_f (n : Nat) (h1 : 1 ≤ n) (hn : n ≤ 1000000) : strings_Repeat.f ⟨#[10]⟩ ((n : Int) - 1) = some ⟨(Lib.repeatL [10] (n - 1)).toArray⟩ := by
  unfold strings_Repeat.f
  have e : ((n : Int) - 1).toNat = n - 1 := by omega
  rw [e, if_pos ⟨by omega, by omega, by show 1 * (n - 1) ≤ _; omega⟩]
theorem repeat_says (n : Nat) (w : World) (h1 : 1 ≤ n) (hn : n ≤ 1000000) : Calls Try.prog 43 #[.string ⟨#[10]⟩, .int .i64 ((n : Int) - 1)] w fun e w' => e = .returned (.string ⟨(Lib.repeatL [10] (n - 1)).toArray⟩) ∧ Below w.heap.size w w' :=
  strings_Repeat.calls _ _ _ w (repeat_f n h1 hn)
theorem folded_says (n : Nat) (w : World) (h1 : 1 ≤ n) (hn : n ≤ 1000000) : Calls Try.prog 44 #[.int .i64 n] w fun e w' => e = .returned (.string ⟨(foldedL n).toArray⟩) ∧ Below w.heap.size w w' := by
  refine rows_Folded.calls n _ w ?_
  unfold rows_Folded.f foldedL
  by_cases h : n = 1
  · subst h; rfl
  · rw [if_neg (by omega), if_neg h]
    have e : mx (wrap64 ((n : Int) - 1)) 0 = (n : Int) - 1 := by
      rw [wrap_id (by omega) (by omega)]
      unfold mx
      split <;> omega
    rw [e, repeat_f n h1 hn]
    rfl

theorem brkL_le (b : Bool) (l : List UInt8) : brkL b l ≤ l.length := by
  cases l with
  | nil => exact Nat.le_refl _
  | cons c l =>
    unfold brkL
    simp only [List.length_cons]
    split
    · split
      · rename_i h
        cases l with
        | nil => exact nomatch h
        | cons d l => simp only [List.length_cons]; omega
      · omega
    · split
      · omega
      · split
        · rename_i h
          cases l with
          | nil => exact nomatch h.2.2
          | cons d l => simp only [List.length_cons]; omega
        · split
          · rename_i h
            rcases l with _ | ⟨d, _ | ⟨e, l⟩⟩
            · rcases h.2.2 with h | h <;> exact nomatch h
            · rcases h.2.2 with h | h <;> exact absurd h (by simp)
            · simp only [List.length_cons]; omega
          · omega
theorem brkN_le (v : Int) (s : ByteArray) (a : Nat) (ha : a ≤ s.size) : a + brkN v s a ≤ s.size := by
  have h := brkL_le (v == 11) (s.data.toList.drop a)
  rw [List.length_drop, Array.length_toList] at h
  have : s.data.size = s.size := rfl
  unfold brkN
  omega

/-- Where a line's text ends. -/
def lineN (v : Int) (s : ByteArray) : Nat → Nat → Nat
  | 0, a => a
  | n + 1, a => if a < s.size ∧ brkN v s a = 0 then lineN v s n (a + 1) else a
theorem line_f (v : Int) (s : ByteArray) (hs : s.size ≤ 1000000) (c x : Int) : ∀ (n a : Nat), a ≤ s.size → s.size - a ≤ n →
    rows_Line.l0 (n + 1) v s c (a : Int) x = some (c, ((lineN v s n a : Nat) : Int), ((lineN v s n a + brkN v s (lineN v s n a) : Nat) : Int)) := by
  have hw : ∀ a : Nat, a ≤ s.size → wrap64 ((a : Int) + ((brkN v s a : Nat) : Int)) = ((a + brkN v s a : Nat) : Int) := fun a ha => by
    have := brkN_le v s a ha
    rw [wrap_id (by omega) (by omega)]
    omega
  intro n
  induction n with
  | zero =>
    intro a ha hn
    rw [rows_Line.l0, if_neg (by omega), brk_f v s hs a, Option.bind_some, hw a ha]
    rfl
  | succ n ih =>
    intro a ha hn
    rw [rows_Line.l0, brk_f v s hs a]
    by_cases h : a < s.size
    · rw [if_pos (by omega), Option.bind_some]
      by_cases hb : brkN v s a = 0
      · have e : wrap64 ((a : Int) + 1) = ((a + 1 : Nat) : Int) := wrap_id (by omega) (by omega)
        rw [if_pos (by omega), e, ih (a + 1) h (by omega), lineN, if_pos ⟨h, hb⟩]
      · rw [if_neg (by omega), Option.bind_some, lineN, if_neg (fun h => hb h.2), hw a ha]
    · rw [if_neg (by omega), Option.bind_some, lineN, if_neg (fun hh => h hh.1), hw a ha]

theorem prefix_f (t p : ByteArray) : strings_HasPrefix.f t p = some (t.data.toList.take p.size == p.data.toList) := by
  unfold strings_HasPrefix.f stringslite_HasPrefix.f
  by_cases h : p.size ≤ t.size
  · rw [if_pos (by omega), if_pos (by omega), if_pos (by omega), Option.bind_some, Int.toNat_natCast, ByteArray.toList_eq, ByteArray.toList_eq, Lib.extract_data]
    simp
  · rw [if_neg (by omega), Option.bind_some]
    congr 1
    symm
    rw [beq_eq_false_iff_ne]
    intro e
    have := congrArg List.length e
    rw [List.length_take, Array.length_toList, Array.length_toList] at this
    have h1 : t.data.size = t.size := rfl
    have h2 : p.data.size = p.size := rfl
    omega

theorem lineN_le (v : Int) (s : ByteArray) : ∀ (n a : Nat), a ≤ s.size → a ≤ lineN v s n a ∧ lineN v s n a ≤ s.size := by
  intro n
  induction n with
  | zero => intro a ha; exact ⟨Nat.le_refl _, ha⟩
  | succ n ih =>
    intro a ha
    rw [lineN]
    split
    · rename_i h
      have := ih (a + 1) h.1
      omega
    · omega
theorem lineN_any (v : Int) (s : ByteArray) : ∀ (n m a : Nat), a ≤ s.size → s.size - a ≤ n → s.size - a ≤ m → lineN v s n a = lineN v s m a := by
  intro n
  induction n with
  | zero =>
    intro m a ha hn hm
    cases m with
    | zero => rfl
    | succ m => rw [lineN, lineN, if_neg (by omega)]
  | succ n ih =>
    intro m a ha hn hm
    cases m with
    | zero => rw [lineN, lineN, if_neg (by omega)]
    | succ m =>
      rw [lineN, lineN]
      split
      · rename_i h
        exact ih m (a + 1) h.1 (by omega) (by omega)
      · rfl

/-- Whether a line's text is a marker. -/
def markB (t : List UInt8) : Bool := (t.take 3 == [45, 45, 45] || t.take 3 == [46, 46, 46]) && (match t.drop 3 with | [] => true | c :: _ => c == 32 || c == 9)
def markedN (v : Int) (s : ByteArray) (a : Nat) : Bool := markB (s.extract a (lineN v s s.size a)).data.toList

theorem markj (t : ByteArray) (k : Nat) : ∃ r : Int, brk_Marker.j0 (k + 1) t false = some r ∧ decide (r > 0) = (t.data.toList.take 3 == [45, 45, 45] || t.data.toList.take 3 == [46, 46, 46]) := by
  rw [brk_Marker.j0, if_neg Bool.false_ne_true, prefix_f, prefix_f, Option.bind_some, Option.bind_some]
  show ∃ r : Int, (if (t.data.toList.take 3 == [45, 45, 45]) = true then some 1 else if (t.data.toList.take 3 == [46, 46, 46]) = true then some 2 else some 0) = some r ∧ _
  cases h1 : (t.data.toList.take 3 == [45, 45, 45])
  · cases h2 : (t.data.toList.take 3 == [46, 46, 46])
    · exact ⟨0, by simp, by simp⟩
    · exact ⟨2, by simp, by simp⟩
  · exact ⟨1, by simp, by simp⟩

theorem marker_f (s : ByteArray) (a e x : Nat) (hae : a ≤ e) (hex : e ≤ x) (hx : x ≤ s.size) (k : Nat) : ∃ r : Int, brk_Marker.f (k + 1) s a e x = some r ∧ decide (r > 0) = markB (s.extract a e).data.toList := by
  unfold brk_Marker.f brk_says.f
  rw [if_neg (by omega), if_neg (by omega), if_neg (by omega), if_neg (by omega), if_pos (by omega), if_pos (by omega), if_pos (by omega), Option.bind_some, Int.toNat_natCast, Int.toNat_natCast]
  generalize s.extract a e = t
  have hl : t.data.toList.length = t.size := by rw [Array.length_toList]; rfl
  unfold markB
  by_cases h3 : t.size > 3
  · rw [if_pos (by show (t.size : Int) > 3; omega), if_pos (by show 3 < (t.size : Int); omega)]
    have hd : t.data.toList.drop 3 = t[3] :: t.data.toList.drop 4 := drop_cons t 3 h3
    have hb : bt t 3 = ((t[3]).toNat : Int) := bt_nat t 3 h3
    have e32 : ((t[3].toNat : Int) = 32) ↔ t[3] = 32 := byte_eq t[3] 32
    have e9 : ((t[3].toNat : Int) = 9) ↔ t[3] = 9 := byte_eq t[3] 9
    rw [hd]
    show ∃ r : Int, (if bt t 3 = 32 then brk_Marker.j0 (k + 1) t false else brk_Marker.j0 (k + 1) t (bt t 3 != 9)) = some r ∧ _
    rw [hb]
    obtain ⟨r, hr, hd'⟩ := markj t k
    by_cases c32 : t[3] = 32
    · rw [if_pos (e32.2 c32)]
      exact ⟨r, hr, by rw [hd', c32]; simp⟩
    · rw [if_neg (fun h => c32 (e32.1 h))]
      by_cases c9 : t[3] = 9
      · have : ((t[3].toNat : Int) != 9) = false := by rw [bne_eq_false_iff_eq]; exact e9.2 c9
        rw [this]
        exact ⟨r, hr, by rw [hd', c9]; simp⟩
      · have : ((t[3].toNat : Int) != 9) = true := by rw [bne_iff_ne]; exact fun h => c9 (e9.1 h)
        rw [this, brk_Marker.j0, if_pos rfl]
        exact ⟨0, rfl, by simp [c32, c9]⟩
  · rw [if_neg (by show ¬ (t.size : Int) > 3; omega)]
    obtain ⟨r, hr, hd'⟩ := markj t k
    rw [List.drop_eq_nil_of_le (by omega)]
    exact ⟨r, hr, by rw [hd']; simp⟩

theorem marked_f (v : Int) (s : ByteArray) (hs : s.size ≤ 1000000) (a : Nat) (ha : a ≤ s.size) (k : Nat) (hk : s.size ≤ k) : rows_Marked.f (k + 1) v s a = some (markedN v s a) := by
  unfold rows_Marked.f rows_Line.f
  rw [line_f v s hs a 0 k a ha (by omega), Option.bind_some, lineN_any v s k s.size a ha (by omega) (by omega)]
  have h1 := lineN_le v s s.size a ha
  have h2 := brkN_le v s _ h1.2
  obtain ⟨r, hr, hd⟩ := marker_f s a (lineN v s s.size a) (lineN v s s.size a + brkN v s (lineN v s s.size a)) h1.1 (by omega) h2 k
  show (brk_Marker.f (k + 1) s (a : Int) _ _).bind _ = _
  rw [hr, Option.bind_some, hd]
  rfl

/-- A row of breaks: how many, and where it ends; none: a marker stands there. -/
def foldN (v : Int) (s : ByteArray) : Nat → Nat → Nat → Option Nat × Nat
  | 0, n, a => (some n, a)
  | k + 1, n, a => if 0 < brkN v s a then (if markedN v s (a + brkN v s a) = true then (none, a + brkN v s a) else foldN v s k (n + 1) (overN s (a + brkN v s a))) else (some n, a)
def foldI (r : Option Nat × Nat) : Int × Int := ((match r.1 with | some n => (n : Int) | none => -1), (r.2 : Int))

theorem over_k (s : ByteArray) (hs : s.size ≤ 1000000) (a k : Nat) (ha : a ≤ s.size) (hk : s.size + 1 ≤ k) : rows_Over.f k s a = some ((overN s a : Nat) : Int) := by
  obtain ⟨m, rfl⟩ : ∃ m, k = m + 1 := ⟨k - 1, by omega⟩
  exact over_f s hs m a ha (by omega)
theorem fold_f (v : Int) (s : ByteArray) (hs : s.size ≤ 1000000) : ∀ (j n a : Nat), a ≤ s.size → s.size - a ≤ j → n ≤ a →
    rows_Fold.l0 (j + s.size + 2) v s (a : Int) (n : Int) ((brkN v s a : Nat) : Int) = some (foldI (foldN v s (j + 1) n a)) := by
  intro j
  induction j with
  | zero =>
    intro n a ha hj hn
    have hb := brkN_le v s a ha
    rw [rows_Fold.l0, if_neg (by omega), foldN, if_neg (by omega)]
    rfl
  | succ j ih =>
    intro n a ha hj hn
    have hb := brkN_le v s a ha
    rw [show j + 1 + s.size + 2 = (j + s.size + 2) + 1 by omega, rows_Fold.l0, foldN]
    by_cases h : 0 < brkN v s a
    · have e : wrap64 ((a : Int) + ((brkN v s a : Nat) : Int)) = ((a + brkN v s a : Nat) : Int) := by
        rw [wrap_id (by omega) (by omega)]
        omega
      rw [if_pos (by omega), if_pos h, e, marked_f v s hs _ hb (j + s.size + 1) (by omega), Option.bind_some]
      by_cases hm : markedN v s (a + brkN v s a) = true
      · rw [if_pos hm, if_pos hm]
        rfl
      · have ho := overN_le (s := s) hb
        have e1 : wrap64 ((n : Int) + 1) = ((n + 1 : Nat) : Int) := wrap_id (by omega) (by omega)
        rw [if_neg hm, if_neg hm, over_k s hs _ _ hb (by omega), Option.bind_some, brk_f v s hs, Option.bind_some, e1]
        exact ih (n + 1) _ ho.2 (by omega) (by omega)
    · rw [if_neg (by omega), if_neg h]
      rfl
def foldF (v : Int) (s : ByteArray) (a : Nat) : Option Nat × Nat := foldN v s (s.size + 1) 0 a
theorem foldN_le (v : Int) (s : ByteArray) : ∀ (k n a m e : Nat), a ≤ s.size → foldN v s k n a = (some m, e) → n ≤ m ∧ a + (m - n) ≤ e ∧ e ≤ s.size := by
  intro k
  induction k with
  | zero => intro n a m e ha h; simp only [foldN, Prod.mk.injEq, Option.some.injEq] at h; omega
  | succ k ih =>
    intro n a m e ha h
    have hb := brkN_le v s a ha
    rw [foldN] at h
    split at h
    · split at h
      · simp at h
      · have ho := overN_le (s := s) hb
        have := ih (n + 1) _ m e ho.2 h
        omega
    · simp only [Prod.mk.injEq, Option.some.injEq] at h
      omega
theorem fold_says (v : Int) (s : ByteArray) (hs : s.size ≤ 1000000) (a : Nat) (w : World) (ha : a ≤ s.size) : Calls Try.prog 41 #[.int .i64 v, .string s, .int .i64 a] w fun e' w' => e' = .returned (.tuple #[.int .i64 (match (foldF v s a).1 with | some n => (n : Int) | none => -1), .int .i64 (foldF v s a).2]) ∧ Below w.heap.size w w' := by
  refine rows_Fold.calls (s.size + s.size + 2) v s a _ _ w ?_
  unfold rows_Fold.f
  rw [brk_f v s hs a, Option.bind_some]
  exact fold_f v s hs s.size 0 a ha (by omega) (Nat.zero_le _)
theorem says (v : Int) (s : ByteArray) (hs : s.size ≤ 1000000) : Says v s (foldF v s) where
  size := hs
  fold := fun a n e ha hb h => by
    have hb2 := brkN_le v s a ha
    unfold foldF at h
    rw [foldN, if_pos hb] at h
    split at h
    · simp at h
    · have ho := overN_le (s := s) hb2
      have := foldN_le v s _ _ _ _ _ ho.2 h
      omega
  cO := fun a w ha => over_says s hs a w ha
  cB := brk_says v s hs
  cF := fun a w ha _ => fold_says v s hs a w ha
  cR := repeat_says
  cG := folded_says
  cI := index_says
  cS := single_says v
  cD := digit_says
  cV := valid_says
end Go.Proofs.Ytgbnbjajaaggkaa.Q

namespace Go.Proofs.Ytgbnbjajaaggkaa.Q
open Go Go.RowKit Go.Proofs Go.Proofs.YtgbnbjajaaggkaaW.PrintWords Go.Proofs.YtgbnbjajaaggkaaW.PrintLast Go.Proofs.YtgbnbjajaaggkaaW.PrintMore
set_option linter.unusedVariables false
set_option linter.unusedSimpArgs false

theorem readL_ends {v : Int} {s : ByteArray} {F : Nat → Option Nat × Nat} (A : Says v s F) : ∀ (n a : Nat) (l : List UInt8), s.size - a ≤ n → ∃ R, readL v s F (n + 1) a l = some R := by
  intro n
  induction n with
  | zero =>
    intro a l hn
    rw [readL, dif_neg (by omega)]
    exact ⟨_, rfl⟩
  | succ n ih =>
    intro a l hn
    rw [readL]
    by_cases h : a < s.size
    · rw [dif_pos h]
      by_cases h34 : s[a] = 34
      · rw [if_pos h34]; exact ⟨_, rfl⟩
      · rw [if_neg h34]
        cases hp : partR v s F a l with
        | go a' l' =>
          have := partR_le A h hp
          exact ih a' l' (by omega)
        | bad c o => exact ⟨_, rfl⟩
    · rw [dif_neg h]
      exact ⟨_, rfl⟩

/-- What dquote.Read answers. -/
def readF (v : Int) (s : ByteArray) (i : Int) : ByteArray × Int × Int × Int :=
  if h : 0 ≤ i ∧ i.toNat < s.size then
    if s[i.toNat]'h.2 = 34 then
      match readL v s (foldF v s) (s.size + 1) (i.toNat + 1) [] with
      | some (.go a l) => if a < s.size then (⟨l.toArray⟩, (a : Int) + 1, 0, 0) else (⟨#[]⟩, 0, 11, i)
      | some (.bad c o) => (⟨#[]⟩, 0, c, o)
      | none => (⟨#[]⟩, 0, 11, i)
    else (⟨#[]⟩, 0, 11, i)
  else (⟨#[]⟩, 0, 11, i)

theorem Read_says (v : Int) (s : ByteArray) (i : Int) (w : World) (hs : s.size ≤ 1000000) :
    Calls Try.prog 14 #[.int .i64 v, .string s, .int .i64 i] w (ReadPost w (readF v s i).1 (readF v s i).2.1 (readF v s i).2.2.1 (readF v s i).2.2.2) := by
  by_cases h0 : 0 ≤ i
  · obtain ⟨n, rfl⟩ := Int.eq_ofNat_of_zero_le h0
    by_cases hn : n < s.size
    · by_cases h34 : s[n] = 34
      · obtain ⟨R, hR⟩ := readL_ends (says v s hs) s.size (n + 1) [] (by omega)
        have e : readF v s (n : Int) = (match some R with
            | some (.go a l) => if a < s.size then ((⟨l.toArray⟩ : ByteArray), (a : Int) + 1, (0 : Int), (0 : Int)) else (⟨#[]⟩, 0, 11, (n : Int))
            | some (.bad c o) => (⟨#[]⟩, 0, c, o)
            | none => (⟨#[]⟩, 0, 11, (n : Int))) := by
          unfold readF
          simp only [Int.toNat_natCast]
          rw [dif_pos ⟨h0, hn⟩, if_pos h34, hR]
        rw [e]
        refine (Read_run v s (foldF v s) (says v s hs) n (s.size + 1) w hn h34 R hR).mono fun e' w' h => ?_
        cases R with
        | bad c o => exact h
        | go a l =>
          simp only [ReadR] at h
          by_cases ha : a < s.size
          · simp only [if_pos ha] at h ⊢
            exact h
          · simp only [if_neg ha] at h ⊢
            exact h
      · have e : readF v s (n : Int) = (⟨#[]⟩, 0, 11, (n : Int)) := by
          unfold readF
          simp only [Int.toNat_natCast]
          rw [dif_pos ⟨h0, hn⟩, if_neg h34]
        rw [e]
        exact Read_other v s n w hn h34
    · have e : readF v s (n : Int) = (⟨#[]⟩, 0, 11, (n : Int)) := by
        unfold readF
        simp only [Int.toNat_natCast]
        rw [dif_neg (fun h => hn h.2)]
      rw [e]
      exact Read_end v s n w (by omega)
  · have e : readF v s i = (⟨#[]⟩, 0, 11, i) := by
      unfold readF
      rw [dif_neg (fun h => h0 h.1)]
    rw [e]
    exact Read_out v s i w (by omega)
end Go.Proofs.Ytgbnbjajaaggkaa.Q
