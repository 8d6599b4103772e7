/- The plain law of tags: what the program's calls of package tagname tell is what the reference tells. -/
import Derived.Test.YtmceepmchfjinaaTagBytes
import Derived.Laws.Strings
import Derived.Lib.IndexBytes
namespace Go.Proofs.Ytmceepmchfjinaa.Q
open Go.RowKit Go.Proofs.YtmceepmchfjinaaW.PrintWords Go.Proofs.YtmceepmchfjinaaW.PrintLast Go.Proofs.YtmceepmchfjinaaW.PrintMore
set_option linter.unusedVariables false
set_option linter.unusedSimpArgs false

theorem wrap_id {x : Int} (h0 : -9223372036854775808 ≤ x) (h1 : x ≤ 9223372036854775807) : wrap64 x = x := by
  unfold wrap64
  omega

/-! ### runs of bytes -/
theorem rowN_congr {p q : UInt8 → Bool} (h : ∀ c, p c = q c) : ∀ l : List UInt8, rowN p l = rowN q l
  | [] => rfl
  | c :: l => by unfold rowN; rw [h c, rowN_congr h l]

def run (p : UInt8 → Bool) (s : ByteArray) (i : Nat) : Nat := rowN p (s.data.toList.drop i)

theorem run_end (p : UInt8 → Bool) (s : ByteArray) (i : Nat) (h : s.size ≤ i) : run p s i = 0 := by
  unfold run
  rw [List.drop_eq_nil_of_le (by simpa using h)]
  rfl

theorem drop_cons (s : ByteArray) (i : Nat) (h : i < s.size) : s.data.toList.drop i = s[i] :: s.data.toList.drop (i + 1) := by
  rw [List.drop_eq_getElem_cons (by simpa using h)]
  rfl

theorem run_yes (p : UInt8 → Bool) (s : ByteArray) (i : Nat) (h : i < s.size) (hp : p s[i] = true) : run p s i = run p s (i + 1) + 1 := by
  unfold run
  rw [drop_cons s i h, rowN, if_pos hp]

theorem run_no (p : UInt8 → Bool) (s : ByteArray) (i : Nat) (h : i < s.size) (hp : p s[i] = false) : run p s i = 0 := by
  unfold run
  rw [drop_cons s i h, rowN, if_neg (by rw [hp]; decide)]

theorem run_le (p : UInt8 → Bool) (s : ByteArray) (i : Nat) (h : i ≤ s.size) : i + run p s i ≤ s.size := by
  have := rowN_le p (s.data.toList.drop i)
  unfold run
  simp at this
  omega

theorem bt_nat (s : ByteArray) (i : Nat) (h : i < s.size) : bt s (i : Int) = ((s[i]).toNat : Int) := by
  unfold bt
  simp only [Int.toNat_natCast, h, dif_pos]

/-- The program's row, at a part of a text that goes to its end. -/
theorem row_at (s : ByteArray) (a : Nat) (F : Nat) (p : UInt8 → Bool) (hs : s.size ≤ 1000000) (hF : F = 20 ∨ F = 23 ∨ F = 31) (hp : ∀ c, tagname_row.pred F c = p c) :
    tagname_row.f (s.extract a s.size) (.func (.func F) #[] #[]) = some ((run p s a : Nat) : Int) := by
  have hfn : tagname_row.isFn (.func (.func F) #[] #[]) = some F := by
    unfold tagname_row.isFn
    exact if_pos ⟨rfl, rfl, hF⟩
  unfold tagname_row.f
  rw [if_pos (by simp; omega), hfn]
  simp only [Option.map_some]
  rw [rowN_congr hp]
  unfold run
  rw [Lib.extract_to_end]

theorem extract2 (s : ByteArray) (n a b : Nat) (h : n + b ≤ s.size) : (s.extract n s.size).extract a b = s.extract (n + a) (n + b) := by
  rw [ByteArray.extract_extract, Nat.min_eq_left h]

theorem extract2_end (s : ByteArray) (n a : Nat) (h : n ≤ s.size) : (s.extract n s.size).extract a (s.extract n s.size).size = s.extract (n + a) s.size := by
  rw [ByteArray.extract_extract]
  congr 1
  simp
  omega

theorem bt_part (s : ByteArray) (n i : Nat) (h : n + i < s.size) : bt (s.extract n s.size) (i : Int) = ((s[n + i]).toNat : Int) := by
  rw [bt_nat _ _ (by simp; omega)]
  congr 2
  simp [ByteArray.getElem_extract]

/-! ### what is read at a ! -/
def handAt (s : ByteArray) (n : Nat) : Nat :=
  if h : n + 1 + run handB s (n + 1) < s.size then (if s[n + 1 + run handB s (n + 1)] = 33 then run handB s (n + 1) + 2 else 1) else 1

def specR (s : ByteArray) (n : Nat) : Bool × ByteArray × ByteArray × Int × Bool :=
  if hv : ∃ h : n + 1 < s.size, s[n + 1] = 60 then
    (if h : n + 2 + run signB s (n + 2) < s.size then
      (if run signB s (n + 2) = 0 ∨ s[n + 2 + run signB s (n + 2)] ≠ 62 then none5
       else (true, ⟨#[]⟩, s.extract (n + 2) (n + 2 + run signB s (n + 2)), ((n + 2 + run signB s (n + 2) + 1 : Nat) : Int), true))
     else none5)
  else if run shortB s (n + handAt s n) = 0 ∧ handAt s n ≠ 1 then none5
  else (false, s.extract n (n + handAt s n), s.extract (n + handAt s n) (n + handAt s n + run shortB s (n + handAt s n)), ((n + handAt s n + run shortB s (n + handAt s n) : Nat) : Int), true)

theorem handAt_le (s : ByteArray) (n : Nat) (h : n < s.size) : 1 ≤ handAt s n ∧ n + handAt s n ≤ s.size := by
  unfold handAt
  split
  · split <;> omega
  · omega

theorem one_byte (s : ByteArray) (n : Nat) (h : n < s.size) (h33 : s[n] = 33) : s.extract n (n + 1) = ⟨#[33]⟩ := by
  apply ByteArray.ext
  apply Array.ext
  · simp; omega
  · intro i h1 h2
    have : i = 0 := by simp at h2; omega
    subst this
    simp
    exact h33

theorem prefix_at (s : ByteArray) (n : Nat) (h : n < s.size) (h33 : s[n] = 33) : strings_HasPrefix.f (s.extract n s.size) ⟨#[33, 60]⟩ = some (decide (∃ h : n + 1 < s.size, s[n + 1] = 60)) := by
  unfold strings_HasPrefix.f stringslite_HasPrefix.f
  have hl : (s.extract n s.size).size = s.size - n := by simp
  by_cases h1 : n + 1 < s.size
  · rw [if_pos (by rw [hl]; show ((s.size - n : Nat) : Int) ≥ 2; omega), if_pos (by decide), if_pos (by rw [hl]; show (2 : Int) ≤ ((s.size - n : Nat) : Int); omega)]
    simp only [Option.bind_some]
    congr 1
    have e : (((⟨#[33, 60]⟩ : ByteArray).size : Int) : Int).toNat = 2 := rfl
    rw [e, extract2 s n 0 2 (by omega)]
    have e2 : (s.extract (n + 0) (n + 2)).toList = [s[n], s[n + 1]] := by
      rw [ByteArray.toList_eq, Lib.extract_data]
      simp only [Nat.add_zero]
      rw [drop_cons s n h, drop_cons s (n + 1) h1]
      simp
    rw [e2, h33, ByteArray.toList_eq]
    by_cases h60 : s[n + 1] = 60
    · rw [h60, decide_eq_true ⟨h1, h60⟩]
      rfl
    · rw [decide_eq_false (fun ⟨_, h⟩ => h60 h)]
      rw [beq_eq_false_iff_ne]
      intro e
      simp at e
      exact h60 e
  · rw [if_neg (by rw [hl]; show ¬ (((s.size - n : Nat) : Int) ≥ 2); omega)]
    simp only [Option.bind_some]
    congr 1
    symm
    rw [decide_eq_false_iff_not]
    rintro ⟨h2, _⟩
    exact h1 h2

theorem byte_eq (c : UInt8) (k : UInt8) : ((c.toNat : Int) = (k.toNat : Int)) ↔ c = k := by
  constructor
  · intro h
    exact UInt8.toNat_inj.1 (by omega)
  · rintro rfl
    rfl

theorem handle_at (s : ByteArray) (n : Nat) (hs : s.size ≤ 1000000) (h : n < s.size) (h33 : s[n] = 33) : tagname_handle.f (s.extract n s.size) = some (s.extract n (n + handAt s n)) := by
  have hl : (s.extract n s.size).size = s.size - n := by simp
  have hr := row_at s (n + 1) 31 handB hs (.inr (.inr rfl)) pred_hand
  rw [← extract2_end s n 1 (by omega)] at hr
  have hw := run_le handB s (n + 1) (by omega)
  have hh : handAt s n = if h : n + 1 + run handB s (n + 1) < s.size then (if s[n + 1 + run handB s (n + 1)] = 33 then run handB s (n + 1) + 2 else 1) else 1 := rfl
  have hb : ∀ (i : Nat) (h1 : n + 1 + i < s.size), (bt (s.extract n s.size) ((1 + i : Nat) : Int) = 33) ↔ s[n + 1 + i] = 33 := by
    intro i h1
    rw [bt_part s n (1 + i) (by omega)]
    have e3 : n + (1 + i) = n + 1 + i := by omega
    simp only [e3]
    exact byte_eq _ 33
  generalize run handB s (n + 1) = m at hr hw hh
  rw [hh]
  unfold tagname_handle.f
  have e1 : wrap64 (1 + (m : Int)) = ((1 + m : Nat) : Int) := by rw [wrap_id (by omega) (by omega)]; omega
  have e2 : wrap64 (((1 + m : Nat) : Int) + 1) = ((2 + m : Nat) : Int) := by rw [wrap_id (by omega) (by omega)]; omega
  rw [if_pos (by rw [hl]; omega), hr]
  rw [Option.bind_some, e1, e2]
  by_cases h1 : n + 1 + m < s.size
  · rw [if_pos (by rw [hl]; omega), if_pos (by omega), dif_pos h1]
    by_cases h2 : s[n + 1 + m] = 33
    · rw [if_pos ((hb m h1).2 h2), if_pos (by omega), if_pos (by rw [hl]; omega), if_pos h2, Int.toNat_natCast, extract2 s n 0 _ (by omega)]
      have e5 : n + (2 + m) = n + (m + 2) := by omega
      rw [Nat.add_zero, e5]
    · rw [if_neg (fun e => h2 ((hb m h1).1 e)), if_neg h2, one_byte s n h h33]
  · rw [if_neg (by rw [hl]; omega), dif_neg h1, one_byte s n h h33]

theorem head_len (s : ByteArray) (n k : Nat) (h : n < s.size) (h33 : s[n] = 33) (hk : 1 ≤ k) (hk2 : n + k ≤ s.size) : (s.extract n (n + k)).toList = [33] ↔ k = 1 := by
  constructor
  · intro e
    rw [ByteArray.toList_eq] at e
    have := congrArg List.length e
    simp at this
    omega
  · rintro rfl
    rw [one_byte s n h h33, ByteArray.toList_eq]

theorem read_verb (s : ByteArray) (n : Nat) (hs : s.size ≤ 1000000) (h : n < s.size) (h33 : s[n] = 33) (hv : ∃ h : n + 1 < s.size, s[n + 1] = 60) : tagname_Read.t (s.extract n s.size) (n : Int) = some (specR s n) := by
  have hl : (s.extract n s.size).size = s.size - n := by simp
  obtain ⟨h1, h60⟩ := hv
  have hr := row_at s (n + 2) 20 signB hs (.inl rfl) pred_sign
  rw [← extract2_end s n 2 (by omega)] at hr
  have hw := run_le signB s (n + 2) (by omega)
  have hsp : specR s n = (if h : n + 2 + run signB s (n + 2) < s.size then
      (if run signB s (n + 2) = 0 ∨ s[n + 2 + run signB s (n + 2)] ≠ 62 then none5
       else (true, ⟨#[]⟩, s.extract (n + 2) (n + 2 + run signB s (n + 2)), ((n + 2 + run signB s (n + 2) + 1 : Nat) : Int), true))
     else none5) := by
    unfold specR
    exact dif_pos ⟨h1, h60⟩
  have hb : ∀ (i : Nat) (h1 : n + 2 + i < s.size), (bt (s.extract n s.size) ((2 + i : Nat) : Int) = 62) ↔ s[n + 2 + i] = 62 := by
    intro i h1
    rw [bt_part s n (2 + i) (by omega)]
    have e3 : n + (2 + i) = n + 2 + i := by omega
    simp only [e3]
    exact byte_eq _ 62
  generalize run signB s (n + 2) = m at hr hw hsp
  rw [hsp]
  unfold tagname_Read.t
  rw [prefix_at s n h h33, decide_eq_true ⟨h1, h60⟩]
  have e3 : (2 : Int) + (m : Int) = ((2 + m : Nat) : Int) := by omega
  simp only [Option.bind_some, if_true, hr, e3]
  by_cases h2 : n + 2 + m < s.size
  · rw [dif_pos h2, Int.toNat_natCast, extract2 s n 2 _ (by omega)]
    have e4 : n + (2 + m) = n + 2 + m := by omega
    have e5 : (n : Int) + ((2 + m : Nat) : Int) + 1 = ((n + 2 + m + 1 : Nat) : Int) := by omega
    rw [e4, e5]
    by_cases h3 : m = 0 ∨ s[n + 2 + m] ≠ 62
    · rw [if_pos h3, if_pos]
      rcases h3 with h3 | h3
      · exact .inl (by omega)
      · exact .inr (.inr fun e => h3 ((hb m h2).1 e))
    · rw [if_neg h3, if_neg]
      rintro (h4 | h4 | h4)
      · exact h3 (.inl (by omega))
      · rw [hl] at h4
        omega
      · exact h3 (.inr fun e => h4 ((hb m h2).2 e))
  · rw [dif_neg h2, if_pos (.inr (.inl (by rw [hl]; omega)))]

theorem read_short (s : ByteArray) (n : Nat) (hs : s.size ≤ 1000000) (h : n < s.size) (h33 : s[n] = 33) (hv : ¬ ∃ h : n + 1 < s.size, s[n + 1] = 60) : tagname_Read.t (s.extract n s.size) (n : Int) = some (specR s n) := by
  have hh := handAt_le s n h
  have hha := handle_at s n hs h h33
  have hhl := head_len s n (handAt s n) h h33 hh.1 hh.2
  have hsz : (s.extract n (n + handAt s n)).size = handAt s n := by simp; omega
  have hr := row_at s (n + handAt s n) 23 shortB hs (.inr (.inl rfl)) pred_short
  rw [← extract2_end s n _ (by omega)] at hr
  have hw := run_le shortB s (n + handAt s n) hh.2
  have hsp : specR s n = (if run shortB s (n + handAt s n) = 0 ∧ handAt s n ≠ 1 then none5
  else (false, s.extract n (n + handAt s n), s.extract (n + handAt s n) (n + handAt s n + run shortB s (n + handAt s n)), ((n + handAt s n + run shortB s (n + handAt s n) : Nat) : Int), true)) := by
    unfold specR
    exact dif_neg hv
  generalize handAt s n = k at hh hha hhl hsz hr hw hsp
  generalize run shortB s (n + k) = m at hr hw hsp
  rw [hsp]
  unfold tagname_Read.t
  rw [prefix_at s n h h33, decide_eq_false hv]
  have e5 : ((m : Int) + (k : Int)).toNat = k + m := by omega
  have e6 : (n : Int) + ((m : Int) + (k : Int)) = ((n + k + m : Nat) : Int) := by omega
  simp only [Option.bind_some, Bool.false_eq_true, if_false, hha, hsz, hr, e5, e6]
  rw [extract2 s n _ _ (by omega)]
  have e7 : n + (k + m) = n + k + m := by omega
  rw [e7]
  by_cases h3 : m = 0 ∧ k ≠ 1
  · rw [if_pos h3, if_pos ⟨by omega, fun e => h3.2 (hhl.1 e)⟩]
  · rw [if_neg h3, if_neg]
    rintro ⟨h4, h5⟩
    exact h3 ⟨by omega, fun e => h5 (hhl.2 e)⟩

/-- What the program reads at a !. -/
theorem read_at (s : ByteArray) (n : Nat) (hs : s.size ≤ 1000000) (h : n < s.size) (h33 : s[n] = 33) : tagname_Read.f s (n : Int) = some (specR s n) := by
  unfold tagname_Read.f
  rw [if_pos (by omega), if_pos ⟨by omega, by omega, by rw [bt_nat s n h]; exact (byte_eq _ 33).2 h33⟩, Int.toNat_natCast]
  by_cases hv : ∃ h : n + 1 < s.size, s[n + 1] = 60
  · exact read_verb s n hs h h33 hv
  · exact read_short s n hs h h33 hv

/-- Where no ! stands, nothing is read. -/
theorem read_not (s : ByteArray) (i : Int) (hs : s.size ≤ 1000000) (h : ¬ (0 ≤ i ∧ i < (s.size : Int) ∧ bt s i = 33)) : tagname_Read.f s i = some none5 := by
  unfold tagname_Read.f
  rw [if_pos (by omega), if_neg h]
end Go.Proofs.Ytmceepmchfjinaa.Q
