/- Texts made of a row of signs, of a seed: plain laws. No condition. -/
namespace Go.Proofs.Ytgbnbjajaaggkaa
set_option linter.unusedVariables false
set_option linter.unusedSimpArgs false

def tabAt (tab : List ByteArray) (j : Nat) : ByteArray := tab.getD j ⟨#[]⟩
def textOf (tab : List ByteArray) (n : Int) (l : List Int) : ByteArray := l.foldl (fun s x => s ++ tabAt tab (x % n).toNat) ⟨#[]⟩

theorem textOf_snoc (tab : List ByteArray) (n : Int) (l : List Int) (k : Nat) (h : k < l.length) : textOf tab n (l.take (k + 1)) = textOf tab n (l.take k) ++ tabAt tab (l[k] % n).toNat := by
  unfold textOf
  rw [List.take_succ_eq_append_getElem h, List.foldl_append]
  rfl
theorem textOf_size (tab : List ByteArray) (n : Int) (m : Nat) (ht : ∀ t ∈ tab, t.size ≤ m) (l : List Int) : ∀ (s : ByteArray), (l.foldl (fun s x => s ++ tabAt tab (x % n).toNat) s).size ≤ s.size + m * l.length := by
  induction l with
  | nil => intro s; simp
  | cons x l ih =>
    intro s
    simp only [List.foldl_cons, List.length_cons]
    refine Nat.le_trans (ih _) ?_
    rw [ByteArray.size_append]
    have : (tabAt tab (x % n).toNat).size ≤ m := by
      unfold tabAt
      rw [List.getD_eq_getElem?_getD]
      cases h : tab[(x % n).toNat]? with
      | none => exact Nat.zero_le m
      | some t => simpa using ht t (List.mem_of_getElem? h)
    rw [Nat.mul_add]
    omega

end Go.Proofs.Ytgbnbjajaaggkaa
