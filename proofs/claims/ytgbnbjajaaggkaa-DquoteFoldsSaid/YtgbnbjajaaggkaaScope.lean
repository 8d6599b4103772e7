/- A scope with several labels: what holds at every jump to one of them (J) and a measure; a jump to another label is walked on from there. No condition. -/
import Derived.ScopeJumps
import Derived.WalkMore
namespace Go.Proofs.Ytgbnbjajaaggkaa
set_option linter.unusedVariables false

/-- As Q; by a goto to label l0: J; by a goto to another label, at most n in a row: what is behind that label. -/
def follow (P : Program) (c : Code) (l0 : Nat) (J : Act → World → Prop) (Q : Exit → Act → World → Prop) : Nat → Exit → Act → World → Prop
  | 0, .goto l, a, w => l = l0 ∧ J a w
  | n + 1, .goto l, a, w => (l = l0 ∧ J a w) ∨ (∃ rest, findLabel c l = some rest ∧ rest.wp P (follow P c l0 J Q n) a w)
  | _, e, a, w => Q e a w

section
variable {P : Program} {a : Act} {w : World} {Q : Exit → Act → World → Prop}

theorem follow_arrives {c : Code} (l0 : Nat) (J : Act → World → Prop) (b : Frame) (k : List Item) (cs : List Frame)
    (back : ∀ m a w, J a w → (∀ k', gotoIn l0 (.inScope c :: k) = some k' → Steps P m (lone (b.at a k') cs w)) → ∃ e a' w', Q e a' w' ∧ Arrives P m b k cs e a' w') :
    ∀ (n : Nat) (e : Exit) (a : Act) (w : World) (m : Machine), follow P c l0 J Q n e a w → Arrives P m b (.inScope c :: k) cs e a w → ∃ e a' w', Q e a' w' ∧ Arrives P m b k cs e a' w' := by
  intro n
  induction n with
  | zero =>
    intro e a w m hq harr
    cases e with
    | normal => exact ⟨.normal, a, w, hq, Steps.trans harr (.one step_inScope)⟩
    | exit id => exact ⟨.exit id, a, w, hq, fun k' hk => harr k' (by simp [exitTo, hk])⟩
    | goto l =>
      obtain ⟨rfl, hJ⟩ := hq
      exact back m a w hJ harr
    | ret => exact ⟨_, a, w, hq, harr⟩
    | panic ch => exact ⟨_, a, w, hq, harr⟩
    | outgrown => exact ⟨_, a, w, hq, harr⟩
  | succ n ih =>
    intro e a w m hq harr
    cases e with
    | normal => exact ⟨.normal, a, w, hq, Steps.trans harr (.one step_inScope)⟩
    | exit id => exact ⟨.exit id, a, w, hq, fun k' hk => harr k' (by simp [exitTo, hk])⟩
    | goto l =>
      rcases hq with ⟨rfl, hJ⟩ | ⟨rest, hf, hr⟩
      · exact back m a w hJ harr
      · have hg : gotoIn l (.inScope c :: k) = some (.code rest :: .inScope c :: k) := by simp [gotoIn, hf]
        obtain ⟨e₁, a₁, w₁, hq₁, harr₁⟩ := hr b (.inScope c :: k) cs
        exact ih e₁ a₁ w₁ m hq₁ (.of_steps (harr _ hg) harr₁)
    | ret => exact ⟨_, a, w, hq, harr⟩
    | panic ch => exact ⟨_, a, w, hq, harr⟩
    | outgrown => exact ⟨_, a, w, hq, harr⟩

theorem wp_scope_follow {c rest : Code} (l0 : Nat) (J : Act → World → Prop) (μ : Act → World → Nat) (n : Nat) (hf : findLabel c l0 = some rest)
    (first : c.wp P (follow P c l0 J Q n) a w)
    (pass : ∀ a w, J a w → rest.wp P (follow P c l0 (fun a' w' => J a' w' ∧ μ a' w' < μ a w) Q n) a w) : (Code.scope c).wp P Q a w := by
  intro b k cs
  have hg : gotoIn l0 (.inScope c :: k) = some (.code rest :: .inScope c :: k) := by simp [gotoIn, hf]
  have key : ∀ N a w, μ a w = N → J a w → ∀ m, (∀ k', gotoIn l0 (.inScope c :: k) = some k' → Steps P m (lone (b.at a k') cs w)) → ∃ e a' w', Q e a' w' ∧ Arrives P m b k cs e a' w' := by
    intro N
    induction N using Nat.strongRecOn with
    | _ N ih =>
      intro a w hN hJ m hm
      obtain ⟨e₁, a₁, w₁, hq₁, harr₁⟩ := pass a w hJ b (.inScope c :: k) cs
      refine follow_arrives l0 _ b k cs (fun m' a' w' hJ' hm' => ih _ (by omega) a' w' rfl hJ'.1 m' hm') n e₁ a₁ w₁ m hq₁ (.of_steps (hm _ hg) harr₁)
  obtain ⟨e₁, a₁, w₁, hq₁, harr₁⟩ := first b (.inScope c :: k) cs
  exact follow_arrives l0 J b k cs (fun m' a' w' hJ' hm' => key _ a' w' rfl hJ' m' hm') n e₁ a₁ w₁ _ hq₁ (.of_steps (.one step_scope) harr₁)

/-- The same, the rounds counted by what holds at the label. -/
theorem wp_scope_rounds {c rest : Code} (l0 : Nat) (J : Nat → Act → World → Prop) (n : Nat) (hf : findLabel c l0 = some rest)
    (first : c.wp P (follow P c l0 (fun a w => ∃ k, J k a w) Q n) a w)
    (pass : ∀ N a w, J N a w → rest.wp P (follow P c l0 (fun a' w' => ∃ k, k < N ∧ J k a' w') Q n) a w) : (Code.scope c).wp P Q a w := by
  intro b k cs
  have hg : gotoIn l0 (.inScope c :: k) = some (.code rest :: .inScope c :: k) := by simp [gotoIn, hf]
  have key : ∀ N a w, J N a w → ∀ m, (∀ k', gotoIn l0 (.inScope c :: k) = some k' → Steps P m (lone (b.at a k') cs w)) → ∃ e a' w', Q e a' w' ∧ Arrives P m b k cs e a' w' := by
    intro N
    induction N using Nat.strongRecOn with
    | _ N ih =>
      intro a w hJ m hm
      obtain ⟨e₁, a₁, w₁, hq₁, harr₁⟩ := pass N a w hJ b (.inScope c :: k) cs
      refine follow_arrives l0 _ b k cs (fun m' a' w' hJ' hm' => ?_) n e₁ a₁ w₁ m hq₁ (.of_steps (hm _ hg) harr₁)
      obtain ⟨N', hlt, hJ''⟩ := hJ'
      exact ih N' hlt a' w' hJ'' m' hm'
  obtain ⟨e₁, a₁, w₁, hq₁, harr₁⟩ := first b (.inScope c :: k) cs
  exact follow_arrives l0 _ b k cs (fun m' a' w' hJ' hm' => by obtain ⟨N, hJ⟩ := hJ'; exact key N a' w' hJ m' hm') n e₁ a₁ w₁ _ hq₁ (.of_steps (.one step_scope) harr₁)

/-- The same where what is behind the label begins with nothing (so the label's own place is told). -/
theorem wp_scope_rounds_skip {c rest : Code} (l0 : Nat) (J : Nat → Act → World → Prop) (n : Nat) (hf : findLabel c l0 = some (Code.skip.seq rest))
    (first : c.wp P (follow P c l0 (fun a w => ∃ k, J k a w) Q n) a w)
    (pass : ∀ N a w, J N a w → rest.wp P (follow P c l0 (fun a' w' => ∃ k, k < N ∧ J k a' w') Q n) a w) : (Code.scope c).wp P Q a w :=
  wp_scope_rounds l0 J n hf first fun N a w hJ => wp_seq (wp_skip (pass N a w hJ))

/-- What is known at more jumps is known at fewer. -/
theorem follow_mono {c : Code} {l0 : Nat} {J J' : Act → World → Prop} (h : ∀ a w, J a w → J' a w) : ∀ n e a w, follow P c l0 J Q n e a w → follow P c l0 J' Q n e a w := by
  intro n
  induction n with
  | zero => intro e a w hq; cases e <;> first | exact hq | exact ⟨hq.1, h _ _ hq.2⟩
  | succ n ih =>
    intro e a w hq
    cases e with
    | goto l =>
      rcases hq with ⟨hl, hJ⟩ | ⟨rest, hf, hr⟩
      · exact .inl ⟨hl, h _ _ hJ⟩
      · exact .inr ⟨rest, hf, wp_mono hr (fun e a w hq => ih e a w hq)⟩
    | _ => exact hq

theorem follow_ret {c : Code} {l0 : Nat} {J : Act → World → Prop} {n : Nat} : follow P c l0 J Q n .ret a w = Q .ret a w := by cases n <;> rfl
theorem follow_normal {c : Code} {l0 : Nat} {J : Act → World → Prop} {n : Nat} : follow P c l0 J Q n .normal a w = Q .normal a w := by cases n <;> rfl
theorem follow_goto {c rest : Code} {l l0 : Nat} {J : Act → World → Prop} {n : Nat} (hf : findLabel c l = some rest) (h : rest.wp P (follow P c l0 J Q n) a w) : follow P c l0 J Q (n + 1) (.goto l) a w :=
  .inr ⟨rest, hf, h⟩
theorem follow_back {c : Code} {l0 : Nat} {J : Act → World → Prop} {n : Nat} (h : J a w) : follow P c l0 J Q n (.goto l0) a w := by
  cases n
  · exact ⟨rfl, h⟩
  · exact .inl ⟨rfl, h⟩
end
end Go.Proofs.Ytgbnbjajaaggkaa
