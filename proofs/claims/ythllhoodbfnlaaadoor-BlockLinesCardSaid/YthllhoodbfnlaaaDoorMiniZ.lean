/- Mini: a row's world: its shape kept, the library's globals out of the row's laid tables. No condition. -/
import Derived.Test.YthllhoodbfnlaaaDoorMiniB
import Derived.HandedShaped
import Derived.Handed
import Derived.Shelf.Vars
import Derived.Lib.LaidU8
import Derived.MakeChecks
namespace Go.Mini
open Go Go.Proofs Go.Shelf
set_option linter.unusedVariables false
section
variable {H : Type} {enc : TypeId × Value → H}
/-- The wrap that hands both on: what the row asks beside, and the world's shape. -/
theorem returns_andS {a : Assume} {C : Checked} {os : Os} {f : FuncId} {fn : Func} {s : ChangeSpec} {conds : List PathCond} {apart fresh handsOn again : Bool} {X : World → Array Value → Prop}
    (hX : ∀ (w w' : World) (args : Array Value), w.heap = w'.heap → X w args → X w' args)
    (own : ownKnob C.prog.godebug = none) (started : os.Started) (noInit : C.prog.inits.idxOf? f = none) (hfn : C.prog.funcs[f]? = some fn)
    (witness : ∃ (w : World) (tape : Tape) (i : Input), w.os = os ∧ (w.forCall tape i).Shaped C.prog ∧ i.vars = [] ∧ Input.okWide C.prog (w.forCall tape i) .any w.heap.size f i ∧
      ((s.pre enc C.prog fn conds apart (w.forCall tape i).memory i.args ∧ X (w.forCall tape i).memory i.args) ∧ sizedMet enc C.prog fn (OpenSpec.ofChange s) apart (w.forCall tape i).memory i.args) ∧ a.holds C.prog (lone (Frame.enter C.prog f i.args .normal) [] (w.forCall tape i)))
    (contract : ∀ (W : World) (base : Nat) (args : Array Value) (ds gs : List (DataW H)) (before : List MemPlace),
      (∀ (j : Nat) t v, fn.params[j]? = some t → args[j]? = some v → Value.okWide C.prog W .any base t v) →
      DataW.Whole enc C.prog fn.params.toList s.vars apart W args.toList ds gs before →
      conds.all (PathCond.test C.prog ⟨fn.params.toList, ds, s.plain.varTypes C.prog, gs⟩) = true →
      (DataW.weightsEach C.prog (fn.params.toList ++ s.plain.varTypes C.prog) (ds ++ gs)).all (· ≤ reachBytes) = true → X W args → W.ShapedOpen C.prog →
      a.holds C.prog (lone (Frame.enter C.prog f args .normal) [] W) →
      Calls C.prog f args W fun e W' => ∃ v, e = .returned v ∧ s.post enc C.prog fn apart fresh handsOn again W args v W') :
    ReturnsInHanded a C os f .any (fun w args => (s.pre enc C.prog fn conds apart w args ∧ X w args) ∧ sizedMet enc C.prog fn (OpenSpec.ofChange s) apart w args) (s.post enc C.prog fn apart fresh handsOn again) := by
  refine returnsInHanded_of_calls own started noInit witness ?_
  intro w tape i _ hsh _ hok hpre hholds
  obtain ⟨_, _, _, fn', hfn', _, _, _, _, hval⟩ := hok
  have e : fn' = fn := Option.some.inj (hfn'.symm.trans hfn)
  subst e
  obtain ⟨⟨⟨ds, gs, before, hw, hc⟩, hx⟩, hz⟩ := hpre
  have hw' := DataW.Whole.of_heap (w' := w.forCall tape i) (by rfl) hw
  refine (contract (w.forCall tape i) w.heap.size i.args ds gs before hval hw' hc (hz.weights hw) (hX _ _ _ (by rfl) hx) hsh hholds).mono fun e W' ⟨v, he, hp⟩ => ?_
  subst he
  exact ChangeSpec.post_blind hp
end

/-- The one global of a name. -/
def onlyB (P : Program) (n : String) (k : Nat) : Bool := (List.range P.globals.size).all fun i => match P.globals[i]? with
  | some g => !(g.name == n) || i == k
  | none => true
theorem only {P : Program} {n : String} {k : Nat} (h : onlyB P n k = true) {i : Nat} {g : Global} (hi : P.globals[i]? = some g) (hg : g.name = n) : i = k := by
  have hlt : i < P.globals.size := by
    rcases Nat.lt_or_ge i P.globals.size with h | h
    · exact h
    · rw [Array.getElem?_eq_none h] at hi; cases hi
  have := List.all_eq_true.1 h i (List.mem_range.2 hlt)
  simp only [hi, Bool.or_eq_true, Bool.not_eq_true', beq_eq_false_iff_ne, ne_eq, beq_iff_eq] at this
  rcases this with h1 | h1
  · exact absurd hg h1
  · exact h1
def noneB (P : Program) (n : String) : Bool := (List.range P.globals.size).all fun i => match P.globals[i]? with
  | some g => !(g.name == n)
  | none => true
theorem no_one {P : Program} {n : String} (h : noneB P n = true) {i : Nat} {g : Global} (hi : P.globals[i]? = some g) (hg : g.name = n) : False := by
  have hlt : i < P.globals.size := by
    rcases Nat.lt_or_ge i P.globals.size with h | h
    · exact h
    · rw [Array.getElem?_eq_none h] at hi; cases hi
  have := List.all_eq_true.1 h i (List.mem_range.2 hlt)
  simp only [hi, Bool.not_eq_true', beq_eq_false_iff_ne, ne_eq] at this
  exact this hg
theorem Gl.mk {P : Program} {w : World} (h1 : ∀ i j g g', P.globals[i]? = some g → P.globals[j]? = some g' → g.name = "unicode/utf8.first" → g'.name = "unicode/utf8.acceptRanges" → Lib.Utf8Tabs i j w)
    (h2 : ∀ i g, P.globals[i]? = some g → g.name = "internal/bytealg.MaxLen" → ∃ m, w.cell? ⟨i, 0, none⟩ = some (.int .i64 m)) : Gl P w := ⟨h1, h2⟩
/-- The tables, out of the row. -/
theorem tabs_laid {P : Program} {ρ : Ren} (L : Lays.n260 P ρ) (X : U8Extra P ρ) {l : List (String × DataW Unit)} {w : World} (hl : laidMet P l w) (m3 : ("unicode/utf8.first", Lib.firstData) ∈ l) (m4 : ("unicode/utf8.acceptRanges", Lib.acceptData) ∈ l)
    (o3 : onlyB P "unicode/utf8.first" (ρ.g 3) = true) (o4 : onlyB P "unicode/utf8.acceptRanges" (ρ.g 4) = true) :
    ∀ i j g g', P.globals[i]? = some g → P.globals[j]? = some g' → g.name = "unicode/utf8.first" → g'.name = "unicode/utf8.acceptRanges" → Lib.Utf8Tabs i j w := by
  intro i j g g' h1 h2 h3 h4
  obtain rfl := only o3 h1 h3
  obtain rfl := only o4 h2 h4
  exact utf8Tabs_of_reads L X (Lib.laidMet.reads hl m3) (Lib.laidMet.reads hl m4)
theorem tabs_none {P : Program} {w : World} (o3 : noneB P "unicode/utf8.first" = true) :
    ∀ i j g g', P.globals[i]? = some g → P.globals[j]? = some g' → g.name = "unicode/utf8.first" → g'.name = "unicode/utf8.acceptRanges" → Lib.Utf8Tabs i j w :=
  fun i j g g' h1 h2 h3 h4 => (no_one o3 h1 h3).elim
theorem maxLen_none {P : Program} {w : World} (o : noneB P "internal/bytealg.MaxLen" = true) : ∀ i g, P.globals[i]? = some g → g.name = "internal/bytealg.MaxLen" → ∃ m, w.cell? ⟨i, 0, none⟩ = some (.int .i64 m) :=
  fun i g h1 h2 => (no_one o h1 h2).elim
theorem maxLen_shaped {P : Program} {w : World} {k : Nat} {t : TypeId} {zero : Array Value} (o : onlyB P "internal/bytealg.MaxLen" k = true) (h : w.ShapedOpen P) (hg : k < P.globals.size)
    (h0 : ((begin P (fun _ _ => 0) default).world.heap[k]?).bind Obj.row? = some (zero, t)) (hz : zero.size = 1) (hb : P.buildable t = true) (hc : P.cellTypes P.depth t = some [t]) (hu : P.underlying t = some (.int .i64)) :
    ∀ i g, P.globals[i]? = some g → g.name = "internal/bytealg.MaxLen" → ∃ m, w.cell? ⟨i, 0, none⟩ = some (.int .i64 m) := by
  intro i g h1 h2
  obtain rfl := only o h1 h2
  exact cell_of_shapedOpen_int h hg h0 hz hb hc hu
end Go.Mini
