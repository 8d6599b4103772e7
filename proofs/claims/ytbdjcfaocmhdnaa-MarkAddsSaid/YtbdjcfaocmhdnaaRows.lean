/-
  No cell of these rows narrows 'for every input' (looked for: loops, veiled, ifaces, maps, wideKeys, modest, calm, conditions, laid).
  DERIVED. THE GIVEN ROWS OF THIS SEAT. 5 by the template 'for every input the law returns true; each argument reads behind the call as it read before'; 0 by the template 'total and deterministic' (their statements: YtbdjcfaocmhdnaaTotals.lean).
  GIVEN WITH THE SEED: the statements are not yours to turn. If you find one false, say at which input.
  Laid BY PROGRAM, IN A SANDBOX (cutbox-rows.mjs): the forced cells as the released guide's own fill.sh prints them over the translation af23e7fe6fd38b80… (all of the seat's roots in one cut). By AI agents, Wed Nov 11 2026. No macro, syntax, notation, axiom, sorry.
-/
import Derived.Test.YtbdjcfaocmhdnaaChecked
import GoSem.Claim
import GoSem.ClaimJoined
import GoSem.ClaimMapViews
import Derived.JoinedTies
import Derived.KernelRfl
namespace Go.Proofs.Ytbdjcfaocmhdnaa
/- THE CELL 'sum', in the pinned program and in every row, IS THE sha256 OF THE DUMP (.gsa) THAT YtbdjcfaocmhdnaaProg.lean LOADS. Nothing in Lean hashes anything: it is a label: what it is worth is what the hold of that sum in a sandbox is worth. -/
noncomputable def Try.pinned : Pinned := { name := "ytbdjcfaocmhdnaa", sum := "af23e7fe6fd38b809e86bb8aea69707c67bac90d3ed0c64654e61175c4151205", checked := Try.checked }
namespace Rows
def none {H : Type} : Left H := { results := [], args := [] }

/-- 'targumlaw3.MarkTells': WHATEVER THE INPUT: true; the input reads as it did. -/
def markTellsSpec : ChangeSpec := { name := "markTells", fn := fun _ => fun
  | [d1, d2, d3, d4, d5] => { results := [.lit (.bool true)], args := [d1, d2, d3, d4, d5] }
  | _ => none }
def markTellsRow : OpenClaim := { program := "ytbdjcfaocmhdnaa", sum := "af23e7fe6fd38b809e86bb8aea69707c67bac90d3ed0c64654e61175c4151205", func := "targum/targumlaw3.MarkTells", spec := "markTells", apart := false }
def MarkTellsSaid : Prop := markTellsRow.holds Try.pinned (OpenSpec.ofChange markTellsSpec)

/-- ITS FALSE NEIGHBOUR: 'it returns false'. Refute it at one input. -/
def markTellsWrong : ChangeSpec := { name := "markTells", fn := fun _ => fun
  | [d1, d2, d3, d4, d5] => { results := [.lit (.bool false)], args := [d1, d2, d3, d4, d5] }
  | _ => none }
def MarkTellsWrongFalsely : Prop := markTellsRow.holds Try.pinned (OpenSpec.ofChange markTellsWrong)

/-- 'targumlaw3.MarkGoes': WHATEVER THE INPUT: true; the input reads as it did. -/
def markGoesSpec : ChangeSpec := { name := "markGoes", fn := fun _ => fun
  | [d1, d2, d3, d4, d5] => { results := [.lit (.bool true)], args := [d1, d2, d3, d4, d5] }
  | _ => none }
def markGoesRow : OpenClaim := { program := "ytbdjcfaocmhdnaa", sum := "af23e7fe6fd38b809e86bb8aea69707c67bac90d3ed0c64654e61175c4151205", func := "targum/targumlaw3.MarkGoes", spec := "markGoes", apart := false }
def MarkGoesSaid : Prop := markGoesRow.holds Try.pinned (OpenSpec.ofChange markGoesSpec)

/-- ITS FALSE NEIGHBOUR: 'it returns false'. Refute it at one input. -/
def markGoesWrong : ChangeSpec := { name := "markGoes", fn := fun _ => fun
  | [d1, d2, d3, d4, d5] => { results := [.lit (.bool false)], args := [d1, d2, d3, d4, d5] }
  | _ => none }
def MarkGoesWrongFalsely : Prop := markGoesRow.holds Try.pinned (OpenSpec.ofChange markGoesWrong)

/-- 'targumlaw3.MarkBack': WHATEVER THE INPUT: true; the input reads as it did. -/
def markBackSpec : ChangeSpec := { name := "markBack", fn := fun _ => fun
  | [d1, d2, d3] => { results := [.lit (.bool true)], args := [d1, d2, d3] }
  | _ => none }
def markBackRow : OpenClaim := { program := "ytbdjcfaocmhdnaa", sum := "af23e7fe6fd38b809e86bb8aea69707c67bac90d3ed0c64654e61175c4151205", func := "targum/targumlaw3.MarkBack", spec := "markBack", apart := false }
def MarkBackSaid : Prop := markBackRow.holds Try.pinned (OpenSpec.ofChange markBackSpec)

/-- ITS FALSE NEIGHBOUR: 'it returns false'. Refute it at one input. -/
def markBackWrong : ChangeSpec := { name := "markBack", fn := fun _ => fun
  | [d1, d2, d3] => { results := [.lit (.bool false)], args := [d1, d2, d3] }
  | _ => none }
def MarkBackWrongFalsely : Prop := markBackRow.holds Try.pinned (OpenSpec.ofChange markBackWrong)

/-- 'targumlaw3.MarkOrder': WHATEVER THE INPUT: true; the input reads as it did. -/
def markOrderSpec : ChangeSpec := { name := "markOrder", fn := fun _ => fun
  | [d1, d2, d3, d4] => { results := [.lit (.bool true)], args := [d1, d2, d3, d4] }
  | _ => none }
def markOrderRow : OpenClaim := { program := "ytbdjcfaocmhdnaa", sum := "af23e7fe6fd38b809e86bb8aea69707c67bac90d3ed0c64654e61175c4151205", func := "targum/targumlaw3.MarkOrder", spec := "markOrder", apart := false }
def MarkOrderSaid : Prop := markOrderRow.holds Try.pinned (OpenSpec.ofChange markOrderSpec)

/-- ITS FALSE NEIGHBOUR: 'it returns false'. Refute it at one input. -/
def markOrderWrong : ChangeSpec := { name := "markOrder", fn := fun _ => fun
  | [d1, d2, d3, d4] => { results := [.lit (.bool false)], args := [d1, d2, d3, d4] }
  | _ => none }
def MarkOrderWrongFalsely : Prop := markOrderRow.holds Try.pinned (OpenSpec.ofChange markOrderWrong)

/-- 'targumlaw3.MarkAdds': WHATEVER THE INPUT: true; the input reads as it did. -/
def markAddsSpec : ChangeSpec := { name := "markAdds", fn := fun _ => fun
  | [d1, d2, d3, d4] => { results := [.lit (.bool true)], args := [d1, d2, d3, d4] }
  | _ => none }
def markAddsRow : OpenClaim := { program := "ytbdjcfaocmhdnaa", sum := "af23e7fe6fd38b809e86bb8aea69707c67bac90d3ed0c64654e61175c4151205", func := "targum/targumlaw3.MarkAdds", spec := "markAdds", apart := false }
def MarkAddsSaid : Prop := markAddsRow.holds Try.pinned (OpenSpec.ofChange markAddsSpec)

/-- ITS FALSE NEIGHBOUR: 'it returns false'. Refute it at one input. -/
def markAddsWrong : ChangeSpec := { name := "markAdds", fn := fun _ => fun
  | [d1, d2, d3, d4] => { results := [.lit (.bool false)], args := [d1, d2, d3, d4] }
  | _ => none }
def MarkAddsWrongFalsely : Prop := markAddsRow.holds Try.pinned (OpenSpec.ofChange markAddsWrong)

/- THE SECOND FORM. 'bulk': how many values and letters a reading holds, each counted each time it is reached (what is shared counts as often as it is met; a slice's spare places count too). A statement '..UptoSaid' is the law's where the arguments, and the package variables that the reading takes, are together of bulk at most 1048576: NARROWER than '..Said'. Prove '..Said' where nothing that the law and all that it calls make is longer than what came in: it says more and counts as full. Else prove '..UptoSaid'. A law counts once. -/
mutual
def uptoBulk {H : Type} : DataW H → Nat
  | .lit (.string bytes) => bytes.length + 1
  | .lit _ => 1
  | .nil => 1
  | .ptr d => uptoBulk d + 1
  | .slice elems spare => uptoBulkAll elems + uptoBulkAll spare + 1
  | .agg parts => uptoBulkAll parts + 1
  | .iface _ d => uptoBulk d + 1
  | .map entries => uptoBulkEntries entries + 1
  | .held _ => 1
def uptoBulkAll {H : Type} : List (DataW H) → Nat
  | [] => 0
  | d :: r => uptoBulk d + uptoBulkAll r
def uptoBulkEntries {H : Type} : List (Lit × DataW H) → Nat
  | [] => 0
  | x :: r => uptoBulkEntry x + uptoBulkEntries r
def uptoBulkEntry {H : Type} : Lit × DataW H → Nat
  | (.string bytes, d) => bytes.length + uptoBulk d + 1
  | (_, d) => uptoBulk d + 1
 end
def uptoSmall : (H : Type) → List (DataW H) → Bool := fun _ ds => decide (uptoBulkAll ds ≤ 1048576)
def OpenSpec.upto (s : _root_.Go.ChangeSpec) : _root_.Go.OpenSpec := { _root_.Go.OpenSpec.ofChange s with cond := some uptoSmall }

/-- 'targumlaw3.MarkTells', WHERE WHAT IT READS IS OF BULK AT MOST 1048576: true; the input reads as it did. -/
def markTellsUptoRow : OpenClaim := { program := "ytbdjcfaocmhdnaa", sum := "af23e7fe6fd38b809e86bb8aea69707c67bac90d3ed0c64654e61175c4151205", func := "targum/targumlaw3.MarkTells", spec := "markTells", apart := false, narrowed := true }
def MarkTellsUptoSaid : Prop := markTellsUptoRow.holds Try.pinned (OpenSpec.upto markTellsSpec)

/-- 'targumlaw3.MarkGoes', WHERE WHAT IT READS IS OF BULK AT MOST 1048576: true; the input reads as it did. -/
def markGoesUptoRow : OpenClaim := { program := "ytbdjcfaocmhdnaa", sum := "af23e7fe6fd38b809e86bb8aea69707c67bac90d3ed0c64654e61175c4151205", func := "targum/targumlaw3.MarkGoes", spec := "markGoes", apart := false, narrowed := true }
def MarkGoesUptoSaid : Prop := markGoesUptoRow.holds Try.pinned (OpenSpec.upto markGoesSpec)

/-- 'targumlaw3.MarkBack', WHERE WHAT IT READS IS OF BULK AT MOST 1048576: true; the input reads as it did. -/
def markBackUptoRow : OpenClaim := { program := "ytbdjcfaocmhdnaa", sum := "af23e7fe6fd38b809e86bb8aea69707c67bac90d3ed0c64654e61175c4151205", func := "targum/targumlaw3.MarkBack", spec := "markBack", apart := false, narrowed := true }
def MarkBackUptoSaid : Prop := markBackUptoRow.holds Try.pinned (OpenSpec.upto markBackSpec)

/-- 'targumlaw3.MarkOrder', WHERE WHAT IT READS IS OF BULK AT MOST 1048576: true; the input reads as it did. -/
def markOrderUptoRow : OpenClaim := { program := "ytbdjcfaocmhdnaa", sum := "af23e7fe6fd38b809e86bb8aea69707c67bac90d3ed0c64654e61175c4151205", func := "targum/targumlaw3.MarkOrder", spec := "markOrder", apart := false, narrowed := true }
def MarkOrderUptoSaid : Prop := markOrderUptoRow.holds Try.pinned (OpenSpec.upto markOrderSpec)

/-- 'targumlaw3.MarkAdds', WHERE WHAT IT READS IS OF BULK AT MOST 1048576: true; the input reads as it did. -/
def markAddsUptoRow : OpenClaim := { program := "ytbdjcfaocmhdnaa", sum := "af23e7fe6fd38b809e86bb8aea69707c67bac90d3ed0c64654e61175c4151205", func := "targum/targumlaw3.MarkAdds", spec := "markAdds", apart := false, narrowed := true }
def MarkAddsUptoSaid : Prop := markAddsUptoRow.holds Try.pinned (OpenSpec.upto markAddsSpec)

end Rows
end Go.Proofs.Ytbdjcfaocmhdnaa
