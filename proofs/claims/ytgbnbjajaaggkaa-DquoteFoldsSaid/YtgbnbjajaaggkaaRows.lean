/-
  No cell of these rows narrows 'for every input' (looked for: loops, veiled, ifaces, maps, wideKeys, modest, calm, conditions, laid).
  DERIVED. THE GIVEN ROWS OF THIS SEAT. 5 by the template 'for every input the law returns true; each argument reads behind the call as it read before'; 0 by the template 'total and deterministic' (their statements: YtgbnbjajaaggkaaTotals.lean).
  GIVEN WITH THE SEED: the statements are not yours to turn. If you find one false, say at which input.
  Laid BY PROGRAM, IN A SANDBOX (cutbox-rows.mjs): the forced cells as the released guide's own fill.sh prints them over the translation 77dcba38ac7c0213… (all of the seat's roots in one cut). By AI agents, Wed Nov 11 2026. No macro, syntax, notation, axiom, sorry.
-/
import Derived.Test.YtgbnbjajaaggkaaChecked
import GoSem.Claim
import GoSem.ClaimJoined
import GoSem.ClaimMapViews
import Derived.JoinedTies
import Derived.KernelRfl
namespace Go.Proofs.Ytgbnbjajaaggkaa
/- THE CELL 'sum', in the pinned program and in every row, IS THE sha256 OF THE DUMP (.gsa) THAT YtgbnbjajaaggkaaProg.lean LOADS. Nothing in Lean hashes anything: it is a label: what it is worth is what the hold of that sum in a sandbox is worth. -/
noncomputable def Try.pinned : Pinned := { name := "ytgbnbjajaaggkaa", sum := "77dcba38ac7c021351f74d19161d36ebfc5da78fecd286acf31b1c66578c4007", checked := Try.checked }
namespace Rows
def none {H : Type} : Left H := { results := [], args := [] }

/-- 'targumlaw17.DquoteTells': WHATEVER THE INPUT: true; the input reads as it did. -/
def dquoteTellsSpec : ChangeSpec := { name := "dquoteTells", fn := fun _ => fun
  | [d1, d2, d3, d4] => { results := [.lit (.bool true)], args := [d1, d2, d3, d4] }
  | _ => none }
def dquoteTellsRow : OpenClaim := { program := "ytgbnbjajaaggkaa", sum := "77dcba38ac7c021351f74d19161d36ebfc5da78fecd286acf31b1c66578c4007", func := "targum/targumlaw17.DquoteTells", spec := "dquoteTells", inPlace := ["internal/abi.NoEscape", "internal/bytealg.MakeNoZero", "internal/bytealg.IndexByteString"], apart := false }
def DquoteTellsSaid : Prop := dquoteTellsRow.holds Try.pinned (OpenSpec.ofChange dquoteTellsSpec)

/-- ITS FALSE NEIGHBOUR: 'it returns false'. Refute it at one input. -/
def dquoteTellsWrong : ChangeSpec := { name := "dquoteTells", fn := fun _ => fun
  | [d1, d2, d3, d4] => { results := [.lit (.bool false)], args := [d1, d2, d3, d4] }
  | _ => none }
def DquoteTellsWrongFalsely : Prop := dquoteTellsRow.holds Try.pinned (OpenSpec.ofChange dquoteTellsWrong)

/-- 'targumlaw17.DquoteBack': WHATEVER THE INPUT: true; the input reads as it did. -/
def dquoteBackSpec : ChangeSpec := { name := "dquoteBack", fn := fun _ => fun
  | [d1, d2, d3] => { results := [.lit (.bool true)], args := [d1, d2, d3] }
  | _ => none }
def dquoteBackRow : OpenClaim := { program := "ytgbnbjajaaggkaa", sum := "77dcba38ac7c021351f74d19161d36ebfc5da78fecd286acf31b1c66578c4007", func := "targum/targumlaw17.DquoteBack", spec := "dquoteBack", inPlace := ["internal/abi.NoEscape", "internal/bytealg.MakeNoZero", "internal/bytealg.IndexByteString"], apart := false }
def DquoteBackSaid : Prop := dquoteBackRow.holds Try.pinned (OpenSpec.ofChange dquoteBackSpec)

/-- ITS FALSE NEIGHBOUR: 'it returns false'. Refute it at one input. -/
def dquoteBackWrong : ChangeSpec := { name := "dquoteBack", fn := fun _ => fun
  | [d1, d2, d3] => { results := [.lit (.bool false)], args := [d1, d2, d3] }
  | _ => none }
def DquoteBackWrongFalsely : Prop := dquoteBackRow.holds Try.pinned (OpenSpec.ofChange dquoteBackWrong)

/-- 'targumlaw17.DquoteFolds': WHATEVER THE INPUT: true; the input reads as it did. -/
def dquoteFoldsSpec : ChangeSpec := { name := "dquoteFolds", fn := fun _ => fun
  | [d1, d2, d3, d4] => { results := [.lit (.bool true)], args := [d1, d2, d3, d4] }
  | _ => none }
def dquoteFoldsRow : OpenClaim := { program := "ytgbnbjajaaggkaa", sum := "77dcba38ac7c021351f74d19161d36ebfc5da78fecd286acf31b1c66578c4007", func := "targum/targumlaw17.DquoteFolds", spec := "dquoteFolds", inPlace := ["internal/abi.NoEscape", "internal/bytealg.MakeNoZero", "internal/bytealg.IndexByteString"], apart := false }
def DquoteFoldsSaid : Prop := dquoteFoldsRow.holds Try.pinned (OpenSpec.ofChange dquoteFoldsSpec)

/-- ITS FALSE NEIGHBOUR: 'it returns false'. Refute it at one input. -/
def dquoteFoldsWrong : ChangeSpec := { name := "dquoteFolds", fn := fun _ => fun
  | [d1, d2, d3, d4] => { results := [.lit (.bool false)], args := [d1, d2, d3, d4] }
  | _ => none }
def DquoteFoldsWrongFalsely : Prop := dquoteFoldsRow.holds Try.pinned (OpenSpec.ofChange dquoteFoldsWrong)

/-- 'targumlaw17.DquoteEnds': WHATEVER THE INPUT: true; the input reads as it did. -/
def dquoteEndsSpec : ChangeSpec := { name := "dquoteEnds", fn := fun _ => fun
  | [d1, d2, d3, d4] => { results := [.lit (.bool true)], args := [d1, d2, d3, d4] }
  | _ => none }
def dquoteEndsRow : OpenClaim := { program := "ytgbnbjajaaggkaa", sum := "77dcba38ac7c021351f74d19161d36ebfc5da78fecd286acf31b1c66578c4007", func := "targum/targumlaw17.DquoteEnds", spec := "dquoteEnds", inPlace := ["internal/abi.NoEscape", "internal/bytealg.MakeNoZero", "internal/bytealg.IndexByteString"], apart := false }
def DquoteEndsSaid : Prop := dquoteEndsRow.holds Try.pinned (OpenSpec.ofChange dquoteEndsSpec)

/-- ITS FALSE NEIGHBOUR: 'it returns false'. Refute it at one input. -/
def dquoteEndsWrong : ChangeSpec := { name := "dquoteEnds", fn := fun _ => fun
  | [d1, d2, d3, d4] => { results := [.lit (.bool false)], args := [d1, d2, d3, d4] }
  | _ => none }
def DquoteEndsWrongFalsely : Prop := dquoteEndsRow.holds Try.pinned (OpenSpec.ofChange dquoteEndsWrong)

/-- 'targumlaw17.DquoteJoins': WHATEVER THE INPUT: true; the input reads as it did. -/
def dquoteJoinsSpec : ChangeSpec := { name := "dquoteJoins", fn := fun _ => fun
  | [d1, d2, d3, d4] => { results := [.lit (.bool true)], args := [d1, d2, d3, d4] }
  | _ => none }
def dquoteJoinsRow : OpenClaim := { program := "ytgbnbjajaaggkaa", sum := "77dcba38ac7c021351f74d19161d36ebfc5da78fecd286acf31b1c66578c4007", func := "targum/targumlaw17.DquoteJoins", spec := "dquoteJoins", inPlace := ["internal/abi.NoEscape", "internal/bytealg.MakeNoZero", "internal/bytealg.IndexByteString"], apart := false }
def DquoteJoinsSaid : Prop := dquoteJoinsRow.holds Try.pinned (OpenSpec.ofChange dquoteJoinsSpec)

/-- ITS FALSE NEIGHBOUR: 'it returns false'. Refute it at one input. -/
def dquoteJoinsWrong : ChangeSpec := { name := "dquoteJoins", fn := fun _ => fun
  | [d1, d2, d3, d4] => { results := [.lit (.bool false)], args := [d1, d2, d3, d4] }
  | _ => none }
def DquoteJoinsWrongFalsely : Prop := dquoteJoinsRow.holds Try.pinned (OpenSpec.ofChange dquoteJoinsWrong)

/- THE SECOND FORM. 'bulk': how many values and letters a reading holds, each counted each time it is reached (what is shared counts as often as it is met; a slice's spare places count too). A statement '..UptoSaid' is the law's where the arguments, and the package variables that the reading takes, are together of bulk at most 1048576: NARROWER than '..Said'. Prove '..Said' where nothing that the law and all that it calls make is longer than what came in: it says more and counts as full. Else prove '..UptoSaid'. A law counts once. -/
mutual
def uptoBulk {H : Type} : DataW H → Nat
  | .lit (.string bytes) => bytes.length + 1
  | .lit _ => 1
  | .nil => 1
  | .ptr d => uptoBulk d + 1
  | .slice elems spare => uptoBulkAll elems + uptoBulkAll spare + 1
  | .agg parts => uptoBulkAll parts + 1
  | .iface _ d => uptoBulk d + 1
  | .map entries => uptoBulkEntries entries + 1
  | .held _ => 1
def uptoBulkAll {H : Type} : List (DataW H) → Nat
  | [] => 0
  | d :: r => uptoBulk d + uptoBulkAll r
def uptoBulkEntries {H : Type} : List (Lit × DataW H) → Nat
  | [] => 0
  | x :: r => uptoBulkEntry x + uptoBulkEntries r
def uptoBulkEntry {H : Type} : Lit × DataW H → Nat
  | (.string bytes, d) => bytes.length + uptoBulk d + 1
  | (_, d) => uptoBulk d + 1
 end
def uptoSmall : (H : Type) → List (DataW H) → Bool := fun _ ds => decide (uptoBulkAll ds ≤ 1048576)
def OpenSpec.upto (s : _root_.Go.ChangeSpec) : _root_.Go.OpenSpec := { _root_.Go.OpenSpec.ofChange s with cond := some uptoSmall }

/-- 'targumlaw17.DquoteTells', WHERE WHAT IT READS IS OF BULK AT MOST 1048576: true; the input reads as it did. -/
def dquoteTellsUptoRow : OpenClaim := { program := "ytgbnbjajaaggkaa", sum := "77dcba38ac7c021351f74d19161d36ebfc5da78fecd286acf31b1c66578c4007", func := "targum/targumlaw17.DquoteTells", spec := "dquoteTells", inPlace := ["internal/abi.NoEscape", "internal/bytealg.MakeNoZero", "internal/bytealg.IndexByteString"], apart := false, narrowed := true }
def DquoteTellsUptoSaid : Prop := dquoteTellsUptoRow.holds Try.pinned (OpenSpec.upto dquoteTellsSpec)

/-- 'targumlaw17.DquoteBack', WHERE WHAT IT READS IS OF BULK AT MOST 1048576: true; the input reads as it did. -/
def dquoteBackUptoRow : OpenClaim := { program := "ytgbnbjajaaggkaa", sum := "77dcba38ac7c021351f74d19161d36ebfc5da78fecd286acf31b1c66578c4007", func := "targum/targumlaw17.DquoteBack", spec := "dquoteBack", inPlace := ["internal/abi.NoEscape", "internal/bytealg.MakeNoZero", "internal/bytealg.IndexByteString"], apart := false, narrowed := true }
def DquoteBackUptoSaid : Prop := dquoteBackUptoRow.holds Try.pinned (OpenSpec.upto dquoteBackSpec)

/-- 'targumlaw17.DquoteFolds', WHERE WHAT IT READS IS OF BULK AT MOST 1048576: true; the input reads as it did. -/
def dquoteFoldsUptoRow : OpenClaim := { program := "ytgbnbjajaaggkaa", sum := "77dcba38ac7c021351f74d19161d36ebfc5da78fecd286acf31b1c66578c4007", func := "targum/targumlaw17.DquoteFolds", spec := "dquoteFolds", inPlace := ["internal/abi.NoEscape", "internal/bytealg.MakeNoZero", "internal/bytealg.IndexByteString"], apart := false, narrowed := true }
def DquoteFoldsUptoSaid : Prop := dquoteFoldsUptoRow.holds Try.pinned (OpenSpec.upto dquoteFoldsSpec)

/-- 'targumlaw17.DquoteEnds', WHERE WHAT IT READS IS OF BULK AT MOST 1048576: true; the input reads as it did. -/
def dquoteEndsUptoRow : OpenClaim := { program := "ytgbnbjajaaggkaa", sum := "77dcba38ac7c021351f74d19161d36ebfc5da78fecd286acf31b1c66578c4007", func := "targum/targumlaw17.DquoteEnds", spec := "dquoteEnds", inPlace := ["internal/abi.NoEscape", "internal/bytealg.MakeNoZero", "internal/bytealg.IndexByteString"], apart := false, narrowed := true }
def DquoteEndsUptoSaid : Prop := dquoteEndsUptoRow.holds Try.pinned (OpenSpec.upto dquoteEndsSpec)

/-- 'targumlaw17.DquoteJoins', WHERE WHAT IT READS IS OF BULK AT MOST 1048576: true; the input reads as it did. -/
def dquoteJoinsUptoRow : OpenClaim := { program := "ytgbnbjajaaggkaa", sum := "77dcba38ac7c021351f74d19161d36ebfc5da78fecd286acf31b1c66578c4007", func := "targum/targumlaw17.DquoteJoins", spec := "dquoteJoins", inPlace := ["internal/abi.NoEscape", "internal/bytealg.MakeNoZero", "internal/bytealg.IndexByteString"], apart := false, narrowed := true }
def DquoteJoinsUptoSaid : Prop := dquoteJoinsUptoRow.holds Try.pinned (OpenSpec.upto dquoteJoinsSpec)

end Rows
end Go.Proofs.Ytgbnbjajaaggkaa
