/-
  NARROWER THAN 'FOR EVERY INPUT', by the rows' own cells (each row's printed sentence says how): PlainTells: laid · PlainCut: laid · PlainFolds: laid · PlainSigns: laid.
  DERIVED. THE GIVEN ROWS OF THIS SEAT. 4 by the template 'for every input the law returns true; each argument reads behind the call as it read before'; 0 by the template 'total and deterministic' (their statements: YtcdkcdapbadkaaaDoorTotals.lean).
  GIVEN WITH THE SEED: the statements are not yours to turn. If you find one false, say at which input.
  Laid BY PROGRAM, IN A SANDBOX (cutbox-rows.mjs): the forced cells as the released guide's own fill.sh prints them over the translation 8e13b52e38e756a9… (all of the seat's roots in one cut). By AI agents, Wed Nov 11 2026. No macro, syntax, notation, axiom, sorry.
-/
import Derived.Test.YtcdkcdapbadkaaaDoorChecked
import GoSem.PinnedTables
import GoSem.Claim
import GoSem.ClaimJoined
import GoSem.ClaimMapViews
import Derived.JoinedTies
import Derived.KernelRfl
namespace Go.Proofs.YtcdkcdapbadkaaaDoor
/- THE CELL 'sum', in the pinned program and in every row, IS THE sha256 OF THE DUMP (.gsa) THAT YtcdkcdapbadkaaaDoorProg.lean LOADS. Nothing in Lean hashes anything: it is a label: what it is worth is what the hold of that sum in a sandbox is worth. -/
noncomputable def Tryd.pinned : Pinned := { name := "ytcdkcdapbadkaaadoor", sum := "8e13b52e38e756a9888345fa8029d59ba2cbce3a92e2d49e76187a342a5ddf1c", checked := Tryd.checked }
namespace Rows
def none {H : Type} : Left H := { results := [], args := [] }

/- WHAT THE LISTED PACKAGE-LEVEL VARIABLES READ AS WHEN THE CALL BEGINS. Each datum BY PROGRAM (the guide's laid-datum.mjs) off the statement by which the dump's own 'gosem.cut.vars' lays the variable. In a bare row this is a premise. The card (YtcdkcdapbadkaaaDoorCards.lean) ties it to the program's text. -/
def laid_unicode_utf8_acceptRanges {H : Type} : DataW H := .agg [.agg [.lit (.int .u8 128), .lit (.int .u8 191)], .agg [.lit (.int .u8 160), .lit (.int .u8 191)], .agg [.lit (.int .u8 128), .lit (.int .u8 159)], .agg [.lit (.int .u8 144), .lit (.int .u8 191)], .agg [.lit (.int .u8 128), .lit (.int .u8 143)], .agg [.lit (.int .u8 0), .lit (.int .u8 0)], .agg [.lit (.int .u8 0), .lit (.int .u8 0)], .agg [.lit (.int .u8 0), .lit (.int .u8 0)], .agg [.lit (.int .u8 0), .lit (.int .u8 0)], .agg [.lit (.int .u8 0), .lit (.int .u8 0)], .agg [.lit (.int .u8 0), .lit (.int .u8 0)], .agg [.lit (.int .u8 0), .lit (.int .u8 0)], .agg [.lit (.int .u8 0), .lit (.int .u8 0)], .agg [.lit (.int .u8 0), .lit (.int .u8 0)], .agg [.lit (.int .u8 0), .lit (.int .u8 0)], .agg [.lit (.int .u8 0), .lit (.int .u8 0)]]
/-- One of Go's own tables, pinned by name: the form's constant. -/
def laid_unicode_utf8_first : DataW Unit := Go.Pinned.utf8First

/-- 'targumlaw20.PlainTells': WHATEVER THE INPUT: true; the input reads as it did. -/
def plainTellsSpec : ChangeSpec := { name := "plainTells", fn := fun _ => fun
  | [d1, d2, d3, d4, d5] => { results := [.lit (.bool true)], args := [d1, d2, d3, d4, d5] }
  | _ => none }
def plainTellsRow : OpenClaim := { program := "ytcdkcdapbadkaaadoor", sum := "8e13b52e38e756a9888345fa8029d59ba2cbce3a92e2d49e76187a342a5ddf1c", func := "targum/targumlaw20.PlainTells", spec := "plainTells", inPlace := ["internal/bytealg.IndexByteString", "internal/abi.NoEscape", "internal/bytealg.IndexString", "internal/bytealg.MakeNoZero"], named := ["unicode/utf8.first", "unicode/utf8.acceptRanges", "internal/bytealg.MaxLen"], apart := false, laid := [("unicode/utf8.acceptRanges", laid_unicode_utf8_acceptRanges), ("unicode/utf8.first", laid_unicode_utf8_first)] }
def PlainTellsSaid : Prop := plainTellsRow.holds Tryd.pinned (OpenSpec.ofChange plainTellsSpec)

/-- ITS FALSE NEIGHBOUR: 'it returns false'. Refute it at one input. -/
def plainTellsWrong : ChangeSpec := { name := "plainTells", fn := fun _ => fun
  | [d1, d2, d3, d4, d5] => { results := [.lit (.bool false)], args := [d1, d2, d3, d4, d5] }
  | _ => none }
def PlainTellsWrongFalsely : Prop := plainTellsRow.holds Tryd.pinned (OpenSpec.ofChange plainTellsWrong)

/-- 'targumlaw20.PlainCut': WHATEVER THE INPUT: true; the input reads as it did. -/
def plainCutSpec : ChangeSpec := { name := "plainCut", fn := fun _ => fun
  | [d1, d2, d3] => { results := [.lit (.bool true)], args := [d1, d2, d3] }
  | _ => none }
def plainCutRow : OpenClaim := { program := "ytcdkcdapbadkaaadoor", sum := "8e13b52e38e756a9888345fa8029d59ba2cbce3a92e2d49e76187a342a5ddf1c", func := "targum/targumlaw20.PlainCut", spec := "plainCut", inPlace := ["internal/bytealg.IndexByteString", "internal/abi.NoEscape", "internal/bytealg.IndexString", "internal/bytealg.MakeNoZero"], named := ["unicode/utf8.first", "unicode/utf8.acceptRanges", "internal/bytealg.MaxLen"], apart := false, laid := [("unicode/utf8.acceptRanges", laid_unicode_utf8_acceptRanges), ("unicode/utf8.first", laid_unicode_utf8_first)] }
def PlainCutSaid : Prop := plainCutRow.holds Tryd.pinned (OpenSpec.ofChange plainCutSpec)

/-- ITS FALSE NEIGHBOUR: 'it returns false'. Refute it at one input. -/
def plainCutWrong : ChangeSpec := { name := "plainCut", fn := fun _ => fun
  | [d1, d2, d3] => { results := [.lit (.bool false)], args := [d1, d2, d3] }
  | _ => none }
def PlainCutWrongFalsely : Prop := plainCutRow.holds Tryd.pinned (OpenSpec.ofChange plainCutWrong)

/-- 'targumlaw20.PlainFolds': WHATEVER THE INPUT: true; the input reads as it did. -/
def plainFoldsSpec : ChangeSpec := { name := "plainFolds", fn := fun _ => fun
  | [d1, d2, d3, d4, d5] => { results := [.lit (.bool true)], args := [d1, d2, d3, d4, d5] }
  | _ => none }
def plainFoldsRow : OpenClaim := { program := "ytcdkcdapbadkaaadoor", sum := "8e13b52e38e756a9888345fa8029d59ba2cbce3a92e2d49e76187a342a5ddf1c", func := "targum/targumlaw20.PlainFolds", spec := "plainFolds", inPlace := ["internal/bytealg.IndexByteString", "internal/abi.NoEscape", "internal/bytealg.IndexString", "internal/bytealg.MakeNoZero"], named := ["unicode/utf8.first", "unicode/utf8.acceptRanges", "internal/bytealg.MaxLen"], apart := false, laid := [("unicode/utf8.acceptRanges", laid_unicode_utf8_acceptRanges), ("unicode/utf8.first", laid_unicode_utf8_first)] }
def PlainFoldsSaid : Prop := plainFoldsRow.holds Tryd.pinned (OpenSpec.ofChange plainFoldsSpec)

/-- ITS FALSE NEIGHBOUR: 'it returns false'. Refute it at one input. -/
def plainFoldsWrong : ChangeSpec := { name := "plainFolds", fn := fun _ => fun
  | [d1, d2, d3, d4, d5] => { results := [.lit (.bool false)], args := [d1, d2, d3, d4, d5] }
  | _ => none }
def PlainFoldsWrongFalsely : Prop := plainFoldsRow.holds Tryd.pinned (OpenSpec.ofChange plainFoldsWrong)

/-- 'targumlaw20.PlainSigns': WHATEVER THE INPUT: true; the input reads as it did. -/
def plainSignsSpec : ChangeSpec := { name := "plainSigns", fn := fun _ => fun
  | [d1, d2, d3, d4] => { results := [.lit (.bool true)], args := [d1, d2, d3, d4] }
  | _ => none }
def plainSignsRow : OpenClaim := { program := "ytcdkcdapbadkaaadoor", sum := "8e13b52e38e756a9888345fa8029d59ba2cbce3a92e2d49e76187a342a5ddf1c", func := "targum/targumlaw20.PlainSigns", spec := "plainSigns", inPlace := ["internal/bytealg.IndexByteString", "internal/abi.NoEscape", "internal/bytealg.IndexString", "internal/bytealg.MakeNoZero"], named := ["unicode/utf8.first", "unicode/utf8.acceptRanges", "internal/bytealg.MaxLen"], apart := false, laid := [("unicode/utf8.acceptRanges", laid_unicode_utf8_acceptRanges), ("unicode/utf8.first", laid_unicode_utf8_first)] }
def PlainSignsSaid : Prop := plainSignsRow.holds Tryd.pinned (OpenSpec.ofChange plainSignsSpec)

/-- ITS FALSE NEIGHBOUR: 'it returns false'. Refute it at one input. -/
def plainSignsWrong : ChangeSpec := { name := "plainSigns", fn := fun _ => fun
  | [d1, d2, d3, d4] => { results := [.lit (.bool false)], args := [d1, d2, d3, d4] }
  | _ => none }
def PlainSignsWrongFalsely : Prop := plainSignsRow.holds Tryd.pinned (OpenSpec.ofChange plainSignsWrong)

/- THE SECOND FORM. 'bulk': how many values and letters a reading holds, each counted each time it is reached (what is shared counts as often as it is met; a slice's spare places count too). A statement '..UptoSaid' is the law's where the arguments, and the package variables that the reading takes, are together of bulk at most 1048576: NARROWER than '..Said'. Prove '..Said' where nothing that the law and all that it calls make is longer than what came in: it says more and counts as full. Else prove '..UptoSaid'. A law counts once. -/
mutual
def uptoBulk {H : Type} : DataW H → Nat
  | .lit (.string bytes) => bytes.length + 1
  | .lit _ => 1
  | .nil => 1
  | .ptr d => uptoBulk d + 1
  | .slice elems spare => uptoBulkAll elems + uptoBulkAll spare + 1
  | .agg parts => uptoBulkAll parts + 1
  | .iface _ d => uptoBulk d + 1
  | .map entries => uptoBulkEntries entries + 1
  | .held _ => 1
def uptoBulkAll {H : Type} : List (DataW H) → Nat
  | [] => 0
  | d :: r => uptoBulk d + uptoBulkAll r
def uptoBulkEntries {H : Type} : List (Lit × DataW H) → Nat
  | [] => 0
  | x :: r => uptoBulkEntry x + uptoBulkEntries r
def uptoBulkEntry {H : Type} : Lit × DataW H → Nat
  | (.string bytes, d) => bytes.length + uptoBulk d + 1
  | (_, d) => uptoBulk d + 1
 end
def uptoSmall : (H : Type) → List (DataW H) → Bool := fun _ ds => decide (uptoBulkAll ds ≤ 1048576)
def OpenSpec.upto (s : _root_.Go.ChangeSpec) : _root_.Go.OpenSpec := { _root_.Go.OpenSpec.ofChange s with cond := some uptoSmall }

/-- 'targumlaw20.PlainTells', WHERE WHAT IT READS IS OF BULK AT MOST 1048576: true; the input reads as it did. -/
def plainTellsUptoRow : OpenClaim := { program := "ytcdkcdapbadkaaadoor", sum := "8e13b52e38e756a9888345fa8029d59ba2cbce3a92e2d49e76187a342a5ddf1c", func := "targum/targumlaw20.PlainTells", spec := "plainTells", inPlace := ["internal/bytealg.IndexByteString", "internal/abi.NoEscape", "internal/bytealg.IndexString", "internal/bytealg.MakeNoZero"], named := ["unicode/utf8.first", "unicode/utf8.acceptRanges", "internal/bytealg.MaxLen"], apart := false, laid := [("unicode/utf8.acceptRanges", laid_unicode_utf8_acceptRanges), ("unicode/utf8.first", laid_unicode_utf8_first)], narrowed := true }
def PlainTellsUptoSaid : Prop := plainTellsUptoRow.holds Tryd.pinned (OpenSpec.upto plainTellsSpec)

/-- 'targumlaw20.PlainCut', WHERE WHAT IT READS IS OF BULK AT MOST 1048576: true; the input reads as it did. -/
def plainCutUptoRow : OpenClaim := { program := "ytcdkcdapbadkaaadoor", sum := "8e13b52e38e756a9888345fa8029d59ba2cbce3a92e2d49e76187a342a5ddf1c", func := "targum/targumlaw20.PlainCut", spec := "plainCut", inPlace := ["internal/bytealg.IndexByteString", "internal/abi.NoEscape", "internal/bytealg.IndexString", "internal/bytealg.MakeNoZero"], named := ["unicode/utf8.first", "unicode/utf8.acceptRanges", "internal/bytealg.MaxLen"], apart := false, laid := [("unicode/utf8.acceptRanges", laid_unicode_utf8_acceptRanges), ("unicode/utf8.first", laid_unicode_utf8_first)], narrowed := true }
def PlainCutUptoSaid : Prop := plainCutUptoRow.holds Tryd.pinned (OpenSpec.upto plainCutSpec)

/-- 'targumlaw20.PlainFolds', WHERE WHAT IT READS IS OF BULK AT MOST 1048576: true; the input reads as it did. -/
def plainFoldsUptoRow : OpenClaim := { program := "ytcdkcdapbadkaaadoor", sum := "8e13b52e38e756a9888345fa8029d59ba2cbce3a92e2d49e76187a342a5ddf1c", func := "targum/targumlaw20.PlainFolds", spec := "plainFolds", inPlace := ["internal/bytealg.IndexByteString", "internal/abi.NoEscape", "internal/bytealg.IndexString", "internal/bytealg.MakeNoZero"], named := ["unicode/utf8.first", "unicode/utf8.acceptRanges", "internal/bytealg.MaxLen"], apart := false, laid := [("unicode/utf8.acceptRanges", laid_unicode_utf8_acceptRanges), ("unicode/utf8.first", laid_unicode_utf8_first)], narrowed := true }
def PlainFoldsUptoSaid : Prop := plainFoldsUptoRow.holds Tryd.pinned (OpenSpec.upto plainFoldsSpec)

/-- 'targumlaw20.PlainSigns', WHERE WHAT IT READS IS OF BULK AT MOST 1048576: true; the input reads as it did. -/
def plainSignsUptoRow : OpenClaim := { program := "ytcdkcdapbadkaaadoor", sum := "8e13b52e38e756a9888345fa8029d59ba2cbce3a92e2d49e76187a342a5ddf1c", func := "targum/targumlaw20.PlainSigns", spec := "plainSigns", inPlace := ["internal/bytealg.IndexByteString", "internal/abi.NoEscape", "internal/bytealg.IndexString", "internal/bytealg.MakeNoZero"], named := ["unicode/utf8.first", "unicode/utf8.acceptRanges", "internal/bytealg.MaxLen"], apart := false, laid := [("unicode/utf8.acceptRanges", laid_unicode_utf8_acceptRanges), ("unicode/utf8.first", laid_unicode_utf8_first)], narrowed := true }
def PlainSignsUptoSaid : Prop := plainSignsUptoRow.holds Tryd.pinned (OpenSpec.upto plainSignsSpec)

end Rows
end Go.Proofs.YtcdkcdapbadkaaaDoor
