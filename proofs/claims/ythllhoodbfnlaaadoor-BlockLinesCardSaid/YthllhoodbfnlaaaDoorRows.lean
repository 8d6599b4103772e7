/-
  NARROWER THAN 'FOR EVERY INPUT', by the rows' own cells (each row's printed sentence says how): BlockLines: laid · BlockFolds: laid · BlockHeads: laid · BlockEnds: laid · SquoteTells: laid · SquoteBack: laid · SquoteDouble: laid · SquotePairs: laid.
  DERIVED. THE GIVEN ROWS OF THIS SEAT. 8 by the template 'for every input the law returns true; each argument reads behind the call as it read before'; 0 by the template 'total and deterministic' (their statements: YthllhoodbfnlaaaDoorTotals.lean).
  GIVEN WITH THE SEED: the statements are not yours to turn. If you find one false, say at which input.
  Laid BY PROGRAM, IN A SANDBOX (cutbox-rows.mjs): the forced cells as the released guide's own fill.sh prints them over the translation 84a4d83b2ecc115e… (all of the seat's roots in one cut). By AI agents, Wed Nov 11 2026. No macro, syntax, notation, axiom, sorry.
-/
import Derived.Test.YthllhoodbfnlaaaDoorChecked
import GoSem.PinnedTables
import GoSem.Claim
import GoSem.ClaimJoined
import GoSem.ClaimMapViews
import Derived.JoinedTies
import Derived.KernelRfl
namespace Go.Proofs.YthllhoodbfnlaaaDoor
/- THE CELL 'sum', in the pinned program and in every row, IS THE sha256 OF THE DUMP (.gsa) THAT YthllhoodbfnlaaaDoorProg.lean LOADS. Nothing in Lean hashes anything: it is a label: what it is worth is what the hold of that sum in a sandbox is worth. -/
noncomputable def Tryd.pinned : Pinned := { name := "ythllhoodbfnlaaadoor", sum := "84a4d83b2ecc115e9e9a10db4bc9225586239bc85c9385bebf3980f947360954", checked := Tryd.checked }
namespace Rows
def none {H : Type} : Left H := { results := [], args := [] }

/- WHAT THE LISTED PACKAGE-LEVEL VARIABLES READ AS WHEN THE CALL BEGINS. Each datum BY PROGRAM (the guide's laid-datum.mjs) off the statement by which the dump's own 'gosem.cut.vars' lays the variable. In a bare row this is a premise. The card (YthllhoodbfnlaaaDoorCards.lean) ties it to the program's text. -/
def laid_unicode_utf8_acceptRanges {H : Type} : DataW H := .agg [.agg [.lit (.int .u8 128), .lit (.int .u8 191)], .agg [.lit (.int .u8 160), .lit (.int .u8 191)], .agg [.lit (.int .u8 128), .lit (.int .u8 159)], .agg [.lit (.int .u8 144), .lit (.int .u8 191)], .agg [.lit (.int .u8 128), .lit (.int .u8 143)], .agg [.lit (.int .u8 0), .lit (.int .u8 0)], .agg [.lit (.int .u8 0), .lit (.int .u8 0)], .agg [.lit (.int .u8 0), .lit (.int .u8 0)], .agg [.lit (.int .u8 0), .lit (.int .u8 0)], .agg [.lit (.int .u8 0), .lit (.int .u8 0)], .agg [.lit (.int .u8 0), .lit (.int .u8 0)], .agg [.lit (.int .u8 0), .lit (.int .u8 0)], .agg [.lit (.int .u8 0), .lit (.int .u8 0)], .agg [.lit (.int .u8 0), .lit (.int .u8 0)], .agg [.lit (.int .u8 0), .lit (.int .u8 0)], .agg [.lit (.int .u8 0), .lit (.int .u8 0)]]
/-- One of Go's own tables, pinned by name: the form's constant. -/
def laid_unicode_utf8_first : DataW Unit := Go.Pinned.utf8First

/-- 'targumlaw19.BlockLines': WHATEVER THE INPUT: true; the input reads as it did. -/
def blockLinesSpec : ChangeSpec := { name := "blockLines", fn := fun _ => fun
  | [d1, d2, d3, d4, d5, d6, d7] => { results := [.lit (.bool true)], args := [d1, d2, d3, d4, d5, d6, d7] }
  | _ => none }
def blockLinesRow : OpenClaim := { program := "ythllhoodbfnlaaadoor", sum := "84a4d83b2ecc115e9e9a10db4bc9225586239bc85c9385bebf3980f947360954", func := "targum/targumlaw19.BlockLines", spec := "blockLines", inPlace := ["internal/bytealg.IndexByteString", "internal/bytealg.IndexString", "internal/abi.NoEscape", "internal/bytealg.MakeNoZero"], named := ["unicode/utf8.first", "unicode/utf8.acceptRanges", "internal/bytealg.MaxLen"], apart := false, laid := [("unicode/utf8.acceptRanges", laid_unicode_utf8_acceptRanges), ("unicode/utf8.first", laid_unicode_utf8_first)] }
def BlockLinesSaid : Prop := blockLinesRow.holds Tryd.pinned (OpenSpec.ofChange blockLinesSpec)

/-- ITS FALSE NEIGHBOUR: 'it returns false'. Refute it at one input. -/
def blockLinesWrong : ChangeSpec := { name := "blockLines", fn := fun _ => fun
  | [d1, d2, d3, d4, d5, d6, d7] => { results := [.lit (.bool false)], args := [d1, d2, d3, d4, d5, d6, d7] }
  | _ => none }
def BlockLinesWrongFalsely : Prop := blockLinesRow.holds Tryd.pinned (OpenSpec.ofChange blockLinesWrong)

/-- 'targumlaw19.BlockFolds': WHATEVER THE INPUT: true; the input reads as it did. -/
def blockFoldsSpec : ChangeSpec := { name := "blockFolds", fn := fun _ => fun
  | [d1, d2, d3, d4] => { results := [.lit (.bool true)], args := [d1, d2, d3, d4] }
  | _ => none }
def blockFoldsRow : OpenClaim := { program := "ythllhoodbfnlaaadoor", sum := "84a4d83b2ecc115e9e9a10db4bc9225586239bc85c9385bebf3980f947360954", func := "targum/targumlaw19.BlockFolds", spec := "blockFolds", inPlace := ["internal/bytealg.IndexByteString", "internal/bytealg.IndexString", "internal/abi.NoEscape", "internal/bytealg.MakeNoZero"], named := ["unicode/utf8.first", "unicode/utf8.acceptRanges", "internal/bytealg.MaxLen"], apart := false, laid := [("unicode/utf8.acceptRanges", laid_unicode_utf8_acceptRanges), ("unicode/utf8.first", laid_unicode_utf8_first)] }
def BlockFoldsSaid : Prop := blockFoldsRow.holds Tryd.pinned (OpenSpec.ofChange blockFoldsSpec)

/-- ITS FALSE NEIGHBOUR: 'it returns false'. Refute it at one input. -/
def blockFoldsWrong : ChangeSpec := { name := "blockFolds", fn := fun _ => fun
  | [d1, d2, d3, d4] => { results := [.lit (.bool false)], args := [d1, d2, d3, d4] }
  | _ => none }
def BlockFoldsWrongFalsely : Prop := blockFoldsRow.holds Tryd.pinned (OpenSpec.ofChange blockFoldsWrong)

/-- 'targumlaw19.BlockHeads': WHATEVER THE INPUT: true; the input reads as it did. -/
def blockHeadsSpec : ChangeSpec := { name := "blockHeads", fn := fun _ => fun
  | [d1, d2, d3, d4, d5, d6] => { results := [.lit (.bool true)], args := [d1, d2, d3, d4, d5, d6] }
  | _ => none }
def blockHeadsRow : OpenClaim := { program := "ythllhoodbfnlaaadoor", sum := "84a4d83b2ecc115e9e9a10db4bc9225586239bc85c9385bebf3980f947360954", func := "targum/targumlaw19.BlockHeads", spec := "blockHeads", inPlace := ["internal/bytealg.IndexByteString", "internal/bytealg.IndexString", "internal/abi.NoEscape", "internal/bytealg.MakeNoZero"], named := ["unicode/utf8.first", "unicode/utf8.acceptRanges", "internal/bytealg.MaxLen"], apart := false, laid := [("unicode/utf8.acceptRanges", laid_unicode_utf8_acceptRanges), ("unicode/utf8.first", laid_unicode_utf8_first)] }
def BlockHeadsSaid : Prop := blockHeadsRow.holds Tryd.pinned (OpenSpec.ofChange blockHeadsSpec)

/-- ITS FALSE NEIGHBOUR: 'it returns false'. Refute it at one input. -/
def blockHeadsWrong : ChangeSpec := { name := "blockHeads", fn := fun _ => fun
  | [d1, d2, d3, d4, d5, d6] => { results := [.lit (.bool false)], args := [d1, d2, d3, d4, d5, d6] }
  | _ => none }
def BlockHeadsWrongFalsely : Prop := blockHeadsRow.holds Tryd.pinned (OpenSpec.ofChange blockHeadsWrong)

/-- 'targumlaw19.BlockEnds': WHATEVER THE INPUT: true; the input reads as it did. -/
def blockEndsSpec : ChangeSpec := { name := "blockEnds", fn := fun _ => fun
  | [d1, d2, d3, d4, d5] => { results := [.lit (.bool true)], args := [d1, d2, d3, d4, d5] }
  | _ => none }
def blockEndsRow : OpenClaim := { program := "ythllhoodbfnlaaadoor", sum := "84a4d83b2ecc115e9e9a10db4bc9225586239bc85c9385bebf3980f947360954", func := "targum/targumlaw19.BlockEnds", spec := "blockEnds", inPlace := ["internal/bytealg.IndexByteString", "internal/bytealg.IndexString", "internal/abi.NoEscape", "internal/bytealg.MakeNoZero"], named := ["unicode/utf8.first", "unicode/utf8.acceptRanges", "internal/bytealg.MaxLen"], apart := false, laid := [("unicode/utf8.acceptRanges", laid_unicode_utf8_acceptRanges), ("unicode/utf8.first", laid_unicode_utf8_first)] }
def BlockEndsSaid : Prop := blockEndsRow.holds Tryd.pinned (OpenSpec.ofChange blockEndsSpec)

/-- ITS FALSE NEIGHBOUR: 'it returns false'. Refute it at one input. -/
def blockEndsWrong : ChangeSpec := { name := "blockEnds", fn := fun _ => fun
  | [d1, d2, d3, d4, d5] => { results := [.lit (.bool false)], args := [d1, d2, d3, d4, d5] }
  | _ => none }
def BlockEndsWrongFalsely : Prop := blockEndsRow.holds Tryd.pinned (OpenSpec.ofChange blockEndsWrong)

/-- 'targumlaw18.SquoteTells': WHATEVER THE INPUT: true; the input reads as it did. -/
def squoteTellsSpec : ChangeSpec := { name := "squoteTells", fn := fun _ => fun
  | [d1, d2, d3, d4] => { results := [.lit (.bool true)], args := [d1, d2, d3, d4] }
  | _ => none }
def squoteTellsRow : OpenClaim := { program := "ythllhoodbfnlaaadoor", sum := "84a4d83b2ecc115e9e9a10db4bc9225586239bc85c9385bebf3980f947360954", func := "targum/targumlaw18.SquoteTells", spec := "squoteTells", inPlace := ["internal/abi.NoEscape", "internal/bytealg.MakeNoZero", "internal/bytealg.IndexByteString", "internal/bytealg.IndexString", "internal/bytealg.CountString"], named := ["unicode/utf8.first", "unicode/utf8.acceptRanges", "internal/bytealg.MaxLen"], apart := false, laid := [("unicode/utf8.acceptRanges", laid_unicode_utf8_acceptRanges), ("unicode/utf8.first", laid_unicode_utf8_first)] }
def SquoteTellsSaid : Prop := squoteTellsRow.holds Tryd.pinned (OpenSpec.ofChange squoteTellsSpec)

/-- ITS FALSE NEIGHBOUR: 'it returns false'. Refute it at one input. -/
def squoteTellsWrong : ChangeSpec := { name := "squoteTells", fn := fun _ => fun
  | [d1, d2, d3, d4] => { results := [.lit (.bool false)], args := [d1, d2, d3, d4] }
  | _ => none }
def SquoteTellsWrongFalsely : Prop := squoteTellsRow.holds Tryd.pinned (OpenSpec.ofChange squoteTellsWrong)

/-- 'targumlaw18.SquoteBack': WHATEVER THE INPUT: true; the input reads as it did. -/
def squoteBackSpec : ChangeSpec := { name := "squoteBack", fn := fun _ => fun
  | [d1, d2] => { results := [.lit (.bool true)], args := [d1, d2] }
  | _ => none }
def squoteBackRow : OpenClaim := { program := "ythllhoodbfnlaaadoor", sum := "84a4d83b2ecc115e9e9a10db4bc9225586239bc85c9385bebf3980f947360954", func := "targum/targumlaw18.SquoteBack", spec := "squoteBack", inPlace := ["internal/abi.NoEscape", "internal/bytealg.MakeNoZero", "internal/bytealg.IndexByteString", "internal/bytealg.IndexString", "internal/bytealg.CountString"], named := ["unicode/utf8.first", "unicode/utf8.acceptRanges", "internal/bytealg.MaxLen"], apart := false, laid := [("unicode/utf8.acceptRanges", laid_unicode_utf8_acceptRanges), ("unicode/utf8.first", laid_unicode_utf8_first)] }
def SquoteBackSaid : Prop := squoteBackRow.holds Tryd.pinned (OpenSpec.ofChange squoteBackSpec)

/-- ITS FALSE NEIGHBOUR: 'it returns false'. Refute it at one input. -/
def squoteBackWrong : ChangeSpec := { name := "squoteBack", fn := fun _ => fun
  | [d1, d2] => { results := [.lit (.bool false)], args := [d1, d2] }
  | _ => none }
def SquoteBackWrongFalsely : Prop := squoteBackRow.holds Tryd.pinned (OpenSpec.ofChange squoteBackWrong)

/-- 'targumlaw18.SquoteDouble': WHATEVER THE INPUT: true; the input reads as it did. -/
def squoteDoubleSpec : ChangeSpec := { name := "squoteDouble", fn := fun _ => fun
  | [d1, d2] => { results := [.lit (.bool true)], args := [d1, d2] }
  | _ => none }
def squoteDoubleRow : OpenClaim := { program := "ythllhoodbfnlaaadoor", sum := "84a4d83b2ecc115e9e9a10db4bc9225586239bc85c9385bebf3980f947360954", func := "targum/targumlaw18.SquoteDouble", spec := "squoteDouble", inPlace := ["internal/abi.NoEscape", "internal/bytealg.MakeNoZero", "internal/bytealg.IndexByteString", "internal/bytealg.IndexString", "internal/bytealg.CountString"], named := ["unicode/utf8.first", "unicode/utf8.acceptRanges", "internal/bytealg.MaxLen"], apart := false, laid := [("unicode/utf8.acceptRanges", laid_unicode_utf8_acceptRanges), ("unicode/utf8.first", laid_unicode_utf8_first)] }
def SquoteDoubleSaid : Prop := squoteDoubleRow.holds Tryd.pinned (OpenSpec.ofChange squoteDoubleSpec)

/-- ITS FALSE NEIGHBOUR: 'it returns false'. Refute it at one input. -/
def squoteDoubleWrong : ChangeSpec := { name := "squoteDouble", fn := fun _ => fun
  | [d1, d2] => { results := [.lit (.bool false)], args := [d1, d2] }
  | _ => none }
def SquoteDoubleWrongFalsely : Prop := squoteDoubleRow.holds Tryd.pinned (OpenSpec.ofChange squoteDoubleWrong)

/-- 'targumlaw18.SquotePairs': WHATEVER THE INPUT: true; the input reads as it did. -/
def squotePairsSpec : ChangeSpec := { name := "squotePairs", fn := fun _ => fun
  | [d1, d2] => { results := [.lit (.bool true)], args := [d1, d2] }
  | _ => none }
def squotePairsRow : OpenClaim := { program := "ythllhoodbfnlaaadoor", sum := "84a4d83b2ecc115e9e9a10db4bc9225586239bc85c9385bebf3980f947360954", func := "targum/targumlaw18.SquotePairs", spec := "squotePairs", inPlace := ["internal/abi.NoEscape", "internal/bytealg.MakeNoZero", "internal/bytealg.IndexByteString", "internal/bytealg.IndexString", "internal/bytealg.CountString"], named := ["unicode/utf8.first", "unicode/utf8.acceptRanges", "internal/bytealg.MaxLen"], apart := false, laid := [("unicode/utf8.acceptRanges", laid_unicode_utf8_acceptRanges), ("unicode/utf8.first", laid_unicode_utf8_first)] }
def SquotePairsSaid : Prop := squotePairsRow.holds Tryd.pinned (OpenSpec.ofChange squotePairsSpec)

/-- ITS FALSE NEIGHBOUR: 'it returns false'. Refute it at one input. -/
def squotePairsWrong : ChangeSpec := { name := "squotePairs", fn := fun _ => fun
  | [d1, d2] => { results := [.lit (.bool false)], args := [d1, d2] }
  | _ => none }
def SquotePairsWrongFalsely : Prop := squotePairsRow.holds Tryd.pinned (OpenSpec.ofChange squotePairsWrong)

/- THE SECOND FORM. 'bulk': how many values and letters a reading holds, each counted each time it is reached (what is shared counts as often as it is met; a slice's spare places count too). A statement '..UptoSaid' is the law's where the arguments, and the package variables that the reading takes, are together of bulk at most 1048576: NARROWER than '..Said'. Prove '..Said' where nothing that the law and all that it calls make is longer than what came in: it says more and counts as full. Else prove '..UptoSaid'. A law counts once. -/
mutual
def uptoBulk {H : Type} : DataW H → Nat
  | .lit (.string bytes) => bytes.length + 1
  | .lit _ => 1
  | .nil => 1
  | .ptr d => uptoBulk d + 1
  | .slice elems spare => uptoBulkAll elems + uptoBulkAll spare + 1
  | .agg parts => uptoBulkAll parts + 1
  | .iface _ d => uptoBulk d + 1
  | .map entries => uptoBulkEntries entries + 1
  | .held _ => 1
def uptoBulkAll {H : Type} : List (DataW H) → Nat
  | [] => 0
  | d :: r => uptoBulk d + uptoBulkAll r
def uptoBulkEntries {H : Type} : List (Lit × DataW H) → Nat
  | [] => 0
  | x :: r => uptoBulkEntry x + uptoBulkEntries r
def uptoBulkEntry {H : Type} : Lit × DataW H → Nat
  | (.string bytes, d) => bytes.length + uptoBulk d + 1
  | (_, d) => uptoBulk d + 1
 end
def uptoSmall : (H : Type) → List (DataW H) → Bool := fun _ ds => decide (uptoBulkAll ds ≤ 1048576)
def OpenSpec.upto (s : _root_.Go.ChangeSpec) : _root_.Go.OpenSpec := { _root_.Go.OpenSpec.ofChange s with cond := some uptoSmall }

/-- 'targumlaw19.BlockLines', WHERE WHAT IT READS IS OF BULK AT MOST 1048576: true; the input reads as it did. -/
def blockLinesUptoRow : OpenClaim := { program := "ythllhoodbfnlaaadoor", sum := "84a4d83b2ecc115e9e9a10db4bc9225586239bc85c9385bebf3980f947360954", func := "targum/targumlaw19.BlockLines", spec := "blockLines", inPlace := ["internal/bytealg.IndexByteString", "internal/bytealg.IndexString", "internal/abi.NoEscape", "internal/bytealg.MakeNoZero"], named := ["unicode/utf8.first", "unicode/utf8.acceptRanges", "internal/bytealg.MaxLen"], apart := false, laid := [("unicode/utf8.acceptRanges", laid_unicode_utf8_acceptRanges), ("unicode/utf8.first", laid_unicode_utf8_first)], narrowed := true }
def BlockLinesUptoSaid : Prop := blockLinesUptoRow.holds Tryd.pinned (OpenSpec.upto blockLinesSpec)

/-- 'targumlaw19.BlockFolds', WHERE WHAT IT READS IS OF BULK AT MOST 1048576: true; the input reads as it did. -/
def blockFoldsUptoRow : OpenClaim := { program := "ythllhoodbfnlaaadoor", sum := "84a4d83b2ecc115e9e9a10db4bc9225586239bc85c9385bebf3980f947360954", func := "targum/targumlaw19.BlockFolds", spec := "blockFolds", inPlace := ["internal/bytealg.IndexByteString", "internal/bytealg.IndexString", "internal/abi.NoEscape", "internal/bytealg.MakeNoZero"], named := ["unicode/utf8.first", "unicode/utf8.acceptRanges", "internal/bytealg.MaxLen"], apart := false, laid := [("unicode/utf8.acceptRanges", laid_unicode_utf8_acceptRanges), ("unicode/utf8.first", laid_unicode_utf8_first)], narrowed := true }
def BlockFoldsUptoSaid : Prop := blockFoldsUptoRow.holds Tryd.pinned (OpenSpec.upto blockFoldsSpec)

/-- 'targumlaw19.BlockHeads', WHERE WHAT IT READS IS OF BULK AT MOST 1048576: true; the input reads as it did. -/
def blockHeadsUptoRow : OpenClaim := { program := "ythllhoodbfnlaaadoor", sum := "84a4d83b2ecc115e9e9a10db4bc9225586239bc85c9385bebf3980f947360954", func := "targum/targumlaw19.BlockHeads", spec := "blockHeads", inPlace := ["internal/bytealg.IndexByteString", "internal/bytealg.IndexString", "internal/abi.NoEscape", "internal/bytealg.MakeNoZero"], named := ["unicode/utf8.first", "unicode/utf8.acceptRanges", "internal/bytealg.MaxLen"], apart := false, laid := [("unicode/utf8.acceptRanges", laid_unicode_utf8_acceptRanges), ("unicode/utf8.first", laid_unicode_utf8_first)], narrowed := true }
def BlockHeadsUptoSaid : Prop := blockHeadsUptoRow.holds Tryd.pinned (OpenSpec.upto blockHeadsSpec)

/-- 'targumlaw19.BlockEnds', WHERE WHAT IT READS IS OF BULK AT MOST 1048576: true; the input reads as it did. -/
def blockEndsUptoRow : OpenClaim := { program := "ythllhoodbfnlaaadoor", sum := "84a4d83b2ecc115e9e9a10db4bc9225586239bc85c9385bebf3980f947360954", func := "targum/targumlaw19.BlockEnds", spec := "blockEnds", inPlace := ["internal/bytealg.IndexByteString", "internal/bytealg.IndexString", "internal/abi.NoEscape", "internal/bytealg.MakeNoZero"], named := ["unicode/utf8.first", "unicode/utf8.acceptRanges", "internal/bytealg.MaxLen"], apart := false, laid := [("unicode/utf8.acceptRanges", laid_unicode_utf8_acceptRanges), ("unicode/utf8.first", laid_unicode_utf8_first)], narrowed := true }
def BlockEndsUptoSaid : Prop := blockEndsUptoRow.holds Tryd.pinned (OpenSpec.upto blockEndsSpec)

/-- 'targumlaw18.SquoteTells', WHERE WHAT IT READS IS OF BULK AT MOST 1048576: true; the input reads as it did. -/
def squoteTellsUptoRow : OpenClaim := { program := "ythllhoodbfnlaaadoor", sum := "84a4d83b2ecc115e9e9a10db4bc9225586239bc85c9385bebf3980f947360954", func := "targum/targumlaw18.SquoteTells", spec := "squoteTells", inPlace := ["internal/abi.NoEscape", "internal/bytealg.MakeNoZero", "internal/bytealg.IndexByteString", "internal/bytealg.IndexString", "internal/bytealg.CountString"], named := ["unicode/utf8.first", "unicode/utf8.acceptRanges", "internal/bytealg.MaxLen"], apart := false, laid := [("unicode/utf8.acceptRanges", laid_unicode_utf8_acceptRanges), ("unicode/utf8.first", laid_unicode_utf8_first)], narrowed := true }
def SquoteTellsUptoSaid : Prop := squoteTellsUptoRow.holds Tryd.pinned (OpenSpec.upto squoteTellsSpec)

/-- 'targumlaw18.SquoteBack', WHERE WHAT IT READS IS OF BULK AT MOST 1048576: true; the input reads as it did. -/
def squoteBackUptoRow : OpenClaim := { program := "ythllhoodbfnlaaadoor", sum := "84a4d83b2ecc115e9e9a10db4bc9225586239bc85c9385bebf3980f947360954", func := "targum/targumlaw18.SquoteBack", spec := "squoteBack", inPlace := ["internal/abi.NoEscape", "internal/bytealg.MakeNoZero", "internal/bytealg.IndexByteString", "internal/bytealg.IndexString", "internal/bytealg.CountString"], named := ["unicode/utf8.first", "unicode/utf8.acceptRanges", "internal/bytealg.MaxLen"], apart := false, laid := [("unicode/utf8.acceptRanges", laid_unicode_utf8_acceptRanges), ("unicode/utf8.first", laid_unicode_utf8_first)], narrowed := true }
def SquoteBackUptoSaid : Prop := squoteBackUptoRow.holds Tryd.pinned (OpenSpec.upto squoteBackSpec)

/-- 'targumlaw18.SquoteDouble', WHERE WHAT IT READS IS OF BULK AT MOST 1048576: true; the input reads as it did. -/
def squoteDoubleUptoRow : OpenClaim := { program := "ythllhoodbfnlaaadoor", sum := "84a4d83b2ecc115e9e9a10db4bc9225586239bc85c9385bebf3980f947360954", func := "targum/targumlaw18.SquoteDouble", spec := "squoteDouble", inPlace := ["internal/abi.NoEscape", "internal/bytealg.MakeNoZero", "internal/bytealg.IndexByteString", "internal/bytealg.IndexString", "internal/bytealg.CountString"], named := ["unicode/utf8.first", "unicode/utf8.acceptRanges", "internal/bytealg.MaxLen"], apart := false, laid := [("unicode/utf8.acceptRanges", laid_unicode_utf8_acceptRanges), ("unicode/utf8.first", laid_unicode_utf8_first)], narrowed := true }
def SquoteDoubleUptoSaid : Prop := squoteDoubleUptoRow.holds Tryd.pinned (OpenSpec.upto squoteDoubleSpec)

/-- 'targumlaw18.SquotePairs', WHERE WHAT IT READS IS OF BULK AT MOST 1048576: true; the input reads as it did. -/
def squotePairsUptoRow : OpenClaim := { program := "ythllhoodbfnlaaadoor", sum := "84a4d83b2ecc115e9e9a10db4bc9225586239bc85c9385bebf3980f947360954", func := "targum/targumlaw18.SquotePairs", spec := "squotePairs", inPlace := ["internal/abi.NoEscape", "internal/bytealg.MakeNoZero", "internal/bytealg.IndexByteString", "internal/bytealg.IndexString", "internal/bytealg.CountString"], named := ["unicode/utf8.first", "unicode/utf8.acceptRanges", "internal/bytealg.MaxLen"], apart := false, laid := [("unicode/utf8.acceptRanges", laid_unicode_utf8_acceptRanges), ("unicode/utf8.first", laid_unicode_utf8_first)], narrowed := true }
def SquotePairsUptoSaid : Prop := squotePairsUptoRow.holds Tryd.pinned (OpenSpec.upto squotePairsSpec)

end Rows
end Go.Proofs.YthllhoodbfnlaaaDoor
