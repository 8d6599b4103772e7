/-
  DERIVED. GIVEN WITH THE SEED: THE CARDS: each row of YthllhoodbfnlaaaDoorRows.lean that lists a variable, with what it lists TIED to the program's text (the seventh form; the later family's looks); each row that meets fmt, with fmt's text TOLD by the authors' own Lean function (tested against real Go, not proved from fmt's source: count such statements apart). THE CARD IS WHAT COUNTS. Prove the row's statement (the work); the ties are given (YthllhoodbfnlaaaDoorTie.lean); close each card by the builder's one call (the guide's Derived/Test/ToyasCard.lean, 'card_holds'). Laid BY PROGRAM, IN A SANDBOX (cutbox-door.mjs). By AI agents, Wed Nov 11 2026. No macro, syntax, notation, axiom, sorry.
-/
import Derived.Test.YthllhoodbfnlaaaDoorRows
import GoSem.ClaimSeven
namespace Go.Proofs.YthllhoodbfnlaaaDoor
namespace Rows

/-- THE TIED CARD OF 'targumlaw19.BlockLines'. -/
def blockLinesCard : Claim7 := { stood := { row := blockLinesRow, standIns := [], harness := (true, "f992edf4714122dfcd5b8ac929b7d6ec7200df75add4c19c908dc90280f2f757"), looks := false }, kinds := [], alts := [], laidByText := true, laidKinds := [.data, .pinned], laidTests := true, laidLooks := .later }
def BlockLinesCardSaid : Prop := Claim7.holds Tryd.pinned (.plain (OpenSpec.ofChange blockLinesSpec)) blockLinesCard

/-- THE TIED CARD OF 'targumlaw19.BlockFolds'. -/
def blockFoldsCard : Claim7 := { stood := { row := blockFoldsRow, standIns := [], harness := (true, "f992edf4714122dfcd5b8ac929b7d6ec7200df75add4c19c908dc90280f2f757"), looks := false }, kinds := [], alts := [], laidByText := true, laidKinds := [.data, .pinned], laidTests := true, laidLooks := .later }
def BlockFoldsCardSaid : Prop := Claim7.holds Tryd.pinned (.plain (OpenSpec.ofChange blockFoldsSpec)) blockFoldsCard

/-- THE TIED CARD OF 'targumlaw19.BlockHeads'. -/
def blockHeadsCard : Claim7 := { stood := { row := blockHeadsRow, standIns := [], harness := (true, "f992edf4714122dfcd5b8ac929b7d6ec7200df75add4c19c908dc90280f2f757"), looks := false }, kinds := [], alts := [], laidByText := true, laidKinds := [.data, .pinned], laidTests := true, laidLooks := .later }
def BlockHeadsCardSaid : Prop := Claim7.holds Tryd.pinned (.plain (OpenSpec.ofChange blockHeadsSpec)) blockHeadsCard

/-- THE TIED CARD OF 'targumlaw19.BlockEnds'. -/
def blockEndsCard : Claim7 := { stood := { row := blockEndsRow, standIns := [], harness := (true, "f992edf4714122dfcd5b8ac929b7d6ec7200df75add4c19c908dc90280f2f757"), looks := false }, kinds := [], alts := [], laidByText := true, laidKinds := [.data, .pinned], laidTests := true, laidLooks := .later }
def BlockEndsCardSaid : Prop := Claim7.holds Tryd.pinned (.plain (OpenSpec.ofChange blockEndsSpec)) blockEndsCard

/-- THE TIED CARD OF 'targumlaw18.SquoteTells'. -/
def squoteTellsCard : Claim7 := { stood := { row := squoteTellsRow, standIns := [], harness := (true, "f992edf4714122dfcd5b8ac929b7d6ec7200df75add4c19c908dc90280f2f757"), looks := false }, kinds := [], alts := [], laidByText := true, laidKinds := [.data, .pinned], laidTests := true, laidLooks := .later }
def SquoteTellsCardSaid : Prop := Claim7.holds Tryd.pinned (.plain (OpenSpec.ofChange squoteTellsSpec)) squoteTellsCard

/-- THE TIED CARD OF 'targumlaw18.SquoteBack'. -/
def squoteBackCard : Claim7 := { stood := { row := squoteBackRow, standIns := [], harness := (true, "f992edf4714122dfcd5b8ac929b7d6ec7200df75add4c19c908dc90280f2f757"), looks := false }, kinds := [], alts := [], laidByText := true, laidKinds := [.data, .pinned], laidTests := true, laidLooks := .later }
def SquoteBackCardSaid : Prop := Claim7.holds Tryd.pinned (.plain (OpenSpec.ofChange squoteBackSpec)) squoteBackCard

/-- THE TIED CARD OF 'targumlaw18.SquoteDouble'. -/
def squoteDoubleCard : Claim7 := { stood := { row := squoteDoubleRow, standIns := [], harness := (true, "f992edf4714122dfcd5b8ac929b7d6ec7200df75add4c19c908dc90280f2f757"), looks := false }, kinds := [], alts := [], laidByText := true, laidKinds := [.data, .pinned], laidTests := true, laidLooks := .later }
def SquoteDoubleCardSaid : Prop := Claim7.holds Tryd.pinned (.plain (OpenSpec.ofChange squoteDoubleSpec)) squoteDoubleCard

/-- THE TIED CARD OF 'targumlaw18.SquotePairs'. -/
def squotePairsCard : Claim7 := { stood := { row := squotePairsRow, standIns := [], harness := (true, "f992edf4714122dfcd5b8ac929b7d6ec7200df75add4c19c908dc90280f2f757"), looks := false }, kinds := [], alts := [], laidByText := true, laidKinds := [.data, .pinned], laidTests := true, laidLooks := .later }
def SquotePairsCardSaid : Prop := Claim7.holds Tryd.pinned (.plain (OpenSpec.ofChange squotePairsSpec)) squotePairsCard

/-- THE SECOND FORM's CARD OF 'targumlaw19.BlockLines'. -/
def blockLinesUptoCard : Claim7 := { stood := { row := blockLinesUptoRow, standIns := [], harness := (true, "f992edf4714122dfcd5b8ac929b7d6ec7200df75add4c19c908dc90280f2f757"), looks := false }, kinds := [], alts := [], laidByText := true, laidKinds := [.data, .pinned], laidTests := true, laidLooks := .later }
def BlockLinesUptoCardSaid : Prop := Claim7.holds Tryd.pinned (.plain (OpenSpec.upto blockLinesSpec)) blockLinesUptoCard

/-- THE SECOND FORM's CARD OF 'targumlaw19.BlockFolds'. -/
def blockFoldsUptoCard : Claim7 := { stood := { row := blockFoldsUptoRow, standIns := [], harness := (true, "f992edf4714122dfcd5b8ac929b7d6ec7200df75add4c19c908dc90280f2f757"), looks := false }, kinds := [], alts := [], laidByText := true, laidKinds := [.data, .pinned], laidTests := true, laidLooks := .later }
def BlockFoldsUptoCardSaid : Prop := Claim7.holds Tryd.pinned (.plain (OpenSpec.upto blockFoldsSpec)) blockFoldsUptoCard

/-- THE SECOND FORM's CARD OF 'targumlaw19.BlockHeads'. -/
def blockHeadsUptoCard : Claim7 := { stood := { row := blockHeadsUptoRow, standIns := [], harness := (true, "f992edf4714122dfcd5b8ac929b7d6ec7200df75add4c19c908dc90280f2f757"), looks := false }, kinds := [], alts := [], laidByText := true, laidKinds := [.data, .pinned], laidTests := true, laidLooks := .later }
def BlockHeadsUptoCardSaid : Prop := Claim7.holds Tryd.pinned (.plain (OpenSpec.upto blockHeadsSpec)) blockHeadsUptoCard

/-- THE SECOND FORM's CARD OF 'targumlaw19.BlockEnds'. -/
def blockEndsUptoCard : Claim7 := { stood := { row := blockEndsUptoRow, standIns := [], harness := (true, "f992edf4714122dfcd5b8ac929b7d6ec7200df75add4c19c908dc90280f2f757"), looks := false }, kinds := [], alts := [], laidByText := true, laidKinds := [.data, .pinned], laidTests := true, laidLooks := .later }
def BlockEndsUptoCardSaid : Prop := Claim7.holds Tryd.pinned (.plain (OpenSpec.upto blockEndsSpec)) blockEndsUptoCard

/-- THE SECOND FORM's CARD OF 'targumlaw18.SquoteTells'. -/
def squoteTellsUptoCard : Claim7 := { stood := { row := squoteTellsUptoRow, standIns := [], harness := (true, "f992edf4714122dfcd5b8ac929b7d6ec7200df75add4c19c908dc90280f2f757"), looks := false }, kinds := [], alts := [], laidByText := true, laidKinds := [.data, .pinned], laidTests := true, laidLooks := .later }
def SquoteTellsUptoCardSaid : Prop := Claim7.holds Tryd.pinned (.plain (OpenSpec.upto squoteTellsSpec)) squoteTellsUptoCard

/-- THE SECOND FORM's CARD OF 'targumlaw18.SquoteBack'. -/
def squoteBackUptoCard : Claim7 := { stood := { row := squoteBackUptoRow, standIns := [], harness := (true, "f992edf4714122dfcd5b8ac929b7d6ec7200df75add4c19c908dc90280f2f757"), looks := false }, kinds := [], alts := [], laidByText := true, laidKinds := [.data, .pinned], laidTests := true, laidLooks := .later }
def SquoteBackUptoCardSaid : Prop := Claim7.holds Tryd.pinned (.plain (OpenSpec.upto squoteBackSpec)) squoteBackUptoCard

/-- THE SECOND FORM's CARD OF 'targumlaw18.SquoteDouble'. -/
def squoteDoubleUptoCard : Claim7 := { stood := { row := squoteDoubleUptoRow, standIns := [], harness := (true, "f992edf4714122dfcd5b8ac929b7d6ec7200df75add4c19c908dc90280f2f757"), looks := false }, kinds := [], alts := [], laidByText := true, laidKinds := [.data, .pinned], laidTests := true, laidLooks := .later }
def SquoteDoubleUptoCardSaid : Prop := Claim7.holds Tryd.pinned (.plain (OpenSpec.upto squoteDoubleSpec)) squoteDoubleUptoCard

/-- THE SECOND FORM's CARD OF 'targumlaw18.SquotePairs'. -/
def squotePairsUptoCard : Claim7 := { stood := { row := squotePairsUptoRow, standIns := [], harness := (true, "f992edf4714122dfcd5b8ac929b7d6ec7200df75add4c19c908dc90280f2f757"), looks := false }, kinds := [], alts := [], laidByText := true, laidKinds := [.data, .pinned], laidTests := true, laidLooks := .later }
def SquotePairsUptoCardSaid : Prop := Claim7.holds Tryd.pinned (.plain (OpenSpec.upto squotePairsSpec)) squotePairsUptoCard
end Rows
end Go.Proofs.YthllhoodbfnlaaaDoor
