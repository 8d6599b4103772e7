/-
  DERIVED. GIVEN WITH THE SEED: THE CARDS: each row of YtcdkcdapbadkaaaDoorRows.lean that lists a variable, with what it lists TIED to the program's text (the seventh form; the later family's looks); each row that meets fmt, with fmt's text TOLD by the authors' own Lean function (tested against real Go, not proved from fmt's source: count such statements apart). THE CARD IS WHAT COUNTS. Prove the row's statement (the work); the ties are given (YtcdkcdapbadkaaaDoorTie.lean); close each card by the builder's one call (the guide's Derived/Test/ToyasCard.lean, 'card_holds'). Laid BY PROGRAM, IN A SANDBOX (cutbox-door.mjs). By AI agents, Wed Nov 11 2026. No macro, syntax, notation, axiom, sorry.
-/
import Derived.Test.YtcdkcdapbadkaaaDoorRows
import GoSem.ClaimSeven
namespace Go.Proofs.YtcdkcdapbadkaaaDoor
namespace Rows

/-- THE TIED CARD OF 'targumlaw20.PlainTells'. -/
def plainTellsCard : Claim7 := { stood := { row := plainTellsRow, standIns := [], harness := (true, "5394ce9d464050b6c181448d23789cbc9576c88bfb19649c0990188df132926f"), looks := false }, kinds := [], alts := [], laidByText := true, laidKinds := [.data, .pinned], laidTests := true, laidLooks := .later }
def PlainTellsCardSaid : Prop := Claim7.holds Tryd.pinned (.plain (OpenSpec.ofChange plainTellsSpec)) plainTellsCard

/-- THE TIED CARD OF 'targumlaw20.PlainCut'. -/
def plainCutCard : Claim7 := { stood := { row := plainCutRow, standIns := [], harness := (true, "5394ce9d464050b6c181448d23789cbc9576c88bfb19649c0990188df132926f"), looks := false }, kinds := [], alts := [], laidByText := true, laidKinds := [.data, .pinned], laidTests := true, laidLooks := .later }
def PlainCutCardSaid : Prop := Claim7.holds Tryd.pinned (.plain (OpenSpec.ofChange plainCutSpec)) plainCutCard

/-- THE TIED CARD OF 'targumlaw20.PlainFolds'. -/
def plainFoldsCard : Claim7 := { stood := { row := plainFoldsRow, standIns := [], harness := (true, "5394ce9d464050b6c181448d23789cbc9576c88bfb19649c0990188df132926f"), looks := false }, kinds := [], alts := [], laidByText := true, laidKinds := [.data, .pinned], laidTests := true, laidLooks := .later }
def PlainFoldsCardSaid : Prop := Claim7.holds Tryd.pinned (.plain (OpenSpec.ofChange plainFoldsSpec)) plainFoldsCard

/-- THE TIED CARD OF 'targumlaw20.PlainSigns'. -/
def plainSignsCard : Claim7 := { stood := { row := plainSignsRow, standIns := [], harness := (true, "5394ce9d464050b6c181448d23789cbc9576c88bfb19649c0990188df132926f"), looks := false }, kinds := [], alts := [], laidByText := true, laidKinds := [.data, .pinned], laidTests := true, laidLooks := .later }
def PlainSignsCardSaid : Prop := Claim7.holds Tryd.pinned (.plain (OpenSpec.ofChange plainSignsSpec)) plainSignsCard

/-- THE SECOND FORM's CARD OF 'targumlaw20.PlainTells'. -/
def plainTellsUptoCard : Claim7 := { stood := { row := plainTellsUptoRow, standIns := [], harness := (true, "5394ce9d464050b6c181448d23789cbc9576c88bfb19649c0990188df132926f"), looks := false }, kinds := [], alts := [], laidByText := true, laidKinds := [.data, .pinned], laidTests := true, laidLooks := .later }
def PlainTellsUptoCardSaid : Prop := Claim7.holds Tryd.pinned (.plain (OpenSpec.upto plainTellsSpec)) plainTellsUptoCard

/-- THE SECOND FORM's CARD OF 'targumlaw20.PlainCut'. -/
def plainCutUptoCard : Claim7 := { stood := { row := plainCutUptoRow, standIns := [], harness := (true, "5394ce9d464050b6c181448d23789cbc9576c88bfb19649c0990188df132926f"), looks := false }, kinds := [], alts := [], laidByText := true, laidKinds := [.data, .pinned], laidTests := true, laidLooks := .later }
def PlainCutUptoCardSaid : Prop := Claim7.holds Tryd.pinned (.plain (OpenSpec.upto plainCutSpec)) plainCutUptoCard

/-- THE SECOND FORM's CARD OF 'targumlaw20.PlainFolds'. -/
def plainFoldsUptoCard : Claim7 := { stood := { row := plainFoldsUptoRow, standIns := [], harness := (true, "5394ce9d464050b6c181448d23789cbc9576c88bfb19649c0990188df132926f"), looks := false }, kinds := [], alts := [], laidByText := true, laidKinds := [.data, .pinned], laidTests := true, laidLooks := .later }
def PlainFoldsUptoCardSaid : Prop := Claim7.holds Tryd.pinned (.plain (OpenSpec.upto plainFoldsSpec)) plainFoldsUptoCard

/-- THE SECOND FORM's CARD OF 'targumlaw20.PlainSigns'. -/
def plainSignsUptoCard : Claim7 := { stood := { row := plainSignsUptoRow, standIns := [], harness := (true, "5394ce9d464050b6c181448d23789cbc9576c88bfb19649c0990188df132926f"), looks := false }, kinds := [], alts := [], laidByText := true, laidKinds := [.data, .pinned], laidTests := true, laidLooks := .later }
def PlainSignsUptoCardSaid : Prop := Claim7.holds Tryd.pinned (.plain (OpenSpec.upto plainSignsSpec)) plainSignsUptoCard
end Rows
end Go.Proofs.YtcdkcdapbadkaaaDoor
