/-
  DERIVED. GIVEN WITH THE SEED: THE CARDS: each row of YtmcahbbelnjhiaaDoorRows.lean that lists a variable, with what it lists TIED to the program's text (the seventh form; the later family's looks); each row that meets fmt, with fmt's text TOLD by the authors' own Lean function (tested against real Go, not proved from fmt's source: count such statements apart). THE CARD IS WHAT COUNTS. Prove the row's statement (the work); the ties are given (YtmcahbbelnjhiaaDoorTie.lean); close each card by the builder's one call (the guide's Derived/Test/ToyasCard.lean, 'card_holds'). Laid BY PROGRAM, IN A SANDBOX (cutbox-door.mjs). By AI agents, Wed Nov 11 2026. No macro, syntax, notation, axiom, sorry.
-/
import Derived.Test.YtmcahbbelnjhiaaDoorRows
import GoSem.ClaimSeven
namespace Go.Proofs.YtmcahbbelnjhiaaDoor
namespace Rows

/-- THE TIED CARD OF 'beltwaylaw13.NotationPrints'. -/
def notationPrintsCard : Claim7 := { stood := { row := notationPrintsRow, standIns := [], harness := (true, "4ab9aac6453f0aa6691e537f30575f196dfdb283fa28ab8b3380c7877380275f"), looks := true }, kinds := [], alts := [], laidByText := true, laidKinds := [.data, .data, .data, .sentinel, .sentinel], laidTests := true, laidLooks := .later }
def NotationPrintsCardSaid : Prop := Claim7.holds Tryd.pinned (.plain (OpenSpec.ofChange notationPrintsSpec)) notationPrintsCard

/-- THE TIED CARD OF 'beltwaylaw13.NotationParses'. -/
def notationParsesCard : Claim7 := { stood := { row := notationParsesRow, standIns := [], harness := (true, "4ab9aac6453f0aa6691e537f30575f196dfdb283fa28ab8b3380c7877380275f"), looks := true }, kinds := [], alts := [], laidByText := true, laidKinds := [.data, .data, .data, .sentinel, .sentinel], laidTests := true, laidLooks := .later }
def NotationParsesCardSaid : Prop := Claim7.holds Tryd.pinned (.plain (OpenSpec.ofChange notationParsesSpec)) notationParsesCard

/-- THE TIED CARD OF 'beltwaylaw13.NotationBack'. -/
def notationBackCard : Claim7 := { stood := { row := notationBackRow, standIns := [], harness := (true, "4ab9aac6453f0aa6691e537f30575f196dfdb283fa28ab8b3380c7877380275f"), looks := true }, kinds := [], alts := [], laidByText := true, laidKinds := [.data, .data, .data, .sentinel, .sentinel], laidTests := true, laidLooks := .later }
def NotationBackCardSaid : Prop := Claim7.holds Tryd.pinned (.plain (OpenSpec.ofChange notationBackSpec)) notationBackCard

/-- THE SECOND FORM's CARD OF 'beltwaylaw13.NotationPrints'. -/
def notationPrintsUptoCard : Claim7 := { stood := { row := notationPrintsUptoRow, standIns := [], harness := (true, "4ab9aac6453f0aa6691e537f30575f196dfdb283fa28ab8b3380c7877380275f"), looks := true }, kinds := [], alts := [], laidByText := true, laidKinds := [.data, .data, .data, .sentinel, .sentinel], laidTests := true, laidLooks := .later }
def NotationPrintsUptoCardSaid : Prop := Claim7.holds Tryd.pinned (.plain (OpenSpec.upto notationPrintsSpec)) notationPrintsUptoCard

/-- THE SECOND FORM's CARD OF 'beltwaylaw13.NotationParses'. -/
def notationParsesUptoCard : Claim7 := { stood := { row := notationParsesUptoRow, standIns := [], harness := (true, "4ab9aac6453f0aa6691e537f30575f196dfdb283fa28ab8b3380c7877380275f"), looks := true }, kinds := [], alts := [], laidByText := true, laidKinds := [.data, .data, .data, .sentinel, .sentinel], laidTests := true, laidLooks := .later }
def NotationParsesUptoCardSaid : Prop := Claim7.holds Tryd.pinned (.plain (OpenSpec.upto notationParsesSpec)) notationParsesUptoCard

/-- THE SECOND FORM's CARD OF 'beltwaylaw13.NotationBack'. -/
def notationBackUptoCard : Claim7 := { stood := { row := notationBackUptoRow, standIns := [], harness := (true, "4ab9aac6453f0aa6691e537f30575f196dfdb283fa28ab8b3380c7877380275f"), looks := true }, kinds := [], alts := [], laidByText := true, laidKinds := [.data, .data, .data, .sentinel, .sentinel], laidTests := true, laidLooks := .later }
def NotationBackUptoCardSaid : Prop := Claim7.holds Tryd.pinned (.plain (OpenSpec.upto notationBackSpec)) notationBackUptoCard
end Rows
end Go.Proofs.YtmcahbbelnjhiaaDoor
