/-
  DERIVED. GIVEN WITH THE SEED: THE CARDS: each row of YtokeceeccmgcmaaGreatDoorRows.lean that lists a variable, with what it lists TIED to the program's text (the seventh form; the later family's looks); each row that meets fmt, with fmt's text TOLD by the authors' own Lean function (tested against real Go, not proved from fmt's source: count such statements apart). THE CARD IS WHAT COUNTS. Prove the row's statement (the work); the ties are given (YtokeceeccmgcmaaGreatDoorTie.lean); close each card by the builder's one call (the guide's Derived/Test/ToyasCard.lean, 'card_holds'). Laid BY PROGRAM, IN A SANDBOX (cutbox-door.mjs). By AI agents, Wed Nov 11 2026. No macro, syntax, notation, axiom, sorry.
-/
import Derived.Test.YtokeceeccmgcmaaGreatDoorRows
import GoSem.ClaimSeven
namespace Go.Proofs.YtokeceeccmgcmaaGreatDoor
namespace Rows

/-- THE TIED CARD OF 'beltwaylaw23.EvacuateCopies'. -/
def evacuateCopiesCard : Claim7 := { stood := { row := evacuateCopiesRow, standIns := [], harness := (true, "ecda925fbeafc6d8cc564c794288da2c955dde13545da6f8441126fa7e0268e8"), looks := false }, kinds := [], alts := [], laidByText := true, laidKinds := [.data], laidTests := true, laidLooks := .later }
def EvacuateCopiesCardSaid : Prop := Claim7.holds Tryz.pinned (.plain (OpenSpec.ofChange evacuateCopiesSpec)) evacuateCopiesCard

/-- THE TIED CARD OF 'beltwaylaw23.EvacuateReaches'. -/
def evacuateReachesCard : Claim7 := { stood := { row := evacuateReachesRow, standIns := [], harness := (true, "ecda925fbeafc6d8cc564c794288da2c955dde13545da6f8441126fa7e0268e8"), looks := false }, kinds := [], alts := [], laidByText := true, laidKinds := [.data], laidTests := true, laidLooks := .later }
def EvacuateReachesCardSaid : Prop := Claim7.holds Tryz.pinned (.plain (OpenSpec.ofChange evacuateReachesSpec)) evacuateReachesCard

/-- THE TIED CARD OF 'beltwaylaw23.EvacuateKeeps'. -/
def evacuateKeepsCard : Claim7 := { stood := { row := evacuateKeepsRow, standIns := [], harness := (true, "ecda925fbeafc6d8cc564c794288da2c955dde13545da6f8441126fa7e0268e8"), looks := false }, kinds := [], alts := [], laidByText := true, laidKinds := [.data], laidTests := true, laidLooks := .later }
def EvacuateKeepsCardSaid : Prop := Claim7.holds Tryz.pinned (.plain (OpenSpec.ofChange evacuateKeepsSpec)) evacuateKeepsCard

/-- THE SECOND FORM's CARD OF 'beltwaylaw23.EvacuateCopies'. -/
def evacuateCopiesUptoCard : Claim7 := { stood := { row := evacuateCopiesUptoRow, standIns := [], harness := (true, "ecda925fbeafc6d8cc564c794288da2c955dde13545da6f8441126fa7e0268e8"), looks := false }, kinds := [], alts := [], laidByText := true, laidKinds := [.data], laidTests := true, laidLooks := .later }
def EvacuateCopiesUptoCardSaid : Prop := Claim7.holds Tryz.pinned (.plain (OpenSpec.upto evacuateCopiesSpec)) evacuateCopiesUptoCard

/-- THE SECOND FORM's CARD OF 'beltwaylaw23.EvacuateReaches'. -/
def evacuateReachesUptoCard : Claim7 := { stood := { row := evacuateReachesUptoRow, standIns := [], harness := (true, "ecda925fbeafc6d8cc564c794288da2c955dde13545da6f8441126fa7e0268e8"), looks := false }, kinds := [], alts := [], laidByText := true, laidKinds := [.data], laidTests := true, laidLooks := .later }
def EvacuateReachesUptoCardSaid : Prop := Claim7.holds Tryz.pinned (.plain (OpenSpec.upto evacuateReachesSpec)) evacuateReachesUptoCard

/-- THE SECOND FORM's CARD OF 'beltwaylaw23.EvacuateKeeps'. -/
def evacuateKeepsUptoCard : Claim7 := { stood := { row := evacuateKeepsUptoRow, standIns := [], harness := (true, "ecda925fbeafc6d8cc564c794288da2c955dde13545da6f8441126fa7e0268e8"), looks := false }, kinds := [], alts := [], laidByText := true, laidKinds := [.data], laidTests := true, laidLooks := .later }
def EvacuateKeepsUptoCardSaid : Prop := Claim7.holds Tryz.pinned (.plain (OpenSpec.upto evacuateKeepsSpec)) evacuateKeepsUptoCard
end Rows
end Go.Proofs.YtokeceeccmgcmaaGreatDoor
