/-
  DERIVED. GIVEN WITH THE SEED: THE CARDS: each row of YtbmndkehkhpdlaaDoorRows.lean that lists a variable, with what it lists TIED to the program's text (the seventh form; the later family's looks); each row that meets fmt, with fmt's text TOLD by the authors' own Lean function (tested against real Go, not proved from fmt's source: count such statements apart). THE CARD IS WHAT COUNTS. Prove the row's statement (the work); the ties are given (YtbmndkehkhpdlaaDoorTie.lean); close each card by the builder's one call (the guide's Derived/Test/ToyasCard.lean, 'card_holds'). Laid BY PROGRAM, IN A SANDBOX (cutbox-door.mjs). By AI agents, Wed Nov 11 2026. No macro, syntax, notation, axiom, sorry.
-/
import Derived.Test.YtbmndkehkhpdlaaDoorRows
import GoSem.ClaimSeven
namespace Go.Proofs.YtbmndkehkhpdlaaDoor
namespace Rows

/-- THE TIED CARD OF 'beltwaylaw04.PoolTakes'. -/
def poolTakesCard : Claim7 := { stood := { row := poolTakesRow, standIns := [], harness := (true, "2a0e7fca4990df25ed277c3c09e69ef4868809dc7ad8dbc0099bc73c0b7816e8"), looks := false }, kinds := [], alts := [], laidByText := true, laidKinds := [.data], laidTests := true, laidLooks := .later }
def PoolTakesCardSaid : Prop := Claim7.holds Tryd.pinned (.plain (OpenSpec.ofChange poolTakesSpec)) poolTakesCard

/-- THE TIED CARD OF 'beltwaylaw04.PoolOrder'. -/
def poolOrderCard : Claim7 := { stood := { row := poolOrderRow, standIns := [], harness := (true, "2a0e7fca4990df25ed277c3c09e69ef4868809dc7ad8dbc0099bc73c0b7816e8"), looks := false }, kinds := [], alts := [], laidByText := true, laidKinds := [.data], laidTests := true, laidLooks := .later }
def PoolOrderCardSaid : Prop := Claim7.holds Tryd.pinned (.plain (OpenSpec.ofChange poolOrderSpec)) poolOrderCard

/-- THE TIED CARD OF 'beltwaylaw04.PoolBack'. -/
def poolBackCard : Claim7 := { stood := { row := poolBackRow, standIns := [], harness := (true, "2a0e7fca4990df25ed277c3c09e69ef4868809dc7ad8dbc0099bc73c0b7816e8"), looks := false }, kinds := [], alts := [], laidByText := true, laidKinds := [.data], laidTests := true, laidLooks := .later }
def PoolBackCardSaid : Prop := Claim7.holds Tryd.pinned (.plain (OpenSpec.ofChange poolBackSpec)) poolBackCard

/-- THE TIED CARD OF 'beltwaylaw04.PoolCounts'. -/
def poolCountsCard : Claim7 := { stood := { row := poolCountsRow, standIns := [], harness := (true, "2a0e7fca4990df25ed277c3c09e69ef4868809dc7ad8dbc0099bc73c0b7816e8"), looks := false }, kinds := [], alts := [], laidByText := true, laidKinds := [.data], laidTests := true, laidLooks := .later }
def PoolCountsCardSaid : Prop := Claim7.holds Tryd.pinned (.plain (OpenSpec.ofChange poolCountsSpec)) poolCountsCard

/-- THE SECOND FORM's CARD OF 'beltwaylaw04.PoolTakes'. -/
def poolTakesUptoCard : Claim7 := { stood := { row := poolTakesUptoRow, standIns := [], harness := (true, "2a0e7fca4990df25ed277c3c09e69ef4868809dc7ad8dbc0099bc73c0b7816e8"), looks := false }, kinds := [], alts := [], laidByText := true, laidKinds := [.data], laidTests := true, laidLooks := .later }
def PoolTakesUptoCardSaid : Prop := Claim7.holds Tryd.pinned (.plain (OpenSpec.upto poolTakesSpec)) poolTakesUptoCard

/-- THE SECOND FORM's CARD OF 'beltwaylaw04.PoolOrder'. -/
def poolOrderUptoCard : Claim7 := { stood := { row := poolOrderUptoRow, standIns := [], harness := (true, "2a0e7fca4990df25ed277c3c09e69ef4868809dc7ad8dbc0099bc73c0b7816e8"), looks := false }, kinds := [], alts := [], laidByText := true, laidKinds := [.data], laidTests := true, laidLooks := .later }
def PoolOrderUptoCardSaid : Prop := Claim7.holds Tryd.pinned (.plain (OpenSpec.upto poolOrderSpec)) poolOrderUptoCard

/-- THE SECOND FORM's CARD OF 'beltwaylaw04.PoolBack'. -/
def poolBackUptoCard : Claim7 := { stood := { row := poolBackUptoRow, standIns := [], harness := (true, "2a0e7fca4990df25ed277c3c09e69ef4868809dc7ad8dbc0099bc73c0b7816e8"), looks := false }, kinds := [], alts := [], laidByText := true, laidKinds := [.data], laidTests := true, laidLooks := .later }
def PoolBackUptoCardSaid : Prop := Claim7.holds Tryd.pinned (.plain (OpenSpec.upto poolBackSpec)) poolBackUptoCard

/-- THE SECOND FORM's CARD OF 'beltwaylaw04.PoolCounts'. -/
def poolCountsUptoCard : Claim7 := { stood := { row := poolCountsUptoRow, standIns := [], harness := (true, "2a0e7fca4990df25ed277c3c09e69ef4868809dc7ad8dbc0099bc73c0b7816e8"), looks := false }, kinds := [], alts := [], laidByText := true, laidKinds := [.data], laidTests := true, laidLooks := .later }
def PoolCountsUptoCardSaid : Prop := Claim7.holds Tryd.pinned (.plain (OpenSpec.upto poolCountsSpec)) poolCountsUptoCard
end Rows
end Go.Proofs.YtbmndkehkhpdlaaDoor
