/-
  DERIVED. GIVEN WITH THE SEED: THE CARDS: each row of YtgllefepfnbmkaaDoorRows.lean that lists a variable, with what it lists TIED to the program's text (the seventh form; the later family's looks); each row that meets fmt, with fmt's text TOLD by the authors' own Lean function (tested against real Go, not proved from fmt's source: count such statements apart). THE CARD IS WHAT COUNTS. Prove the row's statement (the work); the ties are given (YtgllefepfnbmkaaDoorTie.lean); close each card by the builder's one call (the guide's Derived/Test/ToyasCard.lean, 'card_holds'). Laid BY PROGRAM, IN A SANDBOX (cutbox-door.mjs). By AI agents, Wed Nov 11 2026. No macro, syntax, notation, axiom, sorry.
-/
import Derived.Test.YtgllefepfnbmkaaDoorRows
import GoSem.ClaimSeven
namespace Go.Proofs.YtgllefepfnbmkaaDoor
namespace Rows

/-- THE TIED CARD OF 'beltwaylaw16.ReserveCounts'. -/
def reserveCountsCard : Claim7 := { stood := { row := reserveCountsRow, standIns := [], harness := (true, "49a39cfe857223c3ce89ae55973487ac8814b4c217cec6e9da22c8fe57a5dc39"), looks := false }, kinds := [], alts := [], laidByText := true, laidKinds := [.data], laidTests := true, laidLooks := .later }
def ReserveCountsCardSaid : Prop := Claim7.holds Tryd.pinned (.plain (OpenSpec.ofChange reserveCountsSpec)) reserveCountsCard

/-- THE TIED CARD OF 'beltwaylaw16.ReserveKeeps'. -/
def reserveKeepsCard : Claim7 := { stood := { row := reserveKeepsRow, standIns := [], harness := (true, "49a39cfe857223c3ce89ae55973487ac8814b4c217cec6e9da22c8fe57a5dc39"), looks := false }, kinds := [], alts := [], laidByText := true, laidKinds := [.data], laidTests := true, laidLooks := .later }
def ReserveKeepsCardSaid : Prop := Claim7.holds Tryd.pinned (.plain (OpenSpec.ofChange reserveKeepsSpec)) reserveKeepsCard

/-- THE TIED CARD OF 'beltwaylaw16.ReserveMore'. -/
def reserveMoreCard : Claim7 := { stood := { row := reserveMoreRow, standIns := [], harness := (true, "49a39cfe857223c3ce89ae55973487ac8814b4c217cec6e9da22c8fe57a5dc39"), looks := false }, kinds := [], alts := [], laidByText := true, laidKinds := [.data], laidTests := true, laidLooks := .later }
def ReserveMoreCardSaid : Prop := Claim7.holds Tryd.pinned (.plain (OpenSpec.ofChange reserveMoreSpec)) reserveMoreCard

/-- THE SECOND FORM's CARD OF 'beltwaylaw16.ReserveCounts'. -/
def reserveCountsUptoCard : Claim7 := { stood := { row := reserveCountsUptoRow, standIns := [], harness := (true, "49a39cfe857223c3ce89ae55973487ac8814b4c217cec6e9da22c8fe57a5dc39"), looks := false }, kinds := [], alts := [], laidByText := true, laidKinds := [.data], laidTests := true, laidLooks := .later }
def ReserveCountsUptoCardSaid : Prop := Claim7.holds Tryd.pinned (.plain (OpenSpec.upto reserveCountsSpec)) reserveCountsUptoCard

/-- THE SECOND FORM's CARD OF 'beltwaylaw16.ReserveKeeps'. -/
def reserveKeepsUptoCard : Claim7 := { stood := { row := reserveKeepsUptoRow, standIns := [], harness := (true, "49a39cfe857223c3ce89ae55973487ac8814b4c217cec6e9da22c8fe57a5dc39"), looks := false }, kinds := [], alts := [], laidByText := true, laidKinds := [.data], laidTests := true, laidLooks := .later }
def ReserveKeepsUptoCardSaid : Prop := Claim7.holds Tryd.pinned (.plain (OpenSpec.upto reserveKeepsSpec)) reserveKeepsUptoCard

/-- THE SECOND FORM's CARD OF 'beltwaylaw16.ReserveMore'. -/
def reserveMoreUptoCard : Claim7 := { stood := { row := reserveMoreUptoRow, standIns := [], harness := (true, "49a39cfe857223c3ce89ae55973487ac8814b4c217cec6e9da22c8fe57a5dc39"), looks := false }, kinds := [], alts := [], laidByText := true, laidKinds := [.data], laidTests := true, laidLooks := .later }
def ReserveMoreUptoCardSaid : Prop := Claim7.holds Tryd.pinned (.plain (OpenSpec.upto reserveMoreSpec)) reserveMoreUptoCard
end Rows
end Go.Proofs.YtgllefepfnbmkaaDoor
