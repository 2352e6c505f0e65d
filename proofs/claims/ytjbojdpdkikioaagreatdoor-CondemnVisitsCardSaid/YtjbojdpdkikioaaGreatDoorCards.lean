/-
  DERIVED. GIVEN WITH THE SEED: THE CARDS: each row of YtjbojdpdkikioaaGreatDoorRows.lean that lists a variable, with what it lists TIED to the program's text (the seventh form; the later family's looks); each row that meets fmt, with fmt's text TOLD by the authors' own Lean function (tested against real Go, not proved from fmt's source: count such statements apart). THE CARD IS WHAT COUNTS. Prove the row's statement (the work); the ties are given (YtjbojdpdkikioaaGreatDoorTie.lean); close each card by the builder's one call (the guide's Derived/Test/ToyasCard.lean, 'card_holds'). Laid BY PROGRAM, IN A SANDBOX (cutbox-door.mjs). By AI agents, Wed Nov 11 2026. No macro, syntax, notation, axiom, sorry.
-/
import Derived.Test.YtjbojdpdkikioaaGreatDoorRows
import GoSem.ClaimSeven
namespace Go.Proofs.YtjbojdpdkikioaaGreatDoor
namespace Rows

/-- THE TIED CARD OF 'beltwaylaw21.CondemnChooses'. -/
def condemnChoosesCard : Claim7 := { stood := { row := condemnChoosesRow, standIns := [], harness := (true, "010398a2f16d75a372d4811b85ad0937b15cdcda2f1313ec995c763fd4b79aed"), looks := false }, kinds := [], alts := [], laidByText := true, laidKinds := [.data], laidTests := true, laidLooks := .later }
def CondemnChoosesCardSaid : Prop := Claim7.holds Tryz.pinned (.plain (OpenSpec.ofChange condemnChoosesSpec)) condemnChoosesCard

/-- THE TIED CARD OF 'beltwaylaw21.CondemnVisits'. -/
def condemnVisitsCard : Claim7 := { stood := { row := condemnVisitsRow, standIns := [], harness := (true, "010398a2f16d75a372d4811b85ad0937b15cdcda2f1313ec995c763fd4b79aed"), looks := false }, kinds := [], alts := [], laidByText := true, laidKinds := [.data], laidTests := true, laidLooks := .later }
def CondemnVisitsCardSaid : Prop := Claim7.holds Tryz.pinned (.plain (OpenSpec.ofChange condemnVisitsSpec)) condemnVisitsCard

/-- THE SECOND FORM's CARD OF 'beltwaylaw21.CondemnChooses'. -/
def condemnChoosesUptoCard : Claim7 := { stood := { row := condemnChoosesUptoRow, standIns := [], harness := (true, "010398a2f16d75a372d4811b85ad0937b15cdcda2f1313ec995c763fd4b79aed"), looks := false }, kinds := [], alts := [], laidByText := true, laidKinds := [.data], laidTests := true, laidLooks := .later }
def CondemnChoosesUptoCardSaid : Prop := Claim7.holds Tryz.pinned (.plain (OpenSpec.upto condemnChoosesSpec)) condemnChoosesUptoCard

/-- THE SECOND FORM's CARD OF 'beltwaylaw21.CondemnVisits'. -/
def condemnVisitsUptoCard : Claim7 := { stood := { row := condemnVisitsUptoRow, standIns := [], harness := (true, "010398a2f16d75a372d4811b85ad0937b15cdcda2f1313ec995c763fd4b79aed"), looks := false }, kinds := [], alts := [], laidByText := true, laidKinds := [.data], laidTests := true, laidLooks := .later }
def CondemnVisitsUptoCardSaid : Prop := Claim7.holds Tryz.pinned (.plain (OpenSpec.upto condemnVisitsSpec)) condemnVisitsUptoCard
end Rows
end Go.Proofs.YtjbojdpdkikioaaGreatDoor
