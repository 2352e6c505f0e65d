/-
  DERIVED. GIVEN WITH THE SEED: THE CARDS: each row of YtokeceeccmgcmaaDoorRows.lean that lists a variable, with what it lists TIED to the program's text (the seventh form; the later family's looks); each row that meets fmt, with fmt's text TOLD by the authors' own Lean function (tested against real Go, not proved from fmt's source: count such statements apart). THE CARD IS WHAT COUNTS. Prove the row's statement (the work); the ties are given (YtokeceeccmgcmaaDoorTie.lean); close each card by the builder's one call (the guide's Derived/Test/ToyasCard.lean, 'card_holds'). Laid BY PROGRAM, IN A SANDBOX (cutbox-door.mjs). By AI agents, Wed Nov 11 2026. No macro, syntax, notation, axiom, sorry.
-/
import Derived.Test.YtokeceeccmgcmaaDoorRows
import GoSem.ClaimSeven
namespace Go.Proofs.YtokeceeccmgcmaaDoor
namespace Rows

/-- THE TIED CARD OF 'beltwaylaw23.EvacuateList'. -/
def evacuateListCard : Claim7 := { stood := { row := evacuateListRow, standIns := [], harness := (true, "582bf99c1f8aa22fea2d8dce14d5aa5ad713c6c699284ff169e852c231272e56"), looks := false }, kinds := [], alts := [], laidByText := true, laidKinds := [.data], laidTests := true, laidLooks := .later }
def EvacuateListCardSaid : Prop := Claim7.holds Tryd.pinned (.plain (OpenSpec.ofChange evacuateListSpec)) evacuateListCard

/-- THE SECOND FORM's CARD OF 'beltwaylaw23.EvacuateList'. -/
def evacuateListUptoCard : Claim7 := { stood := { row := evacuateListUptoRow, standIns := [], harness := (true, "582bf99c1f8aa22fea2d8dce14d5aa5ad713c6c699284ff169e852c231272e56"), looks := false }, kinds := [], alts := [], laidByText := true, laidKinds := [.data], laidTests := true, laidLooks := .later }
def EvacuateListUptoCardSaid : Prop := Claim7.holds Tryd.pinned (.plain (OpenSpec.upto evacuateListSpec)) evacuateListUptoCard
end Rows
end Go.Proofs.YtokeceeccmgcmaaDoor
