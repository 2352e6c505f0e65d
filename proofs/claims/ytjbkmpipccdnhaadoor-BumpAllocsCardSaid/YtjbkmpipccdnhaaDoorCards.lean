/-
  DERIVED. GIVEN WITH THE SEED: THE CARDS: each row of YtjbkmpipccdnhaaDoorRows.lean that lists a variable, with what it lists TIED to the program's text (the seventh form; the later family's looks); each row that meets fmt, with fmt's text TOLD by the authors' own Lean function (tested against real Go, not proved from fmt's source: count such statements apart). THE CARD IS WHAT COUNTS. Prove the row's statement (the work); the ties are given (YtjbkmpipccdnhaaDoorTie.lean); close each card by the builder's one call (the guide's Derived/Test/ToyasCard.lean, 'card_holds'). Laid BY PROGRAM, IN A SANDBOX (cutbox-door.mjs). By AI agents, Wed Nov 11 2026. No macro, syntax, notation, axiom, sorry.
-/
import Derived.Test.YtjbkmpipccdnhaaDoorRows
import GoSem.ClaimSeven
namespace Go.Proofs.YtjbkmpipccdnhaaDoor
namespace Rows

/-- THE TIED CARD OF 'beltwaylaw09.BumpValid'. -/
def bumpValidCard : Claim7 := { stood := { row := bumpValidRow, standIns := [], harness := (true, "3127a7bbc4ffdb061a7b6f3081f927355dd740ad841135f426207b3137d35892"), looks := false }, kinds := [], alts := [], laidByText := true, laidKinds := [.data], laidTests := true, laidLooks := .later }
def BumpValidCardSaid : Prop := Claim7.holds Tryd.pinned (.plain (OpenSpec.ofChange bumpValidSpec)) bumpValidCard

/-- THE TIED CARD OF 'beltwaylaw09.BumpWastes'. -/
def bumpWastesCard : Claim7 := { stood := { row := bumpWastesRow, standIns := [], harness := (true, "3127a7bbc4ffdb061a7b6f3081f927355dd740ad841135f426207b3137d35892"), looks := false }, kinds := [], alts := [], laidByText := true, laidKinds := [.data], laidTests := true, laidLooks := .later }
def BumpWastesCardSaid : Prop := Claim7.holds Tryd.pinned (.plain (OpenSpec.ofChange bumpWastesSpec)) bumpWastesCard

/-- THE TIED CARD OF 'beltwaylaw09.BumpApart'. -/
def bumpApartCard : Claim7 := { stood := { row := bumpApartRow, standIns := [], harness := (true, "3127a7bbc4ffdb061a7b6f3081f927355dd740ad841135f426207b3137d35892"), looks := false }, kinds := [], alts := [], laidByText := true, laidKinds := [.data], laidTests := true, laidLooks := .later }
def BumpApartCardSaid : Prop := Claim7.holds Tryd.pinned (.plain (OpenSpec.ofChange bumpApartSpec)) bumpApartCard

/-- THE TIED CARD OF 'beltwaylaw09.BumpAllocs'. -/
def bumpAllocsCard : Claim7 := { stood := { row := bumpAllocsRow, standIns := [], harness := (true, "3127a7bbc4ffdb061a7b6f3081f927355dd740ad841135f426207b3137d35892"), looks := false }, kinds := [], alts := [], laidByText := true, laidKinds := [.data], laidTests := true, laidLooks := .later }
def BumpAllocsCardSaid : Prop := Claim7.holds Tryd.pinned (.plain (OpenSpec.ofChange bumpAllocsSpec)) bumpAllocsCard

/-- THE TIED CARD OF 'beltwaylaw09.BumpDrops'. -/
def bumpDropsCard : Claim7 := { stood := { row := bumpDropsRow, standIns := [], harness := (true, "3127a7bbc4ffdb061a7b6f3081f927355dd740ad841135f426207b3137d35892"), looks := false }, kinds := [], alts := [], laidByText := true, laidKinds := [.data], laidTests := true, laidLooks := .later }
def BumpDropsCardSaid : Prop := Claim7.holds Tryd.pinned (.plain (OpenSpec.ofChange bumpDropsSpec)) bumpDropsCard

/-- THE SECOND FORM's CARD OF 'beltwaylaw09.BumpValid'. -/
def bumpValidUptoCard : Claim7 := { stood := { row := bumpValidUptoRow, standIns := [], harness := (true, "3127a7bbc4ffdb061a7b6f3081f927355dd740ad841135f426207b3137d35892"), looks := false }, kinds := [], alts := [], laidByText := true, laidKinds := [.data], laidTests := true, laidLooks := .later }
def BumpValidUptoCardSaid : Prop := Claim7.holds Tryd.pinned (.plain (OpenSpec.upto bumpValidSpec)) bumpValidUptoCard

/-- THE SECOND FORM's CARD OF 'beltwaylaw09.BumpWastes'. -/
def bumpWastesUptoCard : Claim7 := { stood := { row := bumpWastesUptoRow, standIns := [], harness := (true, "3127a7bbc4ffdb061a7b6f3081f927355dd740ad841135f426207b3137d35892"), looks := false }, kinds := [], alts := [], laidByText := true, laidKinds := [.data], laidTests := true, laidLooks := .later }
def BumpWastesUptoCardSaid : Prop := Claim7.holds Tryd.pinned (.plain (OpenSpec.upto bumpWastesSpec)) bumpWastesUptoCard

/-- THE SECOND FORM's CARD OF 'beltwaylaw09.BumpApart'. -/
def bumpApartUptoCard : Claim7 := { stood := { row := bumpApartUptoRow, standIns := [], harness := (true, "3127a7bbc4ffdb061a7b6f3081f927355dd740ad841135f426207b3137d35892"), looks := false }, kinds := [], alts := [], laidByText := true, laidKinds := [.data], laidTests := true, laidLooks := .later }
def BumpApartUptoCardSaid : Prop := Claim7.holds Tryd.pinned (.plain (OpenSpec.upto bumpApartSpec)) bumpApartUptoCard

/-- THE SECOND FORM's CARD OF 'beltwaylaw09.BumpAllocs'. -/
def bumpAllocsUptoCard : Claim7 := { stood := { row := bumpAllocsUptoRow, standIns := [], harness := (true, "3127a7bbc4ffdb061a7b6f3081f927355dd740ad841135f426207b3137d35892"), looks := false }, kinds := [], alts := [], laidByText := true, laidKinds := [.data], laidTests := true, laidLooks := .later }
def BumpAllocsUptoCardSaid : Prop := Claim7.holds Tryd.pinned (.plain (OpenSpec.upto bumpAllocsSpec)) bumpAllocsUptoCard

/-- THE SECOND FORM's CARD OF 'beltwaylaw09.BumpDrops'. -/
def bumpDropsUptoCard : Claim7 := { stood := { row := bumpDropsUptoRow, standIns := [], harness := (true, "3127a7bbc4ffdb061a7b6f3081f927355dd740ad841135f426207b3137d35892"), looks := false }, kinds := [], alts := [], laidByText := true, laidKinds := [.data], laidTests := true, laidLooks := .later }
def BumpDropsUptoCardSaid : Prop := Claim7.holds Tryd.pinned (.plain (OpenSpec.upto bumpDropsSpec)) bumpDropsUptoCard
end Rows
end Go.Proofs.YtjbkmpipccdnhaaDoor
