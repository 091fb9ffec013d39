/-
  DERIVED. GIVEN WITH THE SEED: THE CARDS: each row of YtemenmmekddjaaaGreatDoorRows.lean that lists a variable, with what it lists TIED to the program's text (the seventh form; the later family's looks); each row that meets fmt, with fmt's text TOLD by the authors' own Lean function (tested against real Go, not proved from fmt's source: count such statements apart). THE CARD IS WHAT COUNTS. Prove the row's statement (the work); the ties are given (YtemenmmekddjaaaGreatDoorTie.lean); close each card by the builder's one call (the guide's Derived/Test/ToyasCard.lean, 'card_holds'). Laid BY PROGRAM, IN A SANDBOX (cutbox-door.mjs). By AI agents, Wed Nov 11 2026. No macro, syntax, notation, axiom, sorry.
-/
import Derived.Test.YtemenmmekddjaaaGreatDoorRows
import GoSem.ClaimSeven
namespace Go.Proofs.YtemenmmekddjaaaGreatDoor
namespace Rows

/-- THE TIED CARD OF 'portagelaw12.BtreeFull'. -/
def btreeFullCard : Claim7 := { stood := { row := btreeFullRow, standIns := [], harness := (true, "fc0c6347afded89662114140e489a892e6c8e5afc7c4d04c7fce319f8d2804c0"), looks := true }, kinds := [], alts := [], laidByText := true, laidKinds := [.data], laidTests := true, laidLooks := .later }
def BtreeFullCardSaid : Prop := Claim7.holds Tryz.pinned (.plain (OpenSpec.ofChange btreeFullSpec)) btreeFullCard

/-- THE TIED CARD OF 'portagelaw13.CatalogEmpties'. -/
def catalogEmptiesCard : Claim7 := { stood := { row := catalogEmptiesRow, standIns := [], harness := (true, "fc0c6347afded89662114140e489a892e6c8e5afc7c4d04c7fce319f8d2804c0"), looks := true }, kinds := [], alts := [], laidByText := true, laidKinds := [.data], laidTests := true, laidLooks := .later }
def CatalogEmptiesCardSaid : Prop := Claim7.holds Tryz.pinned (.plain (OpenSpec.ofChange catalogEmptiesSpec)) catalogEmptiesCard

/-- THE TIED CARD OF 'portagelaw12.BtreeSwaps'. -/
def btreeSwapsCard : Claim7 := { stood := { row := btreeSwapsRow, standIns := [], harness := (true, "fc0c6347afded89662114140e489a892e6c8e5afc7c4d04c7fce319f8d2804c0"), looks := true }, kinds := [], alts := [], laidByText := true, laidKinds := [.data], laidTests := true, laidLooks := .later }
def BtreeSwapsCardSaid : Prop := Claim7.holds Tryz.pinned (.plain (OpenSpec.ofChange btreeSwapsSpec)) btreeSwapsCard

/-- THE TIED CARD OF 'portagelaw13.CatalogSaves'. -/
def catalogSavesCard : Claim7 := { stood := { row := catalogSavesRow, standIns := [], harness := (true, "fc0c6347afded89662114140e489a892e6c8e5afc7c4d04c7fce319f8d2804c0"), looks := true }, kinds := [], alts := [], laidByText := true, laidKinds := [.data], laidTests := true, laidLooks := .later }
def CatalogSavesCardSaid : Prop := Claim7.holds Tryz.pinned (.plain (OpenSpec.ofChange catalogSavesSpec)) catalogSavesCard

/-- THE TIED CARD OF 'portagelaw13.CatalogLoads'. -/
def catalogLoadsCard : Claim7 := { stood := { row := catalogLoadsRow, standIns := [], harness := (true, "fc0c6347afded89662114140e489a892e6c8e5afc7c4d04c7fce319f8d2804c0"), looks := true }, kinds := [], alts := [], laidByText := true, laidKinds := [.data], laidTests := true, laidLooks := .later }
def CatalogLoadsCardSaid : Prop := Claim7.holds Tryz.pinned (.plain (OpenSpec.ofChange catalogLoadsSpec)) catalogLoadsCard

/-- THE TIED CARD OF 'portagelaw13.CatalogLeaves'. -/
def catalogLeavesCard : Claim7 := { stood := { row := catalogLeavesRow, standIns := [], harness := (true, "fc0c6347afded89662114140e489a892e6c8e5afc7c4d04c7fce319f8d2804c0"), looks := true }, kinds := [], alts := [], laidByText := true, laidKinds := [.data], laidTests := true, laidLooks := .later }
def CatalogLeavesCardSaid : Prop := Claim7.holds Tryz.pinned (.plain (OpenSpec.ofChange catalogLeavesSpec)) catalogLeavesCard

/-- THE TIED CARD OF 'portagelaw13.CatalogPlays'. -/
def catalogPlaysCard : Claim7 := { stood := { row := catalogPlaysRow, standIns := [], harness := (true, "fc0c6347afded89662114140e489a892e6c8e5afc7c4d04c7fce319f8d2804c0"), looks := true }, kinds := [], alts := [], laidByText := true, laidKinds := [.data], laidTests := true, laidLooks := .later }
def CatalogPlaysCardSaid : Prop := Claim7.holds Tryz.pinned (.plain (OpenSpec.ofChange catalogPlaysSpec)) catalogPlaysCard

/-- THE SECOND FORM's CARD OF 'portagelaw12.BtreeFull'. -/
def btreeFullUptoCard : Claim7 := { stood := { row := btreeFullUptoRow, standIns := [], harness := (true, "fc0c6347afded89662114140e489a892e6c8e5afc7c4d04c7fce319f8d2804c0"), looks := true }, kinds := [], alts := [], laidByText := true, laidKinds := [.data], laidTests := true, laidLooks := .later }
def BtreeFullUptoCardSaid : Prop := Claim7.holds Tryz.pinned (.plain (OpenSpec.upto btreeFullSpec)) btreeFullUptoCard

/-- THE SECOND FORM's CARD OF 'portagelaw13.CatalogEmpties'. -/
def catalogEmptiesUptoCard : Claim7 := { stood := { row := catalogEmptiesUptoRow, standIns := [], harness := (true, "fc0c6347afded89662114140e489a892e6c8e5afc7c4d04c7fce319f8d2804c0"), looks := true }, kinds := [], alts := [], laidByText := true, laidKinds := [.data], laidTests := true, laidLooks := .later }
def CatalogEmptiesUptoCardSaid : Prop := Claim7.holds Tryz.pinned (.plain (OpenSpec.upto catalogEmptiesSpec)) catalogEmptiesUptoCard

/-- THE SECOND FORM's CARD OF 'portagelaw12.BtreeSwaps'. -/
def btreeSwapsUptoCard : Claim7 := { stood := { row := btreeSwapsUptoRow, standIns := [], harness := (true, "fc0c6347afded89662114140e489a892e6c8e5afc7c4d04c7fce319f8d2804c0"), looks := true }, kinds := [], alts := [], laidByText := true, laidKinds := [.data], laidTests := true, laidLooks := .later }
def BtreeSwapsUptoCardSaid : Prop := Claim7.holds Tryz.pinned (.plain (OpenSpec.upto btreeSwapsSpec)) btreeSwapsUptoCard

/-- THE SECOND FORM's CARD OF 'portagelaw13.CatalogSaves'. -/
def catalogSavesUptoCard : Claim7 := { stood := { row := catalogSavesUptoRow, standIns := [], harness := (true, "fc0c6347afded89662114140e489a892e6c8e5afc7c4d04c7fce319f8d2804c0"), looks := true }, kinds := [], alts := [], laidByText := true, laidKinds := [.data], laidTests := true, laidLooks := .later }
def CatalogSavesUptoCardSaid : Prop := Claim7.holds Tryz.pinned (.plain (OpenSpec.upto catalogSavesSpec)) catalogSavesUptoCard

/-- THE SECOND FORM's CARD OF 'portagelaw13.CatalogLoads'. -/
def catalogLoadsUptoCard : Claim7 := { stood := { row := catalogLoadsUptoRow, standIns := [], harness := (true, "fc0c6347afded89662114140e489a892e6c8e5afc7c4d04c7fce319f8d2804c0"), looks := true }, kinds := [], alts := [], laidByText := true, laidKinds := [.data], laidTests := true, laidLooks := .later }
def CatalogLoadsUptoCardSaid : Prop := Claim7.holds Tryz.pinned (.plain (OpenSpec.upto catalogLoadsSpec)) catalogLoadsUptoCard

/-- THE SECOND FORM's CARD OF 'portagelaw13.CatalogLeaves'. -/
def catalogLeavesUptoCard : Claim7 := { stood := { row := catalogLeavesUptoRow, standIns := [], harness := (true, "fc0c6347afded89662114140e489a892e6c8e5afc7c4d04c7fce319f8d2804c0"), looks := true }, kinds := [], alts := [], laidByText := true, laidKinds := [.data], laidTests := true, laidLooks := .later }
def CatalogLeavesUptoCardSaid : Prop := Claim7.holds Tryz.pinned (.plain (OpenSpec.upto catalogLeavesSpec)) catalogLeavesUptoCard

/-- THE SECOND FORM's CARD OF 'portagelaw13.CatalogPlays'. -/
def catalogPlaysUptoCard : Claim7 := { stood := { row := catalogPlaysUptoRow, standIns := [], harness := (true, "fc0c6347afded89662114140e489a892e6c8e5afc7c4d04c7fce319f8d2804c0"), looks := true }, kinds := [], alts := [], laidByText := true, laidKinds := [.data], laidTests := true, laidLooks := .later }
def CatalogPlaysUptoCardSaid : Prop := Claim7.holds Tryz.pinned (.plain (OpenSpec.upto catalogPlaysSpec)) catalogPlaysUptoCard
end Rows
end Go.Proofs.YtemenmmekddjaaaGreatDoor
