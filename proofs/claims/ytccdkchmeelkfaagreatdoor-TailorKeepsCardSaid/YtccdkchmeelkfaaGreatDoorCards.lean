/-
  DERIVED. GIVEN WITH THE SEED: THE CARDS: each row of YtccdkchmeelkfaaGreatDoorRows.lean that lists a variable, with what it lists TIED to the program's text (the seventh form; the later family's looks); each row that meets fmt, with fmt's text TOLD by the authors' own Lean function (tested against real Go, not proved from fmt's source: count such statements apart). THE CARD IS WHAT COUNTS. Prove the row's statement (the work); the ties are given (YtccdkchmeelkfaaGreatDoorTie.lean); close each card by the builder's one call (the guide's Derived/Test/ToyasCard.lean, 'card_holds'). Laid BY PROGRAM, IN A SANDBOX (cutbox-door.mjs). By AI agents, Wed Nov 11 2026. No macro, syntax, notation, axiom, sorry.
-/
import Derived.Test.YtccdkchmeelkfaaGreatDoorRows
import GoSem.ClaimSeven
namespace Go.Proofs.YtccdkchmeelkfaaGreatDoor
namespace Rows

/-- THE TIED CARD OF 'umlautlaw7.TailorRows'. -/
def tailorRowsCard : Claim7 := { stood := { row := tailorRowsRow, standIns := [], harness := (true, "f8d0b69beafb577b00535830233802911d28bd0ba5430654bd4875bb9fa4bbe4"), looks := true }, kinds := [], alts := [], laidByText := true, laidKinds := [.data, .pinned], laidTests := true, laidLooks := .later }
def TailorRowsCardSaid : Prop := Claim7.holds Tryz.pinned (.plain (OpenSpec.ofChange tailorRowsSpec)) tailorRowsCard

/-- THE TIED CARD OF 'umlautlaw7.TailorFull'. -/
def tailorFullCard : Claim7 := { stood := { row := tailorFullRow, standIns := [], harness := (true, "f8d0b69beafb577b00535830233802911d28bd0ba5430654bd4875bb9fa4bbe4"), looks := true }, kinds := [], alts := [], laidByText := true, laidKinds := [.data, .pinned], laidTests := true, laidLooks := .later }
def TailorFullCardSaid : Prop := Claim7.holds Tryz.pinned (.plain (OpenSpec.ofChange tailorFullSpec)) tailorFullCard

/-- THE TIED CARD OF 'umlautlaw7.TailorApplies'. -/
def tailorAppliesCard : Claim7 := { stood := { row := tailorAppliesRow, standIns := [], harness := (true, "f8d0b69beafb577b00535830233802911d28bd0ba5430654bd4875bb9fa4bbe4"), looks := true }, kinds := [], alts := [], laidByText := true, laidKinds := [.data, .pinned], laidTests := true, laidLooks := .later }
def TailorAppliesCardSaid : Prop := Claim7.holds Tryz.pinned (.plain (OpenSpec.ofChange tailorAppliesSpec)) tailorAppliesCard

/-- THE TIED CARD OF 'umlautlaw7.TailorReads'. -/
def tailorReadsCard : Claim7 := { stood := { row := tailorReadsRow, standIns := [], harness := (true, "f8d0b69beafb577b00535830233802911d28bd0ba5430654bd4875bb9fa4bbe4"), looks := true }, kinds := [], alts := [], laidByText := true, laidKinds := [.data, .pinned], laidTests := true, laidLooks := .later }
def TailorReadsCardSaid : Prop := Claim7.holds Tryz.pinned (.plain (OpenSpec.ofChange tailorReadsSpec)) tailorReadsCard

/-- THE TIED CARD OF 'umlautlaw7.TailorKeeps'. -/
def tailorKeepsCard : Claim7 := { stood := { row := tailorKeepsRow, standIns := [], harness := (true, "f8d0b69beafb577b00535830233802911d28bd0ba5430654bd4875bb9fa4bbe4"), looks := true }, kinds := [], alts := [], laidByText := true, laidKinds := [.data, .pinned], laidTests := true, laidLooks := .later }
def TailorKeepsCardSaid : Prop := Claim7.holds Tryz.pinned (.plain (OpenSpec.ofChange tailorKeepsSpec)) tailorKeepsCard

/-- THE TIED CARD OF 'umlautlaw7.TailorPlaces'. -/
def tailorPlacesCard : Claim7 := { stood := { row := tailorPlacesRow, standIns := [], harness := (true, "f8d0b69beafb577b00535830233802911d28bd0ba5430654bd4875bb9fa4bbe4"), looks := true }, kinds := [], alts := [], laidByText := true, laidKinds := [.data, .pinned], laidTests := true, laidLooks := .later }
def TailorPlacesCardSaid : Prop := Claim7.holds Tryz.pinned (.plain (OpenSpec.ofChange tailorPlacesSpec)) tailorPlacesCard

/-- THE TIED CARD OF 'umlautlaw8.CollShifts'. -/
def collShiftsCard : Claim7 := { stood := { row := collShiftsRow, standIns := [], harness := (true, "f8d0b69beafb577b00535830233802911d28bd0ba5430654bd4875bb9fa4bbe4"), looks := true }, kinds := [], alts := [], laidByText := true, laidKinds := [.data, .pinned], laidTests := true, laidLooks := .later }
def CollShiftsCardSaid : Prop := Claim7.holds Tryz.pinned (.plain (OpenSpec.ofChange collShiftsSpec)) collShiftsCard

/-- THE TIED CARD OF 'umlautlaw8.CollBacks'. -/
def collBacksCard : Claim7 := { stood := { row := collBacksRow, standIns := [], harness := (true, "f8d0b69beafb577b00535830233802911d28bd0ba5430654bd4875bb9fa4bbe4"), looks := true }, kinds := [], alts := [], laidByText := true, laidKinds := [.data, .pinned], laidTests := true, laidLooks := .later }
def CollBacksCardSaid : Prop := Claim7.holds Tryz.pinned (.plain (OpenSpec.ofChange collBacksSpec)) collBacksCard

/-- THE TIED CARD OF 'umlautlaw8.CollCases'. -/
def collCasesCard : Claim7 := { stood := { row := collCasesRow, standIns := [], harness := (true, "f8d0b69beafb577b00535830233802911d28bd0ba5430654bd4875bb9fa4bbe4"), looks := true }, kinds := [], alts := [], laidByText := true, laidKinds := [.data, .pinned], laidTests := true, laidLooks := .later }
def CollCasesCardSaid : Prop := Claim7.holds Tryz.pinned (.plain (OpenSpec.ofChange collCasesSpec)) collCasesCard

/-- THE TIED CARD OF 'umlautlaw8.TailorSame'. -/
def tailorSameCard : Claim7 := { stood := { row := tailorSameRow, standIns := [], harness := (true, "f8d0b69beafb577b00535830233802911d28bd0ba5430654bd4875bb9fa4bbe4"), looks := true }, kinds := [], alts := [], laidByText := true, laidKinds := [.data, .pinned], laidTests := true, laidLooks := .later }
def TailorSameCardSaid : Prop := Claim7.holds Tryz.pinned (.plain (OpenSpec.ofChange tailorSameSpec)) tailorSameCard

/-- THE TIED CARD OF 'umlautlaw8.TailorPairs'. -/
def tailorPairsCard : Claim7 := { stood := { row := tailorPairsRow, standIns := [], harness := (true, "f8d0b69beafb577b00535830233802911d28bd0ba5430654bd4875bb9fa4bbe4"), looks := true }, kinds := [], alts := [], laidByText := true, laidKinds := [.data, .pinned], laidTests := true, laidLooks := .later }
def TailorPairsCardSaid : Prop := Claim7.holds Tryz.pinned (.plain (OpenSpec.ofChange tailorPairsSpec)) tailorPairsCard

/-- THE TIED CARD OF 'umlautlaw8.CollChains'. -/
def collChainsCard : Claim7 := { stood := { row := collChainsRow, standIns := [], harness := (true, "f8d0b69beafb577b00535830233802911d28bd0ba5430654bd4875bb9fa4bbe4"), looks := true }, kinds := [], alts := [], laidByText := true, laidKinds := [.data, .pinned], laidTests := true, laidLooks := .later }
def CollChainsCardSaid : Prop := Claim7.holds Tryz.pinned (.plain (OpenSpec.ofChange collChainsSpec)) collChainsCard

/-- THE TIED CARD OF 'umlautlaw8.CollLevels'. -/
def collLevelsCard : Claim7 := { stood := { row := collLevelsRow, standIns := [], harness := (true, "f8d0b69beafb577b00535830233802911d28bd0ba5430654bd4875bb9fa4bbe4"), looks := true }, kinds := [], alts := [], laidByText := true, laidKinds := [.data, .pinned], laidTests := true, laidLooks := .later }
def CollLevelsCardSaid : Prop := Claim7.holds Tryz.pinned (.plain (OpenSpec.ofChange collLevelsSpec)) collLevelsCard

/-- THE TIED CARD OF 'umlautlaw8.CollTells'. -/
def collTellsCard : Claim7 := { stood := { row := collTellsRow, standIns := [], harness := (true, "f8d0b69beafb577b00535830233802911d28bd0ba5430654bd4875bb9fa4bbe4"), looks := true }, kinds := [], alts := [], laidByText := true, laidKinds := [.data, .pinned], laidTests := true, laidLooks := .later }
def CollTellsCardSaid : Prop := Claim7.holds Tryz.pinned (.plain (OpenSpec.ofChange collTellsSpec)) collTellsCard

/-- THE TIED CARD OF 'umlautlaw8.CollSorts'. -/
def collSortsCard : Claim7 := { stood := { row := collSortsRow, standIns := [], harness := (true, "f8d0b69beafb577b00535830233802911d28bd0ba5430654bd4875bb9fa4bbe4"), looks := true }, kinds := [], alts := [], laidByText := true, laidKinds := [.data, .pinned], laidTests := true, laidLooks := .later }
def CollSortsCardSaid : Prop := Claim7.holds Tryz.pinned (.plain (OpenSpec.ofChange collSortsSpec)) collSortsCard

/-- THE SECOND FORM's CARD OF 'umlautlaw7.TailorRows'. -/
def tailorRowsUptoCard : Claim7 := { stood := { row := tailorRowsUptoRow, standIns := [], harness := (true, "f8d0b69beafb577b00535830233802911d28bd0ba5430654bd4875bb9fa4bbe4"), looks := true }, kinds := [], alts := [], laidByText := true, laidKinds := [.data, .pinned], laidTests := true, laidLooks := .later }
def TailorRowsUptoCardSaid : Prop := Claim7.holds Tryz.pinned (.plain (OpenSpec.upto tailorRowsSpec)) tailorRowsUptoCard

/-- THE SECOND FORM's CARD OF 'umlautlaw7.TailorFull'. -/
def tailorFullUptoCard : Claim7 := { stood := { row := tailorFullUptoRow, standIns := [], harness := (true, "f8d0b69beafb577b00535830233802911d28bd0ba5430654bd4875bb9fa4bbe4"), looks := true }, kinds := [], alts := [], laidByText := true, laidKinds := [.data, .pinned], laidTests := true, laidLooks := .later }
def TailorFullUptoCardSaid : Prop := Claim7.holds Tryz.pinned (.plain (OpenSpec.upto tailorFullSpec)) tailorFullUptoCard

/-- THE SECOND FORM's CARD OF 'umlautlaw7.TailorApplies'. -/
def tailorAppliesUptoCard : Claim7 := { stood := { row := tailorAppliesUptoRow, standIns := [], harness := (true, "f8d0b69beafb577b00535830233802911d28bd0ba5430654bd4875bb9fa4bbe4"), looks := true }, kinds := [], alts := [], laidByText := true, laidKinds := [.data, .pinned], laidTests := true, laidLooks := .later }
def TailorAppliesUptoCardSaid : Prop := Claim7.holds Tryz.pinned (.plain (OpenSpec.upto tailorAppliesSpec)) tailorAppliesUptoCard

/-- THE SECOND FORM's CARD OF 'umlautlaw7.TailorReads'. -/
def tailorReadsUptoCard : Claim7 := { stood := { row := tailorReadsUptoRow, standIns := [], harness := (true, "f8d0b69beafb577b00535830233802911d28bd0ba5430654bd4875bb9fa4bbe4"), looks := true }, kinds := [], alts := [], laidByText := true, laidKinds := [.data, .pinned], laidTests := true, laidLooks := .later }
def TailorReadsUptoCardSaid : Prop := Claim7.holds Tryz.pinned (.plain (OpenSpec.upto tailorReadsSpec)) tailorReadsUptoCard

/-- THE SECOND FORM's CARD OF 'umlautlaw7.TailorKeeps'. -/
def tailorKeepsUptoCard : Claim7 := { stood := { row := tailorKeepsUptoRow, standIns := [], harness := (true, "f8d0b69beafb577b00535830233802911d28bd0ba5430654bd4875bb9fa4bbe4"), looks := true }, kinds := [], alts := [], laidByText := true, laidKinds := [.data, .pinned], laidTests := true, laidLooks := .later }
def TailorKeepsUptoCardSaid : Prop := Claim7.holds Tryz.pinned (.plain (OpenSpec.upto tailorKeepsSpec)) tailorKeepsUptoCard

/-- THE SECOND FORM's CARD OF 'umlautlaw7.TailorPlaces'. -/
def tailorPlacesUptoCard : Claim7 := { stood := { row := tailorPlacesUptoRow, standIns := [], harness := (true, "f8d0b69beafb577b00535830233802911d28bd0ba5430654bd4875bb9fa4bbe4"), looks := true }, kinds := [], alts := [], laidByText := true, laidKinds := [.data, .pinned], laidTests := true, laidLooks := .later }
def TailorPlacesUptoCardSaid : Prop := Claim7.holds Tryz.pinned (.plain (OpenSpec.upto tailorPlacesSpec)) tailorPlacesUptoCard

/-- THE SECOND FORM's CARD OF 'umlautlaw8.CollShifts'. -/
def collShiftsUptoCard : Claim7 := { stood := { row := collShiftsUptoRow, standIns := [], harness := (true, "f8d0b69beafb577b00535830233802911d28bd0ba5430654bd4875bb9fa4bbe4"), looks := true }, kinds := [], alts := [], laidByText := true, laidKinds := [.data, .pinned], laidTests := true, laidLooks := .later }
def CollShiftsUptoCardSaid : Prop := Claim7.holds Tryz.pinned (.plain (OpenSpec.upto collShiftsSpec)) collShiftsUptoCard

/-- THE SECOND FORM's CARD OF 'umlautlaw8.CollBacks'. -/
def collBacksUptoCard : Claim7 := { stood := { row := collBacksUptoRow, standIns := [], harness := (true, "f8d0b69beafb577b00535830233802911d28bd0ba5430654bd4875bb9fa4bbe4"), looks := true }, kinds := [], alts := [], laidByText := true, laidKinds := [.data, .pinned], laidTests := true, laidLooks := .later }
def CollBacksUptoCardSaid : Prop := Claim7.holds Tryz.pinned (.plain (OpenSpec.upto collBacksSpec)) collBacksUptoCard

/-- THE SECOND FORM's CARD OF 'umlautlaw8.CollCases'. -/
def collCasesUptoCard : Claim7 := { stood := { row := collCasesUptoRow, standIns := [], harness := (true, "f8d0b69beafb577b00535830233802911d28bd0ba5430654bd4875bb9fa4bbe4"), looks := true }, kinds := [], alts := [], laidByText := true, laidKinds := [.data, .pinned], laidTests := true, laidLooks := .later }
def CollCasesUptoCardSaid : Prop := Claim7.holds Tryz.pinned (.plain (OpenSpec.upto collCasesSpec)) collCasesUptoCard

/-- THE SECOND FORM's CARD OF 'umlautlaw8.TailorSame'. -/
def tailorSameUptoCard : Claim7 := { stood := { row := tailorSameUptoRow, standIns := [], harness := (true, "f8d0b69beafb577b00535830233802911d28bd0ba5430654bd4875bb9fa4bbe4"), looks := true }, kinds := [], alts := [], laidByText := true, laidKinds := [.data, .pinned], laidTests := true, laidLooks := .later }
def TailorSameUptoCardSaid : Prop := Claim7.holds Tryz.pinned (.plain (OpenSpec.upto tailorSameSpec)) tailorSameUptoCard

/-- THE SECOND FORM's CARD OF 'umlautlaw8.TailorPairs'. -/
def tailorPairsUptoCard : Claim7 := { stood := { row := tailorPairsUptoRow, standIns := [], harness := (true, "f8d0b69beafb577b00535830233802911d28bd0ba5430654bd4875bb9fa4bbe4"), looks := true }, kinds := [], alts := [], laidByText := true, laidKinds := [.data, .pinned], laidTests := true, laidLooks := .later }
def TailorPairsUptoCardSaid : Prop := Claim7.holds Tryz.pinned (.plain (OpenSpec.upto tailorPairsSpec)) tailorPairsUptoCard

/-- THE SECOND FORM's CARD OF 'umlautlaw8.CollChains'. -/
def collChainsUptoCard : Claim7 := { stood := { row := collChainsUptoRow, standIns := [], harness := (true, "f8d0b69beafb577b00535830233802911d28bd0ba5430654bd4875bb9fa4bbe4"), looks := true }, kinds := [], alts := [], laidByText := true, laidKinds := [.data, .pinned], laidTests := true, laidLooks := .later }
def CollChainsUptoCardSaid : Prop := Claim7.holds Tryz.pinned (.plain (OpenSpec.upto collChainsSpec)) collChainsUptoCard

/-- THE SECOND FORM's CARD OF 'umlautlaw8.CollLevels'. -/
def collLevelsUptoCard : Claim7 := { stood := { row := collLevelsUptoRow, standIns := [], harness := (true, "f8d0b69beafb577b00535830233802911d28bd0ba5430654bd4875bb9fa4bbe4"), looks := true }, kinds := [], alts := [], laidByText := true, laidKinds := [.data, .pinned], laidTests := true, laidLooks := .later }
def CollLevelsUptoCardSaid : Prop := Claim7.holds Tryz.pinned (.plain (OpenSpec.upto collLevelsSpec)) collLevelsUptoCard

/-- THE SECOND FORM's CARD OF 'umlautlaw8.CollTells'. -/
def collTellsUptoCard : Claim7 := { stood := { row := collTellsUptoRow, standIns := [], harness := (true, "f8d0b69beafb577b00535830233802911d28bd0ba5430654bd4875bb9fa4bbe4"), looks := true }, kinds := [], alts := [], laidByText := true, laidKinds := [.data, .pinned], laidTests := true, laidLooks := .later }
def CollTellsUptoCardSaid : Prop := Claim7.holds Tryz.pinned (.plain (OpenSpec.upto collTellsSpec)) collTellsUptoCard

/-- THE SECOND FORM's CARD OF 'umlautlaw8.CollSorts'. -/
def collSortsUptoCard : Claim7 := { stood := { row := collSortsUptoRow, standIns := [], harness := (true, "f8d0b69beafb577b00535830233802911d28bd0ba5430654bd4875bb9fa4bbe4"), looks := true }, kinds := [], alts := [], laidByText := true, laidKinds := [.data, .pinned], laidTests := true, laidLooks := .later }
def CollSortsUptoCardSaid : Prop := Claim7.holds Tryz.pinned (.plain (OpenSpec.upto collSortsSpec)) collSortsUptoCard
end Rows
end Go.Proofs.YtccdkchmeelkfaaGreatDoor
