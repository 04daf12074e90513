/-
  DERIVED. GIVEN WITH THE SEED: THE CARDS: each row of YtbidfbojealmlaaGreatDoorRows.lean that lists a variable, with what it lists TIED to the program's text (the seventh form; the later family's looks); each row that meets fmt, with fmt's text TOLD by the authors' own Lean function (tested against real Go, not proved from fmt's source: count such statements apart). THE CARD IS WHAT COUNTS. Prove the row's statement (the work); the ties are given (YtbidfbojealmlaaGreatDoorTie.lean); close each card by the builder's one call (the guide's Derived/Test/ToyasCard.lean, 'card_holds'). Laid BY PROGRAM, IN A SANDBOX (cutbox-door.mjs). By AI agents, Wed Nov 11 2026. No macro, syntax, notation, axiom, sorry.
-/
import Derived.Test.YtbidfbojealmlaaGreatDoorRows
import GoSem.ClaimSeven
namespace Go.Proofs.YtbidfbojealmlaaGreatDoor
namespace Rows

/-- THE TIED CARD OF 'wittinglaw07.PrinterPrints'. -/
def printerPrintsCard : Claim7 := { stood := { row := printerPrintsRow, standIns := [], harness := (true, "f2bdacaa5ef42d1b2fbfc37cc23f912ae709c763e6bb6f02071d56c5be2d383c"), looks := false }, kinds := [], alts := [], laidByText := true, laidKinds := [.data, .data, .data, .data, .widerDeep, .data, .pinned], laidTests := true, laidLooks := .later }
def PrinterPrintsCardSaid : Prop := Claim7.holds Tryz.pinned (.plain (OpenSpec.ofChange printerPrintsSpec)) printerPrintsCard

/-- THE TIED CARD OF 'wittinglaw07.PrinterBack'. -/
def printerBackCard : Claim7 := { stood := { row := printerBackRow, standIns := [], harness := (true, "f2bdacaa5ef42d1b2fbfc37cc23f912ae709c763e6bb6f02071d56c5be2d383c"), looks := false }, kinds := [], alts := [], laidByText := true, laidKinds := [.data, .data, .data, .data, .widerDeep, .data, .pinned], laidTests := true, laidLooks := .later }
def PrinterBackCardSaid : Prop := Claim7.holds Tryz.pinned (.plain (OpenSpec.ofChange printerBackSpec)) printerBackCard

/-- THE TIED CARD OF 'wittinglaw07.PrinterNames'. -/
def printerNamesCard : Claim7 := { stood := { row := printerNamesRow, standIns := [], harness := (true, "f2bdacaa5ef42d1b2fbfc37cc23f912ae709c763e6bb6f02071d56c5be2d383c"), looks := false }, kinds := [], alts := [], laidByText := true, laidKinds := [.data, .data, .data, .data, .widerDeep, .data, .pinned], laidTests := true, laidLooks := .later }
def PrinterNamesCardSaid : Prop := Claim7.holds Tryz.pinned (.plain (OpenSpec.ofChange printerNamesSpec)) printerNamesCard

/-- THE TIED CARD OF 'wittinglaw07.PrinterLimits'. -/
def printerLimitsCard : Claim7 := { stood := { row := printerLimitsRow, standIns := [], harness := (true, "f2bdacaa5ef42d1b2fbfc37cc23f912ae709c763e6bb6f02071d56c5be2d383c"), looks := false }, kinds := [], alts := [], laidByText := true, laidKinds := [.data, .data, .data, .data, .widerDeep, .data, .pinned], laidTests := true, laidLooks := .later }
def PrinterLimitsCardSaid : Prop := Claim7.holds Tryz.pinned (.plain (OpenSpec.ofChange printerLimitsSpec)) printerLimitsCard

/-- THE TIED CARD OF 'wittinglaw07.PrinterMinimal'. -/
def printerMinimalCard : Claim7 := { stood := { row := printerMinimalRow, standIns := [], harness := (true, "f2bdacaa5ef42d1b2fbfc37cc23f912ae709c763e6bb6f02071d56c5be2d383c"), looks := false }, kinds := [], alts := [], laidByText := true, laidKinds := [.data, .data, .data, .data, .widerDeep, .data, .pinned], laidTests := true, laidLooks := .later }
def PrinterMinimalCardSaid : Prop := Claim7.holds Tryz.pinned (.plain (OpenSpec.ofChange printerMinimalSpec)) printerMinimalCard

/-- THE TIED CARD OF 'wittinglaw07.PrinterTexts'. -/
def printerTextsCard : Claim7 := { stood := { row := printerTextsRow, standIns := [], harness := (true, "f2bdacaa5ef42d1b2fbfc37cc23f912ae709c763e6bb6f02071d56c5be2d383c"), looks := false }, kinds := [], alts := [], laidByText := true, laidKinds := [.data, .data, .data, .data, .widerDeep, .data, .pinned], laidTests := true, laidLooks := .later }
def PrinterTextsCardSaid : Prop := Claim7.holds Tryz.pinned (.plain (OpenSpec.ofChange printerTextsSpec)) printerTextsCard

/-- THE TIED CARD OF 'wittinglaw07.PrinterApart'. -/
def printerApartCard : Claim7 := { stood := { row := printerApartRow, standIns := [], harness := (true, "f2bdacaa5ef42d1b2fbfc37cc23f912ae709c763e6bb6f02071d56c5be2d383c"), looks := false }, kinds := [], alts := [], laidByText := true, laidKinds := [.data, .data, .data, .data, .widerDeep, .data, .pinned], laidTests := true, laidLooks := .later }
def PrinterApartCardSaid : Prop := Claim7.holds Tryz.pinned (.plain (OpenSpec.ofChange printerApartSpec)) printerApartCard

/-- THE SECOND FORM's CARD OF 'wittinglaw07.PrinterPrints'. -/
def printerPrintsUptoCard : Claim7 := { stood := { row := printerPrintsUptoRow, standIns := [], harness := (true, "f2bdacaa5ef42d1b2fbfc37cc23f912ae709c763e6bb6f02071d56c5be2d383c"), looks := false }, kinds := [], alts := [], laidByText := true, laidKinds := [.data, .data, .data, .data, .widerDeep, .data, .pinned], laidTests := true, laidLooks := .later }
def PrinterPrintsUptoCardSaid : Prop := Claim7.holds Tryz.pinned (.plain (OpenSpec.upto printerPrintsSpec)) printerPrintsUptoCard

/-- THE SECOND FORM's CARD OF 'wittinglaw07.PrinterBack'. -/
def printerBackUptoCard : Claim7 := { stood := { row := printerBackUptoRow, standIns := [], harness := (true, "f2bdacaa5ef42d1b2fbfc37cc23f912ae709c763e6bb6f02071d56c5be2d383c"), looks := false }, kinds := [], alts := [], laidByText := true, laidKinds := [.data, .data, .data, .data, .widerDeep, .data, .pinned], laidTests := true, laidLooks := .later }
def PrinterBackUptoCardSaid : Prop := Claim7.holds Tryz.pinned (.plain (OpenSpec.upto printerBackSpec)) printerBackUptoCard

/-- THE SECOND FORM's CARD OF 'wittinglaw07.PrinterNames'. -/
def printerNamesUptoCard : Claim7 := { stood := { row := printerNamesUptoRow, standIns := [], harness := (true, "f2bdacaa5ef42d1b2fbfc37cc23f912ae709c763e6bb6f02071d56c5be2d383c"), looks := false }, kinds := [], alts := [], laidByText := true, laidKinds := [.data, .data, .data, .data, .widerDeep, .data, .pinned], laidTests := true, laidLooks := .later }
def PrinterNamesUptoCardSaid : Prop := Claim7.holds Tryz.pinned (.plain (OpenSpec.upto printerNamesSpec)) printerNamesUptoCard

/-- THE SECOND FORM's CARD OF 'wittinglaw07.PrinterLimits'. -/
def printerLimitsUptoCard : Claim7 := { stood := { row := printerLimitsUptoRow, standIns := [], harness := (true, "f2bdacaa5ef42d1b2fbfc37cc23f912ae709c763e6bb6f02071d56c5be2d383c"), looks := false }, kinds := [], alts := [], laidByText := true, laidKinds := [.data, .data, .data, .data, .widerDeep, .data, .pinned], laidTests := true, laidLooks := .later }
def PrinterLimitsUptoCardSaid : Prop := Claim7.holds Tryz.pinned (.plain (OpenSpec.upto printerLimitsSpec)) printerLimitsUptoCard

/-- THE SECOND FORM's CARD OF 'wittinglaw07.PrinterMinimal'. -/
def printerMinimalUptoCard : Claim7 := { stood := { row := printerMinimalUptoRow, standIns := [], harness := (true, "f2bdacaa5ef42d1b2fbfc37cc23f912ae709c763e6bb6f02071d56c5be2d383c"), looks := false }, kinds := [], alts := [], laidByText := true, laidKinds := [.data, .data, .data, .data, .widerDeep, .data, .pinned], laidTests := true, laidLooks := .later }
def PrinterMinimalUptoCardSaid : Prop := Claim7.holds Tryz.pinned (.plain (OpenSpec.upto printerMinimalSpec)) printerMinimalUptoCard

/-- THE SECOND FORM's CARD OF 'wittinglaw07.PrinterTexts'. -/
def printerTextsUptoCard : Claim7 := { stood := { row := printerTextsUptoRow, standIns := [], harness := (true, "f2bdacaa5ef42d1b2fbfc37cc23f912ae709c763e6bb6f02071d56c5be2d383c"), looks := false }, kinds := [], alts := [], laidByText := true, laidKinds := [.data, .data, .data, .data, .widerDeep, .data, .pinned], laidTests := true, laidLooks := .later }
def PrinterTextsUptoCardSaid : Prop := Claim7.holds Tryz.pinned (.plain (OpenSpec.upto printerTextsSpec)) printerTextsUptoCard

/-- THE SECOND FORM's CARD OF 'wittinglaw07.PrinterApart'. -/
def printerApartUptoCard : Claim7 := { stood := { row := printerApartUptoRow, standIns := [], harness := (true, "f2bdacaa5ef42d1b2fbfc37cc23f912ae709c763e6bb6f02071d56c5be2d383c"), looks := false }, kinds := [], alts := [], laidByText := true, laidKinds := [.data, .data, .data, .data, .widerDeep, .data, .pinned], laidTests := true, laidLooks := .later }
def PrinterApartUptoCardSaid : Prop := Claim7.holds Tryz.pinned (.plain (OpenSpec.upto printerApartSpec)) printerApartUptoCard
end Rows
end Go.Proofs.YtbidfbojealmlaaGreatDoor
