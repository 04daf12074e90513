/-
  DERIVED. GIVEN WITH THE SEED: THE CARDS: each row of YtmnhgeggojgflaaGreatDoorRows.lean that lists a variable, with what it lists TIED to the program's text (the seventh form; the later family's looks); each row that meets fmt, with fmt's text TOLD by the authors' own Lean function (tested against real Go, not proved from fmt's source: count such statements apart). THE CARD IS WHAT COUNTS. Prove the row's statement (the work); the ties are given (YtmnhgeggojgflaaGreatDoorTie.lean); close each card by the builder's one call (the guide's Derived/Test/ToyasCard.lean, 'card_holds'). Laid BY PROGRAM, IN A SANDBOX (cutbox-door.mjs). By AI agents, Wed Nov 11 2026. No macro, syntax, notation, axiom, sorry.
-/
import Derived.Test.YtmnhgeggojgflaaGreatDoorRows
import GoSem.ClaimSeven
namespace Go.Proofs.YtmnhgeggojgflaaGreatDoor
namespace Rows

/-- THE TIED CARD OF 'wittinglaw14.ModeltextFormats'. -/
def modeltextFormatsCard : Claim7 := { stood := { row := modeltextFormatsRow, standIns := [], harness := (true, "27975c3404cbdfafdb77f1a30f2f5cd9fa02d315fdabc823d4af03b75eae726a"), looks := true }, kinds := [], alts := [], laidByText := true, laidKinds := [.data, .data, .data, .data, .sentinel, .sentinel, .widerDeep, .pinned], laidTests := true, laidLooks := .later }
def ModeltextFormatsCardSaid : Prop := Claim7.holds Tryz.pinned (.plain (OpenSpec.ofChange modeltextFormatsSpec)) modeltextFormatsCard

/-- THE TIED CARD OF 'wittinglaw14.ModeltextParses'. -/
def modeltextParsesCard : Claim7 := { stood := { row := modeltextParsesRow, standIns := [], harness := (true, "27975c3404cbdfafdb77f1a30f2f5cd9fa02d315fdabc823d4af03b75eae726a"), looks := true }, kinds := [], alts := [], laidByText := true, laidKinds := [.data, .data, .data, .data, .sentinel, .sentinel, .widerDeep, .pinned], laidTests := true, laidLooks := .later }
def ModeltextParsesCardSaid : Prop := Claim7.holds Tryz.pinned (.plain (OpenSpec.ofChange modeltextParsesSpec)) modeltextParsesCard

/-- THE TIED CARD OF 'wittinglaw14.ModeltextValid'. -/
def modeltextValidCard : Claim7 := { stood := { row := modeltextValidRow, standIns := [], harness := (true, "27975c3404cbdfafdb77f1a30f2f5cd9fa02d315fdabc823d4af03b75eae726a"), looks := true }, kinds := [], alts := [], laidByText := true, laidKinds := [.data, .data, .data, .data, .sentinel, .sentinel, .widerDeep, .pinned], laidTests := true, laidLooks := .later }
def ModeltextValidCardSaid : Prop := Claim7.holds Tryz.pinned (.plain (OpenSpec.ofChange modeltextValidSpec)) modeltextValidCard

/-- THE TIED CARD OF 'wittinglaw14.ModeltextCells'. -/
def modeltextCellsCard : Claim7 := { stood := { row := modeltextCellsRow, standIns := [], harness := (true, "27975c3404cbdfafdb77f1a30f2f5cd9fa02d315fdabc823d4af03b75eae726a"), looks := true }, kinds := [], alts := [], laidByText := true, laidKinds := [.data, .data, .data, .data, .sentinel, .sentinel, .widerDeep, .pinned], laidTests := true, laidLooks := .later }
def ModeltextCellsCardSaid : Prop := Claim7.holds Tryz.pinned (.plain (OpenSpec.ofChange modeltextCellsSpec)) modeltextCellsCard

/-- THE TIED CARD OF 'wittinglaw14.ModeltextRestores'. -/
def modeltextRestoresCard : Claim7 := { stood := { row := modeltextRestoresRow, standIns := [], harness := (true, "27975c3404cbdfafdb77f1a30f2f5cd9fa02d315fdabc823d4af03b75eae726a"), looks := true }, kinds := [], alts := [], laidByText := true, laidKinds := [.data, .data, .data, .data, .sentinel, .sentinel, .widerDeep, .pinned], laidTests := true, laidLooks := .later }
def ModeltextRestoresCardSaid : Prop := Claim7.holds Tryz.pinned (.plain (OpenSpec.ofChange modeltextRestoresSpec)) modeltextRestoresCard

/-- THE SECOND FORM's CARD OF 'wittinglaw14.ModeltextFormats'. -/
def modeltextFormatsUptoCard : Claim7 := { stood := { row := modeltextFormatsUptoRow, standIns := [], harness := (true, "27975c3404cbdfafdb77f1a30f2f5cd9fa02d315fdabc823d4af03b75eae726a"), looks := true }, kinds := [], alts := [], laidByText := true, laidKinds := [.data, .data, .data, .data, .sentinel, .sentinel, .widerDeep, .pinned], laidTests := true, laidLooks := .later }
def ModeltextFormatsUptoCardSaid : Prop := Claim7.holds Tryz.pinned (.plain (OpenSpec.upto modeltextFormatsSpec)) modeltextFormatsUptoCard

/-- THE SECOND FORM's CARD OF 'wittinglaw14.ModeltextParses'. -/
def modeltextParsesUptoCard : Claim7 := { stood := { row := modeltextParsesUptoRow, standIns := [], harness := (true, "27975c3404cbdfafdb77f1a30f2f5cd9fa02d315fdabc823d4af03b75eae726a"), looks := true }, kinds := [], alts := [], laidByText := true, laidKinds := [.data, .data, .data, .data, .sentinel, .sentinel, .widerDeep, .pinned], laidTests := true, laidLooks := .later }
def ModeltextParsesUptoCardSaid : Prop := Claim7.holds Tryz.pinned (.plain (OpenSpec.upto modeltextParsesSpec)) modeltextParsesUptoCard

/-- THE SECOND FORM's CARD OF 'wittinglaw14.ModeltextValid'. -/
def modeltextValidUptoCard : Claim7 := { stood := { row := modeltextValidUptoRow, standIns := [], harness := (true, "27975c3404cbdfafdb77f1a30f2f5cd9fa02d315fdabc823d4af03b75eae726a"), looks := true }, kinds := [], alts := [], laidByText := true, laidKinds := [.data, .data, .data, .data, .sentinel, .sentinel, .widerDeep, .pinned], laidTests := true, laidLooks := .later }
def ModeltextValidUptoCardSaid : Prop := Claim7.holds Tryz.pinned (.plain (OpenSpec.upto modeltextValidSpec)) modeltextValidUptoCard

/-- THE SECOND FORM's CARD OF 'wittinglaw14.ModeltextCells'. -/
def modeltextCellsUptoCard : Claim7 := { stood := { row := modeltextCellsUptoRow, standIns := [], harness := (true, "27975c3404cbdfafdb77f1a30f2f5cd9fa02d315fdabc823d4af03b75eae726a"), looks := true }, kinds := [], alts := [], laidByText := true, laidKinds := [.data, .data, .data, .data, .sentinel, .sentinel, .widerDeep, .pinned], laidTests := true, laidLooks := .later }
def ModeltextCellsUptoCardSaid : Prop := Claim7.holds Tryz.pinned (.plain (OpenSpec.upto modeltextCellsSpec)) modeltextCellsUptoCard

/-- THE SECOND FORM's CARD OF 'wittinglaw14.ModeltextRestores'. -/
def modeltextRestoresUptoCard : Claim7 := { stood := { row := modeltextRestoresUptoRow, standIns := [], harness := (true, "27975c3404cbdfafdb77f1a30f2f5cd9fa02d315fdabc823d4af03b75eae726a"), looks := true }, kinds := [], alts := [], laidByText := true, laidKinds := [.data, .data, .data, .data, .sentinel, .sentinel, .widerDeep, .pinned], laidTests := true, laidLooks := .later }
def ModeltextRestoresUptoCardSaid : Prop := Claim7.holds Tryz.pinned (.plain (OpenSpec.upto modeltextRestoresSpec)) modeltextRestoresUptoCard
end Rows
end Go.Proofs.YtmnhgeggojgflaaGreatDoor
