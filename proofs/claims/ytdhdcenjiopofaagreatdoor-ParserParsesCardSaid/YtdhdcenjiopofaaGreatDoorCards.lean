/-
  DERIVED. GIVEN WITH THE SEED: THE CARDS: each row of YtdhdcenjiopofaaGreatDoorRows.lean that lists a variable, with what it lists TIED to the program's text (the seventh form; the later family's looks); each row that meets fmt, with fmt's text TOLD by the authors' own Lean function (tested against real Go, not proved from fmt's source: count such statements apart). THE CARD IS WHAT COUNTS. Prove the row's statement (the work); the ties are given (YtdhdcenjiopofaaGreatDoorTie.lean); close each card by the builder's one call (the guide's Derived/Test/ToyasCard.lean, 'card_holds'). Laid BY PROGRAM, IN A SANDBOX (cutbox-door.mjs). By AI agents, Wed Nov 11 2026. No macro, syntax, notation, axiom, sorry.
-/
import Derived.Test.YtdhdcenjiopofaaGreatDoorRows
import GoSem.ClaimSeven
namespace Go.Proofs.YtdhdcenjiopofaaGreatDoor
namespace Rows

/-- THE TIED CARD OF 'wittinglaw06.ParserParses'. -/
def parserParsesCard : Claim7 := { stood := { row := parserParsesRow, standIns := [], harness := (true, "0aee977d9a3991f8e0495e2f7e114d234bf3a06589e606630d449d1b3842705b"), looks := false }, kinds := [], alts := [], laidByText := true, laidKinds := [.data, .widerDeep, .pinned], laidTests := true, laidLooks := .later }
def ParserParsesCardSaid : Prop := Claim7.holds Tryz.pinned (.plain (OpenSpec.ofChange parserParsesSpec)) parserParsesCard

/-- THE TIED CARD OF 'wittinglaw06.ParserFits'. -/
def parserFitsCard : Claim7 := { stood := { row := parserFitsRow, standIns := [], harness := (true, "0aee977d9a3991f8e0495e2f7e114d234bf3a06589e606630d449d1b3842705b"), looks := false }, kinds := [], alts := [], laidByText := true, laidKinds := [.data, .widerDeep, .pinned], laidTests := true, laidLooks := .later }
def ParserFitsCardSaid : Prop := Claim7.holds Tryz.pinned (.plain (OpenSpec.ofChange parserFitsSpec)) parserFitsCard

/-- THE SECOND FORM's CARD OF 'wittinglaw06.ParserParses'. -/
def parserParsesUptoCard : Claim7 := { stood := { row := parserParsesUptoRow, standIns := [], harness := (true, "0aee977d9a3991f8e0495e2f7e114d234bf3a06589e606630d449d1b3842705b"), looks := false }, kinds := [], alts := [], laidByText := true, laidKinds := [.data, .widerDeep, .pinned], laidTests := true, laidLooks := .later }
def ParserParsesUptoCardSaid : Prop := Claim7.holds Tryz.pinned (.plain (OpenSpec.upto parserParsesSpec)) parserParsesUptoCard

/-- THE SECOND FORM's CARD OF 'wittinglaw06.ParserFits'. -/
def parserFitsUptoCard : Claim7 := { stood := { row := parserFitsUptoRow, standIns := [], harness := (true, "0aee977d9a3991f8e0495e2f7e114d234bf3a06589e606630d449d1b3842705b"), looks := false }, kinds := [], alts := [], laidByText := true, laidKinds := [.data, .widerDeep, .pinned], laidTests := true, laidLooks := .later }
def ParserFitsUptoCardSaid : Prop := Claim7.holds Tryz.pinned (.plain (OpenSpec.upto parserFitsSpec)) parserFitsUptoCard
end Rows
end Go.Proofs.YtdhdcenjiopofaaGreatDoor
