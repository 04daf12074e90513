/-
  DERIVED. GIVEN WITH THE SEED: THE CARDS: each row of YtdhdcenjiopofaaDoorRows.lean that lists a variable, with what it lists TIED to the program's text (the seventh form; the later family's looks); each row that meets fmt, with fmt's text TOLD by the authors' own Lean function (tested against real Go, not proved from fmt's source: count such statements apart). THE CARD IS WHAT COUNTS. Prove the row's statement (the work); the ties are given (YtdhdcenjiopofaaDoorTie.lean); close each card by the builder's one call (the guide's Derived/Test/ToyasCard.lean, 'card_holds'). Laid BY PROGRAM, IN A SANDBOX (cutbox-door.mjs). By AI agents, Wed Nov 11 2026. No macro, syntax, notation, axiom, sorry.
-/
import Derived.Test.YtdhdcenjiopofaaDoorRows
import GoSem.ClaimSeven
namespace Go.Proofs.YtdhdcenjiopofaaDoor
namespace Rows

/-- THE TIED CARD OF 'wittinglaw06.ParserTokens'. -/
def parserTokensCard : Claim7 := { stood := { row := parserTokensRow, standIns := [], harness := (true, "f025422b4879921587df1e99668e2917891daf5dea359e12fe6a073872329d91"), looks := false }, kinds := [], alts := [], laidByText := true, laidKinds := [.data, .widerDeep, .pinned], laidTests := true, laidLooks := .later }
def ParserTokensCardSaid : Prop := Claim7.holds Tryd.pinned (.plain (OpenSpec.ofChange parserTokensSpec)) parserTokensCard

/-- THE TIED CARD OF 'wittinglaw06.ParserSpaces'. -/
def parserSpacesCard : Claim7 := { stood := { row := parserSpacesRow, standIns := [], harness := (true, "f025422b4879921587df1e99668e2917891daf5dea359e12fe6a073872329d91"), looks := false }, kinds := [], alts := [], laidByText := true, laidKinds := [.data, .widerDeep, .pinned], laidTests := true, laidLooks := .later }
def ParserSpacesCardSaid : Prop := Claim7.holds Tryd.pinned (.plain (OpenSpec.ofChange parserSpacesSpec)) parserSpacesCard

/-- THE TIED CARD OF 'wittinglaw06.ParserStops'. -/
def parserStopsCard : Claim7 := { stood := { row := parserStopsRow, standIns := [], harness := (true, "f025422b4879921587df1e99668e2917891daf5dea359e12fe6a073872329d91"), looks := false }, kinds := [], alts := [], laidByText := true, laidKinds := [.data, .widerDeep, .pinned], laidTests := true, laidLooks := .later }
def ParserStopsCardSaid : Prop := Claim7.holds Tryd.pinned (.plain (OpenSpec.ofChange parserStopsSpec)) parserStopsCard

/-- THE TIED CARD OF 'wittinglaw06.ParserJoins'. -/
def parserJoinsCard : Claim7 := { stood := { row := parserJoinsRow, standIns := [], harness := (true, "f025422b4879921587df1e99668e2917891daf5dea359e12fe6a073872329d91"), looks := false }, kinds := [], alts := [], laidByText := true, laidKinds := [.data, .widerDeep, .pinned], laidTests := true, laidLooks := .later }
def ParserJoinsCardSaid : Prop := Claim7.holds Tryd.pinned (.plain (OpenSpec.ofChange parserJoinsSpec)) parserJoinsCard

/-- THE TIED CARD OF 'wittinglaw06.ParserPrefixes'. -/
def parserPrefixesCard : Claim7 := { stood := { row := parserPrefixesRow, standIns := [], harness := (true, "f025422b4879921587df1e99668e2917891daf5dea359e12fe6a073872329d91"), looks := false }, kinds := [], alts := [], laidByText := true, laidKinds := [.data, .widerDeep, .pinned], laidTests := true, laidLooks := .later }
def ParserPrefixesCardSaid : Prop := Claim7.holds Tryd.pinned (.plain (OpenSpec.ofChange parserPrefixesSpec)) parserPrefixesCard

/-- THE SECOND FORM's CARD OF 'wittinglaw06.ParserTokens'. -/
def parserTokensUptoCard : Claim7 := { stood := { row := parserTokensUptoRow, standIns := [], harness := (true, "f025422b4879921587df1e99668e2917891daf5dea359e12fe6a073872329d91"), looks := false }, kinds := [], alts := [], laidByText := true, laidKinds := [.data, .widerDeep, .pinned], laidTests := true, laidLooks := .later }
def ParserTokensUptoCardSaid : Prop := Claim7.holds Tryd.pinned (.plain (OpenSpec.upto parserTokensSpec)) parserTokensUptoCard

/-- THE SECOND FORM's CARD OF 'wittinglaw06.ParserSpaces'. -/
def parserSpacesUptoCard : Claim7 := { stood := { row := parserSpacesUptoRow, standIns := [], harness := (true, "f025422b4879921587df1e99668e2917891daf5dea359e12fe6a073872329d91"), looks := false }, kinds := [], alts := [], laidByText := true, laidKinds := [.data, .widerDeep, .pinned], laidTests := true, laidLooks := .later }
def ParserSpacesUptoCardSaid : Prop := Claim7.holds Tryd.pinned (.plain (OpenSpec.upto parserSpacesSpec)) parserSpacesUptoCard

/-- THE SECOND FORM's CARD OF 'wittinglaw06.ParserStops'. -/
def parserStopsUptoCard : Claim7 := { stood := { row := parserStopsUptoRow, standIns := [], harness := (true, "f025422b4879921587df1e99668e2917891daf5dea359e12fe6a073872329d91"), looks := false }, kinds := [], alts := [], laidByText := true, laidKinds := [.data, .widerDeep, .pinned], laidTests := true, laidLooks := .later }
def ParserStopsUptoCardSaid : Prop := Claim7.holds Tryd.pinned (.plain (OpenSpec.upto parserStopsSpec)) parserStopsUptoCard

/-- THE SECOND FORM's CARD OF 'wittinglaw06.ParserJoins'. -/
def parserJoinsUptoCard : Claim7 := { stood := { row := parserJoinsUptoRow, standIns := [], harness := (true, "f025422b4879921587df1e99668e2917891daf5dea359e12fe6a073872329d91"), looks := false }, kinds := [], alts := [], laidByText := true, laidKinds := [.data, .widerDeep, .pinned], laidTests := true, laidLooks := .later }
def ParserJoinsUptoCardSaid : Prop := Claim7.holds Tryd.pinned (.plain (OpenSpec.upto parserJoinsSpec)) parserJoinsUptoCard

/-- THE SECOND FORM's CARD OF 'wittinglaw06.ParserPrefixes'. -/
def parserPrefixesUptoCard : Claim7 := { stood := { row := parserPrefixesUptoRow, standIns := [], harness := (true, "f025422b4879921587df1e99668e2917891daf5dea359e12fe6a073872329d91"), looks := false }, kinds := [], alts := [], laidByText := true, laidKinds := [.data, .widerDeep, .pinned], laidTests := true, laidLooks := .later }
def ParserPrefixesUptoCardSaid : Prop := Claim7.holds Tryd.pinned (.plain (OpenSpec.upto parserPrefixesSpec)) parserPrefixesUptoCard
end Rows
end Go.Proofs.YtdhdcenjiopofaaDoor
