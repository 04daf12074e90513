/-
  DERIVED. GIVEN WITH THE SEED: THE CARDS: each row of YtgdmcidcappkpaaDoorRows.lean that lists a variable, with what it lists TIED to the program's text (the seventh form; the later family's looks); each row that meets fmt, with fmt's text TOLD by the authors' own Lean function (tested against real Go, not proved from fmt's source: count such statements apart). THE CARD IS WHAT COUNTS. Prove the row's statement (the work); the ties are given (YtgdmcidcappkpaaDoorTie.lean); close each card by the builder's one call (the guide's Derived/Test/ToyasCard.lean, 'card_holds'). Laid BY PROGRAM, IN A SANDBOX (cutbox-door.mjs). By AI agents, Wed Nov 11 2026. No macro, syntax, notation, axiom, sorry.
-/
import Derived.Test.YtgdmcidcappkpaaDoorRows
import GoSem.ClaimSeven
namespace Go.Proofs.YtgdmcidcappkpaaDoor
namespace Rows

/-- THE TIED CARD OF 'wittinglaw12.SymsetGreatest'. -/
def symsetGreatestCard : Claim7 := { stood := { row := symsetGreatestRow, standIns := [], harness := (true, "dc21c17c3afaba3c76ffbf905b1939de58c609bbd85f247b92686fab5da9b285"), looks := false }, kinds := [], alts := [], laidByText := true, laidKinds := [.data], laidTests := true, laidLooks := .later }
def SymsetGreatestCardSaid : Prop := Claim7.holds Tryd.pinned (.plain (OpenSpec.ofChange symsetGreatestSpec)) symsetGreatestCard

/-- THE TIED CARD OF 'wittinglaw12.SymsetAgrees'. -/
def symsetAgreesCard : Claim7 := { stood := { row := symsetAgreesRow, standIns := [], harness := (true, "dc21c17c3afaba3c76ffbf905b1939de58c609bbd85f247b92686fab5da9b285"), looks := false }, kinds := [], alts := [], laidByText := true, laidKinds := [.data], laidTests := true, laidLooks := .later }
def SymsetAgreesCardSaid : Prop := Claim7.holds Tryd.pinned (.plain (OpenSpec.ofChange symsetAgreesSpec)) symsetAgreesCard

/-- THE SECOND FORM's CARD OF 'wittinglaw12.SymsetGreatest'. -/
def symsetGreatestUptoCard : Claim7 := { stood := { row := symsetGreatestUptoRow, standIns := [], harness := (true, "dc21c17c3afaba3c76ffbf905b1939de58c609bbd85f247b92686fab5da9b285"), looks := false }, kinds := [], alts := [], laidByText := true, laidKinds := [.data], laidTests := true, laidLooks := .later }
def SymsetGreatestUptoCardSaid : Prop := Claim7.holds Tryd.pinned (.plain (OpenSpec.upto symsetGreatestSpec)) symsetGreatestUptoCard

/-- THE SECOND FORM's CARD OF 'wittinglaw12.SymsetAgrees'. -/
def symsetAgreesUptoCard : Claim7 := { stood := { row := symsetAgreesUptoRow, standIns := [], harness := (true, "dc21c17c3afaba3c76ffbf905b1939de58c609bbd85f247b92686fab5da9b285"), looks := false }, kinds := [], alts := [], laidByText := true, laidKinds := [.data], laidTests := true, laidLooks := .later }
def SymsetAgreesUptoCardSaid : Prop := Claim7.holds Tryd.pinned (.plain (OpenSpec.upto symsetAgreesSpec)) symsetAgreesUptoCard
end Rows
end Go.Proofs.YtgdmcidcappkpaaDoor
