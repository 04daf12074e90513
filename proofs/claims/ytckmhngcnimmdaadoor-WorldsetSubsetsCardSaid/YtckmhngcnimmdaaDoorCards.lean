/-
  DERIVED. GIVEN WITH THE SEED: THE CARDS: each row of YtckmhngcnimmdaaDoorRows.lean that lists a variable, with what it lists TIED to the program's text (the seventh form; the later family's looks); each row that meets fmt, with fmt's text TOLD by the authors' own Lean function (tested against real Go, not proved from fmt's source: count such statements apart). THE CARD IS WHAT COUNTS. Prove the row's statement (the work); the ties are given (YtckmhngcnimmdaaDoorTie.lean); close each card by the builder's one call (the guide's Derived/Test/ToyasCard.lean, 'card_holds'). Laid BY PROGRAM, IN A SANDBOX (cutbox-door.mjs). By AI agents, Wed Nov 11 2026. No macro, syntax, notation, axiom, sorry.
-/
import Derived.Test.YtckmhngcnimmdaaDoorRows
import GoSem.ClaimSeven
namespace Go.Proofs.YtckmhngcnimmdaaDoor
namespace Rows

/-- THE TIED CARD OF 'wittinglaw01.WorldsetLists'. -/
def worldsetListsCard : Claim7 := { stood := { row := worldsetListsRow, standIns := [], harness := (true, "bbd75425c781b5194e581d5d2639f036b3b9b900e9644f3f40feae47ba373dec"), looks := false }, kinds := [], alts := [], laidByText := true, laidKinds := [.data, .data, .data, .data, .pinned], laidTests := true, laidLooks := .later }
def WorldsetListsCardSaid : Prop := Claim7.holds Tryd.pinned (.plain (OpenSpec.ofChange worldsetListsSpec)) worldsetListsCard

/-- THE TIED CARD OF 'wittinglaw01.WorldsetRenames'. -/
def worldsetRenamesCard : Claim7 := { stood := { row := worldsetRenamesRow, standIns := [], harness := (true, "bbd75425c781b5194e581d5d2639f036b3b9b900e9644f3f40feae47ba373dec"), looks := false }, kinds := [], alts := [], laidByText := true, laidKinds := [.data, .data, .data, .data, .pinned], laidTests := true, laidLooks := .later }
def WorldsetRenamesCardSaid : Prop := Claim7.holds Tryd.pinned (.plain (OpenSpec.ofChange worldsetRenamesSpec)) worldsetRenamesCard

/-- THE TIED CARD OF 'wittinglaw01.WorldsetTexts'. -/
def worldsetTextsCard : Claim7 := { stood := { row := worldsetTextsRow, standIns := [], harness := (true, "bbd75425c781b5194e581d5d2639f036b3b9b900e9644f3f40feae47ba373dec"), looks := false }, kinds := [], alts := [], laidByText := true, laidKinds := [.data, .data, .data, .data, .pinned], laidTests := true, laidLooks := .later }
def WorldsetTextsCardSaid : Prop := Claim7.holds Tryd.pinned (.plain (OpenSpec.ofChange worldsetTextsSpec)) worldsetTextsCard

/-- THE TIED CARD OF 'wittinglaw01.WorldsetRestores'. -/
def worldsetRestoresCard : Claim7 := { stood := { row := worldsetRestoresRow, standIns := [], harness := (true, "bbd75425c781b5194e581d5d2639f036b3b9b900e9644f3f40feae47ba373dec"), looks := false }, kinds := [], alts := [], laidByText := true, laidKinds := [.data, .data, .data, .data, .pinned], laidTests := true, laidLooks := .later }
def WorldsetRestoresCardSaid : Prop := Claim7.holds Tryd.pinned (.plain (OpenSpec.ofChange worldsetRestoresSpec)) worldsetRestoresCard

/-- THE TIED CARD OF 'wittinglaw01.WorldsetSubsets'. -/
def worldsetSubsetsCard : Claim7 := { stood := { row := worldsetSubsetsRow, standIns := [], harness := (true, "bbd75425c781b5194e581d5d2639f036b3b9b900e9644f3f40feae47ba373dec"), looks := false }, kinds := [], alts := [], laidByText := true, laidKinds := [.data, .data, .data, .data, .pinned], laidTests := true, laidLooks := .later }
def WorldsetSubsetsCardSaid : Prop := Claim7.holds Tryd.pinned (.plain (OpenSpec.ofChange worldsetSubsetsSpec)) worldsetSubsetsCard

/-- THE TIED CARD OF 'wittinglaw01.WorldsetPermutes'. -/
def worldsetPermutesCard : Claim7 := { stood := { row := worldsetPermutesRow, standIns := [], harness := (true, "bbd75425c781b5194e581d5d2639f036b3b9b900e9644f3f40feae47ba373dec"), looks := false }, kinds := [], alts := [], laidByText := true, laidKinds := [.data, .data, .data, .data, .pinned], laidTests := true, laidLooks := .later }
def WorldsetPermutesCardSaid : Prop := Claim7.holds Tryd.pinned (.plain (OpenSpec.ofChange worldsetPermutesSpec)) worldsetPermutesCard

/-- THE TIED CARD OF 'wittinglaw01.WorldsetSteps'. -/
def worldsetStepsCard : Claim7 := { stood := { row := worldsetStepsRow, standIns := [], harness := (true, "bbd75425c781b5194e581d5d2639f036b3b9b900e9644f3f40feae47ba373dec"), looks := false }, kinds := [], alts := [], laidByText := true, laidKinds := [.data, .data, .data, .data, .pinned], laidTests := true, laidLooks := .later }
def WorldsetStepsCardSaid : Prop := Claim7.holds Tryd.pinned (.plain (OpenSpec.ofChange worldsetStepsSpec)) worldsetStepsCard

/-- THE TIED CARD OF 'wittinglaw01.WorldsetChoices'. -/
def worldsetChoicesCard : Claim7 := { stood := { row := worldsetChoicesRow, standIns := [], harness := (true, "bbd75425c781b5194e581d5d2639f036b3b9b900e9644f3f40feae47ba373dec"), looks := false }, kinds := [], alts := [], laidByText := true, laidKinds := [.data, .data, .data, .data, .pinned], laidTests := true, laidLooks := .later }
def WorldsetChoicesCardSaid : Prop := Claim7.holds Tryd.pinned (.plain (OpenSpec.ofChange worldsetChoicesSpec)) worldsetChoicesCard

/-- THE SECOND FORM's CARD OF 'wittinglaw01.WorldsetLists'. -/
def worldsetListsUptoCard : Claim7 := { stood := { row := worldsetListsUptoRow, standIns := [], harness := (true, "bbd75425c781b5194e581d5d2639f036b3b9b900e9644f3f40feae47ba373dec"), looks := false }, kinds := [], alts := [], laidByText := true, laidKinds := [.data, .data, .data, .data, .pinned], laidTests := true, laidLooks := .later }
def WorldsetListsUptoCardSaid : Prop := Claim7.holds Tryd.pinned (.plain (OpenSpec.upto worldsetListsSpec)) worldsetListsUptoCard

/-- THE SECOND FORM's CARD OF 'wittinglaw01.WorldsetRenames'. -/
def worldsetRenamesUptoCard : Claim7 := { stood := { row := worldsetRenamesUptoRow, standIns := [], harness := (true, "bbd75425c781b5194e581d5d2639f036b3b9b900e9644f3f40feae47ba373dec"), looks := false }, kinds := [], alts := [], laidByText := true, laidKinds := [.data, .data, .data, .data, .pinned], laidTests := true, laidLooks := .later }
def WorldsetRenamesUptoCardSaid : Prop := Claim7.holds Tryd.pinned (.plain (OpenSpec.upto worldsetRenamesSpec)) worldsetRenamesUptoCard

/-- THE SECOND FORM's CARD OF 'wittinglaw01.WorldsetTexts'. -/
def worldsetTextsUptoCard : Claim7 := { stood := { row := worldsetTextsUptoRow, standIns := [], harness := (true, "bbd75425c781b5194e581d5d2639f036b3b9b900e9644f3f40feae47ba373dec"), looks := false }, kinds := [], alts := [], laidByText := true, laidKinds := [.data, .data, .data, .data, .pinned], laidTests := true, laidLooks := .later }
def WorldsetTextsUptoCardSaid : Prop := Claim7.holds Tryd.pinned (.plain (OpenSpec.upto worldsetTextsSpec)) worldsetTextsUptoCard

/-- THE SECOND FORM's CARD OF 'wittinglaw01.WorldsetRestores'. -/
def worldsetRestoresUptoCard : Claim7 := { stood := { row := worldsetRestoresUptoRow, standIns := [], harness := (true, "bbd75425c781b5194e581d5d2639f036b3b9b900e9644f3f40feae47ba373dec"), looks := false }, kinds := [], alts := [], laidByText := true, laidKinds := [.data, .data, .data, .data, .pinned], laidTests := true, laidLooks := .later }
def WorldsetRestoresUptoCardSaid : Prop := Claim7.holds Tryd.pinned (.plain (OpenSpec.upto worldsetRestoresSpec)) worldsetRestoresUptoCard

/-- THE SECOND FORM's CARD OF 'wittinglaw01.WorldsetSubsets'. -/
def worldsetSubsetsUptoCard : Claim7 := { stood := { row := worldsetSubsetsUptoRow, standIns := [], harness := (true, "bbd75425c781b5194e581d5d2639f036b3b9b900e9644f3f40feae47ba373dec"), looks := false }, kinds := [], alts := [], laidByText := true, laidKinds := [.data, .data, .data, .data, .pinned], laidTests := true, laidLooks := .later }
def WorldsetSubsetsUptoCardSaid : Prop := Claim7.holds Tryd.pinned (.plain (OpenSpec.upto worldsetSubsetsSpec)) worldsetSubsetsUptoCard

/-- THE SECOND FORM's CARD OF 'wittinglaw01.WorldsetPermutes'. -/
def worldsetPermutesUptoCard : Claim7 := { stood := { row := worldsetPermutesUptoRow, standIns := [], harness := (true, "bbd75425c781b5194e581d5d2639f036b3b9b900e9644f3f40feae47ba373dec"), looks := false }, kinds := [], alts := [], laidByText := true, laidKinds := [.data, .data, .data, .data, .pinned], laidTests := true, laidLooks := .later }
def WorldsetPermutesUptoCardSaid : Prop := Claim7.holds Tryd.pinned (.plain (OpenSpec.upto worldsetPermutesSpec)) worldsetPermutesUptoCard

/-- THE SECOND FORM's CARD OF 'wittinglaw01.WorldsetSteps'. -/
def worldsetStepsUptoCard : Claim7 := { stood := { row := worldsetStepsUptoRow, standIns := [], harness := (true, "bbd75425c781b5194e581d5d2639f036b3b9b900e9644f3f40feae47ba373dec"), looks := false }, kinds := [], alts := [], laidByText := true, laidKinds := [.data, .data, .data, .data, .pinned], laidTests := true, laidLooks := .later }
def WorldsetStepsUptoCardSaid : Prop := Claim7.holds Tryd.pinned (.plain (OpenSpec.upto worldsetStepsSpec)) worldsetStepsUptoCard

/-- THE SECOND FORM's CARD OF 'wittinglaw01.WorldsetChoices'. -/
def worldsetChoicesUptoCard : Claim7 := { stood := { row := worldsetChoicesUptoRow, standIns := [], harness := (true, "bbd75425c781b5194e581d5d2639f036b3b9b900e9644f3f40feae47ba373dec"), looks := false }, kinds := [], alts := [], laidByText := true, laidKinds := [.data, .data, .data, .data, .pinned], laidTests := true, laidLooks := .later }
def WorldsetChoicesUptoCardSaid : Prop := Claim7.holds Tryd.pinned (.plain (OpenSpec.upto worldsetChoicesSpec)) worldsetChoicesUptoCard
end Rows
end Go.Proofs.YtckmhngcnimmdaaDoor
