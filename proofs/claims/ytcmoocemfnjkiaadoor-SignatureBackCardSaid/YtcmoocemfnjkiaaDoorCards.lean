/-
  DERIVED. GIVEN WITH THE SEED: THE CARDS: each row of YtcmoocemfnjkiaaDoorRows.lean that lists a variable, with what it lists TIED to the program's text (the seventh form; the later family's looks); each row that meets fmt, with fmt's text TOLD by the authors' own Lean function (tested against real Go, not proved from fmt's source: count such statements apart). THE CARD IS WHAT COUNTS. Prove the row's statement (the work); the ties are given (YtcmoocemfnjkiaaDoorTie.lean); close each card by the builder's one call (the guide's Derived/Test/ToyasCard.lean, 'card_holds'). Laid BY PROGRAM, IN A SANDBOX (cutbox-door.mjs). By AI agents, Wed Nov 11 2026. No macro, syntax, notation, axiom, sorry.
-/
import Derived.Test.YtcmoocemfnjkiaaDoorRows
import GoSem.ClaimSeven
namespace Go.Proofs.YtcmoocemfnjkiaaDoor
namespace Rows

/-- THE TIED CARD OF 'wittinglaw04.SignatureChecks'. -/
def signatureChecksCard : Claim7 := { stood := { row := signatureChecksRow, standIns := [], harness := (true, "42f0da5421cedc966f2332a5fe9b3c2d3a6a70f4d3b8a6b375696649a97cb175"), looks := false }, kinds := [], alts := [], laidByText := true, laidKinds := [.data, .widerDeep, .pinned], laidTests := true, laidLooks := .later }
def SignatureChecksCardSaid : Prop := Claim7.holds Tryd.pinned (.plain (OpenSpec.ofChange signatureChecksSpec)) signatureChecksCard

/-- THE TIED CARD OF 'wittinglaw04.SignatureFinds'. -/
def signatureFindsCard : Claim7 := { stood := { row := signatureFindsRow, standIns := [], harness := (true, "42f0da5421cedc966f2332a5fe9b3c2d3a6a70f4d3b8a6b375696649a97cb175"), looks := false }, kinds := [], alts := [], laidByText := true, laidKinds := [.data, .widerDeep, .pinned], laidTests := true, laidLooks := .later }
def SignatureFindsCardSaid : Prop := Claim7.holds Tryd.pinned (.plain (OpenSpec.ofChange signatureFindsSpec)) signatureFindsCard

/-- THE TIED CARD OF 'wittinglaw04.SignatureGroups'. -/
def signatureGroupsCard : Claim7 := { stood := { row := signatureGroupsRow, standIns := [], harness := (true, "42f0da5421cedc966f2332a5fe9b3c2d3a6a70f4d3b8a6b375696649a97cb175"), looks := false }, kinds := [], alts := [], laidByText := true, laidKinds := [.data, .widerDeep, .pinned], laidTests := true, laidLooks := .later }
def SignatureGroupsCardSaid : Prop := Claim7.holds Tryd.pinned (.plain (OpenSpec.ofChange signatureGroupsSpec)) signatureGroupsCard

/-- THE TIED CARD OF 'wittinglaw04.SignatureParses'. -/
def signatureParsesCard : Claim7 := { stood := { row := signatureParsesRow, standIns := [], harness := (true, "42f0da5421cedc966f2332a5fe9b3c2d3a6a70f4d3b8a6b375696649a97cb175"), looks := false }, kinds := [], alts := [], laidByText := true, laidKinds := [.data, .widerDeep, .pinned], laidTests := true, laidLooks := .later }
def SignatureParsesCardSaid : Prop := Claim7.holds Tryd.pinned (.plain (OpenSpec.ofChange signatureParsesSpec)) signatureParsesCard

/-- THE TIED CARD OF 'wittinglaw04.SignatureBack'. -/
def signatureBackCard : Claim7 := { stood := { row := signatureBackRow, standIns := [], harness := (true, "42f0da5421cedc966f2332a5fe9b3c2d3a6a70f4d3b8a6b375696649a97cb175"), looks := false }, kinds := [], alts := [], laidByText := true, laidKinds := [.data, .widerDeep, .pinned], laidTests := true, laidLooks := .later }
def SignatureBackCardSaid : Prop := Claim7.holds Tryd.pinned (.plain (OpenSpec.ofChange signatureBackSpec)) signatureBackCard

/-- THE TIED CARD OF 'wittinglaw04.SignatureApart'. -/
def signatureApartCard : Claim7 := { stood := { row := signatureApartRow, standIns := [], harness := (true, "42f0da5421cedc966f2332a5fe9b3c2d3a6a70f4d3b8a6b375696649a97cb175"), looks := false }, kinds := [], alts := [], laidByText := true, laidKinds := [.data, .widerDeep, .pinned], laidTests := true, laidLooks := .later }
def SignatureApartCardSaid : Prop := Claim7.holds Tryd.pinned (.plain (OpenSpec.ofChange signatureApartSpec)) signatureApartCard

/-- THE TIED CARD OF 'wittinglaw04.SignatureOrder'. -/
def signatureOrderCard : Claim7 := { stood := { row := signatureOrderRow, standIns := [], harness := (true, "42f0da5421cedc966f2332a5fe9b3c2d3a6a70f4d3b8a6b375696649a97cb175"), looks := false }, kinds := [], alts := [], laidByText := true, laidKinds := [.data, .widerDeep, .pinned], laidTests := true, laidLooks := .later }
def SignatureOrderCardSaid : Prop := Claim7.holds Tryd.pinned (.plain (OpenSpec.ofChange signatureOrderSpec)) signatureOrderCard

/-- THE SECOND FORM's CARD OF 'wittinglaw04.SignatureChecks'. -/
def signatureChecksUptoCard : Claim7 := { stood := { row := signatureChecksUptoRow, standIns := [], harness := (true, "42f0da5421cedc966f2332a5fe9b3c2d3a6a70f4d3b8a6b375696649a97cb175"), looks := false }, kinds := [], alts := [], laidByText := true, laidKinds := [.data, .widerDeep, .pinned], laidTests := true, laidLooks := .later }
def SignatureChecksUptoCardSaid : Prop := Claim7.holds Tryd.pinned (.plain (OpenSpec.upto signatureChecksSpec)) signatureChecksUptoCard

/-- THE SECOND FORM's CARD OF 'wittinglaw04.SignatureFinds'. -/
def signatureFindsUptoCard : Claim7 := { stood := { row := signatureFindsUptoRow, standIns := [], harness := (true, "42f0da5421cedc966f2332a5fe9b3c2d3a6a70f4d3b8a6b375696649a97cb175"), looks := false }, kinds := [], alts := [], laidByText := true, laidKinds := [.data, .widerDeep, .pinned], laidTests := true, laidLooks := .later }
def SignatureFindsUptoCardSaid : Prop := Claim7.holds Tryd.pinned (.plain (OpenSpec.upto signatureFindsSpec)) signatureFindsUptoCard

/-- THE SECOND FORM's CARD OF 'wittinglaw04.SignatureGroups'. -/
def signatureGroupsUptoCard : Claim7 := { stood := { row := signatureGroupsUptoRow, standIns := [], harness := (true, "42f0da5421cedc966f2332a5fe9b3c2d3a6a70f4d3b8a6b375696649a97cb175"), looks := false }, kinds := [], alts := [], laidByText := true, laidKinds := [.data, .widerDeep, .pinned], laidTests := true, laidLooks := .later }
def SignatureGroupsUptoCardSaid : Prop := Claim7.holds Tryd.pinned (.plain (OpenSpec.upto signatureGroupsSpec)) signatureGroupsUptoCard

/-- THE SECOND FORM's CARD OF 'wittinglaw04.SignatureParses'. -/
def signatureParsesUptoCard : Claim7 := { stood := { row := signatureParsesUptoRow, standIns := [], harness := (true, "42f0da5421cedc966f2332a5fe9b3c2d3a6a70f4d3b8a6b375696649a97cb175"), looks := false }, kinds := [], alts := [], laidByText := true, laidKinds := [.data, .widerDeep, .pinned], laidTests := true, laidLooks := .later }
def SignatureParsesUptoCardSaid : Prop := Claim7.holds Tryd.pinned (.plain (OpenSpec.upto signatureParsesSpec)) signatureParsesUptoCard

/-- THE SECOND FORM's CARD OF 'wittinglaw04.SignatureBack'. -/
def signatureBackUptoCard : Claim7 := { stood := { row := signatureBackUptoRow, standIns := [], harness := (true, "42f0da5421cedc966f2332a5fe9b3c2d3a6a70f4d3b8a6b375696649a97cb175"), looks := false }, kinds := [], alts := [], laidByText := true, laidKinds := [.data, .widerDeep, .pinned], laidTests := true, laidLooks := .later }
def SignatureBackUptoCardSaid : Prop := Claim7.holds Tryd.pinned (.plain (OpenSpec.upto signatureBackSpec)) signatureBackUptoCard

/-- THE SECOND FORM's CARD OF 'wittinglaw04.SignatureApart'. -/
def signatureApartUptoCard : Claim7 := { stood := { row := signatureApartUptoRow, standIns := [], harness := (true, "42f0da5421cedc966f2332a5fe9b3c2d3a6a70f4d3b8a6b375696649a97cb175"), looks := false }, kinds := [], alts := [], laidByText := true, laidKinds := [.data, .widerDeep, .pinned], laidTests := true, laidLooks := .later }
def SignatureApartUptoCardSaid : Prop := Claim7.holds Tryd.pinned (.plain (OpenSpec.upto signatureApartSpec)) signatureApartUptoCard

/-- THE SECOND FORM's CARD OF 'wittinglaw04.SignatureOrder'. -/
def signatureOrderUptoCard : Claim7 := { stood := { row := signatureOrderUptoRow, standIns := [], harness := (true, "42f0da5421cedc966f2332a5fe9b3c2d3a6a70f4d3b8a6b375696649a97cb175"), looks := false }, kinds := [], alts := [], laidByText := true, laidKinds := [.data, .widerDeep, .pinned], laidTests := true, laidLooks := .later }
def SignatureOrderUptoCardSaid : Prop := Claim7.holds Tryd.pinned (.plain (OpenSpec.upto signatureOrderSpec)) signatureOrderUptoCard
end Rows
end Go.Proofs.YtcmoocemfnjkiaaDoor
