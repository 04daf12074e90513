/-
  NARROWER THAN 'FOR EVERY INPUT', by the rows' own cells (each row's printed sentence says how): SignatureChecks: laid · SignatureFinds: laid · SignatureGroups: laid · SignatureParses: laid · SignatureBack: laid · SignatureApart: laid · SignatureOrder: laid.
  DERIVED. THE GIVEN ROWS OF THIS SEAT. 7 by the template 'for every input the law returns true; each argument reads behind the call as it read before'; 0 by the template 'total and deterministic' (their statements: YtcmoocemfnjkiaaDoorTotals.lean).
  GIVEN WITH THE SEED: the statements are not yours to turn. If you find one false, say at which input.
  Laid BY PROGRAM, IN A SANDBOX (cutbox-rows.mjs): the forced cells as the released guide's own fill.sh prints them over the translation 56592706e0e68a28… (all of the seat's roots in one cut). By AI agents, Wed Nov 11 2026. No macro, syntax, notation, axiom, sorry.
-/
import Derived.Test.YtcmoocemfnjkiaaDoorChecked
import GoSem.PinnedTables
import GoSem.Claim
import GoSem.ClaimJoined
import GoSem.ClaimMapViews
import Derived.JoinedTies
import Derived.KernelRfl
namespace Go.Proofs.YtcmoocemfnjkiaaDoor
/- THE CELL 'sum', in the pinned program and in every row, IS THE sha256 OF THE DUMP (.gsa) THAT YtcmoocemfnjkiaaDoorProg.lean LOADS. Nothing in Lean hashes anything: it is a label: what it is worth is what the hold of that sum in a sandbox is worth. -/
noncomputable def Tryd.pinned : Pinned := { name := "ytcmoocemfnjkiaadoor", sum := "56592706e0e68a28d3cb1cf92ee6391698926098515501379c07470611973f25", checked := Tryd.checked }
namespace Rows
def none {H : Type} : Left H := { results := [], args := [] }

/- WHAT THE LISTED PACKAGE-LEVEL VARIABLES READ AS WHEN THE CALL BEGINS. Each datum BY PROGRAM (the guide's laid-datum.mjs) off the statement by which the dump's own 'gosem.cut.vars' lays the variable. In a bare row this is a premise. The card (YtcmoocemfnjkiaaDoorCards.lean) ties it to the program's text. -/
def laid_unicode_utf8_acceptRanges {H : Type} : DataW H := .agg [.agg [.lit (.int .u8 128), .lit (.int .u8 191)], .agg [.lit (.int .u8 160), .lit (.int .u8 191)], .agg [.lit (.int .u8 128), .lit (.int .u8 159)], .agg [.lit (.int .u8 144), .lit (.int .u8 191)], .agg [.lit (.int .u8 128), .lit (.int .u8 143)], .agg [.lit (.int .u8 0), .lit (.int .u8 0)], .agg [.lit (.int .u8 0), .lit (.int .u8 0)], .agg [.lit (.int .u8 0), .lit (.int .u8 0)], .agg [.lit (.int .u8 0), .lit (.int .u8 0)], .agg [.lit (.int .u8 0), .lit (.int .u8 0)], .agg [.lit (.int .u8 0), .lit (.int .u8 0)], .agg [.lit (.int .u8 0), .lit (.int .u8 0)], .agg [.lit (.int .u8 0), .lit (.int .u8 0)], .agg [.lit (.int .u8 0), .lit (.int .u8 0)], .agg [.lit (.int .u8 0), .lit (.int .u8 0)], .agg [.lit (.int .u8 0), .lit (.int .u8 0)]]
def laid_witting_signature_reserved {H : Type} : DataW H := .agg [.lit (.string [116, 114, 117, 101]), .lit (.string [102, 97, 108, 115, 101]), .lit (.string [110, 101, 120, 116]), .lit (.string [112, 114, 101, 118]), .lit (.string [117, 110, 116, 105, 108]), .lit (.string [115, 105, 110, 99, 101]), .lit (.string [100, 111])]
/-- One of Go's own tables, pinned by name: the form's constant. -/
def laid_unicode_utf8_first : DataW Unit := Go.Pinned.utf8First

/-- 'wittinglaw04.SignatureChecks': WHATEVER THE INPUT: true; the input reads as it did. -/
def signatureChecksSpec : ChangeSpec := { name := "signatureChecks", fn := fun _ => fun
  | [d1, d2] => { results := [.lit (.bool true)], args := [d1, d2] }
  | _ => none }
def signatureChecksRow : OpenClaim := { program := "ytcmoocemfnjkiaadoor", sum := "56592706e0e68a28d3cb1cf92ee6391698926098515501379c07470611973f25", func := "witting/wittinglaw04.SignatureChecks", spec := "signatureChecks", inPlace := ["internal/bytealg.IndexByteString", "internal/bytealg.IndexString", "internal/abi.NoEscape", "internal/bytealg.MakeNoZero", "internal/bytealg.CountString"], unfollowed := true, recurses := true, named := ["unicode/utf8.first", "unicode/utf8.acceptRanges", "witting/signature.reserved", "internal/bytealg.MaxLen"], apart := false, laid := [("unicode/utf8.acceptRanges", laid_unicode_utf8_acceptRanges), ("witting/signature.reserved", laid_witting_signature_reserved), ("unicode/utf8.first", laid_unicode_utf8_first)] }
def SignatureChecksSaid : Prop := signatureChecksRow.holds Tryd.pinned (OpenSpec.ofChange signatureChecksSpec)

/-- ITS FALSE NEIGHBOUR: 'it returns false'. Refute it at one input. -/
def signatureChecksWrong : ChangeSpec := { name := "signatureChecks", fn := fun _ => fun
  | [d1, d2] => { results := [.lit (.bool false)], args := [d1, d2] }
  | _ => none }
def SignatureChecksWrongFalsely : Prop := signatureChecksRow.holds Tryd.pinned (OpenSpec.ofChange signatureChecksWrong)

/-- 'wittinglaw04.SignatureFinds': WHATEVER THE INPUT: true; the input reads as it did. -/
def signatureFindsSpec : ChangeSpec := { name := "signatureFinds", fn := fun _ => fun
  | [d1, d2, d3] => { results := [.lit (.bool true)], args := [d1, d2, d3] }
  | _ => none }
def signatureFindsRow : OpenClaim := { program := "ytcmoocemfnjkiaadoor", sum := "56592706e0e68a28d3cb1cf92ee6391698926098515501379c07470611973f25", func := "witting/wittinglaw04.SignatureFinds", spec := "signatureFinds", inPlace := ["internal/bytealg.IndexByteString", "internal/bytealg.IndexString", "internal/abi.NoEscape", "internal/bytealg.MakeNoZero", "internal/bytealg.CountString"], unfollowed := true, recurses := true, named := ["unicode/utf8.first", "unicode/utf8.acceptRanges", "witting/signature.reserved", "internal/bytealg.MaxLen"], apart := false, laid := [("unicode/utf8.acceptRanges", laid_unicode_utf8_acceptRanges), ("witting/signature.reserved", laid_witting_signature_reserved), ("unicode/utf8.first", laid_unicode_utf8_first)] }
def SignatureFindsSaid : Prop := signatureFindsRow.holds Tryd.pinned (OpenSpec.ofChange signatureFindsSpec)

/-- ITS FALSE NEIGHBOUR: 'it returns false'. Refute it at one input. -/
def signatureFindsWrong : ChangeSpec := { name := "signatureFinds", fn := fun _ => fun
  | [d1, d2, d3] => { results := [.lit (.bool false)], args := [d1, d2, d3] }
  | _ => none }
def SignatureFindsWrongFalsely : Prop := signatureFindsRow.holds Tryd.pinned (OpenSpec.ofChange signatureFindsWrong)

/-- 'wittinglaw04.SignatureGroups': WHATEVER THE INPUT: true; the input reads as it did. -/
def signatureGroupsSpec : ChangeSpec := { name := "signatureGroups", fn := fun _ => fun
  | [d1, d2, d3] => { results := [.lit (.bool true)], args := [d1, d2, d3] }
  | _ => none }
def signatureGroupsRow : OpenClaim := { program := "ytcmoocemfnjkiaadoor", sum := "56592706e0e68a28d3cb1cf92ee6391698926098515501379c07470611973f25", func := "witting/wittinglaw04.SignatureGroups", spec := "signatureGroups", inPlace := ["internal/bytealg.IndexByteString", "internal/bytealg.IndexString", "internal/abi.NoEscape", "internal/bytealg.MakeNoZero", "internal/bytealg.CountString"], unfollowed := true, recurses := true, named := ["unicode/utf8.first", "unicode/utf8.acceptRanges", "witting/signature.reserved", "internal/bytealg.MaxLen"], apart := false, laid := [("unicode/utf8.acceptRanges", laid_unicode_utf8_acceptRanges), ("witting/signature.reserved", laid_witting_signature_reserved), ("unicode/utf8.first", laid_unicode_utf8_first)] }
def SignatureGroupsSaid : Prop := signatureGroupsRow.holds Tryd.pinned (OpenSpec.ofChange signatureGroupsSpec)

/-- ITS FALSE NEIGHBOUR: 'it returns false'. Refute it at one input. -/
def signatureGroupsWrong : ChangeSpec := { name := "signatureGroups", fn := fun _ => fun
  | [d1, d2, d3] => { results := [.lit (.bool false)], args := [d1, d2, d3] }
  | _ => none }
def SignatureGroupsWrongFalsely : Prop := signatureGroupsRow.holds Tryd.pinned (OpenSpec.ofChange signatureGroupsWrong)

/-- 'wittinglaw04.SignatureParses': WHATEVER THE INPUT: true; the input reads as it did. -/
def signatureParsesSpec : ChangeSpec := { name := "signatureParses", fn := fun _ => fun
  | [d1, d2] => { results := [.lit (.bool true)], args := [d1, d2] }
  | _ => none }
def signatureParsesRow : OpenClaim := { program := "ytcmoocemfnjkiaadoor", sum := "56592706e0e68a28d3cb1cf92ee6391698926098515501379c07470611973f25", func := "witting/wittinglaw04.SignatureParses", spec := "signatureParses", inPlace := ["internal/bytealg.IndexByteString", "internal/bytealg.IndexString", "internal/abi.NoEscape", "internal/bytealg.MakeNoZero", "internal/bytealg.CountString"], unfollowed := true, recurses := true, named := ["unicode/utf8.first", "unicode/utf8.acceptRanges", "witting/signature.reserved", "internal/bytealg.MaxLen"], apart := false, laid := [("unicode/utf8.acceptRanges", laid_unicode_utf8_acceptRanges), ("witting/signature.reserved", laid_witting_signature_reserved), ("unicode/utf8.first", laid_unicode_utf8_first)] }
def SignatureParsesSaid : Prop := signatureParsesRow.holds Tryd.pinned (OpenSpec.ofChange signatureParsesSpec)

/-- ITS FALSE NEIGHBOUR: 'it returns false'. Refute it at one input. -/
def signatureParsesWrong : ChangeSpec := { name := "signatureParses", fn := fun _ => fun
  | [d1, d2] => { results := [.lit (.bool false)], args := [d1, d2] }
  | _ => none }
def SignatureParsesWrongFalsely : Prop := signatureParsesRow.holds Tryd.pinned (OpenSpec.ofChange signatureParsesWrong)

/-- 'wittinglaw04.SignatureBack': WHATEVER THE INPUT: true; the input reads as it did. -/
def signatureBackSpec : ChangeSpec := { name := "signatureBack", fn := fun _ => fun
  | [d1, d2] => { results := [.lit (.bool true)], args := [d1, d2] }
  | _ => none }
def signatureBackRow : OpenClaim := { program := "ytcmoocemfnjkiaadoor", sum := "56592706e0e68a28d3cb1cf92ee6391698926098515501379c07470611973f25", func := "witting/wittinglaw04.SignatureBack", spec := "signatureBack", inPlace := ["internal/bytealg.IndexByteString", "internal/bytealg.IndexString", "internal/abi.NoEscape", "internal/bytealg.MakeNoZero", "internal/bytealg.CountString"], unfollowed := true, recurses := true, named := ["unicode/utf8.first", "unicode/utf8.acceptRanges", "witting/signature.reserved", "internal/bytealg.MaxLen"], apart := false, laid := [("unicode/utf8.acceptRanges", laid_unicode_utf8_acceptRanges), ("witting/signature.reserved", laid_witting_signature_reserved), ("unicode/utf8.first", laid_unicode_utf8_first)] }
def SignatureBackSaid : Prop := signatureBackRow.holds Tryd.pinned (OpenSpec.ofChange signatureBackSpec)

/-- ITS FALSE NEIGHBOUR: 'it returns false'. Refute it at one input. -/
def signatureBackWrong : ChangeSpec := { name := "signatureBack", fn := fun _ => fun
  | [d1, d2] => { results := [.lit (.bool false)], args := [d1, d2] }
  | _ => none }
def SignatureBackWrongFalsely : Prop := signatureBackRow.holds Tryd.pinned (OpenSpec.ofChange signatureBackWrong)

/-- 'wittinglaw04.SignatureApart': WHATEVER THE INPUT: true; the input reads as it did. -/
def signatureApartSpec : ChangeSpec := { name := "signatureApart", fn := fun _ => fun
  | [d] => { results := [.lit (.bool true)], args := [d] }
  | _ => none }
def signatureApartRow : OpenClaim := { program := "ytcmoocemfnjkiaadoor", sum := "56592706e0e68a28d3cb1cf92ee6391698926098515501379c07470611973f25", func := "witting/wittinglaw04.SignatureApart", spec := "signatureApart", inPlace := ["internal/bytealg.IndexByteString", "internal/bytealg.IndexString", "internal/abi.NoEscape", "internal/bytealg.MakeNoZero", "internal/bytealg.CountString"], unfollowed := true, recurses := true, named := ["unicode/utf8.first", "unicode/utf8.acceptRanges", "witting/signature.reserved", "internal/bytealg.MaxLen"], apart := false, laid := [("unicode/utf8.acceptRanges", laid_unicode_utf8_acceptRanges), ("witting/signature.reserved", laid_witting_signature_reserved), ("unicode/utf8.first", laid_unicode_utf8_first)] }
def SignatureApartSaid : Prop := signatureApartRow.holds Tryd.pinned (OpenSpec.ofChange signatureApartSpec)

/-- ITS FALSE NEIGHBOUR: 'it returns false'. Refute it at one input. -/
def signatureApartWrong : ChangeSpec := { name := "signatureApart", fn := fun _ => fun
  | [d] => { results := [.lit (.bool false)], args := [d] }
  | _ => none }
def SignatureApartWrongFalsely : Prop := signatureApartRow.holds Tryd.pinned (OpenSpec.ofChange signatureApartWrong)

/-- 'wittinglaw04.SignatureOrder': WHATEVER THE INPUT: true; the input reads as it did. -/
def signatureOrderSpec : ChangeSpec := { name := "signatureOrder", fn := fun _ => fun
  | [d1, d2] => { results := [.lit (.bool true)], args := [d1, d2] }
  | _ => none }
def signatureOrderRow : OpenClaim := { program := "ytcmoocemfnjkiaadoor", sum := "56592706e0e68a28d3cb1cf92ee6391698926098515501379c07470611973f25", func := "witting/wittinglaw04.SignatureOrder", spec := "signatureOrder", inPlace := ["internal/bytealg.IndexByteString", "internal/bytealg.IndexString", "internal/abi.NoEscape", "internal/bytealg.MakeNoZero", "internal/bytealg.CountString"], unfollowed := true, recurses := true, named := ["unicode/utf8.first", "unicode/utf8.acceptRanges", "witting/signature.reserved", "internal/bytealg.MaxLen"], apart := false, laid := [("unicode/utf8.acceptRanges", laid_unicode_utf8_acceptRanges), ("witting/signature.reserved", laid_witting_signature_reserved), ("unicode/utf8.first", laid_unicode_utf8_first)] }
def SignatureOrderSaid : Prop := signatureOrderRow.holds Tryd.pinned (OpenSpec.ofChange signatureOrderSpec)

/-- ITS FALSE NEIGHBOUR: 'it returns false'. Refute it at one input. -/
def signatureOrderWrong : ChangeSpec := { name := "signatureOrder", fn := fun _ => fun
  | [d1, d2] => { results := [.lit (.bool false)], args := [d1, d2] }
  | _ => none }
def SignatureOrderWrongFalsely : Prop := signatureOrderRow.holds Tryd.pinned (OpenSpec.ofChange signatureOrderWrong)

/- THE SECOND FORM. 'bulk': how many values and letters a reading holds, each counted each time it is reached (what is shared counts as often as it is met; a slice's spare places count too). A statement '..UptoSaid' is the law's where the arguments, and the package variables that the reading takes, are together of bulk at most 1048576: NARROWER than '..Said'. Prove '..Said' where nothing that the law and all that it calls make is longer than what came in: it says more and counts as full. Else prove '..UptoSaid'. A law counts once. -/
mutual
def uptoBulk {H : Type} : DataW H → Nat
  | .lit (.string bytes) => bytes.length + 1
  | .lit _ => 1
  | .nil => 1
  | .ptr d => uptoBulk d + 1
  | .slice elems spare => uptoBulkAll elems + uptoBulkAll spare + 1
  | .agg parts => uptoBulkAll parts + 1
  | .iface _ d => uptoBulk d + 1
  | .map entries => uptoBulkEntries entries + 1
  | .held _ => 1
def uptoBulkAll {H : Type} : List (DataW H) → Nat
  | [] => 0
  | d :: r => uptoBulk d + uptoBulkAll r
def uptoBulkEntries {H : Type} : List (Lit × DataW H) → Nat
  | [] => 0
  | x :: r => uptoBulkEntry x + uptoBulkEntries r
def uptoBulkEntry {H : Type} : Lit × DataW H → Nat
  | (.string bytes, d) => bytes.length + uptoBulk d + 1
  | (_, d) => uptoBulk d + 1
 end
def uptoSmall : (H : Type) → List (DataW H) → Bool := fun _ ds => decide (uptoBulkAll ds ≤ 1048576)
def OpenSpec.upto (s : _root_.Go.ChangeSpec) : _root_.Go.OpenSpec := { _root_.Go.OpenSpec.ofChange s with cond := some uptoSmall }

/-- 'wittinglaw04.SignatureChecks', WHERE WHAT IT READS IS OF BULK AT MOST 1048576: true; the input reads as it did. -/
def signatureChecksUptoRow : OpenClaim := { program := "ytcmoocemfnjkiaadoor", sum := "56592706e0e68a28d3cb1cf92ee6391698926098515501379c07470611973f25", func := "witting/wittinglaw04.SignatureChecks", spec := "signatureChecks", inPlace := ["internal/bytealg.IndexByteString", "internal/bytealg.IndexString", "internal/abi.NoEscape", "internal/bytealg.MakeNoZero", "internal/bytealg.CountString"], unfollowed := true, recurses := true, named := ["unicode/utf8.first", "unicode/utf8.acceptRanges", "witting/signature.reserved", "internal/bytealg.MaxLen"], apart := false, laid := [("unicode/utf8.acceptRanges", laid_unicode_utf8_acceptRanges), ("witting/signature.reserved", laid_witting_signature_reserved), ("unicode/utf8.first", laid_unicode_utf8_first)], narrowed := true }
def SignatureChecksUptoSaid : Prop := signatureChecksUptoRow.holds Tryd.pinned (OpenSpec.upto signatureChecksSpec)

/-- 'wittinglaw04.SignatureFinds', WHERE WHAT IT READS IS OF BULK AT MOST 1048576: true; the input reads as it did. -/
def signatureFindsUptoRow : OpenClaim := { program := "ytcmoocemfnjkiaadoor", sum := "56592706e0e68a28d3cb1cf92ee6391698926098515501379c07470611973f25", func := "witting/wittinglaw04.SignatureFinds", spec := "signatureFinds", inPlace := ["internal/bytealg.IndexByteString", "internal/bytealg.IndexString", "internal/abi.NoEscape", "internal/bytealg.MakeNoZero", "internal/bytealg.CountString"], unfollowed := true, recurses := true, named := ["unicode/utf8.first", "unicode/utf8.acceptRanges", "witting/signature.reserved", "internal/bytealg.MaxLen"], apart := false, laid := [("unicode/utf8.acceptRanges", laid_unicode_utf8_acceptRanges), ("witting/signature.reserved", laid_witting_signature_reserved), ("unicode/utf8.first", laid_unicode_utf8_first)], narrowed := true }
def SignatureFindsUptoSaid : Prop := signatureFindsUptoRow.holds Tryd.pinned (OpenSpec.upto signatureFindsSpec)

/-- 'wittinglaw04.SignatureGroups', WHERE WHAT IT READS IS OF BULK AT MOST 1048576: true; the input reads as it did. -/
def signatureGroupsUptoRow : OpenClaim := { program := "ytcmoocemfnjkiaadoor", sum := "56592706e0e68a28d3cb1cf92ee6391698926098515501379c07470611973f25", func := "witting/wittinglaw04.SignatureGroups", spec := "signatureGroups", inPlace := ["internal/bytealg.IndexByteString", "internal/bytealg.IndexString", "internal/abi.NoEscape", "internal/bytealg.MakeNoZero", "internal/bytealg.CountString"], unfollowed := true, recurses := true, named := ["unicode/utf8.first", "unicode/utf8.acceptRanges", "witting/signature.reserved", "internal/bytealg.MaxLen"], apart := false, laid := [("unicode/utf8.acceptRanges", laid_unicode_utf8_acceptRanges), ("witting/signature.reserved", laid_witting_signature_reserved), ("unicode/utf8.first", laid_unicode_utf8_first)], narrowed := true }
def SignatureGroupsUptoSaid : Prop := signatureGroupsUptoRow.holds Tryd.pinned (OpenSpec.upto signatureGroupsSpec)

/-- 'wittinglaw04.SignatureParses', WHERE WHAT IT READS IS OF BULK AT MOST 1048576: true; the input reads as it did. -/
def signatureParsesUptoRow : OpenClaim := { program := "ytcmoocemfnjkiaadoor", sum := "56592706e0e68a28d3cb1cf92ee6391698926098515501379c07470611973f25", func := "witting/wittinglaw04.SignatureParses", spec := "signatureParses", inPlace := ["internal/bytealg.IndexByteString", "internal/bytealg.IndexString", "internal/abi.NoEscape", "internal/bytealg.MakeNoZero", "internal/bytealg.CountString"], unfollowed := true, recurses := true, named := ["unicode/utf8.first", "unicode/utf8.acceptRanges", "witting/signature.reserved", "internal/bytealg.MaxLen"], apart := false, laid := [("unicode/utf8.acceptRanges", laid_unicode_utf8_acceptRanges), ("witting/signature.reserved", laid_witting_signature_reserved), ("unicode/utf8.first", laid_unicode_utf8_first)], narrowed := true }
def SignatureParsesUptoSaid : Prop := signatureParsesUptoRow.holds Tryd.pinned (OpenSpec.upto signatureParsesSpec)

/-- 'wittinglaw04.SignatureBack', WHERE WHAT IT READS IS OF BULK AT MOST 1048576: true; the input reads as it did. -/
def signatureBackUptoRow : OpenClaim := { program := "ytcmoocemfnjkiaadoor", sum := "56592706e0e68a28d3cb1cf92ee6391698926098515501379c07470611973f25", func := "witting/wittinglaw04.SignatureBack", spec := "signatureBack", inPlace := ["internal/bytealg.IndexByteString", "internal/bytealg.IndexString", "internal/abi.NoEscape", "internal/bytealg.MakeNoZero", "internal/bytealg.CountString"], unfollowed := true, recurses := true, named := ["unicode/utf8.first", "unicode/utf8.acceptRanges", "witting/signature.reserved", "internal/bytealg.MaxLen"], apart := false, laid := [("unicode/utf8.acceptRanges", laid_unicode_utf8_acceptRanges), ("witting/signature.reserved", laid_witting_signature_reserved), ("unicode/utf8.first", laid_unicode_utf8_first)], narrowed := true }
def SignatureBackUptoSaid : Prop := signatureBackUptoRow.holds Tryd.pinned (OpenSpec.upto signatureBackSpec)

/-- 'wittinglaw04.SignatureApart', WHERE WHAT IT READS IS OF BULK AT MOST 1048576: true; the input reads as it did. -/
def signatureApartUptoRow : OpenClaim := { program := "ytcmoocemfnjkiaadoor", sum := "56592706e0e68a28d3cb1cf92ee6391698926098515501379c07470611973f25", func := "witting/wittinglaw04.SignatureApart", spec := "signatureApart", inPlace := ["internal/bytealg.IndexByteString", "internal/bytealg.IndexString", "internal/abi.NoEscape", "internal/bytealg.MakeNoZero", "internal/bytealg.CountString"], unfollowed := true, recurses := true, named := ["unicode/utf8.first", "unicode/utf8.acceptRanges", "witting/signature.reserved", "internal/bytealg.MaxLen"], apart := false, laid := [("unicode/utf8.acceptRanges", laid_unicode_utf8_acceptRanges), ("witting/signature.reserved", laid_witting_signature_reserved), ("unicode/utf8.first", laid_unicode_utf8_first)], narrowed := true }
def SignatureApartUptoSaid : Prop := signatureApartUptoRow.holds Tryd.pinned (OpenSpec.upto signatureApartSpec)

/-- 'wittinglaw04.SignatureOrder', WHERE WHAT IT READS IS OF BULK AT MOST 1048576: true; the input reads as it did. -/
def signatureOrderUptoRow : OpenClaim := { program := "ytcmoocemfnjkiaadoor", sum := "56592706e0e68a28d3cb1cf92ee6391698926098515501379c07470611973f25", func := "witting/wittinglaw04.SignatureOrder", spec := "signatureOrder", inPlace := ["internal/bytealg.IndexByteString", "internal/bytealg.IndexString", "internal/abi.NoEscape", "internal/bytealg.MakeNoZero", "internal/bytealg.CountString"], unfollowed := true, recurses := true, named := ["unicode/utf8.first", "unicode/utf8.acceptRanges", "witting/signature.reserved", "internal/bytealg.MaxLen"], apart := false, laid := [("unicode/utf8.acceptRanges", laid_unicode_utf8_acceptRanges), ("witting/signature.reserved", laid_witting_signature_reserved), ("unicode/utf8.first", laid_unicode_utf8_first)], narrowed := true }
def SignatureOrderUptoSaid : Prop := signatureOrderUptoRow.holds Tryd.pinned (OpenSpec.upto signatureOrderSpec)

end Rows
end Go.Proofs.YtcmoocemfnjkiaaDoor
