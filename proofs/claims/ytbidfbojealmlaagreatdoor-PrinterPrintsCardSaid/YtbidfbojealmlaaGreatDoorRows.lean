/-
  NARROWER THAN 'FOR EVERY INPUT', by the rows' own cells (each row's printed sentence says how): PrinterPrints: laid · PrinterBack: laid · PrinterNames: laid · PrinterLimits: laid · PrinterMinimal: laid · PrinterTexts: laid · PrinterApart: laid.
  DERIVED. THE GIVEN ROWS OF THIS SEAT. 7 by the template 'for every input the law returns true; each argument reads behind the call as it read before'; 0 by the template 'total and deterministic' (their statements: YtbidfbojealmlaaGreatDoorTotals.lean).
  GIVEN WITH THE SEED: the statements are not yours to turn. If you find one false, say at which input.
  Laid BY PROGRAM, IN A SANDBOX (cutbox-rows.mjs): the forced cells as the released guide's own fill.sh prints them over the translation 0b0a9b961116fc92… (all of the seat's roots in one cut). By AI agents, Wed Nov 11 2026. No macro, syntax, notation, axiom, sorry.
-/
import Derived.Test.YtbidfbojealmlaaGreatDoorChecked
import GoSem.PinnedTables
import GoSem.Claim
import GoSem.ClaimJoined
import GoSem.ClaimMapViews
import Derived.JoinedTies
import Derived.KernelRfl
namespace Go.Proofs.YtbidfbojealmlaaGreatDoor
/- THE CELL 'sum', in the pinned program and in every row, IS THE sha256 OF THE DUMP (.gsa) THAT YtbidfbojealmlaaGreatDoorProg.lean LOADS. Nothing in Lean hashes anything: it is a label: what it is worth is what the hold of that sum in a sandbox is worth. -/
noncomputable def Tryz.pinned : Pinned := { name := "ytbidfbojealmlaagreatdoor", sum := "0b0a9b961116fc92b2274ca05ef57ebd47b0a0381bff5b4029be7472435a0ea6", checked := Tryz.checked }
namespace Rows
def none {H : Type} : Left H := { results := [], args := [] }

/- WHAT THE LISTED PACKAGE-LEVEL VARIABLES READ AS WHEN THE CALL BEGINS. Each datum BY PROGRAM (the guide's laid-datum.mjs) off the statement by which the dump's own 'gosem.cut.vars' lays the variable. In a bare row this is a premise. The card (YtbidfbojealmlaaGreatDoorCards.lean) ties it to the program's text. -/
def laid_math_bits_deBruijn32tab {H : Type} : DataW H := .agg [.lit (.int .u8 0), .lit (.int .u8 1), .lit (.int .u8 28), .lit (.int .u8 2), .lit (.int .u8 29), .lit (.int .u8 14), .lit (.int .u8 24), .lit (.int .u8 3), .lit (.int .u8 30), .lit (.int .u8 22), .lit (.int .u8 20), .lit (.int .u8 15), .lit (.int .u8 25), .lit (.int .u8 17), .lit (.int .u8 4), .lit (.int .u8 8), .lit (.int .u8 31), .lit (.int .u8 27), .lit (.int .u8 13), .lit (.int .u8 23), .lit (.int .u8 21), .lit (.int .u8 19), .lit (.int .u8 16), .lit (.int .u8 7), .lit (.int .u8 26), .lit (.int .u8 12), .lit (.int .u8 18), .lit (.int .u8 6), .lit (.int .u8 11), .lit (.int .u8 5), .lit (.int .u8 10), .lit (.int .u8 9)]
def laid_math_bits_deBruijn64tab {H : Type} : DataW H := .agg [.lit (.int .u8 0), .lit (.int .u8 1), .lit (.int .u8 56), .lit (.int .u8 2), .lit (.int .u8 57), .lit (.int .u8 49), .lit (.int .u8 28), .lit (.int .u8 3), .lit (.int .u8 61), .lit (.int .u8 58), .lit (.int .u8 42), .lit (.int .u8 50), .lit (.int .u8 38), .lit (.int .u8 29), .lit (.int .u8 17), .lit (.int .u8 4), .lit (.int .u8 62), .lit (.int .u8 47), .lit (.int .u8 59), .lit (.int .u8 36), .lit (.int .u8 45), .lit (.int .u8 43), .lit (.int .u8 51), .lit (.int .u8 22), .lit (.int .u8 53), .lit (.int .u8 39), .lit (.int .u8 33), .lit (.int .u8 30), .lit (.int .u8 24), .lit (.int .u8 18), .lit (.int .u8 12), .lit (.int .u8 5), .lit (.int .u8 63), .lit (.int .u8 55), .lit (.int .u8 48), .lit (.int .u8 27), .lit (.int .u8 60), .lit (.int .u8 41), .lit (.int .u8 37), .lit (.int .u8 16), .lit (.int .u8 46), .lit (.int .u8 35), .lit (.int .u8 44), .lit (.int .u8 21), .lit (.int .u8 52), .lit (.int .u8 32), .lit (.int .u8 23), .lit (.int .u8 11), .lit (.int .u8 54), .lit (.int .u8 26), .lit (.int .u8 40), .lit (.int .u8 15), .lit (.int .u8 34), .lit (.int .u8 20), .lit (.int .u8 31), .lit (.int .u8 10), .lit (.int .u8 25), .lit (.int .u8 14), .lit (.int .u8 19), .lit (.int .u8 9), .lit (.int .u8 13), .lit (.int .u8 8), .lit (.int .u8 7), .lit (.int .u8 6)]
def laid_internal_strconv_uint64pow10 {H : Type} : DataW H := .agg [.lit (.int .u64 1), .lit (.int .u64 10), .lit (.int .u64 100), .lit (.int .u64 1000), .lit (.int .u64 10000), .lit (.int .u64 100000), .lit (.int .u64 1000000), .lit (.int .u64 10000000), .lit (.int .u64 100000000), .lit (.int .u64 1000000000), .lit (.int .u64 10000000000), .lit (.int .u64 100000000000), .lit (.int .u64 1000000000000), .lit (.int .u64 10000000000000), .lit (.int .u64 100000000000000), .lit (.int .u64 1000000000000000), .lit (.int .u64 10000000000000000), .lit (.int .u64 100000000000000000), .lit (.int .u64 1000000000000000000), .lit (.int .u64 10000000000000000000)]
def laid_unicode_utf8_acceptRanges {H : Type} : DataW H := .agg [.agg [.lit (.int .u8 128), .lit (.int .u8 191)], .agg [.lit (.int .u8 160), .lit (.int .u8 191)], .agg [.lit (.int .u8 128), .lit (.int .u8 159)], .agg [.lit (.int .u8 144), .lit (.int .u8 191)], .agg [.lit (.int .u8 128), .lit (.int .u8 143)], .agg [.lit (.int .u8 0), .lit (.int .u8 0)], .agg [.lit (.int .u8 0), .lit (.int .u8 0)], .agg [.lit (.int .u8 0), .lit (.int .u8 0)], .agg [.lit (.int .u8 0), .lit (.int .u8 0)], .agg [.lit (.int .u8 0), .lit (.int .u8 0)], .agg [.lit (.int .u8 0), .lit (.int .u8 0)], .agg [.lit (.int .u8 0), .lit (.int .u8 0)], .agg [.lit (.int .u8 0), .lit (.int .u8 0)], .agg [.lit (.int .u8 0), .lit (.int .u8 0)], .agg [.lit (.int .u8 0), .lit (.int .u8 0)], .agg [.lit (.int .u8 0), .lit (.int .u8 0)]]
def laid_witting_signature_reserved {H : Type} : DataW H := .agg [.lit (.string [116, 114, 117, 101]), .lit (.string [102, 97, 108, 115, 101]), .lit (.string [110, 101, 120, 116]), .lit (.string [112, 114, 101, 118]), .lit (.string [117, 110, 116, 105, 108]), .lit (.string [115, 105, 110, 99, 101]), .lit (.string [100, 111])]
def laid_witting_printer_infixes {H : Type} : DataW H := .agg [.agg [.lit (.int .i64 5), .lit (.string [32, 38, 32]), .lit (.int .i64 4), .lit (.int .i64 4), .lit (.int .i64 5)], .agg [.lit (.int .i64 6), .lit (.string [32, 124, 32]), .lit (.int .i64 3), .lit (.int .i64 3), .lit (.int .i64 4)], .agg [.lit (.int .i64 19), .lit (.string [32, 117, 110, 116, 105, 108, 32]), .lit (.int .i64 2), .lit (.int .i64 3), .lit (.int .i64 2)], .agg [.lit (.int .i64 21), .lit (.string [32, 115, 105, 110, 99, 101, 32]), .lit (.int .i64 2), .lit (.int .i64 3), .lit (.int .i64 2)], .agg [.lit (.int .i64 7), .lit (.string [32, 45, 62, 32]), .lit (.int .i64 1), .lit (.int .i64 2), .lit (.int .i64 1)], .agg [.lit (.int .i64 8), .lit (.string [32, 60, 45, 62, 32]), .lit (.int .i64 0), .lit (.int .i64 0), .lit (.int .i64 1)]]
/-- One of Go's own tables, pinned by name: the form's constant. -/
def laid_unicode_utf8_first : DataW Unit := Go.Pinned.utf8First

/-- 'wittinglaw07.PrinterPrints': WHATEVER THE INPUT: true; the input reads as it did. -/
def printerPrintsSpec : ChangeSpec := { name := "printerPrints", fn := fun _ => fun
  | [d1, d2] => { results := [.lit (.bool true)], args := [d1, d2] }
  | _ => none }
def printerPrintsRow : OpenClaim := { program := "ytbidfbojealmlaagreatdoor", sum := "0b0a9b961116fc92b2274ca05ef57ebd47b0a0381bff5b4029be7472435a0ea6", func := "witting/wittinglaw07.PrinterPrints", spec := "printerPrints", inPlace := ["internal/bytealg.IndexByteString", "internal/bytealg.IndexString", "internal/abi.NoEscape", "internal/bytealg.MakeNoZero"], unfollowed := true, recurses := true, named := ["unicode/utf8.first", "unicode/utf8.acceptRanges", "witting/signature.reserved", "internal/bytealg.MaxLen", "witting/printer.infixes", "internal/strconv.uint64pow10", "math/bits.deBruijn32tab", "math/bits.deBruijn64tab"], plainKeys := false, apart := false, laid := [("math/bits.deBruijn32tab", laid_math_bits_deBruijn32tab), ("math/bits.deBruijn64tab", laid_math_bits_deBruijn64tab), ("internal/strconv.uint64pow10", laid_internal_strconv_uint64pow10), ("unicode/utf8.acceptRanges", laid_unicode_utf8_acceptRanges), ("witting/signature.reserved", laid_witting_signature_reserved), ("witting/printer.infixes", laid_witting_printer_infixes), ("unicode/utf8.first", laid_unicode_utf8_first)] }
def PrinterPrintsSaid : Prop := printerPrintsRow.holds Tryz.pinned (OpenSpec.ofChange printerPrintsSpec)

/-- ITS FALSE NEIGHBOUR: 'it returns false'. Refute it at one input. -/
def printerPrintsWrong : ChangeSpec := { name := "printerPrints", fn := fun _ => fun
  | [d1, d2] => { results := [.lit (.bool false)], args := [d1, d2] }
  | _ => none }
def PrinterPrintsWrongFalsely : Prop := printerPrintsRow.holds Tryz.pinned (OpenSpec.ofChange printerPrintsWrong)

/-- 'wittinglaw07.PrinterBack': WHATEVER THE INPUT: true; the input reads as it did. -/
def printerBackSpec : ChangeSpec := { name := "printerBack", fn := fun _ => fun
  | [d1, d2] => { results := [.lit (.bool true)], args := [d1, d2] }
  | _ => none }
def printerBackRow : OpenClaim := { program := "ytbidfbojealmlaagreatdoor", sum := "0b0a9b961116fc92b2274ca05ef57ebd47b0a0381bff5b4029be7472435a0ea6", func := "witting/wittinglaw07.PrinterBack", spec := "printerBack", inPlace := ["internal/bytealg.IndexByteString", "internal/bytealg.IndexString", "internal/abi.NoEscape", "internal/bytealg.MakeNoZero"], unfollowed := true, recurses := true, named := ["unicode/utf8.first", "unicode/utf8.acceptRanges", "witting/signature.reserved", "internal/bytealg.MaxLen", "witting/printer.infixes", "internal/strconv.uint64pow10", "math/bits.deBruijn32tab", "math/bits.deBruijn64tab"], plainKeys := false, apart := false, laid := [("math/bits.deBruijn32tab", laid_math_bits_deBruijn32tab), ("math/bits.deBruijn64tab", laid_math_bits_deBruijn64tab), ("internal/strconv.uint64pow10", laid_internal_strconv_uint64pow10), ("unicode/utf8.acceptRanges", laid_unicode_utf8_acceptRanges), ("witting/signature.reserved", laid_witting_signature_reserved), ("witting/printer.infixes", laid_witting_printer_infixes), ("unicode/utf8.first", laid_unicode_utf8_first)] }
def PrinterBackSaid : Prop := printerBackRow.holds Tryz.pinned (OpenSpec.ofChange printerBackSpec)

/-- ITS FALSE NEIGHBOUR: 'it returns false'. Refute it at one input. -/
def printerBackWrong : ChangeSpec := { name := "printerBack", fn := fun _ => fun
  | [d1, d2] => { results := [.lit (.bool false)], args := [d1, d2] }
  | _ => none }
def PrinterBackWrongFalsely : Prop := printerBackRow.holds Tryz.pinned (OpenSpec.ofChange printerBackWrong)

/-- 'wittinglaw07.PrinterNames': WHATEVER THE INPUT: true; the input reads as it did. -/
def printerNamesSpec : ChangeSpec := { name := "printerNames", fn := fun _ => fun
  | [d1, d2] => { results := [.lit (.bool true)], args := [d1, d2] }
  | _ => none }
def printerNamesRow : OpenClaim := { program := "ytbidfbojealmlaagreatdoor", sum := "0b0a9b961116fc92b2274ca05ef57ebd47b0a0381bff5b4029be7472435a0ea6", func := "witting/wittinglaw07.PrinterNames", spec := "printerNames", inPlace := ["internal/bytealg.IndexByteString", "internal/bytealg.IndexString", "internal/abi.NoEscape", "internal/bytealg.MakeNoZero"], unfollowed := true, recurses := true, named := ["unicode/utf8.first", "unicode/utf8.acceptRanges", "witting/signature.reserved", "internal/bytealg.MaxLen", "witting/printer.infixes", "internal/strconv.uint64pow10", "math/bits.deBruijn32tab", "math/bits.deBruijn64tab"], plainKeys := false, apart := false, laid := [("math/bits.deBruijn32tab", laid_math_bits_deBruijn32tab), ("math/bits.deBruijn64tab", laid_math_bits_deBruijn64tab), ("internal/strconv.uint64pow10", laid_internal_strconv_uint64pow10), ("unicode/utf8.acceptRanges", laid_unicode_utf8_acceptRanges), ("witting/signature.reserved", laid_witting_signature_reserved), ("witting/printer.infixes", laid_witting_printer_infixes), ("unicode/utf8.first", laid_unicode_utf8_first)] }
def PrinterNamesSaid : Prop := printerNamesRow.holds Tryz.pinned (OpenSpec.ofChange printerNamesSpec)

/-- ITS FALSE NEIGHBOUR: 'it returns false'. Refute it at one input. -/
def printerNamesWrong : ChangeSpec := { name := "printerNames", fn := fun _ => fun
  | [d1, d2] => { results := [.lit (.bool false)], args := [d1, d2] }
  | _ => none }
def PrinterNamesWrongFalsely : Prop := printerNamesRow.holds Tryz.pinned (OpenSpec.ofChange printerNamesWrong)

/-- 'wittinglaw07.PrinterLimits': WHATEVER THE INPUT: true; the input reads as it did. -/
def printerLimitsSpec : ChangeSpec := { name := "printerLimits", fn := fun _ => fun
  | [d1, d2] => { results := [.lit (.bool true)], args := [d1, d2] }
  | _ => none }
def printerLimitsRow : OpenClaim := { program := "ytbidfbojealmlaagreatdoor", sum := "0b0a9b961116fc92b2274ca05ef57ebd47b0a0381bff5b4029be7472435a0ea6", func := "witting/wittinglaw07.PrinterLimits", spec := "printerLimits", inPlace := ["internal/bytealg.IndexByteString", "internal/bytealg.IndexString", "internal/abi.NoEscape", "internal/bytealg.MakeNoZero"], unfollowed := true, recurses := true, named := ["unicode/utf8.first", "unicode/utf8.acceptRanges", "witting/signature.reserved", "internal/bytealg.MaxLen", "witting/printer.infixes", "internal/strconv.uint64pow10", "math/bits.deBruijn32tab", "math/bits.deBruijn64tab"], plainKeys := false, apart := false, laid := [("math/bits.deBruijn32tab", laid_math_bits_deBruijn32tab), ("math/bits.deBruijn64tab", laid_math_bits_deBruijn64tab), ("internal/strconv.uint64pow10", laid_internal_strconv_uint64pow10), ("unicode/utf8.acceptRanges", laid_unicode_utf8_acceptRanges), ("witting/signature.reserved", laid_witting_signature_reserved), ("witting/printer.infixes", laid_witting_printer_infixes), ("unicode/utf8.first", laid_unicode_utf8_first)] }
def PrinterLimitsSaid : Prop := printerLimitsRow.holds Tryz.pinned (OpenSpec.ofChange printerLimitsSpec)

/-- ITS FALSE NEIGHBOUR: 'it returns false'. Refute it at one input. -/
def printerLimitsWrong : ChangeSpec := { name := "printerLimits", fn := fun _ => fun
  | [d1, d2] => { results := [.lit (.bool false)], args := [d1, d2] }
  | _ => none }
def PrinterLimitsWrongFalsely : Prop := printerLimitsRow.holds Tryz.pinned (OpenSpec.ofChange printerLimitsWrong)

/-- 'wittinglaw07.PrinterMinimal': WHATEVER THE INPUT: true; the input reads as it did. -/
def printerMinimalSpec : ChangeSpec := { name := "printerMinimal", fn := fun _ => fun
  | [d1, d2] => { results := [.lit (.bool true)], args := [d1, d2] }
  | _ => none }
def printerMinimalRow : OpenClaim := { program := "ytbidfbojealmlaagreatdoor", sum := "0b0a9b961116fc92b2274ca05ef57ebd47b0a0381bff5b4029be7472435a0ea6", func := "witting/wittinglaw07.PrinterMinimal", spec := "printerMinimal", inPlace := ["internal/bytealg.IndexByteString", "internal/bytealg.IndexString", "internal/abi.NoEscape", "internal/bytealg.MakeNoZero"], unfollowed := true, recurses := true, named := ["unicode/utf8.first", "unicode/utf8.acceptRanges", "witting/signature.reserved", "internal/bytealg.MaxLen", "witting/printer.infixes", "internal/strconv.uint64pow10", "math/bits.deBruijn32tab", "math/bits.deBruijn64tab"], plainKeys := false, apart := false, laid := [("math/bits.deBruijn32tab", laid_math_bits_deBruijn32tab), ("math/bits.deBruijn64tab", laid_math_bits_deBruijn64tab), ("internal/strconv.uint64pow10", laid_internal_strconv_uint64pow10), ("unicode/utf8.acceptRanges", laid_unicode_utf8_acceptRanges), ("witting/signature.reserved", laid_witting_signature_reserved), ("witting/printer.infixes", laid_witting_printer_infixes), ("unicode/utf8.first", laid_unicode_utf8_first)] }
def PrinterMinimalSaid : Prop := printerMinimalRow.holds Tryz.pinned (OpenSpec.ofChange printerMinimalSpec)

/-- ITS FALSE NEIGHBOUR: 'it returns false'. Refute it at one input. -/
def printerMinimalWrong : ChangeSpec := { name := "printerMinimal", fn := fun _ => fun
  | [d1, d2] => { results := [.lit (.bool false)], args := [d1, d2] }
  | _ => none }
def PrinterMinimalWrongFalsely : Prop := printerMinimalRow.holds Tryz.pinned (OpenSpec.ofChange printerMinimalWrong)

/-- 'wittinglaw07.PrinterTexts': WHATEVER THE INPUT: true; the input reads as it did. -/
def printerTextsSpec : ChangeSpec := { name := "printerTexts", fn := fun _ => fun
  | [d1, d2] => { results := [.lit (.bool true)], args := [d1, d2] }
  | _ => none }
def printerTextsRow : OpenClaim := { program := "ytbidfbojealmlaagreatdoor", sum := "0b0a9b961116fc92b2274ca05ef57ebd47b0a0381bff5b4029be7472435a0ea6", func := "witting/wittinglaw07.PrinterTexts", spec := "printerTexts", inPlace := ["internal/bytealg.IndexByteString", "internal/bytealg.IndexString", "internal/abi.NoEscape", "internal/bytealg.MakeNoZero"], unfollowed := true, recurses := true, named := ["unicode/utf8.first", "unicode/utf8.acceptRanges", "witting/signature.reserved", "internal/bytealg.MaxLen", "witting/printer.infixes", "internal/strconv.uint64pow10", "math/bits.deBruijn32tab", "math/bits.deBruijn64tab"], plainKeys := false, apart := false, laid := [("math/bits.deBruijn32tab", laid_math_bits_deBruijn32tab), ("math/bits.deBruijn64tab", laid_math_bits_deBruijn64tab), ("internal/strconv.uint64pow10", laid_internal_strconv_uint64pow10), ("unicode/utf8.acceptRanges", laid_unicode_utf8_acceptRanges), ("witting/signature.reserved", laid_witting_signature_reserved), ("witting/printer.infixes", laid_witting_printer_infixes), ("unicode/utf8.first", laid_unicode_utf8_first)] }
def PrinterTextsSaid : Prop := printerTextsRow.holds Tryz.pinned (OpenSpec.ofChange printerTextsSpec)

/-- ITS FALSE NEIGHBOUR: 'it returns false'. Refute it at one input. -/
def printerTextsWrong : ChangeSpec := { name := "printerTexts", fn := fun _ => fun
  | [d1, d2] => { results := [.lit (.bool false)], args := [d1, d2] }
  | _ => none }
def PrinterTextsWrongFalsely : Prop := printerTextsRow.holds Tryz.pinned (OpenSpec.ofChange printerTextsWrong)

/-- 'wittinglaw07.PrinterApart': WHATEVER THE INPUT: true; the input reads as it did. -/
def printerApartSpec : ChangeSpec := { name := "printerApart", fn := fun _ => fun
  | [d1, d2, d3] => { results := [.lit (.bool true)], args := [d1, d2, d3] }
  | _ => none }
def printerApartRow : OpenClaim := { program := "ytbidfbojealmlaagreatdoor", sum := "0b0a9b961116fc92b2274ca05ef57ebd47b0a0381bff5b4029be7472435a0ea6", func := "witting/wittinglaw07.PrinterApart", spec := "printerApart", inPlace := ["internal/bytealg.IndexByteString", "internal/bytealg.IndexString", "internal/abi.NoEscape", "internal/bytealg.MakeNoZero"], unfollowed := true, recurses := true, named := ["unicode/utf8.first", "unicode/utf8.acceptRanges", "witting/signature.reserved", "internal/bytealg.MaxLen", "witting/printer.infixes", "internal/strconv.uint64pow10", "math/bits.deBruijn32tab", "math/bits.deBruijn64tab"], plainKeys := false, apart := false, laid := [("math/bits.deBruijn32tab", laid_math_bits_deBruijn32tab), ("math/bits.deBruijn64tab", laid_math_bits_deBruijn64tab), ("internal/strconv.uint64pow10", laid_internal_strconv_uint64pow10), ("unicode/utf8.acceptRanges", laid_unicode_utf8_acceptRanges), ("witting/signature.reserved", laid_witting_signature_reserved), ("witting/printer.infixes", laid_witting_printer_infixes), ("unicode/utf8.first", laid_unicode_utf8_first)] }
def PrinterApartSaid : Prop := printerApartRow.holds Tryz.pinned (OpenSpec.ofChange printerApartSpec)

/-- ITS FALSE NEIGHBOUR: 'it returns false'. Refute it at one input. -/
def printerApartWrong : ChangeSpec := { name := "printerApart", fn := fun _ => fun
  | [d1, d2, d3] => { results := [.lit (.bool false)], args := [d1, d2, d3] }
  | _ => none }
def PrinterApartWrongFalsely : Prop := printerApartRow.holds Tryz.pinned (OpenSpec.ofChange printerApartWrong)

/- THE SECOND FORM. 'bulk': how many values and letters a reading holds, each counted each time it is reached (what is shared counts as often as it is met; a slice's spare places count too). A statement '..UptoSaid' is the law's where the arguments, and the package variables that the reading takes, are together of bulk at most 1048576: NARROWER than '..Said'. Prove '..Said' where nothing that the law and all that it calls make is longer than what came in: it says more and counts as full. Else prove '..UptoSaid'. A law counts once. -/
mutual
def uptoBulk {H : Type} : DataW H → Nat
  | .lit (.string bytes) => bytes.length + 1
  | .lit _ => 1
  | .nil => 1
  | .ptr d => uptoBulk d + 1
  | .slice elems spare => uptoBulkAll elems + uptoBulkAll spare + 1
  | .agg parts => uptoBulkAll parts + 1
  | .iface _ d => uptoBulk d + 1
  | .map entries => uptoBulkEntries entries + 1
  | .held _ => 1
def uptoBulkAll {H : Type} : List (DataW H) → Nat
  | [] => 0
  | d :: r => uptoBulk d + uptoBulkAll r
def uptoBulkEntries {H : Type} : List (Lit × DataW H) → Nat
  | [] => 0
  | x :: r => uptoBulkEntry x + uptoBulkEntries r
def uptoBulkEntry {H : Type} : Lit × DataW H → Nat
  | (.string bytes, d) => bytes.length + uptoBulk d + 1
  | (_, d) => uptoBulk d + 1
 end
def uptoSmall : (H : Type) → List (DataW H) → Bool := fun _ ds => decide (uptoBulkAll ds ≤ 1048576)
def OpenSpec.upto (s : _root_.Go.ChangeSpec) : _root_.Go.OpenSpec := { _root_.Go.OpenSpec.ofChange s with cond := some uptoSmall }

/-- 'wittinglaw07.PrinterPrints', WHERE WHAT IT READS IS OF BULK AT MOST 1048576: true; the input reads as it did. -/
def printerPrintsUptoRow : OpenClaim := { program := "ytbidfbojealmlaagreatdoor", sum := "0b0a9b961116fc92b2274ca05ef57ebd47b0a0381bff5b4029be7472435a0ea6", func := "witting/wittinglaw07.PrinterPrints", spec := "printerPrints", inPlace := ["internal/bytealg.IndexByteString", "internal/bytealg.IndexString", "internal/abi.NoEscape", "internal/bytealg.MakeNoZero"], unfollowed := true, recurses := true, named := ["unicode/utf8.first", "unicode/utf8.acceptRanges", "witting/signature.reserved", "internal/bytealg.MaxLen", "witting/printer.infixes", "internal/strconv.uint64pow10", "math/bits.deBruijn32tab", "math/bits.deBruijn64tab"], plainKeys := false, apart := false, laid := [("math/bits.deBruijn32tab", laid_math_bits_deBruijn32tab), ("math/bits.deBruijn64tab", laid_math_bits_deBruijn64tab), ("internal/strconv.uint64pow10", laid_internal_strconv_uint64pow10), ("unicode/utf8.acceptRanges", laid_unicode_utf8_acceptRanges), ("witting/signature.reserved", laid_witting_signature_reserved), ("witting/printer.infixes", laid_witting_printer_infixes), ("unicode/utf8.first", laid_unicode_utf8_first)], narrowed := true }
def PrinterPrintsUptoSaid : Prop := printerPrintsUptoRow.holds Tryz.pinned (OpenSpec.upto printerPrintsSpec)

/-- 'wittinglaw07.PrinterBack', WHERE WHAT IT READS IS OF BULK AT MOST 1048576: true; the input reads as it did. -/
def printerBackUptoRow : OpenClaim := { program := "ytbidfbojealmlaagreatdoor", sum := "0b0a9b961116fc92b2274ca05ef57ebd47b0a0381bff5b4029be7472435a0ea6", func := "witting/wittinglaw07.PrinterBack", spec := "printerBack", inPlace := ["internal/bytealg.IndexByteString", "internal/bytealg.IndexString", "internal/abi.NoEscape", "internal/bytealg.MakeNoZero"], unfollowed := true, recurses := true, named := ["unicode/utf8.first", "unicode/utf8.acceptRanges", "witting/signature.reserved", "internal/bytealg.MaxLen", "witting/printer.infixes", "internal/strconv.uint64pow10", "math/bits.deBruijn32tab", "math/bits.deBruijn64tab"], plainKeys := false, apart := false, laid := [("math/bits.deBruijn32tab", laid_math_bits_deBruijn32tab), ("math/bits.deBruijn64tab", laid_math_bits_deBruijn64tab), ("internal/strconv.uint64pow10", laid_internal_strconv_uint64pow10), ("unicode/utf8.acceptRanges", laid_unicode_utf8_acceptRanges), ("witting/signature.reserved", laid_witting_signature_reserved), ("witting/printer.infixes", laid_witting_printer_infixes), ("unicode/utf8.first", laid_unicode_utf8_first)], narrowed := true }
def PrinterBackUptoSaid : Prop := printerBackUptoRow.holds Tryz.pinned (OpenSpec.upto printerBackSpec)

/-- 'wittinglaw07.PrinterNames', WHERE WHAT IT READS IS OF BULK AT MOST 1048576: true; the input reads as it did. -/
def printerNamesUptoRow : OpenClaim := { program := "ytbidfbojealmlaagreatdoor", sum := "0b0a9b961116fc92b2274ca05ef57ebd47b0a0381bff5b4029be7472435a0ea6", func := "witting/wittinglaw07.PrinterNames", spec := "printerNames", inPlace := ["internal/bytealg.IndexByteString", "internal/bytealg.IndexString", "internal/abi.NoEscape", "internal/bytealg.MakeNoZero"], unfollowed := true, recurses := true, named := ["unicode/utf8.first", "unicode/utf8.acceptRanges", "witting/signature.reserved", "internal/bytealg.MaxLen", "witting/printer.infixes", "internal/strconv.uint64pow10", "math/bits.deBruijn32tab", "math/bits.deBruijn64tab"], plainKeys := false, apart := false, laid := [("math/bits.deBruijn32tab", laid_math_bits_deBruijn32tab), ("math/bits.deBruijn64tab", laid_math_bits_deBruijn64tab), ("internal/strconv.uint64pow10", laid_internal_strconv_uint64pow10), ("unicode/utf8.acceptRanges", laid_unicode_utf8_acceptRanges), ("witting/signature.reserved", laid_witting_signature_reserved), ("witting/printer.infixes", laid_witting_printer_infixes), ("unicode/utf8.first", laid_unicode_utf8_first)], narrowed := true }
def PrinterNamesUptoSaid : Prop := printerNamesUptoRow.holds Tryz.pinned (OpenSpec.upto printerNamesSpec)

/-- 'wittinglaw07.PrinterLimits', WHERE WHAT IT READS IS OF BULK AT MOST 1048576: true; the input reads as it did. -/
def printerLimitsUptoRow : OpenClaim := { program := "ytbidfbojealmlaagreatdoor", sum := "0b0a9b961116fc92b2274ca05ef57ebd47b0a0381bff5b4029be7472435a0ea6", func := "witting/wittinglaw07.PrinterLimits", spec := "printerLimits", inPlace := ["internal/bytealg.IndexByteString", "internal/bytealg.IndexString", "internal/abi.NoEscape", "internal/bytealg.MakeNoZero"], unfollowed := true, recurses := true, named := ["unicode/utf8.first", "unicode/utf8.acceptRanges", "witting/signature.reserved", "internal/bytealg.MaxLen", "witting/printer.infixes", "internal/strconv.uint64pow10", "math/bits.deBruijn32tab", "math/bits.deBruijn64tab"], plainKeys := false, apart := false, laid := [("math/bits.deBruijn32tab", laid_math_bits_deBruijn32tab), ("math/bits.deBruijn64tab", laid_math_bits_deBruijn64tab), ("internal/strconv.uint64pow10", laid_internal_strconv_uint64pow10), ("unicode/utf8.acceptRanges", laid_unicode_utf8_acceptRanges), ("witting/signature.reserved", laid_witting_signature_reserved), ("witting/printer.infixes", laid_witting_printer_infixes), ("unicode/utf8.first", laid_unicode_utf8_first)], narrowed := true }
def PrinterLimitsUptoSaid : Prop := printerLimitsUptoRow.holds Tryz.pinned (OpenSpec.upto printerLimitsSpec)

/-- 'wittinglaw07.PrinterMinimal', WHERE WHAT IT READS IS OF BULK AT MOST 1048576: true; the input reads as it did. -/
def printerMinimalUptoRow : OpenClaim := { program := "ytbidfbojealmlaagreatdoor", sum := "0b0a9b961116fc92b2274ca05ef57ebd47b0a0381bff5b4029be7472435a0ea6", func := "witting/wittinglaw07.PrinterMinimal", spec := "printerMinimal", inPlace := ["internal/bytealg.IndexByteString", "internal/bytealg.IndexString", "internal/abi.NoEscape", "internal/bytealg.MakeNoZero"], unfollowed := true, recurses := true, named := ["unicode/utf8.first", "unicode/utf8.acceptRanges", "witting/signature.reserved", "internal/bytealg.MaxLen", "witting/printer.infixes", "internal/strconv.uint64pow10", "math/bits.deBruijn32tab", "math/bits.deBruijn64tab"], plainKeys := false, apart := false, laid := [("math/bits.deBruijn32tab", laid_math_bits_deBruijn32tab), ("math/bits.deBruijn64tab", laid_math_bits_deBruijn64tab), ("internal/strconv.uint64pow10", laid_internal_strconv_uint64pow10), ("unicode/utf8.acceptRanges", laid_unicode_utf8_acceptRanges), ("witting/signature.reserved", laid_witting_signature_reserved), ("witting/printer.infixes", laid_witting_printer_infixes), ("unicode/utf8.first", laid_unicode_utf8_first)], narrowed := true }
def PrinterMinimalUptoSaid : Prop := printerMinimalUptoRow.holds Tryz.pinned (OpenSpec.upto printerMinimalSpec)

/-- 'wittinglaw07.PrinterTexts', WHERE WHAT IT READS IS OF BULK AT MOST 1048576: true; the input reads as it did. -/
def printerTextsUptoRow : OpenClaim := { program := "ytbidfbojealmlaagreatdoor", sum := "0b0a9b961116fc92b2274ca05ef57ebd47b0a0381bff5b4029be7472435a0ea6", func := "witting/wittinglaw07.PrinterTexts", spec := "printerTexts", inPlace := ["internal/bytealg.IndexByteString", "internal/bytealg.IndexString", "internal/abi.NoEscape", "internal/bytealg.MakeNoZero"], unfollowed := true, recurses := true, named := ["unicode/utf8.first", "unicode/utf8.acceptRanges", "witting/signature.reserved", "internal/bytealg.MaxLen", "witting/printer.infixes", "internal/strconv.uint64pow10", "math/bits.deBruijn32tab", "math/bits.deBruijn64tab"], plainKeys := false, apart := false, laid := [("math/bits.deBruijn32tab", laid_math_bits_deBruijn32tab), ("math/bits.deBruijn64tab", laid_math_bits_deBruijn64tab), ("internal/strconv.uint64pow10", laid_internal_strconv_uint64pow10), ("unicode/utf8.acceptRanges", laid_unicode_utf8_acceptRanges), ("witting/signature.reserved", laid_witting_signature_reserved), ("witting/printer.infixes", laid_witting_printer_infixes), ("unicode/utf8.first", laid_unicode_utf8_first)], narrowed := true }
def PrinterTextsUptoSaid : Prop := printerTextsUptoRow.holds Tryz.pinned (OpenSpec.upto printerTextsSpec)

/-- 'wittinglaw07.PrinterApart', WHERE WHAT IT READS IS OF BULK AT MOST 1048576: true; the input reads as it did. -/
def printerApartUptoRow : OpenClaim := { program := "ytbidfbojealmlaagreatdoor", sum := "0b0a9b961116fc92b2274ca05ef57ebd47b0a0381bff5b4029be7472435a0ea6", func := "witting/wittinglaw07.PrinterApart", spec := "printerApart", inPlace := ["internal/bytealg.IndexByteString", "internal/bytealg.IndexString", "internal/abi.NoEscape", "internal/bytealg.MakeNoZero"], unfollowed := true, recurses := true, named := ["unicode/utf8.first", "unicode/utf8.acceptRanges", "witting/signature.reserved", "internal/bytealg.MaxLen", "witting/printer.infixes", "internal/strconv.uint64pow10", "math/bits.deBruijn32tab", "math/bits.deBruijn64tab"], plainKeys := false, apart := false, laid := [("math/bits.deBruijn32tab", laid_math_bits_deBruijn32tab), ("math/bits.deBruijn64tab", laid_math_bits_deBruijn64tab), ("internal/strconv.uint64pow10", laid_internal_strconv_uint64pow10), ("unicode/utf8.acceptRanges", laid_unicode_utf8_acceptRanges), ("witting/signature.reserved", laid_witting_signature_reserved), ("witting/printer.infixes", laid_witting_printer_infixes), ("unicode/utf8.first", laid_unicode_utf8_first)], narrowed := true }
def PrinterApartUptoSaid : Prop := printerApartUptoRow.holds Tryz.pinned (OpenSpec.upto printerApartSpec)

end Rows
end Go.Proofs.YtbidfbojealmlaaGreatDoor
