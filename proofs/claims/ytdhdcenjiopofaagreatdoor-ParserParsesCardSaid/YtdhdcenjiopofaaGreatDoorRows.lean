/-
  NARROWER THAN 'FOR EVERY INPUT', by the rows' own cells (each row's printed sentence says how): ParserParses: laid · ParserFits: laid.
  DERIVED. THE GIVEN ROWS OF THIS SEAT. 2 by the template 'for every input the law returns true; each argument reads behind the call as it read before'; 0 by the template 'total and deterministic' (their statements: YtdhdcenjiopofaaGreatDoorTotals.lean).
  GIVEN WITH THE SEED: the statements are not yours to turn. If you find one false, say at which input.
  Laid BY PROGRAM, IN A SANDBOX (cutbox-rows.mjs): the forced cells as the released guide's own fill.sh prints them over the translation f9b7d28799f58560… (all of the seat's roots in one cut). By AI agents, Wed Nov 11 2026. No macro, syntax, notation, axiom, sorry.
-/
import Derived.Test.YtdhdcenjiopofaaGreatDoorChecked
import GoSem.PinnedTables
import GoSem.Claim
import GoSem.ClaimJoined
import GoSem.ClaimMapViews
import Derived.JoinedTies
import Derived.KernelRfl
namespace Go.Proofs.YtdhdcenjiopofaaGreatDoor
/- THE CELL 'sum', in the pinned program and in every row, IS THE sha256 OF THE DUMP (.gsa) THAT YtdhdcenjiopofaaGreatDoorProg.lean LOADS. Nothing in Lean hashes anything: it is a label: what it is worth is what the hold of that sum in a sandbox is worth. -/
noncomputable def Tryz.pinned : Pinned := { name := "ytdhdcenjiopofaagreatdoor", sum := "f9b7d28799f585601f7bd22dab47e565ef92a1b6ffa707cb27401ff69cdaaa8c", checked := Tryz.checked }
namespace Rows
def none {H : Type} : Left H := { results := [], args := [] }

/- WHAT THE LISTED PACKAGE-LEVEL VARIABLES READ AS WHEN THE CALL BEGINS. Each datum BY PROGRAM (the guide's laid-datum.mjs) off the statement by which the dump's own 'gosem.cut.vars' lays the variable. In a bare row this is a premise. The card (YtdhdcenjiopofaaGreatDoorCards.lean) ties it to the program's text. -/
def laid_unicode_utf8_acceptRanges {H : Type} : DataW H := .agg [.agg [.lit (.int .u8 128), .lit (.int .u8 191)], .agg [.lit (.int .u8 160), .lit (.int .u8 191)], .agg [.lit (.int .u8 128), .lit (.int .u8 159)], .agg [.lit (.int .u8 144), .lit (.int .u8 191)], .agg [.lit (.int .u8 128), .lit (.int .u8 143)], .agg [.lit (.int .u8 0), .lit (.int .u8 0)], .agg [.lit (.int .u8 0), .lit (.int .u8 0)], .agg [.lit (.int .u8 0), .lit (.int .u8 0)], .agg [.lit (.int .u8 0), .lit (.int .u8 0)], .agg [.lit (.int .u8 0), .lit (.int .u8 0)], .agg [.lit (.int .u8 0), .lit (.int .u8 0)], .agg [.lit (.int .u8 0), .lit (.int .u8 0)], .agg [.lit (.int .u8 0), .lit (.int .u8 0)], .agg [.lit (.int .u8 0), .lit (.int .u8 0)], .agg [.lit (.int .u8 0), .lit (.int .u8 0)], .agg [.lit (.int .u8 0), .lit (.int .u8 0)]]
def laid_witting_signature_reserved {H : Type} : DataW H := .agg [.lit (.string [116, 114, 117, 101]), .lit (.string [102, 97, 108, 115, 101]), .lit (.string [110, 101, 120, 116]), .lit (.string [112, 114, 101, 118]), .lit (.string [117, 110, 116, 105, 108]), .lit (.string [115, 105, 110, 99, 101]), .lit (.string [100, 111])]
/-- One of Go's own tables, pinned by name: the form's constant. -/
def laid_unicode_utf8_first : DataW Unit := Go.Pinned.utf8First

/-- 'wittinglaw06.ParserParses': WHATEVER THE INPUT: true; the input reads as it did. -/
def parserParsesSpec : ChangeSpec := { name := "parserParses", fn := fun _ => fun
  | [d1, d2] => { results := [.lit (.bool true)], args := [d1, d2] }
  | _ => none }
def parserParsesRow : OpenClaim := { program := "ytdhdcenjiopofaagreatdoor", sum := "f9b7d28799f585601f7bd22dab47e565ef92a1b6ffa707cb27401ff69cdaaa8c", func := "witting/wittinglaw06.ParserParses", spec := "parserParses", inPlace := ["internal/bytealg.IndexByteString", "internal/bytealg.IndexString"], unfollowed := true, recurses := true, named := ["unicode/utf8.first", "unicode/utf8.acceptRanges", "witting/signature.reserved", "internal/bytealg.MaxLen"], plainKeys := false, apart := false, laid := [("unicode/utf8.acceptRanges", laid_unicode_utf8_acceptRanges), ("witting/signature.reserved", laid_witting_signature_reserved), ("unicode/utf8.first", laid_unicode_utf8_first)] }
def ParserParsesSaid : Prop := parserParsesRow.holds Tryz.pinned (OpenSpec.ofChange parserParsesSpec)

/-- ITS FALSE NEIGHBOUR: 'it returns false'. Refute it at one input. -/
def parserParsesWrong : ChangeSpec := { name := "parserParses", fn := fun _ => fun
  | [d1, d2] => { results := [.lit (.bool false)], args := [d1, d2] }
  | _ => none }
def ParserParsesWrongFalsely : Prop := parserParsesRow.holds Tryz.pinned (OpenSpec.ofChange parserParsesWrong)

/-- 'wittinglaw06.ParserFits': WHATEVER THE INPUT: true; the input reads as it did. -/
def parserFitsSpec : ChangeSpec := { name := "parserFits", fn := fun _ => fun
  | [d1, d2] => { results := [.lit (.bool true)], args := [d1, d2] }
  | _ => none }
def parserFitsRow : OpenClaim := { program := "ytdhdcenjiopofaagreatdoor", sum := "f9b7d28799f585601f7bd22dab47e565ef92a1b6ffa707cb27401ff69cdaaa8c", func := "witting/wittinglaw06.ParserFits", spec := "parserFits", inPlace := ["internal/bytealg.IndexByteString", "internal/bytealg.IndexString"], unfollowed := true, recurses := true, named := ["unicode/utf8.first", "unicode/utf8.acceptRanges", "witting/signature.reserved", "internal/bytealg.MaxLen"], plainKeys := false, apart := false, laid := [("unicode/utf8.acceptRanges", laid_unicode_utf8_acceptRanges), ("witting/signature.reserved", laid_witting_signature_reserved), ("unicode/utf8.first", laid_unicode_utf8_first)] }
def ParserFitsSaid : Prop := parserFitsRow.holds Tryz.pinned (OpenSpec.ofChange parserFitsSpec)

/-- ITS FALSE NEIGHBOUR: 'it returns false'. Refute it at one input. -/
def parserFitsWrong : ChangeSpec := { name := "parserFits", fn := fun _ => fun
  | [d1, d2] => { results := [.lit (.bool false)], args := [d1, d2] }
  | _ => none }
def ParserFitsWrongFalsely : Prop := parserFitsRow.holds Tryz.pinned (OpenSpec.ofChange parserFitsWrong)

/- THE SECOND FORM. 'bulk': how many values and letters a reading holds, each counted each time it is reached (what is shared counts as often as it is met; a slice's spare places count too). A statement '..UptoSaid' is the law's where the arguments, and the package variables that the reading takes, are together of bulk at most 1048576: NARROWER than '..Said'. Prove '..Said' where nothing that the law and all that it calls make is longer than what came in: it says more and counts as full. Else prove '..UptoSaid'. A law counts once. -/
mutual
def uptoBulk {H : Type} : DataW H → Nat
  | .lit (.string bytes) => bytes.length + 1
  | .lit _ => 1
  | .nil => 1
  | .ptr d => uptoBulk d + 1
  | .slice elems spare => uptoBulkAll elems + uptoBulkAll spare + 1
  | .agg parts => uptoBulkAll parts + 1
  | .iface _ d => uptoBulk d + 1
  | .map entries => uptoBulkEntries entries + 1
  | .held _ => 1
def uptoBulkAll {H : Type} : List (DataW H) → Nat
  | [] => 0
  | d :: r => uptoBulk d + uptoBulkAll r
def uptoBulkEntries {H : Type} : List (Lit × DataW H) → Nat
  | [] => 0
  | x :: r => uptoBulkEntry x + uptoBulkEntries r
def uptoBulkEntry {H : Type} : Lit × DataW H → Nat
  | (.string bytes, d) => bytes.length + uptoBulk d + 1
  | (_, d) => uptoBulk d + 1
 end
def uptoSmall : (H : Type) → List (DataW H) → Bool := fun _ ds => decide (uptoBulkAll ds ≤ 1048576)
def OpenSpec.upto (s : _root_.Go.ChangeSpec) : _root_.Go.OpenSpec := { _root_.Go.OpenSpec.ofChange s with cond := some uptoSmall }

/-- 'wittinglaw06.ParserParses', WHERE WHAT IT READS IS OF BULK AT MOST 1048576: true; the input reads as it did. -/
def parserParsesUptoRow : OpenClaim := { program := "ytdhdcenjiopofaagreatdoor", sum := "f9b7d28799f585601f7bd22dab47e565ef92a1b6ffa707cb27401ff69cdaaa8c", func := "witting/wittinglaw06.ParserParses", spec := "parserParses", inPlace := ["internal/bytealg.IndexByteString", "internal/bytealg.IndexString"], unfollowed := true, recurses := true, named := ["unicode/utf8.first", "unicode/utf8.acceptRanges", "witting/signature.reserved", "internal/bytealg.MaxLen"], plainKeys := false, apart := false, laid := [("unicode/utf8.acceptRanges", laid_unicode_utf8_acceptRanges), ("witting/signature.reserved", laid_witting_signature_reserved), ("unicode/utf8.first", laid_unicode_utf8_first)], narrowed := true }
def ParserParsesUptoSaid : Prop := parserParsesUptoRow.holds Tryz.pinned (OpenSpec.upto parserParsesSpec)

/-- 'wittinglaw06.ParserFits', WHERE WHAT IT READS IS OF BULK AT MOST 1048576: true; the input reads as it did. -/
def parserFitsUptoRow : OpenClaim := { program := "ytdhdcenjiopofaagreatdoor", sum := "f9b7d28799f585601f7bd22dab47e565ef92a1b6ffa707cb27401ff69cdaaa8c", func := "witting/wittinglaw06.ParserFits", spec := "parserFits", inPlace := ["internal/bytealg.IndexByteString", "internal/bytealg.IndexString"], unfollowed := true, recurses := true, named := ["unicode/utf8.first", "unicode/utf8.acceptRanges", "witting/signature.reserved", "internal/bytealg.MaxLen"], plainKeys := false, apart := false, laid := [("unicode/utf8.acceptRanges", laid_unicode_utf8_acceptRanges), ("witting/signature.reserved", laid_witting_signature_reserved), ("unicode/utf8.first", laid_unicode_utf8_first)], narrowed := true }
def ParserFitsUptoSaid : Prop := parserFitsUptoRow.holds Tryz.pinned (OpenSpec.upto parserFitsSpec)

end Rows
end Go.Proofs.YtdhdcenjiopofaaGreatDoor
