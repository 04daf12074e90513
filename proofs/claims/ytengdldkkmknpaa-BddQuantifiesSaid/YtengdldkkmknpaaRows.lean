/-
  No cell of these rows narrows 'for every input' (looked for: loops, veiled, ifaces, maps, wideKeys, modest, calm, conditions, laid).
  DERIVED. THE GIVEN ROWS OF THIS SEAT. 8 by the template 'for every input the law returns true; each argument reads behind the call as it read before'; 0 by the template 'total and deterministic' (their statements: YtengdldkkmknpaaTotals.lean).
  GIVEN WITH THE SEED: the statements are not yours to turn. If you find one false, say at which input.
  Laid BY PROGRAM, IN A SANDBOX (cutbox-rows.mjs): the forced cells as the released guide's own fill.sh prints them over the translation f43a6286d9129f3f… (all of the seat's roots in one cut). By AI agents, Wed Nov 11 2026. No macro, syntax, notation, axiom, sorry.
-/
import Derived.Test.YtengdldkkmknpaaChecked
import GoSem.Claim
import GoSem.ClaimJoined
import GoSem.ClaimMapViews
import Derived.JoinedTies
import Derived.KernelRfl
namespace Go.Proofs.Ytengdldkkmknpaa
/- THE CELL 'sum', in the pinned program and in every row, IS THE sha256 OF THE DUMP (.gsa) THAT YtengdldkkmknpaaProg.lean LOADS. Nothing in Lean hashes anything: it is a label: what it is worth is what the hold of that sum in a sandbox is worth. -/
noncomputable def Try.pinned : Pinned := { name := "ytengdldkkmknpaa", sum := "f43a6286d9129f3fd8b8e210f6a39f9e1b297b084a89e9d6528e80f443c513f3", checked := Try.checked }
namespace Rows
def none {H : Type} : Left H := { results := [], args := [] }

/-- 'wittinglaw11.BddChecks': WHATEVER THE INPUT: true; the input reads as it did. -/
def bddChecksSpec : ChangeSpec := { name := "bddChecks", fn := fun _ => fun
  | [d1, d2] => { results := [.lit (.bool true)], args := [d1, d2] }
  | _ => none }
def bddChecksRow : OpenClaim := { program := "ytengdldkkmknpaa", sum := "f43a6286d9129f3fd8b8e210f6a39f9e1b297b084a89e9d6528e80f443c513f3", func := "witting/wittinglaw11.BddChecks", spec := "bddChecks", unfollowed := true, recurses := true, plainKeys := false, apart := false }
def BddChecksSaid : Prop := bddChecksRow.holds Try.pinned (OpenSpec.ofChange bddChecksSpec)

/-- ITS FALSE NEIGHBOUR: 'it returns false'. Refute it at one input. -/
def bddChecksWrong : ChangeSpec := { name := "bddChecks", fn := fun _ => fun
  | [d1, d2] => { results := [.lit (.bool false)], args := [d1, d2] }
  | _ => none }
def BddChecksWrongFalsely : Prop := bddChecksRow.holds Try.pinned (OpenSpec.ofChange bddChecksWrong)

/-- 'wittinglaw11.BddCombines': WHATEVER THE INPUT: true; the input reads as it did. -/
def bddCombinesSpec : ChangeSpec := { name := "bddCombines", fn := fun _ => fun
  | [d1, d2, d3] => { results := [.lit (.bool true)], args := [d1, d2, d3] }
  | _ => none }
def bddCombinesRow : OpenClaim := { program := "ytengdldkkmknpaa", sum := "f43a6286d9129f3fd8b8e210f6a39f9e1b297b084a89e9d6528e80f443c513f3", func := "witting/wittinglaw11.BddCombines", spec := "bddCombines", unfollowed := true, recurses := true, plainKeys := false, apart := false }
def BddCombinesSaid : Prop := bddCombinesRow.holds Try.pinned (OpenSpec.ofChange bddCombinesSpec)

/-- ITS FALSE NEIGHBOUR: 'it returns false'. Refute it at one input. -/
def bddCombinesWrong : ChangeSpec := { name := "bddCombines", fn := fun _ => fun
  | [d1, d2, d3] => { results := [.lit (.bool false)], args := [d1, d2, d3] }
  | _ => none }
def BddCombinesWrongFalsely : Prop := bddCombinesRow.holds Try.pinned (OpenSpec.ofChange bddCombinesWrong)

/-- 'wittinglaw11.BddStarts': WHATEVER THE INPUT: true; the input reads as it did. -/
def bddStartsSpec : ChangeSpec := { name := "bddStarts", fn := fun _ => fun
  | [d1, d2, d3] => { results := [.lit (.bool true)], args := [d1, d2, d3] }
  | _ => none }
def bddStartsRow : OpenClaim := { program := "ytengdldkkmknpaa", sum := "f43a6286d9129f3fd8b8e210f6a39f9e1b297b084a89e9d6528e80f443c513f3", func := "witting/wittinglaw11.BddStarts", spec := "bddStarts", unfollowed := true, recurses := true, plainKeys := false, apart := false }
def BddStartsSaid : Prop := bddStartsRow.holds Try.pinned (OpenSpec.ofChange bddStartsSpec)

/-- ITS FALSE NEIGHBOUR: 'it returns false'. Refute it at one input. -/
def bddStartsWrong : ChangeSpec := { name := "bddStarts", fn := fun _ => fun
  | [d1, d2, d3] => { results := [.lit (.bool false)], args := [d1, d2, d3] }
  | _ => none }
def BddStartsWrongFalsely : Prop := bddStartsRow.holds Try.pinned (OpenSpec.ofChange bddStartsWrong)

/-- 'wittinglaw11.BddTables': WHATEVER THE INPUT: true; the input reads as it did. -/
def bddTablesSpec : ChangeSpec := { name := "bddTables", fn := fun _ => fun
  | [d1, d2, d3] => { results := [.lit (.bool true)], args := [d1, d2, d3] }
  | _ => none }
def bddTablesRow : OpenClaim := { program := "ytengdldkkmknpaa", sum := "f43a6286d9129f3fd8b8e210f6a39f9e1b297b084a89e9d6528e80f443c513f3", func := "witting/wittinglaw11.BddTables", spec := "bddTables", unfollowed := true, recurses := true, plainKeys := false, apart := false }
def BddTablesSaid : Prop := bddTablesRow.holds Try.pinned (OpenSpec.ofChange bddTablesSpec)

/-- ITS FALSE NEIGHBOUR: 'it returns false'. Refute it at one input. -/
def bddTablesWrong : ChangeSpec := { name := "bddTables", fn := fun _ => fun
  | [d1, d2, d3] => { results := [.lit (.bool false)], args := [d1, d2, d3] }
  | _ => none }
def BddTablesWrongFalsely : Prop := bddTablesRow.holds Try.pinned (OpenSpec.ofChange bddTablesWrong)

/-- 'wittinglaw11.BddFirst': WHATEVER THE INPUT: true; the input reads as it did. -/
def bddFirstSpec : ChangeSpec := { name := "bddFirst", fn := fun _ => fun
  | [d] => { results := [.lit (.bool true)], args := [d] }
  | _ => none }
def bddFirstRow : OpenClaim := { program := "ytengdldkkmknpaa", sum := "f43a6286d9129f3fd8b8e210f6a39f9e1b297b084a89e9d6528e80f443c513f3", func := "witting/wittinglaw11.BddFirst", spec := "bddFirst", unfollowed := true, recurses := true, plainKeys := false, apart := false }
def BddFirstSaid : Prop := bddFirstRow.holds Try.pinned (OpenSpec.ofChange bddFirstSpec)

/-- ITS FALSE NEIGHBOUR: 'it returns false'. Refute it at one input. -/
def bddFirstWrong : ChangeSpec := { name := "bddFirst", fn := fun _ => fun
  | [d] => { results := [.lit (.bool false)], args := [d] }
  | _ => none }
def BddFirstWrongFalsely : Prop := bddFirstRow.holds Try.pinned (OpenSpec.ofChange bddFirstWrong)

/-- 'wittinglaw11.BddAlgebra': WHATEVER THE INPUT: true; the input reads as it did. -/
def bddAlgebraSpec : ChangeSpec := { name := "bddAlgebra", fn := fun _ => fun
  | [d1, d2, d3] => { results := [.lit (.bool true)], args := [d1, d2, d3] }
  | _ => none }
def bddAlgebraRow : OpenClaim := { program := "ytengdldkkmknpaa", sum := "f43a6286d9129f3fd8b8e210f6a39f9e1b297b084a89e9d6528e80f443c513f3", func := "witting/wittinglaw11.BddAlgebra", spec := "bddAlgebra", unfollowed := true, recurses := true, plainKeys := false, apart := false }
def BddAlgebraSaid : Prop := bddAlgebraRow.holds Try.pinned (OpenSpec.ofChange bddAlgebraSpec)

/-- ITS FALSE NEIGHBOUR: 'it returns false'. Refute it at one input. -/
def bddAlgebraWrong : ChangeSpec := { name := "bddAlgebra", fn := fun _ => fun
  | [d1, d2, d3] => { results := [.lit (.bool false)], args := [d1, d2, d3] }
  | _ => none }
def BddAlgebraWrongFalsely : Prop := bddAlgebraRow.holds Try.pinned (OpenSpec.ofChange bddAlgebraWrong)

/-- 'wittinglaw11.BddQuantifies': WHATEVER THE INPUT: true; the input reads as it did. -/
def bddQuantifiesSpec : ChangeSpec := { name := "bddQuantifies", fn := fun _ => fun
  | [d1, d2, d3] => { results := [.lit (.bool true)], args := [d1, d2, d3] }
  | _ => none }
def bddQuantifiesRow : OpenClaim := { program := "ytengdldkkmknpaa", sum := "f43a6286d9129f3fd8b8e210f6a39f9e1b297b084a89e9d6528e80f443c513f3", func := "witting/wittinglaw11.BddQuantifies", spec := "bddQuantifies", unfollowed := true, recurses := true, plainKeys := false, apart := false }
def BddQuantifiesSaid : Prop := bddQuantifiesRow.holds Try.pinned (OpenSpec.ofChange bddQuantifiesSpec)

/-- ITS FALSE NEIGHBOUR: 'it returns false'. Refute it at one input. -/
def bddQuantifiesWrong : ChangeSpec := { name := "bddQuantifies", fn := fun _ => fun
  | [d1, d2, d3] => { results := [.lit (.bool false)], args := [d1, d2, d3] }
  | _ => none }
def BddQuantifiesWrongFalsely : Prop := bddQuantifiesRow.holds Try.pinned (OpenSpec.ofChange bddQuantifiesWrong)

/-- 'wittinglaw11.BddShannon': WHATEVER THE INPUT: true; the input reads as it did. -/
def bddShannonSpec : ChangeSpec := { name := "bddShannon", fn := fun _ => fun
  | [d1, d2] => { results := [.lit (.bool true)], args := [d1, d2] }
  | _ => none }
def bddShannonRow : OpenClaim := { program := "ytengdldkkmknpaa", sum := "f43a6286d9129f3fd8b8e210f6a39f9e1b297b084a89e9d6528e80f443c513f3", func := "witting/wittinglaw11.BddShannon", spec := "bddShannon", unfollowed := true, recurses := true, plainKeys := false, apart := false }
def BddShannonSaid : Prop := bddShannonRow.holds Try.pinned (OpenSpec.ofChange bddShannonSpec)

/-- ITS FALSE NEIGHBOUR: 'it returns false'. Refute it at one input. -/
def bddShannonWrong : ChangeSpec := { name := "bddShannon", fn := fun _ => fun
  | [d1, d2] => { results := [.lit (.bool false)], args := [d1, d2] }
  | _ => none }
def BddShannonWrongFalsely : Prop := bddShannonRow.holds Try.pinned (OpenSpec.ofChange bddShannonWrong)

/- THE SECOND FORM. 'bulk': how many values and letters a reading holds, each counted each time it is reached (what is shared counts as often as it is met; a slice's spare places count too). A statement '..UptoSaid' is the law's where the arguments, and the package variables that the reading takes, are together of bulk at most 1048576: NARROWER than '..Said'. Prove '..Said' where nothing that the law and all that it calls make is longer than what came in: it says more and counts as full. Else prove '..UptoSaid'. A law counts once. -/
mutual
def uptoBulk {H : Type} : DataW H → Nat
  | .lit (.string bytes) => bytes.length + 1
  | .lit _ => 1
  | .nil => 1
  | .ptr d => uptoBulk d + 1
  | .slice elems spare => uptoBulkAll elems + uptoBulkAll spare + 1
  | .agg parts => uptoBulkAll parts + 1
  | .iface _ d => uptoBulk d + 1
  | .map entries => uptoBulkEntries entries + 1
  | .held _ => 1
def uptoBulkAll {H : Type} : List (DataW H) → Nat
  | [] => 0
  | d :: r => uptoBulk d + uptoBulkAll r
def uptoBulkEntries {H : Type} : List (Lit × DataW H) → Nat
  | [] => 0
  | x :: r => uptoBulkEntry x + uptoBulkEntries r
def uptoBulkEntry {H : Type} : Lit × DataW H → Nat
  | (.string bytes, d) => bytes.length + uptoBulk d + 1
  | (_, d) => uptoBulk d + 1
 end
def uptoSmall : (H : Type) → List (DataW H) → Bool := fun _ ds => decide (uptoBulkAll ds ≤ 1048576)
def OpenSpec.upto (s : _root_.Go.ChangeSpec) : _root_.Go.OpenSpec := { _root_.Go.OpenSpec.ofChange s with cond := some uptoSmall }

/-- 'wittinglaw11.BddChecks', WHERE WHAT IT READS IS OF BULK AT MOST 1048576: true; the input reads as it did. -/
def bddChecksUptoRow : OpenClaim := { program := "ytengdldkkmknpaa", sum := "f43a6286d9129f3fd8b8e210f6a39f9e1b297b084a89e9d6528e80f443c513f3", func := "witting/wittinglaw11.BddChecks", spec := "bddChecks", unfollowed := true, recurses := true, plainKeys := false, apart := false, narrowed := true }
def BddChecksUptoSaid : Prop := bddChecksUptoRow.holds Try.pinned (OpenSpec.upto bddChecksSpec)

/-- 'wittinglaw11.BddCombines', WHERE WHAT IT READS IS OF BULK AT MOST 1048576: true; the input reads as it did. -/
def bddCombinesUptoRow : OpenClaim := { program := "ytengdldkkmknpaa", sum := "f43a6286d9129f3fd8b8e210f6a39f9e1b297b084a89e9d6528e80f443c513f3", func := "witting/wittinglaw11.BddCombines", spec := "bddCombines", unfollowed := true, recurses := true, plainKeys := false, apart := false, narrowed := true }
def BddCombinesUptoSaid : Prop := bddCombinesUptoRow.holds Try.pinned (OpenSpec.upto bddCombinesSpec)

/-- 'wittinglaw11.BddStarts', WHERE WHAT IT READS IS OF BULK AT MOST 1048576: true; the input reads as it did. -/
def bddStartsUptoRow : OpenClaim := { program := "ytengdldkkmknpaa", sum := "f43a6286d9129f3fd8b8e210f6a39f9e1b297b084a89e9d6528e80f443c513f3", func := "witting/wittinglaw11.BddStarts", spec := "bddStarts", unfollowed := true, recurses := true, plainKeys := false, apart := false, narrowed := true }
def BddStartsUptoSaid : Prop := bddStartsUptoRow.holds Try.pinned (OpenSpec.upto bddStartsSpec)

/-- 'wittinglaw11.BddTables', WHERE WHAT IT READS IS OF BULK AT MOST 1048576: true; the input reads as it did. -/
def bddTablesUptoRow : OpenClaim := { program := "ytengdldkkmknpaa", sum := "f43a6286d9129f3fd8b8e210f6a39f9e1b297b084a89e9d6528e80f443c513f3", func := "witting/wittinglaw11.BddTables", spec := "bddTables", unfollowed := true, recurses := true, plainKeys := false, apart := false, narrowed := true }
def BddTablesUptoSaid : Prop := bddTablesUptoRow.holds Try.pinned (OpenSpec.upto bddTablesSpec)

/-- 'wittinglaw11.BddFirst', WHERE WHAT IT READS IS OF BULK AT MOST 1048576: true; the input reads as it did. -/
def bddFirstUptoRow : OpenClaim := { program := "ytengdldkkmknpaa", sum := "f43a6286d9129f3fd8b8e210f6a39f9e1b297b084a89e9d6528e80f443c513f3", func := "witting/wittinglaw11.BddFirst", spec := "bddFirst", unfollowed := true, recurses := true, plainKeys := false, apart := false, narrowed := true }
def BddFirstUptoSaid : Prop := bddFirstUptoRow.holds Try.pinned (OpenSpec.upto bddFirstSpec)

/-- 'wittinglaw11.BddAlgebra', WHERE WHAT IT READS IS OF BULK AT MOST 1048576: true; the input reads as it did. -/
def bddAlgebraUptoRow : OpenClaim := { program := "ytengdldkkmknpaa", sum := "f43a6286d9129f3fd8b8e210f6a39f9e1b297b084a89e9d6528e80f443c513f3", func := "witting/wittinglaw11.BddAlgebra", spec := "bddAlgebra", unfollowed := true, recurses := true, plainKeys := false, apart := false, narrowed := true }
def BddAlgebraUptoSaid : Prop := bddAlgebraUptoRow.holds Try.pinned (OpenSpec.upto bddAlgebraSpec)

/-- 'wittinglaw11.BddQuantifies', WHERE WHAT IT READS IS OF BULK AT MOST 1048576: true; the input reads as it did. -/
def bddQuantifiesUptoRow : OpenClaim := { program := "ytengdldkkmknpaa", sum := "f43a6286d9129f3fd8b8e210f6a39f9e1b297b084a89e9d6528e80f443c513f3", func := "witting/wittinglaw11.BddQuantifies", spec := "bddQuantifies", unfollowed := true, recurses := true, plainKeys := false, apart := false, narrowed := true }
def BddQuantifiesUptoSaid : Prop := bddQuantifiesUptoRow.holds Try.pinned (OpenSpec.upto bddQuantifiesSpec)

/-- 'wittinglaw11.BddShannon', WHERE WHAT IT READS IS OF BULK AT MOST 1048576: true; the input reads as it did. -/
def bddShannonUptoRow : OpenClaim := { program := "ytengdldkkmknpaa", sum := "f43a6286d9129f3fd8b8e210f6a39f9e1b297b084a89e9d6528e80f443c513f3", func := "witting/wittinglaw11.BddShannon", spec := "bddShannon", unfollowed := true, recurses := true, plainKeys := false, apart := false, narrowed := true }
def BddShannonUptoSaid : Prop := bddShannonUptoRow.holds Try.pinned (OpenSpec.upto bddShannonSpec)

end Rows
end Go.Proofs.Ytengdldkkmknpaa
