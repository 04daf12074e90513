/- The words of texts that are put together, plain. The tokens of texts that are put together, plain. No condition. -/
import Derived.Test.YtbidfbojealmlaaGreatDoorPaU
import Derived.Test.YtbidfbojealmlaaGreatDoorPb00
set_option linter.unusedVariables false
set_option linter.unusedSimpArgs false
namespace Go.Proofs.YtbidfbojealmlaaGreatDoor
open Go.RowKit

theorem pre_head {b c : UInt8} {r s : List UInt8} (h : Lib.hasPrefix (b :: r) (c :: s) = true) : c = b := by
  have := List.isPrefixOf_iff_prefix.1 (show List.isPrefixOf _ _ = true from h)
  exact (List.cons_prefix_cons.1 this).1
end Go.Proofs.YtbidfbojealmlaaGreatDoor
namespace Go.Proofs.YtbidfbojealmlaaGreatDoor
open Go.RowKit

/-- A word of a text, alone. -/
structure Wd (s : List UInt8) : Prop where
  len : lenT s = s.length
  ne : s ≠ []
  sp : ∀ b r, s = b :: r → spaceB b = false
end Go.Proofs.YtbidfbojealmlaaGreatDoor
