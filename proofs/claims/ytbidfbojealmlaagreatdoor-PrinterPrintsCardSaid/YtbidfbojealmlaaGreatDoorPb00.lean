/- The length of a token by its first byte, plain. No condition. -/
import Derived.Test.YtbidfbojealmlaaGreatDoorPaU
set_option linter.unusedVariables false
set_option linter.unusedSimpArgs false
namespace Go.Proofs.YtbidfbojealmlaaGreatDoor
open Go.RowKit

end Go.Proofs.YtbidfbojealmlaaGreatDoor
