/- Whether a signature is valid: what the reference's Check does. No condition. -/
import Derived.Test.YtdhdcenjiopofaaDoorSgE
set_option linter.unusedVariables false
set_option linter.unusedSimpArgs false
namespace Go.Proofs.YtdhdcenjiopofaaDoor
open Go.RowKit

section
set_option maxRecDepth 100000
set_option maxHeartbeats 2000000
end
end Go.Proofs.YtdhdcenjiopofaaDoor
