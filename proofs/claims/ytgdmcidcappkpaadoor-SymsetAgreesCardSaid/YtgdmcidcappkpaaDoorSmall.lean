/- What the reference's Few and the law's small do. No condition. -/
import Derived.Test.YtgdmcidcappkpaaDoorOpen
import Derived.Test.YtgdmcidcappkpaaDoorOpr
set_option linter.unusedVariables false
set_option linter.unusedSimpArgs false
namespace Go.Proofs.YtgdmcidcappkpaaDoor
open Go.RowKit
open Dd (Rn rat)

/-- All are small. -/
def smallB (ds : List Dg) : Bool := ds.all fun d => decide (d.R.length ≤ 60)

end Go.Proofs.YtgdmcidcappkpaaDoor
