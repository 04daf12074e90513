/- Small functions: Few, Same, sameList, short. No condition. -/
import Derived.Test.YtmnhgeggojgflaaGreatDoorSgHJ
set_option linter.unusedVariables false
set_option linter.unusedSimpArgs false
namespace Go.Proofs.YtmnhgeggojgflaaGreatDoor
open Go.RowKit

def shortB (l : List ByteArray) : Bool := l.all (fun x => decide (x.size ≤ 100)) && decide (l.length ≤ 20)
def fewB (S : Sg) : Bool := decide (S.A.length ≤ 12) && decide (S.F.length ≤ 12) && decide (S.C.length ≤ 12)
section
set_option maxRecDepth 100000
set_option maxHeartbeats 2000000
end
end Go.Proofs.YtmnhgeggojgflaaGreatDoor
