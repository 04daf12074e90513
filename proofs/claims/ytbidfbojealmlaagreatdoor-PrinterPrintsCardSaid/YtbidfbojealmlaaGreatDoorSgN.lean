/- Small functions: Few, Same, sameList, short. No condition. -/
import Derived.Test.YtbidfbojealmlaaGreatDoorSgHJ
set_option linter.unusedVariables false
set_option linter.unusedSimpArgs false
namespace Go.Proofs.YtbidfbojealmlaaGreatDoor
open Go.RowKit

def fewB (S : Sg) : Bool := decide (S.A.length ≤ 12) && decide (S.F.length ≤ 12) && decide (S.C.length ≤ 12)
section
set_option maxRecDepth 100000
set_option maxHeartbeats 2000000
theorem Few_any (S : Sg) (a f c : Option Addr) (ca cf cc : Nat) (w : World) :
    Calls Tryz.prog 25 #[.agg #[.slice a S.A.length ca, .slice f S.F.length cf, .slice c S.C.length cc]] w fun e w' => e = .returned (.bool (fewB S)) ∧ Keep NoF w w' := by
  have hK0 : Keep NoF w (w.alloc (.cells (boxS S a ca f cf c cc) 24)) := (Keep.refl _ _).alloc _
  unfold boxS at hK0
  unfold fewB
  by_cases h1 : S.A.length ≤ 12
  · by_cases h2 : S.F.length ≤ 12
    · by_cases h3 : S.C.length ≤ 12
      · rw [decide_eq_true h1, decide_eq_true h2, decide_eq_true h3]
        go_enter Tryz.func25, Tryz.ntmps25
        go_wp2
        go_ret
        exact ⟨congrArg (fun b => Ending.returned (Value.bool b)) (decide_eq_true (p := (S.C.length : Int) ≤ 12) (by omega)), hK0⟩
      · rw [decide_eq_true h1, decide_eq_true h2, decide_eq_false h3]
        go_enter Tryz.func25, Tryz.ntmps25
        go_wp2
        go_ret
        exact ⟨congrArg (fun b => Ending.returned (Value.bool b)) (decide_eq_false (p := (S.C.length : Int) ≤ 12) (by omega)), hK0⟩
    · rw [decide_eq_true h1, decide_eq_false h2]
      go_enter Tryz.func25, Tryz.ntmps25
      go_wp2
      go_ret
      exact ⟨rfl, hK0⟩
  · rw [decide_eq_false h1]
    go_enter Tryz.func25, Tryz.ntmps25
    go_wp2
    go_ret
    exact ⟨rfl, hK0⟩
end
end Go.Proofs.YtbidfbojealmlaaGreatDoor
