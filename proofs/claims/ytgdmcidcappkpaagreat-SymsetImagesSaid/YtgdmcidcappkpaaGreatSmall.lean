/- What the reference's Few and the law's small do. No condition. -/
import Derived.Test.YtgdmcidcappkpaaGreatOpen
import Derived.Test.YtgdmcidcappkpaaGreatOpr
set_option linter.unusedVariables false
set_option linter.unusedSimpArgs false
namespace Go.Proofs.YtgdmcidcappkpaaGreat
open Go.RowKit
open Dd (Rn rat)

set_option maxRecDepth 100000 in
theorem few_any (V r : Int) (A : Option Addr) (n c : Nat) (hn : n ≤ 9223372036854775807) (w : World) : Calls Tryz.prog 17 #[.agg #[.int .i64 V, .slice A n c, .int .i64 r]] w fun e w' => e = .returned (.bool (decide (n ≤ 60))) ∧ Keep NoF w w' := by
  by_cases h : n ≤ 60
  · have hd : decide ((n : Int) ≤ 60) = true := by simp; omega
    have he : decide (n ≤ 60) = true := by simpa using h
    rw [he]
    clear he
    go_enter Tryz.func17, Tryz.ntmps17
    go_wp2
    go_ret
    exact ⟨rfl, (Keep.refl _ _).alloc _⟩
  · have hd : decide ((n : Int) ≤ 60) = false := by simp; omega
    have he : decide (n ≤ 60) = false := by simpa using h
    rw [he]
    clear he
    go_enter Tryz.func17, Tryz.ntmps17
    go_wp2
    go_ret
    exact ⟨rfl, (Keep.refl _ _).alloc _⟩

/-- All are small. -/
def smallB (ds : List Dg) : Bool := ds.all fun d => decide (d.R.length ≤ 60)

end Go.Proofs.YtgdmcidcappkpaaGreat
