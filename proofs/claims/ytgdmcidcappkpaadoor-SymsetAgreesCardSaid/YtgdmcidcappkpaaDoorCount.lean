/- What Count does. No condition. -/
import Derived.Test.YtgdmcidcappkpaaDoorEval
import Derived.Outline
set_option linter.unusedVariables false
set_option linter.unusedSimpArgs false
namespace Go.Proofs.YtgdmcidcappkpaaDoor
open Go.RowKit
open Dd (Rn rat ofN toN checkErr den lo var vr cn cns)

def countD (a : Dg) : Nat := if a.err = 0 then cn a.V.toNat (toN a.R) a.root.toNat else 0

theorem shl_fits (c v y u : Nat) (hu : u < y) (hy : y ≤ v) (hv : v ≤ 24) (hc : c ≤ 2 ^ (v - y)) : c * 2 ^ (y - u - 1) ≤ 16777216 := by
  have h : 2 ^ (v - y) * 2 ^ (y - u - 1) ≤ 2 ^ 24 := by rw [← Nat.pow_add]; exact Nat.pow_le_pow_right (by omega) (by omega)
  exact Nat.le_trans (Nat.mul_le_mul_right _ hc) h
theorem shl_wrap (c m : Nat) (h : c * 2 ^ m ≤ 16777216) : wrap64 ((c : Int) * 2 ^ m) = ((c * 2 ^ m : Nat) : Int) := by
  have e : (c : Int) * 2 ^ m = ((c * 2 ^ m : Nat) : Int) := by push_cast; rfl
  rw [e]
  clear e
  generalize c * 2 ^ m = q at *
  unfold wrap64
  omega

end Go.Proofs.YtgdmcidcappkpaaDoor
