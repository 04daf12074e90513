/- Package formula: what slices.Equal at lists of nodes and Same do. No condition. -/
import Derived.Test.YtdhdcenjiopofaaGreatDoorFmK
import Derived.BigQuiet
import Derived.Deep.QuietTactic
set_option linter.unusedVariables false
set_option linter.unusedSimpArgs false
namespace Go.Proofs.YtdhdcenjiopofaaGreatDoor
open Go.RowKit
open Fm (Nd checkE compactL cl tr)

theorem nd_stood : Tryz.prog.stoodInHeld 37 = false := by kernel_rfl
theorem nd_guard : Tryz.prog.eqGuardType Tryz.prog.depth 37 = false := by kernel_rfl
set_option maxHeartbeats 2000000 in
theorem run_nd_neq (a b : Nd) (w : World) : (binOp .neq 37 (ndV a) (ndV b)).run Tryz.prog w = .ok (.bool (!decide (a = b))) w := by
  have hp := nd_stood
  obtain ⟨a1, a2, a3, a4, a5, a6⟩ := a
  obtain ⟨b1, b2, b3, b4, b5, b6⟩ := b
  have hd : decide ((⟨a1, a2, a3, a4, a5, a6⟩ : Nd) = ⟨b1, b2, b3, b4, b5, b6⟩) = (a1 == b1 && (a2 == b2 && (a3 == b3 && (a4 == b4 && (a5 == b5 && a6 == b6))))) := by
    rw [Bool.eq_iff_iff]
    simp
  rw [hd]
  clear hd
  cases e1 : a1 == b1 <;> cases e2 : a2 == b2 <;> cases e3 : a3 == b3 <;> cases e4 : a4 == b4 <;> cases e5 : a5 == b5 <;> cases e6 : a6 == b6 <;> simp [go_sem, hp, e1, e2, e3, e4, e5, e6]
def ndAt (l : List Nd) (k : Nat) : Nd := l.getD k default
theorem ndAt_eq {l : List Nd} {k : Nat} (h : k < l.length) : l[k]? = some (ndAt l k) := by
  unfold ndAt
  rw [List.getD_eq_getElem?_getD, List.getElem?_eq_getElem h]
  rfl
theorem nd_ext (R S : List Nd) (hl : R.length = S.length) (h : ∀ j, j < R.length → ndAt R j = ndAt S j) : R = S := by
  apply List.ext_getElem? 
  intro i
  by_cases hi : i < R.length
  · rw [ndAt_eq hi, ndAt_eq (by omega), h i hi]
  · rw [List.getElem?_eq_none (by omega), List.getElem?_eq_none (by omega)]

/-- Whether two lists are the same formula. -/
def sameB (a b : List Nd) : Bool := decide (checkE a = 0) && (decide (checkE b = 0) && decide (compactL a = compactL b))
end Go.Proofs.YtdhdcenjiopofaaGreatDoor
