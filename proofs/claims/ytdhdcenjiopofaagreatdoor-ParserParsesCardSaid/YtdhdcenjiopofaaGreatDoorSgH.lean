/- The mask of names: what the program's group and Group do. Conditions: the variables lie as they are read. -/
import Derived.Test.YtdhdcenjiopofaaGreatDoorSgG
set_option linter.unusedVariables false
set_option linter.unusedSimpArgs false
namespace Go.Proofs.YtdhdcenjiopofaaGreatDoor
open Go.RowKit

theorem grp_at {A l : List ByteArray} {k : Nat} {x : ByteArray} (h : l[k]? = some x) (m : Nat) : grp A (l.drop k) m = if Lib.idxOfS A x < 0 then (0, 6) else if m.testBit (Lib.idxOfS A x).toNat = true then (0, 7) else grp A (l.drop (k + 1)) (m + 2 ^ (Lib.idxOfS A x).toNat) := by
  rw [drop_at h, grp_cons]
/-- The bits of a small mask, as the program asks for them. -/
theorem bit_ask {m j : Nat} (hm : m < 16) (hj : j < 4) : (bits BinOp.and IntKind.i64 ((m : Int) / 2 ^ j) 1 == 1) = m.testBit j := by
  have h : ∀ (m : Fin 16) (j : Fin 4), (bits BinOp.and IntKind.i64 ((m.val : Int) / 2 ^ j.val) 1 == 1) = m.val.testBit j.val := by decide +kernel
  exact h ⟨m, hm⟩ ⟨j, hj⟩
theorem bit_put {m j : Nat} (hm : m < 16) (hj : j < 4) (hb : m.testBit j = false) : m + 2 ^ j < 16 ∧ bits BinOp.or IntKind.i64 (m : Int) (wrap64 (2 ^ j)) = ((m + 2 ^ j : Nat) : Int) := by
  have h : ∀ (m : Fin 16) (j : Fin 4), m.val.testBit j.val = false → m.val + 2 ^ j.val < 16 ∧ bits BinOp.or IntKind.i64 (m.val : Int) (wrap64 (2 ^ j.val)) = ((m.val + 2 ^ j.val : Nat) : Int) := by decide +kernel
  exact h ⟨m, hm⟩ ⟨j, hj⟩ hb

section
set_option maxRecDepth 100000
set_option maxHeartbeats 2000000
theorem groupS_bad {S : Sg} (h : checkS S ≠ 0) (l : List ByteArray) : groupS S l = (0, checkS S) := if_neg h
theorem groupS_nil {S : Sg} (h : checkS S = 0) : groupS S [] = (0, 1) := by unfold groupS; rw [if_pos h, if_pos rfl]
theorem groupS_ok {S : Sg} (h : checkS S = 0) {l : List ByteArray} (hl : l ≠ []) : groupS S l = grp S.A l 0 := by unfold groupS; rw [if_pos h, if_neg hl]
end
end Go.Proofs.YtdhdcenjiopofaaGreatDoor
