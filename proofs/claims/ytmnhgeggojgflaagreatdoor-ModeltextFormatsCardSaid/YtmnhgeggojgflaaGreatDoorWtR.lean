/- Sets of worlds as numbers: what the reference's Rename and Subset do. No condition. -/
import Derived.Test.YtmnhgeggojgflaaGreatDoorWtN
set_option linter.unusedVariables false
set_option linter.unusedSimpArgs false
namespace Go.Proofs.YtmnhgeggojgflaaGreatDoor.Ws
open Go.RowKit

/-- Renaming, from a set on. -/
def renL (tt : List Int) (s : Nat) : List Nat → Nat × Int
  | [] => (s, 0)
  | x :: l => if tt.length ≤ x then (0, 6) else if tt.getD x 0 < 0 ∨ 63 < tt.getD x 0 then (0, 2) else renL tt (s ||| 2 ^ (tt.getD x 0).toNat) l
/-- A subset by its number, from a set on. -/
def subL (s i : Nat) : List Nat → Nat × Bool
  | [] => if 0 < i then (0, false) else (s, true)
  | x :: l => subL (if i % 2 = 1 then s ||| 2 ^ x else s) (i / 2) l
def subS (s : Nat) (i : Int) : Nat × Bool := if i < 0 then (0, false) else subL 0 i.toNat (mem s)

theorem ndrop_at {l : List Nat} {k : Nat} {x : Nat} (h : l[k]? = some x) : l.drop k = x :: l.drop (k + 1) := by
  obtain ⟨hlt, e⟩ := List.getElem?_eq_some_iff.1 h
  rw [List.drop_eq_getElem_cons hlt, e]

section
set_option maxRecDepth 100000
set_option maxHeartbeats 1000000
end
end Go.Proofs.YtmnhgeggojgflaaGreatDoor.Ws
