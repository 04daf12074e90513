/- What the reference's variable (behind any pointer) and constant do. No condition. -/
import Derived.Test.YtengdldkkmknpaaRCount
import Derived.Test.YtengdldkkmknpaaRNd
import Derived.Test.YtengdldkkmknpaaLaw
import Derived.Laws.Cover1
set_option linter.unusedVariables false
set_option linter.unusedSimpArgs false
namespace Go.Proofs.Ytengdldkkmknpaa
open Go.RowKit
open Dd (Rn rat ofN toN checkErr den lo var vr mk BOp)

set_option maxRecDepth 100000 in
set_option maxHeartbeats 400000 in
theorem variable_at (b k V : Nat) (M : List Nd) (A : Option Addr) (c i : Nat) (w : World) (hi : i < M.length + 2) (hM : M.length ≤ 1099511627776) (h0 : w.cell? ⟨b, k, none⟩ = some (.int .i64 V)) (h1 : w.cell? ⟨b, k + 1, none⟩ = some (.slice A M.length c)) (hrd : Rd w (.slice A M.length c) 3 M.length (ndsC M)) :
    Calls Try.prog 61 #[.pointer (some ⟨b, k, none⟩), .int .i64 i] w fun e w' => e = .returned (.int .i64 (vr V M i)) ∧ w' = w := by
  by_cases h2 : i < 2
  · have hv : vr V M i = V := by simp [vr, h2]
    rw [hv]
    go_enter Try.func61, Try.ntmps61
    go_wp2
    go_ret
    exact ⟨rfl, rfl⟩
  · obtain ⟨bl, off, rfl, _, y1, y2, y3⟩ := hrd.num (i := i) (by omega) hi
    have hv : vr V M i = var M i := by simp [vr, h2]
    rw [hv]
    clear hv y2 y3
    obtain ⟨j, rfl⟩ : ∃ j, i = j + 2 := ⟨i - 2, by omega⟩
    simp only [Nat.add_sub_cancel] at y1
    generalize var M (j + 2) = u at *
    have hj : j < M.length := by omega
    go_enter Try.func61, Try.ntmps61
    go_wp2
    go_ret
    exact ⟨rfl, rfl⟩

/-- The operation that a number names: 0 and, 1 or, else exclusive or. -/
def opF (op : Nat) : BOp := if op = 0 then fun a b => a && b else if op = 1 then fun a b => a || b else fun a b => xor a b

set_option maxRecDepth 100000 in
theorem const_000 (w : World) : Calls Try.prog 93 #[.int .i64 0, .int .i64 0, .int .i64 0] w fun e w' => e = .returned (.int .i64 0) ∧ w' = w := by
  go_enter Try.func93, Try.ntmps93
  go_wp2
  go_ret
  exact ⟨rfl, rfl⟩
set_option maxRecDepth 100000 in
theorem const_001 (w : World) : Calls Try.prog 93 #[.int .i64 0, .int .i64 0, .int .i64 1] w fun e w' => e = .returned (.int .i64 0) ∧ w' = w := by
  go_enter Try.func93, Try.ntmps93
  go_wp2
  go_ret
  exact ⟨rfl, rfl⟩
set_option maxRecDepth 100000 in
theorem const_010 (w : World) : Calls Try.prog 93 #[.int .i64 0, .int .i64 1, .int .i64 0] w fun e w' => e = .returned (.int .i64 0) ∧ w' = w := by
  go_enter Try.func93, Try.ntmps93
  go_wp2
  go_ret
  exact ⟨rfl, rfl⟩
set_option maxRecDepth 100000 in
theorem const_011 (w : World) : Calls Try.prog 93 #[.int .i64 0, .int .i64 1, .int .i64 1] w fun e w' => e = .returned (.int .i64 1) ∧ w' = w := by
  go_enter Try.func93, Try.ntmps93
  go_wp2
  go_ret
  exact ⟨rfl, rfl⟩
set_option maxRecDepth 100000 in
theorem const_100 (w : World) : Calls Try.prog 93 #[.int .i64 1, .int .i64 0, .int .i64 0] w fun e w' => e = .returned (.int .i64 0) ∧ w' = w := by
  go_enter Try.func93, Try.ntmps93
  go_wp2
  go_ret
  exact ⟨rfl, rfl⟩
set_option maxRecDepth 100000 in
theorem const_101 (w : World) : Calls Try.prog 93 #[.int .i64 1, .int .i64 0, .int .i64 1] w fun e w' => e = .returned (.int .i64 1) ∧ w' = w := by
  go_enter Try.func93, Try.ntmps93
  go_wp2
  go_ret
  exact ⟨rfl, rfl⟩
set_option maxRecDepth 100000 in
theorem const_110 (w : World) : Calls Try.prog 93 #[.int .i64 1, .int .i64 1, .int .i64 0] w fun e w' => e = .returned (.int .i64 1) ∧ w' = w := by
  go_enter Try.func93, Try.ntmps93
  go_wp2
  go_ret
  exact ⟨rfl, rfl⟩
set_option maxRecDepth 100000 in
theorem const_111 (w : World) : Calls Try.prog 93 #[.int .i64 1, .int .i64 1, .int .i64 1] w fun e w' => e = .returned (.int .i64 1) ∧ w' = w := by
  go_enter Try.func93, Try.ntmps93
  go_wp2
  go_ret
  exact ⟨rfl, rfl⟩
set_option maxRecDepth 100000 in
theorem const_200 (w : World) : Calls Try.prog 93 #[.int .i64 2, .int .i64 0, .int .i64 0] w fun e w' => e = .returned (.int .i64 0) ∧ w' = w := by
  go_enter Try.func93, Try.ntmps93
  go_wp2
  go_ret
  exact ⟨rfl, rfl⟩
set_option maxRecDepth 100000 in
theorem const_201 (w : World) : Calls Try.prog 93 #[.int .i64 2, .int .i64 0, .int .i64 1] w fun e w' => e = .returned (.int .i64 1) ∧ w' = w := by
  go_enter Try.func93, Try.ntmps93
  go_wp2
  go_ret
  exact ⟨rfl, rfl⟩
set_option maxRecDepth 100000 in
theorem const_210 (w : World) : Calls Try.prog 93 #[.int .i64 2, .int .i64 1, .int .i64 0] w fun e w' => e = .returned (.int .i64 1) ∧ w' = w := by
  go_enter Try.func93, Try.ntmps93
  go_wp2
  go_ret
  exact ⟨rfl, rfl⟩
set_option maxRecDepth 100000 in
theorem const_211 (w : World) : Calls Try.prog 93 #[.int .i64 2, .int .i64 1, .int .i64 1] w fun e w' => e = .returned (.int .i64 0) ∧ w' = w := by
  go_enter Try.func93, Try.ntmps93
  go_wp2
  go_ret
  exact ⟨rfl, rfl⟩

theorem constant_any (op x y : Nat) (hop : op < 3) (hx : x < 2) (hy : y < 2) (w : World) :
    Calls Try.prog 93 #[.int .i64 op, .int .i64 x, .int .i64 y] w fun e w' => e = .returned (.int .i64 ((if opF op (decide (x = 1)) (decide (y = 1)) then 1 else 0 : Nat) : Int)) ∧ w' = w := by
  have h1 : op = 0 ∨ op = 1 ∨ op = 2 := by omega
  have h2 : x = 0 ∨ x = 1 := by omega
  have h3 : y = 0 ∨ y = 1 := by omega
  rcases h1 with rfl | rfl | rfl <;> rcases h2 with rfl | rfl <;> rcases h3 with rfl | rfl
  · exact const_000 w
  · exact const_001 w
  · exact const_010 w
  · exact const_011 w
  · exact const_100 w
  · exact const_101 w
  · exact const_110 w
  · exact const_111 w
  · exact const_200 w
  · exact const_201 w
  · exact const_210 w
  · exact const_211 w

theorem run_min2 (a b : Nat) (w : World) : (Builtin.min_ #[3, 3] 3 #[.int .i64 a, .int .i64 b]).run Try.prog w = .ok (.int .i64 (min a b : Nat)) w := by
  rw [run_min_int2]
  congr 2
  split <;> omega
end Go.Proofs.Ytengdldkkmknpaa
