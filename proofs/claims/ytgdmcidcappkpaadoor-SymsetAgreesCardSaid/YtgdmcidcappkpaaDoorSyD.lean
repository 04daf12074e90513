/- Masks and assignments: odd, even, beyond, assignment, the program's and the reference's. No condition. -/
import Derived.Test.YtgdmcidcappkpaaDoorSyB
import Derived.Test.YtgdmcidcappkpaaDoorEval
import Derived.Deep.QuietTactic
import Derived.BigQuiet
set_option linter.unusedVariables false
set_option linter.unusedSimpArgs false
namespace Go.Proofs.YtgdmcidcappkpaaDoor
open Go.RowKit
open Dd (odN evN asgN enc)

theorem ret_bool {a b : Bool} (h : a = b) : Ending.returned (.bool a) = .returned (.bool b) := by rw [h]
theorem odN_lt {V : Nat} (h : V ≤ 24) : odN V < 16777216 := Nat.lt_of_lt_of_le (Dd.enc_lt V _) (Nat.pow_le_pow_right (n := 2) (by omega) h)
theorem odN_two (j : Nat) : odN (2 * j + 2) = odN (2 * j) ||| 2 ^ (2 * j + 1) := by
  have a : decide ((2 * j + 1) % 2 = 1) = true := decide_eq_true (by omega)
  have b : decide (2 * j % 2 = 1) = false := decide_eq_false (by omega)
  unfold odN
  rw [Dd.enc_snoc, Dd.enc_snoc]
  simp only [a, b, if_true, Bool.false_eq_true, if_false, Nat.or_zero]
theorem odN_odd (j : Nat) : odN (2 * j + 1) = odN (2 * j) := by
  have b : decide (2 * j % 2 = 1) = false := decide_eq_false (by omega)
  unfold odN
  rw [Dd.enc_snoc]
  simp only [b, Bool.false_eq_true, if_false, Nat.or_zero]
theorem odN_half (V : Nat) (h : V % 2 = 0) : odN V / 2 = evN V := by
  apply Nat.eq_of_testBit_eq
  intro i
  rw [Nat.testBit_div_two, Dd.odN_bit, Dd.evN_bit]
  by_cases h1 : i < V
  · by_cases h2 : i % 2 = 0
    · simp [h1, h2, show i + 1 < V by omega, show (i + 1) % 2 = 1 by omega]
    · simp [h1, h2, show ¬ (i + 1) % 2 = 1 by omega]
  · simp [h1, show ¬ i + 1 < V by omega]
section
set_option maxRecDepth 100000
set_option maxHeartbeats 1000000
theorem odd_any (V : Nat) (hV : V ≤ 24) (w : World) : Calls Tryd.prog 59 #[.int .i64 V] w fun e w' => e = .returned (.int .u64 (odN V)) ∧ w' = w := by
  go_enter Tryd.func59, Tryd.ntmps59
  go_wp2
  go_loop [3, 4] (fun s i => ∃ j : Nat, 2 * j ≤ V ∧ i = .int .i64 ((2 * j + 1 : Nat) : Int) ∧ s = .int .u64 (odN (2 * j))) (fun _ i => V + 2 - (intOf i).toNat)
  case atStart => exact ⟨0, by omega, rfl, rfl⟩
  case round =>
    obtain ⟨j, hj, rfl, rfl⟩ := hrel
    by_cases hlt : 2 * j + 1 < V
    · have hs := odN_lt (V := 2 * j) (by omega)
      have H2 := Lib.hid (odN_two j)
      have hor := or_u64 (odN (2 * j)) (2 * j + 1) (by omega) (by omega)
      have HO := Lib.hid hor
      generalize odN (2 * j) = s at *
      go_wp2
      go_round
      case rel => exact ⟨j + 1, by omega, by go_num, by rw [show 2 * (j + 1) = 2 * j + 2 by omega, H2.out, ← HO.out]⟩
      case measure => simp [intOf]; omega
    · have hV2 : odN (2 * j) = odN V := by
        rcases (show V = 2 * j ∨ V = 2 * j + 1 by omega) with rfl | rfl
        · rfl
        · exact (odN_odd j).symm
      have HV := Lib.hid hV2
      clear hV2
      go_wp2
      go_ret
      exact ⟨ret_u64 (a := ((odN (2 * j) : Nat) : Int)) (by rw [HV.out]), rfl⟩
theorem even_any (V : Nat) (hV : V ≤ 24) (he : V % 2 = 0) (w : World) : Calls Tryd.prog 66 #[.int .i64 V] w fun e w' => e = .returned (.int .u64 (evN V)) ∧ w' = w := by
  have H := Lib.hid (odd_any V hV w)
  have HH := Lib.hid (odN_half V he)
  generalize odN V = s at *
  go_enter Tryd.func66, Tryd.ntmps66
  go_wp2_with (go_at_call 59; (with_reducible refine H.out.mono ?_); rintro e w' ⟨rfl, hw'⟩; obtain rfl := hw'.symm)
  go_ret
  exact ⟨by rw [← HH.out]; rfl, rfl⟩
/-- A set contains a state that there is not. -/
def beyondB (k S : Nat) : Bool := decide (k < 6) && decide (S / 2 ^ 2 ^ k ≠ 0)
theorem beyond_any (k S : Nat) (hk : k ≤ 6) (hS : S < 18446744073709551616) (w : World) : Calls Tryd.prog 24 #[.int .i64 k, .int .u64 S] w fun e w' => e = .returned (.bool (beyondB k S)) ∧ w' = w := by
  unfold beyondB
  by_cases h6 : k < 6
  · have hk2 : k = 0 ∨ k = 1 ∨ k = 2 ∨ k = 3 ∨ k = 4 ∨ k = 5 := by omega
    rcases hk2 with rfl | rfl | rfl | rfl | rfl | rfl <;>
    · go_enter Tryd.func24, Tryd.ntmps24
      go_wp2
      go_ret
      refine ⟨ret_bool ?_, rfl⟩
      rw [Bool.eq_iff_iff]
      simp
      omega
  · obtain rfl : k = 6 := by omega
    go_enter Tryd.func24, Tryd.ntmps24
    go_wp2
    go_ret
    exact ⟨rfl, rfl⟩
theorem asg_bit {v j p : Nat} (hv : v < 64) (hj : j < 6) (hp : p < 12) : IntKind.u64.wrap (IntKind.u64.wrap (bits BinOp.and IntKind.i64 ((v : Int) / 2 ^ j) 1) * 2 ^ p) = ((if v.testBit j = true then 2 ^ p else 0 : Nat) : Int) := by
  have h : ∀ (v : Fin 64) (j : Fin 6), bits BinOp.and IntKind.i64 ((v.val : Int) / 2 ^ j.val) 1 = if v.val.testBit j.val = true then 1 else 0 := by decide +kernel
  have h2 : ∀ p : Fin 12, IntKind.u64.wrap (IntKind.u64.wrap 1 * 2 ^ p.val) = ((2 ^ p.val : Nat) : Int) ∧ IntKind.u64.wrap (IntKind.u64.wrap 0 * 2 ^ p.val) = 0 := by decide +kernel
  have e := h ⟨v, hv⟩ ⟨j, hj⟩
  obtain ⟨e1, e2⟩ := h2 ⟨p, hp⟩
  simp only at e e1 e2
  rw [e]
  cases v.testBit j
  · simpa using e2
  · simpa using e1
theorem asg_step {s v u j : Nat} (hs : s < 16777216) (hv : v < 64) (hu : u < 64) (hj : j < 6) :
    bits BinOp.or IntKind.u64 (s : Int) (bits BinOp.or IntKind.u64 (IntKind.u64.wrap (IntKind.u64.wrap (bits BinOp.and IntKind.i64 ((v : Int) / 2 ^ j) 1) * 2 ^ (2 * j))) (IntKind.u64.wrap (IntKind.u64.wrap (bits BinOp.and IntKind.i64 ((u : Int) / 2 ^ j) 1) * 2 ^ (2 * j + 1)))) =
    ((s ||| ((if v.testBit j = true then 2 ^ (2 * j) else 0) ||| (if u.testBit j = true then 2 ^ (2 * j + 1) else 0)) : Nat) : Int) := by
  rw [asg_bit hv hj (by omega), asg_bit hu hj (by omega)]
  have a1 : (if v.testBit j = true then 2 ^ (2 * j) else 0) < 2 ^ 12 := by split <;> first | exact Nat.pow_lt_pow_right (by omega) (by omega) | simp
  have a2 : (if u.testBit j = true then 2 ^ (2 * j + 1) else 0) < 2 ^ 12 := by split <;> first | exact Nat.pow_lt_pow_right (by omega) (by omega) | simp
  have a3 := Nat.or_lt_two_pow a1 a2
  rw [bits_or_u64_nat _ _ (by omega) (by omega), bits_or_u64_nat _ _ (by omega) (by omega)]
theorem asgN_small {k v w : Nat} (h : k ≤ 12) : asgN k v w < 16777216 := Nat.lt_of_lt_of_le (Dd.asgN_lt k v w) (Nat.pow_le_pow_right (n := 2) (by omega) (by omega : 2 * k ≤ 24))
theorem asg_any (k v u : Nat) (hk : k ≤ 6) (hv : v < 64) (hu : u < 64) (w : World) : Calls Tryd.prog 36 #[.int .i64 k, .int .i64 v, .int .i64 u] w fun e w' => e = .returned (.int .u64 (asgN k v u)) ∧ ∃ n, w' = w.drewN n := by
  go_enter Tryd.func36, Tryd.ntmps36
  go_wp2
  go_loopw [7, 10] (fun s i wr => ∃ j n : Nat, j ≤ k ∧ i = .int .i64 j ∧ s = .int .u64 (asgN j v u) ∧ wr = w.drewN n) (fun _ i _ => k - (intOf i).toNat)
  case atStart => exact ⟨0, 0, by omega, rfl, rfl, rfl⟩
  case round =>
    obtain ⟨j, n0, hj, rfl, rfl, rfl⟩ := hrel
    by_cases hlt : j < k
    · have hs := asgN_small (k := j) (v := v) (w := u) (by omega)
      have H2 := Lib.hid (Dd.asgN_succ j v u)
      generalize asgN j v u = s at *
      have HA := Lib.hid (asg_step hs hv hu (show j < 6 by omega))
      go_wp2
      go_quiet (fail)
      go_wp2
      go_roundw
      case rel => exact ⟨j + 1, n0 + nq, by omega, by go_num, by rw [H2.out, ← HA.out], rfl⟩
      case measure => simp [intOf]; omega
    · obtain rfl : j = k := by omega
      go_wp2
      go_ret
      exact ⟨rfl, n0, rfl⟩
end
end Go.Proofs.YtgdmcidcappkpaaDoor
