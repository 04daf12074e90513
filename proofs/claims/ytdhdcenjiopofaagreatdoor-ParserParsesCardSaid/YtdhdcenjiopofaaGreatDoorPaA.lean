/- Letters and digits: what both functions of either package answer. No condition. -/
import Derived.Test.YtdhdcenjiopofaaGreatDoorBase
import Derived.Lib.Hide
import Derived.OpenShut
import Derived.Test.YtdhdcenjiopofaaGreatDoorChecked
set_option linter.unusedVariables false
set_option linter.unusedSimpArgs false
namespace Go.Proofs.YtdhdcenjiopofaaGreatDoor
open Go.RowKit

def letN (n : Nat) : Bool := (decide (97 ≤ n) && decide (n ≤ 122)) || (decide (65 ≤ n) && decide (n ≤ 90)) || decide (n = 95)
def digN (n : Nat) : Bool := decide (48 ≤ n) && decide (n ≤ 57)
section
variable (n : Nat) (w : World)
set_option maxRecDepth 100000
theorem fletter_any : Calls Tryz.prog 55 #[.int .u8 n] w fun e w' => e = .returned (.bool (letN n)) ∧ w' = w := by
  by_cases h1 : 97 ≤ n
  · by_cases h2 : n ≤ 122
    · rw [show letN n = true by unfold letN; simp; omega]
      go_enter Tryz.func55, Tryz.ntmps55
      go_wp2
      go_ret
      exact ⟨rfl, rfl⟩
    · have h3 : ¬ n ≤ 90 := by omega
      have h4 : ((n : Int) == 95) = false := beq_eq_false_iff_ne.2 (by omega)
      rw [show letN n = false by unfold letN; simp; omega]
      have i1 : decide ((n : Int) ≤ 122) = decide (n ≤ 122) := by rw [Bool.eq_iff_iff]; simp; omega
      have i2 : decide ((n : Int) ≤ 90) = decide (n ≤ 90) := by rw [Bool.eq_iff_iff]; simp; omega
      have i3 : decide ((n : Int) ≤ 57) = decide (n ≤ 57) := by rw [Bool.eq_iff_iff]; simp; omega
      skip
      go_enter Tryz.func55, Tryz.ntmps55
      go_wp2
      go_ret
      exact ⟨rfl, rfl⟩
  · by_cases h3 : 65 ≤ n
    · by_cases h4 : n ≤ 90
      · rw [show letN n = true by unfold letN; simp; omega]
        go_enter Tryz.func55, Tryz.ntmps55
        go_wp2
        go_ret
        exact ⟨rfl, rfl⟩
      · by_cases h5 : n = 95
        · subst h5
          rw [show letN 95 = true by rfl]
          go_enter Tryz.func55, Tryz.ntmps55
          go_wp2
          go_ret
          exact ⟨rfl, rfl⟩
        · have h6 : ((n : Int) == 95) = false := beq_eq_false_iff_ne.2 (by omega)
          rw [show letN n = false by unfold letN; simp; omega]
          have i1 : decide ((n : Int) ≤ 122) = decide (n ≤ 122) := by rw [Bool.eq_iff_iff]; simp; omega
          have i2 : decide ((n : Int) ≤ 90) = decide (n ≤ 90) := by rw [Bool.eq_iff_iff]; simp; omega
          have i3 : decide ((n : Int) ≤ 57) = decide (n ≤ 57) := by rw [Bool.eq_iff_iff]; simp; omega
          skip
          go_enter Tryz.func55, Tryz.ntmps55
          go_wp2
          go_ret
          exact ⟨rfl, rfl⟩
    · have h6 : ((n : Int) == 95) = false := beq_eq_false_iff_ne.2 (by omega)
      rw [show letN n = false by unfold letN; simp; omega]
      have i1 : decide ((n : Int) ≤ 122) = decide (n ≤ 122) := by rw [Bool.eq_iff_iff]; simp; omega
      have i2 : decide ((n : Int) ≤ 90) = decide (n ≤ 90) := by rw [Bool.eq_iff_iff]; simp; omega
      have i3 : decide ((n : Int) ≤ 57) = decide (n ≤ 57) := by rw [Bool.eq_iff_iff]; simp; omega
      skip
      go_enter Tryz.func55, Tryz.ntmps55
      go_wp2
      go_ret
      exact ⟨rfl, rfl⟩
theorem fdigit_any : Calls Tryz.prog 56 #[.int .u8 n] w fun e w' => e = .returned (.bool (digN n)) ∧ w' = w := by
  by_cases h1 : 48 ≤ n
  · by_cases h2 : n ≤ 57
    · rw [show digN n = true by unfold digN; simp; omega]
      have i3 : decide ((n : Int) ≤ 57) = true := decide_eq_true (by omega)
      go_enter Tryz.func56, Tryz.ntmps56
      go_wp2
      go_ret
      exact ⟨rfl, rfl⟩
    · rw [show digN n = false by unfold digN; simp; omega]
      have i1 : decide ((n : Int) ≤ 122) = decide (n ≤ 122) := by rw [Bool.eq_iff_iff]; simp; omega
      have i2 : decide ((n : Int) ≤ 90) = decide (n ≤ 90) := by rw [Bool.eq_iff_iff]; simp; omega
      have i3 : decide ((n : Int) ≤ 57) = decide (n ≤ 57) := by rw [Bool.eq_iff_iff]; simp; omega
      skip
      go_enter Tryz.func56, Tryz.ntmps56
      go_wp2
      go_ret
      exact ⟨rfl, rfl⟩
  · rw [show digN n = false by unfold digN; simp; omega]
    have i1 : decide ((n : Int) ≤ 122) = decide (n ≤ 122) := by rw [Bool.eq_iff_iff]; simp; omega
    have i2 : decide ((n : Int) ≤ 90) = decide (n ≤ 90) := by rw [Bool.eq_iff_iff]; simp; omega
    have i3 : decide ((n : Int) ≤ 57) = decide (n ≤ 57) := by rw [Bool.eq_iff_iff]; simp; omega
    skip
    go_enter Tryz.func56, Tryz.ntmps56
    go_wp2
    go_ret
    exact ⟨rfl, rfl⟩
theorem rletter_any : Calls Tryz.prog 65 #[.int .u8 n] w fun e w' => e = .returned (.bool (letN n)) ∧ w' = w := by
  by_cases h1 : 97 ≤ n
  · by_cases h2 : n ≤ 122
    · rw [show letN n = true by unfold letN; simp; omega]
      go_enter Tryz.func65, Tryz.ntmps65
      go_wp2
      go_ret
      exact ⟨rfl, rfl⟩
    · have h3 : ¬ n ≤ 90 := by omega
      have h4 : ((n : Int) == 95) = false := beq_eq_false_iff_ne.2 (by omega)
      rw [show letN n = false by unfold letN; simp; omega]
      have i1 : decide ((n : Int) ≤ 122) = decide (n ≤ 122) := by rw [Bool.eq_iff_iff]; simp; omega
      have i2 : decide ((n : Int) ≤ 90) = decide (n ≤ 90) := by rw [Bool.eq_iff_iff]; simp; omega
      have i3 : decide ((n : Int) ≤ 57) = decide (n ≤ 57) := by rw [Bool.eq_iff_iff]; simp; omega
      skip
      go_enter Tryz.func65, Tryz.ntmps65
      go_wp2
      go_ret
      exact ⟨rfl, rfl⟩
  · by_cases h3 : 65 ≤ n
    · by_cases h4 : n ≤ 90
      · rw [show letN n = true by unfold letN; simp; omega]
        go_enter Tryz.func65, Tryz.ntmps65
        go_wp2
        go_ret
        exact ⟨rfl, rfl⟩
      · by_cases h5 : n = 95
        · subst h5
          rw [show letN 95 = true by rfl]
          go_enter Tryz.func65, Tryz.ntmps65
          go_wp2
          go_ret
          exact ⟨rfl, rfl⟩
        · have h6 : ((n : Int) == 95) = false := beq_eq_false_iff_ne.2 (by omega)
          rw [show letN n = false by unfold letN; simp; omega]
          have i1 : decide ((n : Int) ≤ 122) = decide (n ≤ 122) := by rw [Bool.eq_iff_iff]; simp; omega
          have i2 : decide ((n : Int) ≤ 90) = decide (n ≤ 90) := by rw [Bool.eq_iff_iff]; simp; omega
          have i3 : decide ((n : Int) ≤ 57) = decide (n ≤ 57) := by rw [Bool.eq_iff_iff]; simp; omega
          skip
          go_enter Tryz.func65, Tryz.ntmps65
          go_wp2
          go_ret
          exact ⟨rfl, rfl⟩
    · have h6 : ((n : Int) == 95) = false := beq_eq_false_iff_ne.2 (by omega)
      rw [show letN n = false by unfold letN; simp; omega]
      have i1 : decide ((n : Int) ≤ 122) = decide (n ≤ 122) := by rw [Bool.eq_iff_iff]; simp; omega
      have i2 : decide ((n : Int) ≤ 90) = decide (n ≤ 90) := by rw [Bool.eq_iff_iff]; simp; omega
      have i3 : decide ((n : Int) ≤ 57) = decide (n ≤ 57) := by rw [Bool.eq_iff_iff]; simp; omega
      skip
      go_enter Tryz.func65, Tryz.ntmps65
      go_wp2
      go_ret
      exact ⟨rfl, rfl⟩
theorem rdigit_any : Calls Tryz.prog 66 #[.int .u8 n] w fun e w' => e = .returned (.bool (digN n)) ∧ w' = w := by
  by_cases h1 : 48 ≤ n
  · by_cases h2 : n ≤ 57
    · rw [show digN n = true by unfold digN; simp; omega]
      have i3 : decide ((n : Int) ≤ 57) = true := decide_eq_true (by omega)
      go_enter Tryz.func66, Tryz.ntmps66
      go_wp2
      go_ret
      exact ⟨rfl, rfl⟩
    · rw [show digN n = false by unfold digN; simp; omega]
      have i1 : decide ((n : Int) ≤ 122) = decide (n ≤ 122) := by rw [Bool.eq_iff_iff]; simp; omega
      have i2 : decide ((n : Int) ≤ 90) = decide (n ≤ 90) := by rw [Bool.eq_iff_iff]; simp; omega
      have i3 : decide ((n : Int) ≤ 57) = decide (n ≤ 57) := by rw [Bool.eq_iff_iff]; simp; omega
      skip
      go_enter Tryz.func66, Tryz.ntmps66
      go_wp2
      go_ret
      exact ⟨rfl, rfl⟩
  · rw [show digN n = false by unfold digN; simp; omega]
    have i1 : decide ((n : Int) ≤ 122) = decide (n ≤ 122) := by rw [Bool.eq_iff_iff]; simp; omega
    have i2 : decide ((n : Int) ≤ 90) = decide (n ≤ 90) := by rw [Bool.eq_iff_iff]; simp; omega
    have i3 : decide ((n : Int) ≤ 57) = decide (n ≤ 57) := by rw [Bool.eq_iff_iff]; simp; omega
    skip
    go_enter Tryz.func66, Tryz.ntmps66
    go_wp2
    go_ret
    exact ⟨rfl, rfl⟩
end
end Go.Proofs.YtdhdcenjiopofaaGreatDoor
