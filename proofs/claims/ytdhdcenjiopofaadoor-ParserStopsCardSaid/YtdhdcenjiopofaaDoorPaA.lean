/- Letters and digits: what both functions of either package answer. No condition. -/
import Derived.Test.YtdhdcenjiopofaaDoorBase
import Derived.Lib.Hide
import Derived.OpenShut
import Derived.Test.YtdhdcenjiopofaaDoorChecked
set_option linter.unusedVariables false
set_option linter.unusedSimpArgs false
namespace Go.Proofs.YtdhdcenjiopofaaDoor
open Go.RowKit

def letN (n : Nat) : Bool := (decide (97 ≤ n) && decide (n ≤ 122)) || (decide (65 ≤ n) && decide (n ≤ 90)) || decide (n = 95)
def digN (n : Nat) : Bool := decide (48 ≤ n) && decide (n ≤ 57)
section
variable (n : Nat) (w : World)
set_option maxRecDepth 100000
theorem fletter_any : Calls Tryd.prog 43 #[.int .u8 n] w fun e w' => e = .returned (.bool (letN n)) ∧ w' = w := by
  by_cases h1 : 97 ≤ n
  · by_cases h2 : n ≤ 122
    · rw [show letN n = true by unfold letN; simp; omega]
      go_enter Tryd.func43, Tryd.ntmps43
      go_wp2
      go_ret
      exact ⟨rfl, rfl⟩
    · have h3 : ¬ n ≤ 90 := by omega
      have h4 : ((n : Int) == 95) = false := beq_eq_false_iff_ne.2 (by omega)
      rw [show letN n = false by unfold letN; simp; omega]
      have i1 : decide ((n : Int) ≤ 122) = decide (n ≤ 122) := by rw [Bool.eq_iff_iff]; simp; omega
      have i2 : decide ((n : Int) ≤ 90) = decide (n ≤ 90) := by rw [Bool.eq_iff_iff]; simp; omega
      have i3 : decide ((n : Int) ≤ 57) = decide (n ≤ 57) := by rw [Bool.eq_iff_iff]; simp; omega
      skip
      go_enter Tryd.func43, Tryd.ntmps43
      go_wp2
      go_ret
      exact ⟨rfl, rfl⟩
  · by_cases h3 : 65 ≤ n
    · by_cases h4 : n ≤ 90
      · rw [show letN n = true by unfold letN; simp; omega]
        go_enter Tryd.func43, Tryd.ntmps43
        go_wp2
        go_ret
        exact ⟨rfl, rfl⟩
      · by_cases h5 : n = 95
        · subst h5
          rw [show letN 95 = true by rfl]
          go_enter Tryd.func43, Tryd.ntmps43
          go_wp2
          go_ret
          exact ⟨rfl, rfl⟩
        · have h6 : ((n : Int) == 95) = false := beq_eq_false_iff_ne.2 (by omega)
          rw [show letN n = false by unfold letN; simp; omega]
          have i1 : decide ((n : Int) ≤ 122) = decide (n ≤ 122) := by rw [Bool.eq_iff_iff]; simp; omega
          have i2 : decide ((n : Int) ≤ 90) = decide (n ≤ 90) := by rw [Bool.eq_iff_iff]; simp; omega
          have i3 : decide ((n : Int) ≤ 57) = decide (n ≤ 57) := by rw [Bool.eq_iff_iff]; simp; omega
          skip
          go_enter Tryd.func43, Tryd.ntmps43
          go_wp2
          go_ret
          exact ⟨rfl, rfl⟩
    · have h6 : ((n : Int) == 95) = false := beq_eq_false_iff_ne.2 (by omega)
      rw [show letN n = false by unfold letN; simp; omega]
      have i1 : decide ((n : Int) ≤ 122) = decide (n ≤ 122) := by rw [Bool.eq_iff_iff]; simp; omega
      have i2 : decide ((n : Int) ≤ 90) = decide (n ≤ 90) := by rw [Bool.eq_iff_iff]; simp; omega
      have i3 : decide ((n : Int) ≤ 57) = decide (n ≤ 57) := by rw [Bool.eq_iff_iff]; simp; omega
      skip
      go_enter Tryd.func43, Tryd.ntmps43
      go_wp2
      go_ret
      exact ⟨rfl, rfl⟩
theorem fdigit_any : Calls Tryd.prog 44 #[.int .u8 n] w fun e w' => e = .returned (.bool (digN n)) ∧ w' = w := by
  by_cases h1 : 48 ≤ n
  · by_cases h2 : n ≤ 57
    · rw [show digN n = true by unfold digN; simp; omega]
      have i3 : decide ((n : Int) ≤ 57) = true := decide_eq_true (by omega)
      go_enter Tryd.func44, Tryd.ntmps44
      go_wp2
      go_ret
      exact ⟨rfl, rfl⟩
    · rw [show digN n = false by unfold digN; simp; omega]
      have i1 : decide ((n : Int) ≤ 122) = decide (n ≤ 122) := by rw [Bool.eq_iff_iff]; simp; omega
      have i2 : decide ((n : Int) ≤ 90) = decide (n ≤ 90) := by rw [Bool.eq_iff_iff]; simp; omega
      have i3 : decide ((n : Int) ≤ 57) = decide (n ≤ 57) := by rw [Bool.eq_iff_iff]; simp; omega
      skip
      go_enter Tryd.func44, Tryd.ntmps44
      go_wp2
      go_ret
      exact ⟨rfl, rfl⟩
  · rw [show digN n = false by unfold digN; simp; omega]
    have i1 : decide ((n : Int) ≤ 122) = decide (n ≤ 122) := by rw [Bool.eq_iff_iff]; simp; omega
    have i2 : decide ((n : Int) ≤ 90) = decide (n ≤ 90) := by rw [Bool.eq_iff_iff]; simp; omega
    have i3 : decide ((n : Int) ≤ 57) = decide (n ≤ 57) := by rw [Bool.eq_iff_iff]; simp; omega
    skip
    go_enter Tryd.func44, Tryd.ntmps44
    go_wp2
    go_ret
    exact ⟨rfl, rfl⟩
theorem rletter_any : Calls Tryd.prog 45 #[.int .u8 n] w fun e w' => e = .returned (.bool (letN n)) ∧ w' = w := by
  by_cases h1 : 97 ≤ n
  · by_cases h2 : n ≤ 122
    · rw [show letN n = true by unfold letN; simp; omega]
      go_enter Tryd.func45, Tryd.ntmps45
      go_wp2
      go_ret
      exact ⟨rfl, rfl⟩
    · have h3 : ¬ n ≤ 90 := by omega
      have h4 : ((n : Int) == 95) = false := beq_eq_false_iff_ne.2 (by omega)
      rw [show letN n = false by unfold letN; simp; omega]
      have i1 : decide ((n : Int) ≤ 122) = decide (n ≤ 122) := by rw [Bool.eq_iff_iff]; simp; omega
      have i2 : decide ((n : Int) ≤ 90) = decide (n ≤ 90) := by rw [Bool.eq_iff_iff]; simp; omega
      have i3 : decide ((n : Int) ≤ 57) = decide (n ≤ 57) := by rw [Bool.eq_iff_iff]; simp; omega
      skip
      go_enter Tryd.func45, Tryd.ntmps45
      go_wp2
      go_ret
      exact ⟨rfl, rfl⟩
  · by_cases h3 : 65 ≤ n
    · by_cases h4 : n ≤ 90
      · rw [show letN n = true by unfold letN; simp; omega]
        go_enter Tryd.func45, Tryd.ntmps45
        go_wp2
        go_ret
        exact ⟨rfl, rfl⟩
      · by_cases h5 : n = 95
        · subst h5
          rw [show letN 95 = true by rfl]
          go_enter Tryd.func45, Tryd.ntmps45
          go_wp2
          go_ret
          exact ⟨rfl, rfl⟩
        · have h6 : ((n : Int) == 95) = false := beq_eq_false_iff_ne.2 (by omega)
          rw [show letN n = false by unfold letN; simp; omega]
          have i1 : decide ((n : Int) ≤ 122) = decide (n ≤ 122) := by rw [Bool.eq_iff_iff]; simp; omega
          have i2 : decide ((n : Int) ≤ 90) = decide (n ≤ 90) := by rw [Bool.eq_iff_iff]; simp; omega
          have i3 : decide ((n : Int) ≤ 57) = decide (n ≤ 57) := by rw [Bool.eq_iff_iff]; simp; omega
          skip
          go_enter Tryd.func45, Tryd.ntmps45
          go_wp2
          go_ret
          exact ⟨rfl, rfl⟩
    · have h6 : ((n : Int) == 95) = false := beq_eq_false_iff_ne.2 (by omega)
      rw [show letN n = false by unfold letN; simp; omega]
      have i1 : decide ((n : Int) ≤ 122) = decide (n ≤ 122) := by rw [Bool.eq_iff_iff]; simp; omega
      have i2 : decide ((n : Int) ≤ 90) = decide (n ≤ 90) := by rw [Bool.eq_iff_iff]; simp; omega
      have i3 : decide ((n : Int) ≤ 57) = decide (n ≤ 57) := by rw [Bool.eq_iff_iff]; simp; omega
      skip
      go_enter Tryd.func45, Tryd.ntmps45
      go_wp2
      go_ret
      exact ⟨rfl, rfl⟩
theorem rdigit_any : Calls Tryd.prog 46 #[.int .u8 n] w fun e w' => e = .returned (.bool (digN n)) ∧ w' = w := by
  by_cases h1 : 48 ≤ n
  · by_cases h2 : n ≤ 57
    · rw [show digN n = true by unfold digN; simp; omega]
      have i3 : decide ((n : Int) ≤ 57) = true := decide_eq_true (by omega)
      go_enter Tryd.func46, Tryd.ntmps46
      go_wp2
      go_ret
      exact ⟨rfl, rfl⟩
    · rw [show digN n = false by unfold digN; simp; omega]
      have i1 : decide ((n : Int) ≤ 122) = decide (n ≤ 122) := by rw [Bool.eq_iff_iff]; simp; omega
      have i2 : decide ((n : Int) ≤ 90) = decide (n ≤ 90) := by rw [Bool.eq_iff_iff]; simp; omega
      have i3 : decide ((n : Int) ≤ 57) = decide (n ≤ 57) := by rw [Bool.eq_iff_iff]; simp; omega
      skip
      go_enter Tryd.func46, Tryd.ntmps46
      go_wp2
      go_ret
      exact ⟨rfl, rfl⟩
  · rw [show digN n = false by unfold digN; simp; omega]
    have i1 : decide ((n : Int) ≤ 122) = decide (n ≤ 122) := by rw [Bool.eq_iff_iff]; simp; omega
    have i2 : decide ((n : Int) ≤ 90) = decide (n ≤ 90) := by rw [Bool.eq_iff_iff]; simp; omega
    have i3 : decide ((n : Int) ≤ 57) = decide (n ≤ 57) := by rw [Bool.eq_iff_iff]; simp; omega
    skip
    go_enter Tryd.func46, Tryd.ntmps46
    go_wp2
    go_ret
    exact ⟨rfl, rfl⟩
end
end Go.Proofs.YtdhdcenjiopofaaDoor
