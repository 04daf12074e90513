/- The next set of the same size: plain facts. No condition. -/
import Derived.Test.YtckmhngcnimmdaaDoorWsB
import Derived.Laws.BitsAllLaws
set_option linter.unusedVariables false
set_option linter.unusedSimpArgs false
namespace Go.Proofs.YtckmhngcnimmdaaDoor
open Go.RowKit

/-- The search of the reference. -/
def nxt (N s : Nat) : Nat → Nat → Nat → Nat × Bool
  | 0, _, _ => (0, false)
  | f + 1, w, b => if w + 1 < N then (if s.testBit w then (if s.testBit (w + 1) then nxt N s f (w + 1) (b + 1) else (2 ^ (w + 2) * (s / 2 ^ (w + 2)) ||| 2 ^ (w + 1) ||| (2 ^ b - 1), true)) else nxt N s f (w + 1) b) else (0, false)
def nextS (n : Int) (s : Nat) : Nat × Bool := if n < 0 ∨ 64 < n ∨ 2 ^ n.toNat ≤ s then (0, false) else nxt n.toNat s 64 0 0

theorem mask_bit (k i : Nat) (hk : k ≤ 64) : (18446744073709551615 - (2 ^ k - 1)).testBit i = (decide (k ≤ i) && decide (i < 64)) := by
  have e : 18446744073709551615 - (2 ^ k - 1) = (2 ^ (64 - k) - 1) * 2 ^ k := by
    rw [Nat.sub_mul, ← Nat.pow_add, show 64 - k + k = 64 by omega]
    have := Nat.two_pow_pos k
    omega
  rw [e, Nat.testBit_mul_two_pow, Nat.testBit_two_pow_sub_one]
  by_cases h : k ≤ i
  · simp [h, show (i - k < 64 - k) = (i < 64) by simp; omega]
  · simp [h]
theorem andNot_hi (s k : Nat) (hs : s < 18446744073709551616) (hk : k ≤ 64) : bits .andNot .u64 (s : Int) ((2 ^ k - 1 : Nat) : Int) = ((2 ^ k * (s / 2 ^ k) : Nat) : Int) := by
  have h1 : 2 ^ k ≤ 2 ^ 64 := Nat.pow_le_pow_right (by omega) hk
  have h2 := Nat.two_pow_pos k
  rw [u64_andNot_nat s (2 ^ k - 1) hs (by omega)]
  congr 1
  apply Nat.eq_of_testBit_eq
  intro i
  rw [Nat.testBit_and, mask_bit k i hk, Nat.mul_comm, Nat.testBit_mul_two_pow, Nat.testBit_div_two_pow]
  by_cases h : k ≤ i
  · rw [show i - k + k = i by omega]
    by_cases h64 : i < 64
    · simp [h, h64]
    · have : s.testBit i = false := Nat.testBit_lt_two_pow (Nat.lt_of_lt_of_le hs (Nat.pow_le_pow_right (n := 2) (by omega) (show 64 ≤ i by omega)))
      simp [this]
  · simp [h]
theorem andNot_all (s : Nat) (n : Int) (hs : s < 18446744073709551616) (h0 : 0 ≤ n) (hn : n ≤ 64) : bits .andNot .u64 (s : Int) (allS n : Int) = ((2 ^ n.toNat * (s / 2 ^ n.toNat) : Nat) : Int) := by
  rw [show allS n = 2 ^ n.toNat - 1 from if_neg (by omega), andNot_hi s _ hs (by omega)]
theorem hi_zero (s k : Nat) : (2 ^ k * (s / 2 ^ k) = 0) ↔ s < 2 ^ k := by
  have := Nat.two_pow_pos k
  constructor
  · intro h
    rcases Nat.mul_eq_zero.1 h with h | h
    · omega
    · exact (Nat.div_eq_zero_iff_lt this).1 h
  · intro h
    rw [Nat.div_eq_of_lt h, Nat.mul_zero]

/-- A number with a run of ones at a, m of them. -/
def run (a m q : Nat) : Nat := 2 ^ (a + m + 1) * q + 2 ^ a * (2 ^ m - 1)
theorem run_low (a m : Nat) : 2 ^ a * (2 ^ m - 1) < 2 ^ (a + m) := by
  rw [Nat.pow_add]
  have h1 := Nat.two_pow_pos a
  have h2 := Nat.two_pow_pos m
  exact Nat.mul_lt_mul_of_pos_left (by omega) h1
theorem run_bit (a m q i : Nat) (hi : i ≤ a + m) : (run a m q).testBit i = (decide (a ≤ i) && decide (i < a + m)) := by
  unfold run
  have h := run_low a m
  have h2 : 2 ^ (a + m) < 2 ^ (a + m + 1) := Nat.pow_lt_pow_right (by omega) (by omega)
  rw [Nat.testBit_two_pow_mul_add _ (by omega), if_pos (by omega), Nat.mul_comm, Nat.testBit_mul_two_pow, Nat.testBit_two_pow_sub_one]
  by_cases h : a ≤ i
  · simp [h, show (i - a < m) = (i < a + m) by simp; omega]
  · simp [h]
theorem odd_part : ∀ x : Nat, 0 < x → ∃ m q, x = 2 ^ m * (2 * q + 1) := fun x hx => by
  obtain ⟨q, hq, _⟩ := Lib.ctzFrom_spec x x hx Nat.lt_two_pow_self
  exact ⟨_, q, hq⟩
theorem run_of {s : Nat} (h0 : s ≠ 0) (hs : s < 18446744073709551616) : ∃ m q, 0 < m ∧ s = run (Lib.ctz 64 s) m q ∧ s + 2 ^ Lib.ctz 64 s = 2 ^ (Lib.ctz 64 s + m) * (2 * q + 1) := by
  obtain ⟨hc, k, hk⟩ := ctz_spec h0 hs
  generalize Lib.ctz 64 s = a at *
  obtain ⟨m, q, hm⟩ := odd_part (2 * k + 2) (by omega)
  have hm0 : 0 < m := by
    rcases Nat.eq_zero_or_pos m with rfl | h
    · simp at hm; omega
    · exact h
  have e : s + 2 ^ a = 2 ^ (a + m) * (2 * q + 1) := by
    rw [Nat.pow_add, Nat.mul_assoc, ← hm, hk, Nat.mul_add, Nat.mul_add]
    omega
  refine ⟨m, q, hm0, ?_, e⟩
  have e2 : run a m q + 2 ^ a = 2 ^ (a + m) * (2 * q + 1) := by
    unfold run
    have h1 := Nat.two_pow_pos m
    rw [Nat.mul_sub, Nat.mul_one, ← Nat.pow_add, Nat.pow_succ, Nat.mul_add, Nat.mul_one, Nat.mul_assoc]
    have h2 : 2 ^ a ≤ 2 ^ (a + m) := Nat.pow_le_pow_right (by omega) (by omega)
    omega
  omega

/-- What the search finds. -/
theorem nxt_run (N a m q : Nat) (hm : 0 < m) : ∀ f w, w + 1 ≤ a + m → a + m ≤ w + f → nxt N (run a m q) f w (w - a) = if a + m < N then (2 ^ (a + m + 1) * q ||| 2 ^ (a + m) ||| (2 ^ (m - 1) - 1), true) else (0, false)
  | 0, w, h1, h2 => by omega
  | f + 1, w, h1, h2 => by
    unfold nxt
    by_cases hN : w + 1 < N
    · rw [if_pos hN, run_bit a m q w (by omega), run_bit a m q (w + 1) (by omega)]
      by_cases ha : a ≤ w
      · rw [if_pos (by simp; omega)]
        by_cases hl : w + 1 < a + m
        · rw [if_pos (by simp; omega), show w - a + 1 = w + 1 - a by omega]
          exact nxt_run N a m q hm f (w + 1) (by omega) (by omega)
        · have e : w + 1 = a + m := by omega
          rw [if_neg (by simp; omega), if_pos (by omega), show w - a = m - 1 by omega, show w + 2 = a + m + 1 by omega, e]
          have hd : run a m q / 2 ^ (a + m + 1) = q := by
            unfold run
            have h := run_low a m
            have h2 : 2 ^ (a + m) < 2 ^ (a + m + 1) := Nat.pow_lt_pow_right (by omega) (by omega)
            rw [Nat.mul_add_div (Nat.two_pow_pos _), Nat.div_eq_of_lt (by omega), Nat.add_zero]
          rw [hd]
      · rw [if_neg (by simp; omega), show w - a = w + 1 - a by omega]
        exact nxt_run N a m q hm f (w + 1) (by omega) (by omega)
    · rw [if_neg hN, if_neg (by omega)]
theorem nxt_zero (N : Nat) : ∀ f w b, nxt N 0 f w b = (0, false)
  | 0, _, _ => rfl
  | f + 1, w, b => by
    unfold nxt
    simp [Nat.zero_testBit, nxt_zero N f]

/-- What the program computes is what is found. -/
theorem xor_run (a m q : Nat) : run a m q ^^^ (2 ^ (a + m) * (2 * q + 1)) = 2 ^ a * (2 ^ (m + 1) - 1) := by
  have e : 2 ^ (a + m) * (2 * q + 1) = 2 ^ (a + m + 1) * q + 2 ^ (a + m) := by
    rw [Nat.pow_succ, Nat.mul_add, Nat.mul_one, Nat.mul_assoc]
  have h := run_low a m
  have h2 : 2 ^ (a + m) < 2 ^ (a + m + 1) := Nat.pow_lt_pow_right (by omega) (by omega)
  rw [e]
  apply Nat.eq_of_testBit_eq
  intro i
  unfold run
  rw [Nat.testBit_xor, Nat.testBit_two_pow_mul_add _ (by omega), Nat.testBit_two_pow_mul_add _ h2, Nat.mul_comm (2 ^ a), Nat.testBit_mul_two_pow, Nat.testBit_two_pow_sub_one, Nat.testBit_two_pow, Nat.mul_comm (2 ^ a), Nat.testBit_mul_two_pow, Nat.testBit_two_pow_sub_one]
  by_cases hi : i < a + m + 1
  · rw [if_pos hi, if_pos hi]
    by_cases h1 : a ≤ i
    · by_cases h3 : a + m = i
      · simp [h1, h3, show ¬ (i - a < m) by omega, show i - a < m + 1 by omega]
      · simp [h1, h3, show (i - a < m) = (i - a < m + 1) by simp; omega]
    · simp [h1, show ¬ (a + m = i) by omega]
  · rw [if_neg hi, if_neg hi]
    simp [show ¬ (i - a < m + 1) by omega]
theorem quo_run (a m : Nat) (hm : 0 < m) : 2 ^ a * (2 ^ (m + 1) - 1) / 2 ^ a / 4 = 2 ^ (m - 1) - 1 := by
  rw [Nat.mul_div_cancel_left _ (Nat.two_pow_pos a)]
  obtain ⟨k, rfl⟩ : ∃ k, m = k + 1 := ⟨m - 1, by omega⟩
  rw [show k + 1 + 1 = k + 2 from rfl, Nat.pow_add, Nat.add_sub_cancel]
  have := Nat.two_pow_pos k
  omega
theorem high_run (a m q : Nat) : 2 ^ (a + m) * (2 * q + 1) = 2 ^ (a + m + 1) * q ||| 2 ^ (a + m) := by
  have h2 : 2 ^ (a + m) < 2 ^ (a + m + 1) := Nat.pow_lt_pow_right (by omega) (by omega)
  rw [← Nat.two_pow_add_eq_or_of_lt h2, Nat.pow_succ, Nat.mul_add, Nat.mul_one, Nat.mul_assoc]
end Go.Proofs.YtckmhngcnimmdaaDoor
