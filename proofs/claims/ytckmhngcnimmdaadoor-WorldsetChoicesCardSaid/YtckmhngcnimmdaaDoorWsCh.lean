/- The sets of k worlds below n, one after another, n up to 12: reckoned by the kernel. No condition. -/
import Derived.Test.YtckmhngcnimmdaaDoorWsT
set_option linter.unusedVariables false
set_option linter.unusedSimpArgs false
namespace Go.Proofs.YtckmhngcnimmdaaDoor
open Go.RowKit

def wnt (n : Nat) : Nat → Nat
  | 0 => 1
  | i + 1 => wnt n i * (n - i) / (i + 1)
def good (n k want : Nat) : Nat → Nat → Nat → Bool
  | 0, _, _ => true
  | f + 1, i, s => decide (s < 2 ^ n) && decide ((memTo s 12).length = k) && (nextS n s).2 == decide (i < want) && (!(nextS n s).2 || decide (s < (nextS n s).1)) && decide ((nextS n s).1 < 18446744073709551616) && good n k want f (i + 1) (nextS n s).1
theorem wnt_le : ∀ n, n < 13 → ∀ i, i < n + 1 → 1 ≤ wnt n i ∧ wnt n i ≤ 924 := by decide +kernel
theorem good_all : ∀ n, n < 13 → ∀ k, k < n + 1 → good n k (wnt n k) (wnt n k) 1 (2 ^ k - 1) = true := by decide +kernel
theorem mem12 {s n : Nat} (hn : n ≤ 12) (h : s < 2 ^ n) : (mem s).length = (memTo s 12).length := by
  have h12 : s < 2 ^ 12 := Nat.lt_of_lt_of_le h (Nat.pow_le_pow_right (by omega) hn)
  show (memTo s (12 + 52)).length = _
  rw [memTo_add, List.length_append, Nat.add_eq_left, List.length_eq_zero_iff, List.filter_eq_nil_iff]
  intro i hi
  obtain ⟨j, _, rfl⟩ := List.mem_map.1 hi
  rw [Nat.testBit_lt_two_pow (Nat.lt_of_lt_of_le h12 (Nat.pow_le_pow_right (n := 2) (by omega) (by omega)))]
  simp
theorem good_succ {n k want f i s : Nat} (hn : n ≤ 12) (h : good n k want (f + 1) i s = true) : s < 2 ^ n ∧ (mem s).length = k ∧ (nextS n s).2 = decide (i < want) ∧ ((nextS n s).2 = true → s < (nextS n s).1) ∧ (nextS n s).1 < 18446744073709551616 ∧ good n k want f (i + 1) (nextS n s).1 = true := by
  unfold good at h
  simp only [Bool.and_eq_true, decide_eq_true_eq, beq_iff_eq, Bool.or_eq_true, Bool.not_eq_true'] at h
  obtain ⟨⟨⟨⟨⟨h1, h2⟩, h3⟩, h4⟩, h5⟩, h6⟩ := h
  refine ⟨h1, by rw [mem12 hn h1, h2], h3, fun ht => ?_, h5, h6⟩
  rcases h4 with h4 | h4
  · rw [h4] at ht; cases ht
  · exact h4
end Go.Proofs.YtckmhngcnimmdaaDoor
