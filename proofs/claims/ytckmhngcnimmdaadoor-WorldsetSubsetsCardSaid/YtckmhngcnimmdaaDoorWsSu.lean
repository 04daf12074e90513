/- The subsets of a set by their numbers: plain facts. No condition. -/
import Derived.Test.YtckmhngcnimmdaaDoorWsR
import Derived.Test.YtckmhngcnimmdaaDoorWsRa
import Derived.Laws.BitsAllLaws
set_option linter.unusedVariables false
set_option linter.unusedSimpArgs false
namespace Go.Proofs.YtckmhngcnimmdaaDoor
open Go.RowKit

/-- The i-th subset of a list of worlds. -/
def sel : Nat → List Nat → Nat
  | _, [] => 0
  | i, x :: l => (if i % 2 = 1 then 2 ^ x else 0) ||| sel (i / 2) l
theorem subL_sel : ∀ (l : List Nat) (t i : Nat), subL t i l = if i < 2 ^ l.length then (t ||| sel i l, true) else (0, false)
  | [], t, i => by
    unfold subL sel
    by_cases h : 0 < i
    · rw [if_pos h, if_neg (by simp; omega)]
    · rw [if_neg h, if_pos (by simp; omega), Nat.or_zero]
  | x :: l, t, i => by
    unfold subL sel
    rw [subL_sel l, List.length_cons, Nat.pow_succ]
    by_cases h : i / 2 < 2 ^ l.length
    · rw [if_pos h, if_pos (show i < 2 ^ l.length * 2 by omega)]
      by_cases hi : i % 2 = 1
      · rw [if_pos hi, if_pos hi, Nat.or_assoc]
      · rw [if_neg hi, if_neg hi, Nat.zero_or]
    · rw [if_neg h, if_neg (show ¬ i < 2 ^ l.length * 2 by omega)]
theorem sel_bit : ∀ (l : List Nat) (i j : Nat), (sel i l).testBit j = true → j ∈ l
  | [], i, j, h => by simp [sel] at h
  | x :: l, i, j, h => by
    unfold sel at h
    rw [Nat.testBit_or, Bool.or_eq_true] at h
    rcases h with h | h
    · by_cases hi : i % 2 = 1
      · rw [if_pos hi, Nat.testBit_two_pow] at h
        simp at h
        simp [h]
      · rw [if_neg hi, Nat.zero_testBit] at h
        cases h
    · exact List.mem_cons_of_mem _ (sel_bit l (i / 2) j h)
theorem sel_full : ∀ (l : List Nat) (j : Nat), (sel (2 ^ l.length - 1) l).testBit j = decide (j ∈ l)
  | [], j => by simp [sel]
  | x :: l, j => by
    have hp := Nat.two_pow_pos l.length
    have h1 : (2 ^ (l.length + 1) - 1) % 2 = 1 := by rw [Nat.pow_succ]; omega
    have h2 : (2 ^ (l.length + 1) - 1) / 2 = 2 ^ l.length - 1 := by rw [Nat.pow_succ]; omega
    unfold sel
    rw [List.length_cons, h1, h2, if_pos rfl, Nat.testBit_or, sel_full l j, Nat.testBit_two_pow]
    by_cases hj : j = x
    · simp [hj]
    · simp [hj, Ne.symm hj]
/-- All bits of it lie at x or beyond. -/
theorem sel_dvd : ∀ (l : List Nat) (i x : Nat), (∀ y ∈ l, x ≤ y) → ∃ k, sel i l = 2 ^ x * k
  | [], i, x, _ => ⟨0, rfl⟩
  | y :: l, i, x, h => by
    obtain ⟨k, hk⟩ := sel_dvd l (i / 2) x fun z hz => h z (by simp [hz])
    have hy := h y (by simp)
    unfold sel
    rw [hk]
    refine ⟨(if i % 2 = 1 then 2 ^ (y - x) else 0) ||| k, ?_⟩
    apply Nat.eq_of_testBit_eq
    intro j
    rw [Nat.testBit_or, Nat.mul_comm, Nat.testBit_mul_two_pow, Nat.mul_comm, Nat.testBit_mul_two_pow, Nat.testBit_or]
    by_cases hi : i % 2 = 1
    · rw [if_pos hi, if_pos hi, Nat.testBit_two_pow, Nat.testBit_two_pow]
      by_cases hj : x ≤ j
      · simp [hj, show (y - x = j - x) = (y = j) by simp; omega]
      · simp [hj, show ¬ y = j by omega]
    · rw [if_neg hi, if_neg hi]
      simp
theorem sel_head (x i : Nat) (l : List Nat) (h : ∀ y ∈ l, x < y) : ∃ k, sel (i / 2) l = 2 ^ (x + 1) * k ∧ sel i (x :: l) = 2 ^ (x + 1) * k + (if i % 2 = 1 then 2 ^ x else 0) := by
  obtain ⟨k, hk⟩ := sel_dvd l (i / 2) (x + 1) fun y hy => h y hy
  refine ⟨k, hk, ?_⟩
  have hlt : 2 ^ x < 2 ^ (x + 1) := Nat.pow_lt_pow_right (by omega) (by omega)
  unfold sel
  rw [hk]
  by_cases hi : i % 2 = 1
  · rw [if_pos hi, Nat.or_comm, Nat.two_pow_add_eq_or_of_lt hlt]
  · simp [hi]
theorem sel_mono : ∀ (l : List Nat) (i : Nat), l.Pairwise (· < ·) → i + 1 < 2 ^ l.length → sel i l < sel (i + 1) l
  | [], i, _, h => by simp at h
  | x :: l, i, hp, h => by
    have hp2 := List.pairwise_cons.1 hp
    obtain ⟨k, hk, e⟩ := sel_head x i l hp2.1
    obtain ⟨k', hk', e'⟩ := sel_head x (i + 1) l hp2.1
    have hx := Nat.two_pow_pos x
    rw [List.length_cons, Nat.pow_succ] at h
    rw [e, e']
    by_cases hi : i % 2 = 1
    · have hlt := sel_mono l (i / 2) hp2.2 (by omega)
      rw [show i / 2 + 1 = (i + 1) / 2 by omega, hk, hk'] at hlt
      have hkk : k < k' := Nat.lt_of_mul_lt_mul_left hlt
      have : 2 ^ (x + 1) * (k + 1) ≤ 2 ^ (x + 1) * k' := Nat.mul_le_mul_left _ hkk
      have h2 : 2 ^ (x + 1) = 2 ^ x * 2 := Nat.pow_succ ..
      rw [if_pos hi, if_neg (by omega)]
      rw [Nat.mul_add, Nat.mul_one] at this
      omega
    · rw [show (i + 1) / 2 = i / 2 by omega, hk] at hk'
      rw [← hk', if_neg hi, if_pos (by omega)]
      omega
theorem sel_all (s : Nat) (hs : s < 18446744073709551616) : sel (2 ^ (mem s).length - 1) (mem s) = s := by
  apply Nat.eq_of_testBit_eq
  intro j
  rw [sel_full]
  by_cases hj : j < 64
  · cases hb : s.testBit j
    · rw [decide_eq_false]
      intro hm
      rw [(mem_lt hm).2] at hb
      cases hb
    · rw [decide_eq_true]
      exact List.mem_filter.2 ⟨List.mem_range.2 hj, hb⟩
  · rw [Nat.testBit_lt_two_pow (Nat.lt_of_lt_of_le hs (Nat.pow_le_pow_right (n := 2) (by omega) (show 64 ≤ j by omega)))]
    exact decide_eq_false fun hm => hj (mem_lt hm).1
theorem sel_lt (s i : Nat) : sel i (mem s) < 18446744073709551616 := by
  apply Nat.lt_of_not_le
  intro hle
  obtain ⟨j, hj, hb⟩ := Nat.exists_ge_and_testBit_of_ge_two_pow (n := 64) hle
  have := (mem_lt (sel_bit _ _ _ hb)).1
  omega
/-- It lies in the set. -/
theorem sel_in (s i : Nat) (hs : s < 18446744073709551616) : (bits .andNot .u64 (sel i (mem s) : Int) (s : Int) != 0) = false := by
  rw [u64_andNot_nat _ _ (sel_lt s i) hs]
  have : sel i (mem s) &&& (18446744073709551615 - s) = 0 := by
    apply Nat.eq_of_testBit_eq
    intro j
    rw [Nat.testBit_and, Nat.zero_testBit]
    cases hb : (sel i (mem s)).testBit j
    · rfl
    · have hm := (mem_lt (sel_bit _ _ _ hb)).2
      have := Nat.testBit_two_pow_sub_succ (n := 64) hs j
      rw [show (18446744073709551615 : Nat) - s = 2 ^ 64 - (s + 1) by omega, this, hm]
      simp
  rw [this]
  rfl
end Go.Proofs.YtckmhngcnimmdaaDoor
