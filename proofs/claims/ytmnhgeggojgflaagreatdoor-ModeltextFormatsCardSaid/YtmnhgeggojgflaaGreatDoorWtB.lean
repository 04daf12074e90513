/- The lowest world of a set: what the program's function does; the members, one after another. Conditions: the library's table of trailing zeros lies in its variable. -/
import Derived.Test.YtmnhgeggojgflaaGreatDoorWtM
import Derived.Test.YtmnhgeggojgflaaGreatDoorMtSh
import Derived.BigQuiet
import Derived.Deep.QuietTactic
set_option linter.unusedVariables false
set_option linter.unusedSimpArgs false
namespace Go.Proofs.YtmnhgeggojgflaaGreatDoor.Ws
open Go.RowKit

/-- The library's variables that are read. -/
def Tab (w : World) : Prop := TabAt 2 Lib.deBruijn64tab w ∧ ∃ m, w.cell? ⟨0, 0, none⟩ = some (.int .i64 m)
theorem Tab.keep {F : Nat → Prop} {w w' : World} (h : Tab w) (hk : Keep F w w') (hf : ∀ k, k < 9 → ¬ F k) : Tab w' := by
  obtain ⟨h1, m, h2⟩ := h
  exact ⟨fun j hj => hk.cellv (h1 j hj) (hf 2 (by omega)), m, hk.cellv h2 (hf 0 (by omega))⟩
theorem Tab.keep0 {w w' : World} (h : Tab w) (hk : Keep NoF w w') : Tab w' := h.keep hk fun _ _ h => h
theorem Tab.size {w : World} (h : Tab w) : 0 + 1 ≤ w.heap.size := by
  obtain ⟨h1, m, h2⟩ := h
  exact World.block_lt_of_cell? w _ h2
theorem Tab.drewN {w : World} (h : Tab w) (n : Nat) : Tab (w.drewN n) := h

theorem tz_any (s : Nat) (hs : s < 18446744073709551616) (w : World) (ht : Tab w) : Calls Tryz.prog 95 #[.int .u64 s] w fun e w' => e = .returned (.int .i64 (Lib.ctz 64 s)) ∧ w' = w :=
  Any7.bits_TrailingZeros64 Tryz.lays29 s hs w fun _ => ht.1

theorem ctz_spec {s : Nat} (h0 : s ≠ 0) (hs : s < 18446744073709551616) : Lib.ctz 64 s < 64 ∧ ∃ m, s = 2 ^ Lib.ctz 64 s * (2 * m + 1) := by
  obtain ⟨m, hm, hk⟩ := Lib.ctzFrom_spec 64 s (by omega) hs
  have e : Lib.ctz 64 s = Lib.ctzFrom 64 s := by simp [Lib.ctz, h0]
  rw [e]
  exact ⟨hk, m, hm⟩
/-- The lowest bit is struck. -/
theorem odd_bits (c m i : Nat) : (2 ^ c * (2 * m + 1)).testBit i = (decide (c ≤ i) && (2 * m + 1).testBit (i - c)) := by
  rw [Nat.mul_comm, Nat.testBit_mul_two_pow]
theorem strike (c m : Nat) : (2 ^ c * (2 * m + 1)) &&& (2 ^ c * (2 * m + 1) - 1) = 2 ^ c * (2 * m) := by
  have e : 2 ^ c * (2 * m + 1) - 1 = 2 ^ c * (2 * m) + (2 ^ c - 1) := by
    have := Nat.two_pow_pos c
    rw [Nat.mul_add]
    omega
  have hlt : 2 ^ c - 1 < 2 ^ c := by
    have := Nat.two_pow_pos c
    omega
  rw [e]
  apply Nat.eq_of_testBit_eq
  intro i
  rw [Nat.testBit_and, odd_bits, Nat.testBit_two_pow_mul_add _ hlt, Nat.mul_comm (2 ^ c) (2 * m), Nat.testBit_mul_two_pow]
  by_cases hi : i < c
  · simp [hi, show ¬ c ≤ i by omega]
  · rw [if_neg hi]
    have : c ≤ i := by omega
    simp only [this, decide_true, Bool.true_and]
    cases hd : i - c with
    | zero => simp [Nat.testBit_zero]
    | succ j =>
      rw [Nat.testBit_succ, Nat.testBit_succ, show (2 * m + 1) / 2 = m by omega, show 2 * m / 2 = m by omega, Bool.and_self]
theorem memTo_pre (s : Nat) (k : Nat) (h : ∀ i, i < k → s.testBit i = false) : memTo s k = [] := by
  unfold memTo
  rw [List.filter_eq_nil_iff]
  intro i hi
  rw [h i (List.mem_range.1 hi)]
  simp
theorem memTo_add (s a b : Nat) : memTo s (a + b) = memTo s a ++ ((List.range b).map (a + ·)).filter s.testBit := by
  unfold memTo
  rw [List.range_add, List.filter_append]
theorem mem_zero : mem 0 = [] := memTo_pre 0 64 fun i _ => Nat.zero_testBit i
theorem mem_step {s : Nat} (h0 : s ≠ 0) (hs : s < 18446744073709551616) : mem s = Lib.ctz 64 s :: mem (s &&& (s - 1)) := by
  obtain ⟨hc, m, hm⟩ := ctz_spec h0 hs
  generalize Lib.ctz 64 s = c at *
  subst hm
  rw [strike]
  have hb0 : ∀ i, i < c → (2 ^ c * (2 * m + 1)).testBit i = false := fun i hi => by rw [odd_bits]; simp; omega
  have hb1 : (2 ^ c * (2 * m + 1)).testBit c = true := by rw [odd_bits]; simp [Nat.testBit_zero]
  have hd0 : ∀ i, i < c + 1 → (2 ^ c * (2 * m)).testBit i = false := fun i hi => by
    rw [Nat.mul_comm (2 ^ c), Nat.testBit_mul_two_pow]
    by_cases h : c ≤ i
    · rw [show i - c = 0 by omega]; simp [Nat.testBit_zero]
    · simp [h]
  have hd1 : ∀ i, c < i → (2 ^ c * (2 * m)).testBit i = (2 ^ c * (2 * m + 1)).testBit i := fun i hi => by
    rw [odd_bits, Nat.mul_comm (2 ^ c), Nat.testBit_mul_two_pow]
    obtain ⟨j, hj⟩ : ∃ j, i - c = j + 1 := ⟨i - c - 1, by omega⟩
    rw [hj, Nat.testBit_succ, Nat.testBit_succ, show (2 * m + 1) / 2 = m by omega, show 2 * m / 2 = m by omega]
  show memTo _ 64 = c :: memTo _ 64
  rw [show (64 : Nat) = (c + 1) + (63 - c) by omega, memTo_add _ (c + 1), memTo_add _ (c + 1), memTo_succ, memTo_pre _ c hb0, hb1, memTo_pre _ (c + 1) hd0]
  simp only [if_true, List.nil_append, List.cons_append, List.cons.injEq, true_and]
  apply List.filter_congr
  intro i hi
  obtain ⟨j, -, rfl⟩ := List.mem_map.1 hi
  exact (hd1 _ (by omega)).symm
theorem lowS_eq {s : Nat} (hs : s < 18446744073709551616) : lowS s = if s = 0 then -1 else (Lib.ctz 64 s : Int) := by
  unfold lowS
  by_cases h0 : s = 0
  · subst h0; rw [mem_zero]; rfl
  · rw [mem_step h0 hs, if_neg h0]

end Go.Proofs.YtmnhgeggojgflaaGreatDoor.Ws
