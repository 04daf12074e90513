/- Sets of worlds as numbers: plain facts, and what the first functions do. No condition. -/
import Derived.Test.YtmnhgeggojgflaaGreatDoorBase
import Derived.Laws.Bits64b
import Derived.Lib.Hide
import Derived.Test.YtmnhgeggojgflaaGreatDoorChecked
set_option linter.unusedVariables false
set_option linter.unusedSimpArgs false
namespace Go.Proofs.YtmnhgeggojgflaaGreatDoor.Ws
open Go.RowKit

theorem bit_u64 (S u : Nat) (hS : S < 18446744073709551616) : bits BinOp.and IntKind.u64 ((S : Int) / 2 ^ u) 1 = if S.testBit u then 1 else 0 := by
  have e : (S : Int) / 2 ^ u = ((S / 2 ^ u : Nat) : Int) := by push_cast; rfl
  rw [e, show (1 : Int) = ((1 : Nat) : Int) from rfl, bits_and_u64_nat _ _ (Nat.lt_of_le_of_lt (Nat.div_le_self _ _) hS) (by omega)]
  rw [Nat.and_one_is_mod, Nat.testBit_eq_decide_div_mod_eq]
  by_cases h : S / 2 ^ u % 2 = 1
  · simp [h]
  · have : S / 2 ^ u % 2 = 0 := by omega
    simp [this]
theorem bit_one (S u : Nat) (hS : S < 18446744073709551616) : (bits BinOp.and IntKind.u64 ((S : Int) / 2 ^ u) 1 == 1) = S.testBit u := by
  rw [bit_u64 S u hS]
  cases S.testBit u <;> rfl
theorem pow_lt64 {k : Nat} (h : k < 64) : 2 ^ k < 18446744073709551616 := Nat.pow_lt_pow_right (a := 2) (by omega) h
theorem shl1 {k : Nat} (h : k < 64) : IntKind.u64.wrap (2 ^ k) = ((2 ^ k : Nat) : Int) := by
  have e : (2 : Int) ^ k = ((2 ^ k : Nat) : Int) := by push_cast; rfl
  have := pow_lt64 h
  rw [e, IntKind.wrap_u64]
  generalize 2 ^ k = P at *
  omega
theorem shl1_sub {k : Nat} (h : k ≤ 64) : IntKind.u64.wrap (IntKind.u64.wrap (2 ^ k) - 1) = ((2 ^ k - 1 : Nat) : Int) := by
  have e : (2 : Int) ^ k = ((2 ^ k : Nat) : Int) := by push_cast; rfl
  have h1 : 2 ^ k ≤ 2 ^ 64 := Nat.pow_le_pow_right (by omega) h
  have h2 := Nat.two_pow_pos k
  rw [e, IntKind.wrap_u64, IntKind.wrap_u64]
  generalize 2 ^ k = P at *
  omega
theorem or_shl {s k : Nat} (hs : s < 18446744073709551616) (h : k < 64) : bits BinOp.or IntKind.u64 (s : Int) (IntKind.u64.wrap (2 ^ k)) = ((s ||| 2 ^ k : Nat) : Int) := by
  rw [shl1 h, bits_or_u64_nat _ _ hs (pow_lt64 h)]
theorem or_pow {s k : Nat} (hs : s < 18446744073709551616) (h : k < 64) : bits BinOp.or IntKind.u64 (s : Int) (2 ^ k) = ((s ||| 2 ^ k : Nat) : Int) := by
  rw [show (2 : Int) ^ k = ((2 ^ k : Nat) : Int) by push_cast; rfl, bits_or_u64_nat _ _ hs (pow_lt64 h)]
theorem or_lt64 {s t : Nat} (hs : s < 18446744073709551616) (ht : t < 18446744073709551616) : s ||| t < 18446744073709551616 := Nat.or_lt_two_pow (n := 64) hs ht
theorem and_pow (s k : Nat) : s &&& 2 ^ k = if s.testBit k then 2 ^ k else 0 := by
  apply Nat.eq_of_testBit_eq
  intro i
  rw [Nat.testBit_and, Nat.testBit_two_pow]
  by_cases h : k = i
  · subst h
    cases hb : s.testBit k <;> simp
  · cases hb : s.testBit k <;> simp [h, Nat.testBit_two_pow]
theorem and_bit {s k : Nat} (hs : s < 18446744073709551616) (h : k < 64) : (bits BinOp.and IntKind.u64 (s : Int) (2 ^ k) != 0) = s.testBit k := by
  rw [show (2 : Int) ^ k = ((2 ^ k : Nat) : Int) by push_cast; rfl, bits_and_u64_nat _ _ hs (pow_lt64 h), and_pow]
  have := Nat.two_pow_pos k
  cases s.testBit k
  · rfl
  · generalize 2 ^ k = P at *
    simp
    omega
theorem low_or (k : Nat) : (2 ^ k - 1) ||| 2 ^ k = 2 ^ (k + 1) - 1 := by
  apply Nat.eq_of_testBit_eq
  intro i
  rw [Nat.testBit_or, Nat.testBit_two_pow_sub_one, Nat.testBit_two_pow_sub_one, Nat.testBit_two_pow]
  by_cases h : i < k
  · simp [h, show i < k + 1 by omega]
  · by_cases h2 : k = i
    · subst h2; simp
    · simp [h, h2, show ¬ i < k + 1 by omega]

def hasS (s : Nat) (w : Int) : Bool := decide (0 ≤ w) && decide (w < 64) && s.testBit w.toNat
def allS (n : Int) : Nat := if n < 0 ∨ 64 < n then 0 else 2 ^ n.toNat - 1
theorem hasS_nat {s n : Nat} (h : n < 64) : hasS s n = s.testBit n := by unfold hasS; simp [show (n : Int) < 64 by omega]
theorem hasS_out {s : Nat} {u : Int} (h : u < 0 ∨ 64 ≤ u) : hasS s u = false := by
  unfold hasS
  rcases h with h | h
  · simp [show ¬ 0 ≤ u by omega]
  · simp [show ¬ u < 64 by omega]
theorem allS_lt (n : Int) : allS n < 18446744073709551616 := by
  unfold allS
  split
  · omega
  · have : 2 ^ n.toNat ≤ 2 ^ 64 := Nat.pow_le_pow_right (by omega) (by omega)
    have := Nat.two_pow_pos n.toNat
    omega

section
variable (w : World)
set_option maxRecDepth 100000
theorem bit_any (n : Nat) (hn : n < 64) : Calls Tryz.prog 126 #[.int .i64 n] w fun e w' => e = .returned (.int .u64 (2 ^ n)) ∧ w' = w := by
  go_enter Tryz.func126, Tryz.ntmps126
  go_wp2
  go_ret
  exact ⟨congrArg (fun b => Ending.returned (Value.int .u64 b)) ((shl1 hn).trans (by push_cast; rfl)), rfl⟩
theorem rHas_any (s : Nat) (u : Int) (hs : s < 18446744073709551616) : Calls Tryz.prog 97 #[.int .u64 s, .int .i64 u] w fun e w' => e = .returned (.bool (hasS s u)) ∧ w' = w := by
  by_cases h1 : u < 0
  · rw [hasS_out (.inl h1)]
    go_enter Tryz.func97, Tryz.ntmps97
    go_wp2
    go_ret
    exact ⟨rfl, rfl⟩
  · by_cases h2 : 64 ≤ u
    · rw [hasS_out (.inr h2)]
      go_enter Tryz.func97, Tryz.ntmps97
      go_wp2
      go_ret
      exact ⟨rfl, rfl⟩
    · obtain ⟨n, rfl⟩ : ∃ n : Nat, u = n := ⟨u.toNat, by omega⟩
      have hn : n < 64 := by omega
      have hb := and_bit hs hn
      rw [hasS_nat hn]
      generalize s.testBit n = b at *
      clear h1 h2
      go_enter Tryz.func97, Tryz.ntmps97
      go_wp2_with (go_at_call 126; (with_reducible refine (bit_any _ n hn).mono ?_); rintro e w' ⟨rfl, rfl⟩)
      go_ret
      exact ⟨rfl, rfl⟩
theorem All_any (n : Int) : Calls Tryz.prog 132 #[.int .i64 n] w fun e w' => e = .returned (.int .u64 (allS n)) ∧ w' = w := by
  by_cases h1 : n < 0
  · have hh : allS n = 0 := by unfold allS; rw [if_pos (.inl h1)]
    rw [hh]
    go_enter Tryz.func132, Tryz.ntmps132
    go_wp2
    go_ret
    exact ⟨rfl, rfl⟩
  · by_cases h2 : 64 < n
    · have hh : allS n = 0 := by unfold allS; rw [if_pos (.inr h2)]
      rw [hh]
      go_enter Tryz.func132, Tryz.ntmps132
      go_wp2
      go_ret
      exact ⟨rfl, rfl⟩
    · obtain ⟨k, rfl⟩ : ∃ k : Nat, n = k := ⟨n.toNat, by omega⟩
      have hh : allS k = 2 ^ k - 1 := by unfold allS; rw [if_neg (by omega)]; rfl
      rw [hh]
      go_enter Tryz.func132, Tryz.ntmps132
      go_wp2
      go_ret
      exact ⟨congrArg (fun b => Ending.returned (Value.int .u64 b)) (shl1_sub (by omega)), rfl⟩
theorem rAll_any (n : Int) : Calls Tryz.prog 134 #[.int .i64 n] w fun e w' => e = .returned (.int .u64 (allS n)) ∧ w' = w := by
  by_cases h2 : 64 < n
  · have hh : allS n = 0 := by unfold allS; rw [if_pos (.inr h2)]
    rw [hh]
    go_enter Tryz.func134, Tryz.ntmps134
    go_wp2
    go_ret
    exact ⟨rfl, rfl⟩
  · have HF : Hid (∀ k : Nat, (k : Int) ≤ max n 0 → ¬ (k : Int) < n → 2 ^ k - 1 = allS n) := Lib.hid fun k hk h => by
      unfold allS
      by_cases h0 : n < 0
      · rw [if_pos (.inl h0)]
        have : k = 0 := by omega
        subst this; rfl
      · rw [if_neg (by omega), show n.toNat = k by omega]
    generalize allS n = al at *
    go_enter Tryz.func134, Tryz.ntmps134
    go_wp2
    go_loopw [3, 4] (fun s i wr => ∃ k : Nat, i = .int .i64 k ∧ s = .int .u64 ((2 ^ k - 1 : Nat) : Int) ∧ (k : Int) ≤ max n 0 ∧ wr = w) (fun _ i _ => (n - intOf i).toNat)
    case atStart => exact ⟨0, rfl, rfl, by omega, rfl⟩
    case round =>
      obtain ⟨k, rfl, rfl, hk, rfl⟩ := hrel
      by_cases hlt : (k : Int) < n
      · have hk64 : k < 64 := by omega
        have hor : bits BinOp.or IntKind.u64 ((2 ^ k - 1 : Nat) : Int) (2 ^ k) = ((2 ^ (k + 1) - 1 : Nat) : Int) := by
          have := pow_lt64 hk64
          rw [or_pow (by omega) hk64, low_or]
        have HOR := Lib.hid hor
        clear hor
        generalize hP : 2 ^ k - 1 = P at *
        go_wp2_with (go_at_call 126; (with_reducible refine (bit_any _ k hk64).mono ?_); rintro e w' ⟨rfl, rfl⟩)
        go_roundw
        case rel => exact ⟨k + 1, by go_num, congrArg (Value.int .u64) HOR.out, by omega, by trivial⟩
        case measure => simp only [intOf]; omega
      · have HA := Lib.hid (HF.out k hk (by omega))
        go_wp2
        go_ret
        exact ⟨congrArg (fun b : Nat => Ending.returned (Value.int .u64 b)) HA.out, rfl⟩
end
end Go.Proofs.YtmnhgeggojgflaaGreatDoor.Ws
