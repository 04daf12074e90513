/- What package relation's Box and Diamond do on a valid relation. No condition. -/
import Derived.Test.YtmnhgeggojgflaaGreatDoorEvAC
import Derived.Test.YtmnhgeggojgflaaGreatDoorBase
import Derived.Laws.Bits64b
import Derived.Laws.BitsAllLaws
import Derived.Lib.Hide
import Derived.Test.YtmnhgeggojgflaaGreatDoorChecked
set_option linter.unusedVariables false
set_option linter.unusedSimpArgs false
namespace Go.Proofs.YtmnhgeggojgflaaGreatDoor
open Go.RowKit
open Ev
attribute [local go_sem] Oper.semAt_some
def u6 (l : List Nat) : List Value := l.map fun (x : Nat) => .int .u64 (x : Int)
theorem pow_lt64 {k : Nat} (h : k < 64) : 2 ^ k < 18446744073709551616 := Nat.pow_lt_pow_right (a := 2) (by omega) h
theorem shl1 {k : Nat} (h : k < 64) : IntKind.u64.wrap (2 ^ k) = ((2 ^ k : Nat) : Int) := by
  have e : (2 : Int) ^ k = ((2 ^ k : Nat) : Int) := by push_cast; rfl
  have := pow_lt64 h
  rw [e, IntKind.wrap_u64]
  generalize 2 ^ k = P at *
  omega
theorem shl1_sub {k : Nat} (h : k ≤ 64) : IntKind.u64.wrap (IntKind.u64.wrap (2 ^ k) - 1) = ((2 ^ k - 1 : Nat) : Int) := by
  have e : (2 : Int) ^ k = ((2 ^ k : Nat) : Int) := by push_cast; rfl
  have h1 : 2 ^ k ≤ 2 ^ 64 := Nat.pow_le_pow_right (by omega) h
  have h2 := Nat.two_pow_pos k
  rw [e, IntKind.wrap_u64, IntKind.wrap_u64]
  generalize 2 ^ k = P at *
  omega
theorem or_shl {s k : Nat} (hs : s < 18446744073709551616) (h : k < 64) : bits BinOp.or IntKind.u64 (s : Int) (IntKind.u64.wrap (2 ^ k)) = ((s ||| 2 ^ k : Nat) : Int) := by
  rw [shl1 h, bits_or_u64_nat _ _ hs (pow_lt64 h)]
theorem or_pow {s k : Nat} (hs : s < 18446744073709551616) (h : k < 64) : bits BinOp.or IntKind.u64 (s : Int) (2 ^ k) = ((s ||| 2 ^ k : Nat) : Int) := by
  rw [show (2 : Int) ^ k = ((2 ^ k : Nat) : Int) by push_cast; rfl, bits_or_u64_nat _ _ hs (pow_lt64 h)]
theorem or_lt64 {s t : Nat} (hs : s < 18446744073709551616) (ht : t < 18446744073709551616) : s ||| t < 18446744073709551616 := Nat.or_lt_two_pow (n := 64) hs ht
theorem Rd.nat {w : World} {A : Option Addr} {n c : Nat} {l : List Nat} (h : Rd w (.slice A n c) 1 l.length (u6 l)) {k : Nat} (hk : k < l.length) : ∃ bl off, A = some ⟨bl, off, none⟩ ∧ w.cell? ⟨bl, off + k, none⟩ = some (.int .u64 (l.getD k 0 : Nat)) := by
  obtain ⟨hn, _, bl, off, rfl, hc⟩ := h.at_ (by omega)
  exact ⟨bl, off, rfl, hc k _ (by simp [hk, u6])⟩
/-- A relation over its own length. -/
def Ok (R : List Nat) : Prop := Okr R R.length
theorem Ok.lt {R : List Nat} (h : Ok R) (k : Nat) : R.getD k 0 < 2 ^ R.length := h.at k
theorem Ok.lt64 {R : List Nat} (h : Ok R) (k : Nat) : R.getD k 0 < 18446744073709551616 := Ev.lt64 h.n64 (h.at k)
theorem all_sub {n : Nat} : 2 ^ n - 1 < 2 ^ n := allN_lt n
theorem adN_all {x n : Nat} (hn : n ≤ 64) (hx : x < 2 ^ n) : adN x (2 ^ n - 1) = 0 := by
  refine (adN_zero (Ev.lt64 hn hx) (Ev.lt64 hn (allN_lt n))).2 fun i hi => ?_
  rw [allN_bit]
  exact decide_eq_true (bit_lt hx hi)
theorem and_not (a b : Nat) (ha : a < 18446744073709551616) (hb : b < 18446744073709551616) : bits .andNot .u64 (a : Int) (b : Int) = ((adN a b : Nat) : Int) := u64_andNot_nat a b ha hb
section
set_option maxRecDepth 100000
set_option maxHeartbeats 1000000
theorem xor_all {s : Nat} (hs : s < 18446744073709551616) : bits .xor .u64 (if IntKind.u64.signed = true then -1 else IntKind.u64.max) (s : Int) = ((18446744073709551615 - s : Nat) : Int) := by
  have e : (if IntKind.u64.signed = true then -1 else IntKind.u64.max) = ((18446744073709551615 : Nat) : Int) := by decide
  rw [e, u64_xor_nat _ _ (by omega) hs]
  congr 1
  apply Nat.eq_of_testBit_eq
  intro i
  rw [co_bit hs, Nat.testBit_xor, show (18446744073709551615 : Nat) = 2 ^ 64 - 1 by decide, Nat.testBit_two_pow_sub_one]
  by_cases hi : i < 64
  · simp [hi]
  · have : s.testBit i = false := by
      cases h : s.testBit i
      · rfl
      · exact absurd (bit_lt (n := 64) hs h) hi
    simp [hi, this]
theorem bxN_lt0 (R : List Nat) (s : Nat) : bxN R s < 2 ^ R.length := encN_lt _ _
end
end Go.Proofs.YtmnhgeggojgflaaGreatDoor
