/- The number of worlds of a set: what the program's Count does. No condition. -/
import Derived.Test.YtckmhngcnimmdaaDoorWsC
import Derived.Test.YtckmhngcnimmdaaDoorWsB
set_option linter.unusedVariables false
set_option linter.unusedSimpArgs false
namespace Go.Proofs.YtckmhngcnimmdaaDoor
open Go.RowKit

theorem and_i64_127 (x : Nat) (hx : x < 9223372036854775808) : bits BinOp.and IntKind.i64 (x : Int) 127 = ((x % 128 : Nat) : Int) := by
  have h1 : (BitVec.ofInt 64 (x : Int)).toNat = x := by
    rw [BitVec.ofInt_natCast, BitVec.toNat_ofNat]; exact Nat.mod_eq_of_lt (by omega)
  have h2 : x &&& 127 = x % 128 := Nat.and_two_pow_sub_one_eq_mod x 7
  show IntKind.i64.wrap ((BitVec.ofInt 64 (x : Int) &&& BitVec.ofInt 64 127).toNat : Int) = _
  rw [BitVec.toNat_and, h1, show (BitVec.ofInt 64 127).toNat = 127 from rfl, h2]
  have : x % 128 < 128 := Nat.mod_lt _ (by omega)
  generalize x % 128 = r at *
  simp [IntKind.wrap, IntKind.signed, IntKind.bits]
  omega

set_option maxRecDepth 100000 in
set_option maxHeartbeats 1000000 in
theorem Ones_any (s : Nat) (hs : s < 18446744073709551616) (w : World) : Calls Tryd.prog 40 #[.int .u64 s] w fun e w' => e = .returned (.int .i64 (mem s).length) ∧ w' = w := by
  have e1 : bits BinOp.and IntKind.u64 ((s : Int) / 2) 6148914691236517205 = ((s / 2 &&& m0 8 : Nat) : Int) := bits_and_u64_nat (s / 2) 6148914691236517205 (by omega) (by omega)
  have e1' : bits BinOp.and IntKind.u64 (s : Int) 6148914691236517205 = ((s &&& m0 8 : Nat) : Int) := bits_and_u64_nat s 6148914691236517205 hs (by omega)
  have l1 : s / 2 &&& m0 8 ≤ 6148914691236517205 := Nat.and_le_right
  have l1' : s &&& m0 8 ≤ 6148914691236517205 := Nat.and_le_right
  obtain ⟨x1, h1⟩ : ∃ x1, x1 = st1 8 s := ⟨_, rfl⟩
  have k1 : x1 = (s / 2 &&& m0 8) + (s &&& m0 8) := h1
  generalize s / 2 &&& m0 8 = a1 at *
  generalize s &&& m0 8 = a1' at *
  have f1 : (a1 : Int) + a1' = x1 := by omega
  have e2 : bits BinOp.and IntKind.u64 ((x1 : Int) / 4) 3689348814741910323 = ((x1 / 4 &&& m1 8 : Nat) : Int) := bits_and_u64_nat (x1 / 4) 3689348814741910323 (by omega) (by omega)
  have e2' : bits BinOp.and IntKind.u64 (x1 : Int) 3689348814741910323 = ((x1 &&& m1 8 : Nat) : Int) := bits_and_u64_nat x1 3689348814741910323 (by omega) (by omega)
  have l2 : x1 / 4 &&& m1 8 ≤ 3689348814741910323 := Nat.and_le_right
  have l2' : x1 &&& m1 8 ≤ 3689348814741910323 := Nat.and_le_right
  obtain ⟨x2, h2⟩ : ∃ x2, x2 = st2 8 x1 := ⟨_, rfl⟩
  have k2 : x2 = (x1 / 4 &&& m1 8) + (x1 &&& m1 8) := h2
  generalize x1 / 4 &&& m1 8 = a2 at *
  generalize x1 &&& m1 8 = a2' at *
  have f2 : (a2 : Int) + a2' = x2 := by omega
  obtain ⟨x3, h3⟩ : ∃ x3, x3 = st3 8 x2 := ⟨_, rfl⟩
  have e3 : bits BinOp.and IntKind.u64 ((x2 : Int) / 16 + x2) 1085102592571150095 = (x3 : Int) := by
    rw [show (x2 : Int) / 16 + x2 = ((x2 / 16 + x2 : Nat) : Int) by omega, h3]
    exact bits_and_u64_nat (x2 / 16 + x2) 1085102592571150095 (by omega) (by omega)
  have l3 : x3 ≤ 1085102592571150095 := by rw [h3]; exact Nat.and_le_right
  obtain ⟨x4, h4⟩ : ∃ x4, x4 = x3 + x3 / 256 := ⟨_, rfl⟩
  obtain ⟨x5, h5⟩ : ∃ x5, x5 = x4 + x4 / 65536 := ⟨_, rfl⟩
  obtain ⟨x6, h6⟩ : ∃ x6, x6 = x5 + x5 / 4294967296 := ⟨_, rfl⟩
  have b2 : x2 ≤ 7378697629483820646 := by omega
  have l4 : x4 ≤ 1089341274573615056 := by omega
  have l5 : x5 ≤ 1089357896771880000 := by omega
  have l6 : x6 < 1090000000000000000 := by omega
  have f4 : (x3 : Int) + x3 / 256 = x4 := by omega
  have f5 : (x4 : Int) + x4 / 65536 = x5 := by omega
  have f6 : (x5 : Int) + x5 / 4294967296 = x6 := by omega
  have e6 := and_i64_127 x6 (by omega)
  have HP := Lib.hid (count_plain s x1 x2 x3 x4 x5 x6 h1 h2 h3 h4 h5 h6).1
  rw [HP.out] at e6
  clear h1 h2 h3 h4 h5 h6 k1 k2 HP
  have hmx := mem_len s
  generalize (mem s).length = len at *
  have hA := Lib.hid l1
  go_enter Tryd.func40, Tryd.ntmps40
  go_wp2
  go_ret
  exact ⟨rfl, rfl⟩

theorem Count_any (s : Nat) (hs : s < 18446744073709551616) (w : World) : Calls Tryd.prog 19 #[.int .u64 s] w fun e w' => e = .returned (.int .i64 (mem s).length) ∧ w' = w := by
  have HO := Lib.hid (Ones_any s hs w)
  generalize (mem s).length = len at *
  go_enter Tryd.func19, Tryd.ntmps19
  go_wp2_with (go_at_call 40; (with_reducible refine HO.out.mono ?_); rintro e w' ⟨rfl, hw'⟩; obtain rfl := hw'.symm)
  go_ret
  exact ⟨rfl, rfl⟩

set_option maxRecDepth 100000 in
set_option maxHeartbeats 1000000 in
theorem wbits_any (s : Nat) (hs : s < 18446744073709551616) (w : World) : Calls Tryd.prog 31 #[.int .u64 s] w fun e w' => e = .returned (.int .i64 (mem s).length) ∧ w' = w := by
  have hmx := mem_len s
  obtain ⟨len, hlen⟩ : ∃ len, len = (mem s).length := ⟨_, rfl⟩
  rw [← hlen] at hmx ⊢
  have HL := Lib.hid hlen
  clear hlen
  go_enter Tryd.func31, Tryd.ntmps31
  go_wp2
  go_loopw [0, 3] (fun v i wr => ∃ s' k : Nat, v = .int .u64 s' ∧ i = .int .i64 k ∧ s' < 18446744073709551616 ∧ k + (mem s').length = len ∧ wr = w) (fun v _ _ => (mem (intOf v).toNat).length)
  case atStart => exact ⟨s, 0, rfl, rfl, hs, by rw [HL.out]; omega, rfl⟩
  case round =>
    obtain ⟨s', k, rfl, rfl, hs', hk, hw⟩ := hrel
    obtain rfl := hw.symm; clear hw
    by_cases hz : s' = 0
    · subst hz
      have hk0 : k = len := by rw [mem_zero] at hk; simpa using hk
      subst hk0
      clear hk
      go_wp2
      go_ret
      exact ⟨rfl, rfl⟩
    · have e0 : ((s' : Int) != 0) = true := by simp; omega
      have HS := Lib.hid (mem_step hz hs')
      have HK := Lib.hid hk
      have HV : Hid (bits BinOp.and IntKind.u64 (s' : Int) ((s' : Int) - 1) = ((s' &&& (s' - 1) : Nat) : Int)) := Lib.hid (by
        rw [show (s' : Int) - 1 = ((s' - 1 : Nat) : Int) by omega, bits_and_u64_nat _ _ hs' (by omega)])
      have hkl : k ≤ 64 := by omega
      clear hk
      go_wp2
      go_roundw
      case rel => exact ⟨s' &&& (s' - 1), k + 1, congrArg (Value.int .u64) HV.out, by go_num, Nat.lt_of_le_of_lt Nat.and_le_left hs', by rw [← HK.out, HS.out]; simp; omega, by trivial⟩
      case measure =>
        simp only [intOf]
        rw [HV.out, Int.toNat_natCast, Int.toNat_natCast, HS.out]
        simp
end Go.Proofs.YtckmhngcnimmdaaDoor
