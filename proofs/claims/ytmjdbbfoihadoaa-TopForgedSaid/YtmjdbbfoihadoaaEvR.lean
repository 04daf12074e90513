/- What package relation's Box and Diamond do on a valid relation. No condition. -/
import Derived.Test.YtmjdbbfoihadoaaEvAC
import Derived.Test.YtmjdbbfoihadoaaBase
import Derived.Laws.Bits64b
import Derived.Laws.BitsAllLaws
import Derived.Lib.Hide
import Derived.Test.YtmjdbbfoihadoaaChecked
set_option linter.unusedVariables false
set_option linter.unusedSimpArgs false
namespace Go.Proofs.Ytmjdbbfoihadoaa
open Go.RowKit
open Ev
attribute [local go_sem] Oper.semAt_some
def u6 (l : List Nat) : List Value := l.map fun (x : Nat) => .int .u64 (x : Int)
theorem pow_lt64 {k : Nat} (h : k < 64) : 2 ^ k < 18446744073709551616 := Nat.pow_lt_pow_right (a := 2) (by omega) h
theorem shl1 {k : Nat} (h : k < 64) : IntKind.u64.wrap (2 ^ k) = ((2 ^ k : Nat) : Int) := by
  have e : (2 : Int) ^ k = ((2 ^ k : Nat) : Int) := by push_cast; rfl
  have := pow_lt64 h
  rw [e, IntKind.wrap_u64]
  generalize 2 ^ k = P at *
  omega
theorem shl1_sub {k : Nat} (h : k ≤ 64) : IntKind.u64.wrap (IntKind.u64.wrap (2 ^ k) - 1) = ((2 ^ k - 1 : Nat) : Int) := by
  have e : (2 : Int) ^ k = ((2 ^ k : Nat) : Int) := by push_cast; rfl
  have h1 : 2 ^ k ≤ 2 ^ 64 := Nat.pow_le_pow_right (by omega) h
  have h2 := Nat.two_pow_pos k
  rw [e, IntKind.wrap_u64, IntKind.wrap_u64]
  generalize 2 ^ k = P at *
  omega
theorem or_shl {s k : Nat} (hs : s < 18446744073709551616) (h : k < 64) : bits BinOp.or IntKind.u64 (s : Int) (IntKind.u64.wrap (2 ^ k)) = ((s ||| 2 ^ k : Nat) : Int) := by
  rw [shl1 h, bits_or_u64_nat _ _ hs (pow_lt64 h)]
theorem or_pow {s k : Nat} (hs : s < 18446744073709551616) (h : k < 64) : bits BinOp.or IntKind.u64 (s : Int) (2 ^ k) = ((s ||| 2 ^ k : Nat) : Int) := by
  rw [show (2 : Int) ^ k = ((2 ^ k : Nat) : Int) by push_cast; rfl, bits_or_u64_nat _ _ hs (pow_lt64 h)]
theorem or_lt64 {s t : Nat} (hs : s < 18446744073709551616) (ht : t < 18446744073709551616) : s ||| t < 18446744073709551616 := Nat.or_lt_two_pow (n := 64) hs ht
theorem Rd.nat {w : World} {A : Option Addr} {n c : Nat} {l : List Nat} (h : Rd w (.slice A n c) 1 l.length (u6 l)) {k : Nat} (hk : k < l.length) : ∃ bl off, A = some ⟨bl, off, none⟩ ∧ w.cell? ⟨bl, off + k, none⟩ = some (.int .u64 (l.getD k 0 : Nat)) := by
  obtain ⟨hn, _, bl, off, rfl, hc⟩ := h.at_ (by omega)
  exact ⟨bl, off, rfl, hc k _ (by simp [hk, u6])⟩
/-- A relation over its own length. -/
def Ok (R : List Nat) : Prop := Okr R R.length
theorem Ok.lt {R : List Nat} (h : Ok R) (k : Nat) : R.getD k 0 < 2 ^ R.length := h.at k
theorem Ok.lt64 {R : List Nat} (h : Ok R) (k : Nat) : R.getD k 0 < 18446744073709551616 := Ev.lt64 h.n64 (h.at k)
theorem all_sub {n : Nat} : 2 ^ n - 1 < 2 ^ n := allN_lt n
theorem adN_all {x n : Nat} (hn : n ≤ 64) (hx : x < 2 ^ n) : adN x (2 ^ n - 1) = 0 := by
  refine (adN_zero (Ev.lt64 hn hx) (Ev.lt64 hn (allN_lt n))).2 fun i hi => ?_
  rw [allN_bit]
  exact decide_eq_true (bit_lt hx hi)
theorem and_not (a b : Nat) (ha : a < 18446744073709551616) (hb : b < 18446744073709551616) : bits .andNot .u64 (a : Int) (b : Int) = ((adN a b : Nat) : Int) := u64_andNot_nat a b ha hb
section
set_option maxRecDepth 100000
set_option maxHeartbeats 1000000
theorem evAll_any (n : Nat) (hn : n ≤ 64) (w : World) : Calls Try.prog 54 #[.int .i64 n] w fun e w' => e = .returned (.int .u64 ((2 ^ n - 1 : Nat) : Int)) ∧ w' = w := by
  by_cases h : 64 ≤ n
  · obtain rfl : n = 64 := by omega
    go_enter Try.func54, Try.ntmps54
    go_wp2
    go_ret
    exact ⟨rfl, rfl⟩
  · have HS := Lib.hid (shl1_sub (k := n) (by omega))
    go_enter Try.func54, Try.ntmps54
    go_wp2
    go_ret
    exact ⟨congrArg (fun b => Ending.returned (Value.int .u64 b)) HS.out, rfl⟩
theorem evRelCheck_any (R : List Nat) (hR : Ok R) (A : Option Addr) (c : Nat) (w : World) (hrd : Rd w (.slice A R.length c) 1 R.length (u6 R)) : Calls Try.prog 53 #[.int .i64 R.length, .slice A R.length c] w fun e w' => e = .returned (.int .i64 0) ∧ w' = w := by
  have hn := hR.n64
  have hl : (R.length : Int) ≤ 64 := by omega
  have HA := Lib.hid (evAll_any R.length hn)
  have hall : 2 ^ R.length - 1 < 18446744073709551616 := by
    have h64 : 2 ^ R.length ≤ 2 ^ 64 := Nat.pow_le_pow_right (by omega) hn
    have := @all_sub R.length
    omega
  have HD : Hid (∀ k, (bits .andNot .u64 ((R.getD k 0 : Nat) : Int) ((2 ^ R.length - 1 : Nat) : Int) != 0) = false) := Lib.hid fun k => by
    rw [and_not _ _ (hR.lt64 k) hall, adN_all hn (hR.lt k)]; rfl
  generalize hN : 2 ^ R.length - 1 = N at *
  go_enter Try.func53, Try.ntmps53
  go_wp2
  go_loopw [19] (fun i wr => ∃ j : Nat, i = .int .i64 j ∧ j ≤ R.length ∧ wr = w) (fun i _ => R.length - (intOf i).toNat)
  case atStart => exact ⟨0, rfl, by omega, rfl⟩
  case round =>
    obtain ⟨j, rfl, hj, rfl⟩ := hrel
    by_cases hlt : j < R.length
    · obtain ⟨bl, off, rfl, hc⟩ := hrd.nat hlt
      have hE := HD.out j
      generalize R.getD j 0 = x at *
      have hlt' : (j : Int) < (R.length : Int) := by omega
      go_wp2_with (go_at_call 54; (with_reducible refine (HA.out _).mono ?_); rintro e w' ⟨rfl, hw'⟩; obtain rfl := hw'.symm)
      go_roundw
      case rel => exact ⟨j + 1, by go_num, by omega, by trivial⟩
      case measure => simp only [intOf]; omega
    · have hlt' : ¬ (j : Int) < (R.length : Int) := by omega
      go_wp2
      go_ret
      exact ⟨rfl, rfl⟩

theorem evBox_any (R : List Nat) (hR : Ok R) (s : Nat) (hs : s < 18446744073709551616) (A : Option Addr) (c : Nat) (w : World) (hrd : Rd w (.slice A R.length c) 1 R.length (u6 R)) :
    Calls Try.prog 26 #[.slice A R.length c, .int .u64 s] w fun e w' => e = .returned (.int .u64 (bxN R s)) ∧ w' = w := by
  have hl : (R.length : Int) ≤ 64 := by have := hR.n64; omega
  have HC := Lib.hid (evRelCheck_any R hR A c w hrd)
  have HE : Hid (∀ j, j < R.length → (bits .andNot .u64 ((R.getD j 0 : Nat) : Int) (s : Int) == 0) = decide (adN (R.getD j 0) s = 0)) := Lib.hid fun j hj => by
    rw [and_not _ _ (hR.lt64 j) hs, Bool.eq_iff_iff]
    simp only [beq_iff_eq, decide_eq_true_eq]
    omega
  have HO : Hid (bxN R s = encN R.length fun w => decide (adN (R.getD w 0) s = 0)) := Lib.hid rfl
  have HS : Hid (∀ j, encN (j + 1) (fun w => decide (adN (R.getD w 0) s = 0)) = encN j (fun w => decide (adN (R.getD w 0) s = 0)) ||| (if decide (adN (R.getD j 0) s = 0) = true then 2 ^ j else 0)) := Lib.hid fun j => rfl
  have HL : Hid (∀ j, j ≤ R.length → encN j (fun w => decide (adN (R.getD w 0) s = 0)) < 18446744073709551616) := Lib.hid fun j hj =>
    Nat.lt_of_lt_of_le (encN_lt j _) (Nat.pow_le_pow_right (n := 2) (j := 64) (by omega) (by omega))
  generalize hf : (fun w => decide (adN (R.getD w 0) s = 0)) = f at *
  have HF : Hid (∀ j, decide (adN (R.getD j 0) s = 0) = f j) := Lib.hid fun j => by rw [← hf]
  clear hf
  generalize bxN R s = res at *
  go_enter Try.func26, Try.ntmps26
  go_wp2_with (go_at_call 53; (with_reducible refine HC.out.mono ?_); rintro e w' ⟨rfl, hw'⟩; obtain rfl := hw'.symm)
  go_loopw [5, 14] (fun o i wr => ∃ j : Nat, i = .int .i64 j ∧ o = .int .u64 (encN j f : Nat) ∧ j ≤ R.length ∧ wr = w) (fun _ i _ => R.length - (intOf i).toNat)
  case atStart => exact ⟨0, rfl, rfl, by omega, rfl⟩
  case round =>
    obtain ⟨j, rfl, rfl, hj, rfl⟩ := hrel
    by_cases hlt : j < R.length
    · obtain ⟨bl, off, rfl, hc⟩ := hrd.nat hlt
      have hE := HE.out j hlt
      rw [HF.out j] at hE
      have hS := HS.out j
      rw [HF.out j] at hS
      have hlt' : (j : Int) < (R.length : Int) := by omega
      have hj64 : j < 64 := by omega
      have HV := Lib.hid (or_shl (HL.out j hj) hj64)
      have HS1 := Lib.hid hS
      clear hS
      generalize hfo : encN (j + 1) f = o1 at *
      generalize encN j f = o at *
      generalize R.getD j 0 = x at *
      cases hfj : f j with
      | true =>
        rw [hfj] at hE HS1
        have HX : Hid (o ||| 2 ^ j = o1) := Lib.hid HS1.out.symm
        clear HS1
        go_wp2
        go_roundw
        case rel => exact ⟨j + 1, by go_num, by rw [hfo, ← HX.out]; exact congrArg (Value.int .u64) HV.out, by omega, by trivial⟩
        case measure => simp only [intOf]; omega
      | false =>
        rw [hfj] at hE HS1
        have HX : Hid (o = o1) := Lib.hid (by have := HS1.out; simpa using this.symm)
        clear HS1
        go_wp2
        go_roundw
        case rel => exact ⟨j + 1, by go_num, by rw [hfo, HX.out], by omega, by trivial⟩
        case measure => simp only [intOf]; omega
    · have hlt' : ¬ (j : Int) < (R.length : Int) := by omega
      have hjl : j = R.length := by omega
      have HR2 : Hid (encN j f = res) := Lib.hid (by rw [hjl]; exact HO.out.symm)
      clear hjl
      generalize encN j f = o at *
      go_wp2
      go_ret
      exact ⟨by rw [HR2.out]; rfl, rfl⟩
theorem xor_all {s : Nat} (hs : s < 18446744073709551616) : bits .xor .u64 (if IntKind.u64.signed = true then -1 else IntKind.u64.max) (s : Int) = ((18446744073709551615 - s : Nat) : Int) := by
  have e : (if IntKind.u64.signed = true then -1 else IntKind.u64.max) = ((18446744073709551615 : Nat) : Int) := by decide
  rw [e, u64_xor_nat _ _ (by omega) hs]
  congr 1
  apply Nat.eq_of_testBit_eq
  intro i
  rw [co_bit hs, Nat.testBit_xor, show (18446744073709551615 : Nat) = 2 ^ 64 - 1 by decide, Nat.testBit_two_pow_sub_one]
  by_cases hi : i < 64
  · simp [hi]
  · have : s.testBit i = false := by
      cases h : s.testBit i
      · rfl
      · exact absurd (bit_lt (n := 64) hs h) hi
    simp [hi, this]
theorem bxN_lt0 (R : List Nat) (s : Nat) : bxN R s < 2 ^ R.length := encN_lt _ _
theorem evDia_any (R : List Nat) (hR : Ok R) (s : Nat) (hs : s < 18446744073709551616) (A : Option Addr) (c : Nat) (w : World) (hrd : Rd w (.slice A R.length c) 1 R.length (u6 R)) :
    Calls Try.prog 27 #[.slice A R.length c, .int .u64 s] w fun e w' => e = .returned (.int .u64 (dmN R s)) ∧ w' = w := by
  have hn := hR.n64
  have h64 : 2 ^ R.length ≤ 2 ^ 64 := Nat.pow_le_pow_right (by omega) hn
  have HC := Lib.hid (evRelCheck_any R hR A c w hrd)
  have HA := Lib.hid (evAll_any R.length hn)
  have HB := Lib.hid (evBox_any R hR (18446744073709551615 - s) (by omega) A c w hrd)
  have hb := bxN_lt0 R (18446744073709551615 - s)
  have HV := Lib.hid (and_not (2 ^ R.length - 1) (bxN R (18446744073709551615 - s)) (by have := @all_sub R.length; omega) (by omega))
  have HD : Hid (dmN R s = adN (2 ^ R.length - 1) (bxN R (18446744073709551615 - s))) := Lib.hid rfl
  rw [← xor_all hs] at HB
  clear h64 hb
  generalize bxN R (18446744073709551615 - s) = b at *
  generalize 2 ^ R.length - 1 = N at *
  generalize dmN R s = d at *
  generalize adN N b = d2 at *
  go_enter Try.func27, Try.ntmps27
  go_wp2_with (first
    | (go_at_call 53; (with_reducible refine HC.out.mono ?_); rintro e w' ⟨rfl, hw'⟩; obtain rfl := hw'.symm)
    | (go_at_call 54; (with_reducible refine (HA.out _).mono ?_); rintro e w' ⟨rfl, hw'⟩; obtain rfl := hw'.symm)
    | (go_at_call 26; (with_reducible refine HB.out.mono ?_); rintro e w' ⟨rfl, hw'⟩; obtain rfl := hw'.symm))
  go_ret
  exact ⟨by rw [HV.out, HD.out]; rfl, rfl⟩

end
end Go.Proofs.Ytmjdbbfoihadoaa
