/- What the checker's common does. No condition. -/
import Derived.Test.YtmjdbbfoihadoaaEvF
set_option linter.unusedVariables false
set_option linter.unusedSimpArgs false
namespace Go.Proofs.Ytmjdbbfoihadoaa
open Go.RowKit
open Ev
attribute [local go_sem] Oper.semAt_some
theorem and_nat {a b : Nat} (ha : a < 18446744073709551616) (hb : b < 18446744073709551616) : bits .and .u64 (a : Int) (b : Int) = ((a &&& b : Nat) : Int) := bits_and_u64_nat _ _ ha hb
theorem or_nat {a b : Nat} (ha : a < 18446744073709551616) (hb : b < 18446744073709551616) : bits .or .u64 (a : Int) (b : Int) = ((a ||| b : Nat) : Int) := bits_or_u64_nat _ _ ha hb
theorem ok_of {R : List Nat} {n : Nat} (h : Okr R n) : Ok R := ⟨rfl, by rw [h.len]; exact h.n64, by rw [h.len]; exact h.lt⟩
section
set_option maxRecDepth 100000
set_option maxHeartbeats 1000000
theorem ckcommon_any {R : List Nat} {n c s : Nat} (hR : Okr R n) (hc : c < 18446744073709551616) (hs : s < 18446744073709551616) (A : Option Addr) (cp : Nat) (w : World) (hrd : Rd w (.slice A R.length cp) 1 R.length (u6 R)) :
    Calls Try.prog 30 #[.slice A R.length cp, .int .u64 ((2 ^ n - 1 : Nat) : Int), .int .u64 (c : Int), .int .u64 (s : Int)] w fun e w' => e = .returned (.int .u64 (cmN R n c s : Nat)) ∧ w' = w := by
  have ha : 2 ^ n - 1 < 18446744073709551616 := Ev.lt64 hR.n64 (allN_lt n)
  have HBX : Hid (∀ z : Nat, z < 18446744073709551616 → Calls Try.prog 26 #[.slice A R.length cp, .int .u64 ((adN (2 ^ n - 1) c ||| (s &&& z) : Nat) : Int)] w fun e w' => e = .returned (.int .u64 (stN R n c s z : Nat)) ∧ w' = w) := Lib.hid fun z hz =>
    evBox_any R (ok_of hR) _ (Nat.or_lt_two_pow (n := 64) (Nat.lt_of_le_of_lt Nat.and_le_left ha) (Nat.lt_of_le_of_lt Nat.and_le_left hs)) A cp w hrd
  have E1 := and_not (2 ^ n - 1) c ha hc
  have HE2 : Hid (∀ z : Nat, z < 18446744073709551616 → bits .and .u64 (s : Int) (z : Int) = ((s &&& z : Nat) : Int)) := Lib.hid fun z hz => and_nat hs hz
  have HE3 : Hid (∀ z : Nat, z < 18446744073709551616 → bits .or .u64 ((adN (2 ^ n - 1) c : Nat) : Int) ((s &&& z : Nat) : Int) = ((adN (2 ^ n - 1) c ||| (s &&& z) : Nat) : Int)) := Lib.hid fun z hz => or_nat (Nat.lt_of_le_of_lt Nat.and_le_left ha) (Nat.lt_of_le_of_lt Nat.and_le_left hs)
  have HST : Hid (∀ z : Nat, stN R n c s z < 2 ^ n) := Lib.hid fun z => bxN_lt hR
  have HM : Hid (∀ z z' : Nat, Sub z z' → Sub (stN R n c s z) (stN R n c s z')) := Lib.hid fun z z' h => stN_mono hR hc hs h
  have HP := Lib.hid (cmN_post hR hc hs)
  have HF : Hid (∀ z : Nat, z < 2 ^ n → Sub (cmN R n c s) z → stN R n c s z = z → z = cmN R n c s) := Lib.hid fun z h1 h2 h3 => cmN_fix h1 h2 h3
  have HA : Hid (∀ z : Nat, z < 2 ^ n → Sub z (2 ^ n - 1)) := Lib.hid fun z hz i hi => by rw [allN_bit]; exact decide_eq_true (bit_lt hz hi)
  have HL : Hid (∀ z : Nat, z < 2 ^ n → z < 18446744073709551616) := Lib.hid fun z hz => Ev.lt64 hR.n64 hz
  have hal := allN_lt n
  have HCL := Lib.hid (cmN_lt R n c s)
  clear hrd hR hc hs ha
  generalize cmN R n c s = cm at *
  generalize hst : stN R n c s = st at *
  clear hst
  generalize adN (2 ^ n - 1) c = ac at *
  generalize 2 ^ n - 1 = al at *
  generalize 2 ^ n = P at *
  generalize R.length = rl at *
  go_enter Try.func30, Try.ntmps30
  go_wp2
  go_loopw [9] (fun t wr => ∃ z : Nat, t = .int .u64 (z : Int) ∧ z < P ∧ Hid (Sub cm z) ∧ Hid (Sub (st z) z) ∧ wr = w) (fun t _ => (intOf t).toNat)
  case atStart => exact ⟨al, rfl, hal, Lib.hid (HA.out _ HCL.out), Lib.hid (HA.out _ (HST.out _)), rfl⟩
  case round =>
    obtain ⟨z, rfl, hz, H1, H2, hw⟩ := hrel
    obtain rfl := hw.symm; clear hw
    have e2 := HE2.out z (HL.out z hz)
    have e3 := HE3.out z (HL.out z hz)
    have HB := Lib.hid (HBX.out z (HL.out z hz))
    have H3 : Hid (Sub cm (st z)) := Lib.hid (HP.out.trans (HM.out _ _ H1.out))
    have H4 : Hid (Sub (st (st z)) (st z)) := Lib.hid (HM.out _ _ H2.out)
    have h5 := HST.out z
    have H6 : Hid (st z = z → z = cm) := Lib.hid fun h => HF.out z hz H1.out h
    have H7 : Hid (st z ≤ z) := Lib.hid H2.out.le
    generalize ac ||| (s &&& z) = v at *
    generalize s &&& z = sz at *
    by_cases hq : st z = z
    · have HQ : Hid (z = cm) := Lib.hid (H6.out hq)
      rw [hq] at HB
      clear hq
      generalize st z = y at *
      go_wp2_with (go_at_call 26; (with_reducible refine HB.out.mono ?_); rintro e w' ⟨rfl, hw'⟩; obtain rfl := hw'.symm)
      go_ret
      exact ⟨by rw [HQ.out]; rfl, rfl⟩
    · have hq' : (((st z : Nat) : Int) == (z : Int)) = false := beq_eq_false_iff_ne.2 (by omega)
      have hq2 : (st z == z) = false := beq_eq_false_iff_ne.2 hq
      have HLT : Hid (st z < z) := Lib.hid (by have := H7.out; omega)
      clear hq
      generalize st z = y at *
      go_wp2_with (go_at_call 26; (with_reducible refine HB.out.mono ?_); rintro e w' ⟨rfl, hw'⟩; obtain rfl := hw'.symm)
      go_roundw
      case rel => exact ⟨y, rfl, h5, H3, H4, by trivial⟩
      case measure => have := HLT.out; simp only [intOf]; omega
end
end Go.Proofs.Ytmjdbbfoihadoaa
