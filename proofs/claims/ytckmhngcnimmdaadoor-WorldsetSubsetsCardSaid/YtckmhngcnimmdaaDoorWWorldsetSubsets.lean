/- The law WorldsetSubsets answers true. Conditions: the library's variables lie as they are read. -/
import Derived.Test.YtckmhngcnimmdaaDoorWsAw
import Derived.Test.YtckmhngcnimmdaaDoorWsSu
set_option linter.unusedVariables false
set_option linter.unusedSimpArgs false
namespace Go.Proofs.YtckmhngcnimmdaaDoor
open Go.RowKit
def prevS (m : List Nat) (x : Nat) : Nat := if x = 0 then 0 else sel (x - 1) m
section
set_option maxRecDepth 100000
set_option maxHeartbeats 1000000
theorem walk_WorldsetSubsets (s : Nat) (w : World) (hs : s < 18446744073709551616) (ht : Tab w) :
    Calls Tryd.prog 7 #[.int .u64 s] w fun e w' => e = .returned (.bool true) ∧ Keep NoF w w' := by
  have HB := Lib.hid (fun w1 => wbits_any s hs w1)
  have hmm := mem_len s
  by_cases h12 : 12 < (mem s).length
  · generalize (mem s).length = L at *
    go_enter Tryd.func7, Tryd.ntmps7
    go_wp2_with (first
      | (go_at_call 31; (with_reducible refine (HB.out _).mono ?_); rintro e w' ⟨rfl, hw'⟩; obtain rfl := hw'.symm)
      | (go_at_call 11; (with_reducible refine (awake_any w ht).mono ?_); rintro e w1 ⟨rfl, hk1⟩))
    go_ret
    exact ⟨rfl, hk1⟩
  · have hN : 2 ^ (mem s).length ≤ 4096 := Nat.pow_le_pow_right (n := 2) (by omega) (show (mem s).length ≤ 12 by omega)
    have hN1 := Nat.two_pow_pos (mem s).length
    have e1 : (2 : Int) ^ (mem s).length = ((2 ^ (mem s).length : Nat) : Int) := by push_cast; rfl
    have HS : Hid (∀ w1 (x : Nat), Tab w1 → x < 2 ^ (mem s).length → Calls Tryd.prog 32 #[.int .u64 s, .int .i64 x] w1 fun e w' => e = .returned (.tuple #[.int .u64 (sel x (mem s)), .bool true]) ∧ Keep NoF w1 w') := Lib.hid fun w1 x hT hx => by
      have := Subset_any s x w1 hs (by omega) hT
      rw [show subS s x = (sel x (mem s), true) by rw [show subS s x = subL 0 x (mem s) from if_neg (by omega), subL_sel, if_pos hx, Nat.zero_or]] at this
      exact this
    have HSN : Hid (∀ w1, Tab w1 → Calls Tryd.prog 32 #[.int .u64 s, .int .i64 ((2 ^ (mem s).length : Nat) : Int)] w1 fun e w' => e = .returned (.tuple #[.int .u64 0, .bool false]) ∧ Keep NoF w1 w') := Lib.hid fun w1 hT => by
      have := Subset_any s ((2 ^ (mem s).length : Nat) : Int) w1 hs (by omega) hT
      rw [show subS s ((2 ^ (mem s).length : Nat) : Int) = (0, false) by rw [show subS s ((2 ^ (mem s).length : Nat) : Int) = subL 0 (2 ^ (mem s).length) (mem s) from if_neg (by omega), subL_sel, if_neg (by omega)]] at this
      exact this
    have HIN := Lib.hid (fun x => sel_in s x hs)
    have HMO : Hid (∀ x, x + 1 < 2 ^ (mem s).length → sel x (mem s) < sel (x + 1) (mem s)) := Lib.hid fun x hx => sel_mono _ x (mem_sorted s) hx
    have HAL := Lib.hid (sel_all s hs)
    generalize 2 ^ (mem s).length = N at *
    generalize hL : (mem s).length = L at *
    clear hL
    generalize mem s = m at *
    go_enter Tryd.func7, Tryd.ntmps7
    go_wp2_with (go_at_call 31; (with_reducible refine (HB.out _).mono ?_); rintro e w' ⟨rfl, hw'⟩; obtain rfl := hw'.symm)
    go_loopw [4, 19] (fun v i wr => ∃ x : Nat, i = .int .i64 x ∧ v = .int .u64 (prevS m x) ∧ x ≤ N ∧ Keep NoF w wr) (fun _ i _ => N - (intOf i).toNat)
    case atStart => exact ⟨0, rfl, rfl, by omega, Keep.refl _ _⟩
    case round =>
      obtain ⟨x, rfl, rfl, hx, hkr⟩ := hrel
      have K := Lib.hid hkr
      by_cases hlt : x < N
      · have hin := HIN.out x
        have HC := Lib.hid (HS.out wr x (ht.keep0 hkr) hlt)
        have HP : Hid (prevS m (x + 1) = sel x m) := Lib.hid (by unfold prevS; rw [if_neg (by omega), Nat.add_sub_cancel])
        clear hkr
        by_cases hx0 : x = 0
        · subst hx0
          have HC := Lib.hid (show Calls Tryd.prog 32 #[.int .u64 s, .int .i64 0] wr (fun e w' => e = .returned (.tuple #[.int .u64 (sel 0 m), .bool true]) ∧ Keep NoF wr w') from HC.out)
          generalize prevS m 0 = last at *
          generalize sel 0 m = t at *
          go_wp2_with (go_at_call 32; (with_reducible refine HC.out.mono ?_); rintro e w2 ⟨rfl, hk2⟩)
          go_roundw
          case rel => exact ⟨0 + 1, by go_num, by rw [HP.out], by omega, K.out.trans hk2 fun _ _ h => h⟩
          case measure => simp only [intOf]; omega
        · have hm : prevS m x < sel x m := by
            obtain ⟨y, rfl⟩ : ∃ y, x = y + 1 := ⟨x - 1, by omega⟩
            have := HMO.out y hlt
            unfold prevS
            rw [if_neg hx0, Nat.add_sub_cancel]
            exact this
          generalize prevS m x = last at *
          generalize sel x m = t at *
          go_wp2_with (go_at_call 32; (with_reducible refine HC.out.mono ?_); rintro e w2 ⟨rfl, hk2⟩)
          go_roundw
          case rel => exact ⟨x + 1, by go_num, by rw [HP.out], by omega, K.out.trans hk2 fun _ _ h => h⟩
          case measure => simp only [intOf]; omega
      · obtain rfl : x = N := by omega
        have hp : prevS m x = s := by
          unfold prevS
          rw [if_neg (by omega)]
          exact HAL.out
        rw [hp]
        clear hkr hp
        go_wp2_with (first
          | (go_at_call 32; (with_reducible refine (HSN.out wr (ht.keep0 K.out)).mono ?_); rintro e w2 ⟨rfl, hk2⟩; have K2 := Lib.hid (K.out.trans hk2 fun _ _ h => h))
          | (go_at_call 11; (with_reducible refine (awake_any w2 (ht.keep0 K2.out)).mono ?_); rintro e w4 ⟨rfl, hk4⟩))
        go_ret
        exact ⟨rfl, K2.out.trans hk4 fun _ _ h => h⟩
end
end Go.Proofs.YtckmhngcnimmdaaDoor
