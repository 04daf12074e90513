/- The next set of the same size: what the reference does. No condition. -/
import Derived.Test.YtckmhngcnimmdaaDoorWsT
import Derived.Test.YtckmhngcnimmdaaDoorWsN
set_option linter.unusedVariables false
set_option linter.unusedSimpArgs false
namespace Go.Proofs.YtckmhngcnimmdaaDoor
open Go.RowKit

theorem hi_lt (s k : Nat) (hs : s < 18446744073709551616) : 2 ^ k * (s / 2 ^ k) < 18446744073709551616 := Nat.lt_of_le_of_lt (Nat.mul_div_le s _) hs
theorem andNot_zero (s : Nat) (n : Int) (hs : s < 18446744073709551616) (h0 : 0 ≤ n) (hn : n ≤ 64) (h : s < 2 ^ n.toNat) : (bits .andNot .u64 (s : Int) (allS n : Int) != 0) = false := by
  rw [andNot_all s n hs h0 hn, (hi_zero s n.toNat).2 h]
  rfl
theorem andNot_nz (s : Nat) (n : Int) (hs : s < 18446744073709551616) (h0 : 0 ≤ n) (hn : n ≤ 64) (h : ¬ s < 2 ^ n.toNat) : (bits .andNot .u64 (s : Int) (allS n : Int) != 0) = true := by
  rw [andNot_all s n hs h0 hn]
  have := fun e => h ((hi_zero s n.toNat).1 e)
  generalize 2 ^ n.toNat * (s / 2 ^ n.toNat) = z at *
  simp
  omega

section
set_option maxRecDepth 100000
set_option maxHeartbeats 1000000
theorem rNext_any (n : Int) (s : Nat) (w : World) (hs : s < 18446744073709551616) :
    Calls Tryd.prog 36 #[.int .i64 n, .int .u64 s] w fun e w' => e = .returned (.tuple #[.int .u64 (nextS n s).1, .bool (nextS n s).2]) ∧ w' = w := by
  by_cases h1 : n < 0
  · rw [show nextS n s = (0, false) from if_pos (.inl h1)]
    go_enter Tryd.func36, Tryd.ntmps36
    go_wp2
    refine bodyPost_ret (v := .tuple #[.int .u64 0, .bool false]) (by simp [results, Tryd.results36, go_sem]) rfl ⟨rfl, rfl⟩
  · by_cases h2 : 64 < n
    · rw [show nextS n s = (0, false) from if_pos (.inr (.inl h2))]
      go_enter Tryd.func36, Tryd.ntmps36
      go_wp2
      refine bodyPost_ret (v := .tuple #[.int .u64 0, .bool false]) (by simp [results, Tryd.results36, go_sem]) rfl ⟨rfl, rfl⟩
    · by_cases h3 : 2 ^ n.toNat ≤ s
      · rw [show nextS n s = (0, false) from if_pos (.inr (.inr h3))]
        have hb := andNot_nz s n hs (by omega) (by omega) (by omega)
        have HA := Lib.hid (rAll_any w n)
        clear h3
        generalize allS n = A at *
        go_enter Tryd.func36, Tryd.ntmps36
        go_wp2_with (go_at_call 15; (with_reducible refine HA.out.mono ?_); rintro e w' ⟨rfl, hw'⟩; obtain rfl := hw'.symm)
        refine bodyPost_ret (v := .tuple #[.int .u64 0, .bool false]) (by simp [results, Tryd.results36, go_sem]) rfl ⟨rfl, rfl⟩
      · rw [show nextS n s = nxt n.toNat s 64 0 0 from if_neg (by omega)]
        have hb := andNot_zero s n hs (by omega) (by omega) (by omega)
        have HA := Lib.hid (rAll_any w n)
        clear h3
        generalize allS n = A at *
        obtain ⟨N, rfl⟩ : ∃ N : Nat, n = N := ⟨n.toNat, by omega⟩
        rw [Int.toNat_natCast]
        generalize hr : nxt N s 64 0 0 = r
        have HR0 := Lib.hid hr
        clear hr
        go_enter Tryd.func36, Tryd.ntmps36
        go_wp2_with (go_at_call 15; (with_reducible refine HA.out.mono ?_); rintro e w' ⟨rfl, hw'⟩; obtain rfl := hw'.symm)
        go_loopw [6, 7] (fun v i wr => ∃ x b f : Nat, i = .int .i64 x ∧ v = .int .i64 b ∧ f + x = 64 ∧ b ≤ x ∧ Hid (nxt N s f x b = r) ∧ wr = w) (fun _ i _ => 64 - (intOf i).toNat)
        case atStart => exact ⟨0, 0, 64, rfl, rfl, by omega, by omega, HR0, rfl⟩
        case round =>
          obtain ⟨x, b, f, rfl, rfl, hf, hbx, ho, hw⟩ := hrel
          obtain rfl := hw.symm; clear hw
          by_cases hN : x + 1 < N
          · obtain ⟨f, rfl⟩ : ∃ g, f = g + 1 := ⟨f - 1, by omega⟩
            have ho1 := ho.out
            unfold nxt at ho1
            rw [if_pos hN] at ho1
            clear ho
            have hx1 : hasS s x = s.testBit x := hasS_nat (by omega)
            have hx2 : hasS s ((x : Int) + 1) = s.testBit (x + 1) := hasS_nat (n := x + 1) (by omega)
            cases hb1 : s.testBit x
            · rw [hb1] at ho1 hx1
              have HO : Hid (nxt N s f (x + 1) b = r) := Lib.hid (by simpa using ho1)
              clear ho1 hb1 hx2
              go_wp2_with (go_at_call 24; (with_reducible refine (rHas_any _ s x hs).mono ?_); rintro e w' ⟨rfl, hw'⟩; obtain rfl := hw'.symm)
              go_roundw
              case rel => exact ⟨x + 1, b, f, by go_num, rfl, by omega, by omega, HO, by trivial⟩
              case measure => simp only [intOf]; omega
            · rw [hb1, if_pos rfl] at ho1
              rw [hb1] at hx1
              cases hb2 : s.testBit (x + 1)
              · rw [hb2] at ho1 hx2
                have e1 : bits .andNot .u64 (s : Int) (allS ((x : Int) + 2) : Int) = ((2 ^ (x + 2) * (s / 2 ^ (x + 2)) : Nat) : Int) := andNot_all s ((x + 2 : Nat) : Int) hs (by omega) (by omega)
                have l1 := hi_lt s (x + 2) hs
                have e2 := bits_or_u64_nat (2 ^ (x + 2) * (s / 2 ^ (x + 2))) (2 ^ (x + 1)) l1 (pow_lt64 (by omega))
                have l2 := or_lt64 l1 (pow_lt64 (show x + 1 < 64 by omega))
                have e3 := bits_or_u64_nat (2 ^ (x + 2) * (s / 2 ^ (x + 2)) ||| 2 ^ (x + 1)) (allS b) l2 (allS_lt _)
                have l3 := or_lt64 l2 (allS_lt b)
                have HO : Hid ((2 ^ (x + 2) * (s / 2 ^ (x + 2)) ||| 2 ^ (x + 1) ||| allS b, true) = r) := Lib.hid (by
                  rw [show allS b = 2 ^ b - 1 from by unfold allS; rw [if_neg (by omega)]; rfl]
                  simpa using ho1)
                have HB := Lib.hid (bit_any w (x + 1) (by omega))
                have hp : ((2 : Int) ^ (x + 1)) = ((2 ^ (x + 1) : Nat) : Int) := by push_cast; rfl
                rw [hp] at HB
                have HA2 := Lib.hid (rAll_any w ((x : Int) + 2))
                have HA0 := Lib.hid (rAll_any w (b : Int))
                rw [show ((x + 1 : Nat) : Int) = (x : Int) + 1 by omega] at HB
                clear ho1 hb1 hb2 HA HR0 hb hp
                generalize allS ((x : Int) + 2) = A2 at *
                generalize allS (b : Int) = A0 at *
                generalize 2 ^ (x + 2) * (s / 2 ^ (x + 2)) ||| 2 ^ (x + 1) ||| A0 = R3 at *
                generalize 2 ^ (x + 2) * (s / 2 ^ (x + 2)) ||| 2 ^ (x + 1) = R2 at *
                generalize 2 ^ (x + 2) * (s / 2 ^ (x + 2)) = R1 at *
                generalize 2 ^ (x + 1) = P at *
                go_wp2_with (first
                  | (go_at_call 24; (with_reducible refine (rHas_any _ s x hs).mono ?_); rintro e w' ⟨rfl, hw'⟩; obtain rfl := hw'.symm)
                  | (go_at_call 24; (with_reducible refine (rHas_any _ s ((x : Int) + 1) hs).mono ?_); rintro e w' ⟨rfl, hw'⟩; obtain rfl := hw'.symm)
                  | (go_at_call 15; (with_reducible refine HA2.out.mono ?_); rintro e w' ⟨rfl, hw'⟩; obtain rfl := hw'.symm)
                  | (go_at_call 15; (with_reducible refine HA0.out.mono ?_); rintro e w' ⟨rfl, hw'⟩; obtain rfl := hw'.symm)
                  | (go_at_call 38; (with_reducible refine HB.out.mono ?_); rintro e w' ⟨rfl, hw'⟩; obtain rfl := hw'.symm))
                refine bodyPost_ret (v := .tuple #[.int .u64 R3, .bool true]) (by simp [results, Tryd.results36, go_sem]) rfl ?_
                exact ⟨by rw [← HO.out] <;> rfl, rfl⟩
              · rw [hb2, if_pos rfl] at ho1
                rw [hb2] at hx2
                have HO := Lib.hid ho1
                clear ho1 hb1 hb2
                go_wp2_with (first
                  | (go_at_call 24; (with_reducible refine (rHas_any _ s x hs).mono ?_); rintro e w' ⟨rfl, hw'⟩; obtain rfl := hw'.symm)
                  | (go_at_call 24; (with_reducible refine (rHas_any _ s ((x : Int) + 1) hs).mono ?_); rintro e w' ⟨rfl, hw'⟩; obtain rfl := hw'.symm))
                go_roundw
                case rel => exact ⟨x + 1, b + 1, f, by go_num, by go_num, by omega, by omega, HO, by trivial⟩
                case measure => simp only [intOf]; omega
          · have HO : Hid ((0, false) = r) := Lib.hid (by
              rw [← ho.out]
              cases f with
              | zero => rfl
              | succ f => unfold nxt; rw [if_neg hN])
            clear ho
            go_wp2
            refine bodyPost_ret (v := .tuple #[.int .u64 0, .bool false]) (by simp [results, Tryd.results36, go_sem]) rfl ?_
            exact ⟨by rw [← HO.out] <;> rfl, rfl⟩
end
end Go.Proofs.YtckmhngcnimmdaaDoor
