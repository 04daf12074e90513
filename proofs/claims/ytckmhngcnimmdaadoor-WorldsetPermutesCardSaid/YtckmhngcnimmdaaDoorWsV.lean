/- The next set of the same size: what the program does. No condition. -/
import Derived.Test.YtckmhngcnimmdaaDoorWsU
set_option linter.unusedVariables false
set_option linter.unusedSimpArgs false
namespace Go.Proofs.YtckmhngcnimmdaaDoor
open Go.RowKit

theorem run_up {a m q M : Nat} (hM : a + m < M) (h : run a m q < 2 ^ M) : 2 ^ (a + m) * (2 * q + 1) < 2 ^ M := by
  obtain ⟨d, rfl⟩ : ∃ d, M = a + m + 1 + d := ⟨M - (a + m + 1), by omega⟩
  have h1 : 2 ^ (a + m + 1) * q < 2 ^ (a + m + 1) * 2 ^ d := by
    rw [← Nat.pow_add]
    exact Nat.lt_of_le_of_lt (Nat.le_add_right _ _) h
  have h2 : q < 2 ^ d := Nat.lt_of_mul_lt_mul_left h1
  have h3 : 2 ^ (a + m) * (2 * q + 1) < 2 ^ (a + m) * (2 * 2 ^ d) := Nat.mul_lt_mul_of_pos_left (by omega) (Nat.two_pow_pos _)
  rw [show 2 ^ (a + m + 1 + d) = 2 ^ (a + m) * (2 * 2 ^ d) by rw [Nat.pow_add, Nat.pow_succ, Nat.mul_assoc]]
  exact h3
theorem run_le {a m q M : Nat} (hm : 0 < m) (h : run a m q < 2 ^ M) : a + m ≤ M := by
  apply Nat.le_of_not_lt
  intro hlt
  have hb := run_bit a m q (a + m - 1) (by omega)
  have : run a m q < 2 ^ (a + m - 1) := Nat.lt_of_lt_of_le h (Nat.pow_le_pow_right (by omega) (by omega))
  rw [Nat.testBit_lt_two_pow this] at hb
  simp at hb
  omega

/-- What the program's steps compute. -/
theorem next_plain {N s : Nat} (hN : N ≤ 64) (h0 : s ≠ 0) (hs : s < 2 ^ N) :
    ∃ lo hi cy X Y Z R : Nat, s &&& (18446744073709551616 - s) = lo ∧ 0 < lo ∧ lo < 18446744073709551616 ∧ (s + lo) % 18446744073709551616 = hi ∧ (s + lo) / 18446744073709551616 = cy ∧
      (cy = 1 ∧ nxt N s 64 0 0 = (0, false) ∨ cy = 0 ∧ hi < 18446744073709551616 ∧ s ^^^ hi = X ∧ X < 18446744073709551616 ∧ X / lo = Y ∧ Y < 18446744073709551616 ∧ Y / 4 = Z ∧ Z < 18446744073709551616 ∧ hi ||| Z = R ∧ R < 18446744073709551616 ∧
        (R < 2 ^ N ∧ nxt N s 64 0 0 = (R, true) ∨ ¬ R < 2 ^ N ∧ nxt N s 64 0 0 = (0, false))) := by
  have h64 : 2 ^ N ≤ 18446744073709551616 := Nat.pow_le_pow_right (n := 2) (by omega) hN
  have hs64 : s < 18446744073709551616 := by omega
  obtain ⟨hlow, hc⟩ := Lib.lowest_bit 64 s h0 hs64
  obtain ⟨m, q, hm, hr, hsum⟩ := run_of h0 hs64
  generalize Lib.ctz 64 s = a at *
  have hle : a + m ≤ N := run_le hm (hr ▸ hs)
  have hn := nxt_run N a m q hm 64 0 (by omega) (by omega)
  rw [← hr, Nat.zero_sub] at hn
  have hlo : 2 ^ a < 18446744073709551616 := pow_lt64 hc
  by_cases he : a + m = 64
  · have hN64 : N = 64 := by omega
    refine ⟨2 ^ a, _, 1, 0, 0, 0, 0, hlow, Nat.two_pow_pos a, hlo, rfl, ?_, .inl ⟨rfl, by rw [hn, if_neg (by omega)]⟩⟩
    rw [hsum, he]
    have h1 : 2 ^ 64 * (2 * q + 1) < 2 ^ 64 + 2 ^ 64 := by
      rw [← he, ← hsum, he]
      omega
    have : q = 0 := by omega
    subst this
    rfl
  · have hup : s + 2 ^ a < 18446744073709551616 := by rw [hsum]; exact run_up (M := 64) (by omega) (by rw [← hr]; exact hs64)
    have hX : s ^^^ (s + 2 ^ a) = 2 ^ a * (2 ^ (m + 1) - 1) := by rw [hsum, hr]; exact xor_run a m q
    have hY : 2 ^ a * (2 ^ (m + 1) - 1) / 2 ^ a / 4 = 2 ^ (m - 1) - 1 := quo_run a m hm
    have hXlt : s ^^^ (s + 2 ^ a) < 2 ^ 64 := Nat.xor_lt_two_pow (by omega) (by omega)
    have hYlt : (s ^^^ (s + 2 ^ a)) / 2 ^ a ≤ s ^^^ (s + 2 ^ a) := Nat.div_le_self _ _
    have hZlt : (s ^^^ (s + 2 ^ a)) / 2 ^ a / 4 ≤ (s ^^^ (s + 2 ^ a)) / 2 ^ a := Nat.div_le_self _ _
    have hZ : (s ^^^ (s + 2 ^ a)) / 2 ^ a / 4 = 2 ^ (m - 1) - 1 := by rw [hX, hY]
    have hR : (s + 2 ^ a) ||| (2 ^ (m - 1) - 1) = 2 ^ (a + m + 1) * q ||| 2 ^ (a + m) ||| (2 ^ (m - 1) - 1) := by rw [hsum, high_run]
    have hmp : 2 ^ (m - 1) ≤ 2 ^ N := Nat.pow_le_pow_right (by omega) (by omega)
    have hmz := Nat.two_pow_pos (m - 1)
    have hRlt : (s + 2 ^ a) ||| (2 ^ (m - 1) - 1) < 18446744073709551616 := or_lt64 hup (by omega)
    refine ⟨2 ^ a, _, 0, _, _, _, _, hlow, Nat.two_pow_pos a, hlo, rfl, Nat.div_eq_of_lt hup, .inr ⟨rfl, Nat.mod_lt _ (by omega), rfl, ?_, rfl, ?_, rfl, ?_, rfl, ?_, ?_⟩⟩
    · rw [Nat.mod_eq_of_lt hup]; omega
    · rw [Nat.mod_eq_of_lt hup]; omega
    · rw [Nat.mod_eq_of_lt hup]; omega
    · rw [Nat.mod_eq_of_lt hup, hZ]; exact hRlt
    · rw [Nat.mod_eq_of_lt hup, hZ]
      by_cases hlt : a + m < N
      · left
        refine ⟨Nat.or_lt_two_pow ?_ (by omega), ?_⟩
        · rw [hsum]; exact run_up hlt (by rw [← hr]; exact hs)
        · rw [hn, if_pos hlt, hR]
      · right
        refine ⟨?_, by rw [hn, if_neg hlt]⟩
        have h1 : 2 ^ N ≤ s + 2 ^ a := by
          rw [hsum, show a + m = N by omega]
          exact Nat.le_mul_of_pos_right _ (by omega)
        have h2 : s + 2 ^ a ≤ (s + 2 ^ a) ||| (2 ^ (m - 1) - 1) := Nat.left_le_or
        omega

theorem add64_at (s lo hi cy : Nat) (h1 : (s + lo) % 18446744073709551616 = hi) (h2 : (s + lo) / 18446744073709551616 = cy) (w : World) :
    (callFunc 47 #[.int .u64 s, .int .u64 lo, .int .u64 0]).run Tryd.prog w = .ok (.value (.tuple #[.int .u64 hi, .int .u64 cy])) w := by
  have := Any7.bits_Add64 Tryd.lays25 s lo 0 (by omega) w
  rw [Nat.add_zero, h1, h2] at this
  exact this

section
set_option maxRecDepth 100000
set_option maxHeartbeats 1000000
theorem Next_any (n : Int) (s : Nat) (w : World) (hs : s < 18446744073709551616) :
    Calls Tryd.prog 35 #[.int .i64 n, .int .u64 s] w fun e w' => e = .returned (.tuple #[.int .u64 (nextS n s).1, .bool (nextS n s).2]) ∧ w' = w := by
  by_cases h1 : n < 0
  · rw [show nextS n s = (0, false) from if_pos (.inl h1)]
    go_enter Tryd.func35, Tryd.ntmps35
    go_wp2
    refine bodyPost_ret (v := .tuple #[.int .u64 0, .bool false]) (by simp [results, Tryd.results35, go_sem]) rfl ⟨rfl, rfl⟩
  · by_cases h2 : 64 < n
    · rw [show nextS n s = (0, false) from if_pos (.inr (.inl h2))]
      go_enter Tryd.func35, Tryd.ntmps35
      go_wp2
      refine bodyPost_ret (v := .tuple #[.int .u64 0, .bool false]) (by simp [results, Tryd.results35, go_sem]) rfl ⟨rfl, rfl⟩
    · by_cases h3 : 2 ^ n.toNat ≤ s
      · rw [show nextS n s = (0, false) from if_pos (.inr (.inr h3))]
        have hb := andNot_nz s n hs (by omega) (by omega) (by omega)
        have HA := Lib.hid (All_any w n)
        clear h3
        generalize allS n = A at *
        go_enter Tryd.func35, Tryd.ntmps35
        go_wp2_with (go_at_call 14; (with_reducible refine HA.out.mono ?_); rintro e w' ⟨rfl, hw'⟩; obtain rfl := hw'.symm)
        refine bodyPost_ret (v := .tuple #[.int .u64 0, .bool false]) (by simp [results, Tryd.results35, go_sem]) rfl ⟨rfl, rfl⟩
      · rw [show nextS n s = nxt n.toNat s 64 0 0 from if_neg (by omega)]
        have hb := andNot_zero s n hs (by omega) (by omega) (by omega)
        have HA := Lib.hid (All_any w n)
        have HZ : Hid (∀ R : Nat, R < 18446744073709551616 → R < 2 ^ n.toNat → (bits .andNot .u64 (R : Int) (allS n : Int) != 0) = false) := Lib.hid fun R hR h => andNot_zero R n hR (by omega) (by omega) h
        have HNZ : Hid (∀ R : Nat, R < 18446744073709551616 → ¬ R < 2 ^ n.toNat → (bits .andNot .u64 (R : Int) (allS n : Int) != 0) = true) := Lib.hid fun R hR h => andNot_nz R n hR (by omega) (by omega) h
        generalize allS n = A at *
        by_cases hz : s = 0
        · subst hz
          rw [nxt_zero]
          have hb0 : (bits .andNot .u64 0 (A : Int) != 0) = false := hb
          go_enter Tryd.func35, Tryd.ntmps35
          go_wp2_with (go_at_call 14; (with_reducible refine HA.out.mono ?_); rintro e w' ⟨rfl, hw'⟩; obtain rfl := hw'.symm)
          refine bodyPost_ret (v := .tuple #[.int .u64 0, .bool false]) (by simp [results, Tryd.results35, go_sem]) rfl ⟨rfl, rfl⟩
        · have ez : ((s : Int) == 0) = false := by simp; omega
          obtain ⟨lo, hi, cy, X, Y, Z, R, hlo, hlo0, hlo64, hhi, hcy, hor⟩ := next_plain (N := n.toNat) (by omega) hz (by omega)
          have hel : bits .and .u64 (s : Int) (IntKind.u64.wrap (-(s : Int))) = (lo : Int) := by
            rw [show IntKind.u64.wrap (-(s : Int)) = ((18446744073709551616 - s : Nat) : Int) by rw [IntKind.wrap_u64]; omega, bits_and_u64_nat s _ hs (by omega), hlo]
          have HADD := Lib.hid (add64_at s lo hi cy hhi hcy)
          clear hhi hcy hlo h3
          generalize nxt n.toNat s 64 0 0 = r at *
          rcases hor with ⟨rfl, hr⟩ | ⟨rfl, hhi, hX, lX, hY, lY, hZ, lZ, hR, lR, hor⟩
          · rw [hr]
            clear hr
            go_enter Tryd.func35, Tryd.ntmps35
            go_wp2_with (first | (go_at_call 14; (with_reducible refine HA.out.mono ?_); rintro e w' ⟨rfl, hw'⟩; obtain rfl := hw'.symm) | simp only [HADD.out])
            refine bodyPost_ret (v := .tuple #[.int .u64 0, .bool false]) (by simp [results, Tryd.results35, go_sem]) rfl ⟨rfl, rfl⟩
          · have eX := u64_xor_nat s hi hs hhi
            rw [hX] at eX
            have eY : (X : Int) / lo = (Y : Int) := by rw [← hY]; rfl
            have eZ : (Y : Int) / 4 = (Z : Int) := by rw [← hZ]; rfl
            have eR := bits_or_u64_nat hi Z hhi lZ
            rw [hR] at eR
            have el : ((lo : Int) == 0) = false := by simp; omega
            clear hX hY hZ hR
            rcases hor with ⟨hl, hr⟩ | ⟨hl, hr⟩
            · have eF := HZ.out R lR hl
              rw [hr]
              clear hr hl
              go_enter Tryd.func35, Tryd.ntmps35
              go_wp2_with (first | (go_at_call 14; (with_reducible refine HA.out.mono ?_); rintro e w' ⟨rfl, hw'⟩; obtain rfl := hw'.symm) | simp only [HADD.out])
              refine bodyPost_ret (v := .tuple #[.int .u64 R, .bool true]) (by simp [results, Tryd.results35, go_sem]) rfl ⟨rfl, rfl⟩
            · have eF := HNZ.out R lR hl
              rw [hr]
              clear hr hl
              go_enter Tryd.func35, Tryd.ntmps35
              go_wp2_with (first | (go_at_call 14; (with_reducible refine HA.out.mono ?_); rintro e w' ⟨rfl, hw'⟩; obtain rfl := hw'.symm) | simp only [HADD.out])
              refine bodyPost_ret (v := .tuple #[.int .u64 0, .bool false]) (by simp [results, Tryd.results35, go_sem]) rfl ⟨rfl, rfl⟩
end
end Go.Proofs.YtckmhngcnimmdaaDoor
