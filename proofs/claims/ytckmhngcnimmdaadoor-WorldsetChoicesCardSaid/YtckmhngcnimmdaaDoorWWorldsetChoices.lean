/- The law WorldsetChoices answers true. Conditions: the library's variables lie as they are read. -/
import Derived.Test.YtckmhngcnimmdaaDoorWsAw
import Derived.Test.YtckmhngcnimmdaaDoorWsCh
set_option linter.unusedVariables false
set_option linter.unusedSimpArgs false
namespace Go.Proofs.YtckmhngcnimmdaaDoor
open Go.RowKit
section
set_option maxRecDepth 100000
set_option maxHeartbeats 1000000
theorem walk_WorldsetChoices (a b : Nat) (w : World) (ha : a < 256) (hb : b < 256) (ht : Tab w) :
    Calls Tryd.prog 10 #[.int .u8 a, .int .u8 b] w fun e w' => e = .returned (.bool true) ∧ Keep NoF w w' := by
  obtain ⟨n, hn⟩ : ∃ n, n = a % 13 := ⟨_, rfl⟩
  obtain ⟨k, hk⟩ : ∃ k, k = b % (n + 1) := ⟨_, rfl⟩
  have hn13 : n < 13 := by omega
  have hkn : k < n + 1 := by rw [hk]; exact Nat.mod_lt _ (by omega)
  have e1 : (a : Int) % 13 = (n : Int) := by omega
  have e2 : (b : Int) % ((n : Int) + 1) = (k : Int) := by rw [hk]; rfl
  have e3 : (b : Int).tmod ((n : Int) + 1) = (k : Int) := by rw [Int.tmod_eq_emod_of_nonneg (by omega), e2]
  have HW := Lib.hid (wnt_le n hn13)
  have HG := Lib.hid (good_all n hn13 k hkn)
  have HF : Hid (Calls Tryd.prog 33 #[.int .i64 n, .int .i64 k] w fun e w' => e = .returned (.tuple #[.int .u64 ((2 ^ k - 1 : Nat) : Int), .int .i64 0]) ∧ w' = w) := Lib.hid (by
    have := First_any n k w
    rw [show firstR n k = (allS k, 0) from if_neg (by omega), show allS k = 2 ^ k - 1 from by unfold allS; rw [if_neg (by omega)]; rfl] at this
    exact this)
  have h2k : 2 ^ k - 1 < 18446744073709551616 := by
    have : 2 ^ k < 18446744073709551616 := pow_lt64 (by omega)
    omega
  clear hn hk
  generalize 2 ^ k - 1 = s0 at *
  go_enter Tryd.func10, Tryd.ntmps10
  go_wp2
  go_loopw [7, 23] (fun v i wr => ∃ x : Nat, i = .int .i64 x ∧ v = .int .i64 (wnt n x) ∧ x ≤ k ∧ wr = w) (fun _ i _ => k - (intOf i).toNat)
  case atStart => exact ⟨0, rfl, rfl, by omega, rfl⟩
  case round =>
    obtain ⟨x, rfl, rfl, hx, hw⟩ := hrel
    obtain rfl := hw.symm; clear hw
    by_cases hlt : x < k
    · obtain ⟨hw1, hw2⟩ := HW.out x (by omega)
      have hst : wnt n (x + 1) = wnt n x * (n - x) / (x + 1) := rfl
      have hle : wnt n x * (n - x) ≤ 924 * 12 := Nat.mul_le_mul hw2 (by omega)
      have hP : (wnt n x : Int) * ((n : Int) - (x : Int)) = ((wnt n x * (n - x) : Nat) : Int) := by
        rw [Int.natCast_mul, Int.natCast_sub (by omega)]
      obtain ⟨P, hPe⟩ : ∃ P, P = wnt n x * (n - x) := ⟨_, rfl⟩
      rw [← hPe] at hst hle hP
      have hq : (P : Int) / ((x : Int) + 1) = ((wnt n (x + 1) : Nat) : Int) := by rw [hst]; rfl
      have hq2 : (P : Int).tdiv ((x : Int) + 1) = ((wnt n (x + 1) : Nat) : Int) := by rw [Int.tdiv_eq_ediv_of_nonneg (by omega), hq]
      obtain ⟨W1, hW1⟩ : ∃ W1, W1 = wnt n (x + 1) := ⟨_, rfl⟩
      have hw3 := (HW.out (x + 1) (by omega)).2
      rw [← hW1] at hq hq2 hw3
      have HW1 := Lib.hid hW1
      clear hst hPe hW1
      generalize wnt n x = W at *
      go_wp2
      go_roundw
      case rel => exact ⟨x + 1, by go_num, by rw [← HW1.out], by omega, by trivial⟩
      case measure => simp only [intOf]; omega
    · obtain rfl : x = k := by omega
      obtain ⟨hw1, hw2⟩ := HW.out x (by omega)
      clear HW e1 e2 e3
      generalize wnt n x = want at *
      go_wp2_with (go_at_call 33; (with_reducible refine HF.out.mono ?_); rintro e w' ⟨rfl, hw'⟩; obtain rfl := hw'.symm)
      go_loopw [9, 11] (fun v i wr => ∃ (j s f : Nat), i = .int .i64 j ∧ v = .int .u64 s ∧ f + j = want + 1 ∧ s < 18446744073709551616 ∧ 1 ≤ j ∧ Hid (good n x want f j s = true) ∧ wr = w) (fun _ i _ => want + 1 - (intOf i).toNat)
      case atStart => exact ⟨1, s0, want, rfl, rfl, by omega, h2k, by omega, HG, rfl⟩
      case round =>
        obtain ⟨j, s, f, rfl, rfl, hf, hs, hj, ho, hw⟩ := hrel
        obtain rfl := hw.symm; clear hw
        by_cases hjl : j ≤ want
        · obtain ⟨f, rfl⟩ : ∃ g, f = g + 1 := ⟨f - 1, by omega⟩
          obtain ⟨g1, g2, g3, g4, g5, g6⟩ := good_succ (by omega) ho.out
          have HB := Lib.hid (wbits_any s hs w)
          rw [g2] at HB
          have HN := Lib.hid (Next_any n s w hs)
          have hsh : ((s : Int) / 2 ^ n != 0) = false := by
            have : (s : Int) / 2 ^ n = ((s / 2 ^ n : Nat) : Int) := by push_cast; rfl
            rw [this, Nat.div_eq_of_lt g1]
            rfl
          have HG6 := Lib.hid g6
          clear g1 g2 g6 ho
          generalize nextS n s = T at *
          obtain ⟨t, ok⟩ := T
          simp only at g3 g4 g5 HN HG6
          by_cases hlast : j < want
          · rw [decide_eq_true hlast] at g3
            subst g3
            have g4' := g4 rfl
            have hij : decide ((j : Int) < want) = true := by simp; omega
            clear g4
            go_wp2_with (first
              | (go_at_call 31; (with_reducible refine HB.out.mono ?_); rintro e w' ⟨rfl, hw'⟩; obtain rfl := hw'.symm)
              | (go_at_call 35; (with_reducible refine HN.out.mono ?_); rintro e w' ⟨rfl, hw'⟩; obtain rfl := hw'.symm))
            go_roundw
            case rel => exact ⟨j + 1, t, f, by go_num, rfl, by omega, g5, by omega, HG6, by trivial⟩
            case measure => simp only [intOf]; omega
          · rw [decide_eq_false hlast] at g3
            subst g3
            have hij : decide ((j : Int) < want) = false := by simp; omega
            clear g4
            go_wp2_with (first
              | (go_at_call 31; (with_reducible refine HB.out.mono ?_); rintro e w' ⟨rfl, hw'⟩; obtain rfl := hw'.symm)
              | (go_at_call 35; (with_reducible refine HN.out.mono ?_); rintro e w' ⟨rfl, hw'⟩; obtain rfl := hw'.symm))
            go_roundw
            case rel => exact ⟨j + 1, t, f, by go_num, rfl, by omega, g5, by omega, HG6, by trivial⟩
            case measure => simp only [intOf]; omega
        · go_wp2_with (go_at_call 11; (with_reducible refine (awake_any w ht).mono ?_); rintro e w4 ⟨rfl, hk4⟩)
          go_ret
          exact ⟨rfl, hk4⟩
end
end Go.Proofs.YtckmhngcnimmdaaDoor
