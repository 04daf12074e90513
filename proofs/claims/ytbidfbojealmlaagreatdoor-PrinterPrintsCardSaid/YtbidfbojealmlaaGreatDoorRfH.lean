/- The reference's Agents, Facts and Fits, at right formulas. Conditions: the formula is right. -/
import Derived.Test.YtbidfbojealmlaaGreatDoorRfCG
import Derived.Test.YtbidfbojealmlaaGreatDoorPrX
set_option linter.unusedVariables false
set_option linter.unusedSimpArgs false
namespace Go.Proofs.YtbidfbojealmlaaGreatDoor
open Go.RowKit
open Fm (Nd checkE compactL cl usesX usesY usesAgent usesFact usesGroup usesEvent)
section
set_option maxRecDepth 100000
set_option maxHeartbeats 4000000
theorem fqAgents_ex (f : List Nd) (A : Option Addr) (c : Nat) (w : World) (hrd : Rd w (.slice A f.length c) 6 f.length (fmC f)) (hck : checkE f = 0) :
    Calls Tryz.prog 92 #[.slice A f.length c] w fun e w' => e = .returned (.int .i64 (orA (compactL f) : Nat)) ∧ Keep NoF w w' := by
  have HC := Lib.hid (fqCompact_any f A c w hrd hck)
  have HM : Hid (∀ n ∈ compactL f, Fm.own n.op n.i n.e n.g = true) := Lib.hid compact_own
  have hl200 := compact_200 f
  clear hrd hck
  generalize compactL f = L at *
  generalize f.length = fl at *
  go_enter Tryz.func92, Tryz.ntmps92
  go_wp2_with (go_at_call 32; (with_reducible refine HC.out.mono ?_); rintro e w1 ⟨A1, c1, rfl, R1, K1, F1⟩)
  have HR := Lib.hid R1
  clear R1 F1
  go_loopw [4, 5] (fun v i wr => ∃ k m : Nat, v = .int .i64 (m : Int) ∧ i = .int .i64 (k : Int) ∧ k ≤ L.length ∧ m < 256 ∧ Hid (m = orA (L.take k)) ∧ Keep NoF w1 wr) (fun _ i _ => L.length - (intOf i).toNat)
  case atStart => exact ⟨0, 0, rfl, rfl, by omega, by omega, Lib.hid rfl, Keep.refl _ _⟩
  case round =>
    obtain ⟨k, m, rfl, rfl, hk, hm, HE, hkw⟩ := hrel
    by_cases hlt : k < L.length
    · have hx : L[k]? = some L[k] := List.getElem?_eq_getElem hlt
      obtain ⟨bl, off, rfl, _, hc1, x0, x1, x2, x3, x4, x5⟩ := (HR.out.kept hkw fun _ _ h => h).nd hx
      have ho := HM.out _ (List.getElem_mem hlt)
      have hmk := mA_lt ho
      have HE2 : Hid (m ||| mA L[k] = orA (L.take (k + 1))) := Lib.hid (by rw [HE.out, orA_snoc hx])
      clear hx
      generalize L[k] = n at *
      have hlt2 : m ||| mA n < 256 := Nat.or_lt_two_pow (n := 8) hm hmk
      have HG := Lib.hid fun W => fqagent_any n.op W
      obtain ⟨r1, r2, r3, r5, r4⟩ := own_ranges ho
      have b0 : (0 : Int) ≤ (k : Int) := by omega
      have b1 : (k : Int) < (L.length : Int) := by omega
      cases ha : usesAgent n.op with
      | true =>
        have hmA : mA n = 2 ^ n.i.toNat := by unfold mA; rw [if_pos ha]
        have hg : n.g = 0 := r4 (by
          have h2 := ha
          simp only [usesAgent, usesGroup, Fm.usesAgent, Fm.usesGroup, Bool.or_eq_true, decide_eq_true_eq] at h2 ⊢
          simp only [Bool.or_eq_false_iff, decide_eq_false_iff_not]
          omega)
        obtain ⟨i0, i1⟩ := r1 ha
        rw [hg] at x3
        rw [ha] at HG
        have hi : n.i = 0 ∨ n.i = 1 ∨ n.i = 2 ∨ n.i = 3 := by omega
        have HX : Hid (n.i = n.i) := Lib.hid rfl
        clear ho r1 r2 r4 r3 r5 hg ha
        generalize hmm : m ||| mA n = mm at *
        have HMM := Lib.hid hmm
        clear hmm
        rcases hi with hi | hi | hi | hi
        all_goals
          rw [hi] at x1 hmA
          have hor : bits .or .i64 (m : Int) (mA n : Int) = (mm : Int) := by rw [or_small (a := m) (b := mA n) (by omega) (by omega), HMM.out]
          rw [hmA] at hor
          have hoz : bits .or .i64 (mm : Int) (0 : Int) = (mm : Int) := by have := or_small (a := mm) (b := 0) (by omega) (by omega); rw [Nat.or_zero] at this; exact this
          (first | rw [show ((2 ^ Int.toNat 0 : Nat) : Int) = 1 from rfl] at hor | rw [show ((2 ^ Int.toNat 1 : Nat) : Int) = 2 from rfl] at hor | rw [show ((2 ^ Int.toNat 2 : Nat) : Int) = 4 from rfl] at hor | rw [show ((2 ^ Int.toNat 3 : Nat) : Int) = 8 from rfl] at hor)
          clear hmA hi
          go_wp2_with (go_at_call 89; (with_reducible refine (HG.out _).mono ?_); rintro e w2 ⟨rfl, hw2⟩; obtain rfl := hw2)
          go_roundw
          case rel => exact ⟨k + 1, mm, by go_num, by go_num, by omega, hlt2, HE2, hkw⟩
          case measure => simp only [intOf]; omega
      | false =>
        have hmA : mA n = n.g.toNat := by unfold mA; rw [if_neg (by rw [ha]; simp)]
        have hg : ((n.g.toNat : Nat) : Int) = n.g := by omega
        have hor : bits .or .i64 (m : Int) n.g = ((m ||| mA n : Nat) : Int) := by have := or_small (a := m) (b := mA n) (by omega) (by omega); rw [← this, hmA, hg]
        rw [ha] at HG
        clear ho r1 r2 r4 r3 r5 hg ha hmA
        generalize m ||| mA n = mm at *
        go_wp2_with (go_at_call 89; (with_reducible refine (HG.out _).mono ?_); rintro e w2 ⟨rfl, hw2⟩; obtain rfl := hw2)
        go_roundw
        case rel => exact ⟨k + 1, mm, by go_num, by go_num, by omega, hlt2, HE2, hkw⟩
        case measure => simp only [intOf]; omega
    · go_wp2
      go_ret
      obtain rfl : k = L.length := by omega
      rw [List.take_length] at HE
      exact ⟨by rw [HE.out]; rfl, K1.trans hkw fun _ _ h => h⟩
theorem fqFacts_ex (f : List Nd) (A : Option Addr) (c : Nat) (w : World) (hrd : Rd w (.slice A f.length c) 6 f.length (fmC f)) (hck : checkE f = 0) :
    Calls Tryz.prog 93 #[.slice A f.length c] w fun e w' => e = .returned (.int .i64 (orF (compactL f) : Nat)) ∧ Keep NoF w w' := by
  have HC := Lib.hid (fqCompact_any f A c w hrd hck)
  have HM : Hid (∀ n ∈ compactL f, Fm.own n.op n.i n.e n.g = true) := Lib.hid compact_own
  have hl200 := compact_200 f
  clear hrd hck
  generalize compactL f = L at *
  generalize f.length = fl at *
  go_enter Tryz.func93, Tryz.ntmps93
  go_wp2_with (go_at_call 32; (with_reducible refine HC.out.mono ?_); rintro e w1 ⟨A1, c1, rfl, R1, K1, F1⟩)
  have HR := Lib.hid R1
  clear R1 F1
  go_loopw [4, 5] (fun v i wr => ∃ k m : Nat, v = .int .i64 (m : Int) ∧ i = .int .i64 (k : Int) ∧ k ≤ L.length ∧ m < 256 ∧ Hid (m = orF (L.take k)) ∧ Keep NoF w1 wr) (fun _ i _ => L.length - (intOf i).toNat)
  case atStart => exact ⟨0, 0, rfl, rfl, by omega, by omega, Lib.hid rfl, Keep.refl _ _⟩
  case round =>
    obtain ⟨k, m, rfl, rfl, hk, hm, HE, hkw⟩ := hrel
    by_cases hlt : k < L.length
    · have hx : L[k]? = some L[k] := List.getElem?_eq_getElem hlt
      obtain ⟨bl, off, rfl, _, hc1, x0, x1, x2, x3, x4, x5⟩ := (HR.out.kept hkw fun _ _ h => h).nd hx
      have ho := HM.out _ (List.getElem_mem hlt)
      have hmk := mF_lt ho
      have HE2 : Hid (m ||| mF L[k] = orF (L.take (k + 1))) := Lib.hid (by rw [HE.out, orF_snoc hx])
      clear hx
      generalize L[k] = n at *
      have hlt2 : m ||| mF n < 256 := Nat.or_lt_two_pow (n := 8) hm hmk
      obtain ⟨r1, r2, r3, r5, r4⟩ := own_ranges ho
      have b0 : (0 : Int) ≤ (k : Int) := by omega
      have b1 : (k : Int) < (L.length : Int) := by omega
      by_cases hop : n.op = 3
      · have ha : usesFact n.op = true := by rw [hop]; rfl
        have hmA : mF n = 2 ^ n.i.toNat := by unfold mF; rw [if_pos ha]
        obtain ⟨i0, i1⟩ := r2 ha
        rw [hop] at x0
        have hi : n.i = 0 ∨ n.i = 1 ∨ n.i = 2 ∨ n.i = 3 ∨ n.i = 4 ∨ n.i = 5 ∨ n.i = 6 ∨ n.i = 7 := by omega
        clear ho r1 r2 r4 r3 r5 ha hop
        generalize hmm : m ||| mF n = mm at *
        have HMM := Lib.hid hmm
        clear hmm
        rcases hi with hi | hi | hi | hi | hi | hi | hi | hi
        all_goals
          rw [hi] at x1 hmA
          have hor : bits .or .i64 (m : Int) (mF n : Int) = (mm : Int) := by rw [or_small (a := m) (b := mF n) (by omega) (by omega), HMM.out]
          rw [hmA] at hor
          (first | rw [show ((2 ^ Int.toNat 0 : Nat) : Int) = 1 from rfl] at hor | rw [show ((2 ^ Int.toNat 1 : Nat) : Int) = 2 from rfl] at hor | rw [show ((2 ^ Int.toNat 2 : Nat) : Int) = 4 from rfl] at hor | rw [show ((2 ^ Int.toNat 3 : Nat) : Int) = 8 from rfl] at hor | rw [show ((2 ^ Int.toNat 4 : Nat) : Int) = 16 from rfl] at hor | rw [show ((2 ^ Int.toNat 5 : Nat) : Int) = 32 from rfl] at hor | rw [show ((2 ^ Int.toNat 6 : Nat) : Int) = 64 from rfl] at hor | rw [show ((2 ^ Int.toNat 7 : Nat) : Int) = 128 from rfl] at hor)
          clear hmA hi
          go_wp2
          go_roundw
          case rel => exact ⟨k + 1, mm, by go_num, by go_num, by omega, hlt2, HE2, hkw⟩
          case measure => simp only [intOf]; omega
      · have hmA : mF n = 0 := by unfold mF; rw [if_neg (by simp only [Fm.usesFact, decide_eq_true_eq]; exact hop)]
        have hop' : (n.op == 3) = false := by simpa using hop
        have HE3 : Hid (m = orF (L.take (k + 1))) := Lib.hid (by rw [← HE2.out, hmA, Nat.or_zero])
        clear ho r1 r2 r4 r3 r5 hmA hop hlt2 HE2
        go_wp2
        go_roundw
        case rel => exact ⟨k + 1, m, by go_num, by go_num, by omega, hm, HE3, hkw⟩
        case measure => simp only [intOf]; omega
    · go_wp2
      go_ret
      obtain rfl : k = L.length := by omega
      rw [List.take_length] at HE
      exact ⟨by rw [HE.out]; rfl, K1.trans hkw fun _ _ h => h⟩
theorem bit_no {m k a : Nat} (h : m.testBit k = true) (ha : ¬ k < a) : decide (m < 2 ^ a) = false := by
  refine decide_eq_false fun hl => ?_
  have h2 := Nat.testBit_lt_two_pow (x := m) (i := k) (Nat.lt_of_lt_of_le hl (Nat.pow_le_pow_right (by omega) (by omega)))
  rw [h2] at h
  cases h
theorem bits_all {m N a : Nat} (hm : m < 2 ^ N) (h : ∀ j, j < N → m.testBit j = true → j < a) : m < 2 ^ a := by
  refine Nat.lt_pow_two_of_testBit m fun i hi => ?_
  by_cases hN : i < N
  · cases hb : m.testBit i
    · rfl
    · have := h i hN hb; omega
  · exact Nat.testBit_lt_two_pow (Nat.lt_of_lt_of_le hm (Nat.pow_le_pow_right (by omega) (by omega)))
theorem mA_16 {n : Nd} (h : Fm.own n.op n.i n.e n.g = true) : mA n < 2 ^ 4 := by
  obtain ⟨r1, _, r3, r5, _⟩ := own_ranges h
  unfold mA
  split
  · rename_i ha
    have := r1 ha
    exact Nat.pow_lt_pow_right (by omega) (by omega)
  · omega
theorem fqFits_ex (f : List Nd) (A : Option Addr) (c a b : Nat) (w : World) (hrd : Rd w (.slice A f.length c) 6 f.length (fmC f)) (hck : checkE f = 0) :
    Calls Tryz.prog 61 #[.slice A f.length c, .int .i64 (a : Int), .int .i64 (b : Int)] w fun e w' => e = .returned (.bool (fitsB f a b)) ∧ Keep NoF w w' := by
  have hmA : orA (compactL f) < 2 ^ 4 := (orA_lt (b := 4)).2 fun n hn => mA_16 (compact_own n hn)
  have hmF : orF (compactL f) < 2 ^ 8 := (orF_lt (b := 8)).2 fun n hn => mF_lt (compact_own n hn)
  have HA := Lib.hid fun W (hk : Keep NoF w W) => fqAgents_ex f A c W (hrd.kept hk fun _ _ h => h) hck
  have HF := Lib.hid fun W (hk : Keep NoF w W) => fqFacts_ex f A c W (hrd.kept hk fun _ _ h => h) hck
  have hl := (Fm.checkE_zero.1 hck).2.1
  have HC : Hid (Calls Tryz.prog 31 #[.slice A f.length c] w fun e w' => e = .returned (.int .i64 0) ∧ Keep NoF w w') := Lib.hid (by have := fqCheck_any f A c w (by omega) hrd; rwa [hck] at this)
  have HFB : Hid (fitsB f a b = (decide (orA (compactL f) < 2 ^ a) && decide (orF (compactL f) < 2 ^ b))) := Lib.hid (by unfold fitsB; rw [decide_eq_true hck, Bool.true_and])
  generalize orA (compactL f) = mA at *
  generalize orF (compactL f) = mF at *
  generalize fitsB f a b = fb at *
  clear hrd hck hl
  generalize f.length = n at *
  go_enter Tryz.func61, Tryz.ntmps61
  go_wp2_with (go_at_call 31; (with_reducible refine HC.out.mono ?_); rintro e w1 ⟨rfl, K1⟩)
  go_loopw [7] (fun i wr => ∃ k : Nat, i = .int .i64 (k : Int) ∧ k ≤ 4 ∧ Hid (∀ j, j < k → mA.testBit j = true → j < a) ∧ Keep NoF w wr) (fun i _ => 4 - (intOf i).toNat)
  case atStart => exact ⟨0, rfl, by omega, Lib.hid fun j hj => by omega, K1⟩
  case round =>
    obtain ⟨k, rfl, hk, HB, hkw⟩ := hrel
    by_cases hlt : k < 4
    · have l1 : (k : Int) < 4 := by omega
      have b0 : (0 : Int) ≤ (k : Int) := by omega
      have b1 : (k : Int) < 64 := by omega
      have b2 : ¬ (k : Int) < 0 := by omega
      have b3 : ((k : Int)).toNat = k := by omega
      have q0 : (0 : Int) ≤ (mA : Int) / 2 ^ k := Int.ediv_nonneg (by omega) (by have := Nat.two_pow_pos k; exact_mod_cast Nat.zero_le _)
      have q1 : ((mA : Int) / 2 ^ k % 2 == 1) = mA.testBit k := by
        rw [Nat.testBit_eq_decide_div_mod_eq]
        have e1 : (mA : Int) / 2 ^ k % 2 = ((mA / 2 ^ k % 2 : Nat) : Int) := by simp
        rw [e1, Bool.eq_iff_iff]
        simp only [beq_iff_eq, decide_eq_true_eq]
        omega
      generalize hbit : mA.testBit k = bit at *
      have HBIT := Lib.hid hbit
      clear hbit
      by_cases hab : k < a
      · have l2 : ¬ (a : Int) ≤ (k : Int) := by omega
        have HB2 : Hid (∀ j, j < k + 1 → mA.testBit j = true → j < a) := Lib.hid fun j hj hb => by
          rcases Nat.lt_succ_iff_lt_or_eq.1 hj with h | h
          · exact HB.out j h hb
          · omega
        cases bit
        all_goals
          go_wp2_with (go_at_call 92; (with_reducible refine (HA.out _ hkw).mono ?_); rintro e w2 ⟨rfl, k2⟩)
          go_roundw
          case rel => exact ⟨k + 1, by go_num, by omega, HB2, hkw.trans k2 fun _ _ h => h⟩
          case measure => simp only [intOf]; omega
      · have l2 : (a : Int) ≤ (k : Int) := by omega
        cases bit
        · have HB2 : Hid (∀ j, j < k + 1 → mA.testBit j = true → j < a) := Lib.hid fun j hj hb => by
            rcases Nat.lt_succ_iff_lt_or_eq.1 hj with h | h
            · exact HB.out j h hb
            · rw [h, HBIT.out] at hb; cases hb
          go_wp2_with (go_at_call 92; (with_reducible refine (HA.out _ hkw).mono ?_); rintro e w2 ⟨rfl, k2⟩)
          go_roundw
          case rel => exact ⟨k + 1, by go_num, by omega, HB2, hkw.trans k2 fun _ _ h => h⟩
          case measure => simp only [intOf]; omega
        · have HNO : Hid ((decide (mA < 2 ^ a)) = false) := Lib.hid (bit_no HBIT.out hab)
          go_wp2_with (go_at_call 92; (with_reducible refine (HA.out _ hkw).mono ?_); rintro e w2 ⟨rfl, k2⟩)
          go_ret
          exact ⟨by rw [HFB.out, HNO.out]; simp [Bool.false_and], hkw.trans k2 fun _ _ h => h⟩
    · have l1 : ¬ (k : Int) < 4 := by omega
      obtain rfl : k = 4 := by omega
      have HYA : Hid (decide (mA < 2 ^ a) = true) := Lib.hid (decide_eq_true (bits_all hmA HB.out))
      clear HB
      go_wp2
      go_loopw [8] (fun i wr => ∃ k : Nat, i = .int .i64 (k : Int) ∧ k ≤ 8 ∧ Hid (∀ j, j < k → mF.testBit j = true → j < b) ∧ Keep NoF w wr) (fun i _ => 8 - (intOf i).toNat)
      case atStart => exact ⟨0, rfl, by omega, Lib.hid fun j hj => by omega, hkw⟩
      case round =>
        obtain ⟨k, rfl, hk, HB, hkw⟩ := hrel
        by_cases hlt : k < 8
        · have l1 : (k : Int) < 8 := by omega
          have b0 : (0 : Int) ≤ (k : Int) := by omega
          have b1 : (k : Int) < 64 := by omega
          have b2 : ¬ (k : Int) < 0 := by omega
          have b3 : ((k : Int)).toNat = k := by omega
          have q0 : (0 : Int) ≤ (mF : Int) / 2 ^ k := Int.ediv_nonneg (by omega) (by have := Nat.two_pow_pos k; exact_mod_cast Nat.zero_le _)
          have q1 : ((mF : Int) / 2 ^ k % 2 == 1) = mF.testBit k := by
            rw [Nat.testBit_eq_decide_div_mod_eq]
            have e1 : (mF : Int) / 2 ^ k % 2 = ((mF / 2 ^ k % 2 : Nat) : Int) := by simp
            rw [e1, Bool.eq_iff_iff]
            simp only [beq_iff_eq, decide_eq_true_eq]
            omega
          generalize hbit : mF.testBit k = bit at *
          have HBIT := Lib.hid hbit
          clear hbit
          by_cases hab : k < b
          · have l2 : ¬ (b : Int) ≤ (k : Int) := by omega
            have HB2 : Hid (∀ j, j < k + 1 → mF.testBit j = true → j < b) := Lib.hid fun j hj hb => by
              rcases Nat.lt_succ_iff_lt_or_eq.1 hj with h | h
              · exact HB.out j h hb
              · omega
            cases bit
            all_goals
              go_wp2_with (go_at_call 93; (with_reducible refine (HF.out _ hkw).mono ?_); rintro e w2 ⟨rfl, k2⟩)
              go_roundw
              case rel => exact ⟨k + 1, by go_num, by omega, HB2, hkw.trans k2 fun _ _ h => h⟩
              case measure => simp only [intOf]; omega
          · have l2 : (b : Int) ≤ (k : Int) := by omega
            cases bit
            · have HB2 : Hid (∀ j, j < k + 1 → mF.testBit j = true → j < b) := Lib.hid fun j hj hb => by
                rcases Nat.lt_succ_iff_lt_or_eq.1 hj with h | h
                · exact HB.out j h hb
                · rw [h, HBIT.out] at hb; cases hb
              go_wp2_with (go_at_call 93; (with_reducible refine (HF.out _ hkw).mono ?_); rintro e w2 ⟨rfl, k2⟩)
              go_roundw
              case rel => exact ⟨k + 1, by go_num, by omega, HB2, hkw.trans k2 fun _ _ h => h⟩
              case measure => simp only [intOf]; omega
            · have HNO : Hid ((decide (mF < 2 ^ b)) = false) := Lib.hid (bit_no HBIT.out hab)
              go_wp2_with (go_at_call 93; (with_reducible refine (HF.out _ hkw).mono ?_); rintro e w2 ⟨rfl, k2⟩)
              go_ret
              exact ⟨by rw [HFB.out, HYA.out, HNO.out]; simp [Bool.true_and], hkw.trans k2 fun _ _ h => h⟩
        · have l1 : ¬ (k : Int) < 8 := by omega
          obtain rfl : k = 8 := by omega
          have HYF : Hid (decide (mF < 2 ^ b) = true) := Lib.hid (decide_eq_true (bits_all hmF HB.out))
          go_wp2
          go_ret
          exact ⟨by rw [HFB.out, HYA.out, HYF.out]; rfl, hkw⟩
end
end Go.Proofs.YtbidfbojealmlaaGreatDoor
