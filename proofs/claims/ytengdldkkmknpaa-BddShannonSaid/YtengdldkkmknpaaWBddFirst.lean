/- The walk of the law BddFirst. No condition. -/
import Derived.Test.YtengdldkkmknpaaTab
import Derived.OpenShut
set_option linter.unusedVariables false
set_option linter.unusedSimpArgs false
namespace Go.Proofs.Ytengdldkkmknpaa
open Go.RowKit

def bitN (b : Bool) : Nat := if b then 1 else 0
/-- The number whose highest bit is the variable 0. -/
def turnF (x : Nat) : Nat → Nat
  | 0 => 0
  | k + 1 => turnF x k * 2 + bitN (x.testBit k)
theorem turnF_lt (x : Nat) : ∀ k, turnF x k < 2 ^ k := by
  intro k
  induction k with
  | zero => simp [turnF]
  | succ k ih =>
    simp only [turnF, Nat.pow_succ]
    have : bitN (x.testBit k) ≤ 1 := by unfold bitN; split <;> omega
    omega
def turn5 (a0 a1 a2 a3 a4 : Bool) : Nat := (((((0 * 2 + bitN a0) * 2 + bitN a1) * 2 + bitN a2) * 2 + bitN a3) * 2 + bitN a4)
theorem turn5_mono : ∀ a0 b0 a1 b1 a2 b2 a3 b3 a4 b4 : Bool,
    ((!a0 || b0) && (!a1 || b1) && (!a2 || b2) && (!a3 || b3) && (!a4 || b4) || !a0 && b0 || !a1 && b1 && (!a0 || b0) || !a2 && b2 && (!a0 || b0) && (!a1 || b1) || !a3 && b3 && (!a0 || b0) && (!a1 || b1) && (!a2 || b2) ||
      !a4 && b4 && (!a0 || b0) && (!a1 || b1) && (!a2 || b2) && (!a3 || b3)) = true → turn5 a0 a1 a2 a3 a4 ≤ turn5 b0 b1 b2 b3 b4 := by decide
theorem imp_bool {a b : Bool} (h : a = true → b = true) : (!a || b) = true := by cases a <;> cases b <;> simp_all
theorem turn_before {s x : Nat} (h : Dd.Before 5 0 s.testBit x.testBit) : turnF s 5 ≤ turnF x 5 := by
  show turn5 _ _ _ _ _ ≤ turn5 _ _ _ _ _
  apply turn5_mono
  rcases h with h | ⟨i, _, hi, h1, h2, h3⟩
  · have k := fun i hi => imp_bool (h i (Nat.zero_le _) hi)
    simp only [k 0 (by omega), k 1 (by omega), k 2 (by omega), k 3 (by omega), k 4 (by omega), Bool.and_self, Bool.true_or]
  · have k := fun j hj => imp_bool (h3 j (Nat.zero_le _) hj)
    have : i = 0 ∨ i = 1 ∨ i = 2 ∨ i = 3 ∨ i = 4 := by omega
    rcases this with rfl | rfl | rfl | rfl | rfl
    · simp only [h1, h2, Bool.not_false, Bool.and_self, Bool.true_or, Bool.or_true, Bool.true_and, Bool.and_true]
    · simp only [h1, h2, k 0 (by omega), Bool.not_false, Bool.and_self, Bool.true_or, Bool.or_true, Bool.true_and, Bool.and_true]
    · simp only [h1, h2, k 0 (by omega), k 1 (by omega), Bool.not_false, Bool.and_self, Bool.true_or, Bool.or_true, Bool.true_and, Bool.and_true]
    · simp only [h1, h2, k 0 (by omega), k 1 (by omega), k 2 (by omega), Bool.not_false, Bool.and_self, Bool.true_or, Bool.or_true, Bool.true_and, Bool.and_true]
    · simp only [h1, h2, k 0 (by omega), k 1 (by omega), k 2 (by omega), k 3 (by omega), Bool.not_false, Bool.and_self, Bool.true_or, Bool.or_true, Bool.true_and, Bool.and_true]

theorem low_zero (t : Nat) : t % 4294967296 = 0 ↔ ∀ x, x < 32 → t.testBit x = false := by
  have e : (4294967296 : Nat) = 2 ^ 32 := rfl
  rw [e]
  constructor
  · intro h x hx
    have := Nat.testBit_mod_two_pow t 32 x
    rw [h] at this
    simpa [hx] using this.symm
  · intro h
    refine Nat.eq_of_testBit_eq fun i => ?_
    rw [Nat.testBit_mod_two_pow]
    by_cases hi : i < 32
    · simp [h i hi]
    · simp [hi]

set_option maxRecDepth 100000 in
set_option maxHeartbeats 1000000 in
theorem turn_any (x : Nat) (hx : x < 18446744073709551616) (w : World) : Calls Try.prog 39 #[.int .u64 x] w fun e w' => e = .returned (.int .i64 (turnF x 5 : Nat)) ∧ w = w' := by
  go_enter Try.func39, Try.ntmps39
  go_wp2
  go_loop [3, 5] (fun n i => ∃ k : Nat, i = .int .i64 k ∧ k ≤ 5 ∧ n = .int .i64 (turnF x k : Nat)) (fun _ i => 5 - (intOf i).toNat)
  case atStart => exact ⟨0, rfl, by omega, rfl⟩
  case round =>
    obtain ⟨k, rfl, hk, rfl⟩ := hrel
    by_cases hlt : k < 5
    · have hb := bit_u64 x k hx
      have ht := turnF_lt x k
      have hp : 2 ^ k ≤ 2 ^ 4 := Nat.pow_le_pow_right (by omega) (by omega)
      have HS : Hid (turnF x (k + 1) = turnF x k * 2 + bitN (x.testBit k)) := Lib.hid rfl
      have ht2 : turnF x k < 16 := by omega
      clear hp ht
      generalize x.testBit k = b at *
      generalize turnF x k = n at *
      cases b
      all_goals
        go_wp2
        go_round
        case rel => exact ⟨k + 1, by go_num, by omega, by rw [HS.out]; simp [bitN]⟩
        case measure => simp [intOf]; omega
    · have hk5 : k = 5 := by omega
      subst hk5
      go_wp2
      go_ret
      exact ⟨rfl, rfl⟩

theorem shl32 (t : Nat) (ht : t < 18446744073709551616) (z : Bool) (hz : z = true ↔ t % 4294967296 ≠ 0) : (IntKind.u64.wrap ((t : Int) * 4294967296) != 0) = z := by
  rw [Bool.eq_iff_iff, hz, IntKind.wrap_u64]
  simp only [bne_iff_ne, ne_eq]
  omega

def D5 (w : World) (f : BF) (e : Ending) (w' : World) : Prop :=
  ∃ A n c, ∃ r : Nat, e = .returned (.tuple #[.agg #[.int .i64 5, .slice A n c, .int .i64 r], .bool true]) ∧ IsD w' 5 f A n c r ∧ Keep NoF w w'
theorem BPost.d5 {w : World} {f : BF} {e : Ending} {w' : World} (h : BPost w 5 f e w') : D5 w f e w' := by
  obtain ⟨A, n, c, r, he, hd, hk, _⟩ := h
  exact ⟨A, n, c, r, he, hd, hk⟩

set_option maxRecDepth 100000 in
set_option maxHeartbeats 4000000 in
theorem walk_BddFirst (a0 : Int) (w0 : (Lit.int .u64 a0).wf = true) (w : World) :
    Calls Try.prog 7 #[.int .u64 a0] w fun e w' => e = .returned (.bool true) ∧ Keep NoF w w' := by
  have b1 := bounds_u64 w0
  clear w0
  obtain ⟨t, rfl⟩ := Int.eq_ofNat_of_zero_le (show 0 ≤ a0 by omega)
  have ht : t < 18446744073709551616 := by omega
  clear b1
  have HT := Lib.hid ht
  clear ht
  have HB : Hid (∀ (W : World) (gb : Nat), W.cell? ⟨gb, 0, none⟩ = some (.int .u64 t) → Calls Try.prog 38 #[.int .i64 5, .slice (some ⟨gb, 0, none⟩) 1 1] W (D5 W (tf t 5 0 0))) := Lib.hid fun W gb h => (build_any 5 t HT.out (by omega) W gb 0 1 h).mono fun _ _ h => h.d5
  go_enter Try.func7, Try.ntmps7
  go_upto_region 4 with (go_at_call 38
                         (with_reducible refine (HB.out _ _ (by simp [go_sem])).mono ?_)
                         rintro e w1 ⟨Aa, na, ca, ra, rfl, da, ka⟩)
  have kka : Keep NoF w1 (w1.alloc (.cells #[.int .i64 5, .slice Aa na ca, .int .i64 ra] 24)) := (Keep.refl _ _).alloc _
  have qa := Bk.new w1 24 #[.int .i64 5, .slice Aa na ca, .int .i64 ra]
  have fa := da.keep kka
  have kw := (((Keep.refl NoF w).alloc (.cells #[.int .u64 t] 25)).trans ka fun _ _ h => h).trans kka fun _ _ h => h
  clear da ka kka HB
  generalize w1.alloc (.cells #[.int .i64 5, .slice Aa na ca, .int .i64 ra] 24) = W1 at *
  have ua0 : W1.cell? ⟨w1.heap.size, 0, none⟩ = some (.int .i64 5) := qa.cell 0
  have ua1 : W1.cell? ⟨w1.heap.size, 1, none⟩ = some (.slice Aa na ca) := qa.cell 1
  have ua2 : W1.cell? ⟨w1.heap.size, 2, none⟩ = some (.int .i64 ra) := qa.cell 2
  have HY : Hid (Calls Try.prog 13 #[.agg #[.int .i64 5, .slice Aa na ca, .int .i64 ra]] W1 _) := Lib.hid (d_any fa)
  go_upto_region 6 with (go_at_call 13
                         (with_reducible refine HY.out.mono ?_)
                         rintro e w2 ⟨s, b, rfl, k2, hs, hb0, hb1⟩)
  have qa := qa.keep k2 (fun h => h)
  have fa := fa.keep k2
  have kw := kw.trans k2 fun _ _ h => h
  clear ua0 ua1 ua2 k2 HY
  have HB0 := Lib.hid hb0
  have HB1 := Lib.hid hb1
  clear hb0 hb1
  have hs32 : s < 32 := by have : (2 : Nat) ^ 5 = 32 := rfl; omega
  have HSH : Hid ((IntKind.u64.wrap ((t : Int) * 4294967296) != 0) = b) := Lib.hid (shl32 t HT.out b (by
    cases b
    · have h0 := (HB0.out rfl).2
      have : t % 4294967296 = 0 := (low_zero t).2 fun x hx => by rw [← tf_zero t 5 x (by simpa using hx)]; exact h0 _
      simp [this]
    · have h1 := (HB1.out rfl).1
      simp only [true_iff]
      intro h0
      have := (low_zero t).1 h0 s hs32
      rw [← tf_zero t 5 s (by simpa using hs32), h1] at this
      cases this))
  have hsh := HSH.out
  have HE : Hid (∀ W, Keep NoF w2 W → ∀ x : Nat, x < 32 → Calls Try.prog 17 #[.agg #[.int .i64 5, .slice Aa na ca, .int .i64 ra], .int .u64 x] W fun e w' => e = .returned (.bool (tf t 5 0 0 x.testBit)) ∧ Keep NoF W w') := Lib.hid fun W hk x hx => d_eval (s := x) (by omega) (fa.keep hk)
  have ua0 : w2.cell? ⟨w1.heap.size, 0, none⟩ = some (.int .i64 5) := qa.cell 0
  have ua1 : w2.cell? ⟨w1.heap.size, 1, none⟩ = some (.slice Aa na ca) := qa.cell 1
  have ua2 : w2.cell? ⟨w1.heap.size, 2, none⟩ = some (.int .i64 ra) := qa.cell 2
  have HTS := Lib.hid fun (W : World) => turn_any s (by omega) W
  have HLT : Hid (∀ x : Nat, x < 32 → tf t 5 0 0 x.testBit = true → b = true ∧ turnF s 5 ≤ turnF x 5) := Lib.hid fun x hx hf => by
    cases b
    · rw [(HB0.out rfl).2] at hf; cases hf
    · exact ⟨rfl, turn_before ((HB1.out rfl).2 _ hf)⟩
  have HTX := Lib.hid fun (x : Nat) (hx : x < 32) (W : World) => turn_any x (by omega) W
  have HES : Hid (b = true → Calls Try.prog 17 #[.agg #[.int .i64 5, .slice Aa na ca, .int .i64 ra], .int .u64 s] w2 fun e w' => e = .returned (.bool true) ∧ Keep NoF w2 w') := Lib.hid fun hb => by
    have := HE.out w2 (Keep.refl _ _) s hs32
    rwa [(HB1.out hb).1] at this
  clear HSH HB0 HB1 HT hs
  have l1 := qa.lt
  cases b
  · go_wp2
    clear ua0 ua1 ua2
    go_loopw [40] (fun i wr => ∃ k : Nat, i = .int .u64 k ∧ k ≤ 32 ∧ Keep NoF w2 wr) (fun i _ => 32 - (intOf i).toNat)
    case atStart => exact ⟨0, rfl, by omega, Keep.refl _ _⟩
    case round =>
      obtain ⟨k, rfl, hk, hkr⟩ := hrel
      by_cases hlt : k < 32
      · have hf := HE.out wr hkr k hlt
        have hz : tf t 5 0 0 k.testBit = false := by
          cases h : tf t 5 0 0 k.testBit with
          | false => rfl
          | true => exact absurd (HLT.out k hlt h).1 (by simp)
        rw [hz] at hf
        have HF := Lib.hid hf
        clear hf hz
        have qb := qa.keep hkr (fun h => h)
        have ua0 : wr.cell? ⟨w1.heap.size, 0, none⟩ = some (.int .i64 5) := qb.cell 0
        have ua1 : wr.cell? ⟨w1.heap.size, 1, none⟩ = some (.slice Aa na ca) := qb.cell 1
        have ua2 : wr.cell? ⟨w1.heap.size, 2, none⟩ = some (.int .i64 ra) := qb.cell 2
        go_wp2_with (go_at_call 17
                     (with_reducible refine HF.out.mono ?_)
                     rintro e w4 ⟨rfl, k4⟩)
        go_roundw
        case rel => exact ⟨k + 1, by go_num, by omega, hkr.trans k4 fun _ _ h => h⟩
        case measure => simp [intOf]; omega
      · go_wp2_with (go_at_call 12; (with_reducible refine (awake_any _).mono ?_); rintro e w7 ⟨rfl, k7⟩)
        go_ret
        exact ⟨rfl, (kw.trans hkr fun _ _ h => h).trans k7 fun _ _ h => h⟩
  · have HS := Lib.hid (HES.out rfl)
    go_wp2_with (go_at_call 17
                 (with_reducible refine HS.out.mono ?_)
                 rintro e w3 ⟨rfl, k3⟩)
    clear ua0 ua1 ua2
    have qa := qa.keep k3 (fun h => h)
    have HE2 : Hid (∀ W, Keep NoF w3 W → ∀ x : Nat, x < 32 → Calls Try.prog 17 #[.agg #[.int .i64 5, .slice Aa na ca, .int .i64 ra], .int .u64 x] W fun e w' => e = .returned (.bool (tf t 5 0 0 x.testBit)) ∧ Keep NoF W w') := Lib.hid fun W hk x hx => HE.out W (k3.trans hk fun _ _ h => h) x hx
    go_loopw [40] (fun i wr => ∃ k : Nat, i = .int .u64 k ∧ k ≤ 32 ∧ Keep NoF w3 wr) (fun i _ => 32 - (intOf i).toNat)
    case atStart => exact ⟨0, rfl, by omega, Keep.refl _ _⟩
    case round =>
      obtain ⟨k, rfl, hk, hkr⟩ := hrel
      by_cases hlt : k < 32
      · have HF := Lib.hid (HE2.out wr hkr k hlt)
        have HK := Lib.hid (HTX.out k hlt)
        have HL := Lib.hid (HLT.out k hlt)
        have qb := qa.keep hkr (fun h => h)
        have ua0 : wr.cell? ⟨w1.heap.size, 0, none⟩ = some (.int .i64 5) := qb.cell 0
        have ua1 : wr.cell? ⟨w1.heap.size, 1, none⟩ = some (.slice Aa na ca) := qb.cell 1
        have ua2 : wr.cell? ⟨w1.heap.size, 2, none⟩ = some (.int .i64 ra) := qb.cell 2
        generalize tf t 5 0 0 k.testBit = fx at *
        cases fx
        · go_wp2_with (go_at_call 17
                       (with_reducible refine HF.out.mono ?_)
                       rintro e w4 ⟨rfl, k4⟩)
          go_roundw
          case rel => exact ⟨k + 1, by go_num, by omega, hkr.trans k4 fun _ _ h => h⟩
          case measure => simp [intOf]; omega
        · have hle := (HL.out rfl).2
          generalize turnF k 5 = tk at *
          generalize turnF s 5 = ts at *
          have hd : decide (tk < ts) = false := by simp; omega
          have hd2 : ¬ ((tk : Int) < ts) := by omega
          go_wp2_with (first
            | (go_at_call 17
               (with_reducible refine HF.out.mono ?_)
               rintro e w4 ⟨rfl, k4⟩)
            | (go_at_call 39
               (with_reducible refine (HK.out _).mono ?_)
               rintro e w' ⟨rfl, rfl⟩)
            | (go_at_call 39
               (with_reducible refine (HTS.out _).mono ?_)
               rintro e w' ⟨rfl, rfl⟩))
          go_roundw
          case rel => exact ⟨k + 1, by go_num, by omega, hkr.trans k4 fun _ _ h => h⟩
          case measure => simp [intOf]; omega
      · go_wp2_with (go_at_call 12; (with_reducible refine (awake_any _).mono ?_); rintro e w7 ⟨rfl, k7⟩)
        go_ret
        exact ⟨rfl, ((kw.trans k3 fun _ _ h => h).trans hkr fun _ _ h => h).trans k7 fun _ _ h => h⟩
end Go.Proofs.Ytengdldkkmknpaa
