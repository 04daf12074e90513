/- What the reference's Eval does. What the reference's power, Support and Any do. What the reference's Any does. What the reference's variable and Count do. No condition. -/
import Derived.Test.YtgdmcidcappkpaaGreatRCheck
import Derived.Test.YtgdmcidcappkpaaGreatEval
import Derived.Test.YtgdmcidcappkpaaGreatCount
set_option linter.unusedVariables false
set_option linter.unusedSimpArgs false
namespace Go.Proofs.YtgdmcidcappkpaaGreat
open Go.RowKit
open Dd (Rn rat ofN toN checkErr den lo var)

end Go.Proofs.YtgdmcidcappkpaaGreat
namespace Go.Proofs.YtgdmcidcappkpaaGreat
open Go.RowKit
open Dd (Rn rat ofN toN checkErr den lo var supp anyP anyF)

theorem or_same (s u : Nat) (h : s.testBit u = true) : s ||| 2 ^ u = s := by
  refine Nat.eq_of_testBit_eq fun i => ?_
  rw [Nat.testBit_or, Nat.testBit_two_pow]
  by_cases hi : u = i
  · subst hi; simp [h]
  · simp [hi]
theorem or_add (s u : Nat) (hs : s < 2 ^ 62) (hu : u < 62) (h : s.testBit u = false) : s + 2 ^ u = s ||| 2 ^ u := by
  have hp : 2 ^ u < 2 ^ 62 := Nat.pow_lt_pow_right (by omega) hu
  have hand : BitVec.ofNat 64 s &&& BitVec.ofNat 64 (2 ^ u) = 0#64 := by
    apply BitVec.eq_of_toNat_eq
    rw [BitVec.toNat_and, BitVec.toNat_ofNat, BitVec.toNat_ofNat, Nat.mod_eq_of_lt (by omega), Nat.mod_eq_of_lt (by omega)]
    refine Nat.eq_of_testBit_eq fun i => ?_
    rw [Nat.testBit_and, Nat.testBit_two_pow]
    by_cases hi : u = i
    · subst hi; simp [h]
    · simp [hi]
  have h2 := congrArg BitVec.toNat (BitVec.add_eq_or_of_and_eq_zero _ _ hand)
  rw [BitVec.toNat_add, BitVec.toNat_or, BitVec.toNat_ofNat, BitVec.toNat_ofNat, Nat.mod_eq_of_lt (show s < 2 ^ 64 by omega), Nat.mod_eq_of_lt (show 2 ^ u < 2 ^ 64 by omega), Nat.mod_eq_of_lt (by omega)] at h2
  exact h2

set_option maxRecDepth 100000 in
set_option maxHeartbeats 400000 in
theorem power_any (n : Nat) (hn : n ≤ 60) (w : World) : Calls Tryz.prog 87 #[.int .i64 n] w fun e w' => e = .returned (.int .i64 ((2 ^ n : Nat) : Int)) ∧ w = w' := by
  go_enter Tryz.func87, Tryz.ntmps87
  go_wp2
  go_loop [3, 4] (fun r i => ∃ k : Nat, i = .int .i64 k ∧ k ≤ n ∧ r = .int .i64 ((2 ^ k : Nat) : Int)) (fun _ i => n - (intOf i).toNat)
  case atStart => exact ⟨0, rfl, by omega, rfl⟩
  case round =>
    obtain ⟨k, rfl, hk, rfl⟩ := hrel
    by_cases hlt : k < n
    · have hp : 2 ^ k ≤ 2 ^ 59 := Nat.pow_le_pow_right (by omega) (by omega)
      have HS : Hid (2 ^ (k + 1) = 2 ^ k * 2) := Lib.hid (Nat.pow_succ _ _)
      have hq : 2 ^ k ≤ 576460752303423488 := hp
      clear hp
      generalize 2 ^ k = q at *
      go_wp2
      go_round
      case rel => exact ⟨k + 1, by go_num, by omega, by rw [HS.out]; go_num⟩
      case measure => simp [intOf]; omega
    · obtain rfl : k = n := by omega
      go_wp2
      go_ret
      exact ⟨rfl, rfl⟩

set_option maxRecDepth 100000 in
set_option maxHeartbeats 1000000 in
theorem rSupport_any (a : Dg) (w : World) (ha : a.In w) : Calls Tryz.prog 64 #[a.val] w fun e w' => e = .returned (.int .u64 (suppD a : Nat)) ∧ Keep NoF w w' := by
  have hck := fun (w1 : World) (hk : Keep NoF w w1) => rcheck_any a.V a.R a.root a.sl w1 ha.2 (ha.1.kept hk fun _ _ h => h)
  have hcke : checkErr a.V a.R a.root = a.err := rfl
  rw [hcke] at hck
  have hval : a.err = 0 → ∃ (v : Nat) (M : List Nd) (r : Nat), a.V = v ∧ a.R = ofN M ∧ a.root = r ∧ Dd.Valid v M r := fun h => Dd.valid_of h
  have HE : Hid (a.err ≠ 0 → suppD a = 0) := Lib.hid fun h => if_neg h
  have HE0 : Hid (a.err = 0 → suppD a = supp (toN a.R)) := Lib.hid fun h => if_pos h
  have ha1 := ha.1
  obtain ⟨V1, R1, r1, s1⟩ := a
  simp only at ha1 hck hval HE0
  have ha2 := ha1
  obtain ⟨_, A1, c1, rfl, _, _⟩ := ha2
  show Calls Tryz.prog 64 #[.agg #[.int .i64 V1, .slice A1 R1.length c1, .int .i64 r1]] w _
  clear ha hcke
  generalize suppD ⟨V1, R1, r1, .slice A1 R1.length c1⟩ = ev at *
  generalize Dg.err ⟨V1, R1, r1, .slice A1 R1.length c1⟩ = ae at *
  have hk0 : Keep NoF w (w.alloc (.cells #[.int .i64 V1, .slice A1 R1.length c1, .int .i64 r1] 24)) := (Keep.refl _ _).alloc _
  have hb := Bk.new w 24 #[.int .i64 V1, .slice A1 R1.length c1, .int .i64 r1]
  have HS := Lib.hid (hck _ hk0)
  clear hck
  by_cases h0 : ae = 0
  · obtain ⟨v, M, r, rfl, rfl, rfl, hv⟩ := hval h0
    have hev := HE0.out h0
    rw [Dd.toN_ofN] at hev
    subst h0
    have HEV := Lib.hid hev
    have HVL := Lib.hid hv
    rw [rnsC_ofN] at ha1
    rw [Dd.ofN_len] at ha1 HS hb hk0
    rw [Dd.ofN_len]
    have hML := hv.len
    clear HE HE0 hval hev hv
    go_enter Tryz.func64, Tryz.ntmps64
    go_wp2_with (go_at_call 71
                 (with_reducible refine HS.out.mono ?_)
                 rintro e w2 ⟨rfl, hk2⟩
                 have hb2 := hb.keep hk2 (fun h => h)
                 have x1 : w2.cell? ⟨w.heap.size, 1, none⟩ = some (.slice A1 M.length c1) := hb2.cell 1)
    have hkw := hk0.trans hk2 fun _ _ h => h
    clear x1 HS hk2 hb hk0
    go_loopw [3, 12] (fun s i wr => ∃ k : Nat, i = .int .i64 k ∧ k ≤ M.length ∧ s = .int .u64 (supp (M.take k) : Nat) ∧ Keep NoF w2 wr) (fun _ i _ => M.length - (intOf i).toNat)
    case atStart => exact ⟨0, rfl, by omega, rfl, Keep.refl _ _⟩
    case round =>
      obtain ⟨k, rfl, hk, rfl, hkr⟩ := hrel
      by_cases hlt : k < M.length
      · have hg := HVL.out.good
        obtain ⟨bl, off, rfl, _, y1, y2, y3⟩ := ((ha1.kept hkw fun _ _ h => h).kept hkr fun _ _ h => h).num (i := k + 2) (by omega) (by omega)
        have hu := hg.bound (k + 2) (by omega) (by omega)
        have hMk : M[k]? = some (var M (k + 2), lo M (k + 2), Dd.hi M (k + 2)) := Dd.node_at (i := k + 2) (by omega) (by omega)
        have hsn : supp (M.take (k + 1)) = supp (M.take k) ||| 2 ^ var M (k + 2) := by
          rw [List.take_add_one, hMk]
          exact Dd.supp_snoc _ _
        have HSN := Lib.hid hsn
        have hsl : supp (M.take k) < 16777216 := Dd.supp_lt _ fun n hn => by
          obtain ⟨i, hi, rfl⟩ := List.getElem_of_mem (List.mem_of_mem_take hn)
          have := hg.bound (i + 2) (by omega) (by omega)
          simpa [var, show ¬ i + 2 < 2 by omega, List.getD_eq_getElem?_getD, List.getElem?_eq_getElem hi] using this
        clear hg hsn hMk
        simp only [Nat.add_sub_cancel] at y1 y2 y3
        generalize var M (k + 2) = u at *
        generalize lo M (k + 2) = l at *
        generalize Dd.hi M (k + 2) = h at *
        generalize supp (M.take k) = s at *
        have hbz := bit_zero s u (by omega)
        have HP := Lib.hid fun (W : World) => power_any u (by omega) W
        have hpu : 2 ^ u ≤ 2 ^ 23 := Nat.pow_le_pow_right (by omega) (by omega)
        have HPU := Lib.hid (or_add s u (by omega) (by omega))
        cases hbit : s.testBit u
        · rw [hbit] at hbz
          have HB := Lib.hid hbit
          clear hbit
          have e1 : (((2 ^ u : Nat) : Int)) = (2 ^ u : Nat) := rfl
          clear e1
          have HQ := Lib.hid (HPU.out HB.out)
          have HSZ : Hid (s + 2 ^ u < 18446744073709551616) := Lib.hid (by omega)
          generalize 2 ^ u = q at *
          go_wp2_with (go_at_call 87
                       (with_reducible refine (HP.out _).mono ?_)
                       rintro e w' ⟨rfl, rfl⟩)
          go_roundw
          case rel => exact ⟨k + 1, by go_num, by omega, by rw [HSN.out, ← HQ.out]; first | rfl | go_num, hkr.alloc _⟩
          case measure => simp [intOf]; omega
        · rw [hbit] at hbz
          have HB := Lib.hid hbit
          clear hbit
          go_wp2
          go_roundw
          case rel => exact ⟨k + 1, by go_num, by omega, by rw [HSN.out, or_same s u HB.out], hkr.alloc _⟩
          case measure => simp [intOf]; omega
      · have hke : k = M.length := by omega
        have HK := Lib.hid hke
        clear hke
        go_wp2
        go_ret
        exact ⟨ret_u64 (by rw [HEV.out, HK.out, List.take_length]), hkw.trans hkr fun _ _ h => h⟩
  · have hne : (ae != 0) = true := by simpa using h0
    have hev := HE.out h0
    subst hev
    clear HE0 hval
    go_enter Tryz.func64, Tryz.ntmps64
    go_wp2_with (go_at_call 71; (with_reducible refine HS.out.mono ?_); rintro e w2 ⟨rfl, hk2⟩)
    go_ret
    exact ⟨rfl, hk0.trans hk2 fun _ _ h => h⟩
end Go.Proofs.YtgdmcidcappkpaaGreat
namespace Go.Proofs.YtgdmcidcappkpaaGreat
open Go.RowKit
open Dd (Rn rat ofN toN checkErr den lo var anyP anyF)

end Go.Proofs.YtgdmcidcappkpaaGreat
namespace Go.Proofs.YtgdmcidcappkpaaGreat
open Go.RowKit
open Dd (Rn rat ofN toN checkErr den lo var vr cn cns)

theorem mul_wrap (c m : Nat) (h : c * 2 ^ m ≤ 16777216) : IntKind.i64.wrap ((c : Int) * ((2 ^ m : Nat) : Int)) = ((c * 2 ^ m : Nat) : Int) := by
  have e : (c : Int) * ((2 ^ m : Nat) : Int) = ((c * 2 ^ m : Nat) : Int) := by push_cast; rfl
  rw [e]
  clear e
  generalize c * 2 ^ m = q at *
  exact IntWalk.i64_in _ (by omega)
theorem power_same (n : Nat) (hn : n ≤ 60) (w : World) : Calls Tryz.prog 87 #[.int .i64 n] w fun e w' => e = .returned (.int .i64 ((2 ^ n : Nat) : Int)) ∧ w' = w := (power_any n hn w).mono fun _ _ h => ⟨h.1, h.2.symm⟩

set_option maxRecDepth 100000 in
set_option maxHeartbeats 400000 in
theorem variable1_any (b V : Nat) (M : List Nd) (A : Option Addr) (c i : Nat) (w : World) (hi : i < M.length + 2) (hM : M.length ≤ 4096) (h0 : w.cell? ⟨b, 0, none⟩ = some (.int .i64 V)) (h1 : w.cell? ⟨b, 1, none⟩ = some (.slice A M.length c)) (hrd : Rd w (.slice A M.length c) 3 M.length (ndsC M)) :
    Calls Tryz.prog 107 #[.pointer (some ⟨b, 0, none⟩), .int .i64 i] w fun e w' => e = .returned (.int .i64 (vr V M i)) ∧ w' = w := by
  by_cases h2 : i < 2
  · have hv : vr V M i = V := by simp [vr, h2]
    rw [hv]
    go_enter Tryz.func107, Tryz.ntmps107
    go_wp2
    go_ret
    exact ⟨rfl, rfl⟩
  · obtain ⟨bl, off, rfl, _, y1, y2, y3⟩ := hrd.num (i := i) (by omega) hi
    have hv : vr V M i = var M i := by simp [vr, h2]
    rw [hv]
    clear hv y2 y3
    obtain ⟨j, rfl⟩ : ∃ j, i = j + 2 := ⟨i - 2, by omega⟩
    simp only [Nat.add_sub_cancel] at y1
    generalize var M (j + 2) = u at *
    have hj : j < M.length := by omega
    go_enter Tryz.func107, Tryz.ntmps107
    go_wp2
    go_ret
    exact ⟨rfl, rfl⟩

end Go.Proofs.YtgdmcidcappkpaaGreat
