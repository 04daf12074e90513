/- What the reference's Any does. No condition. -/
import Derived.Test.YtengdldkkmknpaaRSupport
set_option linter.unusedVariables false
set_option linter.unusedSimpArgs false
namespace Go.Proofs.Ytengdldkkmknpaa
open Go.RowKit
open Dd (Rn rat ofN toN checkErr den lo var anyP anyF)

set_option maxRecDepth 100000 in
set_option maxHeartbeats 1000000 in
theorem rAny_any (a : Dg) (w : World) (ha : a.In w) : Calls Try.prog 14 #[a.val] w fun e w' => e = .returned (.tuple #[.int .u64 ((anyD a).1 : Nat), .bool (anyD a).2]) ∧ Keep NoF w w' := by
  have hck := fun (w1 : World) (hk : Keep NoF w w1) => rcheck_any a.V a.R a.root a.sl w1 ha.2 (ha.1.kept hk fun _ _ h => h)
  have hcke : checkErr a.V a.R a.root = a.err := rfl
  rw [hcke] at hck
  have hval : a.err = 0 → ∃ (v : Nat) (M : List Nd) (r : Nat), a.V = v ∧ a.R = ofN M ∧ a.root = r ∧ Dd.Valid v M r := fun h => Dd.valid_of h
  have HE : Hid (a.err ≠ 0 → anyD a = (0, false)) := Lib.hid fun h => if_neg fun k => h k.1
  have HE1 : Hid (a.root = 0 → anyD a = (0, false)) := Lib.hid fun h => if_neg fun k => k.2 h
  have HE0 : Hid (a.err = 0 → a.root ≠ 0 → anyD a = (anyP (toN a.R) a.root.toNat, true)) := Lib.hid fun h k => if_pos ⟨h, k⟩
  have ha1 := ha.1
  obtain ⟨V1, R1, r1, s1⟩ := a
  simp only at ha1 hck hval HE0 HE1
  have ha2 := ha1
  obtain ⟨_, A1, c1, rfl, _, _⟩ := ha2
  show Calls Try.prog 14 #[.agg #[.int .i64 V1, .slice A1 R1.length c1, .int .i64 r1]] w _
  clear ha hcke
  generalize anyD ⟨V1, R1, r1, .slice A1 R1.length c1⟩ = ev at *
  generalize Dg.err ⟨V1, R1, r1, .slice A1 R1.length c1⟩ = ae at *
  have hk0 : Keep NoF w (w.alloc (.cells #[.int .i64 V1, .slice A1 R1.length c1, .int .i64 r1] 24)) := (Keep.refl _ _).alloc _
  have hb := Bk.new w 24 #[.int .i64 V1, .slice A1 R1.length c1, .int .i64 r1]
  have HS := Lib.hid (hck _ hk0)
  clear hck
  by_cases h0 : ae = 0
  · obtain ⟨v, M, r, rfl, rfl, rfl, hv⟩ := hval h0
    subst h0
    have HVL := Lib.hid hv
    rw [rnsC_ofN] at ha1
    rw [Dd.ofN_len] at ha1 HS hb hk0
    rw [Dd.ofN_len]
    have hML := hv.len
    by_cases hr0 : r = 0
    · have hrz : ((r : Int) == 0) = true := by simpa using hr0
      have hev := HE1.out (by omega)
      subst hev
      clear HE HE0 HE1 hval hv hr0
      go_enter Try.func14, Try.ntmps14
      go_wp2_with (go_at_call 16
                   (with_reducible refine HS.out.mono ?_)
                   rintro e w2 ⟨rfl, hk2⟩
                   have hb2 := hb.keep hk2 (fun h => h)
                   have x2 : w2.cell? ⟨w.heap.size, 2, none⟩ = some (.int .i64 r) := hb2.cell 2)
      go_ret2
      exact ⟨rfl, hk0.trans hk2 fun _ _ h => h⟩
    have hev := HE0.out rfl (by omega)
    rw [Dd.toN_ofN, Int.toNat_natCast] at hev
    have HEV := Lib.hid hev
    clear HE HE0 HE1 hval hev hv
    have hrz : ((r : Int) == 0) = false := by simpa using hr0
    go_enter Try.func14, Try.ntmps14
    go_wp2_with (go_at_call 16
                 (with_reducible refine HS.out.mono ?_)
                 rintro e w2 ⟨rfl, hk2⟩
                 have hb2 := hb.keep hk2 (fun h => h)
                 have x1 : w2.cell? ⟨w.heap.size, 1, none⟩ = some (.slice A1 M.length c1) := hb2.cell 1
                 have x2 : w2.cell? ⟨w.heap.size, 2, none⟩ = some (.int .i64 r) := hb2.cell 2)
    have hkw := hk0.trans hk2 fun _ _ h => h
    clear x1 x2 HS hk2 hb hk0
    go_loopw [4, 5] (fun s i wr => ∃ k sv : Nat, i = .int .i64 k ∧ k ≠ 0 ∧ k < M.length + 2 ∧ s = .int .u64 (sv : Nat) ∧ sv < 2 ^ var M k ∧ anyF M (k + 1) k sv = anyP M r ∧ Keep NoF w2 wr) (fun _ i _ => (intOf i).toNat)
    case atStart => exact ⟨r, 0, rfl, hr0, HVL.out.root, rfl, Nat.two_pow_pos _, rfl, Keep.refl _ _⟩
    case round =>
      obtain ⟨k, sv, rfl, hk0, hk, rfl, hs, hd, hkr⟩ := hrel
      have HD := Lib.hid hd
      clear hd
      by_cases h2 : 2 ≤ k
      · have hg := HVL.out.good
        obtain ⟨bl, off, rfl, _, y1, y2, y3⟩ := ((ha1.kept hkw fun _ _ h => h).kept hkr fun _ _ h => h).num h2 hk
        have a1 := hg.lo_lt k h2 hk
        have a2 := hg.hi_lt k h2 hk
        have a3 := hg.lo_var k h2 hk
        have a4 := hg.hi_var k h2 hk
        have a5 := hg.ne k h2 hk
        have hu := hg.bound k h2 hk
        have HL := Lib.hid (Dd.anyF_lo hg sv h2 hk)
        have HH := Lib.hid (Dd.anyF_hi hg sv h2 hk)
        have x1 : wr.cell? ⟨w.heap.size, 1, none⟩ = some (.slice (some ⟨bl, off, none⟩) M.length c1) := (hb2.keep hkr (fun h => h)).cell 1
        clear hg
        obtain ⟨j, rfl⟩ : ∃ j, k = j + 2 := ⟨k - 2, by omega⟩
        simp only [Nat.add_sub_cancel] at y1 y2 y3
        have hj : j < M.length := by omega
        have hps : 2 ^ var M (j + 2) ≤ 2 ^ 23 := Nat.pow_le_pow_right (by omega) (by omega)
        have HLT : Hid (sv < 2 ^ var M (lo M (j + 2))) := Lib.hid (Nat.lt_trans hs (Nat.pow_lt_pow_right (by omega) a3))
        have HLT2 : Hid (sv + 2 ^ var M (j + 2) < 2 ^ var M (Dd.hi M (j + 2))) := Lib.hid (by
          have h1 : 2 ^ (var M (j + 2) + 1) ≤ 2 ^ var M (Dd.hi M (j + 2)) := Nat.pow_le_pow_right (by omega) a4
          rw [Nat.pow_succ] at h1
          omega)
        generalize var M (j + 2) = u at *
        generalize lo M (j + 2) = l at *
        generalize Dd.hi M (j + 2) = h at *
        have HOR := Lib.hid (or_bit sv u hs hu)
        have hsm : sv < 8388608 := by have : (2 : Nat) ^ 23 = 8388608 := rfl; omega
        by_cases hl : l = 0
        · subst hl
          have HP := Lib.hid fun (W : World) => power_any u (by omega) W
          have HLT3 := Lib.hid HLT2.out
          have HSU : Hid (sv + 2 ^ u < 18446744073709551616) := Lib.hid (by have : (2 : Nat) ^ 23 = 8388608 := rfl; omega)
          clear HOR HL HLT HLT2
          generalize 2 ^ u = q at *
          have hq2 : q ≤ 8388608 := by have : (2 : Nat) ^ 23 = 8388608 := rfl; omega
          clear hps
          go_wp2_with (go_at_call 53
                       (with_reducible refine (HP.out _).mono ?_)
                       rintro e w' ⟨rfl, rfl⟩)
          go_roundw
          case rel => exact ⟨h, sv + q, rfl, fun h0 => a5 h0.symm, by omega, by first | rfl | go_num, HLT3.out, (HH.out (by first | rfl | trivial)).symm.trans HD.out, hkr.alloc _⟩
          case measure => simp [intOf]; omega
        · have hln : ((l : Int) == 0) = false := by simpa using hl
          go_wp2
          go_roundw
          case rel => exact ⟨l, sv, rfl, hl, by omega, rfl, HLT.out, (HL.out hl).symm.trans HD.out, hkr.alloc _⟩
          case measure => simp [intOf]; omega
      · have hc : k = 1 := by omega
        subst hc
        have hfin : sv = anyP M r := by rw [← HD.out]; rfl
        have HFIN := Lib.hid hfin
        clear hfin
        go_wp2
        go_ret2
        rw [HEV.out]
        exact ⟨by rw [HFIN.out]; rfl, hkw.trans hkr fun _ _ h => h⟩
  · have hne : (ae != 0) = true := by simpa using h0
    have hev := HE.out h0
    subst hev
    clear HE0 HE1 hval
    go_enter Try.func14, Try.ntmps14
    go_wp2_with (go_at_call 16; (with_reducible refine HS.out.mono ?_); rintro e w2 ⟨rfl, hk2⟩)
    go_ret2
    exact ⟨rfl, hk0.trans hk2 fun _ _ h => h⟩
end Go.Proofs.Ytengdldkkmknpaa
