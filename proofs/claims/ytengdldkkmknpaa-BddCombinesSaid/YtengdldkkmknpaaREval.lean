/- What the reference's Eval does. No condition. -/
import Derived.Test.YtengdldkkmknpaaRCheck
import Derived.Test.YtengdldkkmknpaaEval
set_option linter.unusedVariables false
set_option linter.unusedSimpArgs false
namespace Go.Proofs.Ytengdldkkmknpaa
open Go.RowKit
open Dd (Rn rat ofN toN checkErr den lo var)

set_option maxRecDepth 100000 in
set_option maxHeartbeats 1000000 in
theorem rEval_any (a : Dg) (s : Nat) (hs : s < 18446744073709551616) (w : World) (ha : a.In w) : Calls Try.prog 18 #[a.val, .int .u64 s] w fun e w' => e = .returned (.bool (evalD a s)) ∧ Keep NoF w w' := by
  have hck := fun (w1 : World) (hk : Keep NoF w w1) => rcheck_any a.V a.R a.root a.sl w1 ha.2 (ha.1.kept hk fun _ _ h => h)
  have hcke : checkErr a.V a.R a.root = a.err := rfl
  rw [hcke] at hck
  have hval : a.err = 0 → ∃ (v : Nat) (M : List Nd) (r : Nat), a.V = v ∧ a.R = ofN M ∧ a.root = r ∧ Dd.Valid v M r := fun h => Dd.valid_of h
  have HE : Hid (a.err ≠ 0 → evalD a s = false) := Lib.hid fun h => if_neg h
  have HE0 : Hid (a.err = 0 → evalD a s = den (toN a.R) a.root.toNat s.testBit) := Lib.hid fun h => if_pos h
  have ha1 := ha.1
  obtain ⟨V1, R1, r1, s1⟩ := a
  simp only at ha1 hck hval HE0
  have ha2 := ha1
  obtain ⟨_, A1, c1, rfl, _, _⟩ := ha2
  show Calls Try.prog 18 #[.agg #[.int .i64 V1, .slice A1 R1.length c1, .int .i64 r1], .int .u64 s] w _
  clear ha hcke
  generalize evalD ⟨V1, R1, r1, .slice A1 R1.length c1⟩ s = ev at *
  generalize Dg.err ⟨V1, R1, r1, .slice A1 R1.length c1⟩ = ae at *
  have hk0 : Keep NoF w (w.alloc (.cells #[.int .i64 V1, .slice A1 R1.length c1, .int .i64 r1] 24)) := (Keep.refl _ _).alloc _
  have hb := Bk.new w 24 #[.int .i64 V1, .slice A1 R1.length c1, .int .i64 r1]
  have HS := Lib.hid (hck _ hk0)
  clear hck
  by_cases h0 : ae = 0
  · obtain ⟨v, M, r, rfl, rfl, rfl, hv⟩ := hval h0
    have hev := HE0.out h0
    rw [Int.toNat_natCast, Dd.toN_ofN] at hev
    subst h0
    have HEV := Lib.hid hev
    have HVL := Lib.hid hv
    have hML := hv.len
    rw [rnsC_ofN] at ha1
    rw [Dd.ofN_len] at ha1 HS hb hk0
    rw [Dd.ofN_len]
    clear HE HE0 hval hev hv
    go_enter Try.func18, Try.ntmps18
    go_wp2_with (go_at_call 16
                 (with_reducible refine HS.out.mono ?_)
                 rintro e w2 ⟨rfl, hk2⟩
                 have hb2 := hb.keep hk2 (fun h => h)
                 have x1 : w2.cell? ⟨w.heap.size, 1, none⟩ = some (.slice A1 M.length c1) := hb2.cell 1
                 have x2 : w2.cell? ⟨w.heap.size, 2, none⟩ = some (.int .i64 r) := hb2.cell 2)
    have hkw := hk0.trans hk2 fun _ _ h => h
    clear x1 x2 HS hk2 hb hk0
    have hsp := bit_one s
    go_loopw [5] (fun i wr => ∃ k : Nat, i = .int .i64 k ∧ k < M.length + 2 ∧ den M k s.testBit = ev ∧ Keep NoF w2 wr) (fun i _ => (intOf i).toNat)
    case atStart => exact ⟨r, rfl, HVL.out.root, HEV.out.symm, Keep.refl _ _⟩
    case round =>
      obtain ⟨k, rfl, hk, hd, hkr⟩ := hrel
      have HD := Lib.hid hd
      clear hd hsp
      by_cases h2 : 2 ≤ k
      · have hg := HVL.out.good
        obtain ⟨bl, off, rfl, _, y1, y2, y3⟩ := ((ha1.kept hkw fun _ _ h => h).kept hkr fun _ _ h => h).num h2 hk
        have hdn := Dd.den_node hg h2 hk s.testBit
        have a1 := hg.lo_lt k h2 hk
        have a2 := hg.hi_lt k h2 hk
        have hu := hg.bound k h2 hk
        have hbit := bit_one s (var M k) hs
        have x1 : wr.cell? ⟨w.heap.size, 1, none⟩ = some (.slice (some ⟨bl, off, none⟩) M.length c1) := (hb2.keep hkr (fun h => h)).cell 1
        rw [HD.out] at hdn
        have HDN := Lib.hid hdn
        clear hg hdn
        obtain ⟨j, rfl⟩ : ∃ j, k = j + 2 := ⟨k - 2, by omega⟩
        simp only [Nat.add_sub_cancel] at y1 y2 y3
        have hj : j < M.length := by omega
        generalize var M (j + 2) = u at *
        generalize lo M (j + 2) = l at *
        generalize Dd.hi M (j + 2) = h at *
        cases hbt : s.testBit u
        · rw [hbt] at hbit HDN
          clear hbt
          go_wp2
          go_roundw
          case rel => exact ⟨l, rfl, by omega, by simpa using HDN.out.symm, hkr.alloc _⟩
          case measure => simp [intOf]; omega
        · rw [hbt] at hbit HDN
          clear hbt
          go_wp2
          go_roundw
          case rel => exact ⟨h, rfl, by omega, by simpa using HDN.out.symm, hkr.alloc _⟩
          case measure => simp [intOf]; omega
      · have hc : k = 0 ∨ k = 1 := by omega
        rcases hc with rfl | rfl
        · have HFIN : Hid (ev = false) := Lib.hid (by rw [← HD.out]; rfl)
          go_wp2
          go_ret
          exact ⟨by rw [HFIN.out]; rfl, hkw.trans hkr fun _ _ h => h⟩
        · have HFIN : Hid (ev = true) := Lib.hid (by rw [← HD.out]; rfl)
          go_wp2
          go_ret
          exact ⟨by rw [HFIN.out]; rfl, hkw.trans hkr fun _ _ h => h⟩
  · have hne : (ae != 0) = true := by simpa using h0
    have hev := HE.out h0
    subst hev
    clear HE0 hval
    go_enter Try.func18, Try.ntmps18
    go_wp2_with (go_at_call 16; (with_reducible refine HS.out.mono ?_); rintro e w2 ⟨rfl, hk2⟩)
    go_ret
    exact ⟨rfl, hk0.trans hk2 fun _ _ h => h⟩
end Go.Proofs.Ytengdldkkmknpaa
