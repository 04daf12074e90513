/- Single states and sets as diagrams: the program's state, set and Set. No condition. -/
import Derived.Test.YtgdmcidcappkpaaDoorSyC
import Derived.Test.YtgdmcidcappkpaaDoorSyD
import Derived.Deep.DeepCutAuto
set_option linter.unusedVariables false
set_option linter.unusedSimpArgs false
namespace Go.Proofs.YtgdmcidcappkpaaDoor
open Go.RowKit
open Dd (stP stF setP setF)

theorem bit_none {v j : Nat} (hv : v < 64) (hj : j < 6) : (bits BinOp.and IntKind.i64 ((v : Int) / 2 ^ j) 1 == 0) = !v.testBit j := by
  have h : ∀ (v : Fin 64) (j : Fin 6), (bits BinOp.and IntKind.i64 ((v.val : Int) / 2 ^ j.val) 1 == 0) = !v.val.testBit j.val := by decide +kernel
  exact h ⟨v, hv⟩ ⟨j, hj⟩
section
set_option maxRecDepth 100000
set_option maxHeartbeats 2000000
theorem state_any (k v s : Nat) (hk : k ≤ 6) (hv : v < 2 ^ k) (hs : s ≤ 1) (w : World) : Calls Tryd.prog 51 #[.int .i64 k, .int .i64 v, .int .i64 s] w (DP w (2 * k) (stF k v s)) := by
  have hv64 : v < 64 := Nat.lt_of_lt_of_le hv (Nat.pow_le_pow_right (n := 2) (by omega) hk)
  have HE := Lib.hid fun ρ => Dd.stP_end (s := s) hv ρ
  have HST := Lib.hid fun j => Dd.stP_succ v s j
  obtain ⟨V, hV⟩ : ∃ V, V = 2 * k := ⟨_, rfl⟩
  rw [← hV]
  have hVk : (2 : Int) * (k : Int) = (V : Int) := by omega
  have HV := Lib.hid hV
  clear hV hv
  have HC := Lib.hid fun W => x_const V (by have := HV.out; omega) true W
  go_enter Tryd.func51, Tryd.ntmps51
  go_upto_region 1 with (fail)
  have B0 := Bk.new w 26 #[.int .i64 0, .slice none 0 0, .int .i64 0]
  have K0 : Keep NoF w (w.alloc (.cells #[.int .i64 0, .slice none 0 0, .int .i64 0] 26)) := (Keep.refl _ _).alloc _
  generalize w.alloc (.cells #[.int .i64 0, .slice none 0 0, .int .i64 0] 26) = W0 at *
  go_upto_region 2 with (go_at_call 28
                         (with_reducible refine (HC.out W0).mono ?_)
                         rintro e w1 ⟨A1, n1, c1, r1, rfl, D1, K1⟩)
  have Bd := Bk.new w1 26 #[.int .i64 V, .slice A1 n1 c1, .int .i64 r1]
  have Bz := (B0.keep K1 fun h => h).alloc (.cells #[.int .i64 V, .slice A1 n1 c1, .int .i64 r1] 26)
  have Kd : Keep NoF w (w1.alloc (.cells #[.int .i64 V, .slice A1 n1 c1, .int .i64 r1] 26)) := (K0.trans K1 fun _ _ h => h).alloc _
  have Dd := D1.keep ((Keep.refl NoF w1).alloc (.cells #[.int .i64 V, .slice A1 n1 c1, .int .i64 r1] 26))
  have hsz : w.heap.size < w1.heap.size := Nat.lt_of_lt_of_le B0.lt K1.size
  have hss : w.heap.size ≤ w1.heap.size := Nat.le_of_lt hsz
  generalize w1.alloc (.cells #[.int .i64 V, .slice A1 n1 c1, .int .i64 r1] 26) = W1 at *
  generalize w1.heap.size = bd at *
  clear D1 K1 B0 K0 HC
  go_wp2
  go_loopw [9, 20] (fun v9 i wr => ∃ (j : Nat) (A : Option Addr) (n c r : Nat), v9 = .int .i64 0 ∧ i = .int .i64 j ∧ j ≤ k ∧ Bk wr bd 26 #[.int .i64 V, .slice A n c, .int .i64 r] ∧ IsD wr V (stP v s j) A n c r ∧ Bk wr w.heap.size 26 #[.int .i64 0, .slice none 0 0, .int .i64 0] ∧ Keep NoF w wr) (fun _ i _ => k - (intOf i).toNat)
  case atStart => exact ⟨0, _, _, _, _, rfl, rfl, by omega, Bd, Dd, Bz, Kd⟩
  case round =>
    clear Bd Dd Bz Kd
    obtain ⟨j, A1, n1, c1, r1, rfl, rfl, hj, Bd, D1, Bz, Kr⟩ := hrel
    by_cases hlt : j < k
    · have hj6 : j < 6 := by omega
      have hb0 := bit_none hv64 hj6
      have hvar := x_var V (2 * j + s) (by have := HV.out; omega) (by have := HV.out; omega)
      rw [show ((2 * j + s : Nat) : Int) = 2 * (j : Int) + (s : Int) by omega] at hvar
      have HVAR := Lib.hid hvar
      have HSJ := Lib.hid (HST.out j)
      clear hvar
      have hV12 : V ≤ 12 := by have := HV.out; omega
      go_upto_region 6 with (go_at_call 40
                             (with_reducible refine (HVAR.out wr).mono ?_)
                             rintro e w2 ⟨A2, n2, c2, r2, rfl, D2, K2⟩)
      have Bx := Bk.new w2 26 #[.int .i64 V, .slice A2 n2 c2, .int .i64 r2]
      have Bd2 := (Bd.keep K2 fun h => h).alloc (.cells #[.int .i64 V, .slice A2 n2 c2, .int .i64 r2] 26)
      have Bz2 := (Bz.keep K2 fun h => h).alloc (.cells #[.int .i64 V, .slice A2 n2 c2, .int .i64 r2] 26)
      have K2r : Keep NoF w (w2.alloc (.cells #[.int .i64 V, .slice A2 n2 c2, .int .i64 r2] 26)) := (Kr.trans K2 fun _ _ h => h).alloc _
      have D2x := D2.keep ((Keep.refl NoF w2).alloc (.cells #[.int .i64 V, .slice A2 n2 c2, .int .i64 r2] 26))
      have D1x := (D1.keep K2).keep ((Keep.refl NoF w2).alloc (.cells #[.int .i64 V, .slice A2 n2 c2, .int .i64 r2] 26))
      have hbx : bd < w2.heap.size := Nat.lt_of_lt_of_le Bd.lt K2.size
      have hwx : w.heap.size ≤ w2.heap.size := by omega
      generalize w2.alloc (.cells #[.int .i64 V, .slice A2 n2 c2, .int .i64 r2] 26) = W2 at *
      generalize w2.heap.size = bx at *
      clear D2 K2 Bd Bz D1 HVAR Kr
      cases hb : v.testBit j with
      | true =>
        rw [hb] at hb0
        simp only [hb, if_true] at HSJ
        have HA := Lib.hid (x_and hV12 D1x D2x)
        have d0 : W2.cell? ⟨bd, 0, none⟩ = some (.int .i64 V) := Bd2.cell 0
        have d1 : W2.cell? ⟨bd, 1, none⟩ = some (.slice A1 n1 c1) := Bd2.cell 1
        have d2 : W2.cell? ⟨bd, 2, none⟩ = some (.int .i64 r1) := Bd2.cell 2
        have x0 : W2.cell? ⟨bx, 0, none⟩ = some (.int .i64 V) := Bx.cell 0
        have x1 : W2.cell? ⟨bx, 1, none⟩ = some (.slice A2 n2 c2) := Bx.cell 1
        have x2 : W2.cell? ⟨bx, 2, none⟩ = some (.int .i64 r2) := Bx.cell 2
        go_wp2_with (go_at_call 31
                     (with_reducible refine (HA.out).mono ?_)
                     rintro e w4 ⟨A4, n4, c4, r4, rfl, D4, K4⟩
                     have Bd4 := Bd2.keep K4 fun h => h
                     have Bz4 := Bz2.keep K4 fun h => h
                     have y0 : w4.cell? ⟨bd, 0, none⟩ = some (.int .i64 V) := Bd4.cell 0
                     have y1 : w4.cell? ⟨bd, 1, none⟩ = some (.slice A1 n1 c1) := Bd4.cell 1
                     have y2 : w4.cell? ⟨bd, 2, none⟩ = some (.int .i64 r1) := Bd4.cell 2
                     have yf0 := Bd4.frozen 0
                     have yf1 := Bd4.frozen 1
                     have yf2 := Bd4.frozen 2)
        go_roundw
        case rel =>
          obtain ⟨s1, s2, s3⟩ := set3_box Bd4 sl_nint D4
          refine ⟨j + 1, A4, n4, c4, r4, rfl, by go_num, by omega, s1, s2.congr fun ρ => (HSJ.out ρ).symm, Bz4.keep s3 fun h => by omega, (K2r.trans K4 fun _ _ h => h).trans s3 fun i hi h => by omega⟩
        case measure => simp only [intOf]; omega
      | false =>
        rw [hb] at hb0
        simp only [hb, Bool.false_eq_true, if_false] at HSJ
        have HN := Lib.hid (x_not hV12 D2x)
        have x0 : W2.cell? ⟨bx, 0, none⟩ = some (.int .i64 V) := Bx.cell 0
        have x1 : W2.cell? ⟨bx, 1, none⟩ = some (.slice A2 n2 c2) := Bx.cell 1
        have x2 : W2.cell? ⟨bx, 2, none⟩ = some (.int .i64 r2) := Bx.cell 2
        go_upto_region 8 with (go_at_call 27
                               (with_reducible refine (HN.out).mono ?_)
                               rintro e w3 ⟨A3, n3, c3, r3, rfl, D3, K3⟩
                               have Bx2 := Bx.keep K3 fun h => h
                               have y0 : w3.cell? ⟨bx, 0, none⟩ = some (.int .i64 V) := Bx2.cell 0
                               have y1 : w3.cell? ⟨bx, 1, none⟩ = some (.slice A2 n2 c2) := Bx2.cell 1
                               have y2 : w3.cell? ⟨bx, 2, none⟩ = some (.int .i64 r2) := Bx2.cell 2
                               have yf0 := Bx2.frozen 0
                               have yf1 := Bx2.frozen 1
                               have yf2 := Bx2.frozen 2)
        obtain ⟨Bx3, D3x, K3x⟩ := set3_box Bx2 sl_nint D3
        have D1y := (D1x.keep K3).far_box Bx2 sl_nint K3x
        have Bd3 := (Bd2.keep K3 fun h => h).keep K3x fun h => by omega
        have Bz3 := (Bz2.keep K3 fun h => h).keep K3x fun h => by omega
        have K3r : Keep NoF w (((w3.setCell ⟨bx, 0, none⟩ (.int .i64 V)).setCell ⟨bx, 1, none⟩ (.slice A3 n3 c3)).setCell ⟨bx, 2, none⟩ (.int .i64 r3)) := (K2r.trans K3 fun _ _ h => h).trans K3x fun i hi h => by omega
        generalize (((w3.setCell ⟨bx, 0, none⟩ (.int .i64 V)).setCell ⟨bx, 1, none⟩ (.slice A3 n3 c3)).setCell ⟨bx, 2, none⟩ (.int .i64 r3)) = W3 at *
        clear x0 x1 x2 y0 y1 y2 yf0 yf1 yf2 Bd2 Bz2 K2r D1x D2x Bx Bx2 K3 K3x D3
        obtain ⟨Bd2, Bz2, K2r⟩ : _ ∧ _ ∧ _ := ⟨Bd3, Bz3, K3r⟩
        clear Bd3 Bz3 K3r
        have HA := Lib.hid (x_and hV12 D1y D3x)
        have d0 : W3.cell? ⟨bd, 0, none⟩ = some (.int .i64 V) := Bd2.cell 0
        have d1 : W3.cell? ⟨bd, 1, none⟩ = some (.slice A1 n1 c1) := Bd2.cell 1
        have d2 : W3.cell? ⟨bd, 2, none⟩ = some (.int .i64 r1) := Bd2.cell 2
        have x0 : W3.cell? ⟨bx, 0, none⟩ = some (.int .i64 V) := Bx3.cell 0
        have x1 : W3.cell? ⟨bx, 1, none⟩ = some (.slice A3 n3 c3) := Bx3.cell 1
        have x2 : W3.cell? ⟨bx, 2, none⟩ = some (.int .i64 r3) := Bx3.cell 2
        go_wp2_with (go_at_call 31
                     (with_reducible refine (HA.out).mono ?_)
                     rintro e w4 ⟨A4, n4, c4, r4, rfl, D4, K4⟩
                     have Bd4 := Bd2.keep K4 fun h => h
                     have Bz4 := Bz2.keep K4 fun h => h
                     have y0 : w4.cell? ⟨bd, 0, none⟩ = some (.int .i64 V) := Bd4.cell 0
                     have y1 : w4.cell? ⟨bd, 1, none⟩ = some (.slice A1 n1 c1) := Bd4.cell 1
                     have y2 : w4.cell? ⟨bd, 2, none⟩ = some (.int .i64 r1) := Bd4.cell 2
                     have yf0 := Bd4.frozen 0
                     have yf1 := Bd4.frozen 1
                     have yf2 := Bd4.frozen 2)
        go_roundw
        case rel =>
          obtain ⟨s1, s2, s3⟩ := set3_box Bd4 sl_nint D4
          refine ⟨j + 1, A4, n4, c4, r4, rfl, by go_num, by omega, s1, s2.congr fun ρ => (HSJ.out ρ).symm, Bz4.keep s3 fun h => by omega, (K2r.trans K4 fun _ _ h => h).trans s3 fun i hi h => by omega⟩
        case measure => simp only [intOf]; omega
    · obtain rfl : j = k := by omega
      have B5 := Bd
      have d0 : wr.cell? ⟨bd, 0, none⟩ = some (.int .i64 V) := Bd.cell 0
      have d1 : wr.cell? ⟨bd, 1, none⟩ = some (.slice A1 n1 c1) := Bd.cell 1
      have d2 : wr.cell? ⟨bd, 2, none⟩ = some (.int .i64 r1) := Bd.cell 2
      have z0 : wr.cell? ⟨w.heap.size, 0, none⟩ = some (.int .i64 0) := Bz.cell 0
      have z1 : wr.cell? ⟨w.heap.size, 1, none⟩ = some (.slice none 0 0) := Bz.cell 1
      have z2 : wr.cell? ⟨w.heap.size, 2, none⟩ = some (.int .i64 0) := Bz.cell 2
      have zf0 := Bz.frozen 0
      have zf1 := Bz.frozen 1
      have zf2 := Bz.frozen 2
      have hlt2 := Bd.lt
      have hlt3 := Bz.lt
      go_wp2
      obtain ⟨s1, s2, s3⟩ := set3_box Bz sl_nint D1
      have hKf : Keep NoF w (((wr.setCell ⟨w.heap.size, 0, none⟩ (.int .i64 V)).setCell ⟨w.heap.size, 1, none⟩ (.slice A1 n1 c1)).setCell ⟨w.heap.size, 2, none⟩ (.int .i64 r1)) := Kr.trans s3 fun i hi h => by omega
      generalize (((wr.setCell ⟨w.heap.size, 0, none⟩ (.int .i64 V)).setCell ⟨w.heap.size, 1, none⟩ (.slice A1 n1 c1)).setCell ⟨w.heap.size, 2, none⟩ (.int .i64 r1)) = W6 at *
      have h0 : W6.cell? ⟨w.heap.size, 0, none⟩ = some (.int .i64 V) := s1.cell 0
      have h1 : W6.cell? ⟨w.heap.size, 1, none⟩ = some (.slice A1 n1 c1) := s1.cell 1
      have h2 : W6.cell? ⟨w.heap.size, 2, none⟩ = some (.int .i64 r1) := s1.cell 2
      refine bodyPost_ret (v := .tuple #[.agg #[.int .i64 V, .slice A1 n1 c1, .int .i64 r1], .int .i64 0]) (by simp [results, Tryd.results51, go_sem, h0, h1, h2]) rfl ?_
      exact ⟨A1, n1, c1, r1, rfl, s2.congr HE.out, hKf⟩
end
end Go.Proofs.YtgdmcidcappkpaaDoor
