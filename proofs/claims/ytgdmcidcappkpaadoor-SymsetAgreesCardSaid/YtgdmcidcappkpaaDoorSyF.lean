/- Sets as diagrams: the program's set and Set. No condition. -/
import Derived.Test.YtgdmcidcappkpaaDoorSyE
set_option linter.unusedVariables false
set_option linter.unusedSimpArgs false
namespace Go.Proofs.YtgdmcidcappkpaaDoor
open Go.RowKit
open Dd (stP stF setP setF)

theorem bit_u0 (S j : Nat) (hS : S < 18446744073709551616) : (bits BinOp.and IntKind.u64 ((S : Int) / 2 ^ j) 1 == 0) = !S.testBit j := by
  rw [bit_u64 S j hS]
  cases S.testBit j <;> rfl
theorem pow_k {k : Nat} (hk : k ≤ 6) : wrap64 ((2 : Int) ^ k) = ((2 ^ k : Nat) : Int) ∧ 2 ^ k ≤ 64 := by
  have h : ∀ k : Fin 7, wrap64 ((2 : Int) ^ k.val) = ((2 ^ k.val : Nat) : Int) ∧ 2 ^ k.val ≤ 64 := by decide +kernel
  exact h ⟨k, by omega⟩
section
set_option maxRecDepth 100000
set_option maxHeartbeats 2000000
theorem set_any (k S s : Nat) (hk : k ≤ 6) (hS : S < 18446744073709551616) (hs : s ≤ 1) (w : World) : Calls Tryd.prog 25 #[.int .i64 k, .int .u64 S, .int .i64 s] w (DP w (2 * k) (setF k S s)) := by
  obtain ⟨hp, hm64⟩ := pow_k hk
  have HE := Lib.hid fun ρ => Dd.setP_end k S s ρ
  have HST := Lib.hid fun j => Dd.setP_succ k S s j
  have HSTATE := Lib.hid fun j (hj : j < 2 ^ k) W => state_any k j s hk hj hs W
  obtain ⟨V, hV⟩ : ∃ V, V = 2 * k := ⟨_, rfl⟩
  rw [← hV] at HSTATE ⊢
  generalize 2 ^ k = m at *
  have HP := Lib.hid hp
  clear hp
  have hVk : (2 : Int) * (k : Int) = (V : Int) := by omega
  have HV := Lib.hid hV
  clear hV
  have HC := Lib.hid fun W => x_const V (by have := HV.out; omega) false W
  go_enter Tryd.func25, Tryd.ntmps25
  go_upto_region 1 with (fail)
  have B0 := Bk.new w 26 #[.int .i64 0, .slice none 0 0, .int .i64 0]
  have K0 : Keep NoF w (w.alloc (.cells #[.int .i64 0, .slice none 0 0, .int .i64 0] 26)) := (Keep.refl _ _).alloc _
  generalize w.alloc (.cells #[.int .i64 0, .slice none 0 0, .int .i64 0] 26) = W0 at *
  go_upto_region 2 with (go_at_call 28
                         (with_reducible refine (HC.out W0).mono ?_)
                         rintro e w1 ⟨A1, n1, c1, r1, rfl, D1, K1⟩)
  have Bd := Bk.new w1 26 #[.int .i64 V, .slice A1 n1 c1, .int .i64 r1]
  have Bz := (B0.keep K1 fun h => h).alloc (.cells #[.int .i64 V, .slice A1 n1 c1, .int .i64 r1] 26)
  have Kd : Keep NoF w (w1.alloc (.cells #[.int .i64 V, .slice A1 n1 c1, .int .i64 r1] 26)) := (K0.trans K1 fun _ _ h => h).alloc _
  have Dd := D1.keep ((Keep.refl NoF w1).alloc (.cells #[.int .i64 V, .slice A1 n1 c1, .int .i64 r1] 26))
  have hsz : w.heap.size < w1.heap.size := Nat.lt_of_lt_of_le B0.lt K1.size
  generalize w1.alloc (.cells #[.int .i64 V, .slice A1 n1 c1, .int .i64 r1] 26) = W1 at *
  generalize w1.heap.size = bd at *
  clear D1 K1 B0 K0 HC
  go_wp2
  go_loopw [9, 20] (fun v9 i wr => ∃ (j : Nat) (A : Option Addr) (n c r : Nat), v9 = .int .i64 0 ∧ i = .int .i64 j ∧ j ≤ m ∧ Bk wr bd 26 #[.int .i64 V, .slice A n c, .int .i64 r] ∧ IsD wr V (setP k S s j) A n c r ∧ Bk wr w.heap.size 26 #[.int .i64 0, .slice none 0 0, .int .i64 0] ∧ Keep NoF w wr) (fun _ i _ => m - (intOf i).toNat)
  case atStart => exact ⟨0, _, _, _, _, rfl, rfl, by omega, Bd, Dd, Bz, Kd⟩
  case round =>
    clear Bd Dd Bz Kd
    obtain ⟨j, A1, n1, c1, r1, rfl, rfl, hj, Bd, D1, Bz, Kr⟩ := hrel
    by_cases hlt : j < m
    · have hlt2 : (j : Int) < wrap64 ((2 : Int) ^ k) := by rw [HP.out]; omega
      have hb0 := bit_u0 S j hS
      have HSJ := Lib.hid (HST.out j)
      cases hb : S.testBit j with
      | false =>
        rw [hb] at hb0
        simp only [hb, Bool.false_and, Bool.or_false] at HSJ
        go_wp2
        go_roundw
        case rel => exact ⟨j + 1, A1, n1, c1, r1, rfl, by go_num, by omega, Bd, D1.congr fun ρ => (HSJ.out ρ).symm, Bz, Kr⟩
        case measure => simp only [intOf]; omega
      | true =>
        rw [hb] at hb0
        simp only [hb, Bool.true_and] at HSJ
        have HX := Lib.hid (HSTATE.out j hlt)
        have hV12 : V ≤ 12 := by have := HV.out; omega
        go_upto_region 7 with (fail)
        have Bx := Bk.new wr 26 #[.int .i64 0, .slice none 0 0, .int .i64 0]
        have Bd1 := Bd.alloc (.cells #[.int .i64 0, .slice none 0 0, .int .i64 0] 26)
        have Bz1 := Bz.alloc (.cells #[.int .i64 0, .slice none 0 0, .int .i64 0] 26)
        have K1r : Keep NoF w (wr.alloc (.cells #[.int .i64 0, .slice none 0 0, .int .i64 0] 26)) := Kr.alloc _
        have D1x := D1.keep ((Keep.refl NoF wr).alloc (.cells #[.int .i64 0, .slice none 0 0, .int .i64 0] 26))
        have hbx : bd < wr.heap.size := Bd.lt
        have hwx : w.heap.size ≤ wr.heap.size := Kr.size
        generalize wr.alloc (.cells #[.int .i64 0, .slice none 0 0, .int .i64 0] 26) = W2 at *
        generalize wr.heap.size = bx at *
        clear Bd Bz D1 Kr
        go_upto_region 8 with (go_at_call 51
                               (with_reducible refine (HX.out W2).mono ?_)
                               rintro e w3 ⟨A3, n3, c3, r3, rfl, D3, K3⟩
                               have Bx2 := Bx.keep K3 fun h => h
                               have hlx := Bx2.lt
                               have y0 : w3.cell? ⟨bx, 0, none⟩ = some (.int .i64 0) := Bx2.cell 0
                               have y1 : w3.cell? ⟨bx, 1, none⟩ = some (.slice none 0 0) := Bx2.cell 1
                               have y2 : w3.cell? ⟨bx, 2, none⟩ = some (.int .i64 0) := Bx2.cell 2
                               have yf0 := Bx2.frozen 0
                               have yf1 := Bx2.frozen 1
                               have yf2 := Bx2.frozen 2)
        obtain ⟨Bx3, D3x, K3x⟩ := set3_box Bx2 sl_nint D3
        have D1y := (D1x.keep K3).far_box Bx2 sl_nint K3x
        have Bd3 := (Bd1.keep K3 fun h => h).keep K3x fun h => by omega
        have Bz3 := (Bz1.keep K3 fun h => h).keep K3x fun h => by omega
        have K3r : Keep NoF w (((w3.setCell ⟨bx, 0, none⟩ (.int .i64 V)).setCell ⟨bx, 1, none⟩ (.slice A3 n3 c3)).setCell ⟨bx, 2, none⟩ (.int .i64 r3)) := (K1r.trans K3 fun _ _ h => h).trans K3x fun i hi h => by omega
        generalize (((w3.setCell ⟨bx, 0, none⟩ (.int .i64 V)).setCell ⟨bx, 1, none⟩ (.slice A3 n3 c3)).setCell ⟨bx, 2, none⟩ (.int .i64 r3)) = W3 at *
        clear y0 y1 y2 yf0 yf1 yf2 Bd1 Bz1 K1r D1x Bx Bx2 K3 K3x D3 HX
        have HA := Lib.hid (x_or hV12 D1y D3x)
        have d0 : W3.cell? ⟨bd, 0, none⟩ = some (.int .i64 V) := Bd3.cell 0
        have d1 : W3.cell? ⟨bd, 1, none⟩ = some (.slice A1 n1 c1) := Bd3.cell 1
        have d2 : W3.cell? ⟨bd, 2, none⟩ = some (.int .i64 r1) := Bd3.cell 2
        have x0 : W3.cell? ⟨bx, 0, none⟩ = some (.int .i64 V) := Bx3.cell 0
        have x1 : W3.cell? ⟨bx, 1, none⟩ = some (.slice A3 n3 c3) := Bx3.cell 1
        have x2 : W3.cell? ⟨bx, 2, none⟩ = some (.int .i64 r3) := Bx3.cell 2
        go_wp2_with (go_at_call 32
                     (with_reducible refine (HA.out).mono ?_)
                     rintro e w4 ⟨A4, n4, c4, r4, rfl, D4, K4⟩
                     have Bd4 := Bd3.keep K4 fun h => h
                     have Bz4 := Bz3.keep K4 fun h => h
                     have y0 : w4.cell? ⟨bd, 0, none⟩ = some (.int .i64 V) := Bd4.cell 0
                     have y1 : w4.cell? ⟨bd, 1, none⟩ = some (.slice A1 n1 c1) := Bd4.cell 1
                     have y2 : w4.cell? ⟨bd, 2, none⟩ = some (.int .i64 r1) := Bd4.cell 2
                     have yf0 := Bd4.frozen 0
                     have yf1 := Bd4.frozen 1
                     have yf2 := Bd4.frozen 2)
        go_roundw
        case rel =>
          obtain ⟨s1, s2, s3⟩ := set3_box Bd4 sl_nint D4
          refine ⟨j + 1, A4, n4, c4, r4, rfl, by go_num, by omega, s1, s2.congr fun ρ => (HSJ.out ρ).symm, Bz4.keep s3 fun h => by omega, (K3r.trans K4 fun _ _ h => h).trans s3 fun i hi h => by omega⟩
        case measure => simp only [intOf]; omega
    · have hlt2 : ¬ (j : Int) < wrap64 ((2 : Int) ^ k) := by rw [HP.out]; omega
      obtain rfl : j = m := by omega
      have B5 := Bd
      have d0 : wr.cell? ⟨bd, 0, none⟩ = some (.int .i64 V) := Bd.cell 0
      have d1 : wr.cell? ⟨bd, 1, none⟩ = some (.slice A1 n1 c1) := Bd.cell 1
      have d2 : wr.cell? ⟨bd, 2, none⟩ = some (.int .i64 r1) := Bd.cell 2
      have z0 : wr.cell? ⟨w.heap.size, 0, none⟩ = some (.int .i64 0) := Bz.cell 0
      have z1 : wr.cell? ⟨w.heap.size, 1, none⟩ = some (.slice none 0 0) := Bz.cell 1
      have z2 : wr.cell? ⟨w.heap.size, 2, none⟩ = some (.int .i64 0) := Bz.cell 2
      have zf0 := Bz.frozen 0
      have zf1 := Bz.frozen 1
      have zf2 := Bz.frozen 2
      have hlt2 := Bd.lt
      have hlt3 := Bz.lt
      go_wp2
      obtain ⟨s1, s2, s3⟩ := set3_box Bz sl_nint D1
      have hKf : Keep NoF w (((wr.setCell ⟨w.heap.size, 0, none⟩ (.int .i64 V)).setCell ⟨w.heap.size, 1, none⟩ (.slice A1 n1 c1)).setCell ⟨w.heap.size, 2, none⟩ (.int .i64 r1)) := Kr.trans s3 fun i hi h => by omega
      generalize (((wr.setCell ⟨w.heap.size, 0, none⟩ (.int .i64 V)).setCell ⟨w.heap.size, 1, none⟩ (.slice A1 n1 c1)).setCell ⟨w.heap.size, 2, none⟩ (.int .i64 r1)) = W6 at *
      have h0 : W6.cell? ⟨w.heap.size, 0, none⟩ = some (.int .i64 V) := s1.cell 0
      have h1 : W6.cell? ⟨w.heap.size, 1, none⟩ = some (.slice A1 n1 c1) := s1.cell 1
      have h2 : W6.cell? ⟨w.heap.size, 2, none⟩ = some (.int .i64 r1) := s1.cell 2
      refine bodyPost_ret (v := .tuple #[.agg #[.int .i64 V, .slice A1 n1 c1, .int .i64 r1], .int .i64 0]) (by simp [results, Tryd.results25, go_sem, h0, h1, h2]) rfl ?_
      exact ⟨A1, n1, c1, r1, rfl, s2.congr HE.out, hKf⟩
/-- What Set answers. -/
def setOE (k : Int) (S : Nat) : Int := if k < 0 ∨ 6 < k then 2 else if beyondB k.toNat S = true then 1 else 0
theorem Set_bad (k : Int) (S : Nat) (hS : S < 18446744073709551616) (h : setOE k S ≠ 0) (w : World) : Calls Tryd.prog 6 #[.int .i64 k, .int .u64 S] w fun e w' => e = .returned (.tuple #[dgZero, .int .i64 (setOE k S)]) ∧ Keep NoF w w' := by
  by_cases hk : k < 0 ∨ 6 < k
  · have he : setOE k S = 2 := if_pos hk
    rw [he]
    clear h he
    rcases hk with hk | hk <;>
    · go_enter Tryd.func6, Tryd.ntmps6
      go_wp2
      refine bodyPost_ret (v := .tuple #[dgZero, .int .i64 2]) (by simp [results, Tryd.results6, go_sem, dgZero]) rfl ?_
      exact ⟨rfl, (Keep.refl _ _).alloc _⟩
  · obtain ⟨n, rfl⟩ : ∃ n : Nat, k = n := ⟨k.toNat, by omega⟩
    have hn : n ≤ 6 := by omega
    have hb : beyondB n S = true := by
      cases hb : beyondB n S with
      | true => rfl
      | false => exact absurd (by unfold setOE; rw [if_neg hk, Int.toNat_natCast, hb]; rfl) h
    have he : setOE n S = 1 := by unfold setOE; rw [if_neg hk, Int.toNat_natCast, hb]; rfl
    rw [he]
    have HB := Lib.hid fun W => beyond_any n S hn hS W
    rw [hb] at HB
    clear h he hb hk
    go_enter Tryd.func6, Tryd.ntmps6
    go_wp2_with (go_at_call 24; (with_reducible refine (HB.out _).mono ?_); rintro e w' ⟨rfl, rfl⟩)
    refine bodyPost_ret (v := .tuple #[dgZero, .int .i64 1]) (by simp [results, Tryd.results6, go_sem, dgZero]) rfl ?_
    exact ⟨rfl, (Keep.refl _ _).alloc _⟩
theorem Set_any (k S : Nat) (hk : k ≤ 6) (hS : S < 18446744073709551616) (h : beyondB k S = false) (w : World) : Calls Tryd.prog 6 #[.int .i64 k, .int .u64 S] w (DP w (2 * k) (setF k S 0)) := by
  have HB := Lib.hid fun W => beyond_any k S hk hS W
  have HSET : Hid (∀ W, Calls Tryd.prog 25 #[.int .i64 k, .int .u64 S, .int .i64 0] W (DP W (2 * k) (setF k S 0))) := Lib.hid fun W => set_any k S 0 hk hS (by omega) W
  rw [h] at HB
  clear h
  generalize setF k S 0 = f at *
  generalize 2 * k = V at *
  go_enter Tryd.func6, Tryd.ntmps6
  go_upto_region 1 with (fail)
  have B0 := Bk.new w 26 #[.int .i64 0, .slice none 0 0, .int .i64 0]
  have K0 : Keep NoF w (w.alloc (.cells #[.int .i64 0, .slice none 0 0, .int .i64 0] 26)) := (Keep.refl _ _).alloc _
  generalize w.alloc (.cells #[.int .i64 0, .slice none 0 0, .int .i64 0] 26) = W0 at *
  go_wp2_with (first
               | (go_at_call 24; (with_reducible refine (HB.out _).mono ?_); rintro e w' ⟨rfl, hw'⟩; obtain rfl := hw'.symm)
               | (go_at_call 25
                  (with_reducible refine (HSET.out W0).mono ?_)
                  rintro e w1 ⟨A1, n1, c1, r1, rfl, D1, K1⟩
                  have B1 := B0.keep K1 fun h => h
                  have hl1 := B1.lt
                  have z0 : w1.cell? ⟨w.heap.size, 0, none⟩ = some (.int .i64 0) := B1.cell 0
                  have z1 : w1.cell? ⟨w.heap.size, 1, none⟩ = some (.slice none 0 0) := B1.cell 1
                  have z2 : w1.cell? ⟨w.heap.size, 2, none⟩ = some (.int .i64 0) := B1.cell 2
                  have zf0 := B1.frozen 0
                  have zf1 := B1.frozen 1
                  have zf2 := B1.frozen 2))
  obtain ⟨s1, s2, s3⟩ := set3_box B1 sl_nint D1
  have hKf : Keep NoF w (((w1.setCell ⟨w.heap.size, 0, none⟩ (.int .i64 V)).setCell ⟨w.heap.size, 1, none⟩ (.slice A1 n1 c1)).setCell ⟨w.heap.size, 2, none⟩ (.int .i64 r1)) := (K0.trans K1 fun _ _ h => h).trans s3 fun i hi h => by omega
  generalize (((w1.setCell ⟨w.heap.size, 0, none⟩ (.int .i64 V)).setCell ⟨w.heap.size, 1, none⟩ (.slice A1 n1 c1)).setCell ⟨w.heap.size, 2, none⟩ (.int .i64 r1)) = W6 at *
  have h0 : W6.cell? ⟨w.heap.size, 0, none⟩ = some (.int .i64 V) := s1.cell 0
  have h1 : W6.cell? ⟨w.heap.size, 1, none⟩ = some (.slice A1 n1 c1) := s1.cell 1
  have h2 : W6.cell? ⟨w.heap.size, 2, none⟩ = some (.int .i64 r1) := s1.cell 2
  refine bodyPost_ret (v := .tuple #[.agg #[.int .i64 V, .slice A1 n1 c1, .int .i64 r1], .int .i64 0]) (by simp [results, Tryd.results6, go_sem, h0, h1, h2]) rfl ?_
  exact ⟨A1, n1, c1, r1, rfl, s2, hKf⟩
end
end Go.Proofs.YtgdmcidcappkpaaDoor
