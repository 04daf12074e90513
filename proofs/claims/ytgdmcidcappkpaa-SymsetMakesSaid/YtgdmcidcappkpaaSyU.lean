/- Single states and sets as diagrams: the reference's point and Set. No condition. -/
import Derived.Test.YtgdmcidcappkpaaSyF
import Derived.Test.YtgdmcidcappkpaaSyR
import Derived.Deep.RegionWith
set_option linter.unusedVariables false
set_option linter.unusedSimpArgs false
namespace Go.Proofs.Ytgdmcidcappkpaa
open Go.RowKit
open Dd (stP stF setP setF evN asgN)

/-- What hands back a diagram alone. -/
def DA (w : World) (V : Nat) (f : BF) (e : Ending) (w' : World) : Prop :=
  ∃ A n c, ∃ r : Nat, e = .returned (.agg #[.int .i64 V, .slice A n c, .int .i64 r]) ∧ IsD w' V f A n c r ∧ Keep NoF w w'
section
set_option maxRecDepth 100000
set_option maxHeartbeats 4000000
theorem point_any (k v : Nat) (hk : k ≤ 6) (hv : v < 2 ^ k) (V : Nat) (hV : V = 2 * k) (w : World) : Calls Try.prog 33 #[.int .i64 V, .int .u64 (evN V), .int .u64 (asgN k v 0)] w (DA w V (stF k v 0)) := by
  have HE := Lib.hid fun ρ => Dd.stP_end (s := 0) hv ρ
  have HST := Lib.hid fun j => Dd.stP_succ v 0 j
  have HEB := Lib.hid fun i => Dd.evN_bit V i
  have HAB : Hid (∀ j, j < k → (asgN k v 0).testBit (2 * j) = v.testBit j) := Lib.hid fun j hj => Dd.asgN_even hj
  have hel : evN V < 16777216 := Nat.lt_of_lt_of_le (Dd.enc_lt V _) (Nat.pow_le_pow_right (n := 2) (by omega) (by omega : V ≤ 24))
  have hal := asgN_small (k := k) (v := v) (w := 0) (by omega)
  generalize evN V = ev at *
  generalize asgN k v 0 = av at *
  have HV := Lib.hid hV
  have hV12 : V ≤ 12 := by omega
  have HC := Lib.hid fun W => rd_const V (by omega) true W
  clear hV hv
  go_enter Try.func33, Try.ntmps33
  go_upto_region 1 with (fail)
  have B0 := Bk.new w 27 #[.int .i64 0, .slice none 0 0, .int .i64 0]
  have K0 : Keep NoF w (w.alloc (.cells #[.int .i64 0, .slice none 0 0, .int .i64 0] 27)) := (Keep.refl _ _).alloc _
  generalize w.alloc (.cells #[.int .i64 0, .slice none 0 0, .int .i64 0] 27) = W0 at *
  go_upto_region 2 with (go_at_call 31
                         (with_reducible refine (HC.out W0).mono ?_)
                         rintro e w1 ⟨A1, n1, c1, r1, rfl, D1, K1⟩)
  have Bd := Bk.new w1 27 #[.int .i64 V, .slice A1 n1 c1, .int .i64 r1]
  have Bz := (B0.keep K1 fun h => h).alloc (.cells #[.int .i64 V, .slice A1 n1 c1, .int .i64 r1] 27)
  have Kd : Keep NoF w (w1.alloc (.cells #[.int .i64 V, .slice A1 n1 c1, .int .i64 r1] 27)) := (K0.trans K1 fun _ _ h => h).alloc _
  have Qd := D1.keep ((Keep.refl NoF w1).alloc (.cells #[.int .i64 V, .slice A1 n1 c1, .int .i64 r1] 27))
  have hsz : w.heap.size < w1.heap.size := Nat.lt_of_lt_of_le B0.lt K1.size
  generalize w1.alloc (.cells #[.int .i64 V, .slice A1 n1 c1, .int .i64 r1] 27) = W1 at *
  generalize w1.heap.size = bd at *
  clear D1 K1 B0 K0 HC
  go_wp2
  go_loopw [9] (fun iv wr => ∃ (i : Nat) (A : Option Addr) (n c r : Nat), iv = .int .i64 i ∧ i ≤ V ∧ Bk wr bd 27 #[.int .i64 V, .slice A n c, .int .i64 r] ∧ IsD wr V (stP v 0 ((i + 1) / 2)) A n c r ∧ Bk wr w.heap.size 27 #[.int .i64 0, .slice none 0 0, .int .i64 0] ∧ Keep NoF w wr) (fun iv _ => V - (intOf iv).toNat)
  case atStart => exact ⟨0, _, _, _, _, rfl, by omega, Bd, Qd, Bz, Kd⟩
  case round =>
    clear Bd Qd Bz Kd
    obtain ⟨i, A1, n1, c1, r1, rfl, hi, Bd, D1, Bz, Kr⟩ := hrel
    by_cases hlt : i < V
    · have hb0 := bit_u0 ev i (by omega)
      have heb := HEB.out i
      rw [decide_eq_true hlt, Bool.true_and] at heb
      by_cases hev : i % 2 = 0
      · rw [decide_eq_true hev] at heb
        rw [heb] at hb0
        obtain ⟨j, rfl⟩ : ∃ j, i = 2 * j := ⟨i / 2, by omega⟩
        have hjk : j < k := by have := HV.out; omega
        have hvar := rd_var V (2 * j) (by omega) hlt
        rw [show ((2 * j : Nat) : Int) = 2 * (j : Int) by omega] at hvar
        have HVAR := Lib.hid hvar
        have HSJ := Lib.hid (HST.out j)
        have hb1 := bit_u0 av (2 * j) (by omega)
        rw [HAB.out j hjk] at hb1
        rw [show (2 * j + 1) / 2 = j by omega] at D1
        clear hvar heb hev
        have D1 := D1
        go_upto_region 7 with (go_at_call 70
                               (with_reducible refine (HVAR.out wr).mono ?_)
                               rintro e w2 ⟨A2, n2, c2, r2, rfl, D2, K2⟩
                               have Bdn := Bd.keep K2 fun h => h
                               have Ldn := Bdn.lt
                               have Bresn := Bz.keep K2 fun h => h
                               have Lresn := Bresn.lt)
        have Bd_1 := Bdn.alloc (.cells #[.int .i64 V, .slice A2 n2 c2, .int .i64 r2] 27)
        have Qd_1 := (D1.keep K2).keep ((Keep.refl NoF w2).alloc (.cells #[.int .i64 V, .slice A2 n2 c2, .int .i64 r2] 27))
        have Bres_1 := Bresn.alloc (.cells #[.int .i64 V, .slice A2 n2 c2, .int .i64 r2] 27)
        have Bx_1 := Bk.new w2 27 #[.int .i64 V, .slice A2 n2 c2, .int .i64 r2]
        have Qx_1 := D2.keep ((Keep.refl NoF w2).alloc (.cells #[.int .i64 V, .slice A2 n2 c2, .int .i64 r2] 27))
        have Kw_1 : Keep NoF w (w2.alloc (.cells #[.int .i64 V, .slice A2 n2 c2, .int .i64 r2] 27)) := (Kr.trans K2 fun _ _ h => h).alloc _
        have Gx_1 : w.heap.size ≤ w2.heap.size := (Kr.trans K2 fun _ _ h => h).size
        generalize w2.alloc (.cells #[.int .i64 V, .slice A2 n2 c2, .int .i64 r2] 27) = W1 at *
        clear Bd Bz D1 Bdn Bresn Kr D2 K2
        cases hb : v.testBit j with
        | true =>
          rw [hb] at hb1
          simp only [hb, if_true, Nat.add_zero] at HSJ
          have HA := Lib.hid (rd_and hV12 Qd_1 Qx_1)
          have cd0 : W1.cell? ⟨bd, 0, none⟩ = some (.int .i64 V) := Bd_1.cell 0
          have cd1 : W1.cell? ⟨bd, 1, none⟩ = some (.slice A1 n1 c1) := Bd_1.cell 1
          have cd2 : W1.cell? ⟨bd, 2, none⟩ = some (.int .i64 r1) := Bd_1.cell 2
          have cx0 : W1.cell? ⟨w2.heap.size, 0, none⟩ = some (.int .i64 V) := Bx_1.cell 0
          have cx1 : W1.cell? ⟨w2.heap.size, 1, none⟩ = some (.slice A2 n2 c2) := Bx_1.cell 1
          have cx2 : W1.cell? ⟨w2.heap.size, 2, none⟩ = some (.int .i64 r2) := Bx_1.cell 2
          go_wp2_with (go_at_call 42
                       (with_reducible refine (HA.out).mono ?_)
                       rintro e w4 ⟨A4, n4, c4, r4, rfl, D4, K4⟩
                       have Bdn := Bd_1.keep K4 fun h => h
                       have Ldn := Bdn.lt
                       have Bresn := Bres_1.keep K4 fun h => h
                       have Lresn := Bresn.lt
                       have Bxn := Bx_1.keep K4 fun h => h
                       have Lxn := Bxn.lt
                       have y0 : w4.cell? ⟨bd, 0, none⟩ = some (.int .i64 V) := Bdn.cell 0
                       have y1 : w4.cell? ⟨bd, 1, none⟩ = some (.slice A1 n1 c1) := Bdn.cell 1
                       have y2 : w4.cell? ⟨bd, 2, none⟩ = some (.int .i64 r1) := Bdn.cell 2
                       have yf0 := Bdn.frozen 0
                       have yf1 := Bdn.frozen 1
                       have yf2 := Bdn.frozen 2)
          clear cd0 cd1 cd2 cx0 cx1 cx2
          go_roundw
          case rel =>
            obtain ⟨s1, s2, S3⟩ := set3_box Bdn sl_nint D4
            exact ⟨2 * j + 1, A4, n4, c4, r4, by go_num, by omega, s1, s2.congr fun ρ => by rw [show (2 * j + 1 + 1) / 2 = j + 1 by omega]; exact (HSJ.out ρ).symm, Bresn.keep S3 fun h => by omega, (Kw_1.trans K4 fun _ _ h => h).trans S3 fun i hi h => by omega⟩
          case measure => simp only [intOf]; omega
        | false =>
          rw [hb] at hb1
          simp only [hb, Bool.false_eq_true, if_false, Nat.add_zero] at HSJ
          have HN := Lib.hid (rd_not hV12 Qx_1)
          have cx0 : W1.cell? ⟨w2.heap.size, 0, none⟩ = some (.int .i64 V) := Bx_1.cell 0
          have cx1 : W1.cell? ⟨w2.heap.size, 1, none⟩ = some (.slice A2 n2 c2) := Bx_1.cell 1
          have cx2 : W1.cell? ⟨w2.heap.size, 2, none⟩ = some (.int .i64 r2) := Bx_1.cell 2
          go_upto_region 9 with (go_at_call 71
                                 (with_reducible refine (HN.out).mono ?_)
                                 rintro e w3 ⟨A3, n3, c3, r3, rfl, D3, K3⟩
                                 have Bdn := Bd_1.keep K3 fun h => h
                                 have Ldn := Bdn.lt
                                 have Bresn := Bres_1.keep K3 fun h => h
                                 have Lresn := Bresn.lt
                                 have Bxn := Bx_1.keep K3 fun h => h
                                 have Lxn := Bxn.lt
                                 have y0 : w3.cell? ⟨w2.heap.size, 0, none⟩ = some (.int .i64 V) := Bxn.cell 0
                                 have y1 : w3.cell? ⟨w2.heap.size, 1, none⟩ = some (.slice A2 n2 c2) := Bxn.cell 1
                                 have y2 : w3.cell? ⟨w2.heap.size, 2, none⟩ = some (.int .i64 r2) := Bxn.cell 2
                                 have yf0 := Bxn.frozen 0
                                 have yf1 := Bxn.frozen 1
                                 have yf2 := Bxn.frozen 2)
          clear cx0 cx1 cx2
          obtain ⟨Bx_2, Qx_2, S3⟩ := set3_box Bxn sl_nint D3
          have Bd_2 := Bdn.keep S3 fun h => by omega
          have Qd_2 := (Qd_1.keep K3).far_box Bxn sl_nint S3
          have Bres_2 := Bresn.keep S3 fun h => by omega
          have Kw_2 : Keep NoF w (((w3.setCell ⟨w2.heap.size, 0, none⟩ (.int .i64 V)).setCell ⟨w2.heap.size, 1, none⟩ (.slice A3 n3 c3)).setCell ⟨w2.heap.size, 2, none⟩ (.int .i64 r3)) := (Kw_1.trans K3 fun _ _ h => h).trans S3 fun i hi h => by omega
          generalize (((w3.setCell ⟨w2.heap.size, 0, none⟩ (.int .i64 V)).setCell ⟨w2.heap.size, 1, none⟩ (.slice A3 n3 c3)).setCell ⟨w2.heap.size, 2, none⟩ (.int .i64 r3)) = W2 at *
          clear Bd_1 Bres_1 Bx_1 Qd_1 Qx_1 Bdn Bresn Bxn Kw_1 D3 K3 S3 y0 y1 y2 yf0 yf1 yf2
          have HA := Lib.hid (rd_and hV12 Qd_2 Qx_2)
          have cd0 : W2.cell? ⟨bd, 0, none⟩ = some (.int .i64 V) := Bd_2.cell 0
          have cd1 : W2.cell? ⟨bd, 1, none⟩ = some (.slice A1 n1 c1) := Bd_2.cell 1
          have cd2 : W2.cell? ⟨bd, 2, none⟩ = some (.int .i64 r1) := Bd_2.cell 2
          have cx0 : W2.cell? ⟨w2.heap.size, 0, none⟩ = some (.int .i64 V) := Bx_2.cell 0
          have cx1 : W2.cell? ⟨w2.heap.size, 1, none⟩ = some (.slice A3 n3 c3) := Bx_2.cell 1
          have cx2 : W2.cell? ⟨w2.heap.size, 2, none⟩ = some (.int .i64 r3) := Bx_2.cell 2
          go_wp2_with (go_at_call 42
                       (with_reducible refine (HA.out).mono ?_)
                       rintro e w4 ⟨A4, n4, c4, r4, rfl, D4, K4⟩
                       have Bdn := Bd_2.keep K4 fun h => h
                       have Ldn := Bdn.lt
                       have Bresn := Bres_2.keep K4 fun h => h
                       have Lresn := Bresn.lt
                       have Bxn := Bx_2.keep K4 fun h => h
                       have Lxn := Bxn.lt
                       have y0 : w4.cell? ⟨bd, 0, none⟩ = some (.int .i64 V) := Bdn.cell 0
                       have y1 : w4.cell? ⟨bd, 1, none⟩ = some (.slice A1 n1 c1) := Bdn.cell 1
                       have y2 : w4.cell? ⟨bd, 2, none⟩ = some (.int .i64 r1) := Bdn.cell 2
                       have yf0 := Bdn.frozen 0
                       have yf1 := Bdn.frozen 1
                       have yf2 := Bdn.frozen 2)
          clear cd0 cd1 cd2 cx0 cx1 cx2
          go_roundw
          case rel =>
            obtain ⟨s1, s2, S3⟩ := set3_box Bdn sl_nint D4
            exact ⟨2 * j + 1, A4, n4, c4, r4, by go_num, by omega, s1, s2.congr fun ρ => by rw [show (2 * j + 1 + 1) / 2 = j + 1 by omega]; exact (HSJ.out ρ).symm, Bresn.keep S3 fun h => by omega, (Kw_2.trans K4 fun _ _ h => h).trans S3 fun i hi h => by omega⟩
          case measure => simp only [intOf]; omega
      · rw [decide_eq_false hev] at heb
        rw [heb] at hb0
        rw [show (i + 1) / 2 = (i + 1 + 1) / 2 by omega] at D1
        clear heb
        go_wp2
        go_roundw
        case rel => exact ⟨i + 1, A1, n1, c1, r1, by go_num, by omega, Bd, D1, Bz, Kr⟩
        case measure => simp only [intOf]; omega
    · obtain rfl : i = V := by omega
      rw [show (i + 1) / 2 = k by have := HV.out; omega] at D1
      have d0 : wr.cell? ⟨bd, 0, none⟩ = some (.int .i64 i) := Bd.cell 0
      have d1 : wr.cell? ⟨bd, 1, none⟩ = some (.slice A1 n1 c1) := Bd.cell 1
      have d2 : wr.cell? ⟨bd, 2, none⟩ = some (.int .i64 r1) := Bd.cell 2
      have z0 : wr.cell? ⟨w.heap.size, 0, none⟩ = some (.int .i64 0) := Bz.cell 0
      have z1 : wr.cell? ⟨w.heap.size, 1, none⟩ = some (.slice none 0 0) := Bz.cell 1
      have z2 : wr.cell? ⟨w.heap.size, 2, none⟩ = some (.int .i64 0) := Bz.cell 2
      have zf0 := Bz.frozen 0
      have zf1 := Bz.frozen 1
      have zf2 := Bz.frozen 2
      have hlt2 := Bd.lt
      have hlt3 := Bz.lt
      go_wp2
      obtain ⟨s1, s2, s3⟩ := set3_box Bz sl_nint D1
      have hKf : Keep NoF w (((wr.setCell ⟨w.heap.size, 0, none⟩ (.int .i64 i)).setCell ⟨w.heap.size, 1, none⟩ (.slice A1 n1 c1)).setCell ⟨w.heap.size, 2, none⟩ (.int .i64 r1)) := Kr.trans s3 fun i hi h => by omega
      generalize (((wr.setCell ⟨w.heap.size, 0, none⟩ (.int .i64 i)).setCell ⟨w.heap.size, 1, none⟩ (.slice A1 n1 c1)).setCell ⟨w.heap.size, 2, none⟩ (.int .i64 r1)) = W6 at *
      have h0 : W6.cell? ⟨w.heap.size, 0, none⟩ = some (.int .i64 i) := s1.cell 0
      have h1 : W6.cell? ⟨w.heap.size, 1, none⟩ = some (.slice A1 n1 c1) := s1.cell 1
      have h2 : W6.cell? ⟨w.heap.size, 2, none⟩ = some (.int .i64 r1) := s1.cell 2
      refine bodyPost_ret (v := .agg #[.int .i64 i, .slice A1 n1 c1, .int .i64 r1]) (by simp [results, Try.results33, go_sem, h0, h1, h2]) rfl ?_
      exact ⟨A1, n1, c1, r1, rfl, s2.congr HE.out, hKf⟩
theorem wrap_nat (V : Nat) (h : V ≤ 12) : IntKind.i64.wrap (V : Int) = V := by
  simp [IntKind.wrap, IntKind.bits, IntKind.signed]; omega
theorem bit_u1 (S j : Nat) (hS : S < 18446744073709551616) : (bits BinOp.and IntKind.u64 ((S : Int) / 2 ^ j) 1 == 1) = S.testBit j := by
  rw [bit_u64 S j hS]
  cases S.testBit j <;> rfl
theorem beyond_shift {k S : Nat} (hk : k ≤ 6) (hS : S < 18446744073709551616) (h : beyondB k S = false) : ((S : Int) / 2 ^ min (IntKind.u64.wrap ((2 : Int) ^ k)).toNat 64 != 0) = false := by
  unfold beyondB at h
  have hk2 : k = 0 ∨ k = 1 ∨ k = 2 ∨ k = 3 ∨ k = 4 ∨ k = 5 ∨ k = 6 := by omega
  rcases hk2 with rfl | rfl | rfl | rfl | rfl | rfl | rfl <;> simp at h <;> simp [IntKind.wrap, IntKind.bits, IntKind.signed] <;> omega
theorem rSet_any (k S : Nat) (hk : k ≤ 6) (hS : S < 18446744073709551616) (hbe : beyondB k S = false) (w : World) : Calls Try.prog 8 #[.int .i64 k, .int .u64 S] w (DP w (2 * k) (setF k S 0)) := by
  obtain ⟨hp, hm64⟩ := pow_k hk
  have HE := Lib.hid fun ρ => Dd.setP_end k S 0 ρ
  have HST := Lib.hid fun j => Dd.setP_succ k S 0 j
  have hbt := beyond_shift hk hS hbe
  obtain ⟨V, hV⟩ : ∃ V, V = 2 * k := ⟨_, rfl⟩
  have HPT := Lib.hid fun j (hj : j < 2 ^ k) W => point_any k j hk hj V hV W
  have HEV := Lib.hid fun W => reven_any V (by omega) W
  have HAS : Hid (∀ (j : Nat) W, j < 64 → Calls Try.prog 35 #[.int .i64 k, .int .i64 j, .int .i64 0] W fun e w' => e = .returned (.int .u64 (asgN k j 0)) ∧ w' = W) := Lib.hid fun j W hj => rasg_any k j 0 hk hj (by omega) W
  rw [← hV]
  have hVk : (2 : Int) * (k : Int) = (V : Int) := by omega
  have HV := Lib.hid hV
  have hV12 : V ≤ 12 := by omega
  clear hV hbe
  generalize evN V = ev at *
  generalize hm : 2 ^ k = m at *
  have HP := Lib.hid hp
  clear hp
  have HC := Lib.hid fun W => rd_const V (by omega) false W
  go_enter Try.func8, Try.ntmps8
  go_upto_region 1 with (fail)
  have B0 := Bk.new w 27 #[.int .i64 0, .slice none 0 0, .int .i64 0]
  have K0 : Keep NoF w (w.alloc (.cells #[.int .i64 0, .slice none 0 0, .int .i64 0] 27)) := (Keep.refl _ _).alloc _
  generalize w.alloc (.cells #[.int .i64 0, .slice none 0 0, .int .i64 0] 27) = W0 at *
  go_upto_region 6 with (go_at_call 31
                         (with_reducible refine (HC.out W0).mono ?_)
                         rintro e w1 ⟨A1, n1, c1, r1, rfl, D1, K1⟩)
  all_goals
    have Bd := Bk.new w1 27 #[.int .i64 V, .slice A1 n1 c1, .int .i64 r1]
    have Bz := (B0.keep K1 fun h => h).alloc (.cells #[.int .i64 V, .slice A1 n1 c1, .int .i64 r1] 27)
    have Kd : Keep NoF w (w1.alloc (.cells #[.int .i64 V, .slice A1 n1 c1, .int .i64 r1] 27)) := (K0.trans K1 fun _ _ h => h).alloc _
    have Qd := D1.keep ((Keep.refl NoF w1).alloc (.cells #[.int .i64 V, .slice A1 n1 c1, .int .i64 r1] 27))
    have hsz : w.heap.size < w1.heap.size := Nat.lt_of_lt_of_le B0.lt K1.size
    generalize w1.alloc (.cells #[.int .i64 V, .slice A1 n1 c1, .int .i64 r1] 27) = W1 at *
    generalize w1.heap.size = bd at *
    clear D1 K1 B0 K0 HC hbt
    go_wp2
    go_loopw [8] (fun iv wr => ∃ (j : Nat) (A : Option Addr) (n c r : Nat), iv = .int .i64 j ∧ j ≤ m ∧ Bk wr bd 27 #[.int .i64 V, .slice A n c, .int .i64 r] ∧ IsD wr V (setP k S 0 j) A n c r ∧ Bk wr w.heap.size 27 #[.int .i64 0, .slice none 0 0, .int .i64 0] ∧ Keep NoF w wr) (fun iv _ => m - (intOf iv).toNat)
    case atStart => exact ⟨0, _, _, _, _, rfl, by omega, Bd, Qd, Bz, Kd⟩
    case round =>
      clear Bd Qd Bz Kd
      obtain ⟨j, A1, n1, c1, r1, rfl, hj, Bd, D1, Bz, Kr⟩ := hrel
      by_cases hlt : j < m
      · have hlt2 : (j : Int) < wrap64 ((2 : Int) ^ k) := by rw [HP.out]; omega
        have hb0 := bit_u1 S j hS
        have HSJ := Lib.hid (HST.out j)
        cases hb : S.testBit j with
        | false =>
          rw [hb] at hb0
          simp only [hb, Bool.false_and, Bool.or_false] at HSJ
          go_wp2
          go_roundw
          case rel => exact ⟨j + 1, A1, n1, c1, r1, by go_num, by omega, Bd, D1.congr fun ρ => (HSJ.out ρ).symm, Bz, Kr⟩
          case measure => simp only [intOf]; omega
        | true =>
          rw [hb] at hb0
          simp only [hb, Bool.true_and] at HSJ
          have HX := Lib.hid (HPT.out j hlt)
          have HA := Lib.hid fun W => HAS.out j W (by omega)
          have hvw : IntKind.i64.wrap (V : Int) = V := wrap_nat V hV12
          have HEVw : Hid (∀ W, Calls Try.prog 34 #[.int .i64 (IntKind.i64.wrap (V : Int))] W fun e w' => e = .returned (.int .u64 ev) ∧ w' = W) := Lib.hid (by rw [hvw]; exact HEV.out)
          have HXw : Hid (∀ W, Calls Try.prog 33 #[.int .i64 (IntKind.i64.wrap (V : Int)), .int .u64 ev, .int .u64 (asgN k j 0)] W (DA W V (stF k j 0))) := Lib.hid (by rw [hvw]; exact HX.out)
          clear hvw
          go_upto_region 10 with (fail)
          have l0 : wr.cell? ⟨bd, 0, none⟩ = some (.int .i64 V) := Bd.cell 0
          have l1 : wr.cell? ⟨bd, 1, none⟩ = some (.slice A1 n1 c1) := Bd.cell 1
          have l2 : wr.cell? ⟨bd, 2, none⟩ = some (.int .i64 r1) := Bd.cell 2
          have e0 : wr.drew.cell? ⟨bd, 0, none⟩ = some (.int .i64 V) := Bd.cell 0
          have e1 : wr.drew.cell? ⟨bd, 1, none⟩ = some (.slice A1 n1 c1) := Bd.cell 1
          have e2 : wr.drew.cell? ⟨bd, 2, none⟩ = some (.int .i64 r1) := Bd.cell 2
          go_region_with (first
            | (go_at_call 34; (first | (with_reducible refine (HEV.out _).mono ?_) | (with_reducible refine (HEVw.out _).mono ?_)); rintro e w' ⟨rfl, hw'⟩; obtain rfl := hw'.symm)
            | (go_at_call 35; (with_reducible refine (HA.out _).mono ?_); rintro e w' ⟨rfl, hw'⟩; obtain rfl := hw'.symm)
            | (go_at_call 33
               (first | (with_reducible refine (HX.out _).mono ?_) | (with_reducible refine (HXw.out _).mono ?_))
               rintro e w4 ⟨A4, n4, c4, r4, rfl, D4, K4'⟩
               have K4 : Keep NoF wr w4 := (Keep.refl NoF wr).drew.trans K4' fun _ _ h => h
               have B4 := Bd.keep K4 fun h => h
               have Z4 := Bz.keep K4 fun h => h
               have f0 : w4.cell? ⟨bd, 0, none⟩ = some (.int .i64 V) := B4.cell 0
               have f1 : w4.cell? ⟨bd, 1, none⟩ = some (.slice A1 n1 c1) := B4.cell 1
               have f2 : w4.cell? ⟨bd, 2, none⟩ = some (.int .i64 r1) := B4.cell 2
               have HO := Lib.hid (rd_or hV12 (D1.keep K4) D4))
            | (go_at_call 32
               (with_reducible refine HO.out.mono ?_)
               rintro e w5 ⟨A5, n5, c5, r5, rfl, D5, K5⟩
               have B5 := B4.keep K5 fun h => h
               have Z5 := Z4.keep K5 fun h => h
               have hl5 := B5.lt
               have y0 : w5.cell? ⟨bd, 0, none⟩ = some (.int .i64 V) := B5.cell 0
               have y1 : w5.cell? ⟨bd, 1, none⟩ = some (.slice A1 n1 c1) := B5.cell 1
               have y2 : w5.cell? ⟨bd, 2, none⟩ = some (.int .i64 r1) := B5.cell 2
               have yf0 := B5.frozen 0
               have yf1 := B5.frozen 1
               have yf2 := B5.frozen 2))
          all_goals
            go_wp2
            go_roundw
            case rel =>
              obtain ⟨s1, s2, S3⟩ := set3_box B5 sl_nint D5
              exact ⟨j + 1, A5, n5, c5, r5, by go_num, by omega, s1, s2.congr fun ρ => (HSJ.out ρ).symm, Z5.keep S3 fun h => by omega, ((Kr.trans K4 fun _ _ h => h).trans K5 fun _ _ h => h).trans S3 fun i hi h => by omega⟩
            case measure => simp only [intOf]; omega
      · have hlt2 : ¬ (j : Int) < wrap64 ((2 : Int) ^ k) := by rw [HP.out]; omega
        obtain rfl : j = m := by omega
        have l0 : wr.cell? ⟨bd, 0, none⟩ = some (.int .i64 V) := Bd.cell 0
        have l1 : wr.cell? ⟨bd, 1, none⟩ = some (.slice A1 n1 c1) := Bd.cell 1
        have l2 : wr.cell? ⟨bd, 2, none⟩ = some (.int .i64 r1) := Bd.cell 2
        have z0 : wr.cell? ⟨w.heap.size, 0, none⟩ = some (.int .i64 0) := Bz.cell 0
        have z1 : wr.cell? ⟨w.heap.size, 1, none⟩ = some (.slice none 0 0) := Bz.cell 1
        have z2 : wr.cell? ⟨w.heap.size, 2, none⟩ = some (.int .i64 0) := Bz.cell 2
        have zf0 := Bz.frozen 0
        have zf1 := Bz.frozen 1
        have zf2 := Bz.frozen 2
        have hlt2 := Bd.lt
        have hlt3 := Bz.lt
        go_wp2
        obtain ⟨s1, s2, s3⟩ := set3_box Bz sl_nint D1
        have hKf : Keep NoF w (((wr.setCell ⟨w.heap.size, 0, none⟩ (.int .i64 V)).setCell ⟨w.heap.size, 1, none⟩ (.slice A1 n1 c1)).setCell ⟨w.heap.size, 2, none⟩ (.int .i64 r1)) := Kr.trans s3 fun i hi h => by omega
        generalize (((wr.setCell ⟨w.heap.size, 0, none⟩ (.int .i64 V)).setCell ⟨w.heap.size, 1, none⟩ (.slice A1 n1 c1)).setCell ⟨w.heap.size, 2, none⟩ (.int .i64 r1)) = W6 at *
        have h0 : W6.cell? ⟨w.heap.size, 0, none⟩ = some (.int .i64 V) := s1.cell 0
        have h1 : W6.cell? ⟨w.heap.size, 1, none⟩ = some (.slice A1 n1 c1) := s1.cell 1
        have h2 : W6.cell? ⟨w.heap.size, 2, none⟩ = some (.int .i64 r1) := s1.cell 2
        refine bodyPost_ret (v := .tuple #[.agg #[.int .i64 V, .slice A1 n1 c1, .int .i64 r1], .int .i64 0]) (by simp [results, Try.results8, go_sem, h0, h1, h2]) rfl ?_
        exact ⟨A1, n1, c1, r1, rfl, s2.congr HE.out, hKf⟩
end
end Go.Proofs.Ytgdmcidcappkpaa
