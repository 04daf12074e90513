/- The reference's Relation. No condition. -/
import Derived.Test.YtgdmcidcappkpaaSyV
import Derived.Test.YtgdmcidcappkpaaSyY
import Derived.Test.YtgdmcidcappkpaaSyO
set_option linter.unusedVariables false
set_option linter.unusedSimpArgs false
namespace Go.Proofs.Ytgdmcidcappkpaa
open Go.RowKit
open Dd (stF setF relP relF evN asgN)

section
set_option maxRecDepth 100000
set_option maxHeartbeats 8000000
theorem rRelation_any (k : Nat) (hk : k ≤ 6) (l : List Nat) (hlen : l.length = 2 ^ k) (hl : ∀ x ∈ l, x < 18446744073709551616) (hb : l.any (beyondB k) = false) (A : Option Addr) (c : Nat) (w : World) (hrd : Rd w (.slice A l.length c) 1 l.length (n64 l)) :
    Calls Try.prog 10 #[.int .i64 k, .slice A l.length c] w (DP w (2 * k) (relF k l)) := by
  obtain ⟨hp, hm64⟩ := pow_k hk
  obtain ⟨V, hV⟩ : ∃ V, V = 2 * k := ⟨_, rfl⟩
  have HE := Lib.hid fun ρ => Dd.relP_end k l ρ
  have HST := Lib.hid fun j => Dd.relP_succ k l j
  have HPT : Hid (∀ (j : Nat) W, j < l.length → Calls Try.prog 33 #[.int .i64 V, .int .u64 (evN V), .int .u64 (asgN k j 0)] W (DA W V (stF k j 0))) := Lib.hid fun j W hj => point_any k j hk (by rw [← hlen]; exact hj) V hV W
  have HSET : Hid (∀ (S : Nat) W, S < 18446744073709551616 → beyondB k S = false → Calls Try.prog 8 #[.int .i64 k, .int .u64 S] W (DP W V (setF k S 0))) := Lib.hid fun S W hS hbS => by rw [hV]; exact rSet_any k S hk hS hbS W
  have HSH : Hid (∀ (S : Nat) W A n c r, IsD W V (setF k S 0) A n c r → Calls Try.prog 43 #[.agg #[.int .i64 V, .slice A n c, .int .i64 r], .int .i64 1] W (DA W V (setF k S 1))) := Lib.hid fun S W A n c r D => (rshift_up (by omega) (setF_noOdd k S) D).mono fun e w' ⟨A, n, c, r, h1, h2, h3⟩ => ⟨A, n, c, r, h1, h2.congr fun ρ => by rw [hV]; exact Dd.upF_set ρ, h3⟩
  have HEV := Lib.hid fun W => reven_any V (by omega) W
  have HAS : Hid (∀ (j : Nat) W, j < 64 → Calls Try.prog 35 #[.int .i64 k, .int .i64 j, .int .i64 0] W fun e w' => e = .returned (.int .u64 (asgN k j 0)) ∧ w' = W) := Lib.hid fun j W hj => rasg_any k j 0 hk hj (by omega) W
  have HBE := Lib.hid fun S (hS : S < 18446744073709551616) => beyond_eq hk hS
  have HL := Lib.hid hl
  have HNB : Hid (∀ S ∈ l, beyondB k S = false) := Lib.hid fun S hS => by
    rw [List.any_eq_false] at hb
    simpa using hb S hS
  have HRD := Lib.hid fun (W : World) (hK : Keep NoF w W) => hrd.kept hK fun _ _ h => h
  have hne : ((l.length : Int) != wrap64 ((2 : Int) ^ k)) = false := by rw [hp, hlen]; simp
  rw [← hlen] at hm64 HE
  rw [← hV]
  have hVk : (2 : Int) * (k : Int) = (V : Int) := by omega
  have hV12 : V ≤ 12 := by omega
  have HC := Lib.hid fun W => rd_const V (by omega) false W
  have hvw : IntKind.i64.wrap (V : Int) = V := wrap_nat V hV12
  generalize evN V = ev at *
  have HEVw : Hid (∀ W, Calls Try.prog 34 #[.int .i64 (IntKind.i64.wrap (V : Int))] W fun e w' => e = .returned (.int .u64 ev) ∧ w' = W) := Lib.hid (by rw [hvw]; exact HEV.out)
  have HPTw : Hid (∀ (j : Nat) W, j < l.length → Calls Try.prog 33 #[.int .i64 (IntKind.i64.wrap (V : Int)), .int .u64 ev, .int .u64 (asgN k j 0)] W (DA W V (stF k j 0))) := Lib.hid (by rw [hvw]; exact HPT.out)
  clear hV hl hrd hb hp hvw hlen
  go_enter Try.func10, Try.ntmps10
  go_upto_region 1 with (fail)
  have B0 := Bk.new w 27 #[.int .i64 0, .slice none 0 0, .int .i64 0]
  have K0 : Keep NoF w (w.alloc (.cells #[.int .i64 0, .slice none 0 0, .int .i64 0] 27)) := (Keep.refl _ _).alloc _
  generalize w.alloc (.cells #[.int .i64 0, .slice none 0 0, .int .i64 0] 27) = W0 at *
  go_wp2
  go_loopw [6] (fun i wr => ∃ j : Nat, i = .int .i64 j ∧ j ≤ l.length ∧ Bk wr w.heap.size 27 #[.int .i64 0, .slice none 0 0, .int .i64 0] ∧ Keep NoF w wr) (fun i _ => l.length - (intOf i).toNat)
  case atStart => exact ⟨0, rfl, by omega, B0, K0⟩
  case round =>
    clear B0 K0
    obtain ⟨j, rfl, hj, B0, K0⟩ := hrel
    by_cases hlt : j < l.length
    · have hx : l[j]? = some l[j] := List.getElem?_eq_getElem hlt
      obtain ⟨_, hcc, bl, off, rfl, hcell⟩ := (HRD.out wr K0).at_ (by omega)
      have hc1 := hcell j (.int .u64 (l[j] : Nat)) (by rw [List.getElem?_map, hx]; rfl)
      have hbt := HBE.out _ (HL.out _ (List.getElem_mem hlt))
      rw [HNB.out _ (List.getElem_mem hlt)] at hbt
      clear hcell hx
      generalize l[j] = x at *
      go_wp2
      all_goals
        go_roundw
        case rel => exact ⟨j + 1, by go_num, by omega, B0, K0⟩
        case measure => simp only [intOf]; omega
    · obtain rfl : j = l.length := by omega
      go_upto_region 11 with (go_at_call 31
                              (with_reducible refine (HC.out wr).mono ?_)
                              rintro e w1 ⟨A1, n1, c1, r1, rfl, D1, K1⟩
                              have Bresn := B0.keep K1 fun h => h
                              have Lresn := Bresn.lt)
      have Bres_1 := Bresn.alloc (.cells #[.int .i64 V, .slice A1 n1 c1, .int .i64 r1] 27)
      have Bd_1 := Bk.new w1 27 #[.int .i64 V, .slice A1 n1 c1, .int .i64 r1]
      have Qd_1 := D1.keep ((Keep.refl NoF w1).alloc (.cells #[.int .i64 V, .slice A1 n1 c1, .int .i64 r1] 27))
      have Kw_1 : Keep NoF w (w1.alloc (.cells #[.int .i64 V, .slice A1 n1 c1, .int .i64 r1] 27)) := (K0.trans K1 fun _ _ h => h).alloc _
      have Gd_1 : w.heap.size ≤ w1.heap.size := (K0.trans K1 fun _ _ h => h).size
      generalize w1.alloc (.cells #[.int .i64 V, .slice A1 n1 c1, .int .i64 r1] 27) = W1 at *
      clear B0 Bresn K0 D1 K1
      generalize w1.heap.size = bd at *
      go_wp2
      go_loopw [9] (fun i wr => ∃ (j : Nat) (A : Option Addr) (n c r : Nat), i = .int .i64 j ∧ j ≤ l.length ∧ Bk wr bd 27 #[.int .i64 V, .slice A n c, .int .i64 r] ∧ IsD wr V (relP k l j) A n c r ∧ Bk wr w.heap.size 27 #[.int .i64 0, .slice none 0 0, .int .i64 0] ∧ Keep NoF w wr) (fun i _ => l.length - (intOf i).toNat)
      case atStart => exact ⟨0, _, _, _, _, rfl, by omega, Bd_1, Qd_1, Bres_1, Kw_1⟩
      case round =>
        have hbd : w.heap.size < bd := by omega
        clear Bd_1 Qd_1 Bres_1 Kw_1 hlt
        obtain ⟨j, A1, n1, c1, r1, rfl, hj, Bd, Qd, Bz, Kw⟩ := hrel
        by_cases hlt : j < l.length
        · have hx : l[j]? = some l[j] := List.getElem?_eq_getElem hlt
          obtain ⟨_, hcc, bl, off, rfl, hcell⟩ := (HRD.out _ Kw).at_ (by omega)
          have hc1 := hcell j (.int .u64 (l[j] : Nat)) (by rw [List.getElem?_map, hx]; rfl)
          have hS := HL.out _ (List.getElem_mem hlt)
          have hnb := HNB.out _ (List.getElem_mem hlt)
          have hg : l.getD j 0 = l[j] := by rw [List.getD_eq_getElem?_getD, hx]; rfl
          have hsj := HST.out j
          rw [hg] at hsj
          clear hcell hx hg
          generalize l[j] = S at *
          have HSJ := Lib.hid hsj
          have HX := Lib.hid fun W => HSET.out S W hS hnb
          have HSS := Lib.hid fun W A n c r D => HSH.out S W A n c r D
          have HP := Lib.hid fun W => HPT.out j W hlt
          have HPw := Lib.hid fun W => HPTw.out j W hlt
          have HA := Lib.hid fun W => HAS.out j W (by omega)
          clear hsj
          go_upto_region 15 with (go_at_call 8
                                  (with_reducible refine (HX.out _).mono ?_)
                                  rintro e w2 ⟨A2, n2, c2, r2, rfl, D2, K2⟩
                                  have Bdn := Bd.keep K2 fun h => h
                                  have Ldn := Bdn.lt
                                  have Bresn := Bz.keep K2 fun h => h
                                  have Lresn := Bresn.lt)
          have Bd_1 := Bdn.alloc (.cells #[.int .i64 V, .slice A2 n2 c2, .int .i64 r2] 27)
          have Qd_1 := (Qd.keep K2).keep ((Keep.refl NoF w2).alloc (.cells #[.int .i64 V, .slice A2 n2 c2, .int .i64 r2] 27))
          have Bres_1 := Bresn.alloc (.cells #[.int .i64 V, .slice A2 n2 c2, .int .i64 r2] 27)
          have Bx_1 := Bk.new w2 27 #[.int .i64 V, .slice A2 n2 c2, .int .i64 r2]
          have Qx_1 := D2.keep ((Keep.refl NoF w2).alloc (.cells #[.int .i64 V, .slice A2 n2 c2, .int .i64 r2] 27))
          have Kw_1 : Keep NoF w (w2.alloc (.cells #[.int .i64 V, .slice A2 n2 c2, .int .i64 r2] 27)) := (Kw.trans K2 fun _ _ h => h).alloc _
          have Gx_1 : w.heap.size ≤ w2.heap.size := (Kw.trans K2 fun _ _ h => h).size
          generalize w2.alloc (.cells #[.int .i64 V, .slice A2 n2 c2, .int .i64 r2] 27) = W1 at *
          clear Bd Bz Qd Bdn Bresn Kw D2 K2
          have l0 : W1.cell? ⟨w2.heap.size, 0, none⟩ = some (.int .i64 V) := Bx_1.cell 0
          have l1 : W1.cell? ⟨w2.heap.size, 1, none⟩ = some (.slice A2 n2 c2) := Bx_1.cell 1
          have l2 : W1.cell? ⟨w2.heap.size, 2, none⟩ = some (.int .i64 r2) := Bx_1.cell 2
          have m0 : W1.drew.cell? ⟨w2.heap.size, 0, none⟩ = some (.int .i64 V) := Bx_1.cell 0
          have m1 : W1.drew.cell? ⟨w2.heap.size, 1, none⟩ = some (.slice A2 n2 c2) := Bx_1.cell 1
          have m2 : W1.drew.cell? ⟨w2.heap.size, 2, none⟩ = some (.int .i64 r2) := Bx_1.cell 2
          go_region_with (first
            | (go_at_call 34; (first | (with_reducible refine (HEV.out _).mono ?_) | (with_reducible refine (HEVw.out _).mono ?_)); rintro e w' ⟨rfl, hw'⟩; obtain rfl := hw'.symm)
            | (go_at_call 35; (with_reducible refine (HA.out _).mono ?_); rintro e w' ⟨rfl, hw'⟩; obtain rfl := hw'.symm)
            | (go_at_call 33
               (first | (with_reducible refine (HP.out _).mono ?_) | (with_reducible refine (HPw.out _).mono ?_))
               rintro e w4 ⟨A4, n4, c4, r4, rfl, D4, K4'⟩
               have K4 : Keep NoF W1 w4 := by first | exact (Keep.refl NoF W1).drew.trans K4' fun _ _ h => h | exact K5.trans K4' fun _ _ h => h
               have f0 : w4.cell? ⟨w2.heap.size, 0, none⟩ = some (.int .i64 V) := (Bx_1.keep K4 fun h => h).cell 0
               have f1 : w4.cell? ⟨w2.heap.size, 1, none⟩ = some (.slice A2 n2 c2) := (Bx_1.keep K4 fun h => h).cell 1
               have f2 : w4.cell? ⟨w2.heap.size, 2, none⟩ = some (.int .i64 r2) := (Bx_1.keep K4 fun h => h).cell 2)
            | (go_at_call 43
               (first | (with_reducible refine (HSS.out _ _ _ _ _ (Qx_1.keep (Keep.refl NoF W1).drew)).mono ?_) | (with_reducible refine (HSS.out _ _ _ _ _ (Qx_1.keep K4)).mono ?_))
               rintro e w5 ⟨A5, n5, c5, r5, rfl, D5, K5'⟩
               have K5 : Keep NoF W1 w5 := by first | exact (Keep.refl NoF W1).drew.trans K5' fun _ _ h => h | exact K4.trans K5' fun _ _ h => h)
            | (go_at_call 42
               (first | (with_reducible refine (rd_and hV12 (D4.keep K5') D5).mono ?_) | (with_reducible refine (rd_and hV12 D4 (D5.keep K4')).mono ?_))
               rintro e w6 ⟨A6, n6, c6, r6, rfl, D6, K6'⟩
               have K6 : Keep NoF W1 w6 := by first | exact K5.trans K6' fun _ _ h => h | exact K4.trans K6' fun _ _ h => h
               have Bdn := Bd_1.keep K6 fun h => h
               have Ldn := Bdn.lt
               have Bresn := Bres_1.keep K6 fun h => h
               have Lresn := Bresn.lt
               have Bxn := Bx_1.keep K6 fun h => h
               have Lxn := Bxn.lt
               have y0 : w6.cell? ⟨w2.heap.size, 0, none⟩ = some (.int .i64 V) := Bxn.cell 0
               have y1 : w6.cell? ⟨w2.heap.size, 1, none⟩ = some (.slice A2 n2 c2) := Bxn.cell 1
               have y2 : w6.cell? ⟨w2.heap.size, 2, none⟩ = some (.int .i64 r2) := Bxn.cell 2
               have yf0 := Bxn.frozen 0
               have yf1 := Bxn.frozen 1
               have yf2 := Bxn.frozen 2))
          all_goals
            obtain ⟨BX, QX, S3⟩ := set3_box Bxn sl_nint D6
            have BD := Bdn.keep S3 fun h => by omega
            have BZ := Bresn.keep S3 fun h => by omega
            have QD := (Qd_1.keep K6).far_box Bxn sl_nint S3
            have KW := (Kw_1.trans K6 fun _ _ h => h).trans S3 fun i hi h => by omega
            generalize (((w6.setCell ⟨w2.heap.size, 0, none⟩ (.int .i64 V)).setCell ⟨w2.heap.size, 1, none⟩ (.slice A6 n6 c6)).setCell ⟨w2.heap.size, 2, none⟩ (.int .i64 r6)) = W7 at *
            have HO := Lib.hid (rd_or hV12 QD QX)
            have p0 : W7.cell? ⟨bd, 0, none⟩ = some (.int .i64 V) := BD.cell 0
            have p1 : W7.cell? ⟨bd, 1, none⟩ = some (.slice A1 n1 c1) := BD.cell 1
            have p2 : W7.cell? ⟨bd, 2, none⟩ = some (.int .i64 r1) := BD.cell 2
            have q0 : W7.cell? ⟨w2.heap.size, 0, none⟩ = some (.int .i64 V) := BX.cell 0
            have q1 : W7.cell? ⟨w2.heap.size, 1, none⟩ = some (.slice A6 n6 c6) := BX.cell 1
            have q2 : W7.cell? ⟨w2.heap.size, 2, none⟩ = some (.int .i64 r6) := BX.cell 2
            go_wp2_with (go_at_call 32
                         (with_reducible refine (HO.out).mono ?_)
                         rintro e w8 ⟨A8, n8, c8, r8, rfl, D8, K8⟩
                         have B8 := BD.keep K8 fun h => h
                         have Z8 := BZ.keep K8 fun h => h
                         have l8 := B8.lt
                         have z0 : w8.cell? ⟨bd, 0, none⟩ = some (.int .i64 V) := B8.cell 0
                         have z1 : w8.cell? ⟨bd, 1, none⟩ = some (.slice A1 n1 c1) := B8.cell 1
                         have z2 : w8.cell? ⟨bd, 2, none⟩ = some (.int .i64 r1) := B8.cell 2
                         have zf0 := B8.frozen 0
                         have zf1 := B8.frozen 1
                         have zf2 := B8.frozen 2)
            go_roundw
            case rel =>
              obtain ⟨s1, s2, T3⟩ := set3_box B8 sl_nint D8
              exact ⟨j + 1, A8, n8, c8, r8, by go_num, by omega, s1, s2.congr fun ρ => (HSJ.out ρ).symm, Z8.keep T3 fun h => by omega, (KW.trans K8 fun _ _ h => h).trans T3 fun i hi h => by omega⟩
            case measure => simp only [intOf]; omega
        · obtain rfl : j = l.length := by omega
          have l0 : wr.cell? ⟨bd, 0, none⟩ = some (.int .i64 V) := Bd.cell 0
          have l1 : wr.cell? ⟨bd, 1, none⟩ = some (.slice A1 n1 c1) := Bd.cell 1
          have l2 : wr.cell? ⟨bd, 2, none⟩ = some (.int .i64 r1) := Bd.cell 2
          have z0 : wr.cell? ⟨w.heap.size, 0, none⟩ = some (.int .i64 0) := Bz.cell 0
          have z1 : wr.cell? ⟨w.heap.size, 1, none⟩ = some (.slice none 0 0) := Bz.cell 1
          have z2 : wr.cell? ⟨w.heap.size, 2, none⟩ = some (.int .i64 0) := Bz.cell 2
          have zf0 := Bz.frozen 0
          have zf1 := Bz.frozen 1
          have zf2 := Bz.frozen 2
          have hlt2 := Bd.lt
          have hlt3 := Bz.lt
          go_wp2
          obtain ⟨s1, s2, s3⟩ := set3_box Bz sl_nint Qd
          have hKf : Keep NoF w (((wr.setCell ⟨w.heap.size, 0, none⟩ (.int .i64 V)).setCell ⟨w.heap.size, 1, none⟩ (.slice A1 n1 c1)).setCell ⟨w.heap.size, 2, none⟩ (.int .i64 r1)) := Kw.trans s3 fun i hi h => by omega
          generalize (((wr.setCell ⟨w.heap.size, 0, none⟩ (.int .i64 V)).setCell ⟨w.heap.size, 1, none⟩ (.slice A1 n1 c1)).setCell ⟨w.heap.size, 2, none⟩ (.int .i64 r1)) = W6 at *
          have h0 : W6.cell? ⟨w.heap.size, 0, none⟩ = some (.int .i64 V) := s1.cell 0
          have h1 : W6.cell? ⟨w.heap.size, 1, none⟩ = some (.slice A1 n1 c1) := s1.cell 1
          have h2 : W6.cell? ⟨w.heap.size, 2, none⟩ = some (.int .i64 r1) := s1.cell 2
          refine bodyPost_ret (v := .tuple #[.agg #[.int .i64 V, .slice A1 n1 c1, .int .i64 r1], .int .i64 0]) (by simp [results, Try.results10, go_sem, h0, h1, h2]) rfl ?_
          exact ⟨A1, n1, c1, r1, rfl, s2.congr HE.out, hKf⟩
end
end Go.Proofs.Ytgdmcidcappkpaa
