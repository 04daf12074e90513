/- The reference's Converse. The errors of the reference's Prime, Image, Pre, Box and Converse. No condition. -/
import Derived.Test.YtgdmcidcappkpaaGreatSzAB
import Derived.Test.YtgdmcidcappkpaaGreatSyL
set_option linter.unusedVariables false
set_option linter.unusedSimpArgs false
namespace Go.Proofs.YtgdmcidcappkpaaGreat
open Go.RowKit
open Dd (swF sw1 rf)

theorem sw1_ite2 (n : Nat) (f : BF) (ρ : Nat → Bool) :
    (if ρ (n + 1) then (if ρ n then rf (n + 1) true (rf n true f) ρ else rf (n + 1) false (rf n true f) ρ) else (if ρ n then rf (n + 1) true (rf n false f) ρ else rf (n + 1) false (rf n false f) ρ)) = sw1 n f ρ := by
  have h : rf (n + 1) (ρ n) (rf n (ρ (n + 1)) f) ρ = sw1 n f ρ := by
    rfl
  rw [← h]
  cases ρ n <;> cases ρ (n + 1) <;> simp
section
set_option maxRecDepth 100000
set_option maxHeartbeats 4000000
theorem rConverse_ok {f : BF} {V : Nat} (hV : V ≤ 12) (he : V % 2 = 0) (A1 : Option Addr) (n1 c1 r1 : Nat) (w : World) (D1 : IsD w V f A1 n1 c1 r1) : Calls Tryz.prog 16 #[.agg #[.int .i64 V, .slice A1 n1 c1, .int .i64 r1]] w (DP w V (swF V f)) := by
  go_enter Tryz.func16, Tryz.ntmps16
  go_upto_region 1 with (fail)
  have Br := Bk.new w 24 #[.int .i64 V, .slice A1 n1 c1, .int .i64 r1]
  have Br := (Br.alloc (.cells #[.int .i64 0, .slice none 0 0, .int .i64 0] 24))
  have Bres := Bk.new (w.alloc (.cells #[.int .i64 V, .slice A1 n1 c1, .int .i64 r1] 24)) 24 #[.int .i64 0, .slice none 0 0, .int .i64 0]
  simp only [World.size_alloc, Nat.add_assoc, Nat.reduceAdd] at Bres
  have Kw : Keep NoF w ((w.alloc (.cells #[.int .i64 V, .slice A1 n1 c1, .int .i64 r1] 24)).alloc (.cells #[.int .i64 0, .slice none 0 0, .int .i64 0] 24)) := (((Keep.refl NoF w).alloc _).alloc _)
  have Qr := D1.keep Kw
  generalize ((w.alloc (.cells #[.int .i64 V, .slice A1 n1 c1, .int .i64 r1] 24)).alloc (.cells #[.int .i64 0, .slice none 0 0, .int .i64 0] 24)) = W0 at *
  have HREL := Lib.hid (rrelOk Qr he)
  have cr0 : W0.cell? ⟨w.heap.size, 0, none⟩ = some (.int .i64 V) := Br.cell 0
  have cr1 : W0.cell? ⟨w.heap.size, 1, none⟩ = some (.slice A1 n1 c1) := Br.cell 1
  have cr2 : W0.cell? ⟨w.heap.size, 2, none⟩ = some (.int .i64 r1) := Br.cell 2
  go_upto_region 4 with (first
                         | (go_at_call 43
                            (with_reducible refine (HREL.out).mono ?_)
                            rintro e wz ⟨rfl, wzZ⟩
                            have wzK : Keep NoF W0 wz := (Keep.refl NoF W0).trans wzZ fun _ _ h => h)
                         | fail)
  clear cr0 cr1 cr2
  have Br_1 := Br.keep wzK fun h => h
  have Qr_1 := Qr.keep wzK
  have Bres_1 := Bres.keep wzK fun h => h
  have Kw_1 := Kw.trans wzK fun _ _ h => h
  clear Kw wzK wzZ Br Qr Bres
  have cr0 : wz.cell? ⟨w.heap.size, 0, none⟩ = some (.int .i64 V) := Br_1.cell 0
  have cr1 : wz.cell? ⟨w.heap.size, 1, none⟩ = some (.slice A1 n1 c1) := Br_1.cell 1
  have cr2 : wz.cell? ⟨w.heap.size, 2, none⟩ = some (.int .i64 r1) := Br_1.cell 2
  go_upto_region 5 with (fail)
  have Bd := Bk.new wz 24 #[.int .i64 V, .slice A1 n1 c1, .int .i64 r1]
  have Br := Br_1.alloc (.cells #[.int .i64 V, .slice A1 n1 c1, .int .i64 r1] 24)
  have Bres := Bres_1.alloc (.cells #[.int .i64 V, .slice A1 n1 c1, .int .i64 r1] 24)
  have Qd := Qr_1.keep ((Keep.refl NoF wz).alloc (.cells #[.int .i64 V, .slice A1 n1 c1, .int .i64 r1] 24))
  have Kw : Keep NoF w (wz.alloc (.cells #[.int .i64 V, .slice A1 n1 c1, .int .i64 r1] 24)) := Kw_1.alloc _
  have hbd : w.heap.size + 1 < wz.heap.size := Bres_1.lt
  generalize wz.alloc (.cells #[.int .i64 V, .slice A1 n1 c1, .int .i64 r1] 24) = W1 at *
  generalize wz.heap.size = bd at *
  clear cr0 cr1 cr2 Br_1 Bres_1 Qr_1 Kw_1 HREL
  have HST := Lib.hid fun n (hn : n % 2 = 0) ρ => Dd.sw1_swF hn f ρ
  go_wp2
  go_loopw [6] (fun iv wr => ∃ (i : Nat) (A : Option Addr) (n c r : Nat), iv = .int .i64 i ∧ i % 2 = 0 ∧ i ≤ V ∧ Bk wr bd 24 #[.int .i64 V, .slice A n c, .int .i64 r] ∧ IsD wr V (swF i f) A n c r ∧ Bk wr w.heap.size 24 #[.int .i64 V, .slice A1 n1 c1, .int .i64 r1] ∧ Bk wr (w.heap.size + 1) 24 #[.int .i64 0, .slice none 0 0, .int .i64 0] ∧ Keep NoF w wr) (fun iv _ => V + 2 - (intOf iv).toNat)
  case atStart => exact ⟨0, _, _, _, _, rfl, rfl, by omega, Bd, by rw [Dd.swF_zero]; exact Qd, Br, Bres, Kw⟩
  case round =>
    clear Bd Qd Br Bres Kw
    obtain ⟨i, A2, n2, c2, r2, rfl, hie, hi, Bd, Qd, Br, Bres, Kw⟩ := hrel
    by_cases hlt : i + 1 < V
    · have hlt2 : (i : Int) + 1 < (V : Int) := by omega
      have hx := fun W => rd_var V i (by omega) (by omega) W
      have hy := fun W => rd_var V (i + 1) (by omega) (by omega) W
      simp only [show ((i + 1 : Nat) : Int) = (i : Int) + 1 by omega] at hy
      have HX := Lib.hid hx
      have HY := Lib.hid hy
      have HSJ := Lib.hid (HST.out i hie)
      clear hx hy
      generalize swF i f = F at *
      have cr0 : wr.cell? ⟨w.heap.size, 0, none⟩ = some (.int .i64 V) := Br.cell 0
      have cr1 : wr.cell? ⟨w.heap.size, 1, none⟩ = some (.slice A1 n1 c1) := Br.cell 1
      have cr2 : wr.cell? ⟨w.heap.size, 2, none⟩ = some (.int .i64 r1) := Br.cell 2
      go_upto_region 9 with (go_at_call 44
                             (with_reducible refine (HX.out _).mono ?_)
                             rintro e w3 ⟨A3, n3, c3, r3, rfl, D3, K3⟩
                             have Bdn := Bd.keep K3 fun h => h
                             have Ldn := Bdn.lt
                             have Brn := Br.keep K3 fun h => h
                             have Lrn := Brn.lt
                             have Bresn := Bres.keep K3 fun h => h
                             have Lresn := Bresn.lt)
      clear cr0 cr1 cr2
      have Bd_1 := Bdn.alloc (.cells #[.int .i64 V, .slice A3 n3 c3, .int .i64 r3] 24)
      have Qd_1 := (Qd.keep K3).keep ((Keep.refl NoF w3).alloc (.cells #[.int .i64 V, .slice A3 n3 c3, .int .i64 r3] 24))
      have Br_1 := Brn.alloc (.cells #[.int .i64 V, .slice A3 n3 c3, .int .i64 r3] 24)
      have Bres_1 := Bresn.alloc (.cells #[.int .i64 V, .slice A3 n3 c3, .int .i64 r3] 24)
      have Bx_1 := Bk.new w3 24 #[.int .i64 V, .slice A3 n3 c3, .int .i64 r3]
      have Qx_1 := D3.keep ((Keep.refl NoF w3).alloc (.cells #[.int .i64 V, .slice A3 n3 c3, .int .i64 r3] 24))
      have Kw_1 : Keep NoF w (w3.alloc (.cells #[.int .i64 V, .slice A3 n3 c3, .int .i64 r3] 24)) := (Kw.trans K3 fun _ _ h => h).alloc _
      have Gx_1 : w.heap.size ≤ w3.heap.size := (Kw.trans K3 fun _ _ h => h).size
      generalize w3.alloc (.cells #[.int .i64 V, .slice A3 n3 c3, .int .i64 r3] 24) = W1 at *
      clear Bd Br Bres Qd Bdn Brn Bresn Kw D3 K3
      have cr0 : W1.cell? ⟨w.heap.size, 0, none⟩ = some (.int .i64 V) := Br_1.cell 0
      have cr1 : W1.cell? ⟨w.heap.size, 1, none⟩ = some (.slice A1 n1 c1) := Br_1.cell 1
      have cr2 : W1.cell? ⟨w.heap.size, 2, none⟩ = some (.int .i64 r1) := Br_1.cell 2
      go_upto_region 10 with (go_at_call 44
                              (with_reducible refine (HY.out _).mono ?_)
                              rintro e w4 ⟨A4, n4, c4, r4, rfl, D4, K4⟩
                              have Bdn := Bd_1.keep K4 fun h => h
                              have Ldn := Bdn.lt
                              have Brn := Br_1.keep K4 fun h => h
                              have Lrn := Brn.lt
                              have Bresn := Bres_1.keep K4 fun h => h
                              have Lresn := Bresn.lt
                              have Bxn := Bx_1.keep K4 fun h => h
                              have Lxn := Bxn.lt)
      clear cr0 cr1 cr2
      have Bd_2 := Bdn.alloc (.cells #[.int .i64 V, .slice A4 n4 c4, .int .i64 r4] 24)
      have Qd_2 := (Qd_1.keep K4).keep ((Keep.refl NoF w4).alloc (.cells #[.int .i64 V, .slice A4 n4 c4, .int .i64 r4] 24))
      have Br_2 := Brn.alloc (.cells #[.int .i64 V, .slice A4 n4 c4, .int .i64 r4] 24)
      have Bres_2 := Bresn.alloc (.cells #[.int .i64 V, .slice A4 n4 c4, .int .i64 r4] 24)
      have Bx_2 := Bxn.alloc (.cells #[.int .i64 V, .slice A4 n4 c4, .int .i64 r4] 24)
      have Qx_2 := (Qx_1.keep K4).keep ((Keep.refl NoF w4).alloc (.cells #[.int .i64 V, .slice A4 n4 c4, .int .i64 r4] 24))
      have By_2 := Bk.new w4 24 #[.int .i64 V, .slice A4 n4 c4, .int .i64 r4]
      have Qy_2 := D4.keep ((Keep.refl NoF w4).alloc (.cells #[.int .i64 V, .slice A4 n4 c4, .int .i64 r4] 24))
      have Kw_2 : Keep NoF w (w4.alloc (.cells #[.int .i64 V, .slice A4 n4 c4, .int .i64 r4] 24)) := (Kw_1.trans K4 fun _ _ h => h).alloc _
      have Gy_2 : w.heap.size ≤ w4.heap.size := (Kw_1.trans K4 fun _ _ h => h).size
      generalize w4.alloc (.cells #[.int .i64 V, .slice A4 n4 c4, .int .i64 r4] 24) = W2 at *
      clear Bd_1 Br_1 Bres_1 Bx_1 Qd_1 Qx_1 Bdn Brn Bresn Bxn Kw_1 D4 K4
      go_upto_region 11 with (fail)
      have hz4 : (#[.int .i64 0, .slice none 0 0, .int .i64 0, .int .i64 0, .slice none 0 0, .int .i64 0, .int .i64 0, .slice none 0 0, .int .i64 0, .int .i64 0, .slice none 0 0, .int .i64 0] : Array Value) = pc4 ptZ ptZ ptZ ptZ := rfl
      rw [hz4]
      clear hz4
      have Bpart := Bk.new W2 53 (pc4 ptZ ptZ ptZ ptZ)
      have hld := Bd_2.lt
      have Bdi := Bd_2.alloc (.cells (pc4 ptZ ptZ ptZ ptZ) 53)
      have Qdi := Qd_2.keep ((Keep.refl NoF W2).alloc (.cells (pc4 ptZ ptZ ptZ ptZ) 53))
      have hlr := Br_2.lt
      have Bri := Br_2.alloc (.cells (pc4 ptZ ptZ ptZ ptZ) 53)
      have hlres := Bres_2.lt
      have Bresi := Bres_2.alloc (.cells (pc4 ptZ ptZ ptZ ptZ) 53)
      have hlx := Bx_2.lt
      have Bxi := Bx_2.alloc (.cells (pc4 ptZ ptZ ptZ ptZ) 53)
      have Qxi := Qx_2.keep ((Keep.refl NoF W2).alloc (.cells (pc4 ptZ ptZ ptZ ptZ) 53))
      have hly := By_2.lt
      have Byi := By_2.alloc (.cells (pc4 ptZ ptZ ptZ ptZ) 53)
      have Qyi := Qy_2.keep ((Keep.refl NoF W2).alloc (.cells (pc4 ptZ ptZ ptZ ptZ) 53))
      have Kwi : Keep NoF w (W2.alloc (.cells (pc4 ptZ ptZ ptZ ptZ) 53)) := Kw_2.alloc _
      generalize W2.alloc (.cells (pc4 ptZ ptZ ptZ ptZ) 53) = Wp at *
      generalize W2.heap.size = bp at *
      have hxx : bd < w3.heap.size ∧ w3.heap.size < w4.heap.size := ⟨by omega, by omega⟩
      generalize w3.heap.size = bx at *
      generalize w4.heap.size = bq at *
      go_wp2
      go_loopw [12] (fun nv wr => ∃ (j : Nat) (q0 q1 q2 q3 : Pt), nv = .int .i64 j ∧ j ≤ 4 ∧ Bk wr w.heap.size 24 #[.int .i64 V, .slice A1 n1 c1, .int .i64 r1] ∧ Bk wr (w.heap.size + 1) 24 #[.int .i64 0, .slice none 0 0, .int .i64 0] ∧ Bk wr bd 24 #[.int .i64 V, .slice A2 n2 c2, .int .i64 r2] ∧ Bk wr bx 24 #[.int .i64 V, .slice A3 n3 c3, .int .i64 r3] ∧ Bk wr bq 24 #[.int .i64 V, .slice A4 n4 c4, .int .i64 r4] ∧ Bk wr bp 53 (pc4 q0 q1 q2 q3) ∧ IsD wr V F A2 n2 c2 r2 ∧ IsD wr V (fun ρ => ρ i) A3 n3 c3 r3 ∧ IsD wr V (fun ρ => ρ (i + 1)) A4 n4 c4 r4 ∧ (0 < j → PtOk wr V (rf (i + 1) false (rf i false F)) q0) ∧ (1 < j → PtOk wr V (rf (i + 1) true (rf i false F)) q1) ∧ (2 < j → PtOk wr V (rf (i + 1) false (rf i true F)) q2) ∧ (3 < j → PtOk wr V (rf (i + 1) true (rf i true F)) q3) ∧ Keep NoF w wr) (fun nv _ => 4 - (intOf nv).toNat)
      case atStart => exact ⟨0, ptZ, ptZ, ptZ, ptZ, rfl, by omega, Bri, Bresi, Bdi, Bxi, Byi, Bpart, Qdi, Qxi, Qyi, fun h => absurd h (by omega), fun h => absurd h (by omega), fun h => absurd h (by omega), fun h => absurd h (by omega), Kwi⟩
      case round =>
        clear Bri Bresi Bdi Bxi Byi Bpart Qdi Qxi Qyi Kwi
        obtain ⟨j, q0, q1, q2, q3, rfl, hj, Br, Bres, Bd, Bx, By, Bpart, Qd, Qx, Qy, p0, p1, p2, p3, Kw⟩ := hrel
        have hbp := Bpart.lt
        have hj2 : j = 0 ∨ j = 1 ∨ j = 2 ∨ j = 3 ∨ j = 4 := by omega
        rcases hj2 with rfl | rfl | rfl | rfl | rfl
        · clear p0 p1 p2 p3
          have t1 : (Int.tdiv 0 2 == 1) = false := by decide
          have t2 : (Int.tmod 0 2 == 1) = false := by decide
          have HR := Lib.hid (rd_restrict (i := i) (t := false) (by omega) hV Qd)
          have cd0 : wr.cell? ⟨bd, 0, none⟩ = some (.int .i64 V) := Bd.cell 0
          have cd1 : wr.cell? ⟨bd, 1, none⟩ = some (.slice A2 n2 c2) := Bd.cell 1
          have cd2 : wr.cell? ⟨bd, 2, none⟩ = some (.int .i64 r2) := Bd.cell 2
          go_upto_region 15 with (go_at_call 45
                                  (with_reducible refine (HR.out).mono ?_)
                                  rintro e w5 ⟨A5, n5, c5, r5, rfl, D5, K5⟩
                                  have Bdn := Bd.keep K5 fun h => h
                                  have Ldn := Bdn.lt
                                  have Brn := Br.keep K5 fun h => h
                                  have Lrn := Brn.lt
                                  have Bresn := Bres.keep K5 fun h => h
                                  have Lresn := Bresn.lt
                                  have Bxn := Bx.keep K5 fun h => h
                                  have Lxn := Bxn.lt
                                  have Byn := By.keep K5 fun h => h
                                  have Lyn := Byn.lt
                                  have Bpartn := Bpart.keep K5 fun h => h
                                  have Lpartn := Bpartn.lt)
          clear cd0 cd1 cd2
          have Bd_21 := Bdn.alloc (.cells #[.int .i64 V, .slice A5 n5 c5, .int .i64 r5] 24)
          have Qd_21 := (Qd.keep K5).keep ((Keep.refl NoF w5).alloc (.cells #[.int .i64 V, .slice A5 n5 c5, .int .i64 r5] 24))
          have Br_21 := Brn.alloc (.cells #[.int .i64 V, .slice A5 n5 c5, .int .i64 r5] 24)
          have Bres_21 := Bresn.alloc (.cells #[.int .i64 V, .slice A5 n5 c5, .int .i64 r5] 24)
          have Bx_21 := Bxn.alloc (.cells #[.int .i64 V, .slice A5 n5 c5, .int .i64 r5] 24)
          have Qx_21 := (Qx.keep K5).keep ((Keep.refl NoF w5).alloc (.cells #[.int .i64 V, .slice A5 n5 c5, .int .i64 r5] 24))
          have By_21 := Byn.alloc (.cells #[.int .i64 V, .slice A5 n5 c5, .int .i64 r5] 24)
          have Qy_21 := (Qy.keep K5).keep ((Keep.refl NoF w5).alloc (.cells #[.int .i64 V, .slice A5 n5 c5, .int .i64 r5] 24))
          have Bpart_21 := Bpartn.alloc (.cells #[.int .i64 V, .slice A5 n5 c5, .int .i64 r5] 24)
          have Bp_21 := Bk.new w5 24 #[.int .i64 V, .slice A5 n5 c5, .int .i64 r5]
          have Qp_21 := D5.keep ((Keep.refl NoF w5).alloc (.cells #[.int .i64 V, .slice A5 n5 c5, .int .i64 r5] 24))
          have Kw_21 : Keep NoF w (w5.alloc (.cells #[.int .i64 V, .slice A5 n5 c5, .int .i64 r5] 24)) := (Kw.trans K5 fun _ _ h => h).alloc _
          have Gp_21 : w.heap.size ≤ w5.heap.size := (Kw.trans K5 fun _ _ h => h).size
          generalize w5.alloc (.cells #[.int .i64 V, .slice A5 n5 c5, .int .i64 r5] 24) = W21 at *
          clear Bd Br Bres Bx By Bpart Qd Qx Qy Bdn Brn Bresn Bxn Byn Bpartn Kw D5 K5
          have hr2 := rd_restrict (i := i + 1) (t := false) (by omega) hV Qp_21
          rw [show ((i + 1 : Nat) : Int) = (i : Int) + 1 by omega] at hr2
          have HR2 := Lib.hid hr2
          clear hr2
          have cp0 : W21.cell? ⟨w5.heap.size, 0, none⟩ = some (.int .i64 V) := Bp_21.cell 0
          have cp1 : W21.cell? ⟨w5.heap.size, 1, none⟩ = some (.slice A5 n5 c5) := Bp_21.cell 1
          have cp2 : W21.cell? ⟨w5.heap.size, 2, none⟩ = some (.int .i64 r5) := Bp_21.cell 2
          go_wp2_with (go_at_call 45
                       (with_reducible refine (HR2.out).mono ?_)
                       rintro e w6 ⟨A6, n6, c6, r6, rfl, D6, K6⟩
                       have Bdn := Bd_21.keep K6 fun h => h
                       have Ldn := Bdn.lt
                       have Brn := Br_21.keep K6 fun h => h
                       have Lrn := Brn.lt
                       have Bresn := Bres_21.keep K6 fun h => h
                       have Lresn := Bresn.lt
                       have Bxn := Bx_21.keep K6 fun h => h
                       have Lxn := Bxn.lt
                       have Byn := By_21.keep K6 fun h => h
                       have Lyn := Byn.lt
                       have Bpartn := Bpart_21.keep K6 fun h => h
                       have Lpartn := Bpartn.lt
                       have Bpn := Bp_21.keep K6 fun h => h
                       have Lpn := Bpn.lt
                       have f0 := Bpartn.frozen 0
                       have f1 := Bpartn.frozen 1
                       have f2 := Bpartn.frozen 2
                       have e0 : w6.cell? ⟨bp, 0, none⟩ = some (.int .i64 q0.v) := (Bpartn.cell 0).trans rfl
                       have e1 : w6.cell? ⟨bp, 1, none⟩ = some (.slice q0.A q0.n q0.c) := (Bpartn.cell 1).trans rfl
                       have e2 : w6.cell? ⟨bp, 2, none⟩ = some (.int .i64 q0.r) := (Bpartn.cell 2).trans rfl)
          clear cp0 cp1 cp2
          go_roundw
          case rel =>
            have S3 : Keep (fun k => k = bp) w6 (((w6.setCell ⟨bp, 0, none⟩ (.int .i64 V)).setCell ⟨bp, 1, none⟩ (.slice A6 n6 c6)).setCell ⟨bp, 2, none⟩ (.int .i64 r6)) := (((Keep.refl (fun k => k = bp) _).setCell (.inl rfl) _).setCell (.inl rfl) _).setCell (.inl rfl) _
            have Bpn : Bk (((w6.setCell ⟨bp, 0, none⟩ (.int .i64 V)).setCell ⟨bp, 1, none⟩ (.slice A6 n6 c6)).setCell ⟨bp, 2, none⟩ (.int .i64 r6)) bp 53 (pc4 ⟨V, A6, n6, c6, r6⟩ q1 q2 q3) := (((Bpartn.put 0 (.int .i64 V)).put 1 (.slice A6 n6 c6)).put 2 (.int .i64 r6))
            have FG := fun {f : BF} {A : Option Addr} {n c r : Nat} (h : IsD w6 V f A n c r) => h.far_gen Bpartn (pc4_no _ _ _ _) S3
            exact ⟨1, ⟨V, A6, n6, c6, r6⟩, q1, q2, q3, by go_num, by omega, Brn.keep S3 fun h => by omega, Bresn.keep S3 fun h => by omega, Bdn.keep S3 fun h => by omega, Bxn.keep S3 fun h => by omega, Byn.keep S3 fun h => by omega, Bpn, FG (Qd_21.keep K6), FG (Qx_21.keep K6), FG (Qy_21.keep K6), fun _ => ⟨rfl, r6, rfl, FG D6⟩, fun h => absurd h (by omega), fun h => absurd h (by omega), fun h => absurd h (by omega), (Kw_21.trans K6 fun _ _ h => h).trans S3 fun i hi h => by omega⟩
          case measure => simp only [intOf]; omega
        · obtain ⟨pv0, pr0, pe0, P0⟩ := p0 (by omega)
          have PV0 := Lib.hid pv0
          have PE0 := Lib.hid pe0
          clear pv0 pe0
          clear p0 p1 p2 p3
          have t1 : (Int.tdiv 1 2 == 1) = false := by decide
          have t2 : (Int.tmod 1 2 == 1) = true := by decide
          have HR := Lib.hid (rd_restrict (i := i) (t := false) (by omega) hV Qd)
          have cd0 : wr.cell? ⟨bd, 0, none⟩ = some (.int .i64 V) := Bd.cell 0
          have cd1 : wr.cell? ⟨bd, 1, none⟩ = some (.slice A2 n2 c2) := Bd.cell 1
          have cd2 : wr.cell? ⟨bd, 2, none⟩ = some (.int .i64 r2) := Bd.cell 2
          go_upto_region 15 with (go_at_call 45
                                  (with_reducible refine (HR.out).mono ?_)
                                  rintro e w5 ⟨A5, n5, c5, r5, rfl, D5, K5⟩
                                  have Bdn := Bd.keep K5 fun h => h
                                  have Ldn := Bdn.lt
                                  have Brn := Br.keep K5 fun h => h
                                  have Lrn := Brn.lt
                                  have Bresn := Bres.keep K5 fun h => h
                                  have Lresn := Bresn.lt
                                  have Bxn := Bx.keep K5 fun h => h
                                  have Lxn := Bxn.lt
                                  have Byn := By.keep K5 fun h => h
                                  have Lyn := Byn.lt
                                  have Bpartn := Bpart.keep K5 fun h => h
                                  have Lpartn := Bpartn.lt)
          clear cd0 cd1 cd2
          have Bd_21 := Bdn.alloc (.cells #[.int .i64 V, .slice A5 n5 c5, .int .i64 r5] 24)
          have Qd_21 := (Qd.keep K5).keep ((Keep.refl NoF w5).alloc (.cells #[.int .i64 V, .slice A5 n5 c5, .int .i64 r5] 24))
          have Br_21 := Brn.alloc (.cells #[.int .i64 V, .slice A5 n5 c5, .int .i64 r5] 24)
          have Bres_21 := Bresn.alloc (.cells #[.int .i64 V, .slice A5 n5 c5, .int .i64 r5] 24)
          have Bx_21 := Bxn.alloc (.cells #[.int .i64 V, .slice A5 n5 c5, .int .i64 r5] 24)
          have Qx_21 := (Qx.keep K5).keep ((Keep.refl NoF w5).alloc (.cells #[.int .i64 V, .slice A5 n5 c5, .int .i64 r5] 24))
          have By_21 := Byn.alloc (.cells #[.int .i64 V, .slice A5 n5 c5, .int .i64 r5] 24)
          have Qy_21 := (Qy.keep K5).keep ((Keep.refl NoF w5).alloc (.cells #[.int .i64 V, .slice A5 n5 c5, .int .i64 r5] 24))
          have Bpart_21 := Bpartn.alloc (.cells #[.int .i64 V, .slice A5 n5 c5, .int .i64 r5] 24)
          have Fpp0_21 := (P0.keep K5).keep ((Keep.refl NoF w5).alloc (.cells #[.int .i64 V, .slice A5 n5 c5, .int .i64 r5] 24))
          have Bp_21 := Bk.new w5 24 #[.int .i64 V, .slice A5 n5 c5, .int .i64 r5]
          have Qp_21 := D5.keep ((Keep.refl NoF w5).alloc (.cells #[.int .i64 V, .slice A5 n5 c5, .int .i64 r5] 24))
          have Kw_21 : Keep NoF w (w5.alloc (.cells #[.int .i64 V, .slice A5 n5 c5, .int .i64 r5] 24)) := (Kw.trans K5 fun _ _ h => h).alloc _
          have Gp_21 : w.heap.size ≤ w5.heap.size := (Kw.trans K5 fun _ _ h => h).size
          generalize w5.alloc (.cells #[.int .i64 V, .slice A5 n5 c5, .int .i64 r5] 24) = W21 at *
          clear Bd Br Bres Bx By Bpart Qd Qx Qy Bdn Brn Bresn Bxn Byn Bpartn Kw D5 K5 P0
          have hr2 := rd_restrict (i := i + 1) (t := true) (by omega) hV Qp_21
          rw [show ((i + 1 : Nat) : Int) = (i : Int) + 1 by omega] at hr2
          have HR2 := Lib.hid hr2
          clear hr2
          have cp0 : W21.cell? ⟨w5.heap.size, 0, none⟩ = some (.int .i64 V) := Bp_21.cell 0
          have cp1 : W21.cell? ⟨w5.heap.size, 1, none⟩ = some (.slice A5 n5 c5) := Bp_21.cell 1
          have cp2 : W21.cell? ⟨w5.heap.size, 2, none⟩ = some (.int .i64 r5) := Bp_21.cell 2
          go_wp2_with (go_at_call 45
                       (with_reducible refine (HR2.out).mono ?_)
                       rintro e w6 ⟨A6, n6, c6, r6, rfl, D6, K6⟩
                       have Bdn := Bd_21.keep K6 fun h => h
                       have Ldn := Bdn.lt
                       have Brn := Br_21.keep K6 fun h => h
                       have Lrn := Brn.lt
                       have Bresn := Bres_21.keep K6 fun h => h
                       have Lresn := Bresn.lt
                       have Bxn := Bx_21.keep K6 fun h => h
                       have Lxn := Bxn.lt
                       have Byn := By_21.keep K6 fun h => h
                       have Lyn := Byn.lt
                       have Bpartn := Bpart_21.keep K6 fun h => h
                       have Lpartn := Bpartn.lt
                       have Bpn := Bp_21.keep K6 fun h => h
                       have Lpn := Bpn.lt
                       have f3 := Bpartn.frozen 3
                       have f4 := Bpartn.frozen 4
                       have f5 := Bpartn.frozen 5
                       have e0 : w6.cell? ⟨bp, 3, none⟩ = some (.int .i64 q1.v) := (Bpartn.cell 3).trans rfl
                       have e1 : w6.cell? ⟨bp, 4, none⟩ = some (.slice q1.A q1.n q1.c) := (Bpartn.cell 4).trans rfl
                       have e2 : w6.cell? ⟨bp, 5, none⟩ = some (.int .i64 q1.r) := (Bpartn.cell 5).trans rfl)
          clear cp0 cp1 cp2
          go_roundw
          case rel =>
            have S3 : Keep (fun k => k = bp) w6 (((w6.setCell ⟨bp, 3, none⟩ (.int .i64 V)).setCell ⟨bp, 4, none⟩ (.slice A6 n6 c6)).setCell ⟨bp, 5, none⟩ (.int .i64 r6)) := (((Keep.refl (fun k => k = bp) _).setCell (.inl rfl) _).setCell (.inl rfl) _).setCell (.inl rfl) _
            have Bpn : Bk (((w6.setCell ⟨bp, 3, none⟩ (.int .i64 V)).setCell ⟨bp, 4, none⟩ (.slice A6 n6 c6)).setCell ⟨bp, 5, none⟩ (.int .i64 r6)) bp 53 (pc4 q0 ⟨V, A6, n6, c6, r6⟩ q2 q3) := (((Bpartn.put 3 (.int .i64 V)).put 4 (.slice A6 n6 c6)).put 5 (.int .i64 r6))
            have FG := fun {f : BF} {A : Option Addr} {n c r : Nat} (h : IsD w6 V f A n c r) => h.far_gen Bpartn (pc4_no _ _ _ _) S3
            exact ⟨2, q0, ⟨V, A6, n6, c6, r6⟩, q2, q3, by go_num, by omega, Brn.keep S3 fun h => by omega, Bresn.keep S3 fun h => by omega, Bdn.keep S3 fun h => by omega, Bxn.keep S3 fun h => by omega, Byn.keep S3 fun h => by omega, Bpn, FG (Qd_21.keep K6), FG (Qx_21.keep K6), FG (Qy_21.keep K6), fun _ => ⟨PV0.out, pr0, PE0.out, FG (Fpp0_21.keep K6)⟩, fun _ => ⟨rfl, r6, rfl, FG D6⟩, fun h => absurd h (by omega), fun h => absurd h (by omega), (Kw_21.trans K6 fun _ _ h => h).trans S3 fun i hi h => by omega⟩
          case measure => simp only [intOf]; omega
        · obtain ⟨pv0, pr0, pe0, P0⟩ := p0 (by omega)
          have PV0 := Lib.hid pv0
          have PE0 := Lib.hid pe0
          clear pv0 pe0
          obtain ⟨pv1, pr1, pe1, P1⟩ := p1 (by omega)
          have PV1 := Lib.hid pv1
          have PE1 := Lib.hid pe1
          clear pv1 pe1
          clear p0 p1 p2 p3
          have t1 : (Int.tdiv 2 2 == 1) = true := by decide
          have t2 : (Int.tmod 2 2 == 1) = false := by decide
          have HR := Lib.hid (rd_restrict (i := i) (t := true) (by omega) hV Qd)
          have cd0 : wr.cell? ⟨bd, 0, none⟩ = some (.int .i64 V) := Bd.cell 0
          have cd1 : wr.cell? ⟨bd, 1, none⟩ = some (.slice A2 n2 c2) := Bd.cell 1
          have cd2 : wr.cell? ⟨bd, 2, none⟩ = some (.int .i64 r2) := Bd.cell 2
          go_upto_region 15 with (go_at_call 45
                                  (with_reducible refine (HR.out).mono ?_)
                                  rintro e w5 ⟨A5, n5, c5, r5, rfl, D5, K5⟩
                                  have Bdn := Bd.keep K5 fun h => h
                                  have Ldn := Bdn.lt
                                  have Brn := Br.keep K5 fun h => h
                                  have Lrn := Brn.lt
                                  have Bresn := Bres.keep K5 fun h => h
                                  have Lresn := Bresn.lt
                                  have Bxn := Bx.keep K5 fun h => h
                                  have Lxn := Bxn.lt
                                  have Byn := By.keep K5 fun h => h
                                  have Lyn := Byn.lt
                                  have Bpartn := Bpart.keep K5 fun h => h
                                  have Lpartn := Bpartn.lt)
          clear cd0 cd1 cd2
          have Bd_21 := Bdn.alloc (.cells #[.int .i64 V, .slice A5 n5 c5, .int .i64 r5] 24)
          have Qd_21 := (Qd.keep K5).keep ((Keep.refl NoF w5).alloc (.cells #[.int .i64 V, .slice A5 n5 c5, .int .i64 r5] 24))
          have Br_21 := Brn.alloc (.cells #[.int .i64 V, .slice A5 n5 c5, .int .i64 r5] 24)
          have Bres_21 := Bresn.alloc (.cells #[.int .i64 V, .slice A5 n5 c5, .int .i64 r5] 24)
          have Bx_21 := Bxn.alloc (.cells #[.int .i64 V, .slice A5 n5 c5, .int .i64 r5] 24)
          have Qx_21 := (Qx.keep K5).keep ((Keep.refl NoF w5).alloc (.cells #[.int .i64 V, .slice A5 n5 c5, .int .i64 r5] 24))
          have By_21 := Byn.alloc (.cells #[.int .i64 V, .slice A5 n5 c5, .int .i64 r5] 24)
          have Qy_21 := (Qy.keep K5).keep ((Keep.refl NoF w5).alloc (.cells #[.int .i64 V, .slice A5 n5 c5, .int .i64 r5] 24))
          have Bpart_21 := Bpartn.alloc (.cells #[.int .i64 V, .slice A5 n5 c5, .int .i64 r5] 24)
          have Fpp0_21 := (P0.keep K5).keep ((Keep.refl NoF w5).alloc (.cells #[.int .i64 V, .slice A5 n5 c5, .int .i64 r5] 24))
          have Fpp1_21 := (P1.keep K5).keep ((Keep.refl NoF w5).alloc (.cells #[.int .i64 V, .slice A5 n5 c5, .int .i64 r5] 24))
          have Bp_21 := Bk.new w5 24 #[.int .i64 V, .slice A5 n5 c5, .int .i64 r5]
          have Qp_21 := D5.keep ((Keep.refl NoF w5).alloc (.cells #[.int .i64 V, .slice A5 n5 c5, .int .i64 r5] 24))
          have Kw_21 : Keep NoF w (w5.alloc (.cells #[.int .i64 V, .slice A5 n5 c5, .int .i64 r5] 24)) := (Kw.trans K5 fun _ _ h => h).alloc _
          have Gp_21 : w.heap.size ≤ w5.heap.size := (Kw.trans K5 fun _ _ h => h).size
          generalize w5.alloc (.cells #[.int .i64 V, .slice A5 n5 c5, .int .i64 r5] 24) = W21 at *
          clear Bd Br Bres Bx By Bpart Qd Qx Qy Bdn Brn Bresn Bxn Byn Bpartn Kw D5 K5 P0 P1
          have hr2 := rd_restrict (i := i + 1) (t := false) (by omega) hV Qp_21
          rw [show ((i + 1 : Nat) : Int) = (i : Int) + 1 by omega] at hr2
          have HR2 := Lib.hid hr2
          clear hr2
          have cp0 : W21.cell? ⟨w5.heap.size, 0, none⟩ = some (.int .i64 V) := Bp_21.cell 0
          have cp1 : W21.cell? ⟨w5.heap.size, 1, none⟩ = some (.slice A5 n5 c5) := Bp_21.cell 1
          have cp2 : W21.cell? ⟨w5.heap.size, 2, none⟩ = some (.int .i64 r5) := Bp_21.cell 2
          go_wp2_with (go_at_call 45
                       (with_reducible refine (HR2.out).mono ?_)
                       rintro e w6 ⟨A6, n6, c6, r6, rfl, D6, K6⟩
                       have Bdn := Bd_21.keep K6 fun h => h
                       have Ldn := Bdn.lt
                       have Brn := Br_21.keep K6 fun h => h
                       have Lrn := Brn.lt
                       have Bresn := Bres_21.keep K6 fun h => h
                       have Lresn := Bresn.lt
                       have Bxn := Bx_21.keep K6 fun h => h
                       have Lxn := Bxn.lt
                       have Byn := By_21.keep K6 fun h => h
                       have Lyn := Byn.lt
                       have Bpartn := Bpart_21.keep K6 fun h => h
                       have Lpartn := Bpartn.lt
                       have Bpn := Bp_21.keep K6 fun h => h
                       have Lpn := Bpn.lt
                       have f6 := Bpartn.frozen 6
                       have f7 := Bpartn.frozen 7
                       have f8 := Bpartn.frozen 8
                       have e0 : w6.cell? ⟨bp, 6, none⟩ = some (.int .i64 q2.v) := (Bpartn.cell 6).trans rfl
                       have e1 : w6.cell? ⟨bp, 7, none⟩ = some (.slice q2.A q2.n q2.c) := (Bpartn.cell 7).trans rfl
                       have e2 : w6.cell? ⟨bp, 8, none⟩ = some (.int .i64 q2.r) := (Bpartn.cell 8).trans rfl)
          clear cp0 cp1 cp2
          go_roundw
          case rel =>
            have S3 : Keep (fun k => k = bp) w6 (((w6.setCell ⟨bp, 6, none⟩ (.int .i64 V)).setCell ⟨bp, 7, none⟩ (.slice A6 n6 c6)).setCell ⟨bp, 8, none⟩ (.int .i64 r6)) := (((Keep.refl (fun k => k = bp) _).setCell (.inl rfl) _).setCell (.inl rfl) _).setCell (.inl rfl) _
            have Bpn : Bk (((w6.setCell ⟨bp, 6, none⟩ (.int .i64 V)).setCell ⟨bp, 7, none⟩ (.slice A6 n6 c6)).setCell ⟨bp, 8, none⟩ (.int .i64 r6)) bp 53 (pc4 q0 q1 ⟨V, A6, n6, c6, r6⟩ q3) := (((Bpartn.put 6 (.int .i64 V)).put 7 (.slice A6 n6 c6)).put 8 (.int .i64 r6))
            have FG := fun {f : BF} {A : Option Addr} {n c r : Nat} (h : IsD w6 V f A n c r) => h.far_gen Bpartn (pc4_no _ _ _ _) S3
            exact ⟨3, q0, q1, ⟨V, A6, n6, c6, r6⟩, q3, by go_num, by omega, Brn.keep S3 fun h => by omega, Bresn.keep S3 fun h => by omega, Bdn.keep S3 fun h => by omega, Bxn.keep S3 fun h => by omega, Byn.keep S3 fun h => by omega, Bpn, FG (Qd_21.keep K6), FG (Qx_21.keep K6), FG (Qy_21.keep K6), fun _ => ⟨PV0.out, pr0, PE0.out, FG (Fpp0_21.keep K6)⟩, fun _ => ⟨PV1.out, pr1, PE1.out, FG (Fpp1_21.keep K6)⟩, fun _ => ⟨rfl, r6, rfl, FG D6⟩, fun h => absurd h (by omega), (Kw_21.trans K6 fun _ _ h => h).trans S3 fun i hi h => by omega⟩
          case measure => simp only [intOf]; omega
        · obtain ⟨pv0, pr0, pe0, P0⟩ := p0 (by omega)
          have PV0 := Lib.hid pv0
          have PE0 := Lib.hid pe0
          clear pv0 pe0
          obtain ⟨pv1, pr1, pe1, P1⟩ := p1 (by omega)
          have PV1 := Lib.hid pv1
          have PE1 := Lib.hid pe1
          clear pv1 pe1
          obtain ⟨pv2, pr2, pe2, P2⟩ := p2 (by omega)
          have PV2 := Lib.hid pv2
          have PE2 := Lib.hid pe2
          clear pv2 pe2
          clear p0 p1 p2 p3
          have t1 : (Int.tdiv 3 2 == 1) = true := by decide
          have t2 : (Int.tmod 3 2 == 1) = true := by decide
          have HR := Lib.hid (rd_restrict (i := i) (t := true) (by omega) hV Qd)
          have cd0 : wr.cell? ⟨bd, 0, none⟩ = some (.int .i64 V) := Bd.cell 0
          have cd1 : wr.cell? ⟨bd, 1, none⟩ = some (.slice A2 n2 c2) := Bd.cell 1
          have cd2 : wr.cell? ⟨bd, 2, none⟩ = some (.int .i64 r2) := Bd.cell 2
          go_upto_region 15 with (go_at_call 45
                                  (with_reducible refine (HR.out).mono ?_)
                                  rintro e w5 ⟨A5, n5, c5, r5, rfl, D5, K5⟩
                                  have Bdn := Bd.keep K5 fun h => h
                                  have Ldn := Bdn.lt
                                  have Brn := Br.keep K5 fun h => h
                                  have Lrn := Brn.lt
                                  have Bresn := Bres.keep K5 fun h => h
                                  have Lresn := Bresn.lt
                                  have Bxn := Bx.keep K5 fun h => h
                                  have Lxn := Bxn.lt
                                  have Byn := By.keep K5 fun h => h
                                  have Lyn := Byn.lt
                                  have Bpartn := Bpart.keep K5 fun h => h
                                  have Lpartn := Bpartn.lt)
          clear cd0 cd1 cd2
          have Bd_21 := Bdn.alloc (.cells #[.int .i64 V, .slice A5 n5 c5, .int .i64 r5] 24)
          have Qd_21 := (Qd.keep K5).keep ((Keep.refl NoF w5).alloc (.cells #[.int .i64 V, .slice A5 n5 c5, .int .i64 r5] 24))
          have Br_21 := Brn.alloc (.cells #[.int .i64 V, .slice A5 n5 c5, .int .i64 r5] 24)
          have Bres_21 := Bresn.alloc (.cells #[.int .i64 V, .slice A5 n5 c5, .int .i64 r5] 24)
          have Bx_21 := Bxn.alloc (.cells #[.int .i64 V, .slice A5 n5 c5, .int .i64 r5] 24)
          have Qx_21 := (Qx.keep K5).keep ((Keep.refl NoF w5).alloc (.cells #[.int .i64 V, .slice A5 n5 c5, .int .i64 r5] 24))
          have By_21 := Byn.alloc (.cells #[.int .i64 V, .slice A5 n5 c5, .int .i64 r5] 24)
          have Qy_21 := (Qy.keep K5).keep ((Keep.refl NoF w5).alloc (.cells #[.int .i64 V, .slice A5 n5 c5, .int .i64 r5] 24))
          have Bpart_21 := Bpartn.alloc (.cells #[.int .i64 V, .slice A5 n5 c5, .int .i64 r5] 24)
          have Fpp0_21 := (P0.keep K5).keep ((Keep.refl NoF w5).alloc (.cells #[.int .i64 V, .slice A5 n5 c5, .int .i64 r5] 24))
          have Fpp1_21 := (P1.keep K5).keep ((Keep.refl NoF w5).alloc (.cells #[.int .i64 V, .slice A5 n5 c5, .int .i64 r5] 24))
          have Fpp2_21 := (P2.keep K5).keep ((Keep.refl NoF w5).alloc (.cells #[.int .i64 V, .slice A5 n5 c5, .int .i64 r5] 24))
          have Bp_21 := Bk.new w5 24 #[.int .i64 V, .slice A5 n5 c5, .int .i64 r5]
          have Qp_21 := D5.keep ((Keep.refl NoF w5).alloc (.cells #[.int .i64 V, .slice A5 n5 c5, .int .i64 r5] 24))
          have Kw_21 : Keep NoF w (w5.alloc (.cells #[.int .i64 V, .slice A5 n5 c5, .int .i64 r5] 24)) := (Kw.trans K5 fun _ _ h => h).alloc _
          have Gp_21 : w.heap.size ≤ w5.heap.size := (Kw.trans K5 fun _ _ h => h).size
          generalize w5.alloc (.cells #[.int .i64 V, .slice A5 n5 c5, .int .i64 r5] 24) = W21 at *
          clear Bd Br Bres Bx By Bpart Qd Qx Qy Bdn Brn Bresn Bxn Byn Bpartn Kw D5 K5 P0 P1 P2
          have hr2 := rd_restrict (i := i + 1) (t := true) (by omega) hV Qp_21
          rw [show ((i + 1 : Nat) : Int) = (i : Int) + 1 by omega] at hr2
          have HR2 := Lib.hid hr2
          clear hr2
          have cp0 : W21.cell? ⟨w5.heap.size, 0, none⟩ = some (.int .i64 V) := Bp_21.cell 0
          have cp1 : W21.cell? ⟨w5.heap.size, 1, none⟩ = some (.slice A5 n5 c5) := Bp_21.cell 1
          have cp2 : W21.cell? ⟨w5.heap.size, 2, none⟩ = some (.int .i64 r5) := Bp_21.cell 2
          go_wp2_with (go_at_call 45
                       (with_reducible refine (HR2.out).mono ?_)
                       rintro e w6 ⟨A6, n6, c6, r6, rfl, D6, K6⟩
                       have Bdn := Bd_21.keep K6 fun h => h
                       have Ldn := Bdn.lt
                       have Brn := Br_21.keep K6 fun h => h
                       have Lrn := Brn.lt
                       have Bresn := Bres_21.keep K6 fun h => h
                       have Lresn := Bresn.lt
                       have Bxn := Bx_21.keep K6 fun h => h
                       have Lxn := Bxn.lt
                       have Byn := By_21.keep K6 fun h => h
                       have Lyn := Byn.lt
                       have Bpartn := Bpart_21.keep K6 fun h => h
                       have Lpartn := Bpartn.lt
                       have Bpn := Bp_21.keep K6 fun h => h
                       have Lpn := Bpn.lt
                       have f9 := Bpartn.frozen 9
                       have f10 := Bpartn.frozen 10
                       have f11 := Bpartn.frozen 11
                       have e0 : w6.cell? ⟨bp, 9, none⟩ = some (.int .i64 q3.v) := (Bpartn.cell 9).trans rfl
                       have e1 : w6.cell? ⟨bp, 10, none⟩ = some (.slice q3.A q3.n q3.c) := (Bpartn.cell 10).trans rfl
                       have e2 : w6.cell? ⟨bp, 11, none⟩ = some (.int .i64 q3.r) := (Bpartn.cell 11).trans rfl)
          clear cp0 cp1 cp2
          go_roundw
          case rel =>
            have S3 : Keep (fun k => k = bp) w6 (((w6.setCell ⟨bp, 9, none⟩ (.int .i64 V)).setCell ⟨bp, 10, none⟩ (.slice A6 n6 c6)).setCell ⟨bp, 11, none⟩ (.int .i64 r6)) := (((Keep.refl (fun k => k = bp) _).setCell (.inl rfl) _).setCell (.inl rfl) _).setCell (.inl rfl) _
            have Bpn : Bk (((w6.setCell ⟨bp, 9, none⟩ (.int .i64 V)).setCell ⟨bp, 10, none⟩ (.slice A6 n6 c6)).setCell ⟨bp, 11, none⟩ (.int .i64 r6)) bp 53 (pc4 q0 q1 q2 ⟨V, A6, n6, c6, r6⟩) := (((Bpartn.put 9 (.int .i64 V)).put 10 (.slice A6 n6 c6)).put 11 (.int .i64 r6))
            have FG := fun {f : BF} {A : Option Addr} {n c r : Nat} (h : IsD w6 V f A n c r) => h.far_gen Bpartn (pc4_no _ _ _ _) S3
            exact ⟨4, q0, q1, q2, ⟨V, A6, n6, c6, r6⟩, by go_num, by omega, Brn.keep S3 fun h => by omega, Bresn.keep S3 fun h => by omega, Bdn.keep S3 fun h => by omega, Bxn.keep S3 fun h => by omega, Byn.keep S3 fun h => by omega, Bpn, FG (Qd_21.keep K6), FG (Qx_21.keep K6), FG (Qy_21.keep K6), fun _ => ⟨PV0.out, pr0, PE0.out, FG (Fpp0_21.keep K6)⟩, fun _ => ⟨PV1.out, pr1, PE1.out, FG (Fpp1_21.keep K6)⟩, fun _ => ⟨PV2.out, pr2, PE2.out, FG (Fpp2_21.keep K6)⟩, fun _ => ⟨rfl, r6, rfl, FG D6⟩, (Kw_21.trans K6 fun _ _ h => h).trans S3 fun i hi h => by omega⟩
          case measure => simp only [intOf]; omega
        · obtain ⟨pv0, pr0, pe0, P0⟩ := p0 (by omega)
          have PV0 := Lib.hid pv0
          have PE0 := Lib.hid pe0
          clear pv0 pe0
          obtain ⟨pv1, pr1, pe1, P1⟩ := p1 (by omega)
          have PV1 := Lib.hid pv1
          have PE1 := Lib.hid pe1
          clear pv1 pe1
          obtain ⟨pv2, pr2, pe2, P2⟩ := p2 (by omega)
          have PV2 := Lib.hid pv2
          have PE2 := Lib.hid pe2
          clear pv2 pe2
          obtain ⟨pv3, pr3, pe3, P3⟩ := p3 (by omega)
          have PV3 := Lib.hid pv3
          have PE3 := Lib.hid pe3
          clear pv3 pe3
          clear p0 p1 p2 p3
          have HI := Lib.hid (rd_ite hV Qx P1 P0)
          have g10 : wr.cell? ⟨bp, 3, none⟩ = some (.int .i64 V) := by rw [Bpart.cell 3]; show some (Value.int .i64 q1.v) = _; rw [PV1.out]
          have g11 : wr.cell? ⟨bp, 4, none⟩ = some (.slice q1.A q1.n q1.c) := Bpart.cell 4
          have g12 : wr.cell? ⟨bp, 5, none⟩ = some (.int .i64 pr1) := by rw [Bpart.cell 5]; show some (Value.int .i64 q1.r) = _; rw [PE1.out]
          have g00 : wr.cell? ⟨bp, 0, none⟩ = some (.int .i64 V) := by rw [Bpart.cell 0]; show some (Value.int .i64 q0.v) = _; rw [PV0.out]
          have g01 : wr.cell? ⟨bp, 1, none⟩ = some (.slice q0.A q0.n q0.c) := Bpart.cell 1
          have g02 : wr.cell? ⟨bp, 2, none⟩ = some (.int .i64 pr0) := by rw [Bpart.cell 2]; show some (Value.int .i64 q0.r) = _; rw [PE0.out]
          have cx0 : wr.cell? ⟨bx, 0, none⟩ = some (.int .i64 V) := Bx.cell 0
          have cx1 : wr.cell? ⟨bx, 1, none⟩ = some (.slice A3 n3 c3) := Bx.cell 1
          have cx2 : wr.cell? ⟨bx, 2, none⟩ = some (.int .i64 r3) := Bx.cell 2
          go_upto_region 17 with (go_at_call 46
                                  (with_reducible refine (HI.out).mono ?_)
                                  rintro e w5 ⟨A5, n5, c5, r5, rfl, D5, K5⟩
                                  have Bdn := Bd.keep K5 fun h => h
                                  have Ldn := Bdn.lt
                                  have Brn := Br.keep K5 fun h => h
                                  have Lrn := Brn.lt
                                  have Bresn := Bres.keep K5 fun h => h
                                  have Lresn := Bresn.lt
                                  have Bxn := Bx.keep K5 fun h => h
                                  have Lxn := Bxn.lt
                                  have Byn := By.keep K5 fun h => h
                                  have Lyn := Byn.lt
                                  have Bpartn := Bpart.keep K5 fun h => h
                                  have Lpartn := Bpartn.lt)
          clear cx0 cx1 cx2
          have Bd_21 := Bdn.alloc (.cells #[.int .i64 V, .slice A5 n5 c5, .int .i64 r5] 24)
          have Qd_21 := (Qd.keep K5).keep ((Keep.refl NoF w5).alloc (.cells #[.int .i64 V, .slice A5 n5 c5, .int .i64 r5] 24))
          have Br_21 := Brn.alloc (.cells #[.int .i64 V, .slice A5 n5 c5, .int .i64 r5] 24)
          have Bres_21 := Bresn.alloc (.cells #[.int .i64 V, .slice A5 n5 c5, .int .i64 r5] 24)
          have Bx_21 := Bxn.alloc (.cells #[.int .i64 V, .slice A5 n5 c5, .int .i64 r5] 24)
          have Qx_21 := (Qx.keep K5).keep ((Keep.refl NoF w5).alloc (.cells #[.int .i64 V, .slice A5 n5 c5, .int .i64 r5] 24))
          have By_21 := Byn.alloc (.cells #[.int .i64 V, .slice A5 n5 c5, .int .i64 r5] 24)
          have Qy_21 := (Qy.keep K5).keep ((Keep.refl NoF w5).alloc (.cells #[.int .i64 V, .slice A5 n5 c5, .int .i64 r5] 24))
          have Bpart_21 := Bpartn.alloc (.cells #[.int .i64 V, .slice A5 n5 c5, .int .i64 r5] 24)
          have Fpp0_21 := (P0.keep K5).keep ((Keep.refl NoF w5).alloc (.cells #[.int .i64 V, .slice A5 n5 c5, .int .i64 r5] 24))
          have Fpp1_21 := (P1.keep K5).keep ((Keep.refl NoF w5).alloc (.cells #[.int .i64 V, .slice A5 n5 c5, .int .i64 r5] 24))
          have Fpp2_21 := (P2.keep K5).keep ((Keep.refl NoF w5).alloc (.cells #[.int .i64 V, .slice A5 n5 c5, .int .i64 r5] 24))
          have Fpp3_21 := (P3.keep K5).keep ((Keep.refl NoF w5).alloc (.cells #[.int .i64 V, .slice A5 n5 c5, .int .i64 r5] 24))
          have Blow_21 := Bk.new w5 24 #[.int .i64 V, .slice A5 n5 c5, .int .i64 r5]
          have Qlow_21 := D5.keep ((Keep.refl NoF w5).alloc (.cells #[.int .i64 V, .slice A5 n5 c5, .int .i64 r5] 24))
          have Kw_21 : Keep NoF w (w5.alloc (.cells #[.int .i64 V, .slice A5 n5 c5, .int .i64 r5] 24)) := (Kw.trans K5 fun _ _ h => h).alloc _
          have Glow_21 : w.heap.size ≤ w5.heap.size := (Kw.trans K5 fun _ _ h => h).size
          generalize w5.alloc (.cells #[.int .i64 V, .slice A5 n5 c5, .int .i64 r5] 24) = W21 at *
          clear Bd Br Bres Bx By Bpart Qd Qx Qy Bdn Brn Bresn Bxn Byn Bpartn Kw D5 K5 P0 P1 P2 P3
          clear g10 g11 g12 g00 g01 g02
          have HJ := Lib.hid (rd_ite hV Qx_21 Fpp3_21 Fpp2_21)
          have g30 : W21.cell? ⟨bp, 9, none⟩ = some (.int .i64 V) := by rw [Bpart_21.cell 9]; show some (Value.int .i64 q3.v) = _; rw [PV3.out]
          have g31 : W21.cell? ⟨bp, 10, none⟩ = some (.slice q3.A q3.n q3.c) := Bpart_21.cell 10
          have g32 : W21.cell? ⟨bp, 11, none⟩ = some (.int .i64 pr3) := by rw [Bpart_21.cell 11]; show some (Value.int .i64 q3.r) = _; rw [PE3.out]
          have g20 : W21.cell? ⟨bp, 6, none⟩ = some (.int .i64 V) := by rw [Bpart_21.cell 6]; show some (Value.int .i64 q2.v) = _; rw [PV2.out]
          have g21 : W21.cell? ⟨bp, 7, none⟩ = some (.slice q2.A q2.n q2.c) := Bpart_21.cell 7
          have g22 : W21.cell? ⟨bp, 8, none⟩ = some (.int .i64 pr2) := by rw [Bpart_21.cell 8]; show some (Value.int .i64 q2.r) = _; rw [PE2.out]
          have cx0 : W21.cell? ⟨bx, 0, none⟩ = some (.int .i64 V) := Bx_21.cell 0
          have cx1 : W21.cell? ⟨bx, 1, none⟩ = some (.slice A3 n3 c3) := Bx_21.cell 1
          have cx2 : W21.cell? ⟨bx, 2, none⟩ = some (.int .i64 r3) := Bx_21.cell 2
          go_upto_region 18 with (go_at_call 46
                                  (with_reducible refine (HJ.out).mono ?_)
                                  rintro e w6 ⟨A6, n6, c6, r6, rfl, D6, K6⟩
                                  have Bdn := Bd_21.keep K6 fun h => h
                                  have Ldn := Bdn.lt
                                  have Brn := Br_21.keep K6 fun h => h
                                  have Lrn := Brn.lt
                                  have Bresn := Bres_21.keep K6 fun h => h
                                  have Lresn := Bresn.lt
                                  have Bxn := Bx_21.keep K6 fun h => h
                                  have Lxn := Bxn.lt
                                  have Byn := By_21.keep K6 fun h => h
                                  have Lyn := Byn.lt
                                  have Bpartn := Bpart_21.keep K6 fun h => h
                                  have Lpartn := Bpartn.lt
                                  have Blown := Blow_21.keep K6 fun h => h
                                  have Llown := Blown.lt)
          clear cx0 cx1 cx2
          have Bd_22 := Bdn.alloc (.cells #[.int .i64 V, .slice A6 n6 c6, .int .i64 r6] 24)
          have Qd_22 := (Qd_21.keep K6).keep ((Keep.refl NoF w6).alloc (.cells #[.int .i64 V, .slice A6 n6 c6, .int .i64 r6] 24))
          have Br_22 := Brn.alloc (.cells #[.int .i64 V, .slice A6 n6 c6, .int .i64 r6] 24)
          have Bres_22 := Bresn.alloc (.cells #[.int .i64 V, .slice A6 n6 c6, .int .i64 r6] 24)
          have Bx_22 := Bxn.alloc (.cells #[.int .i64 V, .slice A6 n6 c6, .int .i64 r6] 24)
          have Qx_22 := (Qx_21.keep K6).keep ((Keep.refl NoF w6).alloc (.cells #[.int .i64 V, .slice A6 n6 c6, .int .i64 r6] 24))
          have By_22 := Byn.alloc (.cells #[.int .i64 V, .slice A6 n6 c6, .int .i64 r6] 24)
          have Qy_22 := (Qy_21.keep K6).keep ((Keep.refl NoF w6).alloc (.cells #[.int .i64 V, .slice A6 n6 c6, .int .i64 r6] 24))
          have Bpart_22 := Bpartn.alloc (.cells #[.int .i64 V, .slice A6 n6 c6, .int .i64 r6] 24)
          have Blow_22 := Blown.alloc (.cells #[.int .i64 V, .slice A6 n6 c6, .int .i64 r6] 24)
          have Qlow_22 := (Qlow_21.keep K6).keep ((Keep.refl NoF w6).alloc (.cells #[.int .i64 V, .slice A6 n6 c6, .int .i64 r6] 24))
          have Fpp0_22 := (Fpp0_21.keep K6).keep ((Keep.refl NoF w6).alloc (.cells #[.int .i64 V, .slice A6 n6 c6, .int .i64 r6] 24))
          have Fpp1_22 := (Fpp1_21.keep K6).keep ((Keep.refl NoF w6).alloc (.cells #[.int .i64 V, .slice A6 n6 c6, .int .i64 r6] 24))
          have Fpp2_22 := (Fpp2_21.keep K6).keep ((Keep.refl NoF w6).alloc (.cells #[.int .i64 V, .slice A6 n6 c6, .int .i64 r6] 24))
          have Fpp3_22 := (Fpp3_21.keep K6).keep ((Keep.refl NoF w6).alloc (.cells #[.int .i64 V, .slice A6 n6 c6, .int .i64 r6] 24))
          have Bhigh_22 := Bk.new w6 24 #[.int .i64 V, .slice A6 n6 c6, .int .i64 r6]
          have Qhigh_22 := D6.keep ((Keep.refl NoF w6).alloc (.cells #[.int .i64 V, .slice A6 n6 c6, .int .i64 r6] 24))
          have Kw_22 : Keep NoF w (w6.alloc (.cells #[.int .i64 V, .slice A6 n6 c6, .int .i64 r6] 24)) := (Kw_21.trans K6 fun _ _ h => h).alloc _
          have Ghigh_22 : w.heap.size ≤ w6.heap.size := (Kw_21.trans K6 fun _ _ h => h).size
          generalize w6.alloc (.cells #[.int .i64 V, .slice A6 n6 c6, .int .i64 r6] 24) = W22 at *
          clear Bd_21 Br_21 Bres_21 Bx_21 By_21 Bpart_21 Blow_21 Qd_21 Qx_21 Qy_21 Qlow_21 Bdn Brn Bresn Bxn Byn Bpartn Blown Kw_21 D6 K6 Fpp0_21 Fpp1_21 Fpp2_21 Fpp3_21
          clear g30 g31 g32 g20 g21 g22
          have HL := Lib.hid (rd_ite hV Qy_22 Qhigh_22 Qlow_22)
          have cy0 : W22.cell? ⟨bq, 0, none⟩ = some (.int .i64 V) := By_22.cell 0
          have cy1 : W22.cell? ⟨bq, 1, none⟩ = some (.slice A4 n4 c4) := By_22.cell 1
          have cy2 : W22.cell? ⟨bq, 2, none⟩ = some (.int .i64 r4) := By_22.cell 2
          have clow0 : W22.cell? ⟨w5.heap.size, 0, none⟩ = some (.int .i64 V) := Blow_22.cell 0
          have clow1 : W22.cell? ⟨w5.heap.size, 1, none⟩ = some (.slice A5 n5 c5) := Blow_22.cell 1
          have clow2 : W22.cell? ⟨w5.heap.size, 2, none⟩ = some (.int .i64 r5) := Blow_22.cell 2
          have chigh0 : W22.cell? ⟨w6.heap.size, 0, none⟩ = some (.int .i64 V) := Bhigh_22.cell 0
          have chigh1 : W22.cell? ⟨w6.heap.size, 1, none⟩ = some (.slice A6 n6 c6) := Bhigh_22.cell 1
          have chigh2 : W22.cell? ⟨w6.heap.size, 2, none⟩ = some (.int .i64 r6) := Bhigh_22.cell 2
          go_upto_region 21 with (go_at_call 46
                                  (with_reducible refine (HL.out).mono ?_)
                                  rintro e w7 ⟨A7, n7, c7, r7, rfl, D7, K7⟩
                                  have Bdn := Bd_22.keep K7 fun h => h
                                  have Ldn := Bdn.lt
                                  have Brn := Br_22.keep K7 fun h => h
                                  have Lrn := Brn.lt
                                  have Bresn := Bres_22.keep K7 fun h => h
                                  have Lresn := Bresn.lt
                                  have Bxn := Bx_22.keep K7 fun h => h
                                  have Lxn := Bxn.lt
                                  have Byn := By_22.keep K7 fun h => h
                                  have Lyn := Byn.lt
                                  have Bpartn := Bpart_22.keep K7 fun h => h
                                  have Lpartn := Bpartn.lt
                                  have Blown := Blow_22.keep K7 fun h => h
                                  have Llown := Blown.lt
                                  have Bhighn := Bhigh_22.keep K7 fun h => h
                                  have Lhighn := Bhighn.lt)
          clear cy0 cy1 cy2 clow0 clow1 clow2 chigh0 chigh1 chigh2
          have Bd_23 := Bdn.alloc (.cells #[.int .i64 V, .slice A7 n7 c7, .int .i64 r7] 24)
          have Qd_23 := (Qd_22.keep K7).keep ((Keep.refl NoF w7).alloc (.cells #[.int .i64 V, .slice A7 n7 c7, .int .i64 r7] 24))
          have Br_23 := Brn.alloc (.cells #[.int .i64 V, .slice A7 n7 c7, .int .i64 r7] 24)
          have Bres_23 := Bresn.alloc (.cells #[.int .i64 V, .slice A7 n7 c7, .int .i64 r7] 24)
          have Bx_23 := Bxn.alloc (.cells #[.int .i64 V, .slice A7 n7 c7, .int .i64 r7] 24)
          have Qx_23 := (Qx_22.keep K7).keep ((Keep.refl NoF w7).alloc (.cells #[.int .i64 V, .slice A7 n7 c7, .int .i64 r7] 24))
          have By_23 := Byn.alloc (.cells #[.int .i64 V, .slice A7 n7 c7, .int .i64 r7] 24)
          have Qy_23 := (Qy_22.keep K7).keep ((Keep.refl NoF w7).alloc (.cells #[.int .i64 V, .slice A7 n7 c7, .int .i64 r7] 24))
          have Bpart_23 := Bpartn.alloc (.cells #[.int .i64 V, .slice A7 n7 c7, .int .i64 r7] 24)
          have Blow_23 := Blown.alloc (.cells #[.int .i64 V, .slice A7 n7 c7, .int .i64 r7] 24)
          have Qlow_23 := (Qlow_22.keep K7).keep ((Keep.refl NoF w7).alloc (.cells #[.int .i64 V, .slice A7 n7 c7, .int .i64 r7] 24))
          have Bhigh_23 := Bhighn.alloc (.cells #[.int .i64 V, .slice A7 n7 c7, .int .i64 r7] 24)
          have Qhigh_23 := (Qhigh_22.keep K7).keep ((Keep.refl NoF w7).alloc (.cells #[.int .i64 V, .slice A7 n7 c7, .int .i64 r7] 24))
          have Fpp0_23 := (Fpp0_22.keep K7).keep ((Keep.refl NoF w7).alloc (.cells #[.int .i64 V, .slice A7 n7 c7, .int .i64 r7] 24))
          have Fpp1_23 := (Fpp1_22.keep K7).keep ((Keep.refl NoF w7).alloc (.cells #[.int .i64 V, .slice A7 n7 c7, .int .i64 r7] 24))
          have Fpp2_23 := (Fpp2_22.keep K7).keep ((Keep.refl NoF w7).alloc (.cells #[.int .i64 V, .slice A7 n7 c7, .int .i64 r7] 24))
          have Fpp3_23 := (Fpp3_22.keep K7).keep ((Keep.refl NoF w7).alloc (.cells #[.int .i64 V, .slice A7 n7 c7, .int .i64 r7] 24))
          have Bc_23 := Bk.new w7 24 #[.int .i64 V, .slice A7 n7 c7, .int .i64 r7]
          have Qc_23 := D7.keep ((Keep.refl NoF w7).alloc (.cells #[.int .i64 V, .slice A7 n7 c7, .int .i64 r7] 24))
          have Kw_23 : Keep NoF w (w7.alloc (.cells #[.int .i64 V, .slice A7 n7 c7, .int .i64 r7] 24)) := (Kw_22.trans K7 fun _ _ h => h).alloc _
          have Gc_23 : w.heap.size ≤ w7.heap.size := (Kw_22.trans K7 fun _ _ h => h).size
          generalize w7.alloc (.cells #[.int .i64 V, .slice A7 n7 c7, .int .i64 r7] 24) = W23 at *
          clear Bd_22 Br_22 Bres_22 Bx_22 By_22 Bpart_22 Blow_22 Bhigh_22 Qd_22 Qx_22 Qy_22 Qlow_22 Qhigh_22 Bdn Brn Bresn Bxn Byn Bpartn Blown Bhighn Kw_22 D7 K7 Fpp0_22 Fpp1_22 Fpp2_22 Fpp3_22
          have a0 : W23.cell? ⟨w7.heap.size, 0, none⟩ = some (.int .i64 V) := Bc_23.cell 0
          have a1 : W23.cell? ⟨w7.heap.size, 1, none⟩ = some (.slice A7 n7 c7) := Bc_23.cell 1
          have a2 : W23.cell? ⟨w7.heap.size, 2, none⟩ = some (.int .i64 r7) := Bc_23.cell 2
          have b0 : W23.cell? ⟨bd, 0, none⟩ = some (.int .i64 V) := Bd_23.cell 0
          have b1 : W23.cell? ⟨bd, 1, none⟩ = some (.slice A2 n2 c2) := Bd_23.cell 1
          have b2 : W23.cell? ⟨bd, 2, none⟩ = some (.int .i64 r2) := Bd_23.cell 2
          have bf0 := Bd_23.frozen 0
          have bf1 := Bd_23.frozen 1
          have bf2 := Bd_23.frozen 2
          have ldd := Bd_23.lt
          go_wp2
          go_roundw
          case rel =>
            obtain ⟨s1, s2, S3⟩ := set3_box Bd_23 sl_nint Qc_23
            exact ⟨i + 2, A7, n7, c7, r7, by go_num, by omega, by omega, s1, s2.congr fun ρ => (sw1_ite2 i F ρ).trans (HSJ.out ρ), Br_23.keep S3 fun h => by omega, Bres_23.keep S3 fun h => by omega, Kw_23.trans S3 fun i hi h => by omega⟩
          case measure => simp only [intOf]; omega
    · have hnlt : ¬ (i : Int) + 1 < (V : Int) := by omega
      obtain rfl : i = V := by omega
      have cr0 : wr.cell? ⟨w.heap.size, 0, none⟩ = some (.int .i64 i) := Br.cell 0
      have cr1 : wr.cell? ⟨w.heap.size, 1, none⟩ = some (.slice A1 n1 c1) := Br.cell 1
      have cr2 : wr.cell? ⟨w.heap.size, 2, none⟩ = some (.int .i64 r1) := Br.cell 2
      have cd0 : wr.cell? ⟨bd, 0, none⟩ = some (.int .i64 i) := Bd.cell 0
      have cd1 : wr.cell? ⟨bd, 1, none⟩ = some (.slice A2 n2 c2) := Bd.cell 1
      have cd2 : wr.cell? ⟨bd, 2, none⟩ = some (.int .i64 r2) := Bd.cell 2
      have hlt2 := Bd.lt
      have hlt3 := Bres.lt
      have z0 : wr.cell? ⟨w.heap.size + 1, 0, none⟩ = some (.int .i64 0) := Bres.cell 0
      have z1 : wr.cell? ⟨w.heap.size + 1, 1, none⟩ = some (.slice none 0 0) := Bres.cell 1
      have z2 : wr.cell? ⟨w.heap.size + 1, 2, none⟩ = some (.int .i64 0) := Bres.cell 2
      have zf0 := Bres.frozen 0
      have zf1 := Bres.frozen 1
      have zf2 := Bres.frozen 2
      go_wp2
      obtain ⟨s1, s2, S3⟩ := set3_box Bres sl_nint Qd
      have hKf : Keep NoF w (((wr.setCell ⟨w.heap.size + 1, 0, none⟩ (.int .i64 i)).setCell ⟨w.heap.size + 1, 1, none⟩ (.slice A2 n2 c2)).setCell ⟨w.heap.size + 1, 2, none⟩ (.int .i64 r2)) := Kw.trans S3 fun i hi h => by omega
      generalize (((wr.setCell ⟨w.heap.size + 1, 0, none⟩ (.int .i64 i)).setCell ⟨w.heap.size + 1, 1, none⟩ (.slice A2 n2 c2)).setCell ⟨w.heap.size + 1, 2, none⟩ (.int .i64 r2)) = W6 at *
      have h0 : W6.cell? ⟨w.heap.size + 1, 0, none⟩ = some (.int .i64 i) := s1.cell 0
      have h1 : W6.cell? ⟨w.heap.size + 1, 1, none⟩ = some (.slice A2 n2 c2) := s1.cell 1
      have h2 : W6.cell? ⟨w.heap.size + 1, 2, none⟩ = some (.int .i64 r2) := s1.cell 2
      refine bodyPost_ret (v := .tuple #[.agg #[.int .i64 i, .slice A2 n2 c2, .int .i64 r2], .int .i64 0]) (by simp [results, Tryz.results16, go_sem, h0, h1, h2]) rfl ?_
      exact ⟨A2, n2, c2, r2, rfl, s2, hKf⟩
end
end Go.Proofs.YtgdmcidcappkpaaGreat
namespace Go.Proofs.YtgdmcidcappkpaaGreat
open Go.RowKit

section
set_option maxRecDepth 100000
set_option maxHeartbeats 4000000
theorem rImage_bad (d s : Dg) (w : World) (hd : d.In w) (hs : s.In w) (h : pairE d s ≠ 0) : Calls Tryz.prog 10 #[d.val, s.val] w fun e w' => e = .returned (.tuple #[dgZero, .int .i64 (pairE d s)]) ∧ Keep NoF w w' := by
  have HB0 := Lib.hid fun W (hK : Keep NoF w W) => rtwo_any d s W ⟨hd.1.kept hK fun _ _ h => h, hd.2⟩ ⟨hs.1.kept hK fun _ _ h => h, hs.2⟩
  generalize pairE d s = T at *
  have hd1 := hd.1
  have hs1 := hs.1
  clear hd hs
  obtain ⟨dV, dR, dr, dsl⟩ := d
  obtain ⟨sV, sR, sr, ssl⟩ := s
  simp only at hd1 hs1
  obtain ⟨_, A1, c1, rfl, _, _⟩ := hd1
  obtain ⟨_, A2, c2, rfl, _, _⟩ := hs1
  have HB : Hid (∀ W, Keep NoF w W → Calls Tryz.prog 33 #[.agg #[.int .i64 dV, .slice A1 dR.length c1, .int .i64 dr], .agg #[.int .i64 sV, .slice A2 sR.length c2, .int .i64 sr]] W fun e w' => e = .returned (.int .i64 T) ∧ Keep NoF W w') := Lib.hid HB0.out
  clear HB0
  have hE : (T != 0) = true := by rw [bne_iff_ne]; exact h
  show Calls Tryz.prog 10 #[.agg #[.int .i64 dV, .slice A1 dR.length c1, .int .i64 dr], .agg #[.int .i64 sV, .slice A2 sR.length c2, .int .i64 sr]] w _
  go_enter Tryz.func10, Tryz.ntmps10
  go_upto_region 1 with (fail)
  have Bd := ((Bk.new w 24 #[.int .i64 dV, .slice A1 dR.length c1, .int .i64 dr]).alloc (.cells #[.int .i64 sV, .slice A2 sR.length c2, .int .i64 sr] 24)).alloc (.cells #[.int .i64 0, .slice none 0 0, .int .i64 0] 24)
  have Bs := (Bk.new (w.alloc (.cells #[.int .i64 dV, .slice A1 dR.length c1, .int .i64 dr] 24)) 24 #[.int .i64 sV, .slice A2 sR.length c2, .int .i64 sr]).alloc (.cells #[.int .i64 0, .slice none 0 0, .int .i64 0] 24)
  have Bz := Bk.new ((w.alloc (.cells #[.int .i64 dV, .slice A1 dR.length c1, .int .i64 dr] 24)).alloc (.cells #[.int .i64 sV, .slice A2 sR.length c2, .int .i64 sr] 24)) 24 #[.int .i64 0, .slice none 0 0, .int .i64 0]
  simp only [World.size_alloc, Nat.add_assoc, Nat.reduceAdd] at Bs Bz
  have Kw : Keep NoF w (((w.alloc (.cells #[.int .i64 dV, .slice A1 dR.length c1, .int .i64 dr] 24)).alloc (.cells #[.int .i64 sV, .slice A2 sR.length c2, .int .i64 sr] 24)).alloc (.cells #[.int .i64 0, .slice none 0 0, .int .i64 0] 24)) := (((Keep.refl NoF w).alloc _).alloc _).alloc _
  generalize ((w.alloc (.cells #[.int .i64 dV, .slice A1 dR.length c1, .int .i64 dr] 24)).alloc (.cells #[.int .i64 sV, .slice A2 sR.length c2, .int .i64 sr] 24)).alloc (.cells #[.int .i64 0, .slice none 0 0, .int .i64 0] 24) = W0 at *
  have cr0 := Bd.cell 0
  have cr1 := Bd.cell 1
  have cr2 := Bd.cell 2
  have cs0 := Bs.cell 0
  have cs1 := Bs.cell 1
  have cs2 := Bs.cell 2
  have lz := Bz.lt
  go_wp2_with (go_at_call 33
               (with_reducible refine (HB.out _ Kw).mono ?_)
               rintro e wz ⟨rfl, KZ⟩
               have Bzn := Bz.keep KZ fun h => h
               have y0 := Bzn.cell 0
               have y1 := Bzn.cell 1
               have y2 := Bzn.cell 2
               have yf0 := Bzn.frozen 0
               have yf1 := Bzn.frozen 1
               have yf2 := Bzn.frozen 2)
  have s1 : Bk _ (w.heap.size + 2) 24 #[.int .i64 0, .slice none 0 0, .int .i64 0] := ((Bzn.put 0 (.int .i64 0)).put 1 (.slice none 0 0)).put 2 (.int .i64 0)
  have s3 := (Kw.trans KZ fun _ _ h => h).trans (keep_set3 wz (w.heap.size + 2) (.int .i64 0) (.slice none 0 0) (.int .i64 0)) fun k hk h => by omega
  generalize (((wz.setCell ⟨w.heap.size + 2, 0, none⟩ (.int .i64 0)).setCell ⟨w.heap.size + 2, 1, none⟩ (.slice none 0 0)).setCell ⟨w.heap.size + 2, 2, none⟩ (.int .i64 0)) = W6 at *
  have h0 := s1.cell 0
  have h1 := s1.cell 1
  have h2 := s1.cell 2
  refine bodyPost_ret (v := .tuple #[dgZero, .int .i64 T]) (by simp [results, Tryz.results10, go_sem, dgZero, h0, h1, h2]) rfl ?_
  exact ⟨rfl, s3⟩
theorem rPre_bad (d s : Dg) (w : World) (hd : d.In w) (hs : s.In w) (h : pairE d s ≠ 0) : Calls Tryz.prog 12 #[d.val, s.val] w fun e w' => e = .returned (.tuple #[dgZero, .int .i64 (pairE d s)]) ∧ Keep NoF w w' := by
  have HB0 := Lib.hid fun W (hK : Keep NoF w W) => rtwo_any d s W ⟨hd.1.kept hK fun _ _ h => h, hd.2⟩ ⟨hs.1.kept hK fun _ _ h => h, hs.2⟩
  generalize pairE d s = T at *
  have hd1 := hd.1
  have hs1 := hs.1
  clear hd hs
  obtain ⟨dV, dR, dr, dsl⟩ := d
  obtain ⟨sV, sR, sr, ssl⟩ := s
  simp only at hd1 hs1
  obtain ⟨_, A1, c1, rfl, _, _⟩ := hd1
  obtain ⟨_, A2, c2, rfl, _, _⟩ := hs1
  have HB : Hid (∀ W, Keep NoF w W → Calls Tryz.prog 33 #[.agg #[.int .i64 dV, .slice A1 dR.length c1, .int .i64 dr], .agg #[.int .i64 sV, .slice A2 sR.length c2, .int .i64 sr]] W fun e w' => e = .returned (.int .i64 T) ∧ Keep NoF W w') := Lib.hid HB0.out
  clear HB0
  have hE : (T != 0) = true := by rw [bne_iff_ne]; exact h
  show Calls Tryz.prog 12 #[.agg #[.int .i64 dV, .slice A1 dR.length c1, .int .i64 dr], .agg #[.int .i64 sV, .slice A2 sR.length c2, .int .i64 sr]] w _
  go_enter Tryz.func12, Tryz.ntmps12
  go_upto_region 1 with (fail)
  have Bd := ((Bk.new w 24 #[.int .i64 dV, .slice A1 dR.length c1, .int .i64 dr]).alloc (.cells #[.int .i64 sV, .slice A2 sR.length c2, .int .i64 sr] 24)).alloc (.cells #[.int .i64 0, .slice none 0 0, .int .i64 0] 24)
  have Bs := (Bk.new (w.alloc (.cells #[.int .i64 dV, .slice A1 dR.length c1, .int .i64 dr] 24)) 24 #[.int .i64 sV, .slice A2 sR.length c2, .int .i64 sr]).alloc (.cells #[.int .i64 0, .slice none 0 0, .int .i64 0] 24)
  have Bz := Bk.new ((w.alloc (.cells #[.int .i64 dV, .slice A1 dR.length c1, .int .i64 dr] 24)).alloc (.cells #[.int .i64 sV, .slice A2 sR.length c2, .int .i64 sr] 24)) 24 #[.int .i64 0, .slice none 0 0, .int .i64 0]
  simp only [World.size_alloc, Nat.add_assoc, Nat.reduceAdd] at Bs Bz
  have Kw : Keep NoF w (((w.alloc (.cells #[.int .i64 dV, .slice A1 dR.length c1, .int .i64 dr] 24)).alloc (.cells #[.int .i64 sV, .slice A2 sR.length c2, .int .i64 sr] 24)).alloc (.cells #[.int .i64 0, .slice none 0 0, .int .i64 0] 24)) := (((Keep.refl NoF w).alloc _).alloc _).alloc _
  generalize ((w.alloc (.cells #[.int .i64 dV, .slice A1 dR.length c1, .int .i64 dr] 24)).alloc (.cells #[.int .i64 sV, .slice A2 sR.length c2, .int .i64 sr] 24)).alloc (.cells #[.int .i64 0, .slice none 0 0, .int .i64 0] 24) = W0 at *
  have cr0 := Bd.cell 0
  have cr1 := Bd.cell 1
  have cr2 := Bd.cell 2
  have cs0 := Bs.cell 0
  have cs1 := Bs.cell 1
  have cs2 := Bs.cell 2
  have lz := Bz.lt
  go_wp2_with (go_at_call 33
               (with_reducible refine (HB.out _ Kw).mono ?_)
               rintro e wz ⟨rfl, KZ⟩
               have Bzn := Bz.keep KZ fun h => h
               have y0 := Bzn.cell 0
               have y1 := Bzn.cell 1
               have y2 := Bzn.cell 2
               have yf0 := Bzn.frozen 0
               have yf1 := Bzn.frozen 1
               have yf2 := Bzn.frozen 2)
  have s1 : Bk _ (w.heap.size + 2) 24 #[.int .i64 0, .slice none 0 0, .int .i64 0] := ((Bzn.put 0 (.int .i64 0)).put 1 (.slice none 0 0)).put 2 (.int .i64 0)
  have s3 := (Kw.trans KZ fun _ _ h => h).trans (keep_set3 wz (w.heap.size + 2) (.int .i64 0) (.slice none 0 0) (.int .i64 0)) fun k hk h => by omega
  generalize (((wz.setCell ⟨w.heap.size + 2, 0, none⟩ (.int .i64 0)).setCell ⟨w.heap.size + 2, 1, none⟩ (.slice none 0 0)).setCell ⟨w.heap.size + 2, 2, none⟩ (.int .i64 0)) = W6 at *
  have h0 := s1.cell 0
  have h1 := s1.cell 1
  have h2 := s1.cell 2
  refine bodyPost_ret (v := .tuple #[dgZero, .int .i64 T]) (by simp [results, Tryz.results12, go_sem, dgZero, h0, h1, h2]) rfl ?_
  exact ⟨rfl, s3⟩
theorem rBox_bad (d s : Dg) (w : World) (hd : d.In w) (hs : s.In w) (h : pairE d s ≠ 0) : Calls Tryz.prog 14 #[d.val, s.val] w fun e w' => e = .returned (.tuple #[dgZero, .int .i64 (pairE d s)]) ∧ Keep NoF w w' := by
  have HB0 := Lib.hid fun W (hK : Keep NoF w W) => rtwo_any d s W ⟨hd.1.kept hK fun _ _ h => h, hd.2⟩ ⟨hs.1.kept hK fun _ _ h => h, hs.2⟩
  generalize pairE d s = T at *
  have hd1 := hd.1
  have hs1 := hs.1
  clear hd hs
  obtain ⟨dV, dR, dr, dsl⟩ := d
  obtain ⟨sV, sR, sr, ssl⟩ := s
  simp only at hd1 hs1
  obtain ⟨_, A1, c1, rfl, _, _⟩ := hd1
  obtain ⟨_, A2, c2, rfl, _, _⟩ := hs1
  have HB : Hid (∀ W, Keep NoF w W → Calls Tryz.prog 33 #[.agg #[.int .i64 dV, .slice A1 dR.length c1, .int .i64 dr], .agg #[.int .i64 sV, .slice A2 sR.length c2, .int .i64 sr]] W fun e w' => e = .returned (.int .i64 T) ∧ Keep NoF W w') := Lib.hid HB0.out
  clear HB0
  have hE : (T != 0) = true := by rw [bne_iff_ne]; exact h
  show Calls Tryz.prog 14 #[.agg #[.int .i64 dV, .slice A1 dR.length c1, .int .i64 dr], .agg #[.int .i64 sV, .slice A2 sR.length c2, .int .i64 sr]] w _
  go_enter Tryz.func14, Tryz.ntmps14
  go_upto_region 1 with (fail)
  have Bd := ((Bk.new w 24 #[.int .i64 dV, .slice A1 dR.length c1, .int .i64 dr]).alloc (.cells #[.int .i64 sV, .slice A2 sR.length c2, .int .i64 sr] 24)).alloc (.cells #[.int .i64 0, .slice none 0 0, .int .i64 0] 24)
  have Bs := (Bk.new (w.alloc (.cells #[.int .i64 dV, .slice A1 dR.length c1, .int .i64 dr] 24)) 24 #[.int .i64 sV, .slice A2 sR.length c2, .int .i64 sr]).alloc (.cells #[.int .i64 0, .slice none 0 0, .int .i64 0] 24)
  have Bz := Bk.new ((w.alloc (.cells #[.int .i64 dV, .slice A1 dR.length c1, .int .i64 dr] 24)).alloc (.cells #[.int .i64 sV, .slice A2 sR.length c2, .int .i64 sr] 24)) 24 #[.int .i64 0, .slice none 0 0, .int .i64 0]
  simp only [World.size_alloc, Nat.add_assoc, Nat.reduceAdd] at Bs Bz
  have Kw : Keep NoF w (((w.alloc (.cells #[.int .i64 dV, .slice A1 dR.length c1, .int .i64 dr] 24)).alloc (.cells #[.int .i64 sV, .slice A2 sR.length c2, .int .i64 sr] 24)).alloc (.cells #[.int .i64 0, .slice none 0 0, .int .i64 0] 24)) := (((Keep.refl NoF w).alloc _).alloc _).alloc _
  generalize ((w.alloc (.cells #[.int .i64 dV, .slice A1 dR.length c1, .int .i64 dr] 24)).alloc (.cells #[.int .i64 sV, .slice A2 sR.length c2, .int .i64 sr] 24)).alloc (.cells #[.int .i64 0, .slice none 0 0, .int .i64 0] 24) = W0 at *
  have cr0 := Bd.cell 0
  have cr1 := Bd.cell 1
  have cr2 := Bd.cell 2
  have cs0 := Bs.cell 0
  have cs1 := Bs.cell 1
  have cs2 := Bs.cell 2
  have lz := Bz.lt
  go_wp2_with (go_at_call 33
               (with_reducible refine (HB.out _ Kw).mono ?_)
               rintro e wz ⟨rfl, KZ⟩
               have Bzn := Bz.keep KZ fun h => h
               have y0 := Bzn.cell 0
               have y1 := Bzn.cell 1
               have y2 := Bzn.cell 2
               have yf0 := Bzn.frozen 0
               have yf1 := Bzn.frozen 1
               have yf2 := Bzn.frozen 2)
  have s1 : Bk _ (w.heap.size + 2) 24 #[.int .i64 0, .slice none 0 0, .int .i64 0] := ((Bzn.put 0 (.int .i64 0)).put 1 (.slice none 0 0)).put 2 (.int .i64 0)
  have s3 := (Kw.trans KZ fun _ _ h => h).trans (keep_set3 wz (w.heap.size + 2) (.int .i64 0) (.slice none 0 0) (.int .i64 0)) fun k hk h => by omega
  generalize (((wz.setCell ⟨w.heap.size + 2, 0, none⟩ (.int .i64 0)).setCell ⟨w.heap.size + 2, 1, none⟩ (.slice none 0 0)).setCell ⟨w.heap.size + 2, 2, none⟩ (.int .i64 0)) = W6 at *
  have h0 := s1.cell 0
  have h1 := s1.cell 1
  have h2 := s1.cell 2
  refine bodyPost_ret (v := .tuple #[dgZero, .int .i64 T]) (by simp [results, Tryz.results14, go_sem, dgZero, h0, h1, h2]) rfl ?_
  exact ⟨rfl, s3⟩
theorem rPrime_bad (d : Dg) (w : World) (hd : d.In w) (h : setE d ≠ 0) : Calls Tryz.prog 7 #[d.val] w fun e w' => e = .returned (.tuple #[dgZero, .int .i64 (setE d)]) ∧ Keep NoF w w' := by
  have HB0 := Lib.hid fun W (hK : Keep NoF w W) => rsetErr_any d W ⟨hd.1.kept hK fun _ _ h => h, hd.2⟩
  generalize setE d = T at *
  have hd1 := hd.1
  clear hd
  obtain ⟨dV, dR, dr, dsl⟩ := d
  simp only at hd1
  obtain ⟨_, A1, c1, rfl, _, _⟩ := hd1
  have HB : Hid (∀ W, Keep NoF w W → Calls Tryz.prog 29 #[.agg #[.int .i64 dV, .slice A1 dR.length c1, .int .i64 dr]] W fun e w' => e = .returned (.int .i64 T) ∧ Keep NoF W w') := Lib.hid HB0.out
  clear HB0
  have hE : (T != 0) = true := by rw [bne_iff_ne]; exact h
  show Calls Tryz.prog 7 #[.agg #[.int .i64 dV, .slice A1 dR.length c1, .int .i64 dr]] w _
  go_enter Tryz.func7, Tryz.ntmps7
  go_upto_region 1 with (fail)
  have Bd := (Bk.new w 24 #[.int .i64 dV, .slice A1 dR.length c1, .int .i64 dr]).alloc (.cells #[.int .i64 0, .slice none 0 0, .int .i64 0] 24)
  have Bz := Bk.new (w.alloc (.cells #[.int .i64 dV, .slice A1 dR.length c1, .int .i64 dr] 24)) 24 #[.int .i64 0, .slice none 0 0, .int .i64 0]
  simp only [World.size_alloc, Nat.add_assoc, Nat.reduceAdd] at Bz
  have Kw : Keep NoF w ((w.alloc (.cells #[.int .i64 dV, .slice A1 dR.length c1, .int .i64 dr] 24)).alloc (.cells #[.int .i64 0, .slice none 0 0, .int .i64 0] 24)) := ((Keep.refl NoF w).alloc _).alloc _
  generalize (w.alloc (.cells #[.int .i64 dV, .slice A1 dR.length c1, .int .i64 dr] 24)).alloc (.cells #[.int .i64 0, .slice none 0 0, .int .i64 0] 24) = W0 at *
  have cr0 := Bd.cell 0
  have cr1 := Bd.cell 1
  have cr2 := Bd.cell 2
  go_wp2_with (go_at_call 29
               (with_reducible refine (HB.out _ Kw).mono ?_)
               rintro e wz ⟨rfl, KZ⟩
               have Bzn := Bz.keep KZ fun h => h
               have y0 := Bzn.cell 0
               have y1 := Bzn.cell 1
               have y2 := Bzn.cell 2
               have yf0 := Bzn.frozen 0
               have yf1 := Bzn.frozen 1
               have yf2 := Bzn.frozen 2)
  have s1 : Bk _ (w.heap.size + 1) 24 #[.int .i64 0, .slice none 0 0, .int .i64 0] := ((Bzn.put 0 (.int .i64 0)).put 1 (.slice none 0 0)).put 2 (.int .i64 0)
  have s3 := (Kw.trans KZ fun _ _ h => h).trans (keep_set3 wz (w.heap.size + 1) (.int .i64 0) (.slice none 0 0) (.int .i64 0)) fun k hk h => by omega
  generalize (((wz.setCell ⟨w.heap.size + 1, 0, none⟩ (.int .i64 0)).setCell ⟨w.heap.size + 1, 1, none⟩ (.slice none 0 0)).setCell ⟨w.heap.size + 1, 2, none⟩ (.int .i64 0)) = W6 at *
  have h0 := s1.cell 0
  have h1 := s1.cell 1
  have h2 := s1.cell 2
  refine bodyPost_ret (v := .tuple #[dgZero, .int .i64 T]) (by simp [results, Tryz.results7, go_sem, dgZero, h0, h1, h2]) rfl ?_
  exact ⟨rfl, s3⟩
theorem rConverse_bad (d : Dg) (w : World) (hd : d.In w) (h : relE d ≠ 0) : Calls Tryz.prog 16 #[d.val] w fun e w' => e = .returned (.tuple #[dgZero, .int .i64 (relE d)]) ∧ Keep NoF w w' := by
  have HB0 := Lib.hid fun W (hK : Keep NoF w W) => rrelErr_any d W ⟨hd.1.kept hK fun _ _ h => h, hd.2⟩
  generalize relE d = T at *
  have hd1 := hd.1
  clear hd
  obtain ⟨dV, dR, dr, dsl⟩ := d
  simp only at hd1
  obtain ⟨_, A1, c1, rfl, _, _⟩ := hd1
  have HB : Hid (∀ W, Keep NoF w W → Calls Tryz.prog 43 #[.agg #[.int .i64 dV, .slice A1 dR.length c1, .int .i64 dr]] W fun e w' => e = .returned (.int .i64 T) ∧ Keep NoF W w') := Lib.hid HB0.out
  clear HB0
  have hE : (T != 0) = true := by rw [bne_iff_ne]; exact h
  show Calls Tryz.prog 16 #[.agg #[.int .i64 dV, .slice A1 dR.length c1, .int .i64 dr]] w _
  go_enter Tryz.func16, Tryz.ntmps16
  go_upto_region 1 with (fail)
  have Bd := (Bk.new w 24 #[.int .i64 dV, .slice A1 dR.length c1, .int .i64 dr]).alloc (.cells #[.int .i64 0, .slice none 0 0, .int .i64 0] 24)
  have Bz := Bk.new (w.alloc (.cells #[.int .i64 dV, .slice A1 dR.length c1, .int .i64 dr] 24)) 24 #[.int .i64 0, .slice none 0 0, .int .i64 0]
  simp only [World.size_alloc, Nat.add_assoc, Nat.reduceAdd] at Bz
  have Kw : Keep NoF w ((w.alloc (.cells #[.int .i64 dV, .slice A1 dR.length c1, .int .i64 dr] 24)).alloc (.cells #[.int .i64 0, .slice none 0 0, .int .i64 0] 24)) := ((Keep.refl NoF w).alloc _).alloc _
  generalize (w.alloc (.cells #[.int .i64 dV, .slice A1 dR.length c1, .int .i64 dr] 24)).alloc (.cells #[.int .i64 0, .slice none 0 0, .int .i64 0] 24) = W0 at *
  have cr0 := Bd.cell 0
  have cr1 := Bd.cell 1
  have cr2 := Bd.cell 2
  go_wp2_with (go_at_call 43
               (with_reducible refine (HB.out _ Kw).mono ?_)
               rintro e wz ⟨rfl, KZ⟩
               have Bzn := Bz.keep KZ fun h => h
               have y0 := Bzn.cell 0
               have y1 := Bzn.cell 1
               have y2 := Bzn.cell 2
               have yf0 := Bzn.frozen 0
               have yf1 := Bzn.frozen 1
               have yf2 := Bzn.frozen 2)
  have s1 : Bk _ (w.heap.size + 1) 24 #[.int .i64 0, .slice none 0 0, .int .i64 0] := ((Bzn.put 0 (.int .i64 0)).put 1 (.slice none 0 0)).put 2 (.int .i64 0)
  have s3 := (Kw.trans KZ fun _ _ h => h).trans (keep_set3 wz (w.heap.size + 1) (.int .i64 0) (.slice none 0 0) (.int .i64 0)) fun k hk h => by omega
  generalize (((wz.setCell ⟨w.heap.size + 1, 0, none⟩ (.int .i64 0)).setCell ⟨w.heap.size + 1, 1, none⟩ (.slice none 0 0)).setCell ⟨w.heap.size + 1, 2, none⟩ (.int .i64 0)) = W6 at *
  have h0 := s1.cell 0
  have h1 := s1.cell 1
  have h2 := s1.cell 2
  refine bodyPost_ret (v := .tuple #[dgZero, .int .i64 T]) (by simp [results, Tryz.results16, go_sem, dgZero, h0, h1, h2]) rfl ?_
  exact ⟨rfl, s3⟩
end
end Go.Proofs.YtgdmcidcappkpaaGreat
