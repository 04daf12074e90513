/- The reference's Pre and Box. No condition. -/
import Derived.Test.YtgdmcidcappkpaaGreatSzAB
import Derived.Deep.RegionHeld3
set_option linter.unusedVariables false
set_option linter.unusedSimpArgs false
namespace Go.Proofs.YtgdmcidcappkpaaGreat
open Go.RowKit
open Dd (imF prF boF odN upF qf)

section
set_option maxRecDepth 100000
set_option maxHeartbeats 40000000
theorem rPre_ok {f g : BF} {V : Nat} (hV : V ≤ 12) (he : V % 2 = 0) (hno : NoOdd g) (A1 : Option Addr) (n1 c1 r1 : Nat) (A2 : Option Addr) (n2 c2 r2 : Nat) (w : World) (D1 : IsD w V f A1 n1 c1 r1) (D2 : IsD w V g A2 n2 c2 r2) : Calls Tryz.prog 12 #[.agg #[.int .i64 V, .slice A1 n1 c1, .int .i64 r1], .agg #[.int .i64 V, .slice A2 n2 c2, .int .i64 r2]] w (DP w V (prF V f g)) := by
  go_enter Tryz.func12, Tryz.ntmps12
  go_upto_region 1 with (fail)
  have Br := Bk.new w 24 #[.int .i64 V, .slice A1 n1 c1, .int .i64 r1]
  have Br := ((Br.alloc (.cells #[.int .i64 V, .slice A2 n2 c2, .int .i64 r2] 24)).alloc (.cells #[.int .i64 0, .slice none 0 0, .int .i64 0] 24))
  have Bs := Bk.new (w.alloc (.cells #[.int .i64 V, .slice A1 n1 c1, .int .i64 r1] 24)) 24 #[.int .i64 V, .slice A2 n2 c2, .int .i64 r2]
  simp only [World.size_alloc, Nat.add_assoc, Nat.reduceAdd] at Bs
  have Bs := (Bs.alloc (.cells #[.int .i64 0, .slice none 0 0, .int .i64 0] 24))
  have Bres := Bk.new ((w.alloc (.cells #[.int .i64 V, .slice A1 n1 c1, .int .i64 r1] 24)).alloc (.cells #[.int .i64 V, .slice A2 n2 c2, .int .i64 r2] 24)) 24 #[.int .i64 0, .slice none 0 0, .int .i64 0]
  simp only [World.size_alloc, Nat.add_assoc, Nat.reduceAdd] at Bres
  have Kw : Keep NoF w (((w.alloc (.cells #[.int .i64 V, .slice A1 n1 c1, .int .i64 r1] 24)).alloc (.cells #[.int .i64 V, .slice A2 n2 c2, .int .i64 r2] 24)).alloc (.cells #[.int .i64 0, .slice none 0 0, .int .i64 0] 24)) := ((((Keep.refl NoF w).alloc _).alloc _).alloc _)
  have Qr := D1.keep Kw
  have Qs := D2.keep Kw
  generalize (((w.alloc (.cells #[.int .i64 V, .slice A1 n1 c1, .int .i64 r1] 24)).alloc (.cells #[.int .i64 V, .slice A2 n2 c2, .int .i64 r2] 24)).alloc (.cells #[.int .i64 0, .slice none 0 0, .int .i64 0] 24)) = W0 at *
  have HT := Lib.hid (rtwoOk he hno Qr Qs)
  have cr0 : W0.cell? ⟨w.heap.size, 0, none⟩ = some (.int .i64 V) := Br.cell 0
  have cr1 : W0.cell? ⟨w.heap.size, 1, none⟩ = some (.slice A1 n1 c1) := Br.cell 1
  have cr2 : W0.cell? ⟨w.heap.size, 2, none⟩ = some (.int .i64 r1) := Br.cell 2
  have cs0 : W0.cell? ⟨w.heap.size + 1, 0, none⟩ = some (.int .i64 V) := Bs.cell 0
  have cs1 : W0.cell? ⟨w.heap.size + 1, 1, none⟩ = some (.slice A2 n2 c2) := Bs.cell 1
  have cs2 : W0.cell? ⟨w.heap.size + 1, 2, none⟩ = some (.int .i64 r2) := Bs.cell 2
  go_upto_region 4 with (first
                         | (go_at_call 33
                            (with_reducible refine (HT.out).mono ?_)
                            rintro e p1 ⟨rfl, p1Z⟩
                            have p1K : Keep NoF W0 p1 := (Keep.refl NoF W0).trans p1Z fun _ _ h => h)
                         | fail)
  clear cr0 cr1 cr2 cs0 cs1 cs2
  have Br_1 := Br.keep p1K fun h => h
  have Qr_1 := Qr.keep p1K
  have Bs_1 := Bs.keep p1K fun h => h
  have Qs_1 := Qs.keep p1K
  have Bres_1 := Bres.keep p1K fun h => h
  have Kw_1 := Kw.trans p1K fun _ _ h => h
  clear Kw p1K p1Z Br Qr Bs Qs Bres
  have HSH := Lib.hid fun W (hk : Keep NoF p1 W) => rshift_up he hno (Qs_1.keep hk)
  have cr0 : p1.cell? ⟨w.heap.size, 0, none⟩ = some (.int .i64 V) := Br_1.cell 0
  have cr1 : p1.cell? ⟨w.heap.size, 1, none⟩ = some (.slice A1 n1 c1) := Br_1.cell 1
  have cr2 : p1.cell? ⟨w.heap.size, 2, none⟩ = some (.int .i64 r1) := Br_1.cell 2
  have cs0 : p1.cell? ⟨w.heap.size + 1, 0, none⟩ = some (.int .i64 V) := Bs_1.cell 0
  have cs1 : p1.cell? ⟨w.heap.size + 1, 1, none⟩ = some (.slice A2 n2 c2) := Bs_1.cell 1
  have cs2 : p1.cell? ⟨w.heap.size + 1, 2, none⟩ = some (.int .i64 r2) := Bs_1.cell 2
  have or0 : ∀ o, (p1.alloc o).cell? ⟨w.heap.size, 0, none⟩ = some (.int .i64 V) := fun o => (Br_1.alloc o).cell 0
  have er0 : ∀ o, (p1.drew.alloc o).cell? ⟨w.heap.size, 0, none⟩ = some (.int .i64 V) := fun o => (Br_1.drew.alloc o).cell 0
  have or1 : ∀ o, (p1.alloc o).cell? ⟨w.heap.size, 1, none⟩ = some (.slice A1 n1 c1) := fun o => (Br_1.alloc o).cell 1
  have er1 : ∀ o, (p1.drew.alloc o).cell? ⟨w.heap.size, 1, none⟩ = some (.slice A1 n1 c1) := fun o => (Br_1.drew.alloc o).cell 1
  have or2 : ∀ o, (p1.alloc o).cell? ⟨w.heap.size, 2, none⟩ = some (.int .i64 r1) := fun o => (Br_1.alloc o).cell 2
  have er2 : ∀ o, (p1.drew.alloc o).cell? ⟨w.heap.size, 2, none⟩ = some (.int .i64 r1) := fun o => (Br_1.drew.alloc o).cell 2
  have os0 : ∀ o, (p1.alloc o).cell? ⟨w.heap.size + 1, 0, none⟩ = some (.int .i64 V) := fun o => (Bs_1.alloc o).cell 0
  have es0 : ∀ o, (p1.drew.alloc o).cell? ⟨w.heap.size + 1, 0, none⟩ = some (.int .i64 V) := fun o => (Bs_1.drew.alloc o).cell 0
  have os1 : ∀ o, (p1.alloc o).cell? ⟨w.heap.size + 1, 1, none⟩ = some (.slice A2 n2 c2) := fun o => (Bs_1.alloc o).cell 1
  have es1 : ∀ o, (p1.drew.alloc o).cell? ⟨w.heap.size + 1, 1, none⟩ = some (.slice A2 n2 c2) := fun o => (Bs_1.drew.alloc o).cell 1
  have os2 : ∀ o, (p1.alloc o).cell? ⟨w.heap.size + 1, 2, none⟩ = some (.int .i64 r2) := fun o => (Bs_1.alloc o).cell 2
  have es2 : ∀ o, (p1.drew.alloc o).cell? ⟨w.heap.size + 1, 2, none⟩ = some (.int .i64 r2) := fun o => (Bs_1.drew.alloc o).cell 2
  go_cut [7, 8] (fun v7 v8 wc => ∃ (bd : Nat) (A : Option Addr) (n c r : Nat), v7 = .pointer (some ⟨bd, 0, none⟩) ∧ v8 = .int .i64 0 ∧ p1.heap.size ≤ bd ∧ Bk wc bd 24 #[.int .i64 V, .slice A n c, .int .i64 r] ∧ IsD wc V (fun ρ => f ρ && upF V g ρ) A n c r ∧ Keep NoF p1 wc)
  case first =>
    go_region_with (first
      | (go_at_call 30
         (first | (with_reducible refine (HSH.out _ (Keep.refl NoF p1).drew).mono ?_) | (with_reducible refine (HSH.out _ ((Keep.refl NoF p1).alloc _).drew).mono ?_) | (with_reducible refine (HSH.out _ ((Keep.refl NoF p1).drew.alloc _)).mono ?_))
         rintro e w4 ⟨A4, n4, c4, r4, rfl, D4, K4'⟩
         have K4 : Keep NoF p1 w4 := by first | exact (Keep.refl NoF p1).drew.trans K4' fun _ _ h => h | exact ((Keep.refl NoF p1).alloc _).drew.trans K4' fun _ _ h => h | exact ((Keep.refl NoF p1).drew.alloc _).trans K4' fun _ _ h => h
         have B4 := Br_1.keep K4 fun h => h
         try (have Bz4 : Bk w4 p1.heap.size 24 #[.int .i64 0, .slice none 0 0, .int .i64 0] := by first | exact (Bk.new p1 24 #[.int .i64 0, .slice none 0 0, .int .i64 0]).drew.keep K4' fun h => h | exact (Bk.new p1.drew 24 #[.int .i64 0, .slice none 0 0, .int .i64 0]).keep K4' fun h => h)
         have f0 : w4.cell? ⟨w.heap.size, 0, none⟩ = some (.int .i64 V) := B4.cell 0
         have f1 : w4.cell? ⟨w.heap.size, 1, none⟩ = some (.slice A1 n1 c1) := B4.cell 1
         have f2 : w4.cell? ⟨w.heap.size, 2, none⟩ = some (.int .i64 r1) := B4.cell 2
         have fo0 : ∀ o, (w4.alloc o).cell? ⟨w.heap.size, 0, none⟩ = some (.int .i64 V) := fun o => (B4.alloc o).cell 0
         have fo1 : ∀ o, (w4.alloc o).cell? ⟨w.heap.size, 1, none⟩ = some (.slice A1 n1 c1) := fun o => (B4.alloc o).cell 1
         have fo2 : ∀ o, (w4.alloc o).cell? ⟨w.heap.size, 2, none⟩ = some (.int .i64 r1) := fun o => (B4.alloc o).cell 2
         have HA := Lib.hid fun W (hk : Keep NoF w4 W) => rd_and hV ((Qr_1.keep K4).keep hk) (D4.keep hk))
      | (go_at_call 34
         (first | (with_reducible refine (HA.out _ (Keep.refl NoF w4)).mono ?_) | (with_reducible refine (HA.out _ ((Keep.refl NoF w4).alloc _)).mono ?_))
         rintro e w5 ⟨A5, n5, c5, r5, rfl, D5, K5'⟩
         have K5 : Keep NoF w4 w5 := by first | exact K5' | exact ((Keep.refl NoF w4).alloc _).trans K5' fun _ _ h => h
         have Brn := B4.keep K5 fun h => h
         have Bsn := (Bs_1.keep K4 fun h => h).keep K5 fun h => h
         have Bresn := (Bres_1.keep K4 fun h => h).keep K5 fun h => h
         have Lresn := Bresn.lt
         have hl4 : w.heap.size + 2 < w4.heap.size := (Bres_1.keep K4 fun h => h).lt
         have hl1 : w.heap.size + 2 < p1.heap.size := Bres_1.lt
         have K45 := K4.trans K5 fun _ _ h => h
         first
           | (have Bz5 := Bz4.keep K5 fun h => h
              have y0 := Bz5.cell 0
              have yf0 := Bz5.frozen 0
              have y1 := Bz5.cell 1
              have yf1 := Bz5.frozen 1
              have y2 := Bz5.cell 2
              have yf2 := Bz5.frozen 2
              have lz5 := Bz5.lt)
           | (have Bz5 : Bk w5 w4.heap.size 24 #[.int .i64 0, .slice none 0 0, .int .i64 0] := (Bk.new w4 24 #[.int .i64 0, .slice none 0 0, .int .i64 0]).keep K5' fun h => h
              have y0 := Bz5.cell 0
              have yf0 := Bz5.frozen 0
              have y1 := Bz5.cell 1
              have yf1 := Bz5.frozen 1
              have y2 := Bz5.cell 2
              have yf2 := Bz5.frozen 2
              have lz5 := Bz5.lt)
           | skip))
    all_goals go_wp2
    all_goals go_meet
    all_goals
      case rel =>
        have hs4 := K4.size
        first
          | exact ⟨w5.heap.size, A5, n5, c5, r5, rfl, rfl, K45.size, Bk.new _ _ _, D5.keep ((Keep.refl _ _).alloc _), K45.alloc _⟩
          | (obtain ⟨s1, s2, S3⟩ := set3_box Bz5 sl_nint D5
             exact ⟨_, A5, n5, c5, r5, rfl, rfl, by first | exact Nat.le_refl _ | exact K4.size, s1, s2, K45.trans S3 fun i hi h => by omega⟩)
  case rest =>
  obtain ⟨bd, Aq, nq, cq, rq, rfl, rfl, hbd, Bd, Qd, KC⟩ := hcut
  obtain ⟨wa, rfl⟩ : ∃ wa : World, wa = wc := ⟨_, rfl⟩
  clear HSH cr0 cr1 cr2 cs0 cs1 cs2 or0 or1 or2 os0 os1 os2 er0 er1 er2 es0 es1 es2
  have hz := Bres_1.lt
  have Nr := Br_1.keep KC fun h => h
  have Mr := Qr_1.keep KC
  have Ns := Bs_1.keep KC fun h => h
  have Ms := Qs_1.keep KC
  have Nres := Bres_1.keep KC fun h => h
  have KF := Kw_1.trans KC fun _ _ h => h
  clear KC
  go_upto_region 7 with (fail)
  have HEX := Lib.hid fun W (hk : Keep NoF wa W) => rd_exists (odN_lt2 V) hV (Qd.keep hk)
  have HEV := Lib.hid fun W => rodd_any V (by omega) W
  have cr0 : wa.cell? ⟨w.heap.size, 0, none⟩ = some (.int .i64 V) := Nr.cell 0
  have cr1 : wa.cell? ⟨w.heap.size, 1, none⟩ = some (.slice A1 n1 c1) := Nr.cell 1
  have cr2 : wa.cell? ⟨w.heap.size, 2, none⟩ = some (.int .i64 r1) := Nr.cell 2
  have cd0 : wa.cell? ⟨bd, 0, none⟩ = some (.int .i64 V) := Bd.cell 0
  have cd1 : wa.cell? ⟨bd, 1, none⟩ = some (.slice Aq nq cq) := Bd.cell 1
  have cd2 : wa.cell? ⟨bd, 2, none⟩ = some (.int .i64 rq) := Bd.cell 2
  have ed0 : wa.drew.cell? ⟨bd, 0, none⟩ = some (.int .i64 V) := cd0
  have ed1 : wa.drew.cell? ⟨bd, 1, none⟩ = some (.slice Aq nq cq) := cd1
  have ed2 : wa.drew.cell? ⟨bd, 2, none⟩ = some (.int .i64 rq) := cd2
  have er0 : wa.drew.cell? ⟨w.heap.size, 0, none⟩ = some (.int .i64 V) := cr0
  go_region_held3 (fun w' => w'.cell? ⟨w.heap.size, 0, none⟩ = some (.int .i64 V) ∧ w'.cell? ⟨bd, 0, none⟩ = some (.int .i64 V) ∧ w'.cell? ⟨bd, 1, none⟩ = some (.slice Aq nq cq) ∧ w'.cell? ⟨bd, 2, none⟩ = some (.int .i64 rq))
    (first
      | with_reducible exact ⟨er0, ed0, ed1, ed2⟩
      | with_reducible exact ⟨er1, ee0, ee1, ee2⟩
      | exact ⟨(keep_set3 _ _ _ _ _).cellv er1 (by simp <;> omega), (keep_set3 _ _ _ _ _).cellv ee0 (by simp <;> omega), (keep_set3 _ _ _ _ _).cellv ee1 (by simp <;> omega), (keep_set3 _ _ _ _ _).cellv ee2 (by simp <;> omega)⟩)
    (first
      | (go_at_call 38
         (with_reducible refine (HEV.out _).mono ?_)
         rintro e w' ⟨rfl, hw'⟩
         obtain rfl := hw'.symm)
      | (go_at_call 35
         (with_reducible refine (HEX.out _ (Keep.refl NoF wa).drew).mono ?_)
         rintro e w6 ⟨A6, n6, c6, r6, rfl, D6, K6'⟩
         have K6 : Keep NoF wa w6 := (Keep.refl NoF wa).drew.trans K6' fun _ _ h => h
         have er1 : w6.cell? ⟨w.heap.size, 0, none⟩ = some (.int .i64 V) := (Nr.keep K6 fun h => h).cell 0
         have ee0 : w6.cell? ⟨bd, 0, none⟩ = some (.int .i64 V) := (Bd.keep K6 fun h => h).cell 0
         have ee1 : w6.cell? ⟨bd, 1, none⟩ = some (.slice Aq nq cq) := (Bd.keep K6 fun h => h).cell 1
         have ee2 : w6.cell? ⟨bd, 2, none⟩ = some (.int .i64 rq) := (Bd.keep K6 fun h => h).cell 2
         have Brn := Nr.keep K6 fun h => h
         have Lrn := Brn.lt
         have Bsn := Ns.keep K6 fun h => h
         have Lsn := Bsn.lt
         have Bresn := Nres.keep K6 fun h => h
         have Lresn := Bresn.lt
         have Bdn := Bd.keep K6 fun h => h
         have Ldn := Bdn.lt
         have y0 : w6.cell? ⟨w.heap.size + 2, 0, none⟩ = some (.int .i64 0) := Bresn.cell 0
         have y1 : w6.cell? ⟨w.heap.size + 2, 1, none⟩ = some (.slice none 0 0) := Bresn.cell 1
         have y2 : w6.cell? ⟨w.heap.size + 2, 2, none⟩ = some (.int .i64 0) := Bresn.cell 2
         have yf0 := Bresn.frozen 0
         have yf1 := Bresn.frozen 1
         have yf2 := Bresn.frozen 2))
  all_goals
    clear er0 er1 ed0 ed1 ed2 ee0 ee1 ee2
    clear cr0 cr1 cr2 cd0 cd1 cd2
    go_wp2
    obtain ⟨Bres_41, Qres_41, S3⟩ := set3_box Bresn sl_nint D6
    have Br_41 := Brn.keep S3 fun h => by omega
    have Qr_41 := (Mr.keep K6).far_box Bresn sl_nint S3
    have Bs_41 := Bsn.keep S3 fun h => by omega
    have Qs_41 := (Ms.keep K6).far_box Bresn sl_nint S3
    have Bd_41 := Bdn.keep S3 fun h => by omega
    have Qd_41 := (Qd.keep K6).far_box Bresn sl_nint S3
    have Kw_41 : Keep NoF w (((w6.setCell ⟨w.heap.size + 2, 0, none⟩ (.int .i64 V)).setCell ⟨w.heap.size + 2, 1, none⟩ (.slice A6 n6 c6)).setCell ⟨w.heap.size + 2, 2, none⟩ (.int .i64 r6)) := (KF.trans K6 fun _ _ h => h).trans S3 fun i hi h => by omega
    generalize (((w6.setCell ⟨w.heap.size + 2, 0, none⟩ (.int .i64 V)).setCell ⟨w.heap.size + 2, 1, none⟩ (.slice A6 n6 c6)).setCell ⟨w.heap.size + 2, 2, none⟩ (.int .i64 r6)) = W41 at *
    clear Nr Ns Nres Bd Mr Ms Qd Brn Bsn Bresn Bdn KF D6 K6 S3 y0 y1 y2 yf0 yf1 yf2
    have h0 : W41.cell? ⟨w.heap.size + 2, 0, none⟩ = some (.int .i64 V) := Bres_41.cell 0
    have h1 : W41.cell? ⟨w.heap.size + 2, 1, none⟩ = some (.slice A6 n6 c6) := Bres_41.cell 1
    have h2 : W41.cell? ⟨w.heap.size + 2, 2, none⟩ = some (.int .i64 r6) := Bres_41.cell 2
    refine bodyPost_ret (v := .tuple #[.agg #[.int .i64 V, .slice A6 n6 c6, .int .i64 r6], .int .i64 0]) (by simp [results, Tryz.results12, go_sem, h0, h1, h2]) rfl ?_
    exact ⟨A6, n6, c6, r6, rfl, Qres_41, Kw_41⟩
theorem rBox_ok {f g : BF} {V : Nat} (hV : V ≤ 12) (he : V % 2 = 0) (hno : NoOdd g) (A1 : Option Addr) (n1 c1 r1 : Nat) (A2 : Option Addr) (n2 c2 r2 : Nat) (w : World) (D1 : IsD w V f A1 n1 c1 r1) (D2 : IsD w V g A2 n2 c2 r2) : Calls Tryz.prog 14 #[.agg #[.int .i64 V, .slice A1 n1 c1, .int .i64 r1], .agg #[.int .i64 V, .slice A2 n2 c2, .int .i64 r2]] w (DP w V (boF V f g)) := by
  go_enter Tryz.func14, Tryz.ntmps14
  go_upto_region 1 with (fail)
  have Br := Bk.new w 24 #[.int .i64 V, .slice A1 n1 c1, .int .i64 r1]
  have Br := ((Br.alloc (.cells #[.int .i64 V, .slice A2 n2 c2, .int .i64 r2] 24)).alloc (.cells #[.int .i64 0, .slice none 0 0, .int .i64 0] 24))
  have Bs := Bk.new (w.alloc (.cells #[.int .i64 V, .slice A1 n1 c1, .int .i64 r1] 24)) 24 #[.int .i64 V, .slice A2 n2 c2, .int .i64 r2]
  simp only [World.size_alloc, Nat.add_assoc, Nat.reduceAdd] at Bs
  have Bs := (Bs.alloc (.cells #[.int .i64 0, .slice none 0 0, .int .i64 0] 24))
  have Bres := Bk.new ((w.alloc (.cells #[.int .i64 V, .slice A1 n1 c1, .int .i64 r1] 24)).alloc (.cells #[.int .i64 V, .slice A2 n2 c2, .int .i64 r2] 24)) 24 #[.int .i64 0, .slice none 0 0, .int .i64 0]
  simp only [World.size_alloc, Nat.add_assoc, Nat.reduceAdd] at Bres
  have Kw : Keep NoF w (((w.alloc (.cells #[.int .i64 V, .slice A1 n1 c1, .int .i64 r1] 24)).alloc (.cells #[.int .i64 V, .slice A2 n2 c2, .int .i64 r2] 24)).alloc (.cells #[.int .i64 0, .slice none 0 0, .int .i64 0] 24)) := ((((Keep.refl NoF w).alloc _).alloc _).alloc _)
  have Qr := D1.keep Kw
  have Qs := D2.keep Kw
  generalize (((w.alloc (.cells #[.int .i64 V, .slice A1 n1 c1, .int .i64 r1] 24)).alloc (.cells #[.int .i64 V, .slice A2 n2 c2, .int .i64 r2] 24)).alloc (.cells #[.int .i64 0, .slice none 0 0, .int .i64 0] 24)) = W0 at *
  have HT := Lib.hid (rtwoOk he hno Qr Qs)
  have cr0 : W0.cell? ⟨w.heap.size, 0, none⟩ = some (.int .i64 V) := Br.cell 0
  have cr1 : W0.cell? ⟨w.heap.size, 1, none⟩ = some (.slice A1 n1 c1) := Br.cell 1
  have cr2 : W0.cell? ⟨w.heap.size, 2, none⟩ = some (.int .i64 r1) := Br.cell 2
  have cs0 : W0.cell? ⟨w.heap.size + 1, 0, none⟩ = some (.int .i64 V) := Bs.cell 0
  have cs1 : W0.cell? ⟨w.heap.size + 1, 1, none⟩ = some (.slice A2 n2 c2) := Bs.cell 1
  have cs2 : W0.cell? ⟨w.heap.size + 1, 2, none⟩ = some (.int .i64 r2) := Bs.cell 2
  go_upto_region 4 with (first
                         | (go_at_call 33
                            (with_reducible refine (HT.out).mono ?_)
                            rintro e p1 ⟨rfl, p1Z⟩
                            have p1K : Keep NoF W0 p1 := (Keep.refl NoF W0).trans p1Z fun _ _ h => h)
                         | fail)
  clear cr0 cr1 cr2 cs0 cs1 cs2
  have Br_1 := Br.keep p1K fun h => h
  have Qr_1 := Qr.keep p1K
  have Bs_1 := Bs.keep p1K fun h => h
  have Qs_1 := Qs.keep p1K
  have Bres_1 := Bres.keep p1K fun h => h
  have Kw_1 := Kw.trans p1K fun _ _ h => h
  clear Kw p1K p1Z Br Qr Bs Qs Bres
  have HN := Lib.hid (rd_not hV Qs_1)
  have cs0 : p1.cell? ⟨w.heap.size + 1, 0, none⟩ = some (.int .i64 V) := Bs_1.cell 0
  have cs1 : p1.cell? ⟨w.heap.size + 1, 1, none⟩ = some (.slice A2 n2 c2) := Bs_1.cell 1
  have cs2 : p1.cell? ⟨w.heap.size + 1, 2, none⟩ = some (.int .i64 r2) := Bs_1.cell 2
  go_upto_region 5 with (go_at_call 40
                         (with_reducible refine (HN.out).mono ?_)
                         rintro e w3 ⟨A3, n3, c3, r3, rfl, D3, K3⟩
                         have Brn := Br_1.keep K3 fun h => h
                         have Lrn := Brn.lt
                         have Bsn := Bs_1.keep K3 fun h => h
                         have Lsn := Bsn.lt
                         have Bresn := Bres_1.keep K3 fun h => h
                         have Lresn := Bresn.lt)
  clear cs0 cs1 cs2
  have Br_2 := Brn.alloc (.cells #[.int .i64 V, .slice A3 n3 c3, .int .i64 r3] 24)
  have Qr_2 := (Qr_1.keep K3).keep ((Keep.refl NoF w3).alloc (.cells #[.int .i64 V, .slice A3 n3 c3, .int .i64 r3] 24))
  have Bs_2 := Bsn.alloc (.cells #[.int .i64 V, .slice A3 n3 c3, .int .i64 r3] 24)
  have Qs_2 := (Qs_1.keep K3).keep ((Keep.refl NoF w3).alloc (.cells #[.int .i64 V, .slice A3 n3 c3, .int .i64 r3] 24))
  have Bres_2 := Bresn.alloc (.cells #[.int .i64 V, .slice A3 n3 c3, .int .i64 r3] 24)
  have Bn_2 := Bk.new w3 24 #[.int .i64 V, .slice A3 n3 c3, .int .i64 r3]
  have Qn_2 := D3.keep ((Keep.refl NoF w3).alloc (.cells #[.int .i64 V, .slice A3 n3 c3, .int .i64 r3] 24))
  have Kw_2 : Keep NoF w (w3.alloc (.cells #[.int .i64 V, .slice A3 n3 c3, .int .i64 r3] 24)) := (Kw_1.trans K3 fun _ _ h => h).alloc _
  have Gn_2 : w.heap.size ≤ w3.heap.size := (Kw_1.trans K3 fun _ _ h => h).size
  generalize w3.alloc (.cells #[.int .i64 V, .slice A3 n3 c3, .int .i64 r3] 24) = W2 at *
  clear Br_1 Bs_1 Bres_1 Qr_1 Qs_1 Brn Bsn Bresn Kw_1 D3 K3
  have HP := Lib.hid (rPre_ok hV he (fun v hv ρ b => by show (!g (Dd.upd ρ v b)) = !g ρ; rw [hno v hv]) _ _ _ _ _ _ _ _ _ Qr_2 Qn_2)
  have cr0 : W2.cell? ⟨w.heap.size, 0, none⟩ = some (.int .i64 V) := Br_2.cell 0
  have cr1 : W2.cell? ⟨w.heap.size, 1, none⟩ = some (.slice A1 n1 c1) := Br_2.cell 1
  have cr2 : W2.cell? ⟨w.heap.size, 2, none⟩ = some (.int .i64 r1) := Br_2.cell 2
  have cn0 : W2.cell? ⟨w3.heap.size, 0, none⟩ = some (.int .i64 V) := Bn_2.cell 0
  have cn1 : W2.cell? ⟨w3.heap.size, 1, none⟩ = some (.slice A3 n3 c3) := Bn_2.cell 1
  have cn2 : W2.cell? ⟨w3.heap.size, 2, none⟩ = some (.int .i64 r3) := Bn_2.cell 2
  go_upto_region 8 with (go_at_call 12
                         (with_reducible refine (HP.out).mono ?_)
                         rintro e w4 ⟨A4, n4, c4, r4, rfl, D4, K4⟩
                         have Brn := Br_2.keep K4 fun h => h
                         have Lrn := Brn.lt
                         have Bsn := Bs_2.keep K4 fun h => h
                         have Lsn := Bsn.lt
                         have Bresn := Bres_2.keep K4 fun h => h
                         have Lresn := Bresn.lt
                         have Bnn := Bn_2.keep K4 fun h => h
                         have Lnn := Bnn.lt)
  clear cr0 cr1 cr2 cn0 cn1 cn2
  have Br_3 := Brn.alloc (.cells #[.int .i64 V, .slice A4 n4 c4, .int .i64 r4] 24)
  have Qr_3 := (Qr_2.keep K4).keep ((Keep.refl NoF w4).alloc (.cells #[.int .i64 V, .slice A4 n4 c4, .int .i64 r4] 24))
  have Bs_3 := Bsn.alloc (.cells #[.int .i64 V, .slice A4 n4 c4, .int .i64 r4] 24)
  have Qs_3 := (Qs_2.keep K4).keep ((Keep.refl NoF w4).alloc (.cells #[.int .i64 V, .slice A4 n4 c4, .int .i64 r4] 24))
  have Bres_3 := Bresn.alloc (.cells #[.int .i64 V, .slice A4 n4 c4, .int .i64 r4] 24)
  have Bn_3 := Bnn.alloc (.cells #[.int .i64 V, .slice A4 n4 c4, .int .i64 r4] 24)
  have Qn_3 := (Qn_2.keep K4).keep ((Keep.refl NoF w4).alloc (.cells #[.int .i64 V, .slice A4 n4 c4, .int .i64 r4] 24))
  have Bd_3 := Bk.new w4 24 #[.int .i64 V, .slice A4 n4 c4, .int .i64 r4]
  have Qd_3 := D4.keep ((Keep.refl NoF w4).alloc (.cells #[.int .i64 V, .slice A4 n4 c4, .int .i64 r4] 24))
  have Kw_3 : Keep NoF w (w4.alloc (.cells #[.int .i64 V, .slice A4 n4 c4, .int .i64 r4] 24)) := (Kw_2.trans K4 fun _ _ h => h).alloc _
  have Gd_3 : w.heap.size ≤ w4.heap.size := (Kw_2.trans K4 fun _ _ h => h).size
  generalize w4.alloc (.cells #[.int .i64 V, .slice A4 n4 c4, .int .i64 r4] 24) = W3 at *
  clear Br_2 Bs_2 Bres_2 Bn_2 Qr_2 Qs_2 Qn_2 Brn Bsn Bresn Bnn Kw_2 D4 K4
  have HM := Lib.hid (rd_not hV Qd_3)
  have cd0 : W3.cell? ⟨w4.heap.size, 0, none⟩ = some (.int .i64 V) := Bd_3.cell 0
  have cd1 : W3.cell? ⟨w4.heap.size, 1, none⟩ = some (.slice A4 n4 c4) := Bd_3.cell 1
  have cd2 : W3.cell? ⟨w4.heap.size, 2, none⟩ = some (.int .i64 r4) := Bd_3.cell 2
  go_wp2_with (go_at_call 40
               (with_reducible refine (HM.out).mono ?_)
               rintro e w5 ⟨A5, n5, c5, r5, rfl, D5, K5⟩
               have Brn := Br_3.keep K5 fun h => h
               have Lrn := Brn.lt
               have Bsn := Bs_3.keep K5 fun h => h
               have Lsn := Bsn.lt
               have Bresn := Bres_3.keep K5 fun h => h
               have Lresn := Bresn.lt
               have Bnn := Bn_3.keep K5 fun h => h
               have Lnn := Bnn.lt
               have Bdn := Bd_3.keep K5 fun h => h
               have Ldn := Bdn.lt
               have y0 : w5.cell? ⟨w.heap.size + 2, 0, none⟩ = some (.int .i64 0) := Bresn.cell 0
               have y1 : w5.cell? ⟨w.heap.size + 2, 1, none⟩ = some (.slice none 0 0) := Bresn.cell 1
               have y2 : w5.cell? ⟨w.heap.size + 2, 2, none⟩ = some (.int .i64 0) := Bresn.cell 2
               have yf0 := Bresn.frozen 0
               have yf1 := Bresn.frozen 1
               have yf2 := Bresn.frozen 2)
  clear cd0 cd1 cd2
  obtain ⟨Bres_4, Qres_4, S3⟩ := set3_box Bresn sl_nint D5
  have Br_4 := Brn.keep S3 fun h => by omega
  have Qr_4 := (Qr_3.keep K5).far_box Bresn sl_nint S3
  have Bs_4 := Bsn.keep S3 fun h => by omega
  have Qs_4 := (Qs_3.keep K5).far_box Bresn sl_nint S3
  have Bn_4 := Bnn.keep S3 fun h => by omega
  have Qn_4 := (Qn_3.keep K5).far_box Bresn sl_nint S3
  have Bd_4 := Bdn.keep S3 fun h => by omega
  have Qd_4 := (Qd_3.keep K5).far_box Bresn sl_nint S3
  have Kw_4 : Keep NoF w (((w5.setCell ⟨w.heap.size + 2, 0, none⟩ (.int .i64 V)).setCell ⟨w.heap.size + 2, 1, none⟩ (.slice A5 n5 c5)).setCell ⟨w.heap.size + 2, 2, none⟩ (.int .i64 r5)) := (Kw_3.trans K5 fun _ _ h => h).trans S3 fun i hi h => by omega
  generalize (((w5.setCell ⟨w.heap.size + 2, 0, none⟩ (.int .i64 V)).setCell ⟨w.heap.size + 2, 1, none⟩ (.slice A5 n5 c5)).setCell ⟨w.heap.size + 2, 2, none⟩ (.int .i64 r5)) = W4 at *
  clear Br_3 Bs_3 Bres_3 Bn_3 Bd_3 Qr_3 Qs_3 Qn_3 Qd_3 Brn Bsn Bresn Bnn Bdn Kw_3 D5 K5 S3 y0 y1 y2 yf0 yf1 yf2
  have h0 : W4.cell? ⟨w.heap.size + 2, 0, none⟩ = some (.int .i64 V) := Bres_4.cell 0
  have h1 : W4.cell? ⟨w.heap.size + 2, 1, none⟩ = some (.slice A5 n5 c5) := Bres_4.cell 1
  have h2 : W4.cell? ⟨w.heap.size + 2, 2, none⟩ = some (.int .i64 r5) := Bres_4.cell 2
  refine bodyPost_ret (v := .tuple #[.agg #[.int .i64 V, .slice A5 n5 c5, .int .i64 r5], .int .i64 0]) (by simp [results, Tryz.results14, go_sem, h0, h1, h2]) rfl ?_
  exact ⟨A5, n5, c5, r5, rfl, Qres_4, Kw_4⟩
end
end Go.Proofs.YtgdmcidcappkpaaGreat
