/- Images and boxes of valid operands: the program's both, Image, Pre, Box. No condition. -/
import Derived.Test.YtgdmcidcappkpaaDoorSyM
set_option linter.unusedVariables false
set_option linter.unusedSimpArgs false
namespace Go.Proofs.YtgdmcidcappkpaaDoor
open Go.RowKit
open Dd (Rn rat ofN toN checkErr den lo var Within Valid supp canon imF prF boF odN)

section
set_option maxRecDepth 100000
set_option maxHeartbeats 4000000
theorem both_ok {f : BF} {V : Nat} (he : V % 2 = 0) (ds : List Dg) (hds : ∀ d ∈ ds, setE d = 0 ∧ d.V = V) (hn : ds.length ≤ 3) (hpos : 0 < ds.length) (lv : Value) (A1 : Option Addr) (n1 c1 r1 : Nat) (w : World) (D1 : IsD w V f A1 n1 c1 r1) (hin : ∀ d ∈ ds, d.In w) (hrd : Rd w lv 3 ds.length (ds.flatMap Dg.cells)) :
    Calls Tryd.prog 26 #[.agg #[.int .i64 V, .slice A1 n1 c1, .int .i64 r1], lv] w fun e w' => e = .returned (.int .i64 0) ∧ Keep NoF w w' := by
  have HREL := Lib.hid fun W (hk : Keep NoF w W) => relOk (D1.keep hk) he
  have HDS := Lib.hid hds
  have HIN := Lib.hid hin
  have HRD := Lib.hid fun W (hk : Keep NoF w W) => hrd.kept hk fun _ _ h => h
  obtain ⟨_, A, c, rfl, _, _⟩ := hrd
  have ev : ((V : Int) != (V : Int)) = false := by simp
  have hb0 := Bk.new w 26 #[.int .i64 V, .slice A1 n1 c1, .int .i64 r1]
  have hk0 : Keep NoF w (w.alloc (.cells #[.int .i64 V, .slice A1 n1 c1, .int .i64 r1] 26)) := (Keep.refl _ _).alloc _
  have HR0 := Lib.hid (HREL.out _ hk0)
  clear hds hin HREL D1
  go_enter Tryd.func26, Tryd.ntmps26
  go_wp2_with (go_at_call 44; (with_reducible refine HR0.out.mono ?_); rintro e w1 ⟨rfl, hk1⟩)
  have hb1 := hb0.keep hk1 fun h => h
  have kw1 : Keep NoF w w1 := hk0.trans hk1 fun _ _ h => h
  clear hb0 hk0 HR0 hk1
  go_loopw [18] (fun i wr => ∃ j : Nat, i = .int .i64 j ∧ j ≤ ds.length ∧ Bk wr w.heap.size 26 #[.int .i64 V, .slice A1 n1 c1, .int .i64 r1] ∧ Keep NoF w wr) (fun i _ => ds.length - (intOf i).toNat)
  case atStart => exact ⟨0, rfl, by omega, hb1, kw1⟩
  case round =>
    clear hb1 kw1
    obtain ⟨j, rfl, hj, hb, kwr⟩ := hrel
    by_cases hlt : j < ds.length
    · have hdk : ds[j]? = some ds[j] := List.getElem?_eq_getElem hlt
      obtain ⟨hse, hdv⟩ := HDS.out _ (List.getElem_mem hlt)
      have hdi := HIN.out _ (List.getElem_mem hlt)
      obtain ⟨_, _, bl, off, rfl, hcell⟩ := (HRD.out _ kwr).at_ hpos
      obtain ⟨e1, e2, e3⟩ := dgs_at ds j _ hdk
      have d1 := hcell _ _ e1
      have d2 := hcell _ _ e2
      have d3 := hcell _ _ e3
      simp only [← Nat.add_assoc] at d2 d3
      have hs := setErr_any ds[j] (wr.alloc (.cells #[.int .i64 ds[j].V, ds[j].sl, .int .i64 ds[j].root] 26)) ⟨(hdi.1.kept kwr fun _ _ h => h).kept ((Keep.refl NoF wr).alloc _) fun _ _ h => h, hdi.2⟩
      rw [hse] at hs
      have HS : Hid (Calls Tryd.prog 34 #[.agg #[.int .i64 ds[j].V, ds[j].sl, .int .i64 ds[j].root]] (wr.alloc (.cells #[.int .i64 ds[j].V, ds[j].sl, .int .i64 ds[j].root] 26)) fun e w' => e = .returned (.int .i64 0) ∧ Keep NoF (wr.alloc (.cells #[.int .i64 ds[j].V, ds[j].sl, .int .i64 ds[j].root] 26)) w') := Lib.hid hs
      have hsl := hdi.1
      clear hs hdk e1 e2 e3 hcell hse hdv
      generalize ds[j] = d at *
      obtain ⟨dV, dR, droot, dsl⟩ := d
      simp only at d1 d2 d3 HS hsl
      obtain ⟨_, A2, cc2, rfl, _, _⟩ := hsl
      go_wp2_with (go_at_call 34; (with_reducible refine HS.out.mono ?_); rintro e w2 ⟨rfl, hk2⟩)
      go_roundw
      case rel => exact ⟨j + 1, by go_num, by omega, (hb.alloc _).keep hk2 fun h => h, (kwr.alloc _).trans hk2 fun _ _ h => h⟩
      case measure => simp only [intOf]; omega
    · have hjl : ds.length ≤ j := by omega
      clear hj hlt
      obtain ⟨wa, rfl⟩ : ∃ wa : World, wa = wr := ⟨_, rfl⟩
      have hjj : ¬ (j : Int) < (ds.length : Int) := by omega
      go_wp2
      go_loopw [30] (fun i wr => ∃ j : Nat, i = .int .i64 j ∧ j ≤ ds.length ∧ Bk wr w.heap.size 26 #[.int .i64 V, .slice A1 n1 c1, .int .i64 r1] ∧ Keep NoF w wr) (fun i _ => ds.length - (intOf i).toNat)
      case atStart => exact ⟨0, rfl, by omega, hb, kwr⟩
      case round =>
        clear hb kwr
        obtain ⟨j, rfl, hj, hb, kwr⟩ := hrel
        by_cases hlt : j < ds.length
        · have hdk : ds[j]? = some ds[j] := List.getElem?_eq_getElem hlt
          obtain ⟨hse, hdv⟩ := HDS.out _ (List.getElem_mem hlt)
          have hdi := HIN.out _ (List.getElem_mem hlt)
          obtain ⟨_, _, bl, off, rfl, hcell⟩ := (HRD.out _ kwr).at_ hpos
          obtain ⟨e1, e2, e3⟩ := dgs_at ds j _ hdk
          have d1 := hcell _ _ e1
          have d2 := hcell _ _ e2
          have d3 := hcell _ _ e3
          simp only [← Nat.add_assoc] at d2 d3
          rw [hdv] at d1
          have x0 : wr.cell? ⟨w.heap.size, 0, none⟩ = some (.int .i64 V) := hb.cell 0
          have y0 : ∀ o, (wr.alloc o).cell? ⟨w.heap.size, 0, none⟩ = some (.int .i64 V) := fun o => (hb.alloc o).cell 0
          have hsl := hdi.1
          clear hdk e1 e2 e3 hcell hse hdv
          generalize ds[j] = d at *
          obtain ⟨dV, dR, droot, dsl⟩ := d
          simp only at d1 d2 d3 hsl
          obtain ⟨_, A2, cc2, rfl, _, _⟩ := hsl
          go_wp2
          go_roundw
          case rel => exact ⟨j + 1, by go_num, by omega, hb.alloc _, kwr.alloc _⟩
          case measure => simp only [intOf]; omega
        · have hjj : ¬ (j : Int) < (ds.length : Int) := by omega
          go_wp2
          go_ret
          exact ⟨rfl, kwr⟩
theorem both1 {f g : BF} {V : Nat} (he : V % 2 = 0) (hno : NoOdd g) (A1 : Option Addr) (n1 c1 r1 : Nat) (A2 : Option Addr) (n2 c2 r2 : Nat) (w : World) (D1 : IsD w V f A1 n1 c1 r1) (D2 : IsD w V g A2 n2 c2 r2) : Calls Tryd.prog 26 #[.agg #[.int .i64 V, .slice A1 n1 c1, .int .i64 r1], .slice (some ⟨w.heap.size, 0, none⟩) 1 1] (w.alloc (.cells #[.int .i64 V, .slice A2 n2 c2, .int .i64 r2] 26)) fun e w' => e = .returned (.int .i64 0) ∧ Keep NoF (w.alloc (.cells #[.int .i64 V, .slice A2 n2 c2, .int .i64 r2] 26)) w' := by
  have hk : Keep NoF w (w.alloc (.cells #[.int .i64 V, .slice A2 n2 c2, .int .i64 r2] 26)) := (Keep.refl _ _).alloc _
  obtain ⟨d, e1, e2, e3, e4, e5, M, hd, hv, hM⟩ := (D2.keep hk).dg
  have hs := dg_setE hd hv e3 he fun v hv ρ b => by rw [hM, hM, hno v hv]
  have hrd := rd_new (w := w) 26 #[.int .i64 V, .slice A2 n2 c2, .int .i64 r2] 3 1 1 rfl rfl (Nat.le_refl _)
  have hc : [d].flatMap Dg.cells = (#[.int .i64 V, .slice A2 n2 c2, .int .i64 r2] : Array Value).toList := by rw [hd]; rfl
  rw [← hc] at hrd
  exact both_ok he [d] (by simpa using ⟨hs, e4⟩) (by simp) (by simp) _ A1 n1 c1 r1 _ (D1.keep hk) (by simpa using e2) hrd
theorem both2 {f g h : BF} {V : Nat} (he : V % 2 = 0) (hno : NoOdd g) (hno2 : NoOdd h) (A1 : Option Addr) (n1 c1 r1 : Nat) (A2 : Option Addr) (n2 c2 r2 : Nat) (A3 : Option Addr) (n3 c3 r3 : Nat) (w : World) (D1 : IsD w V f A1 n1 c1 r1) (D2 : IsD w V g A2 n2 c2 r2) (D3 : IsD w V h A3 n3 c3 r3) :
    Calls Tryd.prog 26 #[.agg #[.int .i64 V, .slice A1 n1 c1, .int .i64 r1], .slice (some ⟨w.heap.size, 0, none⟩) 2 2] (w.alloc (.cells #[.int .i64 V, .slice A2 n2 c2, .int .i64 r2, .int .i64 V, .slice A3 n3 c3, .int .i64 r3] 26)) fun e w' => e = .returned (.int .i64 0) ∧ Keep NoF (w.alloc (.cells #[.int .i64 V, .slice A2 n2 c2, .int .i64 r2, .int .i64 V, .slice A3 n3 c3, .int .i64 r3] 26)) w' := by
  have hk : Keep NoF w (w.alloc (.cells #[.int .i64 V, .slice A2 n2 c2, .int .i64 r2, .int .i64 V, .slice A3 n3 c3, .int .i64 r3] 26)) := (Keep.refl _ _).alloc _
  obtain ⟨d, e1, e2, e3, e4, e5, M, hd, hv, hM⟩ := (D2.keep hk).dg
  obtain ⟨d', k1, k2, k3, k4, k5, M', hd', hv', hM'⟩ := (D3.keep hk).dg
  have hs := dg_setE hd hv e3 he fun v hv ρ b => by rw [hM, hM, hno v hv]
  have hs' := dg_setE hd' hv' k3 he fun v hv ρ b => by rw [hM', hM', hno2 v hv]
  have hrd := rd_new (w := w) 26 #[.int .i64 V, .slice A2 n2 c2, .int .i64 r2, .int .i64 V, .slice A3 n3 c3, .int .i64 r3] 3 2 2 rfl rfl (Nat.le_refl _)
  have hc : [d, d'].flatMap Dg.cells = (#[.int .i64 V, .slice A2 n2 c2, .int .i64 r2, .int .i64 V, .slice A3 n3 c3, .int .i64 r3] : Array Value).toList := by rw [hd, hd']; rfl
  rw [← hc] at hrd
  exact both_ok he [d, d'] (by simpa using ⟨⟨hs, e4⟩, hs', k4⟩) (by simp) (by simp) _ A1 n1 c1 r1 _ (D1.keep hk) (by simpa using ⟨e2, k2⟩) hrd
theorem Image_ok {f g : BF} {V : Nat} (hV : V ≤ 12) (he : V % 2 = 0) (hno : NoOdd g) (A1 : Option Addr) (n1 c1 r1 : Nat) (A2 : Option Addr) (n2 c2 r2 : Nat) (w : World) (D1 : IsD w V f A1 n1 c1 r1) (D2 : IsD w V g A2 n2 c2 r2) : Calls Tryd.prog 19 #[.agg #[.int .i64 V, .slice A1 n1 c1, .int .i64 r1], .agg #[.int .i64 V, .slice A2 n2 c2, .int .i64 r2]] w (DP w V (imF V f g)) := by
  go_enter Tryd.func19, Tryd.ntmps19
  go_upto_region 1 with (fail)
  have Br := Bk.new w 26 #[.int .i64 V, .slice A1 n1 c1, .int .i64 r1]
  have Br := ((Br.alloc (.cells #[.int .i64 V, .slice A2 n2 c2, .int .i64 r2] 26)).alloc (.cells #[.int .i64 0, .slice none 0 0, .int .i64 0] 26))
  have Bs := Bk.new (w.alloc (.cells #[.int .i64 V, .slice A1 n1 c1, .int .i64 r1] 26)) 26 #[.int .i64 V, .slice A2 n2 c2, .int .i64 r2]
  simp only [World.size_alloc, Nat.add_assoc, Nat.reduceAdd] at Bs
  have Bs := (Bs.alloc (.cells #[.int .i64 0, .slice none 0 0, .int .i64 0] 26))
  have Bres := Bk.new ((w.alloc (.cells #[.int .i64 V, .slice A1 n1 c1, .int .i64 r1] 26)).alloc (.cells #[.int .i64 V, .slice A2 n2 c2, .int .i64 r2] 26)) 26 #[.int .i64 0, .slice none 0 0, .int .i64 0]
  simp only [World.size_alloc, Nat.add_assoc, Nat.reduceAdd] at Bres
  have Kw : Keep NoF w (((w.alloc (.cells #[.int .i64 V, .slice A1 n1 c1, .int .i64 r1] 26)).alloc (.cells #[.int .i64 V, .slice A2 n2 c2, .int .i64 r2] 26)).alloc (.cells #[.int .i64 0, .slice none 0 0, .int .i64 0] 26)) := ((((Keep.refl NoF w).alloc _).alloc _).alloc _)
  have Qr := D1.keep Kw
  have Qs := D2.keep Kw
  generalize (((w.alloc (.cells #[.int .i64 V, .slice A1 n1 c1, .int .i64 r1] 26)).alloc (.cells #[.int .i64 V, .slice A2 n2 c2, .int .i64 r2] 26)).alloc (.cells #[.int .i64 0, .slice none 0 0, .int .i64 0] 26)) = W0 at *
  have HB := Lib.hid (both1 he hno _ _ _ _ _ _ _ _ _ Qr Qs)
  have cr0 : W0.cell? ⟨w.heap.size, 0, none⟩ = some (.int .i64 V) := Br.cell 0
  have cr1 : W0.cell? ⟨w.heap.size, 1, none⟩ = some (.slice A1 n1 c1) := Br.cell 1
  have cr2 : W0.cell? ⟨w.heap.size, 2, none⟩ = some (.int .i64 r1) := Br.cell 2
  have cs0 : W0.cell? ⟨w.heap.size + 1, 0, none⟩ = some (.int .i64 V) := Bs.cell 0
  have cs1 : W0.cell? ⟨w.heap.size + 1, 1, none⟩ = some (.slice A2 n2 c2) := Bs.cell 1
  have cs2 : W0.cell? ⟨w.heap.size + 1, 2, none⟩ = some (.int .i64 r2) := Bs.cell 2
  go_upto_region 4 with (go_at_call 26
                         (with_reducible refine (HB.out).mono ?_)
                         rintro e wz ⟨rfl, KZ⟩
                         have KZ2 : Keep NoF W0 wz := ((Keep.refl NoF _).alloc _).trans KZ fun _ _ h => h
                         have Brn := Br.keep KZ2 fun h => h
                         have Bsn := Bs.keep KZ2 fun h => h
                         have Bresn := Bres.keep KZ2 fun h => h)
  clear cr0 cr1 cr2 cs0 cs1 cs2
  have Br_1 := Brn
  have Qr_1 := Qr.keep KZ2
  have Bs_1 := Bsn
  have Qs_1 := Qs.keep KZ2
  have Bres_1 := Bresn
  have Kw_1 := Kw.trans KZ2 fun _ _ h => h
  clear Kw KZ KZ2 Brn Br Qr Bsn Bs Qs Bresn Bres
  have HI := Lib.hid (image_any hV he _ _ _ _ _ _ _ _ _ Qr_1 Qs_1)
  have cr0 : wz.cell? ⟨w.heap.size, 0, none⟩ = some (.int .i64 V) := Br_1.cell 0
  have cr1 : wz.cell? ⟨w.heap.size, 1, none⟩ = some (.slice A1 n1 c1) := Br_1.cell 1
  have cr2 : wz.cell? ⟨w.heap.size, 2, none⟩ = some (.int .i64 r1) := Br_1.cell 2
  have cs0 : wz.cell? ⟨w.heap.size + 1, 0, none⟩ = some (.int .i64 V) := Bs_1.cell 0
  have cs1 : wz.cell? ⟨w.heap.size + 1, 1, none⟩ = some (.slice A2 n2 c2) := Bs_1.cell 1
  have cs2 : wz.cell? ⟨w.heap.size + 1, 2, none⟩ = some (.int .i64 r2) := Bs_1.cell 2
  go_wp2_with (go_at_call 47
               (with_reducible refine (HI.out).mono ?_)
               rintro e w3 ⟨A3, n3, c3, r3, rfl, D3, K3⟩
               have Brn := Br_1.keep K3 fun h => h
               have Lrn := Brn.lt
               have Bsn := Bs_1.keep K3 fun h => h
               have Lsn := Bsn.lt
               have Bresn := Bres_1.keep K3 fun h => h
               have Lresn := Bresn.lt
               have y0 : w3.cell? ⟨w.heap.size + 2, 0, none⟩ = some (.int .i64 0) := Bresn.cell 0
               have y1 : w3.cell? ⟨w.heap.size + 2, 1, none⟩ = some (.slice none 0 0) := Bresn.cell 1
               have y2 : w3.cell? ⟨w.heap.size + 2, 2, none⟩ = some (.int .i64 0) := Bresn.cell 2
               have yf0 := Bresn.frozen 0
               have yf1 := Bresn.frozen 1
               have yf2 := Bresn.frozen 2)
  clear cr0 cr1 cr2 cs0 cs1 cs2
  obtain ⟨Bres_2, Qres_2, S3⟩ := set3_box Bresn sl_nint D3
  have Br_2 := Brn.keep S3 fun h => by omega
  have Qr_2 := (Qr_1.keep K3).far_box Bresn sl_nint S3
  have Bs_2 := Bsn.keep S3 fun h => by omega
  have Qs_2 := (Qs_1.keep K3).far_box Bresn sl_nint S3
  have Kw_2 : Keep NoF w (((w3.setCell ⟨w.heap.size + 2, 0, none⟩ (.int .i64 V)).setCell ⟨w.heap.size + 2, 1, none⟩ (.slice A3 n3 c3)).setCell ⟨w.heap.size + 2, 2, none⟩ (.int .i64 r3)) := (Kw_1.trans K3 fun _ _ h => h).trans S3 fun i hi h => by omega
  generalize (((w3.setCell ⟨w.heap.size + 2, 0, none⟩ (.int .i64 V)).setCell ⟨w.heap.size + 2, 1, none⟩ (.slice A3 n3 c3)).setCell ⟨w.heap.size + 2, 2, none⟩ (.int .i64 r3)) = W2 at *
  clear Br_1 Bs_1 Bres_1 Qr_1 Qs_1 Brn Bsn Bresn Kw_1 D3 K3 S3 y0 y1 y2 yf0 yf1 yf2
  have h0 : W2.cell? ⟨w.heap.size + 2, 0, none⟩ = some (.int .i64 V) := Bres_2.cell 0
  have h1 : W2.cell? ⟨w.heap.size + 2, 1, none⟩ = some (.slice A3 n3 c3) := Bres_2.cell 1
  have h2 : W2.cell? ⟨w.heap.size + 2, 2, none⟩ = some (.int .i64 r3) := Bres_2.cell 2
  refine bodyPost_ret (v := .tuple #[.agg #[.int .i64 V, .slice A3 n3 c3, .int .i64 r3], .int .i64 0]) (by simp [results, Tryd.results19, go_sem, h0, h1, h2]) rfl ?_
  exact ⟨A3, n3, c3, r3, rfl, Qres_2, Kw_2⟩
theorem Pre_ok {f g : BF} {V : Nat} (hV : V ≤ 12) (he : V % 2 = 0) (hno : NoOdd g) (A1 : Option Addr) (n1 c1 r1 : Nat) (A2 : Option Addr) (n2 c2 r2 : Nat) (w : World) (D1 : IsD w V f A1 n1 c1 r1) (D2 : IsD w V g A2 n2 c2 r2) : Calls Tryd.prog 17 #[.agg #[.int .i64 V, .slice A1 n1 c1, .int .i64 r1], .agg #[.int .i64 V, .slice A2 n2 c2, .int .i64 r2]] w (DP w V (prF V f g)) := by
  go_enter Tryd.func17, Tryd.ntmps17
  go_upto_region 1 with (fail)
  have Br := Bk.new w 26 #[.int .i64 V, .slice A1 n1 c1, .int .i64 r1]
  have Br := ((Br.alloc (.cells #[.int .i64 V, .slice A2 n2 c2, .int .i64 r2] 26)).alloc (.cells #[.int .i64 0, .slice none 0 0, .int .i64 0] 26))
  have Bs := Bk.new (w.alloc (.cells #[.int .i64 V, .slice A1 n1 c1, .int .i64 r1] 26)) 26 #[.int .i64 V, .slice A2 n2 c2, .int .i64 r2]
  simp only [World.size_alloc, Nat.add_assoc, Nat.reduceAdd] at Bs
  have Bs := (Bs.alloc (.cells #[.int .i64 0, .slice none 0 0, .int .i64 0] 26))
  have Bres := Bk.new ((w.alloc (.cells #[.int .i64 V, .slice A1 n1 c1, .int .i64 r1] 26)).alloc (.cells #[.int .i64 V, .slice A2 n2 c2, .int .i64 r2] 26)) 26 #[.int .i64 0, .slice none 0 0, .int .i64 0]
  simp only [World.size_alloc, Nat.add_assoc, Nat.reduceAdd] at Bres
  have Kw : Keep NoF w (((w.alloc (.cells #[.int .i64 V, .slice A1 n1 c1, .int .i64 r1] 26)).alloc (.cells #[.int .i64 V, .slice A2 n2 c2, .int .i64 r2] 26)).alloc (.cells #[.int .i64 0, .slice none 0 0, .int .i64 0] 26)) := ((((Keep.refl NoF w).alloc _).alloc _).alloc _)
  have Qr := D1.keep Kw
  have Qs := D2.keep Kw
  generalize (((w.alloc (.cells #[.int .i64 V, .slice A1 n1 c1, .int .i64 r1] 26)).alloc (.cells #[.int .i64 V, .slice A2 n2 c2, .int .i64 r2] 26)).alloc (.cells #[.int .i64 0, .slice none 0 0, .int .i64 0] 26)) = W0 at *
  have HB := Lib.hid (both1 he hno _ _ _ _ _ _ _ _ _ Qr Qs)
  have cr0 : W0.cell? ⟨w.heap.size, 0, none⟩ = some (.int .i64 V) := Br.cell 0
  have cr1 : W0.cell? ⟨w.heap.size, 1, none⟩ = some (.slice A1 n1 c1) := Br.cell 1
  have cr2 : W0.cell? ⟨w.heap.size, 2, none⟩ = some (.int .i64 r1) := Br.cell 2
  have cs0 : W0.cell? ⟨w.heap.size + 1, 0, none⟩ = some (.int .i64 V) := Bs.cell 0
  have cs1 : W0.cell? ⟨w.heap.size + 1, 1, none⟩ = some (.slice A2 n2 c2) := Bs.cell 1
  have cs2 : W0.cell? ⟨w.heap.size + 1, 2, none⟩ = some (.int .i64 r2) := Bs.cell 2
  go_upto_region 4 with (go_at_call 26
                         (with_reducible refine (HB.out).mono ?_)
                         rintro e wz ⟨rfl, KZ⟩
                         have KZ2 : Keep NoF W0 wz := ((Keep.refl NoF _).alloc _).trans KZ fun _ _ h => h
                         have Brn := Br.keep KZ2 fun h => h
                         have Bsn := Bs.keep KZ2 fun h => h
                         have Bresn := Bres.keep KZ2 fun h => h)
  clear cr0 cr1 cr2 cs0 cs1 cs2
  have Br_1 := Brn
  have Qr_1 := Qr.keep KZ2
  have Bs_1 := Bsn
  have Qs_1 := Qs.keep KZ2
  have Bres_1 := Bresn
  have Kw_1 := Kw.trans KZ2 fun _ _ h => h
  clear Kw KZ KZ2 Brn Br Qr Bsn Bs Qs Bresn Bres
  have HI := Lib.hid (pre_any hV he _ _ _ _ _ _ _ _ _ Qr_1 Qs_1)
  have cr0 : wz.cell? ⟨w.heap.size, 0, none⟩ = some (.int .i64 V) := Br_1.cell 0
  have cr1 : wz.cell? ⟨w.heap.size, 1, none⟩ = some (.slice A1 n1 c1) := Br_1.cell 1
  have cr2 : wz.cell? ⟨w.heap.size, 2, none⟩ = some (.int .i64 r1) := Br_1.cell 2
  have cs0 : wz.cell? ⟨w.heap.size + 1, 0, none⟩ = some (.int .i64 V) := Bs_1.cell 0
  have cs1 : wz.cell? ⟨w.heap.size + 1, 1, none⟩ = some (.slice A2 n2 c2) := Bs_1.cell 1
  have cs2 : wz.cell? ⟨w.heap.size + 1, 2, none⟩ = some (.int .i64 r2) := Bs_1.cell 2
  go_wp2_with (go_at_call 46
               (with_reducible refine (HI.out).mono ?_)
               rintro e w3 ⟨A3, n3, c3, r3, rfl, D3, K3⟩
               have Brn := Br_1.keep K3 fun h => h
               have Lrn := Brn.lt
               have Bsn := Bs_1.keep K3 fun h => h
               have Lsn := Bsn.lt
               have Bresn := Bres_1.keep K3 fun h => h
               have Lresn := Bresn.lt
               have y0 : w3.cell? ⟨w.heap.size + 2, 0, none⟩ = some (.int .i64 0) := Bresn.cell 0
               have y1 : w3.cell? ⟨w.heap.size + 2, 1, none⟩ = some (.slice none 0 0) := Bresn.cell 1
               have y2 : w3.cell? ⟨w.heap.size + 2, 2, none⟩ = some (.int .i64 0) := Bresn.cell 2
               have yf0 := Bresn.frozen 0
               have yf1 := Bresn.frozen 1
               have yf2 := Bresn.frozen 2)
  clear cr0 cr1 cr2 cs0 cs1 cs2
  obtain ⟨Bres_2, Qres_2, S3⟩ := set3_box Bresn sl_nint D3
  have Br_2 := Brn.keep S3 fun h => by omega
  have Qr_2 := (Qr_1.keep K3).far_box Bresn sl_nint S3
  have Bs_2 := Bsn.keep S3 fun h => by omega
  have Qs_2 := (Qs_1.keep K3).far_box Bresn sl_nint S3
  have Kw_2 : Keep NoF w (((w3.setCell ⟨w.heap.size + 2, 0, none⟩ (.int .i64 V)).setCell ⟨w.heap.size + 2, 1, none⟩ (.slice A3 n3 c3)).setCell ⟨w.heap.size + 2, 2, none⟩ (.int .i64 r3)) := (Kw_1.trans K3 fun _ _ h => h).trans S3 fun i hi h => by omega
  generalize (((w3.setCell ⟨w.heap.size + 2, 0, none⟩ (.int .i64 V)).setCell ⟨w.heap.size + 2, 1, none⟩ (.slice A3 n3 c3)).setCell ⟨w.heap.size + 2, 2, none⟩ (.int .i64 r3)) = W2 at *
  clear Br_1 Bs_1 Bres_1 Qr_1 Qs_1 Brn Bsn Bresn Kw_1 D3 K3 S3 y0 y1 y2 yf0 yf1 yf2
  have h0 : W2.cell? ⟨w.heap.size + 2, 0, none⟩ = some (.int .i64 V) := Bres_2.cell 0
  have h1 : W2.cell? ⟨w.heap.size + 2, 1, none⟩ = some (.slice A3 n3 c3) := Bres_2.cell 1
  have h2 : W2.cell? ⟨w.heap.size + 2, 2, none⟩ = some (.int .i64 r3) := Bres_2.cell 2
  refine bodyPost_ret (v := .tuple #[.agg #[.int .i64 V, .slice A3 n3 c3, .int .i64 r3], .int .i64 0]) (by simp [results, Tryd.results17, go_sem, h0, h1, h2]) rfl ?_
  exact ⟨A3, n3, c3, r3, rfl, Qres_2, Kw_2⟩
theorem Box_ok {f g : BF} {V : Nat} (hV : V ≤ 12) (he : V % 2 = 0) (hno : NoOdd g) (A1 : Option Addr) (n1 c1 r1 : Nat) (A2 : Option Addr) (n2 c2 r2 : Nat) (w : World) (D1 : IsD w V f A1 n1 c1 r1) (D2 : IsD w V g A2 n2 c2 r2) : Calls Tryd.prog 18 #[.agg #[.int .i64 V, .slice A1 n1 c1, .int .i64 r1], .agg #[.int .i64 V, .slice A2 n2 c2, .int .i64 r2]] w (DP w V (boF V f g)) := by
  go_enter Tryd.func18, Tryd.ntmps18
  go_upto_region 1 with (fail)
  have Br := Bk.new w 26 #[.int .i64 V, .slice A1 n1 c1, .int .i64 r1]
  have Br := ((Br.alloc (.cells #[.int .i64 V, .slice A2 n2 c2, .int .i64 r2] 26)).alloc (.cells #[.int .i64 0, .slice none 0 0, .int .i64 0] 26))
  have Bs := Bk.new (w.alloc (.cells #[.int .i64 V, .slice A1 n1 c1, .int .i64 r1] 26)) 26 #[.int .i64 V, .slice A2 n2 c2, .int .i64 r2]
  simp only [World.size_alloc, Nat.add_assoc, Nat.reduceAdd] at Bs
  have Bs := (Bs.alloc (.cells #[.int .i64 0, .slice none 0 0, .int .i64 0] 26))
  have Bres := Bk.new ((w.alloc (.cells #[.int .i64 V, .slice A1 n1 c1, .int .i64 r1] 26)).alloc (.cells #[.int .i64 V, .slice A2 n2 c2, .int .i64 r2] 26)) 26 #[.int .i64 0, .slice none 0 0, .int .i64 0]
  simp only [World.size_alloc, Nat.add_assoc, Nat.reduceAdd] at Bres
  have Kw : Keep NoF w (((w.alloc (.cells #[.int .i64 V, .slice A1 n1 c1, .int .i64 r1] 26)).alloc (.cells #[.int .i64 V, .slice A2 n2 c2, .int .i64 r2] 26)).alloc (.cells #[.int .i64 0, .slice none 0 0, .int .i64 0] 26)) := ((((Keep.refl NoF w).alloc _).alloc _).alloc _)
  have Qr := D1.keep Kw
  have Qs := D2.keep Kw
  generalize (((w.alloc (.cells #[.int .i64 V, .slice A1 n1 c1, .int .i64 r1] 26)).alloc (.cells #[.int .i64 V, .slice A2 n2 c2, .int .i64 r2] 26)).alloc (.cells #[.int .i64 0, .slice none 0 0, .int .i64 0] 26)) = W0 at *
  have HB := Lib.hid (both1 he hno _ _ _ _ _ _ _ _ _ Qr Qs)
  have cr0 : W0.cell? ⟨w.heap.size, 0, none⟩ = some (.int .i64 V) := Br.cell 0
  have cr1 : W0.cell? ⟨w.heap.size, 1, none⟩ = some (.slice A1 n1 c1) := Br.cell 1
  have cr2 : W0.cell? ⟨w.heap.size, 2, none⟩ = some (.int .i64 r1) := Br.cell 2
  have cs0 : W0.cell? ⟨w.heap.size + 1, 0, none⟩ = some (.int .i64 V) := Bs.cell 0
  have cs1 : W0.cell? ⟨w.heap.size + 1, 1, none⟩ = some (.slice A2 n2 c2) := Bs.cell 1
  have cs2 : W0.cell? ⟨w.heap.size + 1, 2, none⟩ = some (.int .i64 r2) := Bs.cell 2
  go_upto_region 4 with (go_at_call 26
                         (with_reducible refine (HB.out).mono ?_)
                         rintro e wz ⟨rfl, KZ⟩
                         have KZ2 : Keep NoF W0 wz := ((Keep.refl NoF _).alloc _).trans KZ fun _ _ h => h
                         have Brn := Br.keep KZ2 fun h => h
                         have Bsn := Bs.keep KZ2 fun h => h
                         have Bresn := Bres.keep KZ2 fun h => h)
  clear cr0 cr1 cr2 cs0 cs1 cs2
  have Br_1 := Brn
  have Qr_1 := Qr.keep KZ2
  have Bs_1 := Bsn
  have Qs_1 := Qs.keep KZ2
  have Bres_1 := Bresn
  have Kw_1 := Kw.trans KZ2 fun _ _ h => h
  clear Kw KZ KZ2 Brn Br Qr Bsn Bs Qs Bresn Bres
  have HI := Lib.hid (box_any hV he _ _ _ _ _ _ _ _ _ Qr_1 Qs_1)
  have cr0 : wz.cell? ⟨w.heap.size, 0, none⟩ = some (.int .i64 V) := Br_1.cell 0
  have cr1 : wz.cell? ⟨w.heap.size, 1, none⟩ = some (.slice A1 n1 c1) := Br_1.cell 1
  have cr2 : wz.cell? ⟨w.heap.size, 2, none⟩ = some (.int .i64 r1) := Br_1.cell 2
  have cs0 : wz.cell? ⟨w.heap.size + 1, 0, none⟩ = some (.int .i64 V) := Bs_1.cell 0
  have cs1 : wz.cell? ⟨w.heap.size + 1, 1, none⟩ = some (.slice A2 n2 c2) := Bs_1.cell 1
  have cs2 : wz.cell? ⟨w.heap.size + 1, 2, none⟩ = some (.int .i64 r2) := Bs_1.cell 2
  go_wp2_with (go_at_call 33
               (with_reducible refine (HI.out).mono ?_)
               rintro e w3 ⟨A3, n3, c3, r3, rfl, D3, K3⟩
               have Brn := Br_1.keep K3 fun h => h
               have Lrn := Brn.lt
               have Bsn := Bs_1.keep K3 fun h => h
               have Lsn := Bsn.lt
               have Bresn := Bres_1.keep K3 fun h => h
               have Lresn := Bresn.lt
               have y0 : w3.cell? ⟨w.heap.size + 2, 0, none⟩ = some (.int .i64 0) := Bresn.cell 0
               have y1 : w3.cell? ⟨w.heap.size + 2, 1, none⟩ = some (.slice none 0 0) := Bresn.cell 1
               have y2 : w3.cell? ⟨w.heap.size + 2, 2, none⟩ = some (.int .i64 0) := Bresn.cell 2
               have yf0 := Bresn.frozen 0
               have yf1 := Bresn.frozen 1
               have yf2 := Bresn.frozen 2)
  clear cr0 cr1 cr2 cs0 cs1 cs2
  obtain ⟨Bres_2, Qres_2, S3⟩ := set3_box Bresn sl_nint D3
  have Br_2 := Brn.keep S3 fun h => by omega
  have Qr_2 := (Qr_1.keep K3).far_box Bresn sl_nint S3
  have Bs_2 := Bsn.keep S3 fun h => by omega
  have Qs_2 := (Qs_1.keep K3).far_box Bresn sl_nint S3
  have Kw_2 : Keep NoF w (((w3.setCell ⟨w.heap.size + 2, 0, none⟩ (.int .i64 V)).setCell ⟨w.heap.size + 2, 1, none⟩ (.slice A3 n3 c3)).setCell ⟨w.heap.size + 2, 2, none⟩ (.int .i64 r3)) := (Kw_1.trans K3 fun _ _ h => h).trans S3 fun i hi h => by omega
  generalize (((w3.setCell ⟨w.heap.size + 2, 0, none⟩ (.int .i64 V)).setCell ⟨w.heap.size + 2, 1, none⟩ (.slice A3 n3 c3)).setCell ⟨w.heap.size + 2, 2, none⟩ (.int .i64 r3)) = W2 at *
  clear Br_1 Bs_1 Bres_1 Qr_1 Qs_1 Brn Bsn Bresn Kw_1 D3 K3 S3 y0 y1 y2 yf0 yf1 yf2
  have h0 : W2.cell? ⟨w.heap.size + 2, 0, none⟩ = some (.int .i64 V) := Bres_2.cell 0
  have h1 : W2.cell? ⟨w.heap.size + 2, 1, none⟩ = some (.slice A3 n3 c3) := Bres_2.cell 1
  have h2 : W2.cell? ⟨w.heap.size + 2, 2, none⟩ = some (.int .i64 r3) := Bres_2.cell 2
  refine bodyPost_ret (v := .tuple #[.agg #[.int .i64 V, .slice A3 n3 c3, .int .i64 r3], .int .i64 0]) (by simp [results, Tryd.results18, go_sem, h0, h1, h2]) rfl ?_
  exact ⟨A3, n3, c3, r3, rfl, Qres_2, Kw_2⟩
end
end Go.Proofs.YtgdmcidcappkpaaDoor
