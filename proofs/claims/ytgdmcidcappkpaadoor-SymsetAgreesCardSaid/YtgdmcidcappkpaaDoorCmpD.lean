/- What Compose does. No condition. -/
import Derived.Test.YtgdmcidcappkpaaDoorWrapB
import Derived.Test.YtgdmcidcappkpaaDoorDia
set_option linter.unusedVariables false
set_option linter.unusedSimpArgs false
namespace Go.Proofs.YtgdmcidcappkpaaDoor
open Go.RowKit
open Dd (Rn rat ofN toN checkErr MemoOk den canon)

def cErr (a b : Dg) (i : Int) : Int := if dgErr [a, b] ≠ 0 then dgErr [a, b] else if a.V ≠ b.V then 3 else if i < 0 ∨ a.V ≤ i then 2 else 0

theorem cf_Compose : ∀ (args : Array Value) w', (callFunc 84 args).run Tryd.prog w' = .ok (.enter 84 args) w' := by intro args w'; kernel_rfl

set_option maxRecDepth 100000 in
set_option maxHeartbeats 2000000 in
theorem Compose_any (a b : Dg) (i : Int) (w : World) (ha : a.In w) (hb : b.In w) : Calls Tryd.prog 78 #[a.val, .int .i64 i, b.val] w (ErrOr w (cErr a b i) (OpPost w a.V [a, b] (cSem i.toNat))) := by
  have ha1 := ha.1
  have hb1 := hb.1
  have HIN := Lib.hid fun (w1 : World) (hk : Keep NoF w w1) => (show ∀ (j : Nat) d, [a, b][j]? = some d → d.In w1 from fun j d h => by
    have hm := List.mem_of_getElem? h
    have e : d = a ∨ d = b := by simpa using hm
    rcases e with rfl | rfl
    · exact ⟨ha.1.kept hk fun _ _ h => h, ha.2⟩
    · exact ⟨hb.1.kept hk fun _ _ h => h, hb.2⟩)
  have HO := Lib.hid fun (w1 : World) (lv : Value) (cap : Array Value) (hop : OpSem w1 84 cap [a, b].length (cSem i.toNat)) (hk : Keep NoF w w1) (hr : Rd w1 lv 3 [a, b].length ([a, b].flatMap Dg.cells)) =>
    oper_call (f := 84) (cap := cap) (ds := [a, b]) (V := a.V) (σ := cSem i.toNat) cf_Compose hop ⟨a, rfl, rfl⟩ (by simp) (by simp; exact ⟨ha, hb⟩) hk hr
  have hva : dgErr [a, b] = 0 → 0 ≤ a.V ∧ a.V ≤ 24 := fun h => by
    have h0 : a.err = 0 := dgErr_zero h (k := 0) rfl
    obtain ⟨v, M, r, h1, h2, h3, h4⟩ := Dd.valid_of h0
    have := h4.vars
    omega
  have hmv : ∀ e w1 w', OpPost w1 a.V [a, b] (cSem i.toNat) e w' → ∀ w2, Keep NoF w w2 → w.heap.size ≤ w1.heap.size → (∀ k, w1.heap.size ≤ k → w2.heap[k]? = w'.heap[k]?) → OpPost w a.V [a, b] (cSem i.toNat) e w2 := fun e w1 w' h w2 hk h0 h1 => h.move hk h0 h1
  have hkp : ∀ e w1 w', OpPost w1 a.V [a, b] (cSem i.toNat) e w' → Keep NoF w1 w' := fun e w1 w' h => h.2.2
  have HP : Hid (∀ e w', (cErr a b i ≠ 0 → e = .returned (.tuple #[dgZero, .int .i64 (cErr a b i)]) ∧ Keep NoF w w') → (cErr a b i = 0 → OpPost w a.V [a, b] (cSem i.toNat) e w') → ErrOr w (cErr a b i) (OpPost w a.V [a, b] (cSem i.toNat)) e w') := Lib.hid fun e w' h1 h2 => ⟨h1, h2⟩
  have hre : cErr a b i = if dgErr [a, b] ≠ 0 then dgErr [a, b] else if a.V ≠ b.V then 3 else if i < 0 ∨ a.V ≤ i then 2 else 0 := rfl
  have hfl : [a, b].flatMap Dg.cells = [.int .i64 a.V, a.sl, .int .i64 a.root, .int .i64 b.V, b.sl, .int .i64 b.root] := by simp [Dg.cells]
  have hdl : [a, b].length = 2 := rfl
  clear ha hb
  generalize ErrOr w (cErr a b i) (OpPost w a.V [a, b] (cSem i.toNat)) = PP at *
  generalize [a, b] = ds at *
  generalize cErr a b i = re at *
  obtain ⟨V1, R1, r1, s1⟩ := a
  obtain ⟨V2, R2, r2, s2⟩ := b
  simp only at ha1 hb1 hva hre hmv hkp hfl HP HO
  obtain ⟨_, A1, c1, rfl, _, _⟩ := ha1
  obtain ⟨_, A2, c2, rfl, _, _⟩ := hb1
  show Calls Tryd.prog 78 #[.agg #[.int .i64 V1, .slice A1 R1.length c1, .int .i64 r1], .int .i64 i, .agg #[.int .i64 V2, .slice A2 R2.length c2, .int .i64 r2]] w _
  generalize R1.length = n1 at *
  generalize R2.length = n2 at *
  have HRE := Lib.hid hre
  have HVA := Lib.hid hva
  have HMV := Lib.hid hmv
  have HKP := Lib.hid hkp
  have HFL := Lib.hid (And.intro hfl hdl)
  clear hre hva hmv hkp hfl hdl
  go_enter Tryd.func78, Tryd.ntmps78
  go_upto_region 1 with (fail)
  have hk0 : Keep NoF w ((((w.alloc (.cells #[.int .i64 V1, .slice A1 n1 c1, .int .i64 r1] 26)).alloc (.cells #[.int .i64 i] 3)).alloc (.cells #[.int .i64 V2, .slice A2 n2 c2, .int .i64 r2] 26)).alloc (.cells #[.int .i64 0, .slice none 0 0, .int .i64 0] 26)) := ((((Keep.refl _ _).alloc _).alloc _).alloc _).alloc _
  have hA : Bk ((((w.alloc (.cells #[.int .i64 V1, .slice A1 n1 c1, .int .i64 r1] 26)).alloc (.cells #[.int .i64 i] 3)).alloc (.cells #[.int .i64 V2, .slice A2 n2 c2, .int .i64 r2] 26)).alloc (.cells #[.int .i64 0, .slice none 0 0, .int .i64 0] 26)) w.heap.size 26 #[.int .i64 V1, .slice A1 n1 c1, .int .i64 r1] := (((Bk.new' _ _ _ (by simp)).alloc _).alloc _).alloc _
  have hI : Bk ((((w.alloc (.cells #[.int .i64 V1, .slice A1 n1 c1, .int .i64 r1] 26)).alloc (.cells #[.int .i64 i] 3)).alloc (.cells #[.int .i64 V2, .slice A2 n2 c2, .int .i64 r2] 26)).alloc (.cells #[.int .i64 0, .slice none 0 0, .int .i64 0] 26)) (w.heap.size + 1) 3 #[.int .i64 i] := ((Bk.new' _ _ _ (by simp)).alloc _).alloc _
  have hB : Bk ((((w.alloc (.cells #[.int .i64 V1, .slice A1 n1 c1, .int .i64 r1] 26)).alloc (.cells #[.int .i64 i] 3)).alloc (.cells #[.int .i64 V2, .slice A2 n2 c2, .int .i64 r2] 26)).alloc (.cells #[.int .i64 0, .slice none 0 0, .int .i64 0] 26)) (w.heap.size + 1 + 1) 26 #[.int .i64 V2, .slice A2 n2 c2, .int .i64 r2] := (Bk.new' _ _ _ (by simp)).alloc _
  have hR : Bk ((((w.alloc (.cells #[.int .i64 V1, .slice A1 n1 c1, .int .i64 r1] 26)).alloc (.cells #[.int .i64 i] 3)).alloc (.cells #[.int .i64 V2, .slice A2 n2 c2, .int .i64 r2] 26)).alloc (.cells #[.int .i64 0, .slice none 0 0, .int .i64 0] 26)) (w.heap.size + 1 + 1 + 1) 26 #[.int .i64 0, .slice none 0 0, .int .i64 0] := Bk.new' _ _ _ (by simp)
  generalize (((w.alloc (.cells #[.int .i64 V1, .slice A1 n1 c1, .int .i64 r1] 26)).alloc (.cells #[.int .i64 i] 3)).alloc (.cells #[.int .i64 V2, .slice A2 n2 c2, .int .i64 r2] 26)).alloc (.cells #[.int .i64 0, .slice none 0 0, .int .i64 0] 26) = W0 at *
  have p0 : W0.cell? ⟨w.heap.size, 0, none⟩ = some (.int .i64 V1) := hA.cell 0
  have p1 : W0.cell? ⟨w.heap.size, 1, none⟩ = some (.slice A1 n1 c1) := hA.cell 1
  have p2 : W0.cell? ⟨w.heap.size, 2, none⟩ = some (.int .i64 r1) := hA.cell 2
  have q0 : W0.cell? ⟨w.heap.size + 1 + 1, 0, none⟩ = some (.int .i64 V2) := hB.cell 0
  have q1 : W0.cell? ⟨w.heap.size + 1 + 1, 1, none⟩ = some (.slice A2 n2 c2) := hB.cell 1
  have q2 : W0.cell? ⟨w.heap.size + 1 + 1, 2, none⟩ = some (.int .i64 r2) := hB.cell 2
  have hkL : Keep NoF W0 (W0.alloc (.cells #[.int .i64 V1, .slice A1 n1 c1, .int .i64 r1, .int .i64 V2, .slice A2 n2 c2, .int .i64 r2] 26)) := (Keep.refl _ _).alloc _
  have hRl : w.heap.size + 1 + 1 + 1 < W0.heap.size := hR.lt
  have HRD : Hid (Rd (W0.alloc (.cells #[.int .i64 V1, .slice A1 n1 c1, .int .i64 r1, .int .i64 V2, .slice A2 n2 c2, .int .i64 r2] 26)) (.slice (some ⟨W0.heap.size, 0, none⟩) 2 2) 3 ds.length (ds.flatMap Dg.cells)) := Lib.hid (by
    rw [HFL.out.1, HFL.out.2]
    exact rd_new (w := W0) 26 #[.int .i64 V1, .slice A1 n1 c1, .int .i64 r1, .int .i64 V2, .slice A2 n2 c2, .int .i64 r2] 3 2 2 rfl rfl (by omega))
  have HRL := hR.keep hkL (fun h => h)
  have HIN0 := Lib.hid (HIN.out _ (hk0.trans hkL fun _ _ h => h))
  have hkw := hk0.trans hkL fun _ _ h => h
  go_wp2
  go_loopw [15] (fun j wr => ∃ k : Nat, j = .int .i64 k ∧ k ≤ 2 ∧ dgErr (ds.take k) = 0 ∧ Keep NoF (W0.alloc (.cells #[.int .i64 V1, .slice A1 n1 c1, .int .i64 r1, .int .i64 V2, .slice A2 n2 c2, .int .i64 r2] 26)) wr) (fun j _ => 2 - (intOf j).toNat)
  case atStart => exact ⟨0, rfl, by omega, rfl, Keep.refl _ _⟩
  case round =>
    obtain ⟨k, rfl, hk, hz, hkr⟩ := hrel
    have HZ := Lib.hid hz
    clear hz
    by_cases hlt : k < 2
    · have hlt' : k < ds.length := by rw [HFL.out.2]; exact hlt
      have hdk : ds[k]? = some ds[k] := List.getElem?_eq_getElem hlt'
      obtain ⟨hdr, hdl⟩ := HIN0.out k _ hdk
      obtain ⟨-, -, bl, off, hA, hcell⟩ := (HRD.out.kept hkr fun _ _ h => h).at_ (by omega)
      obtain ⟨rfl, rfl⟩ : W0.heap.size = bl ∧ 0 = off := by simpa using hA
      obtain ⟨c1, c2, c3⟩ := dgs_at ds k _ hdk
      have d1 := hcell _ _ c1
      have d2 := hcell _ _ c2
      have d3 := hcell _ _ c3
      simp only [Nat.zero_add] at d1 d2 d3
      have HDK := Lib.hid hdk
      clear hdk c1 c2 c3 hcell hA
      generalize ds[k] = d at *
      obtain ⟨dV, dR, droot, dsl⟩ := d
      simp only at d1 d2 d3 hdr hdl
      have hdr2 := hdr
      obtain ⟨_, A2, cc2, rfl, _, _⟩ := hdr2
      have hs := check_any dV dR droot (.slice A2 dR.length cc2) (wr.alloc (.cells #[.int .i64 dV, .slice A2 dR.length cc2, .int .i64 droot] 26)) hdl ((hdr.kept hkr fun _ _ h => h).alloc _)
      have HS := Lib.hid hs
      clear hs hdr hdl
      have hbk := HRL.keep hkr (fun h => h)
      generalize hne : checkErr dV dR droot = ne at *
      have HNE := Lib.hid hne
      clear hne
      by_cases h0 : ne = 0
      · subst h0
        go_wp2_with (go_at_call 60; (with_reducible refine HS.out.mono ?_); rintro e w1 ⟨rfl, hk1⟩)
        go_roundw
        case rel => exact ⟨k + 1, by go_num, by omega, dgErr_go (d := ⟨dV, dR, droot, _⟩) HNE.out k ds HDK.out HZ.out, (hkr.alloc _).trans hk1 fun _ _ h => h⟩
        case measure => simp [intOf]; omega
      · have hne0 : (ne != 0) = true := by simpa using h0
        go_wp2_with (go_at_call 60
                     (with_reducible refine HS.out.mono ?_)
                     rintro e w1 ⟨rfl, hk1⟩
                     have hb1 := (hbk.alloc (.cells #[.int .i64 dV, .slice A2 dR.length cc2, .int .i64 droot] 26)).keep hk1 (fun h => h)
                     have y0 : w1.cell? ⟨w.heap.size + 1 + 1 + 1, 0, none⟩ = some (.int .i64 0) := hb1.cell 0
                     have y1 : w1.cell? ⟨w.heap.size + 1 + 1 + 1, 1, none⟩ = some (.slice none 0 0) := hb1.cell 1
                     have y2 : w1.cell? ⟨w.heap.size + 1 + 1 + 1, 2, none⟩ = some (.int .i64 0) := hb1.cell 2
                     have f0 := hb1.frozen 0
                     have f1 := hb1.frozen 1
                     have f2 := hb1.frozen 2)
        have hds := dgErr_stop (d := ⟨dV, dR, droot, .slice A2 dR.length cc2⟩) (by show checkErr dV dR droot ≠ 0; rw [HNE.out]; exact h0) k ds HDK.out HZ.out
        have hds2 : dgErr ds = ne := hds.trans HNE.out
        have hre : re = ne := by rw [HRE.out, hds2, if_pos h0]
        have kf := ((hkw.trans hkr fun _ _ h => h).alloc (.cells #[.int .i64 dV, .slice A2 dR.length cc2, .int .i64 droot] 26)).trans hk1 fun _ _ h => h
        refine bodyPost_ret (v := .tuple #[dgZero, .int .i64 ne]) (by simp [results, Tryd.results78, go_sem, dgZero, y0, y1, y2]) rfl (HP.out _ _ (fun _ => ⟨by rw [hre], kf.set3 (b := w.heap.size + 1 + 1 + 1) (by omega) (.int .i64 0) (.slice none 0 0) (.int .i64 0)⟩) (fun h => absurd (hre.symm.trans h) (by omega)))
    · have hf : dgErr ds = 0 := by
        have e : k = ds.length := by rw [HFL.out.2]; omega
        have := HZ.out
        rwa [e, List.take_length] at this
      have hkc : Keep NoF W0 wr := hkL.trans hkr fun _ _ h => h
      have hk2e : k = 2 := by omega
      subst hk2e
      obtain ⟨wa, rfl⟩ : ∃ wa : World, wa = wr := ⟨_, rfl⟩
      obtain ⟨hv0, hv24⟩ := HVA.out hf
      have HF := Lib.hid hf
      have kwa := hk0.trans hkc fun _ _ h => h
      have hI2 := hI.keep hkc (fun h => h)
      have hR2 := hR.keep hkc (fun h => h)
      have p0 := hkc.cellv p0 (fun h => h)
      have p1 := hkc.cellv p1 (fun h => h)
      have p2 := hkc.cellv p2 (fun h => h)
      have q0 := hkc.cellv q0 (fun h => h)
      have q1 := hkc.cellv q1 (fun h => h)
      have q2 := hkc.cellv q2 (fun h => h)
      have xi : wa.cell? ⟨w.heap.size + 1, 0, none⟩ = some (.int .i64 i) := hI2.cell 0
      have y0 : wa.cell? ⟨w.heap.size + 1 + 1 + 1, 0, none⟩ = some (.int .i64 0) := hR2.cell 0
      have y1 : wa.cell? ⟨w.heap.size + 1 + 1 + 1, 1, none⟩ = some (.slice none 0 0) := hR2.cell 1
      have y2 : wa.cell? ⟨w.heap.size + 1 + 1 + 1, 2, none⟩ = some (.int .i64 0) := hR2.cell 2
      have f0 := hR2.frozen 0
      have f1 := hR2.frozen 1
      have f2 := hR2.frozen 2
      clear hf HRD HRL HIN0 HIN hkw hkL
      by_cases hV : V1 = V2
      · subst hV
        by_cases hneg : i < 0
        · have hre : re = 2 := by rw [HRE.out, HF.out, if_neg (by simp), if_neg (by simp), if_pos (.inl hneg)]
          go_wp2
          refine bodyPost_ret (v := .tuple #[dgZero, .int .i64 2]) (by simp [results, Tryd.results78, go_sem, dgZero, y0, y1, y2]) rfl (HP.out _ _ (fun _ => ⟨by rw [hre], kwa.set3 (b := w.heap.size + 1 + 1 + 1) (by omega) (.int .i64 0) (.slice none 0 0) (.int .i64 0)⟩) (fun h => absurd (hre.symm.trans h) (by omega)))
        · by_cases hge : V1 ≤ i
          · have hre : re = 2 := by rw [HRE.out, HF.out, if_neg (by simp), if_neg (by simp), if_pos (.inr hge)]
            go_wp2
            refine bodyPost_ret (v := .tuple #[dgZero, .int .i64 2]) (by simp [results, Tryd.results78, go_sem, dgZero, y0, y1, y2]) rfl (HP.out _ _ (fun _ => ⟨by rw [hre], kwa.set3 (b := w.heap.size + 1 + 1 + 1) (by omega) (.int .i64 0) (.slice none 0 0) (.int .i64 0)⟩) (fun h => absurd (hre.symm.trans h) (by omega)))
          · have hre : Hid (re = 0) := Lib.hid (by rw [HRE.out, HF.out, if_neg (by simp), if_neg (by simp), if_neg (by omega)])
            clear HRE
            obtain ⟨n, rfl⟩ : ∃ n : Nat, i = n := ⟨i.toNat, by omega⟩
            have hk5 : Keep NoF wa (wa.alloc (.cells #[.int .i64 V1, .slice A1 n1 c1, .int .i64 r1, .int .i64 V1, .slice A2 n2 c2, .int .i64 r2] 26)) := (Keep.refl _ _).alloc _
            have hop := compose_sem (wa.alloc (.cells #[.int .i64 V1, .slice A1 n1 c1, .int .i64 r1, .int .i64 V1, .slice A2 n2 c2, .int .i64 r2] 26)) (w.heap.size + 1) n (by omega) (hk5.cellv xi (fun h => h))
            have hrd5 : Rd (wa.alloc (.cells #[.int .i64 V1, .slice A1 n1 c1, .int .i64 r1, .int .i64 V1, .slice A2 n2 c2, .int .i64 r2] 26)) (.slice (some ⟨wa.heap.size, 0, none⟩) 2 2) 3 ds.length (ds.flatMap Dg.cells) := by
              rw [HFL.out.1, HFL.out.2]
              exact rd_new (w := wa) 26 #[.int .i64 V1, .slice A1 n1 c1, .int .i64 r1, .int .i64 V1, .slice A2 n2 c2, .int .i64 r2] 3 2 2 rfl rfl (by omega)
            have HX := Lib.hid (HO.out (wa.alloc (.cells #[.int .i64 V1, .slice A1 n1 c1, .int .i64 r1, .int .i64 V1, .slice A2 n2 c2, .int .i64 r2] 26)) _ _ (by rw [HFL.out.2]; exact hop) (kwa.trans hk5 fun _ _ h => h) hrd5)
            have hR5 := hR2.keep hk5 (fun h => h)
            have hz5 : wa.heap.size + 1 = (wa.alloc (.cells #[.int .i64 V1, .slice A1 n1 c1, .int .i64 r1, .int .i64 V1, .slice A2 n2 c2, .int .i64 r2] 26)).heap.size := by simp
            have hzw := kwa.size
            have hRw := hR2.lt
            clear HO hop hrd5 y0 y1 y2 f0 f1 f2
            go_wp2_with (go_at_call 52
                         (with_reducible refine HX.out.mono ?_)
                         rintro e w3 ⟨V', r', err, A', n', cc', rfl, hout⟩
                         have hk3 := HKP.out _ _ _ hout
                         have hb4 := hR5.keep hk3 (fun h => h)
                         have y0 : w3.cell? ⟨w.heap.size + 1 + 1 + 1, 0, none⟩ = some (.int .i64 0) := hb4.cell 0
                         have y1 : w3.cell? ⟨w.heap.size + 1 + 1 + 1, 1, none⟩ = some (.slice none 0 0) := hb4.cell 1
                         have y2 : w3.cell? ⟨w.heap.size + 1 + 1 + 1, 2, none⟩ = some (.int .i64 0) := hb4.cell 2
                         have f0 := hb4.frozen 0
                         have f1 := hb4.frozen 1
                         have f2 := hb4.frozen 2)
            have hkf : Keep NoF w (((w3.setCell ⟨w.heap.size + 1 + 1 + 1, 0, none⟩ (.int .i64 V')).setCell ⟨w.heap.size + 1 + 1 + 1, 1, none⟩ (.slice A' n' cc')).setCell ⟨w.heap.size + 1 + 1 + 1, 2, none⟩ (.int .i64 r')) := ((kwa.trans hk5 fun _ _ h => h).trans hk3 fun _ _ h => h).set3 (b := w.heap.size + 1 + 1 + 1) (by omega) (.int .i64 V') (.slice A' n' cc') (.int .i64 r')
            have hx := ((hb4.put 0 (.int .i64 V')).put 1 (.slice A' n' cc')).put 2 (.int .i64 r')
            have hset : ∀ k, k ≠ w.heap.size + 1 + 1 + 1 → (((w3.setCell ⟨w.heap.size + 1 + 1 + 1, 0, none⟩ (.int .i64 V')).setCell ⟨w.heap.size + 1 + 1 + 1, 1, none⟩ (.slice A' n' cc')).setCell ⟨w.heap.size + 1 + 1 + 1, 2, none⟩ (.int .i64 r')).heap[k]? = w3.heap[k]? := fun k hne => ((Below.heap_setCell _ _ _ k hne).trans (Below.heap_setCell _ _ _ k hne)).trans (Below.heap_setCell _ _ _ k hne)
            generalize ((w3.setCell ⟨w.heap.size + 1 + 1 + 1, 0, none⟩ (.int .i64 V')).setCell ⟨w.heap.size + 1 + 1 + 1, 1, none⟩ (.slice A' n' cc')).setCell ⟨w.heap.size + 1 + 1 + 1, 2, none⟩ (.int .i64 r') = W6 at *
            have hx0 : W6.cell? ⟨w.heap.size + 1 + 1 + 1, 0, none⟩ = some (.int .i64 V') := hx.cell 0
            have hx1 : W6.cell? ⟨w.heap.size + 1 + 1 + 1, 1, none⟩ = some (.slice A' n' cc') := hx.cell 1
            have hx2 : W6.cell? ⟨w.heap.size + 1 + 1 + 1, 2, none⟩ = some (.int .i64 r') := hx.cell 2
            refine bodyPost_ret (v := .tuple #[.agg #[.int .i64 V', .slice A' n' cc', .int .i64 r'], .int .i64 err]) (by simp [results, Tryd.results78, go_sem, hx0, hx1, hx2]) rfl (HP.out _ _ (fun h => absurd hre.out h) (fun _ => ?_))
            exact HMV.out _ _ _ hout W6 hkf (by omega) fun k hk => hset k (by omega)
      · have hVn : (V1 != V2) = true := by simpa using hV
        have hre : re = 3 := by rw [HRE.out, HF.out, if_neg (by simp), if_pos hV]
        go_wp2
        refine bodyPost_ret (v := .tuple #[dgZero, .int .i64 3]) (by simp [results, Tryd.results78, go_sem, dgZero, y0, y1, y2]) rfl (HP.out _ _ (fun _ => ⟨by rw [hre], kwa.set3 (b := w.heap.size + 1 + 1 + 1) (by omega) (.int .i64 0) (.slice none 0 0) (.int .i64 0)⟩) (fun h => absurd (hre.symm.trans h) (by omega)))
end Go.Proofs.YtgdmcidcappkpaaDoor
