/- The law PrinterLimits answers true. Conditions: the variables lie as they are read. -/
import Derived.Test.YtbidfbojealmlaaGreatDoorPrL
set_option linter.unusedVariables false
set_option linter.unusedSimpArgs false
namespace Go.Proofs.YtbidfbojealmlaaGreatDoor
open Go.RowKit
open Fm (Nd cl checkE compactL tr mk2)
section
set_option maxRecDepth 100000
set_option maxHeartbeats 4000000
theorem print_SL {a f c : Option Addr} {l : List Nd} {s : List UInt8} {x : Int} {A : Option Addr} {cA : Nat} {w : World} (hp : printF SL l = (s, x)) (hS : SigR w SL a 4 f 8 c 8) (hT : Tabs w) (hll : l.length ≤ 9223372036854775807) (hrd : Rd w (.slice A l.length cA) 6 l.length (fmC l)) :
    Calls Tryz.prog 12 #[.agg #[.slice a 4 4, .slice f 8 8, .slice c 8 8], .slice A l.length cA] w fun e w' => e = .returned (.tuple #[.string (txt s), .int .i64 x]) ∧ Keep NoF w w' := by
  have := print_eq (S := SL) (ca := 4) (cf := 8) (cc := 8) hp hS hT hll hrd
  exact this
theorem lim_sig (w w1 : World) (k : Keep NoF w w1) : SigR ((((w1.alloc (.cells #[.string ⟨#[97]⟩, .string ⟨#[98]⟩, .string ⟨#[99]⟩, .string ⟨#[100]⟩] 9)).alloc (.cells #[.string ⟨#[112]⟩, .string ⟨#[113]⟩, .string ⟨#[114]⟩, .string ⟨#[115]⟩, .string ⟨#[116]⟩, .string ⟨#[117]⟩, .string ⟨#[118]⟩, .string ⟨#[119]⟩] 9)).alloc (.cells #[.string ⟨#[120, 48]⟩, .string ⟨#[120, 49]⟩, .string ⟨#[120, 50]⟩, .string ⟨#[120, 51]⟩, .string ⟨#[120, 52]⟩, .string ⟨#[120, 53]⟩, .string ⟨#[120, 54]⟩, .string ⟨#[120, 55]⟩] 9)).alloc (.cells #[.slice (some ⟨w1.heap.size, 0, none⟩) 4 4, .slice (some ⟨w1.heap.size + 1, 0, none⟩) 8 8, .slice (some ⟨w1.heap.size + 1 + 1, 0, none⟩) 8 8] 24)) SL (some ⟨w1.heap.size, 0, none⟩) 4 (some ⟨w1.heap.size + 1, 0, none⟩) 8 (some ⟨w1.heap.size + 1 + 1, 0, none⟩) 8 ∧ Keep NoF w ((((w1.alloc (.cells #[.string ⟨#[97]⟩, .string ⟨#[98]⟩, .string ⟨#[99]⟩, .string ⟨#[100]⟩] 9)).alloc (.cells #[.string ⟨#[112]⟩, .string ⟨#[113]⟩, .string ⟨#[114]⟩, .string ⟨#[115]⟩, .string ⟨#[116]⟩, .string ⟨#[117]⟩, .string ⟨#[118]⟩, .string ⟨#[119]⟩] 9)).alloc (.cells #[.string ⟨#[120, 48]⟩, .string ⟨#[120, 49]⟩, .string ⟨#[120, 50]⟩, .string ⟨#[120, 51]⟩, .string ⟨#[120, 52]⟩, .string ⟨#[120, 53]⟩, .string ⟨#[120, 54]⟩, .string ⟨#[120, 55]⟩] 9)).alloc (.cells #[.slice (some ⟨w1.heap.size, 0, none⟩) 4 4, .slice (some ⟨w1.heap.size + 1, 0, none⟩) 8 8, .slice (some ⟨w1.heap.size + 1 + 1, 0, none⟩) 8 8] 24)) ∧
    ((((w1.alloc (.cells #[.string ⟨#[97]⟩, .string ⟨#[98]⟩, .string ⟨#[99]⟩, .string ⟨#[100]⟩] 9)).alloc (.cells #[.string ⟨#[112]⟩, .string ⟨#[113]⟩, .string ⟨#[114]⟩, .string ⟨#[115]⟩, .string ⟨#[116]⟩, .string ⟨#[117]⟩, .string ⟨#[118]⟩, .string ⟨#[119]⟩] 9)).alloc (.cells #[.string ⟨#[120, 48]⟩, .string ⟨#[120, 49]⟩, .string ⟨#[120, 50]⟩, .string ⟨#[120, 51]⟩, .string ⟨#[120, 52]⟩, .string ⟨#[120, 53]⟩, .string ⟨#[120, 54]⟩, .string ⟨#[120, 55]⟩] 9)).alloc (.cells #[.slice (some ⟨w1.heap.size, 0, none⟩) 4 4, .slice (some ⟨w1.heap.size + 1, 0, none⟩) 8 8, .slice (some ⟨w1.heap.size + 1 + 1, 0, none⟩) 8 8] 24)).cell? ⟨w1.heap.size + 1 + 1 + 1, 0, none⟩ = some (.slice (some ⟨w1.heap.size, 0, none⟩) 4 4) ∧ ((((w1.alloc (.cells #[.string ⟨#[97]⟩, .string ⟨#[98]⟩, .string ⟨#[99]⟩, .string ⟨#[100]⟩] 9)).alloc (.cells #[.string ⟨#[112]⟩, .string ⟨#[113]⟩, .string ⟨#[114]⟩, .string ⟨#[115]⟩, .string ⟨#[116]⟩, .string ⟨#[117]⟩, .string ⟨#[118]⟩, .string ⟨#[119]⟩] 9)).alloc (.cells #[.string ⟨#[120, 48]⟩, .string ⟨#[120, 49]⟩, .string ⟨#[120, 50]⟩, .string ⟨#[120, 51]⟩, .string ⟨#[120, 52]⟩, .string ⟨#[120, 53]⟩, .string ⟨#[120, 54]⟩, .string ⟨#[120, 55]⟩] 9)).alloc (.cells #[.slice (some ⟨w1.heap.size, 0, none⟩) 4 4, .slice (some ⟨w1.heap.size + 1, 0, none⟩) 8 8, .slice (some ⟨w1.heap.size + 1 + 1, 0, none⟩) 8 8] 24)).cell? ⟨w1.heap.size + 1 + 1 + 1, 1, none⟩ = some (.slice (some ⟨w1.heap.size + 1, 0, none⟩) 8 8) ∧
    ((((w1.alloc (.cells #[.string ⟨#[97]⟩, .string ⟨#[98]⟩, .string ⟨#[99]⟩, .string ⟨#[100]⟩] 9)).alloc (.cells #[.string ⟨#[112]⟩, .string ⟨#[113]⟩, .string ⟨#[114]⟩, .string ⟨#[115]⟩, .string ⟨#[116]⟩, .string ⟨#[117]⟩, .string ⟨#[118]⟩, .string ⟨#[119]⟩] 9)).alloc (.cells #[.string ⟨#[120, 48]⟩, .string ⟨#[120, 49]⟩, .string ⟨#[120, 50]⟩, .string ⟨#[120, 51]⟩, .string ⟨#[120, 52]⟩, .string ⟨#[120, 53]⟩, .string ⟨#[120, 54]⟩, .string ⟨#[120, 55]⟩] 9)).alloc (.cells #[.slice (some ⟨w1.heap.size, 0, none⟩) 4 4, .slice (some ⟨w1.heap.size + 1, 0, none⟩) 8 8, .slice (some ⟨w1.heap.size + 1 + 1, 0, none⟩) 8 8] 24)).cell? ⟨w1.heap.size + 1 + 1 + 1, 2, none⟩ = some (.slice (some ⟨w1.heap.size + 1 + 1, 0, none⟩) 8 8) := by
  have h1 := rd_litP w1 SL.A 4 (by omega) rfl
  have h2 := rd_litP (w1.alloc (.cells (strs SL.A).toArray 9)) SL.F 8 (by omega) rfl
  have h3 := rd_litP ((w1.alloc (.cells (strs SL.A).toArray 9)).alloc (.cells (strs SL.F).toArray 9)) SL.C 8 (by omega) rfl
  have hb := Bk.new (((w1.alloc (.cells (strs SL.A).toArray 9)).alloc (.cells (strs SL.F).toArray 9)).alloc (.cells (strs SL.C).toArray 9)) 24 #[.slice (some ⟨w1.heap.size, 0, none⟩) 4 4, .slice (some ⟨w1.heap.size + 1, 0, none⟩) 8 8, .slice (some ⟨w1.heap.size + 1 + 1, 0, none⟩) 8 8]
  simp only [World.size_alloc] at h1 h2 h3 hb
  refine ⟨⟨?_, ?_, ?_, by decide +kernel, by decide, by decide, by decide⟩, (((k.alloc _).alloc _).alloc _).alloc _, (hb.cell 0).trans rfl, (hb.cell 1).trans rfl, (hb.cell 2).trans rfl⟩
  · exact h1.kept ((((Keep.refl NoF _).alloc _).alloc _).alloc _) fun _ _ h => h
  · exact h2.kept (((Keep.refl NoF _).alloc _).alloc _) fun _ _ h => h
  · exact h3.kept ((Keep.refl NoF _).alloc _) fun _ _ h => h
theorem walk_PrinterLimits (l : List Nd) (A : Option Addr) (cA : Nat) (n : Nat) (w : World) (hll : l.length ≤ 9223372036854775807) (hrd : Rd w (.slice A l.length cA) 6 l.length (fmC l)) (hn : n < 256) (hT : Tabs w) :
    Calls Tryz.prog 6 #[.slice A l.length cA, .int .u8 (n : Int)] w fun e w' => e = .returned (.bool true) ∧ Keep NoF w w' := by
  have HT := Lib.hid hT
  have HAW : Hid (∀ v, Keep NoF w v → _) := Lib.hid fun v (h : Keep NoF w v) => awake7_any v (HT.out.keep0 h)
  have HCK := Lib.hid (fmCheck_any l A cA w hll hrd)
  by_cases h60 : 60 < l.length
  · have h60' : (60 : Int) < (l.length : Int) := by omega
    have k0 : Keep NoF w w := Keep.refl _ _
    clear hrd HCK hT
    generalize l.length = ll at *
    go_enter Tryz.func6, Tryz.ntmps6
    go_wp2_with (first
      | (go_at_call 11; (with_reducible refine (HAW.out _ k0).mono ?_); rintro e w9 ⟨rfl, K9⟩; have k9 := k0.trans K9 fun _ _ h => h))
    refine bodyPost_ret (v := .bool true) (by simp [results, Tryz.results6, go_sem]) rfl ?_
    exact ⟨rfl, k9⟩
  · have h60' : ¬ (60 : Int) < (l.length : Int) := by omega
    by_cases hc : checkE l = 0
    · have HI := Lib.hid (LimI.start hc (by omega))
      have HRD := Lib.hid hrd
      rw [hc] at HCK
      have hl0 : l.length ≤ 200 := by omega
      clear hc hrd hT
      go_enter Tryz.func6, Tryz.ntmps6
      go_upto_region 4 with (first
        | (go_at_call 21; (with_reducible refine HCK.out.mono ?_); rintro e w1 ⟨rfl, K1⟩))
      obtain ⟨HSG0, k5, b0, b1, b2⟩ := lim_sig w w1 K1
      have HRD5 := HRD.out.kept k5 fun _ _ h => h
      generalize (((w1.alloc (.cells #[.string ⟨#[97]⟩, .string ⟨#[98]⟩, .string ⟨#[99]⟩, .string ⟨#[100]⟩] 9)).alloc (.cells #[.string ⟨#[112]⟩, .string ⟨#[113]⟩, .string ⟨#[114]⟩, .string ⟨#[115]⟩, .string ⟨#[116]⟩, .string ⟨#[117]⟩, .string ⟨#[118]⟩, .string ⟨#[119]⟩] 9)).alloc (.cells #[.string ⟨#[120, 48]⟩, .string ⟨#[120, 49]⟩, .string ⟨#[120, 50]⟩, .string ⟨#[120, 51]⟩, .string ⟨#[120, 52]⟩, .string ⟨#[120, 53]⟩, .string ⟨#[120, 54]⟩, .string ⟨#[120, 55]⟩] 9)).alloc (.cells #[.slice (some ⟨w1.heap.size, 0, none⟩) 4 4, .slice (some ⟨w1.heap.size + 1, 0, none⟩) 8 8, .slice (some ⟨w1.heap.size + 1 + 1, 0, none⟩) 8 8] 24) = W5 at *
      have HSG := Lib.hid HSG0
      have HR5 := Lib.hid HRD5
      clear HSG0 HRD5
      go_wp2
      go_loopw [0, 6, 7] (fun fv wv iv wr => ∃ (j : Nat) (L : List Nd) (A' : Option Addr) (c' u : Nat), fv = .slice A' L.length c' ∧ wv = .int .i64 u ∧ iv = .int .i64 j ∧ j ≤ n % 12 ∧ Hid (LimI L j u) ∧ L.length ≤ 200 ∧ u ≤ 4000 ∧ Hid (Rd wr (.slice A' L.length c') 6 L.length (fmC L)) ∧ Keep NoF W5 wr) (fun _ _ iv _ => n % 12 - (intOf iv).toNat)
      case atStart => exact ⟨0, l, A, cA, 0, rfl, rfl, rfl, by omega, HI, hl0, by omega, HR5, Keep.refl _ _⟩
      case round =>
        obtain ⟨j, L, A', c', u, rfl, rfl, rfl, hj, HL, hL, hu, HRL, hkr⟩ := hrel
        have kw : Keep NoF w wr := k5.trans hkr fun _ _ h => h
        have e0 := hkr.cellv b0 fun h => h
        have e1 := hkr.cellv b1 fun h => h
        have e2 := hkr.cellv b2 fun h => h
        by_cases hlt : j < n % 12
        · have hj1 : (j : Int) < (n : Int) % 12 := by omega
          rcases HL.out.round with ⟨hp, hq⟩ | ⟨s, hp, hs1, hs2, hs3, hq⟩
          · have HPL := Lib.hid fun W (hk : Keep NoF wr W) => print_SL (A := A') (cA := c') hp (HSG.out.keep (hkr.trans hk fun _ _ h => h)) (HT.out.keep0 (kw.trans hk fun _ _ h => h)) (by omega) (HRL.out.kept hk fun _ _ h => h)
            rw [show txt [] = ⟨#[]⟩ from rfl] at HPL
            clear hp
            rcases hq with rfl | hq
            · go_wp2_with (first
                | (go_at_call 12; (with_reducible refine (HPL.out _ (Keep.refl _ _)).mono ?_); rintro e w2 ⟨rfl, K2⟩; have k2 := kw.trans K2 fun _ _ h => h)
                | (go_at_call 11; (with_reducible refine (HAW.out _ k2).mono ?_); rintro e w9 ⟨rfl, K9⟩; have k9 := k2.trans K9 fun _ _ h => h))
              refine bodyPost_ret (v := .bool true) (by simp [results, Tryz.results6, go_sem]) rfl ?_
              exact ⟨rfl, k9⟩
            · by_cases hu0 : u = 0
              · subst hu0
                omega
              · have hu1 : ((u : Int) == 0) = false := by simpa using hu0
                have hu2 : (4000 : Int) < 2 * (u : Int) + 7 := by omega
                go_wp2_with (first
                  | (go_at_call 12; (with_reducible refine (HPL.out _ (Keep.refl _ _)).mono ?_); rintro e w2 ⟨rfl, K2⟩; have k2 := kw.trans K2 fun _ _ h => h)
                  | (go_at_call 11; (with_reducible refine (HAW.out _ k2).mono ?_); rintro e w9 ⟨rfl, K9⟩; have k9 := k2.trans K9 fun _ _ h => h))
                refine bodyPost_ret (v := .bool true) (by simp [results, Tryz.results6, go_sem]) rfl ?_
                exact ⟨rfl, k9⟩
          · have HPL := Lib.hid fun W (hk : Keep NoF wr W) => print_SL (A := A') (cA := c') hp (HSG.out.keep (hkr.trans hk fun _ _ h => h)) (HT.out.keep0 (kw.trans hk fun _ _ h => h)) (by omega) (HRL.out.kept hk fun _ _ h => h)
            obtain ⟨HN, hp1, hp2⟩ := HL.out.next (by omega)
            have HAND := Lib.hid fun W (hk : Keep NoF wr W) => c_And (show L.length ≤ 9223372036854775807 by omega) (HRL.out.kept hk fun _ _ h => h) (show L.length ≤ 9223372036854775807 by omega) (HRL.out.kept hk fun _ _ h => h)
            rw [← hs1] at HN
            have HNX := Lib.hid HN
            have hst : (txt s).size = s.length := txt_size s
            rw [← hst] at hs2 hs3 hq HNX
            clear HN hp hs1 hst
            generalize txt s = st at *
            generalize mk2 5 0 0 0 L L = M at *
            have z1 : ¬ (4000 : Int) < (st.size : Int) := by omega
            have z2 : ((st.size : Int) == 0) = false := beq_eq_false_iff_ne.2 (by omega)
            have z3 : ((M.length : Int) == 0) = false := beq_eq_false_iff_ne.2 (by omega)
            rcases hq with rfl | ⟨hu0, hu1, hu2⟩
            · go_wp2_with (first
                | (go_at_call 12; (with_reducible refine (HPL.out _ (Keep.refl _ _)).mono ?_); rintro e w2 ⟨rfl, K2⟩; have k2 := kw.trans K2 fun _ _ h => h)
                | (go_at_call 22; (with_reducible refine (HAND.out _ K2).mono ?_); rintro e w3 ⟨A3, c3, rfl, R3, K3, F3⟩; have HR3 := Lib.hid R3; have kx := (hkr.trans K2 fun _ _ h => h).trans K3 fun _ _ h => h; clear R3 F3))
              go_roundw
              case rel => exact ⟨j + 1, M, A3, c3, st.size, rfl, rfl, by go_num, by omega, HNX, hp2, hs3, HR3, kx⟩
              case measure => simp only [intOf]; omega
            · have y0 : (0 : Int) < (u : Int) := by omega
              have y1 : ¬ (st.size : Int) < 2 * (u : Int) + 3 := by omega
              have y2 : ¬ 2 * (u : Int) + 7 < (st.size : Int) := by omega
              go_wp2_with (first
                | (go_at_call 12; (with_reducible refine (HPL.out _ (Keep.refl _ _)).mono ?_); rintro e w2 ⟨rfl, K2⟩; have k2 := kw.trans K2 fun _ _ h => h)
                | (go_at_call 22; (with_reducible refine (HAND.out _ K2).mono ?_); rintro e w3 ⟨A3, c3, rfl, R3, K3, F3⟩; have HR3 := Lib.hid R3; have kx := (hkr.trans K2 fun _ _ h => h).trans K3 fun _ _ h => h; clear R3 F3))
              go_roundw
              case rel => exact ⟨j + 1, M, A3, c3, st.size, rfl, rfl, by go_num, by omega, HNX, hp2, hs3, HR3, kx⟩
              case measure => simp only [intOf]; omega
        · have hj1 : ¬ (j : Int) < (n : Int) % 12 := by omega
          go_wp2_with (first
            | (go_at_call 11; (with_reducible refine (HAW.out _ kw).mono ?_); rintro e w9 ⟨rfl, K9⟩; have k9 := kw.trans K9 fun _ _ h => h))
          refine bodyPost_ret (v := .bool true) (by simp [results, Tryz.results6, go_sem]) rfl ?_
          exact ⟨rfl, k9⟩
    · have hc' : (checkE l != 0) = true := by simpa using hc
      clear hc hrd hT
      generalize checkE l = cx at *
      generalize l.length = ll at *
      go_enter Tryz.func6, Tryz.ntmps6
      go_wp2_with (first
        | (go_at_call 21; (with_reducible refine HCK.out.mono ?_); rintro e w1 ⟨rfl, K1⟩)
        | (go_at_call 11; (with_reducible refine (HAW.out w1 K1).mono ?_); rintro e w9 ⟨rfl, K9⟩; have k9 := K1.trans K9 fun _ _ h => h))
      refine bodyPost_ret (v := .bool true) (by simp [results, Tryz.results6, go_sem]) rfl ?_
      exact ⟨rfl, k9⟩
end
end Go.Proofs.YtbidfbojealmlaaGreatDoor
