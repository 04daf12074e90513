/- What the statement TopForged does: it returns true. No condition. -/
import Derived.Test.YtmjdbbfoihadoaaEwK
set_option linter.unusedVariables false
set_option linter.unusedSimpArgs false
namespace Go.Proofs.Ytmjdbbfoihadoaa
open Go.RowKit
open Ev
open Fm (Nd compactL checkE)
attribute [local go_sem] Oper.semAt_some

theorem Rd.take {w : World} {A : Option Addr} {size m c n : Nat} {xs : List Value} (h : Rd w (.slice A m c) size m xs) (hn : n ≤ m) : Rd w (.slice A n c) size n (xs.take (n * size)) := by
  obtain ⟨hl, A', c', he, hc, h2⟩ := h
  injection he with h1 h3 h4
  subst h1 h4
  refine ⟨by rw [List.length_take, hl]; exact Nat.min_eq_left (Nat.mul_le_mul_right _ hn), _, _, rfl, by omega, fun h0 => ?_⟩
  obtain ⟨bl, off, rfl, hx⟩ := h2 (by omega)
  refine ⟨bl, off, rfl, fun j u hu => hx j u ?_⟩
  rw [List.getElem?_take] at hu
  split at hu
  · exact hu
  · cases hu
theorem rssC_take : ∀ (E : List Rs) (ps : List (Option Addr × Nat)) (n : Nat), ps.length = E.length → rssC (E.take n) (ps.take n) = (rssC E ps).take (n * 5)
  | [], [], n, _ => by simp [rssC]
  | [], _ :: _, _, h => by simp at h
  | _ :: _, [], _, h => by simp at h
  | a :: E, b :: ps, 0, _ => by simp [rssC]
  | a :: E, b :: ps, n + 1, h => by
    have e : ∀ (E : List Rs) (ps : List (Option Addr × Nat)), rssC (a :: E) (b :: ps) = rsC a b ++ rssC E ps := fun _ _ => rfl
    have h5 : (rsC a b).length = 5 := rfl
    rw [List.take_succ_cons, List.take_succ_cons, e, e, rssC_take E ps n (by simpa using h), List.take_append, h5, show (n + 1) * 5 - 5 = n * 5 by omega, List.take_of_length_le (l := rsC a b) (by omega)]
theorem EvdR.take {w : World} {E : List Rs} {sA : Option Addr} {sc : Nat} {ps : List (Option Addr × Nat)} (h : EvdR w E sA sc ps) {n : Nat} (hn : n ≤ E.length) : EvdR w (E.take n) sA sc (ps.take n) := by
  have hl : (E.take n).length = n := by rw [List.length_take]; omega
  refine ⟨?_, by rw [List.length_take, List.length_take, h.pl], fun k r p hr hp => ?_, fun r hr => h.st r (List.mem_of_mem_take hr), by have := h.le; omega, fun r hr => h.lf r (List.mem_of_mem_take hr)⟩
  · rw [hl, rssC_take _ _ _ h.pl]
    exact h.S.take hn
  · rw [List.getElem?_take] at hr hp
    split at hr
    · rw [if_pos (by assumption)] at hp
      exact h.fr k r p hr hp
    · cases hr
section
set_option maxRecDepth 100000
set_option maxHeartbeats 4000000
variable {w : World} {M : Md} {va ra : Option Addr} {cv cr : Nat} {rs : List (Option Addr × Nat)}
theorem walk_TopForged (hM : MdR w M va cv ra cr rs) (f : List Nd) (A : Option Addr) (c : Nat) (hll : f.length ≤ 9223372036854775807) (hrd : Rd w (.slice A f.length c) 6 f.length (fmC f)) {E : List Rs} {sA : Option Addr} {sc : Nat} {ps : List (Option Addr × Nat)} (hE : EvO w E sA sc ps) :
    Calls Try.prog 3 #[.agg #[.int .i64 M.W, .slice va M.V.length cv, .slice ra M.R.length cr], .slice A f.length c, .agg #[.slice sA E.length sc]] w fun e w' => e = .returned (.bool true) ∧ Keep NoF w w' := by
  have k0 : Keep NoF w ((w.alloc (.cells #[.int .i64 M.W, .slice va M.V.length cv, .slice ra M.R.length cr] 25)).alloc (.cells #[.slice sA E.length sc] 29)) := ((Keep.refl _ _).alloc _).alloc _
  have q0 := (Bk.new w 25 #[.int .i64 M.W, .slice va M.V.length cv, .slice ra M.R.length cr]).alloc (.cells #[.slice sA E.length sc] 29)
  have q1 := Bk.new (w.alloc (.cells #[.int .i64 M.W, .slice va M.V.length cv, .slice ra M.R.length cr] 25)) 29 #[.slice sA E.length sc]
  simp only [World.size_alloc] at q1
  have HM := Lib.hid hM
  have HR := Lib.hid hrd
  have HE := Lib.hid hE
  have HFL : Hid (f.length ≤ 9223372036854775807) := Lib.hid hll
  have HQ := Lib.hid (And.intro q0 (And.intro q1 k0))
  have hle := hE.le
  have hMX : Hid (∀ W, Keep NoF w W → Calls Try.prog 5 #[.agg #[.int .i64 M.W, .slice va M.V.length cv, .slice ra M.R.length cr], .int .i64 10] W (FewPost W (FewM M 10))) := Lib.hid fun W k => moFew_any (hM.keep k) 10 (by decide)
  have hEX : Hid (∀ W, Keep NoF w W → Calls Try.prog 6 #[.agg #[.slice sA E.length sc], .int .i64 60] W (FewPost W (FewE E 60))) := Lib.hid fun W k => evFew_any 60 (by decide) (hE.keep k)
  have hAX : Hid (∀ W, Calls Try.prog 4 #[] W fun e w' => e = .returned (.bool true) ∧ Keep NoF W w') := Lib.hid tfawake_any
  clear hM hrd hE q0 q1 k0
  go_enter Try.func3, Try.ntmps3
  go_upto_region 1 with (fail)
  generalize (w.alloc (.cells #[.int .i64 M.W, .slice va M.V.length cv, .slice ra M.R.length cr] 25)).alloc (.cells #[.slice sA E.length sc] 29) = W1 at *
  have HS : Hid (∀ W', Keep NoF W1 W' → W'.cell? ⟨w.heap.size, 0, none⟩ = some (.int .i64 M.W) ∧ W'.cell? ⟨w.heap.size, 1, none⟩ = some (.slice va M.V.length cv) ∧ W'.cell? ⟨w.heap.size, 2, none⟩ = some (.slice ra M.R.length cr) ∧ W'.cell? ⟨w.heap.size + 1, 0, none⟩ = some (.slice sA E.length sc)) :=
    Lib.hid fun W' k => ⟨k.cellv (HQ.out.1.cell 0) fun h => h, k.cellv (HQ.out.1.cell 1) fun h => h, k.cellv (HQ.out.1.cell 2) fun h => h, k.cellv (HQ.out.2.1.cell 0) fun h => h⟩
  go_cut [30] from 14 to 31 (fun v30 wc => ∃ d, v30 = .bool d ∧ (d = false → FewE E 60) ∧ Keep NoF W1 wc)
  case first =>
    go_wp2_with (first
      | (go_at_call 4; (with_reducible refine (hAX.out _).mono ?_); rintro e w2 ⟨rfl, K2⟩; obtain ⟨m0, m1, m2, -⟩ := HS.out _ K2)
      | (go_at_call 5; (with_reducible refine (hMX.out _ (HQ.out.2.2.trans K2 fun _ _ h => h)).mono ?_); rintro e w3 ⟨d1, rfl, -, K3⟩; have K13 := K2.trans K3 fun _ _ h => h; obtain ⟨-, -, -, s3⟩ := HS.out _ K13)
      | (go_at_call 6; (with_reducible refine (hEX.out _ (HQ.out.2.2.trans K13 fun _ _ h => h)).mono ?_); rintro e w4 ⟨d3, rfl, hd3, K4⟩; have HD3 := Lib.hid hd3; clear hd3; have K14 := K13.trans K4 fun _ _ h => h))
    all_goals go_meet
    all_goals first
      | exact ⟨true, rfl, (fun h => by cases h), K13⟩
      | exact ⟨true, rfl, (fun h => by cases h), K14⟩
      | exact ⟨false, rfl, (fun _ => HD3.out rfl), K14⟩
      | exact ⟨decide (20 < (f.length : Int)) || !d3, rfl, (fun h => HD3.out (by cases d3 <;> simp_all)), K14⟩
  case rest =>
    obtain ⟨d, rfl, hd, K1⟩ := hcut
    have HW := Lib.hid (HQ.out.2.2.trans K1 fun _ _ h => h)
    cases d with
    | true =>
      go_wp2_with (first
        | (go_at_call 4; (with_reducible refine (hAX.out _).mono ?_); rintro e w2 ⟨rfl, K2⟩))
      go_ret
      exact ⟨rfl, HW.out.trans K2 fun _ _ h => h⟩
    | false =>
      have HFE := Lib.hid (hd rfl)
      clear hd
      have HCO : Hid (Calls Try.prog 7 #[.slice A f.length c] wc (FmPost wc (compactL f))) := Lib.hid (Compact_any f A c wc HFL.out (HR.out.kept HW.out fun _ _ h => h))
      obtain ⟨m0, m1, m2, s0⟩ := HS.out _ K1
      by_cases hrq : requestE M f = 0
      · obtain ⟨h1, h2, h3, h4⟩ := request_zero.1 hrq
        have hok := (model_zero HM.out.u).1 h1
        have hoc := okc_of h2 h3 h4
        have hrg : requestE M (compactL f) = 0 := by rw [request_compact h2]; exact hrq
        have hg200 := compact_200 f
        have hz : ∀ k, k < (compactL f).length → (u6 ((setsN M (compactL f) (compactL f).length).map (·.1)))[k]? = some (.int .u64 (setN M (compactL f) k : Nat)) := fun k hk => by
          have hl := setsN_len M (compactL f) (compactL f).length
          unfold u6 setN
          rw [List.getElem?_map, List.getElem?_map, List.getD_eq_getElem?_getD, List.getElem?_eq_getElem (by omega)]
          rfl
        have HS1 : Hid (∀ W' A2 c2, Keep NoF wc W' → Rd W' (.slice A2 (compactL f).length c2) 6 (compactL f).length (fmC (compactL f)) → Calls Try.prog 8 #[.agg #[.int .i64 M.W, .slice va M.V.length cv, .slice ra M.R.length cr], .slice A2 (compactL f).length c2] W' fun e w' => ∃ b, e = .returned (.tuple #[.slice (some ⟨b, 0, none⟩) (compactL f).length (compactL f).length, .int .i64 0]) ∧ (∀ k, k < (compactL f).length → w'.cell? ⟨b, k, none⟩ = some (.int .u64 (setN M (compactL f) k : Nat))) ∧ Keep NoF W' w') :=
          Lib.hid fun W' A2 c2 k r => (ckSets_ok (compactL f) A2 c2 (HM.out.keep (HW.out.trans k fun _ _ h => h)) r hrg).mono fun e w' ⟨b, he, _, hB, hk⟩ => ⟨b, he, fun k hk' => (hB.cell k).trans (by rw [List.getElem?_toArray]; exact hz k hk'), hk⟩
        have HC2 : Hid (∀ W' E' ps', Keep NoF wc W' → EvdR W' E' sA sc ps' → Calls Try.prog 9 #[.agg #[.int .i64 M.W, .slice va M.V.length cv, .slice ra M.R.length cr], .slice A f.length c, .agg #[.slice sA E'.length sc]] W' fun e w' => e = .returned (.int .i64 (evE M (compactL f) E')) ∧ Keep NoF W' w') :=
          Lib.hid fun W' E' ps' k hE' => evCheck_ok f A c (HM.out.keep (HW.out.trans k fun _ _ h => h)) (HR.out.kept (HW.out.trans k fun _ _ h => h) fun _ _ h => h) hrq E' sA sc ps' hE'
        have HED : Hid (EvdR wc E sA sc ps) := Lib.hid ((HE.out.keep HW.out).evd (by have := HFE.out.1; omega) fun r hr => by have := HFE.out.2 r hr; omega)
        have HSO : Hid (evE M (compactL f) E = 0 → ∀ j, j < E.length → 0 ≤ (rsAt E j).w ∧ (rsAt E j).w < M.W ∧ 0 ≤ (rsAt E j).k ∧ (rsAt E j).k < ((compactL f).length : Int) ∧ (setN M (compactL f) (rsAt E j).k.toNat).testBit (rsAt E j).w.toNat = (rsAt E j).h) := Lib.hid fun h j hj => ev_sound hok hoc h j _ (rsAt_eq hj)
        have HTK : Hid (evE M (compactL f) E = 0 → ∀ j, evE M (compactL f) (E.take (j + 1)) = 0) := Lib.hid fun h j => ev_take h (by omega)
        have HOK := Lib.hid (And.intro hok.n1 (show ∀ k, k < (compactL f).length → setN M (compactL f) k < 18446744073709551616 from fun k hk => Ev.lt64 hok.n1.2.1 (sets_ok hok hoc k _ (getD_of hk)).2.1))
        clear h1 h2 h3 h4 hrg hrq hz hok hoc
        generalize compactL f = g at *
        go_upto_region 7 with (first
          | (go_at_call 7; (with_reducible refine HCO.out.mono ?_); rintro e w2 ⟨A2, c2, rfl, R2, K2, -⟩; have HR2 := Lib.hid R2; obtain ⟨a0, a1, a2, a3⟩ := HS.out _ (K1.trans K2 fun _ _ h => h))
          | (go_at_call 8; (with_reducible refine (HS1.out _ _ _ K2 HR2.out).mono ?_); rintro e w3 ⟨bz, rfl, hz, K3⟩; have HZ := Lib.hid hz; clear hz; have K23 := K2.trans K3 fun _ _ h => h; obtain ⟨b0, b1, b2, b3⟩ := HS.out _ (K1.trans K23 fun _ _ h => h))
          | (go_at_call 9; (with_reducible refine (HC2.out _ _ _ K23 (HED.out.keep K23)).mono ?_); rintro e w4 ⟨rfl, K4⟩; have K24 := K23.trans K4 fun _ _ h => h; have K14 := K1.trans K24 fun _ _ h => h; obtain ⟨d0, d1, d2, d3⟩ := HS.out _ K14))
        clear a0 a1 a2 a3 b0 b1 b2 b3 m0 m1 m2 s0
        obtain ⟨z, hz⟩ : ∃ z, evE M g E = z := ⟨_, rfl⟩
        have HZV := Lib.hid hz
        rw [hz]
        obtain ⟨ok, hok⟩ : ∃ ok, (z == 0) = ok := ⟨_, rfl⟩
        have HOKK := Lib.hid hok
        rw [hok]
        clear hz hok
        go_loopw [59] (fun t wr => ∃ j : Nat, t = .int .i64 (j : Int) ∧ j ≤ E.length ∧ Keep NoF w4 wr) (fun t _ => E.length - (intOf t).toNat)
        case atStart => exact ⟨0, rfl, by omega, Keep.refl _ _⟩
        case round =>
          obtain ⟨j, rfl, hj, hkr⟩ := hrel
          have KWR := Lib.hid (K24.trans hkr fun _ _ h => h)
          by_cases hlt : j < E.length
          · obtain ⟨bl, off, rfl, hsc, pA, pc, hfl, c0, c1, c2, c3, c4⟩ := (HE.out.keep (HW.out.trans KWR.out fun _ _ h => h)).at_ hlt
            have HJ : Hid (evE M g E = 0 → 0 ≤ (rsAt E j).w ∧ (rsAt E j).w < M.W ∧ 0 ≤ (rsAt E j).k ∧ (rsAt E j).k < (g.length : Int) ∧ (setN M g (rsAt E j).k.toNat).testBit (rsAt E j).w.toNat = (rsAt E j).h) := Lib.hid fun h => HSO.out h j hlt
            have l1 : (j : Int) < (E.length : Int) := by omega
            have l0 : (0 : Int) ≤ (j : Int) := by omega
            generalize rsAt E j = r at *
            obtain ⟨rw, rk, rh, fr, st⟩ := r
            simp only at c0 c1 c2 c3 c4 HJ hfl
            have HBX := Lib.hid (Bk.new wr 40 #[.int .i64 rw, .int .i64 rk, .bool rh, .slice pA fr.length pc, .int .u64 (st : Int)])
            have k5 : Keep NoF w4 (wr.alloc (.cells #[.int .i64 rw, .int .i64 rk, .bool rh, .slice pA fr.length pc, .int .u64 (st : Int)] 40)) := hkr.alloc _
            go_upto_region 11 with (fail)
            generalize wr.alloc (.cells #[.int .i64 rw, .int .i64 rk, .bool rh, .slice pA fr.length pc, .int .u64 (st : Int)] 40) = W5 at *
            have x0 : W5.cell? ⟨wr.heap.size, 0, none⟩ = some (.int .i64 rw) := HBX.out.cell 0
            have x1 : W5.cell? ⟨wr.heap.size, 1, none⟩ = some (.int .i64 rk) := HBX.out.cell 1
            have x2 : W5.cell? ⟨wr.heap.size, 2, none⟩ = some (.bool rh) := HBX.out.cell 2
            obtain ⟨y0, y1, y2, y3⟩ := HS.out _ (K14.trans k5 fun _ _ h => h)
            go_cut [13] from 64 to 119 (fun v13 wd => ∃ rt, v13 = .bool rt ∧ (evE M g E = 0 → rt = true) ∧ Keep NoF W5 wd)
            case first =>
              by_cases g1 : 0 ≤ rw
              · by_cases g2 : rw < M.W
                · by_cases g3 : 0 ≤ rk
                  · by_cases g4 : rk < (g.length : Int)
                    · obtain ⟨wd, rfl⟩ : ∃ wd : Nat, rw = (wd : Int) := ⟨rw.toNat, by omega⟩
                      obtain ⟨kd, rfl⟩ : ∃ kd : Nat, rk = (kd : Int) := ⟨rk.toNat, by omega⟩
                      obtain ⟨⟨n1, n2, n3⟩, n4⟩ := HOK.out
                      have hw64 : wd < 64 := by omega
                      have hz := ((K4.trans k5 fun _ _ h => h).cellv (HZ.out kd (by omega)) fun h => h)
                      have hbit := sbit_eq wd (n4 kd (by omega))
                      have hmin : min wd 64 = wd := Nat.min_eq_left (by omega)
                      have hwr : IntKind.u64.wrap (wd : Int) = (wd : Int) := by rw [IntKind.wrap_u64]; omega
                      have HJ2 : Hid (evE M g E = 0 → (setN M g kd).testBit wd = rh) := Lib.hid fun h => by simpa using (HJ.out h).2.2.2.2
                      generalize (setN M g kd).testBit wd = d at *
                      generalize setN M g kd = v at *
                      clear n1 n2 n3 n4 HJ
                      go_quiet (fail)
                      go_wp2
                      go_meet
                      exact ⟨d == rh, rfl, (fun h => by rw [HJ2.out h]; simp), Keep.drewN (Keep.refl _ _) _⟩
                    · go_quiet (fail)
                      go_wp2
                      go_meet
                      exact ⟨false, rfl, (fun h => by have := (HJ.out h).2.2.2.1; omega), Keep.drewN (Keep.refl _ _) _⟩
                  · go_quiet (fail)
                    go_wp2
                    go_meet
                    exact ⟨false, rfl, (fun h => by have := (HJ.out h).2.2.1; omega), Keep.drewN (Keep.refl _ _) _⟩
                · go_quiet (fail)
                  go_wp2
                  go_meet
                  exact ⟨false, rfl, (fun h => by have := (HJ.out h).2.1; omega), Keep.drewN (Keep.refl _ _) _⟩
              · go_quiet (fail)
                go_wp2
                go_meet
                exact ⟨false, rfl, (fun h => by have := (HJ.out h).1; omega), Keep.drewN (Keep.refl _ _) _⟩
            case rest =>
              obtain ⟨rt, rfl, hrt, Kwd⟩ := hcut
              have KW := k5.trans Kwd fun _ _ h => h
              obtain ⟨z0, z1, z2, z3⟩ := HS.out _ (K14.trans KW fun _ _ h => h)
              have HKW := Lib.hid KW
              cases ok with
              | true =>
                have hz0 : evE M g E = 0 := by have := HOKK.out; rw [HZV.out]; simpa using this
                obtain rfl := hrt hz0
                have HT3 : Hid (∀ W', Keep NoF w4 W' → Calls Try.prog 9 #[.agg #[.int .i64 M.W, .slice va M.V.length cv, .slice ra M.R.length cr], .slice A f.length c, .agg #[.slice (some ⟨bl, off, none⟩) (j + 1) sc]] W' fun e w' => e = .returned (.int .i64 0) ∧ Keep NoF W' w') := Lib.hid fun W' k => by
                  have h := HC2.out W' (E.take (j + 1)) (ps.take (j + 1)) (K24.trans k fun _ _ h => h) ((HED.out.take (by omega)).keep (K24.trans k fun _ _ h => h))
                  rw [show (E.take (j + 1)).length = j + 1 by rw [List.length_take]; omega, HTK.out hz0 j] at h
                  exact h
                have l2 : ((j : Int) + 1) ≤ (sc : Int) := by omega
                have l3 : (0 : Int) ≤ (j : Int) + 1 := by omega
                have l4 : (j : Int) < (sc : Int) := by omega
                have l5 : j < sc := by omega
                have l6 : j + 1 ≤ sc := by omega
                have l7 : ((j : Int) + 1).toNat = j + 1 := by omega
                have l8 : ¬ ((j : Int) + 1 < 0) := by omega
                have l9 : IntKind.i64.wrap ((j : Int) + 1) = (j : Int) + 1 := wrap_i64 (by omega) (by omega)
                have HSS : Hid (∀ w', Keep NoF wc w' → w'.cell? ⟨w.heap.size, 0, none⟩ = some (.int .i64 M.W) ∧ w'.cell? ⟨w.heap.size, 1, none⟩ = some (.slice va M.V.length cv) ∧ w'.cell? ⟨w.heap.size, 2, none⟩ = some (.slice ra M.R.length cr) ∧ w'.cell? ⟨w.heap.size + 1, 0, none⟩ = some (.slice (some ⟨bl, off, none⟩) E.length sc)) := Lib.hid fun w' k => HS.out _ (K14.trans (HKW.out.trans k fun _ _ h => h) fun _ _ h => h)
                have K0 : Keep NoF wc wc.drew := (Keep.refl _ _).drew
                clear hrt hz0
                go_upto_region 12 with (fail)
                go_region_held3 (fun w' => w'.cell? ⟨w.heap.size, 0, none⟩ = some (.int .i64 M.W) ∧ w'.cell? ⟨w.heap.size, 1, none⟩ = some (.slice va M.V.length cv) ∧ w'.cell? ⟨w.heap.size, 2, none⟩ = some (.slice ra M.R.length cr) ∧ w'.cell? ⟨w.heap.size + 1, 0, none⟩ = some (.slice (some ⟨bl, off, none⟩) E.length sc))
                  (first
                    | with_reducible exact HSS.out _ K0
                    | with_reducible exact HSS.out _ K6)
                  (first
                    | (go_at_call 9
                       (with_reducible refine (HT3.out _ (HKW.out.trans K0 fun _ _ h => h)).mono ?_)
                       rintro e w6 ⟨rfl, k6⟩
                       have K6 : Keep NoF wc w6 := K0.trans k6 fun _ _ h => h))
                all_goals
                  go_wp2
                  exact ⟨⟨j + 1, by simp, by omega, HKW.out.trans K6 fun _ _ h => h⟩, by show E.length - ((j : Int) + 1).toNat < E.length - ((j : Int)).toNat; omega⟩
              | false =>
                clear hrt
                go_upto_region 12 with (fail)
                refine wp_region_held_drew (S := fun _ => True) (by kernel_rfl) trivial (fun hHeld => ?_)
                -- NO
                refine wpAnyH_take (i := 0) (oi := ⟨some 102, _, _, _, _, _⟩) (v := ?_) rfl (by kernel_rfl) (by kernel_rfl) (by kernel_rfl) (fun _ _ _ h => h) (Or.inl ⟨by rfl, ?_⟩) (by assumption) ?_
                rotate_left 1
                · intro w hSw
                  (try dsimp only at hSw)
                  go_simp
                  all_goals (try with_reducible rfl)
                (try simp only [Act.put, List.setIfInBounds_toArray, List.set_cons_zero, List.set_cons_succ])
                refine wpAnyH_take (i := 1) (oi := ⟨some 103, _, _, _, _, _⟩) (v := ?_) rfl (by kernel_rfl) (by kernel_rfl) (by kernel_rfl) (fun _ _ _ h => h) (Or.inl ⟨by rfl, ?_⟩) (by assumption) ?_
                rotate_left 1
                · intro w hSw
                  (try dsimp only at hSw)
                  go_simp
                  all_goals (try with_reducible rfl)
                (try simp only [Act.put, List.setIfInBounds_toArray, List.set_cons_zero, List.set_cons_succ])
                refine wpAnyH_take (i := 2) (oi := ⟨some 104, _, _, _, _, _⟩) (v := undef) rfl (by kernel_rfl) (by kernel_rfl) (by kernel_rfl) (fun _ _ _ h => h) (Or.inr ⟨by rfl, rfl⟩) (by assumption) ?_
                (try simp only [Act.put, List.setIfInBounds_toArray, List.set_cons_zero, List.set_cons_succ])
                refine wpAnyH_take (i := 3) (oi := ⟨some 105, _, _, _, _, _⟩) (v := undef) rfl (by kernel_rfl) (by kernel_rfl) (by kernel_rfl) (fun _ _ _ h => h) (Or.inr ⟨by rfl, rfl⟩) (by assumption) ?_
                (try simp only [Act.put, List.setIfInBounds_toArray, List.set_cons_zero, List.set_cons_succ])
                refine wpAnyH_take (i := 4) (oi := ⟨some 106, _, _, _, _, _⟩) (v := undef) rfl (by kernel_rfl) (by kernel_rfl) (by kernel_rfl) (fun _ _ _ h => h) (Or.inr ⟨by rfl, rfl⟩) (by assumption) ?_
                (try simp only [Act.put, List.setIfInBounds_toArray, List.set_cons_zero, List.set_cons_succ])
                refine wpAnyH_take (i := 5) (oi := ⟨some 107, _, _, _, _, _⟩) (v := undef) rfl (by kernel_rfl) (by kernel_rfl) (by kernel_rfl) (fun _ _ _ h => h) (Or.inr ⟨by rfl, rfl⟩) (by assumption) ?_
                (try simp only [Act.put, List.setIfInBounds_toArray, List.set_cons_zero, List.set_cons_succ])
                refine wpAnyH_take (i := 6) (oi := ⟨some 108, _, _, _, _, _⟩) (v := undef) rfl (by kernel_rfl) (by kernel_rfl) (by kernel_rfl) (fun _ _ _ h => h) (Or.inr ⟨by rfl, rfl⟩) (by assumption) ?_
                (try simp only [Act.put, List.setIfInBounds_toArray, List.set_cons_zero, List.set_cons_succ])
                refine wpAnyH_take (i := 7) (oi := ⟨some 109, _, _, _, _, _⟩) (v := undef) rfl (by kernel_rfl) (by kernel_rfl) (by kernel_rfl) (fun _ _ _ h => h) (Or.inr ⟨by rfl, rfl⟩) (by assumption) ?_
                (try simp only [Act.put, List.setIfInBounds_toArray, List.set_cons_zero, List.set_cons_succ])
                refine wpAnyH_take (i := 8) (oi := ⟨some 110, _, _, _, _, _⟩) (v := undef) rfl (by kernel_rfl) (by kernel_rfl) (by kernel_rfl) (fun _ _ _ h => h) (Or.inr ⟨by rfl, rfl⟩) (by assumption) ?_
                (try simp only [Act.put, List.setIfInBounds_toArray, List.set_cons_zero, List.set_cons_succ])
                refine wpAnyH_take (i := 9) (oi := ⟨some 111, _, _, _, _, _⟩) (v := undef) rfl (by kernel_rfl) (by kernel_rfl) (by kernel_rfl) (fun _ _ _ h => h) (Or.inr ⟨by rfl, rfl⟩) (by assumption) ?_
                (try simp only [Act.put, List.setIfInBounds_toArray, List.set_cons_zero, List.set_cons_succ])
                refine wpAnyH_take (i := 10) (oi := ⟨some 112, _, _, _, _, _⟩) (v := undef) rfl (by kernel_rfl) (by kernel_rfl) (by kernel_rfl) (fun _ _ _ h => h) (Or.inr ⟨by rfl, rfl⟩) (by assumption) ?_
                (try simp only [Act.put, List.setIfInBounds_toArray, List.set_cons_zero, List.set_cons_succ])
                refine wpAnyH_take (i := 11) (oi := ⟨some 113, _, _, _, _, _⟩) (v := undef) rfl (by kernel_rfl) (by kernel_rfl) (by kernel_rfl) (fun _ _ _ h => h) (Or.inr ⟨by rfl, rfl⟩) (by assumption) ?_
                (try simp only [Act.put, List.setIfInBounds_toArray, List.set_cons_zero, List.set_cons_succ])
                refine wpAnyH_take (i := 12) (oi := ⟨some 114, _, _, _, _, _⟩) (v := undef) rfl (by kernel_rfl) (by kernel_rfl) (by kernel_rfl) (fun _ _ _ h => h) (Or.inr ⟨by rfl, rfl⟩) (by assumption) ?_
                (try simp only [Act.put, List.setIfInBounds_toArray, List.set_cons_zero, List.set_cons_succ])
                refine wpAnyH_take (i := 13) (oi := ⟨some 115, _, _, _, _, _⟩) (v := undef) rfl (by kernel_rfl) (by kernel_rfl) (by kernel_rfl) (fun _ _ _ h => h) (Or.inr ⟨by rfl, rfl⟩) (by assumption) ?_
                (try simp only [Act.put, List.setIfInBounds_toArray, List.set_cons_zero, List.set_cons_succ])
                refine wpAnyH_take (i := 14) (oi := ⟨some 116, _, _, _, _, _⟩) (v := undef) rfl (by kernel_rfl) (by kernel_rfl) (by kernel_rfl) (fun _ _ _ h => h) (Or.inr ⟨by rfl, rfl⟩) (by assumption) ?_
                (try simp only [Act.put, List.setIfInBounds_toArray, List.set_cons_zero, List.set_cons_succ])
                refine wpAnyH_take (i := 15) (oi := ⟨some 117, _, _, _, _, _⟩) (v := undef) rfl (by kernel_rfl) (by kernel_rfl) (by kernel_rfl) (fun _ _ _ h => h) (Or.inr ⟨by rfl, rfl⟩) (by assumption) ?_
                (try simp only [Act.put, List.setIfInBounds_toArray, List.set_cons_zero, List.set_cons_succ])
                refine wpAnyH_take (i := 16) (oi := ⟨some 118, _, _, _, _, _⟩) (v := ?_) rfl (by kernel_rfl) (by kernel_rfl) (by kernel_rfl) (fun _ _ _ h => h) (Or.inl ⟨by rfl, ?_⟩) (by assumption) ?_
                rotate_left 1
                · intro w hSw
                  (try dsimp only at hSw)
                  go_simp
                  all_goals (try with_reducible rfl)
                (try simp only [Act.put, List.setIfInBounds_toArray, List.set_cons_zero, List.set_cons_succ])
                refine wpAnyH_done (by kernel_rfl) ?_ _
                -- END NO
                go_wp2
                exact ⟨⟨j + 1, by simp, by omega, HKW.out.drew⟩, by show E.length - ((j : Int) + 1).toNat < E.length - ((j : Int)).toNat; omega⟩
          · obtain rfl : j = E.length := by omega
            go_wp2
            go_ret
            exact ⟨rfl, (HQ.out.2.2.trans K14 fun _ _ h => h).trans hkr fun _ _ h => h⟩
      · have hrg : requestE M (compactL f) ≠ 0 := by
          by_cases h2 : checkE f = 0
          · rwa [request_compact h2]
          · rw [Fm.compactL_bad h2]
            intro h0
            have := (Fm.checkE_zero.1 (request_zero.1 h0).2.1).1
            simp at this
        have HB1 : Hid (∀ W' A2 c2, Keep NoF wc W' → Rd W' (.slice A2 (compactL f).length c2) 6 (compactL f).length (fmC (compactL f)) → Calls Try.prog 8 #[.agg #[.int .i64 M.W, .slice va M.V.length cv, .slice ra M.R.length cr], .slice A2 (compactL f).length c2] W' fun e w' => e = .returned (.tuple #[.slice none 0 0, .int .i64 (requestE M (compactL f))]) ∧ Keep NoF W' w') :=
          Lib.hid fun W' A2 c2 k r => ckSets_bad (compactL f) A2 c2 (HM.out.keep (HW.out.trans k fun _ _ h => h)) (by have := compact_200 f; omega) r hrg
        have HB2 : Hid (∀ W', Keep NoF wc W' → Calls Try.prog 9 #[.agg #[.int .i64 M.W, .slice va M.V.length cv, .slice ra M.R.length cr], .slice A f.length c, .agg #[.slice sA E.length sc]] W' fun e w' => e = .returned (.int .i64 (requestE M f)) ∧ Keep NoF W' w') :=
          Lib.hid fun W' k => evCheck_bad f A c (HM.out.keep (HW.out.trans k fun _ _ h => h)) HFL.out (HR.out.kept (HW.out.trans k fun _ _ h => h) fun _ _ h => h) hrq (.slice sA E.length sc)
        have hx : (requestE M (compactL f) != 0) = true := by simpa using hrg
        have hy : (requestE M f == 0) = false := by simpa using hrq
        generalize requestE M (compactL f) = x at *
        generalize requestE M f = y at *
        clear hrg hrq
        go_wp2_with (first
          | (go_at_call 7; (with_reducible refine HCO.out.mono ?_); rintro e w2 ⟨A2, c2, rfl, R2, K2, -⟩; have HR2 := Lib.hid R2; obtain ⟨a0, a1, a2, a3⟩ := HS.out _ (K1.trans K2 fun _ _ h => h))
          | (go_at_call 8; (with_reducible refine (HB1.out _ _ _ K2 HR2.out).mono ?_); rintro e w3 ⟨rfl, K3⟩; obtain ⟨b0, b1, b2, b3⟩ := HS.out _ ((K1.trans K2 fun _ _ h => h).trans K3 fun _ _ h => h))
          | (go_at_call 9; (with_reducible refine (HB2.out _ (K2.trans K3 fun _ _ h => h)).mono ?_); rintro e w4 ⟨rfl, K4⟩))
        go_ret
        exact ⟨rfl, HW.out.trans ((K2.trans K3 fun _ _ h => h).trans K4 fun _ _ h => h) fun _ _ h => h⟩
end
end Go.Proofs.Ytmjdbbfoihadoaa
