/- What the reference's Check does: the error of a diagram. No condition. -/
import Derived.Test.YtgdmcidcappkpaaGreatRNode
import Derived.Test.YtgdmcidcappkpaaGreatCanon
import Derived.Test.YtgdmcidcappkpaaGreatOpr
set_option linter.unusedVariables false
set_option linter.unusedSimpArgs false
namespace Go.Proofs.YtgdmcidcappkpaaGreat
open Go.RowKit
open Dd (Rn rat ofN toN nodeErr firstErr checkErr)

theorem rat_get {R : List Rn} {i : Nat} (h : i < R.length) : rat R i = R[i] := by simp [rat, List.getD_eq_getElem?_getD, List.getElem?_eq_getElem h]
theorem nodup_take {R : List Rn} {k : Nat} (hk : k < R.length) (h : (R.take k).Nodup) (hn : ∀ j, j < k → rat R j ≠ rat R k) : (R.take (k + 1)).Nodup := by
  rw [List.take_succ_eq_append_getElem hk]
  refine List.nodup_append.2 ⟨h, by simp, fun x hx y hy e => ?_⟩
  have hy' : y = R[k] := by simpa using hy
  obtain ⟨j, hj, hje⟩ := List.getElem_of_mem hx
  rw [List.length_take] at hj
  refine hn j (by omega) ?_
  rw [rat_get hk, rat_get (show j < R.length by omega), ← hy', ← e, ← hje, List.getElem_take]
theorem dup_not {R : List Rn} {j k : Nat} (hk : k < R.length) (hj : j < k) (h : rat R j = rat R k) : ¬ R.Nodup := by
  intro hn
  rw [rat_get hk, rat_get (show j < R.length by omega)] at h
  have := (List.getElem_inj hn).1 h
  omega

set_option maxRecDepth 100000 in
set_option maxHeartbeats 4000000 in
theorem rcheck_any (V : Int) (R : List Rn) (root : Int) (sl : Value) (w : World) (hR : R.length ≤ 1000000000000) (hrd : Rd w sl 3 R.length (rnsC R)) :
    Calls Tryz.prog 71 #[.agg #[.int .i64 V, sl, .int .i64 root]] w fun e w' => e = .returned (.int .i64 (checkErr V R root)) ∧ Keep NoF w w' := by
  have hrd' := hrd
  have HB0 : Hid (0 < R.length → ∀ k, sl.ownBlock = some k → k < w.heap.size) := Lib.hid fun h => hrd.blk_lt h (by omega)
  obtain ⟨_, A, c, rfl, hc, _⟩ := hrd'
  by_cases q0 : V < 0
  · have HV : Hid (checkErr V R root = 2) := Lib.hid (by unfold checkErr; rw [if_pos (.inl q0)])
    go_enter Tryz.func71, Tryz.ntmps71
    go_wp2
    go_ret
    exact ⟨by rw [HV.out]; rfl, (Keep.refl _ _).alloc _⟩
  by_cases q1 : 24 < V
  · have HV : Hid (checkErr V R root = 2) := Lib.hid (by unfold checkErr; rw [if_pos (.inr q1)])
    go_enter Tryz.func71, Tryz.ntmps71
    go_wp2
    go_ret
    exact ⟨by rw [HV.out]; rfl, (Keep.refl _ _).alloc _⟩
  by_cases q2 : 4096 < R.length
  · have HV : Hid (checkErr V R root = 8) := Lib.hid (by unfold checkErr; rw [if_neg (by omega), if_pos q2])
    go_enter Tryz.func71, Tryz.ntmps71
    go_wp2
    go_ret
    exact ⟨by rw [HV.out]; rfl, (Keep.refl _ _).alloc _⟩
  have HV : Hid (checkErr V R root = if firstErr V R R.length ≠ 0 then firstErr V R R.length else if ¬ R.Nodup then 7
      else if root < 0 ∨ (R.length : Int) + 1 < root then 3 else if Dd.canon (toN R) root.toNat ≠ (root.toNat, toN R) then 16 else 0) := Lib.hid (by
    unfold checkErr; rw [if_neg (by omega), if_neg q2])
  go_enter Tryz.func71, Tryz.ntmps71
  go_upto_block 0 with (fail)
  have hd0 := Bk.new w 24 #[.int .i64 V, .slice A R.length c, .int .i64 root]
  have hk0 : Keep NoF w (w.alloc (.cells #[.int .i64 V, .slice A R.length c, .int .i64 root] 24)) := (Keep.refl _ _).alloc _
  have hrd0 := hrd.kept hk0 fun _ _ h => h
  clear hrd
  generalize (w.alloc (.cells #[.int .i64 V, .slice A R.length c, .int .i64 root] 24)) = W0 at *
  go_cut [] (fun wc => firstErr V R R.length = 0 ∧ Keep NoF W0 wc)
  case first =>
    go_wp2
    go_loopw [24] (fun i wr => ∃ k : Nat, i = .int .i64 k ∧ k ≤ R.length ∧ firstErr V R k = 0 ∧ Keep NoF W0 wr) (fun i _ => R.length - (intOf i).toNat)
    case atStart => exact ⟨0, rfl, by omega, rfl, Keep.refl _ _⟩
    case round =>
      obtain ⟨k, rfl, hk, hz, hkr⟩ := hrel
      have HZ := Lib.hid hz
      clear hz
      by_cases hlt : k < R.length
      · have c0 : wr.cell? ⟨w.heap.size, 0, none⟩ = some (.int .i64 V) := (hd0.keep hkr (fun h => h)).cell 0
        have c1 : wr.cell? ⟨w.heap.size, 1, none⟩ = some (.slice A R.length c) := (hd0.keep hkr (fun h => h)).cell 1
        have c2 : wr.cell? ⟨w.heap.size, 2, none⟩ = some (.int .i64 root) := (hd0.keep hkr (fun h => h)).cell 2
        have hs := nodeError_any V R root _ k wr hlt (by omega) (hrd0.kept hkr fun _ _ h => h)
        have HS := Lib.hid hs
        clear hs
        generalize hne : nodeErr V R k = ne at *
        have HNE := Lib.hid hne
        clear hne
        by_cases h0 : ne = 0
        · subst h0
          go_wp2_with (go_at_call 91; refine HS.out.mono ?_; rintro e w1 ⟨rfl, hk1⟩)
          go_roundw
          case rel =>
            refine ⟨k + 1, by go_num, by omega, ?_, hkr.trans hk1 fun _ _ h => h⟩
            simp only [firstErr]
            rw [HZ.out, if_neg (by simp)]
            exact HNE.out
          case measure => simp [intOf]; omega
        · have hne0 : (ne != 0) = true := by simpa using h0
          go_wp2_with (go_at_call 91; refine HS.out.mono ?_; rintro e w1 ⟨rfl, hk1⟩)
          go_ret
          have hf := Dd.firstErr_stop HZ.out (by rw [HNE.out]; exact h0) R.length hlt
          exact ⟨by rw [HV.out, hf, HNE.out, if_pos h0]; rfl, (hk0.trans hkr fun _ _ h => h).trans hk1 fun _ _ h => h⟩
      · go_wp2
        go_meet
        case rel =>
          have : k = R.length := by omega
          exact ⟨this ▸ HZ.out, hkr⟩
  case rest =>
    obtain ⟨hf, hkc⟩ := hcut
    obtain ⟨wa, rfl⟩ : ∃ wa : World, wa = wc := ⟨_, rfl⟩
    have HF := Lib.hid hf
    have hrdc := hrd0.kept hkc fun _ _ h => h
    have hdc := hd0.keep hkc (fun h => h)
    have hkw := hk0.trans hkc fun _ _ h => h
    have l0 : w.heap.size < wa.heap.size := hdc.lt
    have c1 : wa.cell? ⟨w.heap.size, 1, none⟩ = some (.slice A R.length c) := hdc.cell 1
    clear hf hrd0 hd0 hkc hk0
    go_upto_block 2 with (fail)
    go_cut [] (fun w2 => R.Nodup ∧ Keep NoF wa w2)
    case first =>
      go_wp2
      go_loopw [37] (fun i wr => ∃ k : Nat, i = .int .i64 k ∧ k ≤ R.length ∧ (R.take k).Nodup ∧ Keep NoF wa wr) (fun i _ => R.length - (intOf i).toNat)
      case atStart => exact ⟨0, rfl, by omega, by simp, Keep.refl _ _⟩
      case round =>
        obtain ⟨k, rfl, hk, hnd, hkr⟩ := hrel
        obtain ⟨wo, rfl⟩ : ∃ wo : World, wo = wr := ⟨_, rfl⟩
        have HND := Lib.hid hnd
        clear hnd
        by_cases hlt : k < R.length
        · have hrdo := hrdc.kept hkr fun _ _ h => h
          have hdo := hdc.keep hkr (fun h => h)
          go_wp2
          go_loopw [6] (fun i wr => ∃ j : Nat, i = .int .i64 j ∧ j ≤ k ∧ (∀ x, x < j → rat R x ≠ rat R k) ∧ Keep NoF wo wr) (fun i _ => k - (intOf i).toNat)
          case atStart => exact ⟨0, rfl, by omega, fun x hx => by omega, Keep.refl _ _⟩
          case round =>
            obtain ⟨j, rfl, hj, hall, hkj⟩ := hrel
            have HALL := Lib.hid hall
            clear hall
            by_cases hjk : j < k
            · obtain ⟨bl, off, rfl, x1, x2, x3⟩ := (hrdo.kept hkj fun _ _ h => h).node hlt
              obtain ⟨_, _, hA, y1, y2, y3⟩ := (hrdo.kept hkj fun _ _ h => h).node (k := j) (by omega)
              injection hA with hA
              injection hA with hA1 hA2
              subst hA1 hA2
              have z1 : wr.cell? ⟨w.heap.size, 1, none⟩ = some (.slice (some ⟨bl, off, none⟩) R.length c) := (hdo.keep hkj (fun h => h)).cell 1
              have b1 : (0 : Int) ≤ (k : Int) := by omega
              have b2 : (k : Int) < (R.length : Int) := by omega
              have b3 : (0 : Int) ≤ (j : Int) := by omega
              have b4 : (j : Int) < (R.length : Int) := by omega
              generalize hr : rat R k = r at *
              generalize hs : rat R j = s at *
              have HR := Lib.hid hr
              have HS := Lib.hid hs
              clear hr hs
              obtain ⟨a1, a2, a3⟩ := r
              obtain ⟨c1', c2', c3'⟩ := s
              simp only at x1 x2 x3 y1 y2 y3
              have hsd := nd_guard
              have heql := run_nd_eql a1 a2 a3 c1' c2' c3'
              generalize hdd : decide (((a1, a2, a3) : Rn) = (c1', c2', c3')) = dd at *
              have HDD := Lib.hid hdd
              clear hdd
              cases dd
              · go_wp2
                go_quiet (fail)
                go_wp2
                go_roundw
                case rel =>
                  refine ⟨j + 1, by go_num, by omega, fun x hx => ?_, hkj.drewN _⟩
                  by_cases hxj : x = j
                  · rw [hxj, HS.out]
                    exact fun e => of_decide_eq_false HDD.out e.symm
                  · exact HALL.out x (by omega)
                case measure => simp [intOf]; omega
              · go_wp2
                go_quiet (fail)
                go_wp2
                go_ret
                have hdup := dup_not hlt hjk (by rw [HR.out, HS.out]; exact (of_decide_eq_true HDD.out).symm)
                have h0 : checkErr V R root = 7 := by rw [HV.out, HF.out, if_neg (by simp), if_pos hdup]
                exact ⟨by rw [h0]; rfl, ((hkw.trans hkr fun _ _ h => h).trans hkj fun _ _ h => h).drewN _⟩
            · go_wp2
              go_roundw
              case rel =>
                have hjk2 : j = k := by omega
                exact ⟨k + 1, by go_num, by omega, nodup_take hlt HND.out (hjk2 ▸ HALL.out), hkr.trans hkj fun _ _ h => h⟩
              case measure => simp [intOf]; omega
        · go_wp2
          go_meet
          case rel =>
            have e : k = R.length := by omega
            have := HND.out
            rw [e, List.take_length] at this
            exact ⟨this, hkr⟩
    case rest =>
      obtain ⟨hnd, hk2⟩ := hcut
      obtain ⟨w2, rfl⟩ : ∃ w2 : World, w2 = wc := ⟨_, rfl⟩
      have HND := Lib.hid hnd
      clear hnd
      have hd2 := hdc.keep hk2 (fun h => h)
      have hkw2 : Keep NoF w w2 := hkw.trans hk2 fun _ _ h => h
      have hrd2 := hrdc.kept hk2 fun _ _ h => h
      clear hrdc hk2 hdc hkw c1
      have c0 : w2.cell? ⟨w.heap.size, 0, none⟩ = some (.int .i64 V) := hd2.cell 0
      have c1 : w2.cell? ⟨w.heap.size, 1, none⟩ = some (.slice A R.length c) := hd2.cell 1
      have c2 : w2.cell? ⟨w.heap.size, 2, none⟩ = some (.int .i64 root) := hd2.cell 2
      have l2 : w.heap.size < w2.heap.size := hd2.lt
      by_cases q3 : root < 0
      · have h0 : Hid (checkErr V R root = 3) := Lib.hid (by rw [HV.out, HF.out, if_neg (by simp), if_neg (by simp [HND.out]), if_pos (.inl q3)])
        go_wp2
        go_ret
        exact ⟨by rw [h0.out]; rfl, hkw2⟩
      by_cases q4 : (R.length : Int) + 1 < root
      · have h0 : Hid (checkErr V R root = 3) := Lib.hid (by rw [HV.out, HF.out, if_neg (by simp), if_neg (by simp [HND.out]), if_pos (.inr q4)])
        go_wp2
        go_ret
        exact ⟨by rw [h0.out]; rfl, hkw2⟩
      have HV2 : Hid (checkErr V R root = if Dd.canon (toN R) root.toNat ≠ (root.toNat, toN R) then 16 else 0) := Lib.hid (by
        rw [HV.out, HF.out, if_neg (by simp), if_neg (by simp [HND.out]), if_neg (by omega)])
      obtain ⟨hgood, hback, _⟩ := Dd.good_of (V := V) (R := R) ⟨by omega, by omega⟩ HF.out HND.out
      obtain ⟨r, rfl⟩ := Int.eq_ofNat_of_zero_le (show 0 ≤ root by omega)
      have hlenM := Dd.toN_len R
      have HCA : Hid (Calls Tryz.prog 90 #[.agg #[.int .i64 V, .slice A R.length c, .int .i64 r]] w2 (CPost w2 V (Dd.canon (toN R) r))) := Lib.hid (by
        have e : rnsC R = ndsC (toN R) := (congrArg rnsC hback).trans (rnsC_ofN _)
        have h := canonical_any V (toN R) (.slice A R.length c) r w2 hgood (by rw [hlenM]; omega) (by rw [hlenM]; omega) (by rw [hlenM, ← e]; exact hrd2)
        exact h)
      have hv2 := HV2.out
      rw [Int.toNat_natCast] at hv2
      have HBACK := Lib.hid hback
      have HLM := Lib.hid hlenM
      have HV3 := Lib.hid hv2
      clear hgood hback hlenM hv2 HV HV2 HF HND
      generalize Dd.canon (toN R) r = C at *
      obtain ⟨C1, C2⟩ := C
      go_upto_region 24 with (go_at_call 90
                              (with_reducible refine HCA.out.mono ?_)
                              rintro e w3 ⟨A3, c3, rfl, hr3, hk3, _⟩)
      have kC : Keep NoF w3 (w3.alloc (.cells #[.int .i64 V, .slice A3 C2.length c3, .int .i64 (C1 : Nat)] 24)) := (Keep.refl _ _).alloc _
      have qc := Bk.new w3 24 #[.int .i64 V, .slice A3 C2.length c3, .int .i64 (C1 : Nat)]
      have qd := (hd2.keep hk3 (fun h => h)).keep kC (fun h => h)
      have hrc : Rd (w3.alloc (.cells #[.int .i64 V, .slice A3 C2.length c3, .int .i64 (C1 : Nat)] 24)) (.slice A3 (ofN C2).length c3) 3 (ofN C2).length (rnsC (ofN C2)) := by
        rw [rnsC_ofN, Dd.ofN_len]; exact hr3.kept kC fun _ _ h => h
      have hrd4 := (hrd2.kept hk3 fun _ _ h => h).kept kC fun _ _ h => h
      have kw4 := (hkw2.trans hk3 fun _ _ h => h).trans kC fun _ _ h => h
      have hlc : (ofN C2).length = C2.length := Dd.ofN_len C2
      clear hr3 kC hk3 c0 c1 c2 hd2 hrd2 hkw2 HCA
      generalize w3.alloc (.cells #[.int .i64 V, .slice A3 C2.length c3, .int .i64 (C1 : Nat)] 24) = W4 at *
      have y1 : W4.cell? ⟨w3.heap.size, 1, none⟩ = some (.slice A3 C2.length c3) := qc.cell 1
      have y2 : W4.cell? ⟨w3.heap.size, 2, none⟩ = some (.int .i64 (C1 : Nat)) := qc.cell 2
      have x1 : W4.cell? ⟨w.heap.size, 1, none⟩ = some (.slice A R.length c) := qd.cell 1
      have x2 : W4.cell? ⟨w.heap.size, 2, none⟩ = some (.int .i64 r) := qd.cell 2
      have lc := qc.lt
      have ld := qd.lt
      have HLC := Lib.hid hlc
      clear hlc
      by_cases p1 : C1 = r
      · subst p1
        have e1 : ((C1 : Int) != (C1 : Int)) = false := by simp
        by_cases p2 : C2.length = R.length
        · have e2 : ((C2.length : Int) != (R.length : Int)) = false := by simp; omega
          have HP2 := Lib.hid p2
          have hle : C2.length ≤ R.length := by omega
          clear p2
          go_wp2
          clear x1 x2 y1 y2
          go_loopw [88] (fun i wr => ∃ k : Nat, i = .int .i64 k ∧ k ≤ C2.length ∧ (∀ x, x < k → rat (ofN C2) x = rat R x) ∧ Keep NoF W4 wr) (fun i _ => C2.length - (intOf i).toNat)
          case atStart => exact ⟨0, rfl, by omega, fun x hx => by omega, Keep.refl _ _⟩
          case round =>
            obtain ⟨k, rfl, hk, hall, hkr⟩ := hrel
            have HALL := Lib.hid hall
            clear hall
            by_cases hlt : k < C2.length
            · obtain ⟨bl, off, rfl, s1, s2, s3⟩ := (hrc.kept hkr fun _ _ h => h).node (k := k) (by rw [HLC.out]; exact hlt)
              obtain ⟨bm, ofg, rfl, t1, t2, t3⟩ := (hrd4.kept hkr fun _ _ h => h).node (k := k) (by omega)
              have y1 : wr.cell? ⟨w3.heap.size, 1, none⟩ = some (.slice (some ⟨bl, off, none⟩) C2.length c3) := (qc.keep hkr (fun h => h)).cell 1
              have x1 : wr.cell? ⟨w.heap.size, 1, none⟩ = some (.slice (some ⟨bm, ofg, none⟩) R.length c) := (qd.keep hkr (fun h => h)).cell 1
              have b1 : (0 : Int) ≤ (k : Int) := by omega
              have b2 : (k : Int) < (C2.length : Int) := by omega
              have b3 : (k : Int) < (R.length : Int) := by omega
              generalize hr : rat (ofN C2) k = ra at *
              generalize hs : rat R k = sa at *
              have HR := Lib.hid hr
              have HS := Lib.hid hs
              clear hr hs
              obtain ⟨a1, a2, a3⟩ := ra
              obtain ⟨d1, d2, d3⟩ := sa
              simp only at s1 s2 s3 t1 t2 t3
              have hsd := nd_guard
              have hneq := run_nd_neq a1 a2 a3 d1 d2 d3
              generalize hdd : decide (((a1, a2, a3) : Rn) = (d1, d2, d3)) = dd at *
              have HDD := Lib.hid hdd
              clear hdd
              cases dd
              · go_wp2
                go_quiet (fail)
                go_wp2
                go_ret
                have hne : ¬ ((C1, C2) = (C1, toN R)) := fun h => by
                  have h2 : C2 = toN R := congrArg Prod.snd h
                  have h3 : ofN C2 = R := by rw [h2, ← HBACK.out]
                  exact of_decide_eq_false HDD.out (by rw [← HR.out, ← HS.out, h3])
                exact ⟨by rw [HV3.out, if_pos hne]; rfl, (kw4.trans hkr fun _ _ h => h).drewN _⟩
              · go_wp2
                go_quiet (fail)
                go_wp2
                go_roundw
                case rel =>
                  refine ⟨k + 1, by go_num, by omega, fun x hx => ?_, hkr.drewN _⟩
                  by_cases hxk : x = k
                  · rw [hxk, HR.out, HS.out]
                    exact of_decide_eq_true HDD.out
                  · exact HALL.out x (by omega)
                case measure => simp [intOf]; omega
            · go_wp2
              go_ret
              have hkk : k = C2.length := by omega
              have h3 : ofN C2 = R := eq_prefix _ _ (by rw [HLC.out]; exact HP2.out) fun x hx => HALL.out x (by rw [HLC.out] at hx; omega)
              have h2 : C2 = toN R := by rw [← h3, Dd.toN_ofN]
              exact ⟨by rw [HV3.out, if_neg (by simp [h2])]; rfl, kw4.trans hkr fun _ _ h => h⟩
        · have e2 : ((C2.length : Int) != (R.length : Int)) = true := by simp; omega
          have hne : ¬ ((C1, C2) = (C1, toN R)) := fun h => p2 (by
            have h2 : C2 = toN R := congrArg Prod.snd h
            rw [h2]; exact HLM.out)
          have H16 : Hid (checkErr V R C1 = 16) := Lib.hid (by rw [HV3.out, if_pos hne])
          clear hne p2
          go_wp2
          go_ret
          exact ⟨by rw [H16.out]; rfl, kw4⟩
      · have e1 : ((C1 : Int) != (r : Int)) = true := by simp; omega
        have hne : ¬ ((C1, C2) = (r, toN R)) := fun h => p1 (congrArg Prod.fst h)
        have H16 : Hid (checkErr V R r = 16) := Lib.hid (by rw [HV3.out, if_pos hne])
        clear hne p1
        go_wp2
        go_ret
        exact ⟨by rw [H16.out]; rfl, kw4⟩
end Go.Proofs.YtgdmcidcappkpaaGreat
