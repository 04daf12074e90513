/- The reference of models: All, beyond. No condition. -/
import Derived.Test.YtmnhgeggojgflaaGreatDoorEvF
import Derived.BigQuiet
import Derived.Deep.RegionHeld3
set_option linter.unusedVariables false
set_option linter.unusedSimpArgs false
namespace Go.Proofs.YtmnhgeggojgflaaGreatDoor
open Go.RowKit
open Ev
attribute [local go_sem] Oper.semAt_some
section
set_option maxRecDepth 100000
set_option maxHeartbeats 1000000
theorem rmoAll_any (n : Nat) (hn : n ≤ 64) (w : World) : Calls Tryz.prog 96 #[.int .i64 n] w fun e w' => e = .returned (.int .u64 ((2 ^ n - 1 : Nat) : Int)) ∧ w' = w := by
  by_cases h : 64 ≤ n
  · obtain rfl : n = 64 := by omega
    go_enter Tryz.func96, Tryz.ntmps96
    go_wp2
    go_ret
    exact ⟨rfl, rfl⟩
  · have HS := Lib.hid (shl1_sub (k := n) (by omega))
    go_enter Tryz.func96, Tryz.ntmps96
    go_wp2
    go_ret
    exact ⟨congrArg (fun b => Ending.returned (Value.int .u64 b)) HS.out, rfl⟩
theorem rbeyond_any (l : List Nat) (n : Nat) (hn : n ≤ 64) (hl : ∀ x ∈ l, x < 18446744073709551616) (hll : l.length ≤ 9223372036854775807) (A : Option Addr) (c : Nat) (w : World) (hrd : Rd w (.slice A l.length c) 1 l.length (u6 l)) :
    Calls Tryz.prog 63 #[.slice A l.length c, .int .i64 n] w fun e w' => e = .returned (.bool (outB l n)) ∧ Keep NoF w w' := by
  have hll2 : (l.length : Int) ≤ 9223372036854775807 := by omega
  have HL : Hid (∀ k, k < l.length → l.getD k 0 < 18446744073709551616) := Lib.hid fun k hk => by
    rw [List.getD_eq_getElem?_getD, List.getElem?_eq_getElem hk]
    exact hl _ (List.getElem_mem hk)
  have HA := Lib.hid (rmoAll_any n hn)
  have hall : 2 ^ n - 1 < 18446744073709551616 := Ev.lt64 hn (allN_lt n)
  have HALL := Lib.hid hall
  generalize hob : outB l n = ob
  have HOB := Lib.hid hob
  have HR := Lib.hid hrd
  clear hob hl hrd hall
  go_enter Tryz.func63, Tryz.ntmps63
  go_wp2
  go_loopw [5] (fun i wr => ∃ j : Nat, i = .int .i64 j ∧ j ≤ l.length ∧ Hid (outB (l.take j) n = false) ∧ Keep NoF w wr) (fun i _ => l.length - (intOf i).toNat)
  case atStart => exact ⟨0, rfl, by omega, Lib.hid rfl, Keep.refl _ _⟩
  case round =>
    obtain ⟨j, rfl, hj, HN, hkr⟩ := hrel
    by_cases hlt : j < l.length
    · obtain ⟨_, hcap, bl, off, rfl, hc⟩ := (HR.out.kept hkr fun _ _ h => h).nat_lt hlt
      have hlt' : (j : Int) < (l.length : Int) := by omega
      have hs := outB_snoc (n := n) hlt
      have hy := outB_yes (n := n) hlt
      have HV := and_not (l.getD j 0) (2 ^ n - 1) (HL.out j hlt) HALL.out
      have hd : ((((adN (l.getD j 0) (2 ^ n - 1) : Nat) : Int)) != 0) = decide (adN (l.getD j 0) (2 ^ n - 1) ≠ 0) := by
        rw [Bool.eq_iff_iff]
        simp only [bne_iff_ne, ne_eq, decide_eq_true_eq]
        omega
      generalize decide (adN (l.getD j 0) (2 ^ n - 1) ≠ 0) = d at *
      generalize adN (l.getD j 0) (2 ^ n - 1) = y at *
      generalize l.getD j 0 = x at *
      generalize 2 ^ n - 1 = N at *
      cases d with
      | true =>
        have HT : Hid (ob = true) := Lib.hid (by rw [← HOB.out]; exact hy rfl)
        clear hs hy
        go_wp2
        go_quiet ((go_at_call 96; exact Calls.quiet_of_same (HA.out _)))
        go_wp2
        go_ret
        exact ⟨by rw [HT.out]; rfl, hkr.drewN _⟩
      | false =>
        have HN2 : Hid (outB (l.take (j + 1)) n = false) := Lib.hid (by rw [hs, HN.out]; rfl)
        clear hs hy
        go_wp2
        go_quiet ((go_at_call 96; exact Calls.quiet_of_same (HA.out _)))
        go_wp2
        go_roundw
        case rel => exact ⟨j + 1, by go_num, by omega, HN2, hkr.drewN _⟩
        case measure => simp only [intOf]; omega
    · have hlt' : ¬ (j : Int) < (l.length : Int) := by omega
      have HT : Hid (ob = false) := Lib.hid (by have := HN.out; rw [List.take_of_length_le (by omega)] at this; rw [← HOB.out, this])
      go_wp2
      go_ret
      exact ⟨by rw [HT.out]; rfl, hkr⟩
theorem rmoCheck_any {M : Md} {va ra : Option Addr} {cv cr : Nat} {rs : List (Option Addr × Nat)} (w : World) (hM : MdR w M va cv ra cr rs) :
    Calls Tryz.prog 29 #[.agg #[.int .i64 M.W, .slice va M.V.length cv, .slice ra M.R.length cr]] w fun e w' => e = .returned (.int .i64 (modelE M)) ∧ Keep NoF w w' := by
  have k0 : Keep NoF w (w.alloc (.cells #[.int .i64 M.W, .slice va M.V.length cv, .slice ra M.R.length cr] 28)) := (Keep.refl _ _).alloc _
  have b0 := Bk.new w 28 #[.int .i64 M.W, .slice va M.V.length cv, .slice ra M.R.length cr]
  have hE : modelE M = if M.W < 1 ∨ 64 < M.W then 2 else if 4 < M.R.length ∨ 8 < M.V.length then 8 else if lenB M.R M.W = true then 3 else if outB M.V M.n = true ∨ anyB M.R M.n = true then 2 else 0 := rfl
  by_cases h1 : M.W < 1 ∨ 64 < M.W
  · rw [hE, if_pos h1]
    clear hE b0 hM
    generalize M.W = W at *
    generalize M.R.length = rl at *
    generalize M.V.length = vl at *
    by_cases ha : W < 1
    · clear h1
      go_enter Tryz.func29, Tryz.ntmps29
      go_wp2
      go_ret
      exact ⟨rfl, k0⟩
    · have hb : 64 < W := by omega
      clear h1
      go_enter Tryz.func29, Tryz.ntmps29
      go_wp2
      go_ret
      exact ⟨rfl, k0⟩
  · have ha : ¬ M.W < 1 := by omega
    have hb : ¬ 64 < M.W := by omega
    by_cases h2 : 4 < M.R.length ∨ 8 < M.V.length
    · rw [hE, if_neg h1, if_pos h2]
      clear hE b0 hM h1
      generalize M.W = W at *
      generalize M.R.length = rl at *
      generalize M.V.length = vl at *
      by_cases hc : 4 < rl
      · have hc' : (4 : Int) < (rl : Int) := by omega
        clear h2
        go_enter Tryz.func29, Tryz.ntmps29
        go_wp2
        go_ret
        exact ⟨rfl, k0⟩
      · have hc' : ¬ (4 : Int) < (rl : Int) := by omega
        have hd' : (8 : Int) < (vl : Int) := by omega
        clear h2
        go_enter Tryz.func29, Tryz.ntmps29
        go_wp2
        go_ret
        exact ⟨rfl, k0⟩
    · have hc' : ¬ (4 : Int) < (M.R.length : Int) := by omega
      have hd' : ¬ (8 : Int) < (M.V.length : Int) := by omega
      have hn : M.n ≤ 64 := by unfold Md.n; omega
      have hW : M.W = (M.n : Int) := by unfold Md.n; omega
      rw [if_neg h1, if_neg h2] at hE
      have HM := Lib.hid hM
      have HM0 := Lib.hid (hM.keep k0)
      have HB := Lib.hid b0
      have HE := Lib.hid hE
      have HW := Lib.hid hW
      clear h1 h2 hE hM b0 hW
      generalize hN : modelE M = N at *
      clear hN
      go_enter Tryz.func29, Tryz.ntmps29
      go_upto_region 1 with (fail)
      generalize w.alloc (.cells #[.int .i64 M.W, .slice va M.V.length cv, .slice ra M.R.length cr] 28) = W0 at *
      have s0 : W0.cell? ⟨w.heap.size, 0, none⟩ = some (.int .i64 M.W) := HB.out.cell 0
      have s1 : W0.cell? ⟨w.heap.size, 1, none⟩ = some (.slice va M.V.length cv) := HB.out.cell 1
      have s2 : W0.cell? ⟨w.heap.size, 2, none⟩ = some (.slice ra M.R.length cr) := HB.out.cell 2
      have hlr := HM.out.lr
      go_upto_region 6 with (fail)
      go_loopw [3] (fun t wr => ∃ j : Nat, t = .int .i64 j ∧ j ≤ M.R.length ∧ Hid (lenB (M.R.take j) M.W = false) ∧ Keep NoF W0 wr) (fun t _ => M.R.length - (intOf t).toNat)
      case atStart => exact ⟨0, rfl, by omega, Lib.hid rfl, Keep.refl _ _⟩
      case round =>
        obtain ⟨j, rfl, hj, HL, hkr⟩ := hrel
        have c2 : wr.cell? ⟨w.heap.size, 2, none⟩ = some (.slice ra M.R.length cr) := hkr.cellv s2 fun h => h
        by_cases hlt : j < M.R.length
        · have c0 : wr.cell? ⟨w.heap.size, 0, none⟩ = some (.int .i64 M.W) := hkr.cellv s0 fun h => h
          obtain ⟨bl, off, A, c, rfl, hcr, hc, hrd, _⟩ := (HM0.out.keep hkr).at_ hlt
          have hlt' : (j : Int) < (M.R.length : Int) := by omega
          have hj0 : (0 : Int) ≤ (j : Int) := by omega
          clear hrd
          by_cases hr : ((M.R.getD j []).length : Int) = M.W
          · have HL2 : Hid (lenB (M.R.take (j + 1)) M.W = false) := Lib.hid (lenB_snoc hlt HL.out hr)
            have hr' : (((M.R.getD j []).length : Int) != M.W) = false := by rw [hr]; simp
            clear hr
            generalize (M.R.getD j []).length = rl at *
            go_wp2
            go_quiet (fail)
            go_wp2
            go_roundw
            case rel => exact ⟨j + 1, by go_num, by omega, HL2, hkr.drewN _⟩
            case measure => simp only [intOf]; omega
          · have HT : Hid (N = 3) := Lib.hid (by rw [HE.out, if_pos (lenB_yes hlt hr)])
            have hr' : (((M.R.getD j []).length : Int) != M.W) = true := by simpa using hr
            clear hr
            generalize (M.R.getD j []).length = rl at *
            go_wp2
            go_quiet (fail)
            go_wp2
            go_ret
            exact ⟨by rw [HT.out]; rfl, (k0.trans hkr fun _ _ h => h).drewN _⟩
        · have hlt' : ¬ (j : Int) < (M.R.length : Int) := by omega
          have hfl : lenB M.R M.W = false := by have := HL.out; rwa [List.take_of_length_le (by omega)] at this
          have c0 : wr.cell? ⟨w.heap.size, 0, none⟩ = some (.int .i64 M.W) := hkr.cellv s0 fun h => h
          have c1 : wr.cell? ⟨w.heap.size, 1, none⟩ = some (.slice va M.V.length cv) := hkr.cellv s1 fun h => h
          have HO := Lib.hid (rbeyond_any M.V M.n hn HM.out.u.V HM.out.lv va cv wr (HM0.out.keep hkr).V)
          rw [← HW.out] at HO
          have HS := Lib.hid (And.intro s1 (And.intro s2 s0))
          have HKR := Lib.hid hkr
          cases ho : outB M.V M.n with
          | true =>
            have HT : Hid (N = 2) := Lib.hid (by rw [HE.out, if_neg (by rw [hfl]; simp), if_pos (.inl ho)])
            rw [ho] at HO
            clear ho hfl
            go_wp2_with (first
              | (go_at_call 63; (with_reducible refine HO.out.mono ?_); rintro e w1 ⟨rfl, k1⟩))
            go_ret
            exact ⟨by rw [HT.out]; rfl, (k0.trans HKR.out fun _ _ h => h).trans k1 fun _ _ h => h⟩
          | false =>
            rw [ho] at HO
            have HNO : Hid (N = if anyB M.R M.n = true then 2 else 0) := Lib.hid (by rw [HE.out, if_neg (by rw [hfl]; simp), ho]; simp)
            clear ho hfl
            go_upto_region 13 with (first
              | (go_at_call 63; (with_reducible refine HO.out.mono ?_); rintro e w1 ⟨rfl, k1⟩))
            have HK1 := Lib.hid (HKR.out.trans k1 fun _ _ h => h)
            clear c0 c1 c2 s0 s1 s2 hkr
            go_loopw [4] (fun t wr => ∃ j : Nat, t = .int .i64 j ∧ j ≤ M.R.length ∧ Hid (anyB (M.R.take j) M.n = false) ∧ Keep NoF W0 wr) (fun t _ => M.R.length - (intOf t).toNat)
            case atStart => exact ⟨0, rfl, by omega, Lib.hid rfl, HK1.out⟩
            case round =>
              obtain ⟨a, rfl, ha, HAN, hka⟩ := hrel
              have c2 : wr.cell? ⟨w.heap.size, 2, none⟩ = some (.slice ra M.R.length cr) := hka.cellv HS.out.2.1 fun h => h
              by_cases hla : a < M.R.length
              · have c0 : wr.cell? ⟨w.heap.size, 0, none⟩ = some (.int .i64 M.W) := hka.cellv HS.out.2.2 fun h => h
                obtain ⟨bl, off, A, c, rfl, hcr, hc, hrd, _⟩ := (HM0.out.keep hka).at_ hla
                have hla' : (a : Int) < (M.R.length : Int) := by omega
                have ha0 : (0 : Int) ≤ (a : Int) := by omega
                have hmem : M.R.getD a [] ∈ M.R := by rw [List.getD_eq_getElem?_getD, List.getElem?_eq_getElem hla]; exact List.getElem_mem hla
                have HBY := Lib.hid fun W (hk : Keep NoF wr W) => rbeyond_any (M.R.getD a []) M.n hn (HM.out.u.R _ hmem) (HM.out.lw _ hmem) A c W (hrd.kept hk fun _ _ h => h)
                rw [← HW.out] at HBY
                have hs := anyB_snoc (n := M.n) hla
                have hy := anyB_yes (n := M.n) hla
                have K0 : Keep NoF wr wr.drew := (Keep.refl _ _).drew
                clear hrd hmem
                generalize (M.R.getD a []).length = rl at *
                generalize outB (M.R.getD a []) M.n = d at *
                go_upto_region 15 with (fail)
                cases d with
                | true =>
                  have HT : Hid (N = 2) := Lib.hid (by rw [HNO.out, if_pos (hy rfl)])
                  clear hs hy
                  go_region_held3 (fun w' => w'.cell? ⟨w.heap.size, 2, none⟩ = some (.slice (some ⟨bl, off, none⟩) M.R.length cr) ∧ w'.cell? ⟨w.heap.size, 0, none⟩ = some (.int .i64 M.W) ∧ w'.cell? ⟨bl, off + a, none⟩ = some (.slice A rl c)) (go_keep)
                    ((go_at_call 63; (with_reducible refine (HBY.out _ K0).mono ?_); rintro e w5 ⟨rfl, hk5⟩
                      have K5 := hk5.undrew
                      have d0 : w5.cell? ⟨w.heap.size, 2, none⟩ = some (.slice (some ⟨bl, off, none⟩) M.R.length cr) := K5.cellv c2 fun h => h
                      have d1 : w5.cell? ⟨w.heap.size, 0, none⟩ = some (.int .i64 M.W) := K5.cellv c0 fun h => h
                      have d2 : w5.cell? ⟨bl, off + a, none⟩ = some (.slice A rl c) := K5.cellv hc fun h => h))
                  go_wp2
                  go_ret
                  exact ⟨by rw [HT.out]; rfl, (k0.trans hka fun _ _ h => h).trans K5 fun _ _ h => h⟩
                | false =>
                  have HA2 : Hid (anyB (M.R.take (a + 1)) M.n = false) := Lib.hid (by rw [hs, HAN.out]; rfl)
                  clear hs hy
                  go_region_held3 (fun w' => w'.cell? ⟨w.heap.size, 2, none⟩ = some (.slice (some ⟨bl, off, none⟩) M.R.length cr) ∧ w'.cell? ⟨w.heap.size, 0, none⟩ = some (.int .i64 M.W) ∧ w'.cell? ⟨bl, off + a, none⟩ = some (.slice A rl c)) (go_keep)
                    ((go_at_call 63; (with_reducible refine (HBY.out _ K0).mono ?_); rintro e w5 ⟨rfl, hk5⟩
                      have K5 := hk5.undrew
                      have d0 : w5.cell? ⟨w.heap.size, 2, none⟩ = some (.slice (some ⟨bl, off, none⟩) M.R.length cr) := K5.cellv c2 fun h => h
                      have d1 : w5.cell? ⟨w.heap.size, 0, none⟩ = some (.int .i64 M.W) := K5.cellv c0 fun h => h
                      have d2 : w5.cell? ⟨bl, off + a, none⟩ = some (.slice A rl c) := K5.cellv hc fun h => h))
                  go_wp2
                  go_roundw
                  case rel => exact ⟨a + 1, by go_num, by omega, HA2, hka.trans K5 fun _ _ h => h⟩
                  case measure => simp only [intOf]; omega
              · have hla' : ¬ (a : Int) < (M.R.length : Int) := by omega
                have HT : Hid (N = 0) := Lib.hid (by have := HAN.out; rw [List.take_of_length_le (by omega)] at this; rw [HNO.out, this]; rfl)
                go_wp2
                go_ret
                exact ⟨by rw [HT.out]; rfl, k0.trans hka fun _ _ h => h⟩
end
end Go.Proofs.YtmnhgeggojgflaaGreatDoor
