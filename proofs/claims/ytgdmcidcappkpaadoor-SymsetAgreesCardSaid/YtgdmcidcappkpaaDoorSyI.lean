/- What the program's Members answers. No condition. -/
import Derived.Test.YtgdmcidcappkpaaDoorSyF
import Derived.Test.YtgdmcidcappkpaaDoorSyH
set_option linter.unusedVariables false
set_option linter.unusedSimpArgs false
namespace Go.Proofs.YtgdmcidcappkpaaDoor
open Go.RowKit
open Dd (Rn rat ofN toN checkErr den lo var Within Valid supp canon odN memN asgN)

section
set_option maxRecDepth 100000
set_option maxHeartbeats 2000000
theorem Members_bad (d : Dg) (w : World) (hd : d.In w) (h : setE d ≠ 0) : Calls Tryd.prog 8 #[d.val] w fun e w' => e = .returned (.tuple #[.int .u64 0, .int .i64 (setE d)]) ∧ Keep NoF w w' := by
  have hck := fun (w1 : World) (hk : Keep NoF w w1) => setErr_any d w1 ⟨hd.1.kept hk fun _ _ h => h, hd.2⟩
  have hne : (setE d != 0) = true := by simpa using h
  have hd1 := hd.1
  generalize setE d = re at *
  obtain ⟨V, R, root, sl⟩ := d
  simp only at hd1 hck
  obtain ⟨_, A, c, rfl, _, _⟩ := hd1
  have hck : ∀ w1, Keep NoF w w1 → Calls Tryd.prog 34 #[.agg #[.int .i64 V, .slice A R.length c, .int .i64 root]] w1 fun e w' => e = .returned (.int .i64 re) ∧ Keep NoF w1 w' := hck
  show Calls Tryd.prog 8 #[.agg #[.int .i64 V, .slice A R.length c, .int .i64 root]] w _
  have hk0 : Keep NoF w (w.alloc (.cells #[.int .i64 V, .slice A R.length c, .int .i64 root] 26)) := (Keep.refl _ _).alloc _
  have HS := Lib.hid (hck _ hk0)
  clear hck hd h
  go_enter Tryd.func8, Tryd.ntmps8
  go_wp2_with (go_at_call 34; (with_reducible refine HS.out.mono ?_); rintro e w2 ⟨rfl, hk2⟩)
  go_ret2
  exact ⟨rfl, hk0.trans hk2 fun _ _ h => h⟩
theorem Members_any (d : Dg) (w : World) (hd : d.In w) (h : setE d = 0) (k : Nat) (hk : k ≤ 6) (hV : d.V = ((2 * k : Nat) : Int)) : Calls Tryd.prog 8 #[d.val] w fun e w' => e = .returned (.tuple #[.int .u64 (memN k d.fn (2 ^ k)), .int .i64 0]) ∧ Keep NoF w w' := by
  have hck := fun (w1 : World) (hk : Keep NoF w w1) => setErr_any d w1 ⟨hd.1.kept hk fun _ _ h => h, hd.2⟩
  rw [h] at hck
  obtain ⟨V, M, r, A, c, rfl, hM, D⟩ := dg_isD d hd (relE_zero (setE_zero h).1).choose_spec.2.2
  have hfn : Dg.fn ⟨V, ofN M, r, .slice A M.length c⟩ = den M r := by unfold Dg.fn; rw [Dd.toN_ofN]; rfl
  rw [hfn]
  have hVk : V = 2 * k := by have e : ((V : Nat) : Int) = ((2 * k : Nat) : Int) := hV; omega
  clear hd h hV hfn hM
  generalize den M r = f at *
  generalize M.length = n at *
  have hck : ∀ w1, Keep NoF w w1 → Calls Tryd.prog 34 #[.agg #[.int .i64 V, .slice A n c, .int .i64 r]] w1 fun e w' => e = .returned (.int .i64 0) ∧ Keep NoF w1 w' := hck
  show Calls Tryd.prog 8 #[.agg #[.int .i64 V, .slice A n c, .int .i64 r]] w _
  have hk0 : Keep NoF w (w.alloc (.cells #[.int .i64 V, .slice A n c, .int .i64 r] 26)) := (Keep.refl _ _).alloc _
  have hb := Bk.new w 26 #[.int .i64 V, .slice A n c, .int .i64 r]
  have HS := Lib.hid (hck _ hk0)
  have HEV := Lib.hid fun (W : World) (hk : Keep NoF w W) s (hs : s < 16777216) => x_eval (s := s) (by omega) (D.keep hk)
  obtain ⟨hp, hm64⟩ := pow_k hk
  have hq : (V : Int) / 2 = (k : Int) := by omega
  have hV12 : (V : Int) ≤ 12 := by omega
  have hq2 : (V : Int).tdiv 2 = (k : Int) := by rw [Int.tdiv_eq_ediv_of_nonneg (by omega)]; omega
  have hq3 : IntKind.i64.wrap (k : Int) = (k : Int) := IntWalk.i64_in _ (by omega)
  have HP := Lib.hid hp
  have HASG : Hid (∀ (v : Nat) W, v < 64 → Calls Tryd.prog 36 #[.int .i64 k, .int .i64 v, .int .i64 0] W fun e w' => e = .returned (.int .u64 (asgN k v 0)) ∧ ∃ n, w' = W.drewN n) := Lib.hid fun v W hv => asg_any k v 0 hk hv (by omega) W
  have HSM := Lib.hid fun v => asgN_small (k := k) (v := v) (w := 0) (by omega)
  have HST := Lib.hid fun j => Dd.memN_succ k f j
  have HLT := Lib.hid fun j => Dd.enc_lt j (fun v => f (asgN k v 0).testBit)
  clear hck D hp hVk
  generalize 2 ^ k = m at *
  go_enter Tryd.func8, Tryd.ntmps8
  go_wp2_with (go_at_call 34
               (with_reducible refine HS.out.mono ?_)
               rintro e w2 ⟨rfl, hk2⟩
               have hb2 := hb.keep hk2 (fun h => h)
               have x0 : w2.cell? ⟨w.heap.size, 0, none⟩ = some (.int .i64 V) := hb2.cell 0)
  have kw2 := hk0.trans hk2 fun _ _ h => h
  clear HS hk0 hb x0
  go_loopw [5,19] (fun v i wr => ∃ j : Nat, i = .int .i64 j ∧ v = .int .u64 (memN k f j) ∧ j ≤ m ∧ Keep NoF w2 wr) (fun _ i _ => m - (intOf i).toNat)
  case atStart => exact ⟨0, rfl, rfl, by omega, Keep.refl _ _⟩
  case round =>
    obtain ⟨j, rfl, rfl, hj, hkr⟩ := hrel
    by_cases hlt : j < m
    · have hlt2 : (j : Int) < wrap64 ((2 : Int) ^ k) := by rw [HP.out]; omega
      have hs := HSM.out j
      have hb3 := hb2.keep hkr fun h => h
      have kwr := kw2.trans hkr fun _ _ h => h
      have HA := Lib.hid fun W => HASG.out j W (by omega)
      have HSJ := Lib.hid (HST.out j)
      have hml : memN k f j < 18446744073709551616 := Nat.lt_of_lt_of_le (HLT.out j) (Nat.le_trans (Nat.pow_le_pow_right (by omega) (show j ≤ 63 by omega)) (by decide))
      have HOR := Lib.hid (or_u64 (memN k f j) j hml (by omega))
      generalize memN k f j = q at *
      have x0 : wr.drew.cell? ⟨w.heap.size, 0, none⟩ = some (.int .i64 V) := hb3.cell 0
      have x1 : wr.drew.cell? ⟨w.heap.size, 1, none⟩ = some (.slice A n c) := hb3.cell 1
      have x2 : wr.drew.cell? ⟨w.heap.size, 2, none⟩ = some (.int .i64 r) := hb3.cell 2
      have HE2 := Lib.hid fun (W : World) (hk : Keep NoF w W) => HEV.out W hk _ hs
      generalize asgN k j 0 = s at *
      cases hf : f s.testBit with
      | true =>
        simp only [hf, if_true] at HSJ HE2
        go_upto_region 10 with (fail)
        go_region_held3 (fun w' => w'.cell? ⟨w.heap.size, 0, none⟩ = some (.int .i64 V) ∧ w'.cell? ⟨w.heap.size, 1, none⟩ = some (.slice A n c) ∧ w'.cell? ⟨w.heap.size, 2, none⟩ = some (.int .i64 r))
          (first
            | with_reducible exact ⟨x0, x1, x2⟩
            | exact ⟨x0, x1, x2⟩
            | with_reducible exact ⟨z0, z1, z2⟩)
          (first
            | (go_at_call 36
               (with_reducible refine (HA.out _).mono ?_)
               rintro e w3 ⟨rfl, n3, rfl⟩)
            | (go_at_call 35
               (with_reducible refine (HE2.out _ (kwr.drewN (1 + n3))).mono ?_)
               rintro e w4 ⟨rfl, hk4'⟩
               have hk4 : Keep NoF wr w4 := ((Keep.refl NoF wr).drewN (1 + n3)).trans hk4' fun _ _ h => h
               have hb4 : Bk w4 _ _ _ := hb3.keep hk4 (fun h => h)
               have z0 : w4.cell? ⟨w.heap.size, 0, none⟩ = some (.int .i64 V) := hb4.cell 0
               have z1 : w4.cell? ⟨w.heap.size, 1, none⟩ = some (.slice A n c) := hb4.cell 1
               have z2 : w4.cell? ⟨w.heap.size, 2, none⟩ = some (.int .i64 r) := hb4.cell 2))
        all_goals
          go_wp2
          go_roundw
          case rel => exact ⟨j + 1, by go_num, by rw [HSJ.out, ← HOR.out], by omega, hkr.trans hk4 fun _ _ h => h⟩
          case measure => simp only [intOf]; omega
      | false =>
        simp only [hf, Bool.false_eq_true, if_false, Nat.or_zero] at HSJ HE2
        go_upto_region 10 with (fail)
        go_region_held3 (fun w' => w'.cell? ⟨w.heap.size, 0, none⟩ = some (.int .i64 V) ∧ w'.cell? ⟨w.heap.size, 1, none⟩ = some (.slice A n c) ∧ w'.cell? ⟨w.heap.size, 2, none⟩ = some (.int .i64 r))
          (first
            | with_reducible exact ⟨x0, x1, x2⟩
            | exact ⟨x0, x1, x2⟩
            | with_reducible exact ⟨z0, z1, z2⟩)
          (first
            | (go_at_call 36
               (with_reducible refine (HA.out _).mono ?_)
               rintro e w3 ⟨rfl, n3, rfl⟩)
            | (go_at_call 35
               (with_reducible refine (HE2.out _ (kwr.drewN (1 + n3))).mono ?_)
               rintro e w4 ⟨rfl, hk4'⟩
               have hk4 : Keep NoF wr w4 := ((Keep.refl NoF wr).drewN (1 + n3)).trans hk4' fun _ _ h => h
               have hb4 : Bk w4 _ _ _ := hb3.keep hk4 (fun h => h)
               have z0 : w4.cell? ⟨w.heap.size, 0, none⟩ = some (.int .i64 V) := hb4.cell 0
               have z1 : w4.cell? ⟨w.heap.size, 1, none⟩ = some (.slice A n c) := hb4.cell 1
               have z2 : w4.cell? ⟨w.heap.size, 2, none⟩ = some (.int .i64 r) := hb4.cell 2))
        all_goals
          go_wp2
          go_roundw
          case rel => exact ⟨j + 1, by go_num, by rw [HSJ.out], by omega, hkr.trans hk4 fun _ _ h => h⟩
          case measure => simp only [intOf]; omega
    · have hlt2 : ¬ (j : Int) < wrap64 ((2 : Int) ^ k) := by rw [HP.out]; omega
      obtain rfl : j = m := by omega
      go_wp2
      go_ret2
      exact ⟨rfl, kw2.trans hkr fun _ _ h => h⟩
end
end Go.Proofs.YtgdmcidcappkpaaDoor
