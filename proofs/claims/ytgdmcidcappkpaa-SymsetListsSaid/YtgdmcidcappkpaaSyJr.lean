/- What the reference's Pairs answers. No condition. -/
import Derived.Test.YtgdmcidcappkpaaSyJ
import Derived.Test.YtgdmcidcappkpaaSyIr
set_option linter.unusedVariables false
set_option linter.unusedSimpArgs false
namespace Go.Proofs.Ytgdmcidcappkpaa
open Go.RowKit
open Dd (Rn rat ofN toN checkErr den lo var Within Valid supp canon odN rowN pairsN asgN)

theorem n64_one (l : List Nat) : ∀ u ∈ n64 l, u.oneCell' = true := by
  intro u hu
  obtain ⟨x, _, rfl⟩ := List.mem_map.1 hu
  rfl
theorem pairs_take (k : Nat) (f : BF) : (List.range (2 ^ k)).map (fun v => rowN k f v (2 ^ k)) = pairsN k f := rfl
section
set_option maxRecDepth 100000
set_option maxHeartbeats 4000000
theorem rPairs_bad (d : Dg) (w : World) (hd : d.In w) (h : relE d ≠ 0) : Calls Try.prog 16 #[d.val] w fun e w' => e = .returned (.tuple #[.slice none 0 0, .int .i64 (relE d)]) ∧ Keep NoF w w' := by
  have hck := fun (w1 : World) (hk : Keep NoF w w1) => rrelErr_any d w1 ⟨hd.1.kept hk fun _ _ h => h, hd.2⟩
  have hne : (relE d != 0) = true := by simpa using h
  have hd1 := hd.1
  generalize relE d = re at *
  obtain ⟨V, R, root, sl⟩ := d
  simp only at hd1 hck
  obtain ⟨_, A, c, rfl, _, _⟩ := hd1
  have hck : ∀ w1, Keep NoF w w1 → Calls Try.prog 51 #[.agg #[.int .i64 V, .slice A R.length c, .int .i64 root]] w1 fun e w' => e = .returned (.int .i64 re) ∧ Keep NoF w1 w' := hck
  show Calls Try.prog 16 #[.agg #[.int .i64 V, .slice A R.length c, .int .i64 root]] w _
  have hk0 : Keep NoF w (w.alloc (.cells #[.int .i64 V, .slice A R.length c, .int .i64 root] 27)) := (Keep.refl _ _).alloc _
  have HS := Lib.hid (hck _ hk0)
  clear hck hd h
  go_enter Try.func16, Try.ntmps16
  go_wp2_with (go_at_call 51; (with_reducible refine HS.out.mono ?_); rintro e w2 ⟨rfl, hk2⟩)
  go_ret2
  exact ⟨rfl, hk0.trans hk2 fun _ _ h => h⟩
theorem rPairs_any (d : Dg) (w : World) (hd : d.In w) (h : relE d = 0) (k : Nat) (hk : k ≤ 6) (hV : d.V = ((2 * k : Nat) : Int)) : Calls Try.prog 16 #[d.val] w (ListPost w (pairsN k d.fn) 0) := by
  have hck := fun (w1 : World) (hk : Keep NoF w w1) => rrelErr_any d w1 ⟨hd.1.kept hk fun _ _ h => h, hd.2⟩
  rw [h] at hck
  obtain ⟨V, M, r, A, c, rfl, hM, D⟩ := dg_isD d hd (relE_zero h).choose_spec.2.2
  have hfn : Dg.fn ⟨V, ofN M, r, .slice A M.length c⟩ = den M r := by unfold Dg.fn; rw [Dd.toN_ofN]; rfl
  rw [hfn]
  have hVk : V = 2 * k := by have e : ((V : Nat) : Int) = ((2 * k : Nat) : Int) := hV; omega
  clear hd h hV hfn hM
  generalize den M r = f at *
  generalize M.length = n at *
  have hck : ∀ w1, Keep NoF w w1 → Calls Try.prog 51 #[.agg #[.int .i64 V, .slice A n c, .int .i64 r]] w1 fun e w' => e = .returned (.int .i64 0) ∧ Keep NoF w1 w' := hck
  show Calls Try.prog 16 #[.agg #[.int .i64 V, .slice A n c, .int .i64 r]] w _
  have hk0 : Keep NoF w (w.alloc (.cells #[.int .i64 V, .slice A n c, .int .i64 r] 27)) := (Keep.refl _ _).alloc _
  have hb := Bk.new w 27 #[.int .i64 V, .slice A n c, .int .i64 r]
  have HS := Lib.hid (hck _ hk0)
  have HEV := Lib.hid fun (W : World) (hk : Keep NoF w W) s (hs : s < 16777216) => rd_eval (s := s) (by omega) (D.keep hk)
  obtain ⟨hp, hm64⟩ := pow_k hk
  have hq : (V : Int) / 2 = (k : Int) := by omega
  have hV12 : (V : Int) ≤ 12 := by omega
  have HASG : Hid (∀ (v u : Nat) W, v < 64 → u < 64 → Calls Try.prog 35 #[.int .i64 k, .int .i64 v, .int .i64 u] W fun e w' => e = .returned (.int .u64 (asgN k v u)) ∧ ∃ n, w' = W.drewN n) := Lib.hid fun v u W hv hu => (rasg_any k v u hk hv hu W).mono fun e w' ⟨h1, h2⟩ => ⟨h1, 0, h2⟩
  have HSM := Lib.hid fun v u => asgN_small (k := k) (v := v) (w := u) (by omega)
  have HST := Lib.hid fun i j => Dd.rowN_succ k f i j
  have HLT := Lib.hid fun i j => Dd.enc_lt j (fun u => f (asgN k i u).testBit)
  have HPE : Hid ((List.range (2 ^ k)).map (fun v => rowN k f v (2 ^ k)) = pairsN k f) := Lib.hid rfl
  clear hck D hVk
  generalize hm : 2 ^ k = m at *
  have HP := Lib.hid hp
  clear hp hm
  go_enter Try.func16, Try.ntmps16
  go_wp2_with (go_at_call 51
               (with_reducible refine HS.out.mono ?_)
               rintro e w2 ⟨rfl, hk2⟩
               have hb2 := hb.keep hk2 (fun h => h)
               have x0 : w2.cell? ⟨w.heap.size, 0, none⟩ = some (.int .i64 V) := hb2.cell 0)
  have kw3 := hk0.trans hk2 fun _ _ h => h
  have hwo := hb2.lt
  have hb3 := hb2
  generalize w2 = W3 at *
  clear HS hk0 hb x0 hb2 hk2
  go_loopw [6, 7] (fun ov iv wr => ∃ i : Nat, iv = .int .i64 i ∧ i ≤ m ∧ wr.ownsRow W3.heap.size 22 1 ov i (n64 ((List.range i).map fun v => rowN k f v m)) ∧ Bk wr w.heap.size 27 #[.int .i64 V, .slice A n c, .int .i64 r] ∧ Keep NoF W3 wr) (fun _ iv _ => m - (intOf iv).toNat)
  case atStart => exact ⟨0, rfl, by omega, World.ownsRow_nil _ _ _ _, hb3, Keep.refl _ _⟩
  case round =>
    clear hb3
    obtain ⟨i, rfl, hi, hown, hb, kwr⟩ := hrel
    by_cases hlt : i < m
    · have hlt2 : (i : Int) < wrap64 ((2 : Int) ^ k) := by rw [HP.out]; omega
      obtain ⟨wo, rfl⟩ : ∃ wo : World, wo = wr := ⟨_, rfl⟩
      obtain ⟨OB, oc, rfl⟩ := own_form hown
      have HOWN := Lib.hid hown
      clear hown
      go_wp2
      go_loopw [8, 9] (fun sv jv wr => ∃ j : Nat, jv = .int .i64 j ∧ sv = .int .u64 (rowN k f i j) ∧ j ≤ m ∧ Bk wr w.heap.size 27 #[.int .i64 V, .slice A n c, .int .i64 r] ∧ Keep NoF wo wr) (fun _ jv _ => m - (intOf jv).toNat)
      case atStart => exact ⟨0, rfl, rfl, by omega, hb, Keep.refl _ _⟩
      case round =>
        clear hb
        obtain ⟨j, rfl, rfl, hj, hb, kro⟩ := hrel
        have kwr2 : Keep NoF w wr := (kw3.trans kwr fun _ _ h => h).trans kro fun _ _ h => h
        by_cases hlj : j < m
        · have hlj2 : (j : Int) < wrap64 ((2 : Int) ^ k) := by rw [HP.out]; omega
          have hs := HSM.out i j
          have HA := Lib.hid fun W => HASG.out i j W (by omega) (by omega)
          have HSJ := Lib.hid (HST.out i j)
          have hml : rowN k f i j < 18446744073709551616 := Nat.lt_of_lt_of_le (HLT.out i j) (Nat.le_trans (Nat.pow_le_pow_right (by omega) (show j ≤ 63 by omega)) (by decide))
          have HOR := Lib.hid (or_u64 (rowN k f i j) j hml (by omega))
          have x0 : wr.drew.cell? ⟨w.heap.size, 0, none⟩ = some (.int .i64 V) := hb.cell 0
          have x1 : wr.drew.cell? ⟨w.heap.size, 1, none⟩ = some (.slice A n c) := hb.cell 1
          have x2 : wr.drew.cell? ⟨w.heap.size, 2, none⟩ = some (.int .i64 r) := hb.cell 2
          have HE2 := Lib.hid fun (W : World) (hk : Keep NoF wr W) => HEV.out W (kwr2.trans hk fun _ _ h => h) _ hs
          generalize asgN k i j = s at *
          generalize rowN k f i j = q at *
          cases hf : f s.testBit with
          | true =>
            simp only [hf, if_true] at HSJ HE2
            go_upto_region 15 with (fail)
            go_region_held3 (fun w' => w'.cell? ⟨w.heap.size, 0, none⟩ = some (.int .i64 V) ∧ w'.cell? ⟨w.heap.size, 1, none⟩ = some (.slice A n c) ∧ w'.cell? ⟨w.heap.size, 2, none⟩ = some (.int .i64 r))
              (first
                | with_reducible exact ⟨x0, x1, x2⟩
                | exact ⟨x0, x1, x2⟩
                | with_reducible exact ⟨z0, z1, z2⟩)
              (first
                | (go_at_call 35
                   (with_reducible refine (HA.out _).mono ?_)
                   rintro e w3 ⟨rfl, n3, rfl⟩)
                | (go_at_call 49
                   (with_reducible refine (HE2.out _ ((Keep.refl NoF wr).drewN (1 + n3))).mono ?_)
                   rintro e w4 ⟨rfl, hk4'⟩
                   have hk4 : Keep NoF wr w4 := ((Keep.refl NoF wr).drewN (1 + n3)).trans hk4' fun _ _ h => h
                   have hb4 : Bk w4 _ _ _ := hb.keep hk4 (fun h => h)
                   have z0 : w4.cell? ⟨w.heap.size, 0, none⟩ = some (.int .i64 V) := hb4.cell 0
                   have z1 : w4.cell? ⟨w.heap.size, 1, none⟩ = some (.slice A n c) := hb4.cell 1
                   have z2 : w4.cell? ⟨w.heap.size, 2, none⟩ = some (.int .i64 r) := hb4.cell 2))
            all_goals
              go_wp2
              go_roundw
              case rel => exact ⟨j + 1, by go_num, by rw [HSJ.out, ← HOR.out], by omega, hb4, kro.trans hk4 fun _ _ h => h⟩
              case measure => simp only [intOf]; omega
          | false =>
            simp only [hf, Bool.false_eq_true, if_false, Nat.or_zero] at HSJ HE2
            go_upto_region 15 with (fail)
            go_region_held3 (fun w' => w'.cell? ⟨w.heap.size, 0, none⟩ = some (.int .i64 V) ∧ w'.cell? ⟨w.heap.size, 1, none⟩ = some (.slice A n c) ∧ w'.cell? ⟨w.heap.size, 2, none⟩ = some (.int .i64 r))
              (first
                | with_reducible exact ⟨x0, x1, x2⟩
                | exact ⟨x0, x1, x2⟩
                | with_reducible exact ⟨z0, z1, z2⟩)
              (first
                | (go_at_call 35
                   (with_reducible refine (HA.out _).mono ?_)
                   rintro e w3 ⟨rfl, n3, rfl⟩)
                | (go_at_call 49
                   (with_reducible refine (HE2.out _ ((Keep.refl NoF wr).drewN (1 + n3))).mono ?_)
                   rintro e w4 ⟨rfl, hk4'⟩
                   have hk4 : Keep NoF wr w4 := ((Keep.refl NoF wr).drewN (1 + n3)).trans hk4' fun _ _ h => h
                   have hb4 : Bk w4 _ _ _ := hb.keep hk4 (fun h => h)
                   have z0 : w4.cell? ⟨w.heap.size, 0, none⟩ = some (.int .i64 V) := hb4.cell 0
                   have z1 : w4.cell? ⟨w.heap.size, 1, none⟩ = some (.slice A n c) := hb4.cell 1
                   have z2 : w4.cell? ⟨w.heap.size, 2, none⟩ = some (.int .i64 r) := hb4.cell 2))
            all_goals
              go_wp2
              go_roundw
              case rel => exact ⟨j + 1, by go_num, by rw [HSJ.out], by omega, hb4, kro.trans hk4 fun _ _ h => h⟩
              case measure => simp only [intOf]; omega
        · have hlj2 : ¬ (j : Int) < wrap64 ((2 : Int) ^ k) := by rw [HP.out]; omega
          obtain rfl : j = m := by omega
          have hown : wr.ownsRow W3.heap.size 22 1 (.slice OB i oc) i (n64 ((List.range i).map fun v => rowN k f v j)) := own_keep HOWN.out fun b hb' => kro.block b (HOWN.out.lt b hb').2 (fun h => h)
          have hzz := kwr.size
          have hzz2 := kro.size
          have HRN : Hid (n64 ((List.range (i + 1)).map fun v => rowN k f v j) = n64 ((List.range i).map fun v => rowN k f v j) ++ [.int .u64 (rowN k f i j)]) := Lib.hid (by rw [List.range_succ, List.map_append]; simp [n64])
          generalize rowN k f i j = q at *
          go_wp2_with (at_builtin
                       refine wpList_app (by rfl) eU64 (.tmp 46) (.tmp 48) (by rfl) (by rfl) (hown.alloc _) ⟨wr.heap.size, 0, none⟩ 1 1 [.int .u64 q] (by rfl) (by rfl)
                         (World.news_of_block (cs := #[.int .u64 q]) (t := 22) (fr := (0, 0)) (heap_alloc_new wr _)) (by simp [Value.oneCell']) (by omega) (by omega) (by omega) (by simp; omega) ?_
                       intro g4 cap4 w4 hown4 hA4)
          have hbw : Bk w4 w.heap.size 27 #[.int .i64 V, .slice A n c, .int .i64 r] := (hb.alloc _).grown hA4.grown fun h => by have := (hown.lt _ h.symm).1; omega
          go_roundw
          case rel => exact ⟨i + 1, by go_num, by omega, by rw [HRN.out]; exact hown4, hbw, ((kwr.trans kro fun _ _ h => h).alloc _).grown hA4.grown fun x hx => .inr (hown.lt x hx).1⟩
          case measure => simp only [intOf]; omega
    · have hlt2 : ¬ (i : Int) < wrap64 ((2 : Int) ^ k) := by rw [HP.out]; omega
      obtain rfl : i = m := by omega
      obtain ⟨OB, oc, rfl⟩ := own_form hown
      have hrd := Rd.of_own hown
      rw [HPE.out] at hrd
      have hl : (pairsN k f).length = i := by rw [← HPE.out]; simp
      rw [← hl] at hrd
      have HRD := Lib.hid hrd
      have HL := Lib.hid hl
      clear hrd hl hown
      go_wp2
      go_ret2
      exact ⟨OB, oc, by rw [HL.out] <;> rfl, HRD.out, kw3.trans kwr fun _ _ h => h⟩
end
end Go.Proofs.Ytgdmcidcappkpaa
