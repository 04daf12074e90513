/- What the program's Pairs answers. No condition. -/
import Derived.Test.YtgdmcidcappkpaaDoorSyI
import Derived.RegionTactic
import Derived.Deep.OwnRows
import Derived.BigRegion
set_option linter.unusedVariables false
set_option linter.unusedSimpArgs false
namespace Go.Proofs.YtgdmcidcappkpaaDoor
open Go.RowKit
open Dd (Rn rat ofN toN checkErr den lo var Within Valid supp canon odN rowN pairsN asgN)

abbrev n64 (l : List Nat) : List Value := l.map fun n : Nat => Value.int .u64 (n : Int)
/-- The list while row i is filled up to j. -/
def pairP (k : Nat) (f : BF) (m i j : Nat) : List Nat := (List.range m).map fun v => if v < i then rowN k f v m else if v = i then rowN k f v j else 0
theorem pairP_len (k : Nat) (f : BF) (m i j : Nat) : (pairP k f m i j).length = m := by simp [pairP]
theorem pairP_at {k : Nat} {f : BF} {m i : Nat} (h : i < m) (j : Nat) : (pairP k f m i j)[i]? = some (rowN k f i j) := by
  unfold pairP
  rw [List.getElem?_map, List.getElem?_range h]
  simp
theorem pairP_start (k : Nat) (f : BF) (m : Nat) : pairP k f m 0 0 = List.replicate m 0 := by
  unfold pairP
  apply List.ext_getElem?
  intro i
  rw [List.getElem?_map, List.getElem?_replicate]
  by_cases h : i < m
  · rw [List.getElem?_range h, if_pos h]
    simp [rowN, Dd.enc]
  · rw [List.getElem?_eq_none (by simpa using h), if_neg h]
    rfl
theorem pairP_set {k : Nat} {f : BF} {m i : Nat} (j : Nat) : (pairP k f m i j).set i (rowN k f i (j + 1)) = pairP k f m i (j + 1) := by
  unfold pairP
  apply List.ext_getElem?
  intro v
  rw [List.getElem?_set, List.getElem?_map, List.getElem?_map, List.length_map, List.length_range]
  by_cases h : i = v
  · subst h
    by_cases h2 : i < m
    · rw [if_pos rfl, if_pos h2, List.getElem?_range h2]
      simp
    · rw [if_pos rfl, if_neg h2, List.getElem?_eq_none (by simpa using h2)]
      rfl
  · rw [if_neg h]
    by_cases h2 : v < m
    · rw [List.getElem?_range h2]
      simp [Ne.symm h]
    · rw [List.getElem?_eq_none (by simpa using h2)]
      rfl
theorem pairP_next (k : Nat) (f : BF) (m i : Nat) : pairP k f m i m = pairP k f m (i + 1) 0 := by
  unfold pairP
  refine List.map_congr_left fun v _ => ?_
  by_cases h : v < i
  · rw [if_pos h, if_pos (by omega)]
  · rw [if_neg h]
    by_cases h2 : v = i
    · rw [if_pos h2, if_pos (by omega)]
    · rw [if_neg h2, if_neg (by omega)]
      split <;> simp [rowN, Dd.enc]
theorem pairP_end (k : Nat) (f : BF) : pairP k f (2 ^ k) (2 ^ k) 0 = pairsN k f := by
  unfold pairP pairsN
  refine List.map_congr_left fun v hv => ?_
  rw [if_pos (List.mem_range.1 hv)]
theorem infoU64 : (Tryd.prog.info? 31).map (fun i => (i.zero, i.size, i.bytes)) = some (some (.int .u64 0), 1, 8) := by kernel_rfl
theorem eU64 : ElemT Tryd.prog 23 31 (.int .u64 0) 1 8 := ⟨Tryd.underlying23, info_parts infoU64, rfl, by omega⟩
theorem made_u64 (n : Nat) : madeCells #[.int .u64 0] n = (n64 (List.replicate n 0)).toArray := by
  apply Array.ext_getElem?
  intro i
  by_cases hi : i < n
  · simp [madeCells, List.getElem?_replicate, hi, Nat.mod_one]
  · simp [madeCells, List.getElem?_replicate, hi]
theorem run_make_u64 (n : Nat) (h : n ≤ 35184372088832) (w : World) : (Instr.makeSlice 23 (.int .i64 (n : Int)) (.int .i64 (n : Int))).run Tryd.prog w = .ok (.slice (some ⟨w.heap.size, 0, none⟩) n n) (w.alloc (.cells (n64 (List.replicate n 0)).toArray 31)) := by
  rw [← made_u64]
  exact run_make_row' 23 31 (.int .u64 0) 8 Tryd.underlying23 infoU64 rfl .i64 .i64 n (by omega) (by omega) w
/-- What hands back a list of sets. -/
def ListPost (w : World) (l : List Nat) (err : Int) (e : Ending) (w' : World) : Prop :=
  ∃ A c, e = .returned (.tuple #[.slice A l.length c, .int .i64 err]) ∧ Rd w' (.slice A l.length c) 1 l.length (n64 l) ∧ Keep NoF w w'
section
set_option maxRecDepth 100000
set_option maxHeartbeats 4000000
theorem Pairs_bad (d : Dg) (w : World) (hd : d.In w) (h : relE d ≠ 0) : Calls Tryd.prog 15 #[d.val] w fun e w' => e = .returned (.tuple #[.slice none 0 0, .int .i64 (relE d)]) ∧ Keep NoF w w' := by
  have hck := fun (w1 : World) (hk : Keep NoF w w1) => relErr_any d w1 ⟨hd.1.kept hk fun _ _ h => h, hd.2⟩
  have hne : (relE d != 0) = true := by simpa using h
  have hd1 := hd.1
  generalize relE d = re at *
  obtain ⟨V, R, root, sl⟩ := d
  simp only at hd1 hck
  obtain ⟨_, A, c, rfl, _, _⟩ := hd1
  have hck : ∀ w1, Keep NoF w w1 → Calls Tryd.prog 44 #[.agg #[.int .i64 V, .slice A R.length c, .int .i64 root]] w1 fun e w' => e = .returned (.int .i64 re) ∧ Keep NoF w1 w' := hck
  show Calls Tryd.prog 15 #[.agg #[.int .i64 V, .slice A R.length c, .int .i64 root]] w _
  have hk0 : Keep NoF w (w.alloc (.cells #[.int .i64 V, .slice A R.length c, .int .i64 root] 26)) := (Keep.refl _ _).alloc _
  have HS := Lib.hid (hck _ hk0)
  clear hck hd h
  go_enter Tryd.func15, Tryd.ntmps15
  go_wp2_with (go_at_call 44; (with_reducible refine HS.out.mono ?_); rintro e w2 ⟨rfl, hk2⟩)
  go_ret2
  exact ⟨rfl, hk0.trans hk2 fun _ _ h => h⟩
theorem Pairs_any (d : Dg) (w : World) (hd : d.In w) (h : relE d = 0) (k : Nat) (hk : k ≤ 6) (hV : d.V = ((2 * k : Nat) : Int)) : Calls Tryd.prog 15 #[d.val] w (ListPost w (pairsN k d.fn) 0) := by
  have hck := fun (w1 : World) (hk : Keep NoF w w1) => relErr_any d w1 ⟨hd.1.kept hk fun _ _ h => h, hd.2⟩
  rw [h] at hck
  obtain ⟨V, M, r, A, c, rfl, hM, D⟩ := dg_isD d hd (relE_zero h).choose_spec.2.2
  have hfn : Dg.fn ⟨V, ofN M, r, .slice A M.length c⟩ = den M r := by unfold Dg.fn; rw [Dd.toN_ofN]; rfl
  rw [hfn]
  have hVk : V = 2 * k := by have e : ((V : Nat) : Int) = ((2 * k : Nat) : Int) := hV; omega
  clear hd h hV hfn hM
  generalize den M r = f at *
  generalize M.length = n at *
  have hck : ∀ w1, Keep NoF w w1 → Calls Tryd.prog 44 #[.agg #[.int .i64 V, .slice A n c, .int .i64 r]] w1 fun e w' => e = .returned (.int .i64 0) ∧ Keep NoF w1 w' := hck
  show Calls Tryd.prog 15 #[.agg #[.int .i64 V, .slice A n c, .int .i64 r]] w _
  have hk0 : Keep NoF w (w.alloc (.cells #[.int .i64 V, .slice A n c, .int .i64 r] 26)) := (Keep.refl _ _).alloc _
  have hb := Bk.new w 26 #[.int .i64 V, .slice A n c, .int .i64 r]
  have HS := Lib.hid (hck _ hk0)
  have HEV := Lib.hid fun (W : World) (hk : Keep NoF w W) s (hs : s < 16777216) => x_eval (s := s) (by omega) (D.keep hk)
  obtain ⟨hp, hm64⟩ := pow_k hk
  have hq : (V : Int) / 2 = (k : Int) := by omega
  have hV12 : (V : Int) ≤ 12 := by omega
  have HASG := Lib.hid fun (v u : Nat) W (hv : v < 64) (hu : u < 64) => asg_any k v u hk hv hu W
  have HSM := Lib.hid fun v u => asgN_small (k := k) (v := v) (w := u) (by omega)
  have HST := Lib.hid fun i j => Dd.rowN_succ k f i j
  have HLT := Lib.hid fun i j => Dd.enc_lt j (fun u => f (asgN k i u).testBit)
  have HPE := Lib.hid (pairP_end k f)
  clear hck D hVk
  generalize hm : 2 ^ k = m at *
  have HP := Lib.hid hp
  have hmk : ∀ w, (Instr.makeSlice 23 (.int .i64 (wrap64 ((2 : Int) ^ k))) (.int .i64 (wrap64 ((2 : Int) ^ k)))).run Tryd.prog w = .ok (.slice (some ⟨w.heap.size, 0, none⟩) m m) (w.alloc (.cells (n64 (pairP k f m 0 0)).toArray 31)) := fun w => by rw [hp, pairP_start]; exact run_make_u64 m (by omega) w
  clear hp hm
  go_enter Tryd.func15, Tryd.ntmps15
  go_wp2_with (go_at_call 44
               (with_reducible refine HS.out.mono ?_)
               rintro e w2 ⟨rfl, hk2⟩
               have hb2 := hb.keep hk2 (fun h => h)
               have x0 : w2.cell? ⟨w.heap.size, 0, none⟩ = some (.int .i64 V) := hb2.cell 0)
  have hbl := hb2.lt
  have hb3 := hb2.alloc (.cells (n64 (pairP k f m 0 0)).toArray 31)
  have ho3 := Bk.new w2 31 (n64 (pairP k f m 0 0)).toArray
  have kw3 : Keep NoF w (w2.alloc (.cells (n64 (pairP k f m 0 0)).toArray 31)) := (hk0.trans hk2 fun _ _ h => h).alloc _
  generalize w2.alloc (.cells (n64 (pairP k f m 0 0)).toArray 31) = W3 at *
  generalize w2.heap.size = ob at *
  have hwo : w.heap.size < ob := hbl
  clear HS hk0 hb x0 hb2 hk2 hmk hbl
  go_loopw [25] (fun iv wr => ∃ i : Nat, iv = .int .i64 i ∧ i ≤ m ∧ Bk wr ob 31 (n64 (pairP k f m i 0)).toArray ∧ Bk wr w.heap.size 26 #[.int .i64 V, .slice A n c, .int .i64 r] ∧ Keep NoF w wr) (fun iv _ => m - (intOf iv).toNat)
  case atStart => exact ⟨0, rfl, by omega, ho3, hb3, kw3⟩
  case round =>
    clear ho3 hb3 kw3
    obtain ⟨i, rfl, hi, ho, hb, kwr⟩ := hrel
    by_cases hlt : i < m
    · obtain ⟨wo, rfl⟩ : ∃ wo : World, wo = wr := ⟨_, rfl⟩
      go_wp2
      go_loopw [30] (fun jv wr => ∃ j : Nat, jv = .int .i64 j ∧ j ≤ m ∧ Bk wr ob 31 (n64 (pairP k f m i j)).toArray ∧ Bk wr w.heap.size 26 #[.int .i64 V, .slice A n c, .int .i64 r] ∧ Keep NoF w wr) (fun jv _ => m - (intOf jv).toNat)
      case atStart => exact ⟨0, rfl, by omega, ho, hb, kwr⟩
      case round =>
        clear ho hb kwr
        obtain ⟨j, rfl, hj, ho, hb, kwr⟩ := hrel
        by_cases hlj : j < m
        · have hs := HSM.out i j
          have HA := Lib.hid fun W => HASG.out i j W (by omega) (by omega)
          have HSJ := Lib.hid (HST.out i j)
          have HPS := Lib.hid (pairP_set (k := k) (f := f) (m := m) (i := i) j)
          have hpa := pairP_at (k := k) (f := f) hlt j
          have hml : rowN k f i j < 18446744073709551616 := Nat.lt_of_lt_of_le (HLT.out i j) (Nat.le_trans (Nat.pow_le_pow_right (by omega) (show j ≤ 63 by omega)) (by decide))
          have HOR := Lib.hid (or_u64 (rowN k f i j) j hml (by omega))
          have x0 : wr.drew.cell? ⟨w.heap.size, 0, none⟩ = some (.int .i64 V) := hb.cell 0
          have x1 : wr.drew.cell? ⟨w.heap.size, 1, none⟩ = some (.slice A n c) := hb.cell 1
          have x2 : wr.drew.cell? ⟨w.heap.size, 2, none⟩ = some (.int .i64 r) := hb.cell 2
          have HPA := Lib.hid (fun (W : World) (h : Bk W ob 31 (n64 (pairP k f m i j)).toArray) => (show W.cell? ⟨ob, i, none⟩ = some (.int .u64 (rowN k f i j : Nat)) by rw [h.cell, List.getElem?_toArray, List.getElem?_map, hpa]; rfl))
          have HE2 := Lib.hid fun (W : World) (hk : Keep NoF w W) => HEV.out W hk _ hs
          clear hpa
          generalize asgN k i j = s at *
          have hi0 : (0 : Int) ≤ (i : Int) := by omega
          have him : (i : Int) < (m : Int) := by omega
          cases hf : f s.testBit with
          | true =>
            simp only [hf, if_true] at HSJ HE2
            go_upto_region 14 with (fail)
            go_region_held3 (fun w' => w'.cell? ⟨w.heap.size, 0, none⟩ = some (.int .i64 V) ∧ w'.cell? ⟨w.heap.size, 1, none⟩ = some (.slice A n c) ∧ w'.cell? ⟨w.heap.size, 2, none⟩ = some (.int .i64 r))
              (first
                | with_reducible exact ⟨x0, x1, x2⟩
                | exact ⟨x0, x1, x2⟩
                | with_reducible exact ⟨z0, z1, z2⟩)
              (first
                | (go_at_call 36
                   (with_reducible refine (HA.out _).mono ?_)
                   rintro e w3 ⟨rfl, n3, rfl⟩)
                | (go_at_call 35
                   (with_reducible refine (HE2.out _ (kwr.drewN (1 + n3))).mono ?_)
                   rintro e w4 ⟨rfl, hk4'⟩
                   have hk4 : Keep NoF wr w4 := ((Keep.refl NoF wr).drewN (1 + n3)).trans hk4' fun _ _ h => h
                   have hb4 : Bk w4 _ _ _ := hb.keep hk4 (fun h => h)
                   have ho4 : Bk w4 _ _ _ := ho.keep hk4 (fun h => h)
                   have z0 : w4.cell? ⟨w.heap.size, 0, none⟩ = some (.int .i64 V) := hb4.cell 0
                   have z1 : w4.cell? ⟨w.heap.size, 1, none⟩ = some (.slice A n c) := hb4.cell 1
                   have z2 : w4.cell? ⟨w.heap.size, 2, none⟩ = some (.int .i64 r) := hb4.cell 2))
            all_goals
              have y0 := HPA.out w4 ho4
              have yf := ho4.frozen i
              generalize rowN k f i j = q at *
              go_upto_region 15 with (fail)
              go_region
              go_wp2
              go_roundw
              case rel =>
                have h5 := (ho4.put i (.int .u64 (bits BinOp.or IntKind.u64 (q : Int) (IntKind.u64.wrap (2 ^ j))))).drew
                rw [HOR.out, ← HSJ.out] at h5
                rw [show (n64 (pairP k f m i j)).toArray.setIfInBounds i (.int .u64 (rowN k f i (j + 1) : Nat)) = (n64 (pairP k f m i (j + 1))).toArray by rw [← HPS.out]; simp [n64, List.map_set]] at h5
                rw [HOR.out, ← HSJ.out]
                exact ⟨j + 1, by go_num, by omega, h5, (hb4.far (by simp; omega) _).drew, ((kwr.trans hk4 fun _ _ h => h).setCell (.inr (by simp; omega)) _).drew⟩
              case measure => simp only [intOf]; omega
          | false =>
            simp only [hf, Bool.false_eq_true, if_false, Nat.or_zero] at HSJ HE2
            have HPE2 : Hid (pairP k f m i j = pairP k f m i (j + 1)) := Lib.hid (by
              unfold pairP
              refine List.map_congr_left fun v _ => ?_
              by_cases h1 : v < i
              · rw [if_pos h1, if_pos h1]
              · rw [if_neg h1, if_neg h1]
                by_cases h2 : v = i
                · rw [if_pos h2, if_pos h2, h2, HSJ.out]
                · rw [if_neg h2, if_neg h2])
            go_upto_region 14 with (fail)
            go_region_held3 (fun w' => w'.cell? ⟨w.heap.size, 0, none⟩ = some (.int .i64 V) ∧ w'.cell? ⟨w.heap.size, 1, none⟩ = some (.slice A n c) ∧ w'.cell? ⟨w.heap.size, 2, none⟩ = some (.int .i64 r))
              (first
                | with_reducible exact ⟨x0, x1, x2⟩
                | exact ⟨x0, x1, x2⟩
                | with_reducible exact ⟨z0, z1, z2⟩)
              (first
                | (go_at_call 36
                   (with_reducible refine (HA.out _).mono ?_)
                   rintro e w3 ⟨rfl, n3, rfl⟩)
                | (go_at_call 35
                   (with_reducible refine (HE2.out _ (kwr.drewN (1 + n3))).mono ?_)
                   rintro e w4 ⟨rfl, hk4'⟩
                   have hk4 : Keep NoF wr w4 := ((Keep.refl NoF wr).drewN (1 + n3)).trans hk4' fun _ _ h => h
                   have hb4 : Bk w4 _ _ _ := hb.keep hk4 (fun h => h)
                   have ho4 : Bk w4 _ _ _ := ho.keep hk4 (fun h => h)
                   have z0 : w4.cell? ⟨w.heap.size, 0, none⟩ = some (.int .i64 V) := hb4.cell 0
                   have z1 : w4.cell? ⟨w.heap.size, 1, none⟩ = some (.slice A n c) := hb4.cell 1
                   have z2 : w4.cell? ⟨w.heap.size, 2, none⟩ = some (.int .i64 r) := hb4.cell 2))
            all_goals
              go_wp2
              go_roundw
              case rel => exact ⟨j + 1, by go_num, by omega, HPE2.out ▸ ho4, hb4, kwr.trans hk4 fun _ _ h => h⟩
              case measure => simp only [intOf]; omega
        · obtain rfl : j = m := by omega
          rw [pairP_next] at ho
          go_wp2
          go_roundw
          case rel => exact ⟨i + 1, by go_num, by omega, ho, hb, kwr⟩
          case measure => simp only [intOf]; omega
    · obtain rfl : i = m := by omega
      rw [HPE.out] at ho
      go_wp2
      go_ret2
      have hl : (pairsN k f).length = i := by rw [← HPE.out, pairP_len]
      refine ⟨some ⟨ob, 0, none⟩, i, by rw [hl] <;> rfl, ?_, kwr⟩
      refine ⟨by simp, _, _, rfl, by omega, fun _ => ⟨ob, 0, rfl, fun j u hu => ?_⟩⟩
      rw [Nat.zero_add, ho.cell]
      simpa using hu
end
end Go.Proofs.YtgdmcidcappkpaaDoor
