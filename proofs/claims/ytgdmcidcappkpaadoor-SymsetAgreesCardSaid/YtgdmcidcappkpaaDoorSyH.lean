/- The errors of relations and sets: what the program asks. No condition. -/
import Derived.Test.YtgdmcidcappkpaaDoorSyC
import Derived.Test.YtgdmcidcappkpaaDoorSyD
import Derived.Deep.RegionHeld3
set_option linter.unusedVariables false
set_option linter.unusedSimpArgs false
namespace Go.Proofs.YtgdmcidcappkpaaDoor
open Go.RowKit
open Dd (Rn rat ofN toN checkErr den lo var Within Valid supp canon odN)

/-- The error of a relation, of a set. -/
def relE (d : Dg) : Int := if d.err ≠ 0 then d.err else if d.V % 2 = 1 then 3 else 0
def setE (d : Dg) : Int := if relE d ≠ 0 then relE d else if suppD d &&& odN d.V.toNat ≠ 0 then 1 else 0
theorem relE_zero {d : Dg} (h : relE d = 0) : ∃ v : Nat, d.V = v ∧ v ≤ 24 ∧ d.err = 0 := by
  unfold relE at h
  by_cases h0 : d.err ≠ 0
  · rw [if_pos h0] at h
    exact absurd h h0
  · have h0 : d.err = 0 := by simpa using h0
    obtain ⟨v, M, r, hv, -, -, H⟩ := Dd.valid_of h0
    exact ⟨v, hv, H.vars, h0⟩
theorem relE_even {d : Dg} (h : relE d = 0) : d.V % 2 = 0 := by
  obtain ⟨v, hv, _, he⟩ := relE_zero h
  unfold relE at h
  rw [if_neg (by simp [he])] at h
  by_cases hp : d.V % 2 = 1
  · rw [if_pos hp] at h
    cases h
  · omega
theorem setE_zero {d : Dg} (h : setE d = 0) : relE d = 0 ∧ suppD d &&& odN d.V.toNat = 0 := by
  unfold setE at h
  by_cases h0 : relE d ≠ 0
  · rw [if_pos h0] at h
    exact absurd h h0
  · rw [if_neg h0] at h
    refine ⟨by simpa using h0, ?_⟩
    by_cases h1 : suppD d &&& odN d.V.toNat ≠ 0
    · rw [if_pos h1] at h
      cases h
    · simpa using h1
theorem suppD_lt (d : Dg) : suppD d < 16777216 := by
  unfold suppD
  split
  · rename_i h
    obtain ⟨v, M, r, -, hR, -, H⟩ := Dd.valid_of h
    rw [hR, Dd.toN_ofN]
    refine Dd.supp_lt M fun n hn => ?_
    obtain ⟨i, i1, i2, i3⟩ := Dd.node_var hn
    rw [← i3]
    exact H.good.bound i i1 i2
  · omega
section
set_option maxRecDepth 100000
set_option maxHeartbeats 2000000
theorem relErr_any (d : Dg) (w : World) (hd : d.In w) : Calls Tryd.prog 44 #[d.val] w fun e w' => e = .returned (.int .i64 (relE d)) ∧ Keep NoF w w' := by
  have hval : d.err = 0 → ∃ (v : Nat) (M : List Nd) (r : Nat), d.V = v ∧ d.R = ofN M ∧ d.root = r ∧ Valid v M r := fun h => Dd.valid_of h
  have hck := fun (w1 : World) (hk : Keep NoF w w1) => check_any d.V d.R d.root d.sl w1 hd.2 (hd.1.kept hk fun _ _ h => h)
  rw [show checkErr d.V d.R d.root = d.err from rfl] at hck
  have hre : relE d = if d.err ≠ 0 then d.err else if d.V % 2 = 1 then 3 else 0 := rfl
  have hd1 := hd.1
  generalize relE d = re at *
  generalize d.err = ae at *
  obtain ⟨V, R, root, sl⟩ := d
  simp only at hd1 hck hval hre
  obtain ⟨_, A, c, rfl, _, _⟩ := hd1
  show Calls Tryd.prog 44 #[.agg #[.int .i64 V, .slice A R.length c, .int .i64 root]] w _
  have hk0 : Keep NoF w (w.alloc (.cells #[.int .i64 V, .slice A R.length c, .int .i64 root] 26)) := (Keep.refl _ _).alloc _
  have hb := Bk.new w 26 #[.int .i64 V, .slice A R.length c, .int .i64 root]
  have HS := Lib.hid (hck _ hk0)
  clear hck hd
  by_cases h0 : ae = 0
  · obtain ⟨v, M, r, rfl, -, -, hv⟩ := hval h0
    have hv24 := hv.vars
    rw [if_neg (by simp [h0])] at hre
    subst h0
    clear hval hv
    by_cases hp : (v : Int) % 2 = 1
    · rw [if_pos hp] at hre
      subst hre
      have hp2 : ((v : Int).tmod 2 == 1) = true := by rw [Int.tmod_eq_emod_of_nonneg (by omega), hp]; rfl
      have hp3 : ((v : Int) % 2 == 1) = true := by rw [hp]; rfl
      clear hp
      go_enter Tryd.func44, Tryd.ntmps44
      go_wp2_with (go_at_call 60
                   (with_reducible refine HS.out.mono ?_)
                   rintro e w2 ⟨rfl, hk2⟩
                   have hb2 := hb.keep hk2 (fun h => h)
                   have x0 : w2.cell? ⟨w.heap.size, 0, none⟩ = some (.int .i64 v) := hb2.cell 0)
      go_ret
      exact ⟨rfl, hk0.trans hk2 fun _ _ h => h⟩
    · rw [if_neg hp] at hre
      subst hre
      have hp2 : ((v : Int).tmod 2 == 1) = false := by rw [Int.tmod_eq_emod_of_nonneg (by omega)]; simpa using hp
      have hp3 : ((v : Int) % 2 == 1) = false := by simpa using hp
      clear hp
      go_enter Tryd.func44, Tryd.ntmps44
      go_wp2_with (go_at_call 60
                   (with_reducible refine HS.out.mono ?_)
                   rintro e w2 ⟨rfl, hk2⟩
                   have hb2 := hb.keep hk2 (fun h => h)
                   have x0 : w2.cell? ⟨w.heap.size, 0, none⟩ = some (.int .i64 v) := hb2.cell 0)
      go_ret
      exact ⟨rfl, hk0.trans hk2 fun _ _ h => h⟩
  · rw [if_pos h0] at hre
    have hne : (ae != 0) = true := by simpa using h0
    subst hre
    clear hval h0
    go_enter Tryd.func44, Tryd.ntmps44
    go_wp2_with (go_at_call 60; (with_reducible refine HS.out.mono ?_); rintro e w2 ⟨rfl, hk2⟩)
    go_ret
    exact ⟨rfl, hk0.trans hk2 fun _ _ h => h⟩
theorem setErr_any (d : Dg) (w : World) (hd : d.In w) : Calls Tryd.prog 34 #[d.val] w fun e w' => e = .returned (.int .i64 (setE d)) ∧ Keep NoF w w' := by
  have hvr : relE d = 0 → ∃ v : Nat, d.V = v ∧ v ≤ 24 ∧ d.err = 0 := relE_zero
  have hck := fun (w1 : World) (hk : Keep NoF w w1) => relErr_any d w1 ⟨hd.1.kept hk fun _ _ h => h, hd.2⟩
  have hsp := fun (w1 : World) (hk : Keep NoF w w1) => Support_any d w1 ⟨hd.1.kept hk fun _ _ h => h, hd.2⟩
  have hse : setE d = if relE d ≠ 0 then relE d else if suppD d &&& odN d.V.toNat ≠ 0 then 1 else 0 := rfl
  have hsl : suppD d < 16777216 := suppD_lt d
  have hd1 := hd.1
  generalize suppD d = sp at *
  generalize setE d = se at *
  generalize relE d = re at *
  obtain ⟨V, R, root, sl⟩ := d
  simp only at hd1 hck hvr hse hsp
  obtain ⟨_, A, c, rfl, _, _⟩ := hd1
  have hck : ∀ w1, Keep NoF w w1 → Calls Tryd.prog 44 #[.agg #[.int .i64 V, .slice A R.length c, .int .i64 root]] w1 fun e w' => e = .returned (.int .i64 re) ∧ Keep NoF w1 w' := hck
  have hsp : ∀ w1, Keep NoF w w1 → Calls Tryd.prog 58 #[.agg #[.int .i64 V, .slice A R.length c, .int .i64 root]] w1 fun e w' => e = .returned (.int .u64 sp) ∧ Keep NoF w1 w' := hsp
  show Calls Tryd.prog 34 #[.agg #[.int .i64 V, .slice A R.length c, .int .i64 root]] w _
  have hk0 : Keep NoF w (w.alloc (.cells #[.int .i64 V, .slice A R.length c, .int .i64 root] 26)) := (Keep.refl _ _).alloc _
  have hb := Bk.new w 26 #[.int .i64 V, .slice A R.length c, .int .i64 root]
  have HS := Lib.hid (hck _ hk0)
  have HP := Lib.hid hsp
  clear hck hsp hd
  by_cases h0 : re = 0
  · obtain ⟨v, rfl, hv24, -⟩ := hvr h0
    rw [if_neg (by simp [h0]), Int.toNat_natCast] at hse
    subst h0
    have HO := Lib.hid fun W => odd_any v hv24 W
    have hol := odN_lt hv24
    have hand := bits_and_u64_nat sp (odN v) (by omega) (by omega)
    have hne : (bits BinOp.and IntKind.u64 (sp : Int) (odN v : Int) != 0) = decide (sp &&& odN v ≠ 0) := by
      rw [hand]
      by_cases h : sp &&& odN v = 0 <;> simp [h] <;> omega
    clear hvr hand
    generalize odN v = ov at *
    by_cases hz : sp &&& ov ≠ 0
    · rw [decide_eq_true hz] at hne
      rw [if_pos hz] at hse
      subst hse
      clear hz
      go_enter Tryd.func34, Tryd.ntmps34
      go_upto_region 4 with (go_at_call 44
                             (with_reducible refine HS.out.mono ?_)
                             rintro e w2 ⟨rfl, hk2⟩)
      have hb2 := hb.keep hk2 (fun h => h)
      have kw2 := hk0.trans hk2 fun _ _ h => h
      have HP2 := Lib.hid (HP.out _ kw2.drew)
      have x0 : w2.drew.cell? ⟨w.heap.size, 0, none⟩ = some (.int .i64 v) := hb2.cell 0
      have x1 : w2.drew.cell? ⟨w.heap.size, 1, none⟩ = some (.slice A R.length c) := hb2.cell 1
      have x2 : w2.drew.cell? ⟨w.heap.size, 2, none⟩ = some (.int .i64 root) := hb2.cell 2
      go_region_held3 (fun w' => w'.cell? ⟨w.heap.size, 0, none⟩ = some (.int .i64 v) ∧ w'.cell? ⟨w.heap.size, 1, none⟩ = some (.slice A R.length c) ∧ w'.cell? ⟨w.heap.size, 2, none⟩ = some (.int .i64 root))
        (first
          | with_reducible exact ⟨x0, x1, x2⟩
          | with_reducible exact ⟨z0, z1, z2⟩)
        (first
          | (go_at_call 59
             (with_reducible refine (HO.out _).mono ?_)
             rintro e w' ⟨rfl, hw'⟩
             obtain rfl := hw'.symm)
          | (go_at_call 58
             (with_reducible refine HP2.out.mono ?_)
             rintro e w3 ⟨rfl, hk3⟩
             have hb3 : Bk w3 _ _ _ := (hb2.drew).keep hk3 (fun h => h)
             have z0 : w3.cell? ⟨w.heap.size, 0, none⟩ = some (.int .i64 v) := hb3.cell 0
             have z1 : w3.cell? ⟨w.heap.size, 1, none⟩ = some (.slice A R.length c) := hb3.cell 1
             have z2 : w3.cell? ⟨w.heap.size, 2, none⟩ = some (.int .i64 root) := hb3.cell 2))
      all_goals
        go_wp2
        go_ret
        exact ⟨rfl, kw2.drew.trans hk3 fun _ _ h => h⟩
    · rw [decide_eq_false hz] at hne
      rw [if_neg hz] at hse
      subst hse
      clear hz
      go_enter Tryd.func34, Tryd.ntmps34
      go_upto_region 4 with (go_at_call 44
                             (with_reducible refine HS.out.mono ?_)
                             rintro e w2 ⟨rfl, hk2⟩)
      have hb2 := hb.keep hk2 (fun h => h)
      have kw2 := hk0.trans hk2 fun _ _ h => h
      have HP2 := Lib.hid (HP.out _ kw2.drew)
      have x0 : w2.drew.cell? ⟨w.heap.size, 0, none⟩ = some (.int .i64 v) := hb2.cell 0
      have x1 : w2.drew.cell? ⟨w.heap.size, 1, none⟩ = some (.slice A R.length c) := hb2.cell 1
      have x2 : w2.drew.cell? ⟨w.heap.size, 2, none⟩ = some (.int .i64 root) := hb2.cell 2
      go_region_held3 (fun w' => w'.cell? ⟨w.heap.size, 0, none⟩ = some (.int .i64 v) ∧ w'.cell? ⟨w.heap.size, 1, none⟩ = some (.slice A R.length c) ∧ w'.cell? ⟨w.heap.size, 2, none⟩ = some (.int .i64 root))
        (first
          | with_reducible exact ⟨x0, x1, x2⟩
          | with_reducible exact ⟨z0, z1, z2⟩)
        (first
          | (go_at_call 59
             (with_reducible refine (HO.out _).mono ?_)
             rintro e w' ⟨rfl, hw'⟩
             obtain rfl := hw'.symm)
          | (go_at_call 58
             (with_reducible refine HP2.out.mono ?_)
             rintro e w3 ⟨rfl, hk3⟩
             have hb3 : Bk w3 _ _ _ := (hb2.drew).keep hk3 (fun h => h)
             have z0 : w3.cell? ⟨w.heap.size, 0, none⟩ = some (.int .i64 v) := hb3.cell 0
             have z1 : w3.cell? ⟨w.heap.size, 1, none⟩ = some (.slice A R.length c) := hb3.cell 1
             have z2 : w3.cell? ⟨w.heap.size, 2, none⟩ = some (.int .i64 root) := hb3.cell 2))
      all_goals
        go_wp2
        go_ret
        exact ⟨rfl, kw2.drew.trans hk3 fun _ _ h => h⟩
  · rw [if_pos h0] at hse
    have hne : (re != 0) = true := by simpa using h0
    subst hse
    clear hvr h0
    go_enter Tryd.func34, Tryd.ntmps34
    go_wp2_with (go_at_call 44; (with_reducible refine HS.out.mono ?_); rintro e w2 ⟨rfl, hk2⟩)
    go_ret
    exact ⟨rfl, hk0.trans hk2 fun _ _ h => h⟩
end
end Go.Proofs.YtgdmcidcappkpaaDoor
