/- What the reference's Few and the law's small do. No condition. -/
import Derived.Test.YtengdldkkmknpaaOpen
import Derived.Test.YtengdldkkmknpaaOper
set_option linter.unusedVariables false
set_option linter.unusedSimpArgs false
namespace Go.Proofs.Ytengdldkkmknpaa
open Go.RowKit
open Dd (Rn rat)

set_option maxRecDepth 100000 in
theorem few_any (V r : Int) (A : Option Addr) (n c : Nat) (hn : n ≤ 9223372036854775807) (w : World) : Calls Try.prog 51 #[.agg #[.int .i64 V, .slice A n c, .int .i64 r]] w fun e w' => e = .returned (.bool (decide (n ≤ 60))) ∧ Keep NoF w w' := by
  by_cases h : n ≤ 60
  · have hd : decide ((n : Int) ≤ 60) = true := by simp; omega
    have he : decide (n ≤ 60) = true := by simpa using h
    rw [he]
    clear he
    go_enter Try.func51, Try.ntmps51
    go_wp2
    go_ret
    exact ⟨rfl, (Keep.refl _ _).alloc _⟩
  · have hd : decide ((n : Int) ≤ 60) = false := by simp; omega
    have he : decide (n ≤ 60) = false := by simpa using h
    rw [he]
    clear he
    go_enter Try.func51, Try.ntmps51
    go_wp2
    go_ret
    exact ⟨rfl, (Keep.refl _ _).alloc _⟩

/-- All are small. -/
def smallB (ds : List Dg) : Bool := ds.all fun d => decide (d.R.length ≤ 60)

set_option maxRecDepth 100000 in
set_option maxHeartbeats 1000000 in
theorem small_any (ds : List Dg) (lv : Value) (w : World) (hn : ds.length ≤ 3) (hpos : 0 < ds.length) (hrd : Rd w lv 3 ds.length (ds.flatMap Dg.cells)) (hin : ∀ d ∈ ds, d.Has w) :
    Calls Try.prog 11 #[lv] w fun e w' => e = .returned (.bool (smallB ds)) ∧ Keep NoF w w' := by
  have hrd1 := hrd
  obtain ⟨_, A, c, rfl, _, _⟩ := hrd1
  have HIN := Lib.hid hin
  clear hin
  go_enter Try.func11, Try.ntmps11
  go_wp2
  go_loopw [7] (fun i wr => ∃ k : Nat, i = .int .i64 k ∧ k ≤ ds.length ∧ smallB (ds.take k) = true ∧ Keep NoF w wr) (fun i _ => ds.length - (intOf i).toNat)
  case atStart => exact ⟨0, rfl, by omega, rfl, Keep.refl _ _⟩
  case round =>
    obtain ⟨k, rfl, hk, hsm, hkr⟩ := hrel
    have HSM := Lib.hid hsm
    clear hsm
    by_cases hlt : k < ds.length
    · have hdk : ds[k]? = some ds[k] := List.getElem?_eq_getElem hlt
      obtain ⟨hh, hhl⟩ := HIN.out _ (List.getElem_mem hlt)
      obtain ⟨_, _, bl, off, rfl, hcell⟩ := (hrd.kept hkr fun _ _ h => h).at_ hpos
      obtain ⟨c1, c2, c3⟩ := dgs_at ds k _ hdk
      have d1 := hcell _ _ c1
      have d2 := hcell _ _ c2
      have d3 := hcell _ _ c3
      simp only [← Nat.add_assoc] at d2 d3
      have htk : smallB (ds.take (k + 1)) = (smallB (ds.take k) && decide (ds[k].R.length ≤ 60)) := by
        unfold smallB
        rw [List.take_succ_eq_append_getElem hlt, List.all_append]
        simp only [List.all_cons, List.all_nil, Bool.and_true]
      have hall : smallB ds = true → decide (ds[k].R.length ≤ 60) = true := fun h => by
        unfold smallB at h
        exact List.all_eq_true.1 h _ (List.getElem_mem hlt)
      have HTK := Lib.hid htk
      have HALL := Lib.hid hall
      clear hdk c1 c2 c3 hcell htk hall
      generalize ds[k] = d at *
      obtain ⟨dV, dR, droot, dsl⟩ := d
      simp only at d1 d2 d3 hh hhl
      obtain ⟨_, A2, cc2, rfl, _, _⟩ := hh
      have HF := Lib.hid fun (W : World) => few_any dV droot A2 dR.length cc2 hhl W
      simp only at HTK HALL
      generalize decide (dR.length ≤ 60) = b at *
      cases b
      · go_wp2_with (go_at_call 51; (with_reducible refine (HF.out _).mono ?_); rintro e w1 ⟨rfl, hk1⟩)
        go_ret
        have hf : smallB ds = false := by
          cases h : smallB ds with
          | false => rfl
          | true => have := HALL.out h; cases this
        exact ⟨by rw [hf]; rfl, (hkr.alloc _).trans hk1 fun _ _ h => h⟩
      · go_wp2_with (go_at_call 51; (with_reducible refine (HF.out _).mono ?_); rintro e w1 ⟨rfl, hk1⟩)
        go_roundw
        case rel => exact ⟨k + 1, by go_num, by omega, by rw [HTK.out, HSM.out]; rfl, (hkr.alloc _).trans hk1 fun _ _ h => h⟩
        case measure => simp [intOf]; omega
    · go_wp2
      go_ret
      have hke : k = ds.length := by omega
      have := HSM.out
      rw [hke, List.take_length] at this
      exact ⟨by rw [this]; rfl, hkr⟩
end Go.Proofs.Ytengdldkkmknpaa
