/- What the reference's Same does. No condition. -/
import Derived.Test.YtgdmcidcappkpaaDoorWrap
import Derived.Test.YtgdmcidcappkpaaDoorExp
import Derived.Test.YtgdmcidcappkpaaDoorRst
set_option linter.unusedVariables false
set_option linter.unusedSimpArgs false
namespace Go.Proofs.YtgdmcidcappkpaaDoor
open Go.RowKit
open Dd (Rn rat ofN toN)

def sameD (a b : Dg) : Bool := decide (a.V = b.V ∧ a.root = b.root ∧ a.R = b.R)

set_option maxRecDepth 100000 in
set_option maxHeartbeats 1000000 in
theorem Same_any (a b : Dg) (w : World) (ha : a.In w) (hb : b.In w) : Calls Tryd.prog 42 #[a.val, b.val] w fun e w' => e = .returned (.bool (sameD a b)) ∧ Keep NoF w w' := by
  have ha1 := ha.1
  have hb1 := hb.1
  have hla := ha.2
  have hlb := hb.2
  have hsm : sameD a b = decide (a.V = b.V ∧ a.root = b.root ∧ a.R = b.R) := rfl
  obtain ⟨V1, R, r1, s1⟩ := a
  obtain ⟨V2, S, r2, s2⟩ := b
  simp only at ha1 hb1 hla hlb hsm
  have ha2 := ha1
  have hb2 := hb1
  obtain ⟨_, A, c, rfl, hc1, _⟩ := ha2
  obtain ⟨_, B, d, rfl, hc2, _⟩ := hb2
  show Calls Tryd.prog 42 #[.agg #[.int .i64 V1, .slice A R.length c, .int .i64 r1], .agg #[.int .i64 V2, .slice B S.length d, .int .i64 r2]] w _
  clear ha hb
  generalize sameD ⟨V1, R, r1, .slice A R.length c⟩ ⟨V2, S, r2, .slice B S.length d⟩ = sm at *
  have HSM := Lib.hid hsm
  clear hsm
  have hk0 : Keep NoF w ((w.alloc (.cells #[.int .i64 V1, .slice A R.length c, .int .i64 r1] 26)).alloc (.cells #[.int .i64 V2, .slice B S.length d, .int .i64 r2] 26)) := ((Keep.refl _ _).alloc _).alloc _
  by_cases q1 : V1 = V2
  · by_cases q2 : r1 = r2
    · by_cases hl : R.length = S.length
      · have e0 : (V1 != V2) = false := by simp [q1]
        have e1 : (r1 != r2) = false := by simp [q2]
        have e2 : ((R.length : Int) != (S.length : Int)) = false := by simp; omega
        have HL := Lib.hid hl
        have HQ := Lib.hid (And.intro q1 q2)
        have hle : R.length ≤ S.length := by omega
        clear hl q1 q2
        have hA : Bk ((w.alloc (.cells #[.int .i64 V1, .slice A R.length c, .int .i64 r1] 26)).alloc (.cells #[.int .i64 V2, .slice B S.length d, .int .i64 r2] 26)) w.heap.size 26 #[.int .i64 V1, .slice A R.length c, .int .i64 r1] := (Bk.new' _ _ _ (by simp)).alloc _
        have hB : Bk ((w.alloc (.cells #[.int .i64 V1, .slice A R.length c, .int .i64 r1] 26)).alloc (.cells #[.int .i64 V2, .slice B S.length d, .int .i64 r2] 26)) (w.heap.size + 1) 26 #[.int .i64 V2, .slice B S.length d, .int .i64 r2] := Bk.new' _ _ _ (by simp)
        go_enter Tryd.func42, Tryd.ntmps42
        go_wp2
        generalize (w.alloc (.cells #[.int .i64 V1, .slice A R.length c, .int .i64 r1] 26)).alloc (.cells #[.int .i64 V2, .slice B S.length d, .int .i64 r2] 26) = W0 at *
        go_loopw [5, 30] (fun _ i wr => ∃ k : Nat, i = .int .i64 k ∧ k ≤ R.length ∧ (∀ j, j < k → rat R j = rat S j) ∧ Keep NoF W0 wr) (fun _ i _ => R.length - (intOf i).toNat)
        case atStart => exact ⟨0, rfl, by omega, fun j hj => by omega, Keep.refl _ _⟩
        case round =>
          obtain ⟨k, rfl, hk, hp, hkw⟩ := hrel
          by_cases hlt : k < R.length
          · obtain ⟨bl, off, rfl, x1, x2, x3⟩ := ((ha1.kept hk0 fun _ _ h => h).kept hkw fun _ _ h => h).node hlt
            obtain ⟨bm, ofg, rfl, y1, y2, y3⟩ := ((hb1.kept hk0 fun _ _ h => h).kept hkw fun _ _ h => h).node (k := k) (by omega)
            have z1 : wr.cell? ⟨w.heap.size, 1, none⟩ = some (.slice (some ⟨bl, off, none⟩) R.length c) := (hA.keep hkw (fun h => h)).cell 1
            have z2 : wr.cell? ⟨w.heap.size + 1, 1, none⟩ = some (.slice (some ⟨bm, ofg, none⟩) S.length d) := (hB.keep hkw (fun h => h)).cell 1
            have b1 : (0 : Int) ≤ (k : Int) := by omega
            have b2 : (k : Int) < (R.length : Int) := by omega
            have b3 : (k : Int) < (S.length : Int) := by omega
            generalize hr : rat R k = r at *
            generalize hs : rat S k = s at *
            have HR := Lib.hid hr
            have HS := Lib.hid hs
            clear hr hs
            obtain ⟨a1, a2, a3⟩ := r
            obtain ⟨c1, c2, c3⟩ := s
            simp only at x1 x2 x3 y1 y2 y3
            have hsd := nd_guard
            have hneq := run_nd_neq a1 a2 a3 c1 c2 c3
            generalize hdd : decide (((a1, a2, a3) : Rn) = (c1, c2, c3)) = dd at *
            have HDD := Lib.hid hdd
            clear hdd
            go_wp2
            go_quiet (fail)
            cases dd
            · go_wp2
              go_ret
              have hne : sm = false := by
                rw [HSM.out, decide_eq_false_iff_not]
                intro h
                have h1 := HDD.out
                rw [decide_eq_false_iff_not] at h1
                exact h1 (HR.out.symm.trans ((congrArg (rat · k) h.2.2).trans HS.out))
              rw [hne]
              exact ⟨rfl, (hk0.trans hkw fun _ _ h => h).drewN _⟩
            · go_wp2
              go_roundw
              case rel =>
                refine ⟨k + 1, by go_num, by omega, fun j hj => ?_, hkw.drewN _⟩
                by_cases hjk : j = k
                · rw [hjk, HR.out, HS.out]
                  exact of_decide_eq_true HDD.out
                · exact hp j (by omega)
              case measure => simp [intOf]; omega
          · go_wp2
            go_ret
            have he : sm = true := by rw [HSM.out]; exact decide_eq_true ⟨HQ.out.1, HQ.out.2, eq_prefix R S HL.out fun j hj => hp j (by omega)⟩
            rw [he]
            exact ⟨rfl, hk0.trans hkw fun _ _ h => h⟩
      · have e0 : (V1 != V2) = false := by simp [q1]
        have e1 : (r1 != r2) = false := by simp [q2]
        have e2 : ((R.length : Int) != (S.length : Int)) = true := by simp; omega
        have hf : sm = false := by rw [HSM.out, decide_eq_false_iff_not]; exact fun h => hl (by rw [h.2.2])
        subst hf
        clear q1 q2 HSM
        go_enter Tryd.func42, Tryd.ntmps42
        go_wp2
        go_ret
        exact ⟨rfl, hk0⟩
    · have e0 : (V1 != V2) = false := by simp [q1]
      have e1 : (r1 != r2) = true := by simpa using q2
      have hf : sm = false := by rw [HSM.out, decide_eq_false_iff_not]; exact fun h => q2 h.2.1
      subst hf
      clear q1 q2 HSM
      go_enter Tryd.func42, Tryd.ntmps42
      go_wp2
      go_ret
      exact ⟨rfl, hk0⟩
  · have e0 : (V1 != V2) = true := by simpa using q1
    have hf : sm = false := by rw [HSM.out, decide_eq_false_iff_not]; exact fun h => q1 h.1
    subst hf
    clear q1 HSM
    go_enter Tryd.func42, Tryd.ntmps42
    go_wp2
    go_ret
    exact ⟨rfl, hk0⟩
end Go.Proofs.YtgdmcidcappkpaaDoor
