/- What slices.Equal does at lists of nodes. No condition. -/
import Derived.Test.YtengdldkkmknpaaExportB
import Derived.Test.YtengdldkkmknpaaLaw
set_option linter.unusedVariables false
set_option linter.unusedSimpArgs false
namespace Go.Proofs.Ytengdldkkmknpaa
open Go.RowKit
open Dd (Rn rat ofN)

def rnC (n : Rn) : List Value := [.int .i64 n.1, .int .i64 n.2.1, .int .i64 n.2.2]
def rnsC (R : List Rn) : List Value := R.flatMap rnC
theorem rnsC_ofN (N : List Nd) : rnsC (ofN N) = ndsC N := by
  unfold rnsC ofN ndsC
  rw [List.flatMap_map]
  rfl
theorem rnsC_at (R : List Rn) (i : Nat) (n : Rn) (h : R[i]? = some n) : (rnsC R)[i * 3]? = some (.int .i64 n.1) ∧ (rnsC R)[i * 3 + 1]? = some (.int .i64 n.2.1) ∧ (rnsC R)[i * 3 + 2]? = some (.int .i64 n.2.2) := by
  induction R generalizing i with
  | nil => simp at h
  | cons m R ih =>
    cases i with
    | zero =>
      simp at h
      subst h
      simp [rnsC, rnC]
    | succ i =>
      have := ih i (by simpa using h)
      have e : ∀ j, (rnsC (m :: R))[(i + 1) * 3 + j]? = (rnsC R)[i * 3 + j]? := fun j => by
        simp only [rnsC, List.flatMap_cons]
        rw [List.getElem?_append_right (by simp [rnC]; omega)]
        congr 1
        simp [rnC]; omega
      have e0 := e 0
      simp only [Nat.add_zero] at e0
      rw [e0, e, e]
      exact this
/-- The cells of element k of a slice of nodes that came in. -/
theorem Rd.node {w : World} {A : Option Addr} {m c : Nat} {R : List Rn} (h : Rd w (.slice A m c) 3 R.length (rnsC R)) {k : Nat} (hk : k < R.length) :
    ∃ bl off, A = some ⟨bl, off, none⟩ ∧ w.cell? ⟨bl, off + k * 3, none⟩ = some (.int .i64 (rat R k).1) ∧ w.cell? ⟨bl, off + k * 3 + 1, none⟩ = some (.int .i64 (rat R k).2.1) ∧ w.cell? ⟨bl, off + k * 3 + 2, none⟩ = some (.int .i64 (rat R k).2.2) := by
  obtain ⟨_, _, bl, off, rfl, hc⟩ := h.at_ (by omega)
  have hat : R[k]? = some (rat R k) := by simp [rat, List.getD_eq_getElem?_getD, List.getElem?_eq_getElem hk]
  obtain ⟨c1, c2, c3⟩ := rnsC_at R k _ hat
  have d1 := hc _ _ c1
  have d2 := hc _ _ c2
  have d3 := hc _ _ c3
  simp only [← Nat.add_assoc] at d2 d3
  exact ⟨bl, off, rfl, d1, d2, d3⟩

theorem nd_stood : Try.prog.stoodInHeld 63 = false := by kernel_rfl
theorem nd_guard : Try.prog.eqGuardType Try.prog.depth 63 = false := by kernel_rfl

theorem run_nd_neq (a1 a2 a3 b1 b2 b3 : Int) (w : World) : (binOp .neq 63 (.agg #[.int .i64 a1, .int .i64 a2, .int .i64 a3]) (.agg #[.int .i64 b1, .int .i64 b2, .int .i64 b3])).run Try.prog w =
    .ok (.bool (!decide (((a1, a2, a3) : Rn) = (b1, b2, b3)))) w := by
  have hp := nd_stood
  cases e1 : a1 == b1 <;> cases e2 : a2 == b2 <;> cases e3 : a3 == b3 <;> simp [go_sem, hp, e1, e2, e3] <;> simp_all
theorem run_nd_eql (a1 a2 a3 b1 b2 b3 : Int) (w : World) : (binOp .eql 63 (.agg #[.int .i64 a1, .int .i64 a2, .int .i64 a3]) (.agg #[.int .i64 b1, .int .i64 b2, .int .i64 b3])).run Try.prog w =
    .ok (.bool (decide (((a1, a2, a3) : Rn) = (b1, b2, b3)))) w := by
  have hp := nd_stood
  cases e1 : a1 == b1 <;> cases e2 : a2 == b2 <;> cases e3 : a3 == b3 <;> simp [go_sem, hp, e1, e2, e3] <;> simp_all

theorem eq_prefix (R S : List Rn) (hl : R.length = S.length) (h : ∀ j, j < R.length → rat R j = rat S j) : R = S := by
  apply List.ext_getElem hl
  intro i h1 h2
  have := h i h1
  simpa [rat, List.getD_eq_getElem?_getD, List.getElem?_eq_getElem h1, List.getElem?_eq_getElem h2] using this

set_option maxRecDepth 100000 in
set_option maxHeartbeats 1000000 in
theorem slEq_any (R S : List Rn) (s1 s2 : Value) (w : World) (h1 : Rd w s1 3 R.length (rnsC R)) (h2 : Rd w s2 3 S.length (rnsC S)) (hR : R.length ≤ 1000000000000) (hS : S.length ≤ 1000000000000) :
    Calls Try.prog 52 #[s1, s2] w fun e w' => e = .returned (.bool (decide (R = S))) ∧ Keep NoF w w' := by
  have h1' := h1
  have h2' := h2
  obtain ⟨_, A, c, rfl, hc1, _⟩ := h1'
  obtain ⟨_, B, d, rfl, hc2, _⟩ := h2'
  by_cases hl : R.length = S.length
  · have e0 : ((R.length : Int) != (S.length : Int)) = false := by simp; omega
    have HL := Lib.hid hl
    have hle : R.length ≤ S.length := by omega
    clear hl
    go_enter Try.func52, Try.ntmps52
    go_wp2
    go_loopw [5, 13] (fun _ i wr => ∃ k : Nat, i = .int .i64 k ∧ k ≤ R.length ∧ (∀ j, j < k → rat R j = rat S j) ∧ Keep NoF w wr) (fun _ i _ => R.length - (intOf i).toNat)
    case atStart => exact ⟨0, rfl, by omega, fun j hj => by omega, Keep.refl _ _⟩
    case round =>
      obtain ⟨k, rfl, hk, hp, hkw⟩ := hrel
      by_cases hlt : k < R.length
      · obtain ⟨bl, off, rfl, x1, x2, x3⟩ := (h1.kept hkw fun _ _ h => h).node hlt
        obtain ⟨bm, ofg, rfl, y1, y2, y3⟩ := (h2.kept hkw fun _ _ h => h).node (k := k) (by omega)
        have b1 : (0 : Int) ≤ (k : Int) := by omega
        have b2 : (k : Int) < (R.length : Int) := by omega
        have b3 : (k : Int) < (S.length : Int) := by omega
        generalize hr : rat R k = r at *
        generalize hs : rat S k = s at *
        have HR := Lib.hid hr
        have HS := Lib.hid hs
        clear hr hs
        obtain ⟨r1, r2, r3⟩ := r
        obtain ⟨s1, s2, s3⟩ := s
        simp only at x1 x2 x3 y1 y2 y3
        have hsd := nd_guard
        have hneq := run_nd_neq r1 r2 r3 s1 s2 s3
        generalize hdd : decide (((r1, r2, r3) : Rn) = (s1, s2, s3)) = dd at *
        have HDD := Lib.hid hdd
        clear hdd
        go_wp2
        go_quiet (fail)
        cases dd
        · go_wp2
          go_ret
          have hne : decide (R = S) = false := by
            rw [decide_eq_false_iff_not]
            intro h
            have h1 := HDD.out
            rw [decide_eq_false_iff_not] at h1
            exact h1 (HR.out.symm.trans ((congrArg (rat · k) h).trans HS.out))
          rw [hne]
          exact ⟨rfl, hkw.drewN _⟩
        · go_wp2
          go_roundw
          case rel =>
            refine ⟨k + 1, by go_num, by omega, fun j hj => ?_, hkw.drewN _⟩
            by_cases hjk : j = k
            · rw [hjk, HR.out, HS.out]
              exact of_decide_eq_true HDD.out
            · exact hp j (by omega)
          case measure => simp [intOf]; omega
      · go_wp2
        go_ret
        have he : decide (R = S) = true := decide_eq_true (eq_prefix R S HL.out fun j hj => hp j (by omega))
        rw [he]
        exact ⟨rfl, hkw⟩
  · have e0 : ((R.length : Int) != (S.length : Int)) = true := by simp; omega
    have e1 : decide (R = S) = false := by simp; exact fun h => hl (by rw [h])
    rw [e1]
    go_enter Try.func52, Try.ntmps52
    go_wp2
    go_ret
    exact ⟨rfl, Keep.refl _ _⟩
end Go.Proofs.Ytengdldkkmknpaa
