/- Package formula: what slices.Equal at lists of nodes and Same do. No condition. -/
import Derived.Test.YtbidfbojealmlaaGreatDoorFmK
import Derived.BigQuiet
import Derived.Deep.QuietTactic
set_option linter.unusedVariables false
set_option linter.unusedSimpArgs false
namespace Go.Proofs.YtbidfbojealmlaaGreatDoor
open Go.RowKit
open Fm (Nd checkE compactL cl tr)

theorem nd_stood : Tryz.prog.stoodInHeld 49 = false := by kernel_rfl
theorem nd_guard : Tryz.prog.eqGuardType Tryz.prog.depth 49 = false := by kernel_rfl
set_option maxHeartbeats 2000000 in
theorem run_nd_neq (a b : Nd) (w : World) : (binOp .neq 49 (ndV a) (ndV b)).run Tryz.prog w = .ok (.bool (!decide (a = b))) w := by
  have hp := nd_stood
  obtain ⟨a1, a2, a3, a4, a5, a6⟩ := a
  obtain ⟨b1, b2, b3, b4, b5, b6⟩ := b
  have hd : decide ((⟨a1, a2, a3, a4, a5, a6⟩ : Nd) = ⟨b1, b2, b3, b4, b5, b6⟩) = (a1 == b1 && (a2 == b2 && (a3 == b3 && (a4 == b4 && (a5 == b5 && a6 == b6))))) := by
    rw [Bool.eq_iff_iff]
    simp
  rw [hd]
  clear hd
  cases e1 : a1 == b1 <;> cases e2 : a2 == b2 <;> cases e3 : a3 == b3 <;> cases e4 : a4 == b4 <;> cases e5 : a5 == b5 <;> cases e6 : a6 == b6 <;> simp [go_sem, hp, e1, e2, e3, e4, e5, e6]
def ndAt (l : List Nd) (k : Nat) : Nd := l.getD k default
theorem ndAt_eq {l : List Nd} {k : Nat} (h : k < l.length) : l[k]? = some (ndAt l k) := by
  unfold ndAt
  rw [List.getD_eq_getElem?_getD, List.getElem?_eq_getElem h]
  rfl
theorem nd_ext (R S : List Nd) (hl : R.length = S.length) (h : ∀ j, j < R.length → ndAt R j = ndAt S j) : R = S := by
  apply List.ext_getElem? 
  intro i
  by_cases hi : i < R.length
  · rw [ndAt_eq hi, ndAt_eq (by omega), h i hi]
  · rw [List.getElem?_eq_none (by omega), List.getElem?_eq_none (by omega)]

set_option maxRecDepth 100000 in
set_option maxHeartbeats 1000000 in
theorem fmEqual_any (R S : List Nd) (A B : Option Addr) (c d : Nat) (w : World) (h1 : Rd w (.slice A R.length c) 6 R.length (fmC R)) (h2 : Rd w (.slice B S.length d) 6 S.length (fmC S)) (hR : R.length ≤ 1000000000000) (hS : S.length ≤ 1000000000000) :
    Calls Tryz.prog 46 #[.slice A R.length c, .slice B S.length d] w fun e w' => e = .returned (.bool (decide (R = S))) ∧ Keep NoF w w' := by
  by_cases hl : R.length = S.length
  · have e0 : ((R.length : Int) != (S.length : Int)) = false := by simp; omega
    have HL := Lib.hid hl
    have hle : R.length ≤ S.length := by omega
    clear hl
    go_enter Tryz.func46, Tryz.ntmps46
    go_wp2
    go_loopw [5, 13] (fun _ i wr => ∃ k : Nat, i = .int .i64 k ∧ k ≤ R.length ∧ Hid (∀ j, j < k → ndAt R j = ndAt S j) ∧ Keep NoF w wr) (fun _ i _ => R.length - (intOf i).toNat)
    case atStart => exact ⟨0, rfl, by omega, Lib.hid fun j hj => by omega, Keep.refl _ _⟩
    case round =>
      obtain ⟨k, rfl, hk, hp, hkw⟩ := hrel
      by_cases hlt : k < R.length
      · obtain ⟨bl, off, rfl, _, hc1, x0, x1, x2, x3, x4, x5⟩ := (h1.kept hkw fun _ _ h => h).nd (ndAt_eq hlt)
        obtain ⟨bm, ofg, rfl, _, hc2, y0, y1, y2, y3, y4, y5⟩ := (h2.kept hkw fun _ _ h => h).nd (ndAt_eq (l := S) (k := k) (by omega))
        have b1 : (0 : Int) ≤ (k : Int) := by omega
        have b2 : (k : Int) < (R.length : Int) := by omega
        have b3 : (k : Int) < (S.length : Int) := by omega
        generalize hr : ndAt R k = r at *
        generalize hs : ndAt S k = s at *
        have HR := Lib.hid hr
        have HS := Lib.hid hs
        clear hr hs
        have hsd := nd_guard
        have hneq := run_nd_neq r s
        generalize hdd : decide (r = s) = dd at *
        have HDD := Lib.hid hdd
        clear hdd
        obtain ⟨r1, r2, r3, r4, r5, r6⟩ := r
        obtain ⟨s1, s2, s3, s4, s5, s6⟩ := s
        simp only [ndV] at x0 x1 x2 x3 x4 x5 y0 y1 y2 y3 y4 y5 hneq
        go_wp2
        go_quiet (fail)
        cases dd
        · go_wp2
          go_ret
          have hne : decide (R = S) = false := by
            rw [decide_eq_false_iff_not]
            intro h
            have h1 := HDD.out
            rw [decide_eq_false_iff_not] at h1
            exact h1 (HR.out.symm.trans ((congrArg (ndAt · k) h).trans HS.out))
          rw [hne]
          exact ⟨rfl, hkw.drewN _⟩
        · go_wp2
          go_roundw
          case rel =>
            refine ⟨k + 1, by go_num, by omega, Lib.hid fun j hj => ?_, hkw.drewN _⟩
            by_cases hjk : j = k
            · rw [hjk, HR.out, HS.out]
              exact of_decide_eq_true HDD.out
            · exact hp.out j (by omega)
          case measure => simp [intOf]; omega
      · go_wp2
        go_ret
        have he : decide (R = S) = true := decide_eq_true (nd_ext R S HL.out fun j hj => hp.out j (by omega))
        rw [he]
        exact ⟨rfl, hkw⟩
  · have e0 : ((R.length : Int) != (S.length : Int)) = true := by simp; omega
    have e1 : decide (R = S) = false := by simp; exact fun h => hl (by rw [h])
    rw [e1]
    go_enter Tryz.func46, Tryz.ntmps46
    go_wp2
    go_ret
    exact ⟨rfl, Keep.refl _ _⟩
/-- Whether two lists are the same formula. -/
def sameB (a b : List Nd) : Bool := decide (checkE a = 0) && (decide (checkE b = 0) && decide (compactL a = compactL b))
set_option maxRecDepth 100000 in
set_option maxHeartbeats 1000000 in
theorem fmSame_any (R S : List Nd) (A B : Option Addr) (c d : Nat) (w : World) (h1 : Rd w (.slice A R.length c) 6 R.length (fmC R)) (h2 : Rd w (.slice B S.length d) 6 S.length (fmC S)) (hR : R.length ≤ 9223372036854775807) (hS : S.length ≤ 9223372036854775807) :
    Calls Tryz.prog 24 #[.slice A R.length c, .slice B S.length d] w fun e w' => e = .returned (.bool (sameB R S)) ∧ Keep NoF w w' := by
  have H1 := Lib.hid (fmCheck_any R A c w hR h1)
  have H2 := Lib.hid fun W (hk : Keep NoF w W) => fmCheck_any S B d W hS (h2.kept hk fun _ _ h => h)
  have H3 := Lib.hid fun W (hk : Keep NoF w W) => Compact_any R A c W hR (h1.kept hk fun _ _ h => h)
  have H4 := Lib.hid fun W (hk : Keep NoF w W) => Compact_any S B d W hS (h2.kept hk fun _ _ h => h)
  unfold sameB
  by_cases e1 : checkE R = 0
  · by_cases e2 : checkE S = 0
    · have l1 := Fm.compactL_len e1
      have l2 := Fm.compactL_len e2
      rw [e1] at H1
      rw [e2] at H2
      rw [decide_eq_true e1, decide_eq_true e2]
      have H5 : Hid (∀ W A' c' B' d', Rd W (.slice A' (compactL R).length c') 6 (compactL R).length (fmC (compactL R)) → Rd W (.slice B' (compactL S).length d') 6 (compactL S).length (fmC (compactL S)) →
        Calls Tryz.prog 46 #[.slice A' (compactL R).length c', .slice B' (compactL S).length d'] W fun e w' => e = .returned (.bool (decide (compactL R = compactL S))) ∧ Keep NoF W w') := Lib.hid fun W A' c' B' d' r1 r2 => fmEqual_any _ _ A' B' c' d' W r1 r2 (by omega) (by omega)
      generalize compactL R = C at *
      generalize compactL S = D at *
      generalize decide (C = D) = b at *
      clear e1 e2 h1 h2
      generalize R.length = rl at *
      generalize S.length = sl at *
      go_enter Tryz.func24, Tryz.ntmps24
      go_wp2_with (first
        | (go_at_call 46; (with_reducible refine (H5.out _ _ _ _ _ (R3.kept K4 fun _ _ h => h) R4).mono ?_); rintro e w6 ⟨rfl, K6⟩)
        | (go_at_call 21; (with_reducible refine H1.out.mono ?_); rintro e w2 ⟨rfl, K1⟩)
        | (go_at_call 21; (with_reducible refine (H2.out _ K1).mono ?_); rintro e w3 ⟨rfl, K2⟩; have K12 := K1.trans K2 fun _ _ h => h)
        | (go_at_call 16; (with_reducible refine (H3.out _ K12).mono ?_); rintro e w4 ⟨A3, c3, rfl, R3, K3, F3⟩; have K13 := K12.trans K3 fun _ _ h => h)
        | (go_at_call 16; (with_reducible refine (H4.out _ K13).mono ?_); rintro e w5 ⟨A4, c4, rfl, R4, K4, F4⟩; have K14 := K13.trans K4 fun _ _ h => h))
      go_ret
      exact ⟨rfl, K14.trans K6 fun _ _ h => h⟩
    · have hne : (checkE S == 0) = false := by simpa using e2
      rw [e1] at H1
      rw [decide_eq_true e1, decide_eq_false e2]
      generalize checkE S = cs at *
      clear e1 e2 h1 h2 H3 H4
      generalize R.length = rl at *
      generalize S.length = sl at *
      go_enter Tryz.func24, Tryz.ntmps24
      go_wp2_with (first
        | (go_at_call 21; (with_reducible refine H1.out.mono ?_); rintro e w2 ⟨rfl, K1⟩)
        | (go_at_call 21; (with_reducible refine (H2.out _ K1).mono ?_); rintro e w3 ⟨rfl, K2⟩; have K12 := K1.trans K2 fun _ _ h => h))
      go_ret
      exact ⟨rfl, K12⟩
  · have hne : (checkE R == 0) = false := by simpa using e1
    rw [decide_eq_false e1]
    generalize checkE R = cr at *
    clear e1 h1 h2 H2 H3 H4
    generalize R.length = rl at *
    generalize S.length = sl at *
    go_enter Tryz.func24, Tryz.ntmps24
    go_wp2_with (first
      | (go_at_call 21; (with_reducible refine H1.out.mono ?_); rintro e w2 ⟨rfl, K1⟩))
    go_ret
    exact ⟨rfl, K1⟩
end Go.Proofs.YtbidfbojealmlaaGreatDoor
