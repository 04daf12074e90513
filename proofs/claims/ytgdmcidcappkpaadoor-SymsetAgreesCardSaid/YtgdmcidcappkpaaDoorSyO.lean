/- Fixed points: the program's same, fixpoint, Reach and Paths. Conditions: a fixed point is met after some number of steps. -/
import Derived.Test.YtgdmcidcappkpaaDoorSyN
import Derived.Deep.LoopGhost
set_option linter.unusedVariables false
set_option linter.unusedSimpArgs false
namespace Go.Proofs.YtgdmcidcappkpaaDoor
open Go.RowKit
open Dd (Rn rat ofN toN checkErr den lo var Within Valid supp canon imF prF boF setF relF imN boN)

def iterN (σ : Nat → Nat) : Nat → Nat → Nat
  | 0, S => S
  | j + 1, S => σ (iterN σ j S)
theorem iterN_end {σ : Nat → Nat} {S j m : Nat} (hj : σ (iterN σ j S) = iterN σ j S) (h : j ≤ m) : iterN σ m S = iterN σ j S := by
  obtain ⟨d, rfl⟩ : ∃ d, m = j + d := ⟨m - j, by omega⟩
  clear h
  induction d with
  | zero => rfl
  | succ d ih => rw [show j + (d + 1) = (j + d) + 1 by omega, iterN, ih, hj]
theorem setF_noOdd (k S : Nat) : NoOdd (setF k S 0) := fun v hv ρ b => by
  unfold setF
  congr 1
  exact Dd.enc_congr fun i _ => Dd.upd_ne _ _ (by omega)
section
set_option maxRecDepth 100000
set_option maxHeartbeats 4000000
theorem same_ok {f g : BF} {V : Nat} (s : Bool) (hs : s = true ↔ ∀ ρ, f ρ = g ρ) (A1 : Option Addr) (n1 c1 r1 : Nat) (A2 : Option Addr) (n2 c2 r2 : Nat) (w : World) (D1 : IsD w V f A1 n1 c1 r1) (D2 : IsD w V g A2 n2 c2 r2) : Calls Tryd.prog 55 #[.agg #[.int .i64 V, .slice A1 n1 c1, .int .i64 r1], .agg #[.int .i64 V, .slice A2 n2 c2, .int .i64 r2]] w fun e w' => e = .returned (.bool s) ∧ Keep NoF w w' := by
  obtain ⟨M1, rfl, h1, v1, m1⟩ := D1
  obtain ⟨M2, rfl, h2, v2, m2⟩ := D2
  have ev : ((V : Int) == (V : Int)) = true := by simp
  have hkk : Keep NoF w ((w.alloc (.cells #[.int .i64 V, .slice A1 M1.length c1, .int .i64 r1] 26)).alloc (.cells #[.int .i64 V, .slice A2 M2.length c2, .int .i64 r2] 26)) := ((Keep.refl NoF w).alloc _).alloc _
  by_cases hr : r1 = r2
  · have hb : s = decide (ofN M1 = ofN M2) := by
      rw [Bool.eq_iff_iff, hs, decide_eq_true_iff]
      constructor
      · intro h
        rw [(Dd.valid_eq v1 v2 fun ρ => by rw [m1, m2, h]).2]
      · intro h ρ
        have hM : M1 = M2 := by have := congrArg toN h; rwa [Dd.toN_ofN, Dd.toN_ofN] at this
        rw [← m1, ← m2, hM, hr]
    subst hr
    have HE := Lib.hid (slEq_any (ofN M1) (ofN M2) (.slice A1 M1.length c1) (.slice A2 M2.length c2) ((w.alloc (.cells #[.int .i64 V, .slice A1 M1.length c1, .int .i64 r1] 26)).alloc (.cells #[.int .i64 V, .slice A2 M2.length c2, .int .i64 r1] 26))
      (by rw [rnsC_ofN, Dd.ofN_len]; exact h1.kept hkk fun _ _ h => h) (by rw [rnsC_ofN, Dd.ofN_len]; exact h2.kept hkk fun _ _ h => h) (by rw [Dd.ofN_len]; have := v1.len; omega) (by rw [Dd.ofN_len]; have := v2.len; omega))
    rw [← hb] at HE
    have er : ((r1 : Int) == (r1 : Int)) = true := by simp
    clear hb hs h1 h2 m1 m2 v1 v2
    go_enter Tryd.func55, Tryd.ntmps55
    go_wp2_with (go_at_call 74; (with_reducible refine HE.out.mono ?_); rintro e w' ⟨rfl, hk⟩)
    go_ret
    exact ⟨rfl, hkk.trans hk fun _ _ h => h⟩
  · have hb : s = false := by
      cases s with
      | false => rfl
      | true => exact absurd (Dd.valid_eq v1 v2 fun ρ => by rw [m1, m2, hs.1 rfl]).1 hr
    subst hb
    have er : ((r1 : Int) == (r2 : Int)) = false := by rw [beq_eq_false_iff_ne]; omega
    clear hs h1 h2 m1 m2 v1 v2 hr
    go_enter Tryd.func55, Tryd.ntmps55
    go_wp2
    go_ret
    exact ⟨rfl, hkk⟩
theorem fixpoint_ok (k m S0 : Nat) (σ : Nat → Nat) (F : Nat) (cap : Array Value) (hcf : ∀ args w', (callFunc F args).run Tryd.prog w' = .ok (.enter F args) w') (V : Nat) (hV : V = 2 * k) (hk : k ≤ 6)
    (hb : ∀ j, iterN σ j S0 < 2 ^ 2 ^ k) (hf : σ (iterN σ m S0) = iterN σ m S0) (A1 : Option Addr) (n1 c1 r1 : Nat) (w : World) (D1 : IsD w V (setF k S0 0) A1 n1 c1 r1)
    (hs : ∀ S, S < 2 ^ 2 ^ k → ∀ (W : World) (A : Option Addr) (n c r : Nat), Keep NoF w W → IsD W V (setF k S 0) A n c r → Calls Tryd.prog F (#[.agg #[.int .i64 V, .slice A n c, .int .i64 r]] ++ cap) W (DP W V (setF k (σ S) 0))) :
    Calls Tryd.prog 29 #[.agg #[.int .i64 V, .slice A1 n1 c1, .int .i64 r1], .func (.func F) #[] cap] w (DP w V (setF k (iterN σ m S0) 0)) := by
  have HS := Lib.hid hs
  have HB := Lib.hid hb
  have HF := Lib.hid hf
  clear hs hb hf hV hk
  go_enter Tryd.func29, Tryd.ntmps29
  go_upto_region 1 with (fail)
  have Bd := Bk.new w 26 #[.int .i64 V, .slice A1 n1 c1, .int .i64 r1]
  have Bd := (Bd.alloc (.cells #[.int .i64 0, .slice none 0 0, .int .i64 0] 26))
  have Bres := Bk.new (w.alloc (.cells #[.int .i64 V, .slice A1 n1 c1, .int .i64 r1] 26)) 26 #[.int .i64 0, .slice none 0 0, .int .i64 0]
  simp only [World.size_alloc, Nat.add_assoc, Nat.reduceAdd] at Bres
  have Kw : Keep NoF w ((w.alloc (.cells #[.int .i64 V, .slice A1 n1 c1, .int .i64 r1] 26)).alloc (.cells #[.int .i64 0, .slice none 0 0, .int .i64 0] 26)) := (((Keep.refl NoF w).alloc _).alloc _)
  have Qd := D1.keep Kw
  generalize ((w.alloc (.cells #[.int .i64 V, .slice A1 n1 c1, .int .i64 r1] 26)).alloc (.cells #[.int .i64 0, .slice none 0 0, .int .i64 0] 26)) = W0 at *
  go_wp2
  go_loopg [] (m + 1) (fun gk wr => ∃ (j : Nat) (A : Option Addr) (n c r : Nat), j + gk = m + 1 ∧ 0 < gk ∧ Bk wr w.heap.size 26 #[.int .i64 V, .slice A n c, .int .i64 r] ∧ IsD wr V (setF k (iterN σ j S0) 0) A n c r ∧ Bk wr (w.heap.size + 1) 26 #[.int .i64 0, .slice none 0 0, .int .i64 0] ∧ Keep NoF w wr)
  case atStart => exact ⟨0, _, _, _, _, by omega, by omega, Bd, Qd, Bres, Kw⟩
  case round =>
    clear Bd Qd Bres Kw
    obtain ⟨j, A2, n2, c2, r2, hj, hgk, Bd, Qd, Bres, Kw⟩ := hrel
    have HC := Lib.hid (HS.out _ (HB.out j) wr A2 n2 c2 r2 Kw Qd)
    generalize hS : iterN σ j S0 = S at *
    have HSJ := Lib.hid hS
    have HSB : Hid (S < 2 ^ 2 ^ k ∧ σ S < 2 ^ 2 ^ k) := Lib.hid ⟨by rw [← hS]; exact HB.out j, by rw [← hS]; exact HB.out (j + 1)⟩
    clear hS
    have cd0 : wr.cell? ⟨w.heap.size, 0, none⟩ = some (.int .i64 V) := Bd.cell 0
    have cd1 : wr.cell? ⟨w.heap.size, 1, none⟩ = some (.slice A2 n2 c2) := Bd.cell 1
    have cd2 : wr.cell? ⟨w.heap.size, 2, none⟩ = some (.int .i64 r2) := Bd.cell 2
    go_upto_region 4 with ((with_reducible refine (HC.out).mono ?_)
                           rintro e w3 ⟨A3, n3, c3, r3, rfl, D3, K3⟩
                           have Bdn := Bd.keep K3 fun h => h
                           have Ldn := Bdn.lt
                           have Bresn := Bres.keep K3 fun h => h
                           have Lresn := Bresn.lt)
    clear cd0 cd1 cd2
    have Bd_1 := Bdn.alloc (.cells #[.int .i64 V, .slice A3 n3 c3, .int .i64 r3] 26)
    have Bres_1 := Bresn.alloc (.cells #[.int .i64 V, .slice A3 n3 c3, .int .i64 r3] 26)
    have Qd_1 := (Qd.keep K3).keep ((Keep.refl NoF w3).alloc (.cells #[.int .i64 V, .slice A3 n3 c3, .int .i64 r3] 26))
    have Bn_1 := Bk.new w3 26 #[.int .i64 V, .slice A3 n3 c3, .int .i64 r3]
    have Qn_1 := D3.keep ((Keep.refl NoF w3).alloc (.cells #[.int .i64 V, .slice A3 n3 c3, .int .i64 r3] 26))
    have Kw_1 : Keep NoF w (w3.alloc (.cells #[.int .i64 V, .slice A3 n3 c3, .int .i64 r3] 26)) := (Kw.trans K3 fun _ _ h => h).alloc _
    generalize w3.alloc (.cells #[.int .i64 V, .slice A3 n3 c3, .int .i64 r3] 26) = W1 at *
    clear Bd Bres Qd Kw D3 K3 Bdn Bresn
    have HSM := Lib.hid (same_ok (decide (σ S = S)) (by
      rw [decide_eq_true_iff]
      exact ⟨fun h ρ => by rw [h], fun h => Dd.setF_eq HSB.out.2 HSB.out.1 h⟩) _ _ _ _ _ _ _ _ W1 Qn_1 Qd_1)
    have cd0 : W1.cell? ⟨w.heap.size, 0, none⟩ = some (.int .i64 V) := Bd_1.cell 0
    have cd1 : W1.cell? ⟨w.heap.size, 1, none⟩ = some (.slice A2 n2 c2) := Bd_1.cell 1
    have cd2 : W1.cell? ⟨w.heap.size, 2, none⟩ = some (.int .i64 r2) := Bd_1.cell 2
    have cn0 : W1.cell? ⟨w3.heap.size, 0, none⟩ = some (.int .i64 V) := Bn_1.cell 0
    have cn1 : W1.cell? ⟨w3.heap.size, 1, none⟩ = some (.slice A3 n3 c3) := Bn_1.cell 1
    have cn2 : W1.cell? ⟨w3.heap.size, 2, none⟩ = some (.int .i64 r3) := Bn_1.cell 2
    by_cases hst : σ S = S
    · rw [decide_eq_true hst] at HSM
      go_wp2_with (go_at_call 55
                   (with_reducible refine HSM.out.mono ?_)
                   rintro e w4 ⟨rfl, K4⟩
                   have Bd2 := Bd_1.keep K4 fun h => h
                   have Br2 := Bres_1.keep K4 fun h => h
                   have Bn2 := Bn_1.keep K4 fun h => h
                   have L0 := Bd2.lt
                   have L1 := Br2.lt
                   have L2 := Bn2.lt
                   have e0 : w4.cell? ⟨w.heap.size, 0, none⟩ = some (.int .i64 V) := Bd2.cell 0
                   have e1 : w4.cell? ⟨w.heap.size, 1, none⟩ = some (.slice A2 n2 c2) := Bd2.cell 1
                   have e2 : w4.cell? ⟨w.heap.size, 2, none⟩ = some (.int .i64 r2) := Bd2.cell 2
                   have ef0 := Bd2.frozen 0
                   have ef1 := Bd2.frozen 1
                   have ef2 := Bd2.frozen 2
                   have g0 : w4.cell? ⟨w3.heap.size, 0, none⟩ = some (.int .i64 V) := Bn2.cell 0
                   have g1 : w4.cell? ⟨w3.heap.size, 1, none⟩ = some (.slice A3 n3 c3) := Bn2.cell 1
                   have g2 : w4.cell? ⟨w3.heap.size, 2, none⟩ = some (.int .i64 r3) := Bn2.cell 2
                   have y0 : w4.cell? ⟨w.heap.size + 1, 0, none⟩ = some (.int .i64 0) := Br2.cell 0
                   have y1 : w4.cell? ⟨w.heap.size + 1, 1, none⟩ = some (.slice none 0 0) := Br2.cell 1
                   have y2 : w4.cell? ⟨w.heap.size + 1, 2, none⟩ = some (.int .i64 0) := Br2.cell 2
                   have yf0 := Br2.frozen 0
                   have yf1 := Br2.frozen 1
                   have yf2 := Br2.frozen 2)
      obtain ⟨s1, s2, S3⟩ := set3_box Br2 sl_nint (Qd_1.keep K4)
      have hKf : Keep NoF w (((w4.setCell ⟨w.heap.size + 1, 0, none⟩ (.int .i64 V)).setCell ⟨w.heap.size + 1, 1, none⟩ (.slice A2 n2 c2)).setCell ⟨w.heap.size + 1, 2, none⟩ (.int .i64 r2)) := (Kw_1.trans K4 fun _ _ h => h).trans S3 fun i hi h => by omega
      generalize (((w4.setCell ⟨w.heap.size + 1, 0, none⟩ (.int .i64 V)).setCell ⟨w.heap.size + 1, 1, none⟩ (.slice A2 n2 c2)).setCell ⟨w.heap.size + 1, 2, none⟩ (.int .i64 r2)) = W6 at *
      have h0 : W6.cell? ⟨w.heap.size + 1, 0, none⟩ = some (.int .i64 V) := s1.cell 0
      have h1 : W6.cell? ⟨w.heap.size + 1, 1, none⟩ = some (.slice A2 n2 c2) := s1.cell 1
      have h2 : W6.cell? ⟨w.heap.size + 1, 2, none⟩ = some (.int .i64 r2) := s1.cell 2
      refine bodyPost_ret (v := .tuple #[.agg #[.int .i64 V, .slice A2 n2 c2, .int .i64 r2], .int .i64 0]) (by simp [results, Tryd.results29, go_sem, h0, h1, h2]) rfl ?_
      have hfin : iterN σ m S0 = S := by rw [← HSJ.out]; exact iterN_end (by rw [HSJ.out]; exact hst) (by omega)
      rw [hfin]
      exact ⟨A2, n2, c2, r2, rfl, s2, hKf⟩
    · rw [decide_eq_false hst] at HSM
      have hjm : j < m := by
        refine Nat.lt_of_not_le fun h => hst ?_
        obtain rfl : j = m := by omega
        rw [← HSJ.out]
        exact HF.out
      have HST := Lib.hid hst
      clear hst
      go_wp2_with (go_at_call 55
                   (with_reducible refine HSM.out.mono ?_)
                   rintro e w4 ⟨rfl, K4⟩
                   have Bd2 := Bd_1.keep K4 fun h => h
                   have Br2 := Bres_1.keep K4 fun h => h
                   have Bn2 := Bn_1.keep K4 fun h => h
                   have L0 := Bd2.lt
                   have L1 := Br2.lt
                   have L2 := Bn2.lt
                   have e0 : w4.cell? ⟨w.heap.size, 0, none⟩ = some (.int .i64 V) := Bd2.cell 0
                   have e1 : w4.cell? ⟨w.heap.size, 1, none⟩ = some (.slice A2 n2 c2) := Bd2.cell 1
                   have e2 : w4.cell? ⟨w.heap.size, 2, none⟩ = some (.int .i64 r2) := Bd2.cell 2
                   have ef0 := Bd2.frozen 0
                   have ef1 := Bd2.frozen 1
                   have ef2 := Bd2.frozen 2
                   have g0 : w4.cell? ⟨w3.heap.size, 0, none⟩ = some (.int .i64 V) := Bn2.cell 0
                   have g1 : w4.cell? ⟨w3.heap.size, 1, none⟩ = some (.slice A3 n3 c3) := Bn2.cell 1
                   have g2 : w4.cell? ⟨w3.heap.size, 2, none⟩ = some (.int .i64 r3) := Bn2.cell 2
                   have y0 : w4.cell? ⟨w.heap.size + 1, 0, none⟩ = some (.int .i64 0) := Br2.cell 0
                   have y1 : w4.cell? ⟨w.heap.size + 1, 1, none⟩ = some (.slice none 0 0) := Br2.cell 1
                   have y2 : w4.cell? ⟨w.heap.size + 1, 2, none⟩ = some (.int .i64 0) := Br2.cell 2
                   have yf0 := Br2.frozen 0
                   have yf1 := Br2.frozen 1
                   have yf2 := Br2.frozen 2)
      go_roundg (m - j)
      case rel =>
        obtain ⟨s1, s2, S3⟩ := set3_box Bd2 sl_nint (Qn_1.keep K4)
        exact ⟨j + 1, A3, n3, c3, r3, by omega, by omega, s1, by rw [iterN, HSJ.out]; exact s2, Br2.keep S3 fun h => by omega, (Kw_1.trans K4 fun _ _ h => h).trans S3 fun i hi h => by omega⟩
      case measure => omega
end
end Go.Proofs.YtgdmcidcappkpaaDoor
