/- Reachable states, and states from which all paths lead to a set: the program's Reach and Paths on valid operands. Conditions: a fixed point is met after some number of steps. -/
import Derived.Test.YtgdmcidcappkpaaDoorSyO
set_option linter.unusedVariables false
set_option linter.unusedSimpArgs false
namespace Go.Proofs.YtgdmcidcappkpaaDoor
open Go.RowKit
open Dd (Rn rat ofN toN checkErr den lo var Within Valid supp canon imF prF boF setF relF imN boN enc)

theorem setF_or (k S T : Nat) (ρ : Nat → Bool) : setF k (S ||| T) 0 ρ = (setF k S 0 ρ || setF k T 0 ρ) := by unfold setF; rw [Nat.testBit_or]
theorem setF_and (k S T : Nat) (ρ : Nat → Bool) : setF k (S &&& T) 0 ρ = (setF k S 0 ρ && setF k T 0 ρ) := by unfold setF; rw [Nat.testBit_and]
/-- The other states; all states. -/
def coN (k C : Nat) : Nat := enc (2 ^ k) fun v => !C.testBit v
def alN (k : Nat) : Nat := enc (2 ^ k) fun _ => true
theorem setF_co (k C : Nat) (ρ : Nat → Bool) : setF k (coN k C) 0 ρ = !setF k C 0 ρ := by
  unfold setF coN
  rw [Dd.enc_bit, decide_eq_true (Dd.cod_lt k 0 ρ), Bool.true_and]
theorem setF_al (k : Nat) (ρ : Nat → Bool) : setF k (alN k) 0 ρ = true := by
  unfold setF alN
  rw [Dd.enc_bit, decide_eq_true (Dd.cod_lt k 0 ρ), Bool.true_and]
/-- One step of Reach, of Paths. -/
def reS (k : Nat) (R : List Nat) (S : Nat) : Nat := S ||| imN k R S
def paS (k : Nat) (R : List Nat) (C T S : Nat) : Nat := boN k R (coN k C ||| (T &&& S))
theorem imN_lt (k : Nat) (R : List Nat) (S : Nat) : imN k R S < 2 ^ 2 ^ k := Dd.enc_lt _ _
theorem boN_lt (k : Nat) (R : List Nat) (S : Nat) : boN k R S < 2 ^ 2 ^ k := Dd.enc_lt _ _
theorem re_lt (k : Nat) (R : List Nat) (S0 : Nat) (h : S0 < 2 ^ 2 ^ k) : ∀ j, iterN (reS k R) j S0 < 2 ^ 2 ^ k
  | 0 => h
  | j + 1 => Nat.or_lt_two_pow (re_lt k R S0 h j) (imN_lt k R _)
theorem pa_lt (k : Nat) (R : List Nat) (C T S0 : Nat) (h : S0 < 2 ^ 2 ^ k) : ∀ j, iterN (paS k R C T) j S0 < 2 ^ 2 ^ k
  | 0 => h
  | j + 1 => boN_lt k R _
theorem cf_Reach1 : ∀ (args : Array Value) w', (callFunc 48 args).run Tryd.prog w' = .ok (.enter 48 args) w' := by intro args w'; kernel_rfl
theorem cf_Paths1 : ∀ (args : Array Value) w', (callFunc 30 args).run Tryd.prog w' = .ok (.enter 30 args) w' := by intro args w'; kernel_rfl
section
set_option maxRecDepth 100000
set_option maxHeartbeats 4000000
theorem Reach1_ok (k : Nat) (hk : k ≤ 6) (R : List Nat) (S V : Nat) (hVk : V = 2 * k) (A1 : Option Addr) (n1 c1 r1 : Nat) (A2 : Option Addr) (n2 c2 r2 : Nat) (rb : Nat) (w : World) (Br0 : Bk w rb 26 #[.int .i64 V, .slice A1 n1 c1, .int .i64 r1]) (D1 : IsD w V (relF k R) A1 n1 c1 r1) (D2 : IsD w V (setF k S 0) A2 n2 c2 r2) :
    Calls Tryd.prog 48 #[.agg #[.int .i64 V, .slice A2 n2 c2, .int .i64 r2], .pointer (some ⟨rb, 0, none⟩)] w (DP w V (setF k (reS k R S) 0)) := by
  have hV : V ≤ 12 := by omega
  have he : V % 2 = 0 := by omega
  have HVK := Lib.hid hVk
  clear hVk
  go_enter Tryd.func48, Tryd.ntmps48
  go_upto_region 1 with (fail)
  have Bd := Bk.new w 26 #[.int .i64 V, .slice A2 n2 c2, .int .i64 r2]
  have Bd := (Bd.alloc (.cells #[.int .i64 0, .slice none 0 0, .int .i64 0] 26))
  have Bres := Bk.new (w.alloc (.cells #[.int .i64 V, .slice A2 n2 c2, .int .i64 r2] 26)) 26 #[.int .i64 0, .slice none 0 0, .int .i64 0]
  simp only [World.size_alloc, Nat.add_assoc, Nat.reduceAdd] at Bres
  have Kw : Keep NoF w ((w.alloc (.cells #[.int .i64 V, .slice A2 n2 c2, .int .i64 r2] 26)).alloc (.cells #[.int .i64 0, .slice none 0 0, .int .i64 0] 26)) := (((Keep.refl NoF w).alloc _).alloc _)
  have Qd := D2.keep Kw
  generalize ((w.alloc (.cells #[.int .i64 V, .slice A2 n2 c2, .int .i64 r2] 26)).alloc (.cells #[.int .i64 0, .slice none 0 0, .int .i64 0] 26)) = W0 at *
  have Lr := Br0.lt
  have Br := Br0.keep Kw fun h => h
  have Qr := D1.keep Kw
  have HI := Lib.hid (image_any hV he _ _ _ _ _ _ _ _ _ Qr Qd)
  have cd0 : W0.cell? ⟨w.heap.size, 0, none⟩ = some (.int .i64 V) := Bd.cell 0
  have cd1 : W0.cell? ⟨w.heap.size, 1, none⟩ = some (.slice A2 n2 c2) := Bd.cell 1
  have cd2 : W0.cell? ⟨w.heap.size, 2, none⟩ = some (.int .i64 r2) := Bd.cell 2
  have cr0 : W0.cell? ⟨rb, 0, none⟩ = some (.int .i64 V) := Br.cell 0
  have cr1 : W0.cell? ⟨rb, 1, none⟩ = some (.slice A1 n1 c1) := Br.cell 1
  have cr2 : W0.cell? ⟨rb, 2, none⟩ = some (.int .i64 r1) := Br.cell 2
  go_upto_region 4 with (go_at_call 47
                         (with_reducible refine (HI.out).mono ?_)
                         rintro e w3 ⟨A3, n3, c3, r3, rfl, D3, K3⟩
                         have Bdn := Bd.keep K3 fun h => h
                         have Ldn := Bdn.lt
                         have Bresn := Bres.keep K3 fun h => h
                         have Lresn := Bresn.lt
                         have Brn := Br.keep K3 fun h => h
                         have Lrn := Brn.lt)
  clear cd0 cd1 cd2 cr0 cr1 cr2
  have Bd_1 := Bdn.alloc (.cells #[.int .i64 V, .slice A3 n3 c3, .int .i64 r3] 26)
  have Qd_1 := (Qd.keep K3).keep ((Keep.refl NoF w3).alloc (.cells #[.int .i64 V, .slice A3 n3 c3, .int .i64 r3] 26))
  have Bres_1 := Bresn.alloc (.cells #[.int .i64 V, .slice A3 n3 c3, .int .i64 r3] 26)
  have Br_1 := Brn.alloc (.cells #[.int .i64 V, .slice A3 n3 c3, .int .i64 r3] 26)
  have Qr_1 := (Qr.keep K3).keep ((Keep.refl NoF w3).alloc (.cells #[.int .i64 V, .slice A3 n3 c3, .int .i64 r3] 26))
  have Bx_1 := Bk.new w3 26 #[.int .i64 V, .slice A3 n3 c3, .int .i64 r3]
  have Qx_1 := D3.keep ((Keep.refl NoF w3).alloc (.cells #[.int .i64 V, .slice A3 n3 c3, .int .i64 r3] 26))
  have Kw_1 : Keep NoF w (w3.alloc (.cells #[.int .i64 V, .slice A3 n3 c3, .int .i64 r3] 26)) := (Kw.trans K3 fun _ _ h => h).alloc _
  generalize w3.alloc (.cells #[.int .i64 V, .slice A3 n3 c3, .int .i64 r3] 26) = W1 at *
  clear Bd Bres Br Qd Qr Bdn Bresn Brn Kw D3 K3
  have HO := Lib.hid (x_or hV Qd_1 Qx_1)
  have cd0 : W1.cell? ⟨w.heap.size, 0, none⟩ = some (.int .i64 V) := Bd_1.cell 0
  have cd1 : W1.cell? ⟨w.heap.size, 1, none⟩ = some (.slice A2 n2 c2) := Bd_1.cell 1
  have cd2 : W1.cell? ⟨w.heap.size, 2, none⟩ = some (.int .i64 r2) := Bd_1.cell 2
  have cr0 : W1.cell? ⟨rb, 0, none⟩ = some (.int .i64 V) := Br_1.cell 0
  have cr1 : W1.cell? ⟨rb, 1, none⟩ = some (.slice A1 n1 c1) := Br_1.cell 1
  have cr2 : W1.cell? ⟨rb, 2, none⟩ = some (.int .i64 r1) := Br_1.cell 2
  have cx0 : W1.cell? ⟨w3.heap.size, 0, none⟩ = some (.int .i64 V) := Bx_1.cell 0
  have cx1 : W1.cell? ⟨w3.heap.size, 1, none⟩ = some (.slice A3 n3 c3) := Bx_1.cell 1
  have cx2 : W1.cell? ⟨w3.heap.size, 2, none⟩ = some (.int .i64 r3) := Bx_1.cell 2
  go_wp2_with (go_at_call 32
               (with_reducible refine (HO.out).mono ?_)
               rintro e w4 ⟨A4, n4, c4, r4, rfl, D4, K4⟩
               have Bdn := Bd_1.keep K4 fun h => h
               have Ldn := Bdn.lt
               have Bresn := Bres_1.keep K4 fun h => h
               have Lresn := Bresn.lt
               have Brn := Br_1.keep K4 fun h => h
               have Lrn := Brn.lt
               have Bxn := Bx_1.keep K4 fun h => h
               have Lxn := Bxn.lt
               have y0 : w4.cell? ⟨w.heap.size + 1, 0, none⟩ = some (.int .i64 0) := Bresn.cell 0
               have y1 : w4.cell? ⟨w.heap.size + 1, 1, none⟩ = some (.slice none 0 0) := Bresn.cell 1
               have y2 : w4.cell? ⟨w.heap.size + 1, 2, none⟩ = some (.int .i64 0) := Bresn.cell 2
               have yf0 := Bresn.frozen 0
               have yf1 := Bresn.frozen 1
               have yf2 := Bresn.frozen 2)
  clear cd0 cd1 cd2 cr0 cr1 cr2 cx0 cx1 cx2
  obtain ⟨Bres_2, Qres_2, S3⟩ := set3_box Bresn sl_nint D4
  have Bd_2 := Bdn.keep S3 fun h => by omega
  have Qd_2 := (Qd_1.keep K4).far_box Bresn sl_nint S3
  have Br_2 := Brn.keep S3 fun h => by omega
  have Qr_2 := (Qr_1.keep K4).far_box Bresn sl_nint S3
  have Bx_2 := Bxn.keep S3 fun h => by omega
  have Qx_2 := (Qx_1.keep K4).far_box Bresn sl_nint S3
  have Kw_2 : Keep NoF w (((w4.setCell ⟨w.heap.size + 1, 0, none⟩ (.int .i64 V)).setCell ⟨w.heap.size + 1, 1, none⟩ (.slice A4 n4 c4)).setCell ⟨w.heap.size + 1, 2, none⟩ (.int .i64 r4)) := (Kw_1.trans K4 fun _ _ h => h).trans S3 fun i hi h => by omega
  generalize (((w4.setCell ⟨w.heap.size + 1, 0, none⟩ (.int .i64 V)).setCell ⟨w.heap.size + 1, 1, none⟩ (.slice A4 n4 c4)).setCell ⟨w.heap.size + 1, 2, none⟩ (.int .i64 r4)) = W2 at *
  clear Bd_1 Bres_1 Br_1 Bx_1 Qd_1 Qr_1 Qx_1 Bdn Bresn Brn Bxn Kw_1 D4 K4 S3 y0 y1 y2 yf0 yf1 yf2
  have h0 : W2.cell? ⟨w.heap.size + 1, 0, none⟩ = some (.int .i64 V) := Bres_2.cell 0
  have h1 : W2.cell? ⟨w.heap.size + 1, 1, none⟩ = some (.slice A4 n4 c4) := Bres_2.cell 1
  have h2 : W2.cell? ⟨w.heap.size + 1, 2, none⟩ = some (.int .i64 r4) := Bres_2.cell 2
  refine bodyPost_ret (v := .tuple #[.agg #[.int .i64 V, .slice A4 n4 c4, .int .i64 r4], .int .i64 0]) (by simp [results, Tryd.results48, go_sem, h0, h1, h2]) rfl ?_
  exact ⟨A4, n4, c4, r4, rfl, Qres_2.congr fun ρ => by rw [reS, setF_or, HVK.out, Dd.im_law], Kw_2⟩
theorem Reach_ok (k : Nat) (hk : k ≤ 6) (R : List Nat) (S V m : Nat) (hVk : V = 2 * k) (hf : reS k R (iterN (reS k R) m (imN k R S)) = iterN (reS k R) m (imN k R S)) (A1 : Option Addr) (n1 c1 r1 : Nat) (A2 : Option Addr) (n2 c2 r2 : Nat) (w : World) (D1 : IsD w V (relF k R) A1 n1 c1 r1) (D2 : IsD w V (setF k S 0) A2 n2 c2 r2) :
    Calls Tryd.prog 20 #[.agg #[.int .i64 V, .slice A1 n1 c1, .int .i64 r1], .agg #[.int .i64 V, .slice A2 n2 c2, .int .i64 r2]] w (DP w V (setF k (iterN (reS k R) m (imN k R S)) 0)) := by
  have hV : V ≤ 12 := by omega
  have he : V % 2 = 0 := by omega
  have HVK := Lib.hid hVk
  have HFH := Lib.hid hf
  clear hVk hf
  go_enter Tryd.func20, Tryd.ntmps20
  go_upto_region 1 with (fail)
  have Br := Bk.new w 26 #[.int .i64 V, .slice A1 n1 c1, .int .i64 r1]
  have Br := ((Br.alloc (.cells #[.int .i64 V, .slice A2 n2 c2, .int .i64 r2] 26)).alloc (.cells #[.int .i64 0, .slice none 0 0, .int .i64 0] 26))
  have Bs := Bk.new (w.alloc (.cells #[.int .i64 V, .slice A1 n1 c1, .int .i64 r1] 26)) 26 #[.int .i64 V, .slice A2 n2 c2, .int .i64 r2]
  simp only [World.size_alloc, Nat.add_assoc, Nat.reduceAdd] at Bs
  have Bs := (Bs.alloc (.cells #[.int .i64 0, .slice none 0 0, .int .i64 0] 26))
  have Bres := Bk.new ((w.alloc (.cells #[.int .i64 V, .slice A1 n1 c1, .int .i64 r1] 26)).alloc (.cells #[.int .i64 V, .slice A2 n2 c2, .int .i64 r2] 26)) 26 #[.int .i64 0, .slice none 0 0, .int .i64 0]
  simp only [World.size_alloc, Nat.add_assoc, Nat.reduceAdd] at Bres
  have Kw : Keep NoF w (((w.alloc (.cells #[.int .i64 V, .slice A1 n1 c1, .int .i64 r1] 26)).alloc (.cells #[.int .i64 V, .slice A2 n2 c2, .int .i64 r2] 26)).alloc (.cells #[.int .i64 0, .slice none 0 0, .int .i64 0] 26)) := ((((Keep.refl NoF w).alloc _).alloc _).alloc _)
  have Qr := D1.keep Kw
  have Qs := D2.keep Kw
  generalize (((w.alloc (.cells #[.int .i64 V, .slice A1 n1 c1, .int .i64 r1] 26)).alloc (.cells #[.int .i64 V, .slice A2 n2 c2, .int .i64 r2] 26)).alloc (.cells #[.int .i64 0, .slice none 0 0, .int .i64 0] 26)) = W0 at *
  have HB := Lib.hid (both1 he (setF_noOdd k S) _ _ _ _ _ _ _ _ _ Qr Qs)
  have cr0 : W0.cell? ⟨w.heap.size, 0, none⟩ = some (.int .i64 V) := Br.cell 0
  have cr1 : W0.cell? ⟨w.heap.size, 1, none⟩ = some (.slice A1 n1 c1) := Br.cell 1
  have cr2 : W0.cell? ⟨w.heap.size, 2, none⟩ = some (.int .i64 r1) := Br.cell 2
  have cs0 : W0.cell? ⟨w.heap.size + 1, 0, none⟩ = some (.int .i64 V) := Bs.cell 0
  have cs1 : W0.cell? ⟨w.heap.size + 1, 1, none⟩ = some (.slice A2 n2 c2) := Bs.cell 1
  have cs2 : W0.cell? ⟨w.heap.size + 1, 2, none⟩ = some (.int .i64 r2) := Bs.cell 2
  go_upto_region 4 with (go_at_call 26
                         (with_reducible refine (HB.out).mono ?_)
                         rintro e wz ⟨rfl, KZ⟩
                         have KZ2 : Keep NoF W0 wz := ((Keep.refl NoF _).alloc _).trans KZ fun _ _ h => h
                         have Brn := Br.keep KZ2 fun h => h
                         have Bsn := Bs.keep KZ2 fun h => h
                         have Bresn := Bres.keep KZ2 fun h => h)
  clear cr0 cr1 cr2 cs0 cs1 cs2
  have Br_1 := Brn
  have Qr_1 := Qr.keep KZ2
  have Bs_1 := Bsn
  have Qs_1 := Qs.keep KZ2
  have Bres_1 := Bresn
  have Kw_1 := Kw.trans KZ2 fun _ _ h => h
  clear Kw KZ KZ2 Brn Br Qr Bsn Bs Qs Bresn Bres
  have HI := Lib.hid (image_any hV he _ _ _ _ _ _ _ _ _ Qr_1 Qs_1)
  have cr0 : wz.cell? ⟨w.heap.size, 0, none⟩ = some (.int .i64 V) := Br_1.cell 0
  have cr1 : wz.cell? ⟨w.heap.size, 1, none⟩ = some (.slice A1 n1 c1) := Br_1.cell 1
  have cr2 : wz.cell? ⟨w.heap.size, 2, none⟩ = some (.int .i64 r1) := Br_1.cell 2
  have cs0 : wz.cell? ⟨w.heap.size + 1, 0, none⟩ = some (.int .i64 V) := Bs_1.cell 0
  have cs1 : wz.cell? ⟨w.heap.size + 1, 1, none⟩ = some (.slice A2 n2 c2) := Bs_1.cell 1
  have cs2 : wz.cell? ⟨w.heap.size + 1, 2, none⟩ = some (.int .i64 r2) := Bs_1.cell 2
  go_upto_region 7 with (go_at_call 47
                         (with_reducible refine (HI.out).mono ?_)
                         rintro e w3 ⟨A3, n3, c3, r3, rfl, D3, K3⟩
                         have Brn := Br_1.keep K3 fun h => h
                         have Lrn := Brn.lt
                         have Bsn := Bs_1.keep K3 fun h => h
                         have Lsn := Bsn.lt
                         have Bresn := Bres_1.keep K3 fun h => h
                         have Lresn := Bresn.lt)
  clear cr0 cr1 cr2 cs0 cs1 cs2
  have Br_2 := Brn.alloc (.cells #[.int .i64 V, .slice A3 n3 c3, .int .i64 r3] 26)
  have Qr_2 := (Qr_1.keep K3).keep ((Keep.refl NoF w3).alloc (.cells #[.int .i64 V, .slice A3 n3 c3, .int .i64 r3] 26))
  have Bs_2 := Bsn.alloc (.cells #[.int .i64 V, .slice A3 n3 c3, .int .i64 r3] 26)
  have Qs_2 := (Qs_1.keep K3).keep ((Keep.refl NoF w3).alloc (.cells #[.int .i64 V, .slice A3 n3 c3, .int .i64 r3] 26))
  have Bres_2 := Bresn.alloc (.cells #[.int .i64 V, .slice A3 n3 c3, .int .i64 r3] 26)
  have Bd_2 := Bk.new w3 26 #[.int .i64 V, .slice A3 n3 c3, .int .i64 r3]
  have Qd_2 := D3.keep ((Keep.refl NoF w3).alloc (.cells #[.int .i64 V, .slice A3 n3 c3, .int .i64 r3] 26))
  have Kw_2 : Keep NoF w (w3.alloc (.cells #[.int .i64 V, .slice A3 n3 c3, .int .i64 r3] 26)) := (Kw_1.trans K3 fun _ _ h => h).alloc _
  generalize w3.alloc (.cells #[.int .i64 V, .slice A3 n3 c3, .int .i64 r3] 26) = W2 at *
  clear Br_1 Bs_1 Bres_1 Qr_1 Qs_1 Brn Bsn Bresn Kw_1 D3 K3
  have D3s := Qd_2.congr (g := setF k (imN k R S) 0) fun ρ => by rw [HVK.out, Dd.im_law]
  have HFX := Lib.hid (fixpoint_ok k m (imN k R S) (reS k R) 48 #[.pointer (some ⟨w.heap.size, 0, none⟩)] cf_Reach1 V HVK.out hk (re_lt k R _ (imN_lt k R S)) HFH.out _ _ _ _ W2 D3s fun S' _ W A n c r hK hD => Reach1_ok k hk R S' V HVK.out A1 n1 c1 r1 A n c r w.heap.size W (Br_2.keep hK fun h => h) (Qr_2.keep hK) hD)
  clear D3s
  have cd0 : W2.cell? ⟨w3.heap.size, 0, none⟩ = some (.int .i64 V) := Bd_2.cell 0
  have cd1 : W2.cell? ⟨w3.heap.size, 1, none⟩ = some (.slice A3 n3 c3) := Bd_2.cell 1
  have cd2 : W2.cell? ⟨w3.heap.size, 2, none⟩ = some (.int .i64 r3) := Bd_2.cell 2
  go_wp2_with (go_at_call 29
               (with_reducible refine (HFX.out).mono ?_)
               rintro e w4 ⟨A4, n4, c4, r4, rfl, D4, K4⟩
               have Brn := Br_2.keep K4 fun h => h
               have Lrn := Brn.lt
               have Bsn := Bs_2.keep K4 fun h => h
               have Lsn := Bsn.lt
               have Bresn := Bres_2.keep K4 fun h => h
               have Lresn := Bresn.lt
               have Bdn := Bd_2.keep K4 fun h => h
               have Ldn := Bdn.lt
               have y0 : w4.cell? ⟨w.heap.size + 2, 0, none⟩ = some (.int .i64 0) := Bresn.cell 0
               have y1 : w4.cell? ⟨w.heap.size + 2, 1, none⟩ = some (.slice none 0 0) := Bresn.cell 1
               have y2 : w4.cell? ⟨w.heap.size + 2, 2, none⟩ = some (.int .i64 0) := Bresn.cell 2
               have yf0 := Bresn.frozen 0
               have yf1 := Bresn.frozen 1
               have yf2 := Bresn.frozen 2)
  clear cd0 cd1 cd2
  obtain ⟨Bres_3, Qres_3, S3⟩ := set3_box Bresn sl_nint D4
  have Br_3 := Brn.keep S3 fun h => by omega
  have Qr_3 := (Qr_2.keep K4).far_box Bresn sl_nint S3
  have Bs_3 := Bsn.keep S3 fun h => by omega
  have Qs_3 := (Qs_2.keep K4).far_box Bresn sl_nint S3
  have Bd_3 := Bdn.keep S3 fun h => by omega
  have Qd_3 := (Qd_2.keep K4).far_box Bresn sl_nint S3
  have Kw_3 : Keep NoF w (((w4.setCell ⟨w.heap.size + 2, 0, none⟩ (.int .i64 V)).setCell ⟨w.heap.size + 2, 1, none⟩ (.slice A4 n4 c4)).setCell ⟨w.heap.size + 2, 2, none⟩ (.int .i64 r4)) := (Kw_2.trans K4 fun _ _ h => h).trans S3 fun i hi h => by omega
  generalize (((w4.setCell ⟨w.heap.size + 2, 0, none⟩ (.int .i64 V)).setCell ⟨w.heap.size + 2, 1, none⟩ (.slice A4 n4 c4)).setCell ⟨w.heap.size + 2, 2, none⟩ (.int .i64 r4)) = W3 at *
  clear Br_2 Bs_2 Bres_2 Bd_2 Qr_2 Qs_2 Qd_2 Brn Bsn Bresn Bdn Kw_2 D4 K4 S3 y0 y1 y2 yf0 yf1 yf2
  have h0 : W3.cell? ⟨w.heap.size + 2, 0, none⟩ = some (.int .i64 V) := Bres_3.cell 0
  have h1 : W3.cell? ⟨w.heap.size + 2, 1, none⟩ = some (.slice A4 n4 c4) := Bres_3.cell 1
  have h2 : W3.cell? ⟨w.heap.size + 2, 2, none⟩ = some (.int .i64 r4) := Bres_3.cell 2
  refine bodyPost_ret (v := .tuple #[.agg #[.int .i64 V, .slice A4 n4 c4, .int .i64 r4], .int .i64 0]) (by simp [results, Tryd.results20, go_sem, h0, h1, h2]) rfl ?_
  exact ⟨A4, n4, c4, r4, rfl, Qres_3, Kw_3⟩
theorem Paths1_ok (k : Nat) (hk : k ≤ 6) (R : List Nat) (C T S V : Nat) (hVk : V = 2 * k) (A1 : Option Addr) (n1 c1 r1 : Nat) (A2 : Option Addr) (n2 c2 r2 : Nat) (A3 : Option Addr) (n3 c3 r3 : Nat) (A4 : Option Addr) (n4 c4 r4 : Nat) (rb ob sb : Nat) (w : World) (Br0 : Bk w rb 26 #[.int .i64 V, .slice A1 n1 c1, .int .i64 r1]) (Bo0 : Bk w ob 26 #[.int .i64 V, .slice A2 n2 c2, .int .i64 r2]) (Bs0 : Bk w sb 26 #[.int .i64 V, .slice A3 n3 c3, .int .i64 r3]) (D1 : IsD w V (relF k R) A1 n1 c1 r1) (D2 : IsD w V (fun ρ => !setF k C 0 ρ) A2 n2 c2 r2) (D3 : IsD w V (setF k T 0) A3 n3 c3 r3) (D4 : IsD w V (setF k S 0) A4 n4 c4 r4) :
    Calls Tryd.prog 30 #[.agg #[.int .i64 V, .slice A4 n4 c4, .int .i64 r4], .pointer (some ⟨sb, 0, none⟩), .pointer (some ⟨ob, 0, none⟩), .pointer (some ⟨rb, 0, none⟩)] w (DP w V (setF k (paS k R C T S) 0)) := by
  have hV : V ≤ 12 := by omega
  have he : V % 2 = 0 := by omega
  have HVK := Lib.hid hVk
  clear hVk
  go_enter Tryd.func30, Tryd.ntmps30
  go_upto_region 1 with (fail)
  have Bd := Bk.new w 26 #[.int .i64 V, .slice A4 n4 c4, .int .i64 r4]
  have Bd := (Bd.alloc (.cells #[.int .i64 0, .slice none 0 0, .int .i64 0] 26))
  have Bres := Bk.new (w.alloc (.cells #[.int .i64 V, .slice A4 n4 c4, .int .i64 r4] 26)) 26 #[.int .i64 0, .slice none 0 0, .int .i64 0]
  simp only [World.size_alloc, Nat.add_assoc, Nat.reduceAdd] at Bres
  have Kw : Keep NoF w ((w.alloc (.cells #[.int .i64 V, .slice A4 n4 c4, .int .i64 r4] 26)).alloc (.cells #[.int .i64 0, .slice none 0 0, .int .i64 0] 26)) := (((Keep.refl NoF w).alloc _).alloc _)
  have Qd := D4.keep Kw
  generalize ((w.alloc (.cells #[.int .i64 V, .slice A4 n4 c4, .int .i64 r4] 26)).alloc (.cells #[.int .i64 0, .slice none 0 0, .int .i64 0] 26)) = W0 at *
  have Ls := Bs0.lt
  have Bs := Bs0.keep Kw fun h => h
  have Qs := D3.keep Kw
  have Lo := Bo0.lt
  have Bo := Bo0.keep Kw fun h => h
  have Qo := D2.keep Kw
  have Lr := Br0.lt
  have Br := Br0.keep Kw fun h => h
  have Qr := D1.keep Kw
  have HA := Lib.hid (x_and hV Qs Qd)
  have cd0 : W0.cell? ⟨w.heap.size, 0, none⟩ = some (.int .i64 V) := Bd.cell 0
  have cd1 : W0.cell? ⟨w.heap.size, 1, none⟩ = some (.slice A4 n4 c4) := Bd.cell 1
  have cd2 : W0.cell? ⟨w.heap.size, 2, none⟩ = some (.int .i64 r4) := Bd.cell 2
  have cs0 : W0.cell? ⟨sb, 0, none⟩ = some (.int .i64 V) := Bs.cell 0
  have cs1 : W0.cell? ⟨sb, 1, none⟩ = some (.slice A3 n3 c3) := Bs.cell 1
  have cs2 : W0.cell? ⟨sb, 2, none⟩ = some (.int .i64 r3) := Bs.cell 2
  have co0 : W0.cell? ⟨ob, 0, none⟩ = some (.int .i64 V) := Bo.cell 0
  have co1 : W0.cell? ⟨ob, 1, none⟩ = some (.slice A2 n2 c2) := Bo.cell 1
  have co2 : W0.cell? ⟨ob, 2, none⟩ = some (.int .i64 r2) := Bo.cell 2
  have cr0 : W0.cell? ⟨rb, 0, none⟩ = some (.int .i64 V) := Br.cell 0
  have cr1 : W0.cell? ⟨rb, 1, none⟩ = some (.slice A1 n1 c1) := Br.cell 1
  have cr2 : W0.cell? ⟨rb, 2, none⟩ = some (.int .i64 r1) := Br.cell 2
  go_upto_region 3 with (go_at_call 31
                         (with_reducible refine (HA.out).mono ?_)
                         rintro e w5 ⟨A5, n5, c5, r5, rfl, D5, K5⟩
                         have Bdn := Bd.keep K5 fun h => h
                         have Ldn := Bdn.lt
                         have Bresn := Bres.keep K5 fun h => h
                         have Lresn := Bresn.lt
                         have Bsn := Bs.keep K5 fun h => h
                         have Lsn := Bsn.lt
                         have Bon := Bo.keep K5 fun h => h
                         have Lon := Bon.lt
                         have Brn := Br.keep K5 fun h => h
                         have Lrn := Brn.lt)
  clear cd0 cd1 cd2 cs0 cs1 cs2 co0 co1 co2 cr0 cr1 cr2
  have Bd_1 := Bdn.alloc (.cells #[.int .i64 V, .slice A5 n5 c5, .int .i64 r5] 26)
  have Qd_1 := (Qd.keep K5).keep ((Keep.refl NoF w5).alloc (.cells #[.int .i64 V, .slice A5 n5 c5, .int .i64 r5] 26))
  have Bres_1 := Bresn.alloc (.cells #[.int .i64 V, .slice A5 n5 c5, .int .i64 r5] 26)
  have Bs_1 := Bsn.alloc (.cells #[.int .i64 V, .slice A5 n5 c5, .int .i64 r5] 26)
  have Qs_1 := (Qs.keep K5).keep ((Keep.refl NoF w5).alloc (.cells #[.int .i64 V, .slice A5 n5 c5, .int .i64 r5] 26))
  have Bo_1 := Bon.alloc (.cells #[.int .i64 V, .slice A5 n5 c5, .int .i64 r5] 26)
  have Qo_1 := (Qo.keep K5).keep ((Keep.refl NoF w5).alloc (.cells #[.int .i64 V, .slice A5 n5 c5, .int .i64 r5] 26))
  have Br_1 := Brn.alloc (.cells #[.int .i64 V, .slice A5 n5 c5, .int .i64 r5] 26)
  have Qr_1 := (Qr.keep K5).keep ((Keep.refl NoF w5).alloc (.cells #[.int .i64 V, .slice A5 n5 c5, .int .i64 r5] 26))
  have Bx_1 := Bk.new w5 26 #[.int .i64 V, .slice A5 n5 c5, .int .i64 r5]
  have Qx_1 := D5.keep ((Keep.refl NoF w5).alloc (.cells #[.int .i64 V, .slice A5 n5 c5, .int .i64 r5] 26))
  have Kw_1 : Keep NoF w (w5.alloc (.cells #[.int .i64 V, .slice A5 n5 c5, .int .i64 r5] 26)) := (Kw.trans K5 fun _ _ h => h).alloc _
  generalize w5.alloc (.cells #[.int .i64 V, .slice A5 n5 c5, .int .i64 r5] 26) = W1 at *
  clear Bd Bres Bs Bo Br Qd Qs Qo Qr Bdn Bresn Bsn Bon Brn Kw D5 K5
  have HO := Lib.hid (x_or hV Qo_1 Qx_1)
  have cd0 : W1.cell? ⟨w.heap.size, 0, none⟩ = some (.int .i64 V) := Bd_1.cell 0
  have cd1 : W1.cell? ⟨w.heap.size, 1, none⟩ = some (.slice A4 n4 c4) := Bd_1.cell 1
  have cd2 : W1.cell? ⟨w.heap.size, 2, none⟩ = some (.int .i64 r4) := Bd_1.cell 2
  have cs0 : W1.cell? ⟨sb, 0, none⟩ = some (.int .i64 V) := Bs_1.cell 0
  have cs1 : W1.cell? ⟨sb, 1, none⟩ = some (.slice A3 n3 c3) := Bs_1.cell 1
  have cs2 : W1.cell? ⟨sb, 2, none⟩ = some (.int .i64 r3) := Bs_1.cell 2
  have co0 : W1.cell? ⟨ob, 0, none⟩ = some (.int .i64 V) := Bo_1.cell 0
  have co1 : W1.cell? ⟨ob, 1, none⟩ = some (.slice A2 n2 c2) := Bo_1.cell 1
  have co2 : W1.cell? ⟨ob, 2, none⟩ = some (.int .i64 r2) := Bo_1.cell 2
  have cr0 : W1.cell? ⟨rb, 0, none⟩ = some (.int .i64 V) := Br_1.cell 0
  have cr1 : W1.cell? ⟨rb, 1, none⟩ = some (.slice A1 n1 c1) := Br_1.cell 1
  have cr2 : W1.cell? ⟨rb, 2, none⟩ = some (.int .i64 r1) := Br_1.cell 2
  have cx0 : W1.cell? ⟨w5.heap.size, 0, none⟩ = some (.int .i64 V) := Bx_1.cell 0
  have cx1 : W1.cell? ⟨w5.heap.size, 1, none⟩ = some (.slice A5 n5 c5) := Bx_1.cell 1
  have cx2 : W1.cell? ⟨w5.heap.size, 2, none⟩ = some (.int .i64 r5) := Bx_1.cell 2
  go_upto_region 6 with (go_at_call 32
                         (with_reducible refine (HO.out).mono ?_)
                         rintro e w6 ⟨A6, n6, c6, r6, rfl, D6, K6⟩
                         have Bdn := Bd_1.keep K6 fun h => h
                         have Ldn := Bdn.lt
                         have Bresn := Bres_1.keep K6 fun h => h
                         have Lresn := Bresn.lt
                         have Bsn := Bs_1.keep K6 fun h => h
                         have Lsn := Bsn.lt
                         have Bon := Bo_1.keep K6 fun h => h
                         have Lon := Bon.lt
                         have Brn := Br_1.keep K6 fun h => h
                         have Lrn := Brn.lt
                         have Bxn := Bx_1.keep K6 fun h => h
                         have Lxn := Bxn.lt
                         have y0 : w6.cell? ⟨w5.heap.size, 0, none⟩ = some (.int .i64 V) := Bxn.cell 0
                         have y1 : w6.cell? ⟨w5.heap.size, 1, none⟩ = some (.slice A5 n5 c5) := Bxn.cell 1
                         have y2 : w6.cell? ⟨w5.heap.size, 2, none⟩ = some (.int .i64 r5) := Bxn.cell 2
                         have yf0 := Bxn.frozen 0
                         have yf1 := Bxn.frozen 1
                         have yf2 := Bxn.frozen 2)
  clear cd0 cd1 cd2 cs0 cs1 cs2 co0 co1 co2 cr0 cr1 cr2 cx0 cx1 cx2
  obtain ⟨Bx_2, Qx_2, S3⟩ := set3_box Bxn sl_nint D6
  have Bd_2 := Bdn.keep S3 fun h => by omega
  have Qd_2 := (Qd_1.keep K6).far_box Bxn sl_nint S3
  have Bres_2 := Bresn.keep S3 fun h => by omega
  have Bs_2 := Bsn.keep S3 fun h => by omega
  have Qs_2 := (Qs_1.keep K6).far_box Bxn sl_nint S3
  have Bo_2 := Bon.keep S3 fun h => by omega
  have Qo_2 := (Qo_1.keep K6).far_box Bxn sl_nint S3
  have Br_2 := Brn.keep S3 fun h => by omega
  have Qr_2 := (Qr_1.keep K6).far_box Bxn sl_nint S3
  have Kw_2 : Keep NoF w (((w6.setCell ⟨w5.heap.size, 0, none⟩ (.int .i64 V)).setCell ⟨w5.heap.size, 1, none⟩ (.slice A6 n6 c6)).setCell ⟨w5.heap.size, 2, none⟩ (.int .i64 r6)) := (Kw_1.trans K6 fun _ _ h => h).trans S3 fun i hi h => by omega
  generalize (((w6.setCell ⟨w5.heap.size, 0, none⟩ (.int .i64 V)).setCell ⟨w5.heap.size, 1, none⟩ (.slice A6 n6 c6)).setCell ⟨w5.heap.size, 2, none⟩ (.int .i64 r6)) = W2 at *
  clear Bd_1 Bres_1 Bs_1 Bo_1 Br_1 Bx_1 Qd_1 Qs_1 Qo_1 Qr_1 Qx_1 Bdn Bresn Bsn Bon Brn Bxn Kw_1 D6 K6 S3 y0 y1 y2 yf0 yf1 yf2
  have DX := Qx_2.congr (g := setF k (coN k C ||| (T &&& S)) 0) fun ρ => by rw [setF_or, setF_and, setF_co]
  have HBX := Lib.hid (box_any hV he _ _ _ _ _ _ _ _ _ Qr_2 DX)
  clear DX
  have cd0 : W2.cell? ⟨w.heap.size, 0, none⟩ = some (.int .i64 V) := Bd_2.cell 0
  have cd1 : W2.cell? ⟨w.heap.size, 1, none⟩ = some (.slice A4 n4 c4) := Bd_2.cell 1
  have cd2 : W2.cell? ⟨w.heap.size, 2, none⟩ = some (.int .i64 r4) := Bd_2.cell 2
  have cs0 : W2.cell? ⟨sb, 0, none⟩ = some (.int .i64 V) := Bs_2.cell 0
  have cs1 : W2.cell? ⟨sb, 1, none⟩ = some (.slice A3 n3 c3) := Bs_2.cell 1
  have cs2 : W2.cell? ⟨sb, 2, none⟩ = some (.int .i64 r3) := Bs_2.cell 2
  have co0 : W2.cell? ⟨ob, 0, none⟩ = some (.int .i64 V) := Bo_2.cell 0
  have co1 : W2.cell? ⟨ob, 1, none⟩ = some (.slice A2 n2 c2) := Bo_2.cell 1
  have co2 : W2.cell? ⟨ob, 2, none⟩ = some (.int .i64 r2) := Bo_2.cell 2
  have cr0 : W2.cell? ⟨rb, 0, none⟩ = some (.int .i64 V) := Br_2.cell 0
  have cr1 : W2.cell? ⟨rb, 1, none⟩ = some (.slice A1 n1 c1) := Br_2.cell 1
  have cr2 : W2.cell? ⟨rb, 2, none⟩ = some (.int .i64 r1) := Br_2.cell 2
  have cx0 : W2.cell? ⟨w5.heap.size, 0, none⟩ = some (.int .i64 V) := Bx_2.cell 0
  have cx1 : W2.cell? ⟨w5.heap.size, 1, none⟩ = some (.slice A6 n6 c6) := Bx_2.cell 1
  have cx2 : W2.cell? ⟨w5.heap.size, 2, none⟩ = some (.int .i64 r6) := Bx_2.cell 2
  go_wp2_with (go_at_call 33
               (with_reducible refine (HBX.out).mono ?_)
               rintro e w7 ⟨A7, n7, c7, r7, rfl, D7, K7⟩
               have Bdn := Bd_2.keep K7 fun h => h
               have Ldn := Bdn.lt
               have Bresn := Bres_2.keep K7 fun h => h
               have Lresn := Bresn.lt
               have Bsn := Bs_2.keep K7 fun h => h
               have Lsn := Bsn.lt
               have Bon := Bo_2.keep K7 fun h => h
               have Lon := Bon.lt
               have Brn := Br_2.keep K7 fun h => h
               have Lrn := Brn.lt
               have Bxn := Bx_2.keep K7 fun h => h
               have Lxn := Bxn.lt
               have y0 : w7.cell? ⟨w.heap.size + 1, 0, none⟩ = some (.int .i64 0) := Bresn.cell 0
               have y1 : w7.cell? ⟨w.heap.size + 1, 1, none⟩ = some (.slice none 0 0) := Bresn.cell 1
               have y2 : w7.cell? ⟨w.heap.size + 1, 2, none⟩ = some (.int .i64 0) := Bresn.cell 2
               have yf0 := Bresn.frozen 0
               have yf1 := Bresn.frozen 1
               have yf2 := Bresn.frozen 2)
  clear cd0 cd1 cd2 cs0 cs1 cs2 co0 co1 co2 cr0 cr1 cr2 cx0 cx1 cx2
  obtain ⟨Bres_3, Qres_3, S3⟩ := set3_box Bresn sl_nint D7
  have Bd_3 := Bdn.keep S3 fun h => by omega
  have Qd_3 := (Qd_2.keep K7).far_box Bresn sl_nint S3
  have Bs_3 := Bsn.keep S3 fun h => by omega
  have Qs_3 := (Qs_2.keep K7).far_box Bresn sl_nint S3
  have Bo_3 := Bon.keep S3 fun h => by omega
  have Qo_3 := (Qo_2.keep K7).far_box Bresn sl_nint S3
  have Br_3 := Brn.keep S3 fun h => by omega
  have Qr_3 := (Qr_2.keep K7).far_box Bresn sl_nint S3
  have Bx_3 := Bxn.keep S3 fun h => by omega
  have Qx_3 := (Qx_2.keep K7).far_box Bresn sl_nint S3
  have Kw_3 : Keep NoF w (((w7.setCell ⟨w.heap.size + 1, 0, none⟩ (.int .i64 V)).setCell ⟨w.heap.size + 1, 1, none⟩ (.slice A7 n7 c7)).setCell ⟨w.heap.size + 1, 2, none⟩ (.int .i64 r7)) := (Kw_2.trans K7 fun _ _ h => h).trans S3 fun i hi h => by omega
  generalize (((w7.setCell ⟨w.heap.size + 1, 0, none⟩ (.int .i64 V)).setCell ⟨w.heap.size + 1, 1, none⟩ (.slice A7 n7 c7)).setCell ⟨w.heap.size + 1, 2, none⟩ (.int .i64 r7)) = W3 at *
  clear Bd_2 Bres_2 Bs_2 Bo_2 Br_2 Bx_2 Qd_2 Qs_2 Qo_2 Qr_2 Qx_2 Bdn Bresn Bsn Bon Brn Bxn Kw_2 D7 K7 S3 y0 y1 y2 yf0 yf1 yf2
  have h0 : W3.cell? ⟨w.heap.size + 1, 0, none⟩ = some (.int .i64 V) := Bres_3.cell 0
  have h1 : W3.cell? ⟨w.heap.size + 1, 1, none⟩ = some (.slice A7 n7 c7) := Bres_3.cell 1
  have h2 : W3.cell? ⟨w.heap.size + 1, 2, none⟩ = some (.int .i64 r7) := Bres_3.cell 2
  refine bodyPost_ret (v := .tuple #[.agg #[.int .i64 V, .slice A7 n7 c7, .int .i64 r7], .int .i64 0]) (by simp [results, Tryd.results30, go_sem, h0, h1, h2]) rfl ?_
  exact ⟨A7, n7, c7, r7, rfl, Qres_3.congr fun ρ => by rw [paS, HVK.out, Dd.bo_law], Kw_3⟩
theorem Paths_ok (k : Nat) (hk : k ≤ 6) (R : List Nat) (C T V m : Nat) (hVk : V = 2 * k) (hf : paS k R C T (iterN (paS k R C T) m (alN k)) = iterN (paS k R C T) m (alN k)) (A1 : Option Addr) (n1 c1 r1 : Nat) (A2 : Option Addr) (n2 c2 r2 : Nat) (A3 : Option Addr) (n3 c3 r3 : Nat) (w : World) (D1 : IsD w V (relF k R) A1 n1 c1 r1) (D2 : IsD w V (setF k C 0) A2 n2 c2 r2) (D3 : IsD w V (setF k T 0) A3 n3 c3 r3) :
    Calls Tryd.prog 7 #[.agg #[.int .i64 V, .slice A1 n1 c1, .int .i64 r1], .agg #[.int .i64 V, .slice A2 n2 c2, .int .i64 r2], .agg #[.int .i64 V, .slice A3 n3 c3, .int .i64 r3]] w (DP w V (setF k (iterN (paS k R C T) m (alN k)) 0)) := by
  have hV : V ≤ 12 := by omega
  have he : V % 2 = 0 := by omega
  have HVK := Lib.hid hVk
  have HFH := Lib.hid hf
  clear hVk hf
  go_enter Tryd.func7, Tryd.ntmps7
  go_upto_region 1 with (fail)
  have Br := Bk.new w 26 #[.int .i64 V, .slice A1 n1 c1, .int .i64 r1]
  have Br := (((Br.alloc (.cells #[.int .i64 V, .slice A2 n2 c2, .int .i64 r2] 26)).alloc (.cells #[.int .i64 V, .slice A3 n3 c3, .int .i64 r3] 26)).alloc (.cells #[.int .i64 0, .slice none 0 0, .int .i64 0] 26))
  have Bc := Bk.new (w.alloc (.cells #[.int .i64 V, .slice A1 n1 c1, .int .i64 r1] 26)) 26 #[.int .i64 V, .slice A2 n2 c2, .int .i64 r2]
  simp only [World.size_alloc, Nat.add_assoc, Nat.reduceAdd] at Bc
  have Bc := ((Bc.alloc (.cells #[.int .i64 V, .slice A3 n3 c3, .int .i64 r3] 26)).alloc (.cells #[.int .i64 0, .slice none 0 0, .int .i64 0] 26))
  have Bs := Bk.new ((w.alloc (.cells #[.int .i64 V, .slice A1 n1 c1, .int .i64 r1] 26)).alloc (.cells #[.int .i64 V, .slice A2 n2 c2, .int .i64 r2] 26)) 26 #[.int .i64 V, .slice A3 n3 c3, .int .i64 r3]
  simp only [World.size_alloc, Nat.add_assoc, Nat.reduceAdd] at Bs
  have Bs := (Bs.alloc (.cells #[.int .i64 0, .slice none 0 0, .int .i64 0] 26))
  have Bres := Bk.new (((w.alloc (.cells #[.int .i64 V, .slice A1 n1 c1, .int .i64 r1] 26)).alloc (.cells #[.int .i64 V, .slice A2 n2 c2, .int .i64 r2] 26)).alloc (.cells #[.int .i64 V, .slice A3 n3 c3, .int .i64 r3] 26)) 26 #[.int .i64 0, .slice none 0 0, .int .i64 0]
  simp only [World.size_alloc, Nat.add_assoc, Nat.reduceAdd] at Bres
  have Kw : Keep NoF w ((((w.alloc (.cells #[.int .i64 V, .slice A1 n1 c1, .int .i64 r1] 26)).alloc (.cells #[.int .i64 V, .slice A2 n2 c2, .int .i64 r2] 26)).alloc (.cells #[.int .i64 V, .slice A3 n3 c3, .int .i64 r3] 26)).alloc (.cells #[.int .i64 0, .slice none 0 0, .int .i64 0] 26)) := (((((Keep.refl NoF w).alloc _).alloc _).alloc _).alloc _)
  have Qr := D1.keep Kw
  have Qc := D2.keep Kw
  have Qs := D3.keep Kw
  generalize ((((w.alloc (.cells #[.int .i64 V, .slice A1 n1 c1, .int .i64 r1] 26)).alloc (.cells #[.int .i64 V, .slice A2 n2 c2, .int .i64 r2] 26)).alloc (.cells #[.int .i64 V, .slice A3 n3 c3, .int .i64 r3] 26)).alloc (.cells #[.int .i64 0, .slice none 0 0, .int .i64 0] 26)) = W0 at *
  have HB := Lib.hid (both2 he (setF_noOdd k C) (setF_noOdd k T) _ _ _ _ _ _ _ _ _ _ _ _ _ Qr Qc Qs)
  have cr0 : W0.cell? ⟨w.heap.size, 0, none⟩ = some (.int .i64 V) := Br.cell 0
  have cr1 : W0.cell? ⟨w.heap.size, 1, none⟩ = some (.slice A1 n1 c1) := Br.cell 1
  have cr2 : W0.cell? ⟨w.heap.size, 2, none⟩ = some (.int .i64 r1) := Br.cell 2
  have cc0 : W0.cell? ⟨w.heap.size + 1, 0, none⟩ = some (.int .i64 V) := Bc.cell 0
  have cc1 : W0.cell? ⟨w.heap.size + 1, 1, none⟩ = some (.slice A2 n2 c2) := Bc.cell 1
  have cc2 : W0.cell? ⟨w.heap.size + 1, 2, none⟩ = some (.int .i64 r2) := Bc.cell 2
  have cs0 : W0.cell? ⟨w.heap.size + 2, 0, none⟩ = some (.int .i64 V) := Bs.cell 0
  have cs1 : W0.cell? ⟨w.heap.size + 2, 1, none⟩ = some (.slice A3 n3 c3) := Bs.cell 1
  have cs2 : W0.cell? ⟨w.heap.size + 2, 2, none⟩ = some (.int .i64 r3) := Bs.cell 2
  go_upto_region 4 with (go_at_call 26
                         (with_reducible refine (HB.out).mono ?_)
                         rintro e wz ⟨rfl, KZ⟩
                         have KZ2 : Keep NoF W0 wz := ((Keep.refl NoF _).alloc _).trans KZ fun _ _ h => h
                         have Brn := Br.keep KZ2 fun h => h
                         have Bcn := Bc.keep KZ2 fun h => h
                         have Bsn := Bs.keep KZ2 fun h => h
                         have Bresn := Bres.keep KZ2 fun h => h)
  clear cr0 cr1 cr2 cc0 cc1 cc2 cs0 cs1 cs2
  have Br_1 := Brn
  have Qr_1 := Qr.keep KZ2
  have Bc_1 := Bcn
  have Qc_1 := Qc.keep KZ2
  have Bs_1 := Bsn
  have Qs_1 := Qs.keep KZ2
  have Bres_1 := Bresn
  have Kw_1 := Kw.trans KZ2 fun _ _ h => h
  clear Kw KZ KZ2 Brn Br Qr Bcn Bc Qc Bsn Bs Qs Bresn Bres
  have HN := Lib.hid (x_not hV Qc_1)
  have cc0 : wz.cell? ⟨w.heap.size + 1, 0, none⟩ = some (.int .i64 V) := Bc_1.cell 0
  have cc1 : wz.cell? ⟨w.heap.size + 1, 1, none⟩ = some (.slice A2 n2 c2) := Bc_1.cell 1
  have cc2 : wz.cell? ⟨w.heap.size + 1, 2, none⟩ = some (.int .i64 r2) := Bc_1.cell 2
  go_upto_region 7 with (go_at_call 27
                         (with_reducible refine (HN.out).mono ?_)
                         rintro e w4 ⟨A4, n4, c4, r4, rfl, D4, K4⟩
                         have Brn := Br_1.keep K4 fun h => h
                         have Lrn := Brn.lt
                         have Bcn := Bc_1.keep K4 fun h => h
                         have Lcn := Bcn.lt
                         have Bsn := Bs_1.keep K4 fun h => h
                         have Lsn := Bsn.lt
                         have Bresn := Bres_1.keep K4 fun h => h
                         have Lresn := Bresn.lt)
  clear cc0 cc1 cc2
  have Br_2 := Brn.alloc (.cells #[.int .i64 V, .slice A4 n4 c4, .int .i64 r4] 26)
  have Qr_2 := (Qr_1.keep K4).keep ((Keep.refl NoF w4).alloc (.cells #[.int .i64 V, .slice A4 n4 c4, .int .i64 r4] 26))
  have Bc_2 := Bcn.alloc (.cells #[.int .i64 V, .slice A4 n4 c4, .int .i64 r4] 26)
  have Qc_2 := (Qc_1.keep K4).keep ((Keep.refl NoF w4).alloc (.cells #[.int .i64 V, .slice A4 n4 c4, .int .i64 r4] 26))
  have Bs_2 := Bsn.alloc (.cells #[.int .i64 V, .slice A4 n4 c4, .int .i64 r4] 26)
  have Qs_2 := (Qs_1.keep K4).keep ((Keep.refl NoF w4).alloc (.cells #[.int .i64 V, .slice A4 n4 c4, .int .i64 r4] 26))
  have Bres_2 := Bresn.alloc (.cells #[.int .i64 V, .slice A4 n4 c4, .int .i64 r4] 26)
  have Bo_2 := Bk.new w4 26 #[.int .i64 V, .slice A4 n4 c4, .int .i64 r4]
  have Qo_2 := D4.keep ((Keep.refl NoF w4).alloc (.cells #[.int .i64 V, .slice A4 n4 c4, .int .i64 r4] 26))
  have Kw_2 : Keep NoF w (w4.alloc (.cells #[.int .i64 V, .slice A4 n4 c4, .int .i64 r4] 26)) := (Kw_1.trans K4 fun _ _ h => h).alloc _
  generalize w4.alloc (.cells #[.int .i64 V, .slice A4 n4 c4, .int .i64 r4] 26) = W2 at *
  clear Br_1 Bc_1 Bs_1 Bres_1 Qr_1 Qc_1 Qs_1 Brn Bcn Bsn Bresn Kw_1 D4 K4
  have HC := Lib.hid (x_const V (by omega) true W2)
  have cr0 : W2.cell? ⟨w.heap.size, 0, none⟩ = some (.int .i64 V) := Br_2.cell 0
  have cr1 : W2.cell? ⟨w.heap.size, 1, none⟩ = some (.slice A1 n1 c1) := Br_2.cell 1
  have cr2 : W2.cell? ⟨w.heap.size, 2, none⟩ = some (.int .i64 r1) := Br_2.cell 2
  go_upto_region 10 with (go_at_call 28
                          (with_reducible refine (HC.out).mono ?_)
                          rintro e w5 ⟨A5, n5, c5, r5, rfl, D5, K5⟩
                          have Brn := Br_2.keep K5 fun h => h
                          have Lrn := Brn.lt
                          have Bcn := Bc_2.keep K5 fun h => h
                          have Lcn := Bcn.lt
                          have Bsn := Bs_2.keep K5 fun h => h
                          have Lsn := Bsn.lt
                          have Bresn := Bres_2.keep K5 fun h => h
                          have Lresn := Bresn.lt
                          have Bon := Bo_2.keep K5 fun h => h
                          have Lon := Bon.lt)
  clear cr0 cr1 cr2
  have Br_3 := Brn.alloc (.cells #[.int .i64 V, .slice A5 n5 c5, .int .i64 r5] 26)
  have Qr_3 := (Qr_2.keep K5).keep ((Keep.refl NoF w5).alloc (.cells #[.int .i64 V, .slice A5 n5 c5, .int .i64 r5] 26))
  have Bc_3 := Bcn.alloc (.cells #[.int .i64 V, .slice A5 n5 c5, .int .i64 r5] 26)
  have Qc_3 := (Qc_2.keep K5).keep ((Keep.refl NoF w5).alloc (.cells #[.int .i64 V, .slice A5 n5 c5, .int .i64 r5] 26))
  have Bs_3 := Bsn.alloc (.cells #[.int .i64 V, .slice A5 n5 c5, .int .i64 r5] 26)
  have Qs_3 := (Qs_2.keep K5).keep ((Keep.refl NoF w5).alloc (.cells #[.int .i64 V, .slice A5 n5 c5, .int .i64 r5] 26))
  have Bres_3 := Bresn.alloc (.cells #[.int .i64 V, .slice A5 n5 c5, .int .i64 r5] 26)
  have Bo_3 := Bon.alloc (.cells #[.int .i64 V, .slice A5 n5 c5, .int .i64 r5] 26)
  have Qo_3 := (Qo_2.keep K5).keep ((Keep.refl NoF w5).alloc (.cells #[.int .i64 V, .slice A5 n5 c5, .int .i64 r5] 26))
  have Bd_3 := Bk.new w5 26 #[.int .i64 V, .slice A5 n5 c5, .int .i64 r5]
  have Qd_3 := D5.keep ((Keep.refl NoF w5).alloc (.cells #[.int .i64 V, .slice A5 n5 c5, .int .i64 r5] 26))
  have Kw_3 : Keep NoF w (w5.alloc (.cells #[.int .i64 V, .slice A5 n5 c5, .int .i64 r5] 26)) := (Kw_2.trans K5 fun _ _ h => h).alloc _
  generalize w5.alloc (.cells #[.int .i64 V, .slice A5 n5 c5, .int .i64 r5] 26) = W3 at *
  clear Br_2 Bc_2 Bs_2 Bres_2 Bo_2 Qr_2 Qc_2 Qs_2 Qo_2 Brn Bcn Bsn Bresn Bon Kw_2 D5 K5
  have D5s := Qd_3.congr (g := setF k (alN k) 0) fun ρ => (setF_al k ρ).symm
  have HFX := Lib.hid (fixpoint_ok k m (alN k) (paS k R C T) 30 #[.pointer (some ⟨w.heap.size + 2, 0, none⟩), .pointer (some ⟨w4.heap.size, 0, none⟩), .pointer (some ⟨w.heap.size, 0, none⟩)] cf_Paths1 V HVK.out hk (pa_lt k R C T _ (Dd.enc_lt _ _)) HFH.out _ _ _ _ W3 D5s fun S' _ W A n c r hK hD => Paths1_ok k hk R C T S' V HVK.out A1 n1 c1 r1 A4 n4 c4 r4 A3 n3 c3 r3 A n c r w.heap.size w4.heap.size (w.heap.size + 2) W (Br_3.keep hK fun h => h) (Bo_3.keep hK fun h => h) (Bs_3.keep hK fun h => h) (Qr_3.keep hK) (Qo_3.keep hK) (Qs_3.keep hK) hD)
  clear D5s
  have cd0 : W3.cell? ⟨w5.heap.size, 0, none⟩ = some (.int .i64 V) := Bd_3.cell 0
  have cd1 : W3.cell? ⟨w5.heap.size, 1, none⟩ = some (.slice A5 n5 c5) := Bd_3.cell 1
  have cd2 : W3.cell? ⟨w5.heap.size, 2, none⟩ = some (.int .i64 r5) := Bd_3.cell 2
  go_wp2_with (go_at_call 29
               (with_reducible refine (HFX.out).mono ?_)
               rintro e w6 ⟨A6, n6, c6, r6, rfl, D6, K6⟩
               have Brn := Br_3.keep K6 fun h => h
               have Lrn := Brn.lt
               have Bcn := Bc_3.keep K6 fun h => h
               have Lcn := Bcn.lt
               have Bsn := Bs_3.keep K6 fun h => h
               have Lsn := Bsn.lt
               have Bresn := Bres_3.keep K6 fun h => h
               have Lresn := Bresn.lt
               have Bon := Bo_3.keep K6 fun h => h
               have Lon := Bon.lt
               have Bdn := Bd_3.keep K6 fun h => h
               have Ldn := Bdn.lt
               have y0 : w6.cell? ⟨w.heap.size + 3, 0, none⟩ = some (.int .i64 0) := Bresn.cell 0
               have y1 : w6.cell? ⟨w.heap.size + 3, 1, none⟩ = some (.slice none 0 0) := Bresn.cell 1
               have y2 : w6.cell? ⟨w.heap.size + 3, 2, none⟩ = some (.int .i64 0) := Bresn.cell 2
               have yf0 := Bresn.frozen 0
               have yf1 := Bresn.frozen 1
               have yf2 := Bresn.frozen 2)
  clear cd0 cd1 cd2
  obtain ⟨Bres_4, Qres_4, S3⟩ := set3_box Bresn sl_nint D6
  have Br_4 := Brn.keep S3 fun h => by omega
  have Qr_4 := (Qr_3.keep K6).far_box Bresn sl_nint S3
  have Bc_4 := Bcn.keep S3 fun h => by omega
  have Qc_4 := (Qc_3.keep K6).far_box Bresn sl_nint S3
  have Bs_4 := Bsn.keep S3 fun h => by omega
  have Qs_4 := (Qs_3.keep K6).far_box Bresn sl_nint S3
  have Bo_4 := Bon.keep S3 fun h => by omega
  have Qo_4 := (Qo_3.keep K6).far_box Bresn sl_nint S3
  have Bd_4 := Bdn.keep S3 fun h => by omega
  have Qd_4 := (Qd_3.keep K6).far_box Bresn sl_nint S3
  have Kw_4 : Keep NoF w (((w6.setCell ⟨w.heap.size + 3, 0, none⟩ (.int .i64 V)).setCell ⟨w.heap.size + 3, 1, none⟩ (.slice A6 n6 c6)).setCell ⟨w.heap.size + 3, 2, none⟩ (.int .i64 r6)) := (Kw_3.trans K6 fun _ _ h => h).trans S3 fun i hi h => by omega
  generalize (((w6.setCell ⟨w.heap.size + 3, 0, none⟩ (.int .i64 V)).setCell ⟨w.heap.size + 3, 1, none⟩ (.slice A6 n6 c6)).setCell ⟨w.heap.size + 3, 2, none⟩ (.int .i64 r6)) = W4 at *
  clear Br_3 Bc_3 Bs_3 Bres_3 Bo_3 Bd_3 Qr_3 Qc_3 Qs_3 Qo_3 Qd_3 Brn Bcn Bsn Bresn Bon Bdn Kw_3 D6 K6 S3 y0 y1 y2 yf0 yf1 yf2
  have h0 : W4.cell? ⟨w.heap.size + 3, 0, none⟩ = some (.int .i64 V) := Bres_4.cell 0
  have h1 : W4.cell? ⟨w.heap.size + 3, 1, none⟩ = some (.slice A6 n6 c6) := Bres_4.cell 1
  have h2 : W4.cell? ⟨w.heap.size + 3, 2, none⟩ = some (.int .i64 r6) := Bres_4.cell 2
  refine bodyPost_ret (v := .tuple #[.agg #[.int .i64 V, .slice A6 n6 c6, .int .i64 r6], .int .i64 0]) (by simp [results, Tryd.results7, go_sem, h0, h1, h2]) rfl ?_
  exact ⟨A6, n6, c6, r6, rfl, Qres_4, Kw_4⟩
end
end Go.Proofs.YtgdmcidcappkpaaDoor
