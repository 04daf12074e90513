/- Images, preimages and boxes: the program's shifted, image, pre and box. No condition. -/
import Derived.Test.YtgdmcidcappkpaaDoorSyE
import Derived.Deep.RegionHeld3
import Derived.Outline
set_option linter.unusedVariables false
set_option linter.unusedSimpArgs false
namespace Go.Proofs.YtgdmcidcappkpaaDoor
open Go.RowKit
open Dd (upF dnF imF prF boF evN odN)

section
set_option maxRecDepth 100000
set_option maxHeartbeats 2000000
theorem shifted0_any {f : BF} {V : Nat} (hV : V ≤ 12) (he : V % 2 = 0) (A0 : Option Addr) (n0 c0 r0 : Nat) (w : World) (D0 : IsD w V f A0 n0 c0 r0) : Calls Tryd.prog 62 #[.agg #[.int .i64 V, .slice A0 n0 c0, .int .i64 r0], .int .i64 0] w (DP w V (upF V f)) := by
  have HSTEP := Lib.hid fun n (hn : n % 2 = 0) ρ => Dd.upF_step hn f ρ
  go_enter Tryd.func62, Tryd.ntmps62
  go_upto_region 1 with (fail)
  have Bd := Bk.new w 26 #[.int .i64 V, .slice A0 n0 c0, .int .i64 r0]
  have Bd := (Bd.alloc (.cells #[.int .i64 0, .slice none 0 0, .int .i64 0] 26))
  have Bres := Bk.new (w.alloc (.cells #[.int .i64 V, .slice A0 n0 c0, .int .i64 r0] 26)) 26 #[.int .i64 0, .slice none 0 0, .int .i64 0]
  simp only [World.size_alloc, Nat.add_assoc, Nat.reduceAdd] at Bres
  have Kw : Keep NoF w ((w.alloc (.cells #[.int .i64 V, .slice A0 n0 c0, .int .i64 r0] 26)).alloc (.cells #[.int .i64 0, .slice none 0 0, .int .i64 0] 26)) := (((Keep.refl NoF w).alloc _).alloc _)
  have Qd := D0.keep Kw
  generalize ((w.alloc (.cells #[.int .i64 V, .slice A0 n0 c0, .int .i64 r0] 26)).alloc (.cells #[.int .i64 0, .slice none 0 0, .int .i64 0] 26)) = W0 at *
  go_wp2
  go_loopw [6] (fun i wr => ∃ (j : Nat) (A : Option Addr) (n c r : Nat), i = .int .i64 ((2 * j : Nat) : Int) ∧ 2 * j ≤ V ∧ Bk wr w.heap.size 26 #[.int .i64 V, .slice A n c, .int .i64 r] ∧ IsD wr V (upF (2 * j) f) A n c r ∧ Bk wr (w.heap.size + 1) 26 #[.int .i64 0, .slice none 0 0, .int .i64 0] ∧ Keep NoF w wr) (fun i _ => V + 2 - (intOf i).toNat)
  case atStart => exact ⟨0, _, _, _, _, rfl, by omega, Bd, by rw [Nat.mul_zero, Dd.upF_zero]; exact Qd, Bres, Kw⟩
  case round =>
    clear Bd Qd Bres Kw
    obtain ⟨j, A1, n1, c1, r1, rfl, hj, Bd, Qd, Bres, Kw⟩ := hrel
    by_cases hlt : 2 * j < V
    · have hvar := x_var V (2 * j + 1) (by omega) (by omega)
      have HSJ := Lib.hid (HSTEP.out (2 * j) (by omega))
      rw [show ((2 * j + 1 : Nat) : Int) = 2 * (j : Int) + 1 by omega] at hvar
      have HVAR := Lib.hid hvar
      clear hvar
      have cd0 : wr.cell? ⟨w.heap.size, 0, none⟩ = some (.int .i64 V) := Bd.cell 0
      have cd1 : wr.cell? ⟨w.heap.size, 1, none⟩ = some (.slice A1 n1 c1) := Bd.cell 1
      have cd2 : wr.cell? ⟨w.heap.size, 2, none⟩ = some (.int .i64 r1) := Bd.cell 2
      go_upto_region 5 with (go_at_call 40
                             (with_reducible refine (HVAR.out wr).mono ?_)
                             rintro e w2 ⟨A2, n2, c2, r2, rfl, D2, K2⟩
                             have Bdn := Bd.keep K2 fun h => h
                             have Ldn := Bdn.lt
                             have Bresn := Bres.keep K2 fun h => h
                             have Lresn := Bresn.lt)
      clear cd0 cd1 cd2
      have Bd_1 := Bdn.alloc (.cells #[.int .i64 V, .slice A2 n2 c2, .int .i64 r2] 26)
      have Qd_1 := (Qd.keep K2).keep ((Keep.refl NoF w2).alloc (.cells #[.int .i64 V, .slice A2 n2 c2, .int .i64 r2] 26))
      have Bres_1 := Bresn.alloc (.cells #[.int .i64 V, .slice A2 n2 c2, .int .i64 r2] 26)
      have Bx_1 := Bk.new w2 26 #[.int .i64 V, .slice A2 n2 c2, .int .i64 r2]
      have Qx_1 := D2.keep ((Keep.refl NoF w2).alloc (.cells #[.int .i64 V, .slice A2 n2 c2, .int .i64 r2] 26))
      have Kw_1 : Keep NoF w (w2.alloc (.cells #[.int .i64 V, .slice A2 n2 c2, .int .i64 r2] 26)) := (Kw.trans K2 fun _ _ h => h).alloc _
      generalize w2.alloc (.cells #[.int .i64 V, .slice A2 n2 c2, .int .i64 r2] 26) = W1 at *
      clear Bd Bres Qd Bdn Bresn Kw D2 K2
      have hcomp := x_compose (i := 2 * j + 0) (by omega) hV Qd_1 Qx_1
      rw [Nat.add_zero, show ((2 * j : Nat) : Int) = 2 * (j : Int) by omega] at hcomp
      have HCOMP := Lib.hid hcomp
      clear hcomp
      have cd0 : W1.cell? ⟨w.heap.size, 0, none⟩ = some (.int .i64 V) := Bd_1.cell 0
      have cd1 : W1.cell? ⟨w.heap.size, 1, none⟩ = some (.slice A1 n1 c1) := Bd_1.cell 1
      have cd2 : W1.cell? ⟨w.heap.size, 2, none⟩ = some (.int .i64 r1) := Bd_1.cell 2
      have cx0 : W1.cell? ⟨w2.heap.size, 0, none⟩ = some (.int .i64 V) := Bx_1.cell 0
      have cx1 : W1.cell? ⟨w2.heap.size, 1, none⟩ = some (.slice A2 n2 c2) := Bx_1.cell 1
      have cx2 : W1.cell? ⟨w2.heap.size, 2, none⟩ = some (.int .i64 r2) := Bx_1.cell 2
      go_wp2_with (go_at_call 78
                   (with_reducible refine (HCOMP.out).mono ?_)
                   rintro e w3 ⟨A3, n3, c3, r3, rfl, D3, K3⟩
                   have Bdn := Bd_1.keep K3 fun h => h
                   have Ldn := Bdn.lt
                   have Bresn := Bres_1.keep K3 fun h => h
                   have Lresn := Bresn.lt
                   have Bxn := Bx_1.keep K3 fun h => h
                   have Lxn := Bxn.lt
                   have y0 : w3.cell? ⟨w.heap.size, 0, none⟩ = some (.int .i64 V) := Bdn.cell 0
                   have y1 : w3.cell? ⟨w.heap.size, 1, none⟩ = some (.slice A1 n1 c1) := Bdn.cell 1
                   have y2 : w3.cell? ⟨w.heap.size, 2, none⟩ = some (.int .i64 r1) := Bdn.cell 2
                   have yf0 := Bdn.frozen 0
                   have yf1 := Bdn.frozen 1
                   have yf2 := Bdn.frozen 2)
      clear cd0 cd1 cd2 cx0 cx1 cx2
      go_roundw
      case rel =>
        obtain ⟨s1, s2, S3⟩ := set3_box Bdn sl_nint D3
        exact ⟨j + 1, A3, n3, c3, r3, by go_num, by omega, s1, s2.congr (HSJ.out), Bresn.keep S3 fun h => by omega, (Kw_1.trans K3 fun _ _ h => h).trans S3 fun i hi h => by omega⟩
      case measure => simp only [intOf]; omega
    · have hjV : 2 * j = V := by omega
      rw [hjV] at Qd
      clear hjV
      have d0 : wr.cell? ⟨w.heap.size, 0, none⟩ = some (.int .i64 V) := Bd.cell 0
      have d1 : wr.cell? ⟨w.heap.size, 1, none⟩ = some (.slice A1 n1 c1) := Bd.cell 1
      have d2 : wr.cell? ⟨w.heap.size, 2, none⟩ = some (.int .i64 r1) := Bd.cell 2
      have hlt2 := Bd.lt
      have hlt3 := Bres.lt
      have z0 : wr.cell? ⟨w.heap.size + 1, 0, none⟩ = some (.int .i64 0) := Bres.cell 0
      have z1 : wr.cell? ⟨w.heap.size + 1, 1, none⟩ = some (.slice none 0 0) := Bres.cell 1
      have z2 : wr.cell? ⟨w.heap.size + 1, 2, none⟩ = some (.int .i64 0) := Bres.cell 2
      have zf0 := Bres.frozen 0
      have zf1 := Bres.frozen 1
      have zf2 := Bres.frozen 2
      go_wp2
      obtain ⟨s1, s2, S3⟩ := set3_box Bres sl_nint Qd
      have hKf : Keep NoF w (((wr.setCell ⟨w.heap.size + 1, 0, none⟩ (.int .i64 V)).setCell ⟨w.heap.size + 1, 1, none⟩ (.slice A1 n1 c1)).setCell ⟨w.heap.size + 1, 2, none⟩ (.int .i64 r1)) := Kw.trans S3 fun i hi h => by omega
      generalize (((wr.setCell ⟨w.heap.size + 1, 0, none⟩ (.int .i64 V)).setCell ⟨w.heap.size + 1, 1, none⟩ (.slice A1 n1 c1)).setCell ⟨w.heap.size + 1, 2, none⟩ (.int .i64 r1)) = W6 at *
      have h0 : W6.cell? ⟨w.heap.size + 1, 0, none⟩ = some (.int .i64 V) := s1.cell 0
      have h1 : W6.cell? ⟨w.heap.size + 1, 1, none⟩ = some (.slice A1 n1 c1) := s1.cell 1
      have h2 : W6.cell? ⟨w.heap.size + 1, 2, none⟩ = some (.int .i64 r1) := s1.cell 2
      refine bodyPost_ret (v := .tuple #[.agg #[.int .i64 V, .slice A1 n1 c1, .int .i64 r1], .int .i64 0]) (by simp [results, Tryd.results62, go_sem, h0, h1, h2]) rfl ?_
      exact ⟨A1, n1, c1, r1, rfl, s2, hKf⟩
theorem shifted1_any {f : BF} {V : Nat} (hV : V ≤ 12) (he : V % 2 = 0) (A0 : Option Addr) (n0 c0 r0 : Nat) (w : World) (D0 : IsD w V f A0 n0 c0 r0) : Calls Tryd.prog 62 #[.agg #[.int .i64 V, .slice A0 n0 c0, .int .i64 r0], .int .i64 1] w (DP w V (dnF V f)) := by
  have HSTEP := Lib.hid fun n (hn : n % 2 = 0) ρ => Dd.dnF_step hn f ρ
  go_enter Tryd.func62, Tryd.ntmps62
  go_upto_region 1 with (fail)
  have Bd := Bk.new w 26 #[.int .i64 V, .slice A0 n0 c0, .int .i64 r0]
  have Bd := (Bd.alloc (.cells #[.int .i64 0, .slice none 0 0, .int .i64 0] 26))
  have Bres := Bk.new (w.alloc (.cells #[.int .i64 V, .slice A0 n0 c0, .int .i64 r0] 26)) 26 #[.int .i64 0, .slice none 0 0, .int .i64 0]
  simp only [World.size_alloc, Nat.add_assoc, Nat.reduceAdd] at Bres
  have Kw : Keep NoF w ((w.alloc (.cells #[.int .i64 V, .slice A0 n0 c0, .int .i64 r0] 26)).alloc (.cells #[.int .i64 0, .slice none 0 0, .int .i64 0] 26)) := (((Keep.refl NoF w).alloc _).alloc _)
  have Qd := D0.keep Kw
  generalize ((w.alloc (.cells #[.int .i64 V, .slice A0 n0 c0, .int .i64 r0] 26)).alloc (.cells #[.int .i64 0, .slice none 0 0, .int .i64 0] 26)) = W0 at *
  go_wp2
  go_loopw [6] (fun i wr => ∃ (j : Nat) (A : Option Addr) (n c r : Nat), i = .int .i64 ((2 * j : Nat) : Int) ∧ 2 * j ≤ V ∧ Bk wr w.heap.size 26 #[.int .i64 V, .slice A n c, .int .i64 r] ∧ IsD wr V (dnF (2 * j) f) A n c r ∧ Bk wr (w.heap.size + 1) 26 #[.int .i64 0, .slice none 0 0, .int .i64 0] ∧ Keep NoF w wr) (fun i _ => V + 2 - (intOf i).toNat)
  case atStart => exact ⟨0, _, _, _, _, rfl, by omega, Bd, by rw [Nat.mul_zero, Dd.dnF_zero]; exact Qd, Bres, Kw⟩
  case round =>
    clear Bd Qd Bres Kw
    obtain ⟨j, A1, n1, c1, r1, rfl, hj, Bd, Qd, Bres, Kw⟩ := hrel
    by_cases hlt : 2 * j < V
    · have hvar := x_var V (2 * j + 0) (by omega) (by omega)
      have HSJ := Lib.hid (HSTEP.out (2 * j) (by omega))
      rw [Nat.add_zero, show ((2 * j : Nat) : Int) = 2 * (j : Int) by omega] at hvar
      have HVAR := Lib.hid hvar
      clear hvar
      have cd0 : wr.cell? ⟨w.heap.size, 0, none⟩ = some (.int .i64 V) := Bd.cell 0
      have cd1 : wr.cell? ⟨w.heap.size, 1, none⟩ = some (.slice A1 n1 c1) := Bd.cell 1
      have cd2 : wr.cell? ⟨w.heap.size, 2, none⟩ = some (.int .i64 r1) := Bd.cell 2
      go_upto_region 5 with (go_at_call 40
                             (with_reducible refine (HVAR.out wr).mono ?_)
                             rintro e w2 ⟨A2, n2, c2, r2, rfl, D2, K2⟩
                             have Bdn := Bd.keep K2 fun h => h
                             have Ldn := Bdn.lt
                             have Bresn := Bres.keep K2 fun h => h
                             have Lresn := Bresn.lt)
      clear cd0 cd1 cd2
      have Bd_1 := Bdn.alloc (.cells #[.int .i64 V, .slice A2 n2 c2, .int .i64 r2] 26)
      have Qd_1 := (Qd.keep K2).keep ((Keep.refl NoF w2).alloc (.cells #[.int .i64 V, .slice A2 n2 c2, .int .i64 r2] 26))
      have Bres_1 := Bresn.alloc (.cells #[.int .i64 V, .slice A2 n2 c2, .int .i64 r2] 26)
      have Bx_1 := Bk.new w2 26 #[.int .i64 V, .slice A2 n2 c2, .int .i64 r2]
      have Qx_1 := D2.keep ((Keep.refl NoF w2).alloc (.cells #[.int .i64 V, .slice A2 n2 c2, .int .i64 r2] 26))
      have Kw_1 : Keep NoF w (w2.alloc (.cells #[.int .i64 V, .slice A2 n2 c2, .int .i64 r2] 26)) := (Kw.trans K2 fun _ _ h => h).alloc _
      generalize w2.alloc (.cells #[.int .i64 V, .slice A2 n2 c2, .int .i64 r2] 26) = W1 at *
      clear Bd Bres Qd Bdn Bresn Kw D2 K2
      have hcomp := x_compose (i := 2 * j + 1) (by omega) hV Qd_1 Qx_1
      rw [show ((2 * j + 1 : Nat) : Int) = 2 * (j : Int) + 1 by omega] at hcomp
      have HCOMP := Lib.hid hcomp
      clear hcomp
      have cd0 : W1.cell? ⟨w.heap.size, 0, none⟩ = some (.int .i64 V) := Bd_1.cell 0
      have cd1 : W1.cell? ⟨w.heap.size, 1, none⟩ = some (.slice A1 n1 c1) := Bd_1.cell 1
      have cd2 : W1.cell? ⟨w.heap.size, 2, none⟩ = some (.int .i64 r1) := Bd_1.cell 2
      have cx0 : W1.cell? ⟨w2.heap.size, 0, none⟩ = some (.int .i64 V) := Bx_1.cell 0
      have cx1 : W1.cell? ⟨w2.heap.size, 1, none⟩ = some (.slice A2 n2 c2) := Bx_1.cell 1
      have cx2 : W1.cell? ⟨w2.heap.size, 2, none⟩ = some (.int .i64 r2) := Bx_1.cell 2
      go_wp2_with (go_at_call 78
                   (with_reducible refine (HCOMP.out).mono ?_)
                   rintro e w3 ⟨A3, n3, c3, r3, rfl, D3, K3⟩
                   have Bdn := Bd_1.keep K3 fun h => h
                   have Ldn := Bdn.lt
                   have Bresn := Bres_1.keep K3 fun h => h
                   have Lresn := Bresn.lt
                   have Bxn := Bx_1.keep K3 fun h => h
                   have Lxn := Bxn.lt
                   have y0 : w3.cell? ⟨w.heap.size, 0, none⟩ = some (.int .i64 V) := Bdn.cell 0
                   have y1 : w3.cell? ⟨w.heap.size, 1, none⟩ = some (.slice A1 n1 c1) := Bdn.cell 1
                   have y2 : w3.cell? ⟨w.heap.size, 2, none⟩ = some (.int .i64 r1) := Bdn.cell 2
                   have yf0 := Bdn.frozen 0
                   have yf1 := Bdn.frozen 1
                   have yf2 := Bdn.frozen 2)
      clear cd0 cd1 cd2 cx0 cx1 cx2
      go_roundw
      case rel =>
        obtain ⟨s1, s2, S3⟩ := set3_box Bdn sl_nint D3
        exact ⟨j + 1, A3, n3, c3, r3, by go_num, by omega, s1, s2.congr (HSJ.out), Bresn.keep S3 fun h => by omega, (Kw_1.trans K3 fun _ _ h => h).trans S3 fun i hi h => by omega⟩
      case measure => simp only [intOf]; omega
    · have hjV : 2 * j = V := by omega
      rw [hjV] at Qd
      clear hjV
      have d0 : wr.cell? ⟨w.heap.size, 0, none⟩ = some (.int .i64 V) := Bd.cell 0
      have d1 : wr.cell? ⟨w.heap.size, 1, none⟩ = some (.slice A1 n1 c1) := Bd.cell 1
      have d2 : wr.cell? ⟨w.heap.size, 2, none⟩ = some (.int .i64 r1) := Bd.cell 2
      have hlt2 := Bd.lt
      have hlt3 := Bres.lt
      have z0 : wr.cell? ⟨w.heap.size + 1, 0, none⟩ = some (.int .i64 0) := Bres.cell 0
      have z1 : wr.cell? ⟨w.heap.size + 1, 1, none⟩ = some (.slice none 0 0) := Bres.cell 1
      have z2 : wr.cell? ⟨w.heap.size + 1, 2, none⟩ = some (.int .i64 0) := Bres.cell 2
      have zf0 := Bres.frozen 0
      have zf1 := Bres.frozen 1
      have zf2 := Bres.frozen 2
      go_wp2
      obtain ⟨s1, s2, S3⟩ := set3_box Bres sl_nint Qd
      have hKf : Keep NoF w (((wr.setCell ⟨w.heap.size + 1, 0, none⟩ (.int .i64 V)).setCell ⟨w.heap.size + 1, 1, none⟩ (.slice A1 n1 c1)).setCell ⟨w.heap.size + 1, 2, none⟩ (.int .i64 r1)) := Kw.trans S3 fun i hi h => by omega
      generalize (((wr.setCell ⟨w.heap.size + 1, 0, none⟩ (.int .i64 V)).setCell ⟨w.heap.size + 1, 1, none⟩ (.slice A1 n1 c1)).setCell ⟨w.heap.size + 1, 2, none⟩ (.int .i64 r1)) = W6 at *
      have h0 : W6.cell? ⟨w.heap.size + 1, 0, none⟩ = some (.int .i64 V) := s1.cell 0
      have h1 : W6.cell? ⟨w.heap.size + 1, 1, none⟩ = some (.slice A1 n1 c1) := s1.cell 1
      have h2 : W6.cell? ⟨w.heap.size + 1, 2, none⟩ = some (.int .i64 r1) := s1.cell 2
      refine bodyPost_ret (v := .tuple #[.agg #[.int .i64 V, .slice A1 n1 c1, .int .i64 r1], .int .i64 0]) (by simp [results, Tryd.results62, go_sem, h0, h1, h2]) rfl ?_
      exact ⟨A1, n1, c1, r1, rfl, s2, hKf⟩
theorem evN_lt (V : Nat) : evN V < 2 ^ V := Dd.enc_lt _ _
theorem odN_lt2 (V : Nat) : odN V < 2 ^ V := Dd.enc_lt _ _
theorem image_any {f g : BF} {V : Nat} (hV : V ≤ 12) (he : V % 2 = 0) (A1 : Option Addr) (n1 c1 r1 : Nat) (A2 : Option Addr) (n2 c2 r2 : Nat) (w : World) (D1 : IsD w V f A1 n1 c1 r1) (D2 : IsD w V g A2 n2 c2 r2) : Calls Tryd.prog 47 #[.agg #[.int .i64 V, .slice A1 n1 c1, .int .i64 r1], .agg #[.int .i64 V, .slice A2 n2 c2, .int .i64 r2]] w (DP w V (imF V f g)) := by
  go_enter Tryd.func47, Tryd.ntmps47
  go_upto_region 1 with (fail)
  have Br := Bk.new w 26 #[.int .i64 V, .slice A1 n1 c1, .int .i64 r1]
  have Br := ((Br.alloc (.cells #[.int .i64 V, .slice A2 n2 c2, .int .i64 r2] 26)).alloc (.cells #[.int .i64 0, .slice none 0 0, .int .i64 0] 26))
  have Bs := Bk.new (w.alloc (.cells #[.int .i64 V, .slice A1 n1 c1, .int .i64 r1] 26)) 26 #[.int .i64 V, .slice A2 n2 c2, .int .i64 r2]
  simp only [World.size_alloc, Nat.add_assoc, Nat.reduceAdd] at Bs
  have Bs := (Bs.alloc (.cells #[.int .i64 0, .slice none 0 0, .int .i64 0] 26))
  have Bres := Bk.new ((w.alloc (.cells #[.int .i64 V, .slice A1 n1 c1, .int .i64 r1] 26)).alloc (.cells #[.int .i64 V, .slice A2 n2 c2, .int .i64 r2] 26)) 26 #[.int .i64 0, .slice none 0 0, .int .i64 0]
  simp only [World.size_alloc, Nat.add_assoc, Nat.reduceAdd] at Bres
  have Kw : Keep NoF w (((w.alloc (.cells #[.int .i64 V, .slice A1 n1 c1, .int .i64 r1] 26)).alloc (.cells #[.int .i64 V, .slice A2 n2 c2, .int .i64 r2] 26)).alloc (.cells #[.int .i64 0, .slice none 0 0, .int .i64 0] 26)) := ((((Keep.refl NoF w).alloc _).alloc _).alloc _)
  have Qr := D1.keep Kw
  have Qs := D2.keep Kw
  generalize (((w.alloc (.cells #[.int .i64 V, .slice A1 n1 c1, .int .i64 r1] 26)).alloc (.cells #[.int .i64 V, .slice A2 n2 c2, .int .i64 r2] 26)).alloc (.cells #[.int .i64 0, .slice none 0 0, .int .i64 0] 26)) = W0 at *
  have HA := Lib.hid (x_and hV Qr Qs)
  have cr0 : W0.cell? ⟨w.heap.size, 0, none⟩ = some (.int .i64 V) := Br.cell 0
  have cr1 : W0.cell? ⟨w.heap.size, 1, none⟩ = some (.slice A1 n1 c1) := Br.cell 1
  have cr2 : W0.cell? ⟨w.heap.size, 2, none⟩ = some (.int .i64 r1) := Br.cell 2
  have cs0 : W0.cell? ⟨w.heap.size + 1, 0, none⟩ = some (.int .i64 V) := Bs.cell 0
  have cs1 : W0.cell? ⟨w.heap.size + 1, 1, none⟩ = some (.slice A2 n2 c2) := Bs.cell 1
  have cs2 : W0.cell? ⟨w.heap.size + 1, 2, none⟩ = some (.int .i64 r2) := Bs.cell 2
  go_upto_region 3 with (go_at_call 31
                         (with_reducible refine (HA.out).mono ?_)
                         rintro e w3 ⟨A3, n3, c3, r3, rfl, D3, K3⟩
                         have Brn := Br.keep K3 fun h => h
                         have Lrn := Brn.lt
                         have Bsn := Bs.keep K3 fun h => h
                         have Lsn := Bsn.lt
                         have Bresn := Bres.keep K3 fun h => h
                         have Lresn := Bresn.lt)
  clear cr0 cr1 cr2 cs0 cs1 cs2
  have Br_1 := Brn.alloc (.cells #[.int .i64 V, .slice A3 n3 c3, .int .i64 r3] 26)
  have Qr_1 := (Qr.keep K3).keep ((Keep.refl NoF w3).alloc (.cells #[.int .i64 V, .slice A3 n3 c3, .int .i64 r3] 26))
  have Bs_1 := Bsn.alloc (.cells #[.int .i64 V, .slice A3 n3 c3, .int .i64 r3] 26)
  have Qs_1 := (Qs.keep K3).keep ((Keep.refl NoF w3).alloc (.cells #[.int .i64 V, .slice A3 n3 c3, .int .i64 r3] 26))
  have Bres_1 := Bresn.alloc (.cells #[.int .i64 V, .slice A3 n3 c3, .int .i64 r3] 26)
  have Bd_1 := Bk.new w3 26 #[.int .i64 V, .slice A3 n3 c3, .int .i64 r3]
  have Qd_1 := D3.keep ((Keep.refl NoF w3).alloc (.cells #[.int .i64 V, .slice A3 n3 c3, .int .i64 r3] 26))
  have Kw_1 : Keep NoF w (w3.alloc (.cells #[.int .i64 V, .slice A3 n3 c3, .int .i64 r3] 26)) := (Kw.trans K3 fun _ _ h => h).alloc _
  generalize w3.alloc (.cells #[.int .i64 V, .slice A3 n3 c3, .int .i64 r3] 26) = W1 at *
  clear Br Bs Bres Qr Qs Brn Bsn Bresn Kw D3 K3
  have HEX := Lib.hid fun W (hk : Keep NoF W1 W) => x_exists (evN_lt V) hV (Qd_1.keep hk)
  have HEV := Lib.hid fun W => even_any V (by omega) he W
  have cr0 : W1.cell? ⟨w.heap.size, 0, none⟩ = some (.int .i64 V) := Br_1.cell 0
  have cr1 : W1.cell? ⟨w.heap.size, 1, none⟩ = some (.slice A1 n1 c1) := Br_1.cell 1
  have cr2 : W1.cell? ⟨w.heap.size, 2, none⟩ = some (.int .i64 r1) := Br_1.cell 2
  have cd0 : W1.cell? ⟨w3.heap.size, 0, none⟩ = some (.int .i64 V) := Bd_1.cell 0
  have cd1 : W1.cell? ⟨w3.heap.size, 1, none⟩ = some (.slice A3 n3 c3) := Bd_1.cell 1
  have cd2 : W1.cell? ⟨w3.heap.size, 2, none⟩ = some (.int .i64 r3) := Bd_1.cell 2
  have er0 : W1.drew.cell? ⟨w.heap.size, 0, none⟩ = some (.int .i64 V) := cr0
  go_region_with (first
      | (go_at_call 66
         (with_reducible refine (HEV.out _).mono ?_)
         rintro e w' ⟨rfl, hw'⟩
         obtain rfl := hw'.symm)
      | (go_at_call 65
         (with_reducible refine (HEX.out _ (Keep.refl NoF W1).drew).mono ?_)
         rintro e w4 ⟨A4, n4, c4, r4, rfl, D4, K4'⟩
         have K4 : Keep NoF W1 w4 := (Keep.refl NoF W1).drew.trans K4' fun _ _ h => h
         have er1 : w4.cell? ⟨w.heap.size, 0, none⟩ = some (.int .i64 V) := (Br_1.keep K4 fun h => h).cell 0
         have Brn := Br_1.keep K4 fun h => h
         have Lrn := Brn.lt
         have Bsn := Bs_1.keep K4 fun h => h
         have Lsn := Bsn.lt
         have Bresn := Bres_1.keep K4 fun h => h
         have Lresn := Bresn.lt
         have Bdn := Bd_1.keep K4 fun h => h
         have Ldn := Bdn.lt
         have y0 : w4.cell? ⟨w3.heap.size, 0, none⟩ = some (.int .i64 V) := Bdn.cell 0
         have y1 : w4.cell? ⟨w3.heap.size, 1, none⟩ = some (.slice A3 n3 c3) := Bdn.cell 1
         have y2 : w4.cell? ⟨w3.heap.size, 2, none⟩ = some (.int .i64 r3) := Bdn.cell 2
         have yf0 := Bdn.frozen 0
         have yf1 := Bdn.frozen 1
         have yf2 := Bdn.frozen 2))
  all_goals
    clear er0 er1
    clear cr0 cr1 cr2 cd0 cd1 cd2
    obtain ⟨Bd_2, Qd_2, S3⟩ := set3_box Bdn sl_nint D4
    have Br_2 := Brn.keep S3 fun h => by omega
    have Qr_2 := (Qr_1.keep K4).far_box Bdn sl_nint S3
    have Bs_2 := Bsn.keep S3 fun h => by omega
    have Qs_2 := (Qs_1.keep K4).far_box Bdn sl_nint S3
    have Bres_2 := Bresn.keep S3 fun h => by omega
    have Kw_2 : Keep NoF w (((w4.setCell ⟨w3.heap.size, 0, none⟩ (.int .i64 V)).setCell ⟨w3.heap.size, 1, none⟩ (.slice A4 n4 c4)).setCell ⟨w3.heap.size, 2, none⟩ (.int .i64 r4)) := (Kw_1.trans K4 fun _ _ h => h).trans S3 fun i hi h => by omega
    generalize (((w4.setCell ⟨w3.heap.size, 0, none⟩ (.int .i64 V)).setCell ⟨w3.heap.size, 1, none⟩ (.slice A4 n4 c4)).setCell ⟨w3.heap.size, 2, none⟩ (.int .i64 r4)) = W2 at *
    clear Br_1 Bs_1 Bres_1 Bd_1 Qr_1 Qs_1 Qd_1 Brn Bsn Bresn Bdn Kw_1 D4 K4 S3 y0 y1 y2 yf0 yf1 yf2
    have HSH := Lib.hid (shifted1_any hV he _ _ _ _ _ Qd_2)
    have cr0 : W2.cell? ⟨w.heap.size, 0, none⟩ = some (.int .i64 V) := Br_2.cell 0
    have cr1 : W2.cell? ⟨w.heap.size, 1, none⟩ = some (.slice A1 n1 c1) := Br_2.cell 1
    have cr2 : W2.cell? ⟨w.heap.size, 2, none⟩ = some (.int .i64 r1) := Br_2.cell 2
    have cs0 : W2.cell? ⟨w.heap.size + 1, 0, none⟩ = some (.int .i64 V) := Bs_2.cell 0
    have cs1 : W2.cell? ⟨w.heap.size + 1, 1, none⟩ = some (.slice A2 n2 c2) := Bs_2.cell 1
    have cs2 : W2.cell? ⟨w.heap.size + 1, 2, none⟩ = some (.int .i64 r2) := Bs_2.cell 2
    have cd0 : W2.cell? ⟨w3.heap.size, 0, none⟩ = some (.int .i64 V) := Bd_2.cell 0
    have cd1 : W2.cell? ⟨w3.heap.size, 1, none⟩ = some (.slice A4 n4 c4) := Bd_2.cell 1
    have cd2 : W2.cell? ⟨w3.heap.size, 2, none⟩ = some (.int .i64 r4) := Bd_2.cell 2
    go_wp2_with (go_at_call 62
                 (with_reducible refine (HSH.out).mono ?_)
                 rintro e w5 ⟨A5, n5, c5, r5, rfl, D5, K5⟩
                 have Brn := Br_2.keep K5 fun h => h
                 have Lrn := Brn.lt
                 have Bsn := Bs_2.keep K5 fun h => h
                 have Lsn := Bsn.lt
                 have Bresn := Bres_2.keep K5 fun h => h
                 have Lresn := Bresn.lt
                 have Bdn := Bd_2.keep K5 fun h => h
                 have Ldn := Bdn.lt
                 have y0 : w5.cell? ⟨w.heap.size + 2, 0, none⟩ = some (.int .i64 0) := Bresn.cell 0
                 have y1 : w5.cell? ⟨w.heap.size + 2, 1, none⟩ = some (.slice none 0 0) := Bresn.cell 1
                 have y2 : w5.cell? ⟨w.heap.size + 2, 2, none⟩ = some (.int .i64 0) := Bresn.cell 2
                 have yf0 := Bresn.frozen 0
                 have yf1 := Bresn.frozen 1
                 have yf2 := Bresn.frozen 2)
    clear cr0 cr1 cr2 cs0 cs1 cs2 cd0 cd1 cd2
    obtain ⟨Bres_3, Qres_3, S3⟩ := set3_box Bresn sl_nint D5
    have Br_3 := Brn.keep S3 fun h => by omega
    have Qr_3 := (Qr_2.keep K5).far_box Bresn sl_nint S3
    have Bs_3 := Bsn.keep S3 fun h => by omega
    have Qs_3 := (Qs_2.keep K5).far_box Bresn sl_nint S3
    have Bd_3 := Bdn.keep S3 fun h => by omega
    have Qd_3 := (Qd_2.keep K5).far_box Bresn sl_nint S3
    have Kw_3 : Keep NoF w (((w5.setCell ⟨w.heap.size + 2, 0, none⟩ (.int .i64 V)).setCell ⟨w.heap.size + 2, 1, none⟩ (.slice A5 n5 c5)).setCell ⟨w.heap.size + 2, 2, none⟩ (.int .i64 r5)) := (Kw_2.trans K5 fun _ _ h => h).trans S3 fun i hi h => by omega
    generalize (((w5.setCell ⟨w.heap.size + 2, 0, none⟩ (.int .i64 V)).setCell ⟨w.heap.size + 2, 1, none⟩ (.slice A5 n5 c5)).setCell ⟨w.heap.size + 2, 2, none⟩ (.int .i64 r5)) = W3 at *
    clear Br_2 Bs_2 Bres_2 Bd_2 Qr_2 Qs_2 Qd_2 Brn Bsn Bresn Bdn Kw_2 D5 K5 S3 y0 y1 y2 yf0 yf1 yf2
    have h0 : W3.cell? ⟨w.heap.size + 2, 0, none⟩ = some (.int .i64 V) := Bres_3.cell 0
    have h1 : W3.cell? ⟨w.heap.size + 2, 1, none⟩ = some (.slice A5 n5 c5) := Bres_3.cell 1
    have h2 : W3.cell? ⟨w.heap.size + 2, 2, none⟩ = some (.int .i64 r5) := Bres_3.cell 2
    refine bodyPost_ret (v := .tuple #[.agg #[.int .i64 V, .slice A5 n5 c5, .int .i64 r5], .int .i64 0]) (by simp [results, Tryd.results47, go_sem, h0, h1, h2]) rfl ?_
    exact ⟨A5, n5, c5, r5, rfl, Qres_3, Kw_3⟩
theorem pre_any {f g : BF} {V : Nat} (hV : V ≤ 12) (he : V % 2 = 0) (A1 : Option Addr) (n1 c1 r1 : Nat) (A2 : Option Addr) (n2 c2 r2 : Nat) (w : World) (D1 : IsD w V f A1 n1 c1 r1) (D2 : IsD w V g A2 n2 c2 r2) : Calls Tryd.prog 46 #[.agg #[.int .i64 V, .slice A1 n1 c1, .int .i64 r1], .agg #[.int .i64 V, .slice A2 n2 c2, .int .i64 r2]] w (DP w V (prF V f g)) := by
  go_enter Tryd.func46, Tryd.ntmps46
  go_upto_region 1 with (fail)
  have Br := Bk.new w 26 #[.int .i64 V, .slice A1 n1 c1, .int .i64 r1]
  have Br := ((Br.alloc (.cells #[.int .i64 V, .slice A2 n2 c2, .int .i64 r2] 26)).alloc (.cells #[.int .i64 0, .slice none 0 0, .int .i64 0] 26))
  have Bs := Bk.new (w.alloc (.cells #[.int .i64 V, .slice A1 n1 c1, .int .i64 r1] 26)) 26 #[.int .i64 V, .slice A2 n2 c2, .int .i64 r2]
  simp only [World.size_alloc, Nat.add_assoc, Nat.reduceAdd] at Bs
  have Bs := (Bs.alloc (.cells #[.int .i64 0, .slice none 0 0, .int .i64 0] 26))
  have Bres := Bk.new ((w.alloc (.cells #[.int .i64 V, .slice A1 n1 c1, .int .i64 r1] 26)).alloc (.cells #[.int .i64 V, .slice A2 n2 c2, .int .i64 r2] 26)) 26 #[.int .i64 0, .slice none 0 0, .int .i64 0]
  simp only [World.size_alloc, Nat.add_assoc, Nat.reduceAdd] at Bres
  have Kw : Keep NoF w (((w.alloc (.cells #[.int .i64 V, .slice A1 n1 c1, .int .i64 r1] 26)).alloc (.cells #[.int .i64 V, .slice A2 n2 c2, .int .i64 r2] 26)).alloc (.cells #[.int .i64 0, .slice none 0 0, .int .i64 0] 26)) := ((((Keep.refl NoF w).alloc _).alloc _).alloc _)
  have Qr := D1.keep Kw
  have Qs := D2.keep Kw
  generalize (((w.alloc (.cells #[.int .i64 V, .slice A1 n1 c1, .int .i64 r1] 26)).alloc (.cells #[.int .i64 V, .slice A2 n2 c2, .int .i64 r2] 26)).alloc (.cells #[.int .i64 0, .slice none 0 0, .int .i64 0] 26)) = W0 at *
  have HSH := Lib.hid (shifted0_any hV he _ _ _ _ _ Qs)
  have cr0 : W0.cell? ⟨w.heap.size, 0, none⟩ = some (.int .i64 V) := Br.cell 0
  have cr1 : W0.cell? ⟨w.heap.size, 1, none⟩ = some (.slice A1 n1 c1) := Br.cell 1
  have cr2 : W0.cell? ⟨w.heap.size, 2, none⟩ = some (.int .i64 r1) := Br.cell 2
  have cs0 : W0.cell? ⟨w.heap.size + 1, 0, none⟩ = some (.int .i64 V) := Bs.cell 0
  have cs1 : W0.cell? ⟨w.heap.size + 1, 1, none⟩ = some (.slice A2 n2 c2) := Bs.cell 1
  have cs2 : W0.cell? ⟨w.heap.size + 1, 2, none⟩ = some (.int .i64 r2) := Bs.cell 2
  go_upto_region 2 with (go_at_call 62
                         (with_reducible refine (HSH.out).mono ?_)
                         rintro e w3 ⟨A3, n3, c3, r3, rfl, D3, K3⟩
                         have Brn := Br.keep K3 fun h => h
                         have Lrn := Brn.lt
                         have Bsn := Bs.keep K3 fun h => h
                         have Lsn := Bsn.lt
                         have Bresn := Bres.keep K3 fun h => h
                         have Lresn := Bresn.lt)
  clear cr0 cr1 cr2 cs0 cs1 cs2
  have Br_1 := Brn.alloc (.cells #[.int .i64 V, .slice A3 n3 c3, .int .i64 r3] 26)
  have Qr_1 := (Qr.keep K3).keep ((Keep.refl NoF w3).alloc (.cells #[.int .i64 V, .slice A3 n3 c3, .int .i64 r3] 26))
  have Bs_1 := Bsn.alloc (.cells #[.int .i64 V, .slice A3 n3 c3, .int .i64 r3] 26)
  have Qs_1 := (Qs.keep K3).keep ((Keep.refl NoF w3).alloc (.cells #[.int .i64 V, .slice A3 n3 c3, .int .i64 r3] 26))
  have Bres_1 := Bresn.alloc (.cells #[.int .i64 V, .slice A3 n3 c3, .int .i64 r3] 26)
  have Bd_1 := Bk.new w3 26 #[.int .i64 V, .slice A3 n3 c3, .int .i64 r3]
  have Qd_1 := D3.keep ((Keep.refl NoF w3).alloc (.cells #[.int .i64 V, .slice A3 n3 c3, .int .i64 r3] 26))
  have Kw_1 : Keep NoF w (w3.alloc (.cells #[.int .i64 V, .slice A3 n3 c3, .int .i64 r3] 26)) := (Kw.trans K3 fun _ _ h => h).alloc _
  generalize w3.alloc (.cells #[.int .i64 V, .slice A3 n3 c3, .int .i64 r3] 26) = W1 at *
  clear Br Bs Bres Qr Qs Brn Bsn Bresn Kw D3 K3
  have HA := Lib.hid (x_and hV Qr_1 Qd_1)
  have cr0 : W1.cell? ⟨w.heap.size, 0, none⟩ = some (.int .i64 V) := Br_1.cell 0
  have cr1 : W1.cell? ⟨w.heap.size, 1, none⟩ = some (.slice A1 n1 c1) := Br_1.cell 1
  have cr2 : W1.cell? ⟨w.heap.size, 2, none⟩ = some (.int .i64 r1) := Br_1.cell 2
  have cs0 : W1.cell? ⟨w.heap.size + 1, 0, none⟩ = some (.int .i64 V) := Bs_1.cell 0
  have cs1 : W1.cell? ⟨w.heap.size + 1, 1, none⟩ = some (.slice A2 n2 c2) := Bs_1.cell 1
  have cs2 : W1.cell? ⟨w.heap.size + 1, 2, none⟩ = some (.int .i64 r2) := Bs_1.cell 2
  have cd0 : W1.cell? ⟨w3.heap.size, 0, none⟩ = some (.int .i64 V) := Bd_1.cell 0
  have cd1 : W1.cell? ⟨w3.heap.size, 1, none⟩ = some (.slice A3 n3 c3) := Bd_1.cell 1
  have cd2 : W1.cell? ⟨w3.heap.size, 2, none⟩ = some (.int .i64 r3) := Bd_1.cell 2
  go_upto_region 6 with (go_at_call 31
                         (with_reducible refine (HA.out).mono ?_)
                         rintro e w4 ⟨A4, n4, c4, r4, rfl, D4, K4⟩
                         have Brn := Br_1.keep K4 fun h => h
                         have Lrn := Brn.lt
                         have Bsn := Bs_1.keep K4 fun h => h
                         have Lsn := Bsn.lt
                         have Bresn := Bres_1.keep K4 fun h => h
                         have Lresn := Bresn.lt
                         have Bdn := Bd_1.keep K4 fun h => h
                         have Ldn := Bdn.lt
                         have y0 : w4.cell? ⟨w3.heap.size, 0, none⟩ = some (.int .i64 V) := Bdn.cell 0
                         have y1 : w4.cell? ⟨w3.heap.size, 1, none⟩ = some (.slice A3 n3 c3) := Bdn.cell 1
                         have y2 : w4.cell? ⟨w3.heap.size, 2, none⟩ = some (.int .i64 r3) := Bdn.cell 2
                         have yf0 := Bdn.frozen 0
                         have yf1 := Bdn.frozen 1
                         have yf2 := Bdn.frozen 2)
  clear cr0 cr1 cr2 cs0 cs1 cs2 cd0 cd1 cd2
  obtain ⟨Bd_2, Qd_2, S3⟩ := set3_box Bdn sl_nint D4
  have Br_2 := Brn.keep S3 fun h => by omega
  have Qr_2 := (Qr_1.keep K4).far_box Bdn sl_nint S3
  have Bs_2 := Bsn.keep S3 fun h => by omega
  have Qs_2 := (Qs_1.keep K4).far_box Bdn sl_nint S3
  have Bres_2 := Bresn.keep S3 fun h => by omega
  have Kw_2 : Keep NoF w (((w4.setCell ⟨w3.heap.size, 0, none⟩ (.int .i64 V)).setCell ⟨w3.heap.size, 1, none⟩ (.slice A4 n4 c4)).setCell ⟨w3.heap.size, 2, none⟩ (.int .i64 r4)) := (Kw_1.trans K4 fun _ _ h => h).trans S3 fun i hi h => by omega
  generalize (((w4.setCell ⟨w3.heap.size, 0, none⟩ (.int .i64 V)).setCell ⟨w3.heap.size, 1, none⟩ (.slice A4 n4 c4)).setCell ⟨w3.heap.size, 2, none⟩ (.int .i64 r4)) = W2 at *
  clear Br_1 Bs_1 Bres_1 Bd_1 Qr_1 Qs_1 Qd_1 Brn Bsn Bresn Bdn Kw_1 D4 K4 S3 y0 y1 y2 yf0 yf1 yf2
  have HEX := Lib.hid fun W (hk : Keep NoF W2 W) => x_exists (odN_lt2 V) hV (Qd_2.keep hk)
  have HEV := Lib.hid fun W => odd_any V (by omega) W
  have cr0 : W2.cell? ⟨w.heap.size, 0, none⟩ = some (.int .i64 V) := Br_2.cell 0
  have cr1 : W2.cell? ⟨w.heap.size, 1, none⟩ = some (.slice A1 n1 c1) := Br_2.cell 1
  have cr2 : W2.cell? ⟨w.heap.size, 2, none⟩ = some (.int .i64 r1) := Br_2.cell 2
  have cd0 : W2.cell? ⟨w3.heap.size, 0, none⟩ = some (.int .i64 V) := Bd_2.cell 0
  have cd1 : W2.cell? ⟨w3.heap.size, 1, none⟩ = some (.slice A4 n4 c4) := Bd_2.cell 1
  have cd2 : W2.cell? ⟨w3.heap.size, 2, none⟩ = some (.int .i64 r4) := Bd_2.cell 2
  have ed0 : W2.drew.cell? ⟨w3.heap.size, 0, none⟩ = some (.int .i64 V) := cd0
  have ed1 : W2.drew.cell? ⟨w3.heap.size, 1, none⟩ = some (.slice A4 n4 c4) := cd1
  have ed2 : W2.drew.cell? ⟨w3.heap.size, 2, none⟩ = some (.int .i64 r4) := cd2
  have er0 : W2.drew.cell? ⟨w.heap.size, 0, none⟩ = some (.int .i64 V) := cr0
  go_region_held3 (fun w' => w'.cell? ⟨w.heap.size, 0, none⟩ = some (.int .i64 V) ∧ w'.cell? ⟨w3.heap.size, 0, none⟩ = some (.int .i64 V) ∧ w'.cell? ⟨w3.heap.size, 1, none⟩ = some (.slice A4 n4 c4) ∧ w'.cell? ⟨w3.heap.size, 2, none⟩ = some (.int .i64 r4))
    (first
      | with_reducible exact ⟨er0, ed0, ed1, ed2⟩
      | with_reducible exact ⟨er1, ee0, ee1, ee2⟩
      | exact ⟨(keep_set3 _ _ _ _ _).cellv er1 (by simp <;> omega), (keep_set3 _ _ _ _ _).cellv ee0 (by simp <;> omega), (keep_set3 _ _ _ _ _).cellv ee1 (by simp <;> omega), (keep_set3 _ _ _ _ _).cellv ee2 (by simp <;> omega)⟩)
    (first
      | (go_at_call 59
         (with_reducible refine (HEV.out _).mono ?_)
         rintro e w' ⟨rfl, hw'⟩
         obtain rfl := hw'.symm)
      | (go_at_call 65
         (with_reducible refine (HEX.out _ (Keep.refl NoF W2).drew).mono ?_)
         rintro e w5 ⟨A5, n5, c5, r5, rfl, D5, K5'⟩
         have K5 : Keep NoF W2 w5 := (Keep.refl NoF W2).drew.trans K5' fun _ _ h => h
         have er1 : w5.cell? ⟨w.heap.size, 0, none⟩ = some (.int .i64 V) := (Br_2.keep K5 fun h => h).cell 0
         have ee0 : w5.cell? ⟨w3.heap.size, 0, none⟩ = some (.int .i64 V) := (Bd_2.keep K5 fun h => h).cell 0
         have ee1 : w5.cell? ⟨w3.heap.size, 1, none⟩ = some (.slice A4 n4 c4) := (Bd_2.keep K5 fun h => h).cell 1
         have ee2 : w5.cell? ⟨w3.heap.size, 2, none⟩ = some (.int .i64 r4) := (Bd_2.keep K5 fun h => h).cell 2
         have Brn := Br_2.keep K5 fun h => h
         have Lrn := Brn.lt
         have Bsn := Bs_2.keep K5 fun h => h
         have Lsn := Bsn.lt
         have Bresn := Bres_2.keep K5 fun h => h
         have Lresn := Bresn.lt
         have Bdn := Bd_2.keep K5 fun h => h
         have Ldn := Bdn.lt
         have y0 : w5.cell? ⟨w.heap.size + 2, 0, none⟩ = some (.int .i64 0) := Bresn.cell 0
         have y1 : w5.cell? ⟨w.heap.size + 2, 1, none⟩ = some (.slice none 0 0) := Bresn.cell 1
         have y2 : w5.cell? ⟨w.heap.size + 2, 2, none⟩ = some (.int .i64 0) := Bresn.cell 2
         have yf0 := Bresn.frozen 0
         have yf1 := Bresn.frozen 1
         have yf2 := Bresn.frozen 2))
  all_goals
    clear er0 er1 ed0 ed1 ed2 ee0 ee1 ee2
    clear cr0 cr1 cr2 cd0 cd1 cd2
    go_wp2
    obtain ⟨Bres_3, Qres_3, S3⟩ := set3_box Bresn sl_nint D5
    have Br_3 := Brn.keep S3 fun h => by omega
    have Qr_3 := (Qr_2.keep K5).far_box Bresn sl_nint S3
    have Bs_3 := Bsn.keep S3 fun h => by omega
    have Qs_3 := (Qs_2.keep K5).far_box Bresn sl_nint S3
    have Bd_3 := Bdn.keep S3 fun h => by omega
    have Qd_3 := (Qd_2.keep K5).far_box Bresn sl_nint S3
    have Kw_3 : Keep NoF w (((w5.setCell ⟨w.heap.size + 2, 0, none⟩ (.int .i64 V)).setCell ⟨w.heap.size + 2, 1, none⟩ (.slice A5 n5 c5)).setCell ⟨w.heap.size + 2, 2, none⟩ (.int .i64 r5)) := (Kw_2.trans K5 fun _ _ h => h).trans S3 fun i hi h => by omega
    generalize (((w5.setCell ⟨w.heap.size + 2, 0, none⟩ (.int .i64 V)).setCell ⟨w.heap.size + 2, 1, none⟩ (.slice A5 n5 c5)).setCell ⟨w.heap.size + 2, 2, none⟩ (.int .i64 r5)) = W3 at *
    clear Br_2 Bs_2 Bres_2 Bd_2 Qr_2 Qs_2 Qd_2 Brn Bsn Bresn Bdn Kw_2 D5 K5 S3 y0 y1 y2 yf0 yf1 yf2
    have h0 : W3.cell? ⟨w.heap.size + 2, 0, none⟩ = some (.int .i64 V) := Bres_3.cell 0
    have h1 : W3.cell? ⟨w.heap.size + 2, 1, none⟩ = some (.slice A5 n5 c5) := Bres_3.cell 1
    have h2 : W3.cell? ⟨w.heap.size + 2, 2, none⟩ = some (.int .i64 r5) := Bres_3.cell 2
    refine bodyPost_ret (v := .tuple #[.agg #[.int .i64 V, .slice A5 n5 c5, .int .i64 r5], .int .i64 0]) (by simp [results, Tryd.results46, go_sem, h0, h1, h2]) rfl ?_
    exact ⟨A5, n5, c5, r5, rfl, Qres_3, Kw_3⟩
theorem box_any {f g : BF} {V : Nat} (hV : V ≤ 12) (he : V % 2 = 0) (A1 : Option Addr) (n1 c1 r1 : Nat) (A2 : Option Addr) (n2 c2 r2 : Nat) (w : World) (D1 : IsD w V f A1 n1 c1 r1) (D2 : IsD w V g A2 n2 c2 r2) : Calls Tryd.prog 33 #[.agg #[.int .i64 V, .slice A1 n1 c1, .int .i64 r1], .agg #[.int .i64 V, .slice A2 n2 c2, .int .i64 r2]] w (DP w V (boF V f g)) := by
  go_enter Tryd.func33, Tryd.ntmps33
  go_upto_region 1 with (fail)
  have Br := Bk.new w 26 #[.int .i64 V, .slice A1 n1 c1, .int .i64 r1]
  have Br := ((Br.alloc (.cells #[.int .i64 V, .slice A2 n2 c2, .int .i64 r2] 26)).alloc (.cells #[.int .i64 0, .slice none 0 0, .int .i64 0] 26))
  have Bs := Bk.new (w.alloc (.cells #[.int .i64 V, .slice A1 n1 c1, .int .i64 r1] 26)) 26 #[.int .i64 V, .slice A2 n2 c2, .int .i64 r2]
  simp only [World.size_alloc, Nat.add_assoc, Nat.reduceAdd] at Bs
  have Bs := (Bs.alloc (.cells #[.int .i64 0, .slice none 0 0, .int .i64 0] 26))
  have Bres := Bk.new ((w.alloc (.cells #[.int .i64 V, .slice A1 n1 c1, .int .i64 r1] 26)).alloc (.cells #[.int .i64 V, .slice A2 n2 c2, .int .i64 r2] 26)) 26 #[.int .i64 0, .slice none 0 0, .int .i64 0]
  simp only [World.size_alloc, Nat.add_assoc, Nat.reduceAdd] at Bres
  have Kw : Keep NoF w (((w.alloc (.cells #[.int .i64 V, .slice A1 n1 c1, .int .i64 r1] 26)).alloc (.cells #[.int .i64 V, .slice A2 n2 c2, .int .i64 r2] 26)).alloc (.cells #[.int .i64 0, .slice none 0 0, .int .i64 0] 26)) := ((((Keep.refl NoF w).alloc _).alloc _).alloc _)
  have Qr := D1.keep Kw
  have Qs := D2.keep Kw
  generalize (((w.alloc (.cells #[.int .i64 V, .slice A1 n1 c1, .int .i64 r1] 26)).alloc (.cells #[.int .i64 V, .slice A2 n2 c2, .int .i64 r2] 26)).alloc (.cells #[.int .i64 0, .slice none 0 0, .int .i64 0] 26)) = W0 at *
  have HN := Lib.hid (x_not hV Qs)
  have cr0 : W0.cell? ⟨w.heap.size, 0, none⟩ = some (.int .i64 V) := Br.cell 0
  have cr1 : W0.cell? ⟨w.heap.size, 1, none⟩ = some (.slice A1 n1 c1) := Br.cell 1
  have cr2 : W0.cell? ⟨w.heap.size, 2, none⟩ = some (.int .i64 r1) := Br.cell 2
  have cs0 : W0.cell? ⟨w.heap.size + 1, 0, none⟩ = some (.int .i64 V) := Bs.cell 0
  have cs1 : W0.cell? ⟨w.heap.size + 1, 1, none⟩ = some (.slice A2 n2 c2) := Bs.cell 1
  have cs2 : W0.cell? ⟨w.heap.size + 1, 2, none⟩ = some (.int .i64 r2) := Bs.cell 2
  go_upto_region 2 with (go_at_call 27
                         (with_reducible refine (HN.out).mono ?_)
                         rintro e w3 ⟨A3, n3, c3, r3, rfl, D3, K3⟩
                         have Brn := Br.keep K3 fun h => h
                         have Lrn := Brn.lt
                         have Bsn := Bs.keep K3 fun h => h
                         have Lsn := Bsn.lt
                         have Bresn := Bres.keep K3 fun h => h
                         have Lresn := Bresn.lt)
  clear cr0 cr1 cr2 cs0 cs1 cs2
  have Br_1 := Brn.alloc (.cells #[.int .i64 V, .slice A3 n3 c3, .int .i64 r3] 26)
  have Qr_1 := (Qr.keep K3).keep ((Keep.refl NoF w3).alloc (.cells #[.int .i64 V, .slice A3 n3 c3, .int .i64 r3] 26))
  have Bs_1 := Bsn.alloc (.cells #[.int .i64 V, .slice A3 n3 c3, .int .i64 r3] 26)
  have Qs_1 := (Qs.keep K3).keep ((Keep.refl NoF w3).alloc (.cells #[.int .i64 V, .slice A3 n3 c3, .int .i64 r3] 26))
  have Bres_1 := Bresn.alloc (.cells #[.int .i64 V, .slice A3 n3 c3, .int .i64 r3] 26)
  have Bd_1 := Bk.new w3 26 #[.int .i64 V, .slice A3 n3 c3, .int .i64 r3]
  have Qd_1 := D3.keep ((Keep.refl NoF w3).alloc (.cells #[.int .i64 V, .slice A3 n3 c3, .int .i64 r3] 26))
  have Kw_1 : Keep NoF w (w3.alloc (.cells #[.int .i64 V, .slice A3 n3 c3, .int .i64 r3] 26)) := (Kw.trans K3 fun _ _ h => h).alloc _
  generalize w3.alloc (.cells #[.int .i64 V, .slice A3 n3 c3, .int .i64 r3] 26) = W1 at *
  clear Br Bs Bres Qr Qs Brn Bsn Bresn Kw D3 K3
  have HP := Lib.hid (pre_any hV he _ _ _ _ _ _ _ _ _ Qr_1 Qd_1)
  have cr0 : W1.cell? ⟨w.heap.size, 0, none⟩ = some (.int .i64 V) := Br_1.cell 0
  have cr1 : W1.cell? ⟨w.heap.size, 1, none⟩ = some (.slice A1 n1 c1) := Br_1.cell 1
  have cr2 : W1.cell? ⟨w.heap.size, 2, none⟩ = some (.int .i64 r1) := Br_1.cell 2
  have cs0 : W1.cell? ⟨w.heap.size + 1, 0, none⟩ = some (.int .i64 V) := Bs_1.cell 0
  have cs1 : W1.cell? ⟨w.heap.size + 1, 1, none⟩ = some (.slice A2 n2 c2) := Bs_1.cell 1
  have cs2 : W1.cell? ⟨w.heap.size + 1, 2, none⟩ = some (.int .i64 r2) := Bs_1.cell 2
  have cd0 : W1.cell? ⟨w3.heap.size, 0, none⟩ = some (.int .i64 V) := Bd_1.cell 0
  have cd1 : W1.cell? ⟨w3.heap.size, 1, none⟩ = some (.slice A3 n3 c3) := Bd_1.cell 1
  have cd2 : W1.cell? ⟨w3.heap.size, 2, none⟩ = some (.int .i64 r3) := Bd_1.cell 2
  go_upto_region 4 with (go_at_call 46
                         (with_reducible refine (HP.out).mono ?_)
                         rintro e w4 ⟨A4, n4, c4, r4, rfl, D4, K4⟩
                         have Brn := Br_1.keep K4 fun h => h
                         have Lrn := Brn.lt
                         have Bsn := Bs_1.keep K4 fun h => h
                         have Lsn := Bsn.lt
                         have Bresn := Bres_1.keep K4 fun h => h
                         have Lresn := Bresn.lt
                         have Bdn := Bd_1.keep K4 fun h => h
                         have Ldn := Bdn.lt
                         have y0 : w4.cell? ⟨w3.heap.size, 0, none⟩ = some (.int .i64 V) := Bdn.cell 0
                         have y1 : w4.cell? ⟨w3.heap.size, 1, none⟩ = some (.slice A3 n3 c3) := Bdn.cell 1
                         have y2 : w4.cell? ⟨w3.heap.size, 2, none⟩ = some (.int .i64 r3) := Bdn.cell 2
                         have yf0 := Bdn.frozen 0
                         have yf1 := Bdn.frozen 1
                         have yf2 := Bdn.frozen 2)
  clear cr0 cr1 cr2 cs0 cs1 cs2 cd0 cd1 cd2
  obtain ⟨Bd_2, Qd_2, S3⟩ := set3_box Bdn sl_nint D4
  have Br_2 := Brn.keep S3 fun h => by omega
  have Qr_2 := (Qr_1.keep K4).far_box Bdn sl_nint S3
  have Bs_2 := Bsn.keep S3 fun h => by omega
  have Qs_2 := (Qs_1.keep K4).far_box Bdn sl_nint S3
  have Bres_2 := Bresn.keep S3 fun h => by omega
  have Kw_2 : Keep NoF w (((w4.setCell ⟨w3.heap.size, 0, none⟩ (.int .i64 V)).setCell ⟨w3.heap.size, 1, none⟩ (.slice A4 n4 c4)).setCell ⟨w3.heap.size, 2, none⟩ (.int .i64 r4)) := (Kw_1.trans K4 fun _ _ h => h).trans S3 fun i hi h => by omega
  generalize (((w4.setCell ⟨w3.heap.size, 0, none⟩ (.int .i64 V)).setCell ⟨w3.heap.size, 1, none⟩ (.slice A4 n4 c4)).setCell ⟨w3.heap.size, 2, none⟩ (.int .i64 r4)) = W2 at *
  clear Br_1 Bs_1 Bres_1 Bd_1 Qr_1 Qs_1 Qd_1 Brn Bsn Bresn Bdn Kw_1 D4 K4 S3 y0 y1 y2 yf0 yf1 yf2
  have HM := Lib.hid (x_not hV Qd_2)
  have cr0 : W2.cell? ⟨w.heap.size, 0, none⟩ = some (.int .i64 V) := Br_2.cell 0
  have cr1 : W2.cell? ⟨w.heap.size, 1, none⟩ = some (.slice A1 n1 c1) := Br_2.cell 1
  have cr2 : W2.cell? ⟨w.heap.size, 2, none⟩ = some (.int .i64 r1) := Br_2.cell 2
  have cs0 : W2.cell? ⟨w.heap.size + 1, 0, none⟩ = some (.int .i64 V) := Bs_2.cell 0
  have cs1 : W2.cell? ⟨w.heap.size + 1, 1, none⟩ = some (.slice A2 n2 c2) := Bs_2.cell 1
  have cs2 : W2.cell? ⟨w.heap.size + 1, 2, none⟩ = some (.int .i64 r2) := Bs_2.cell 2
  have cd0 : W2.cell? ⟨w3.heap.size, 0, none⟩ = some (.int .i64 V) := Bd_2.cell 0
  have cd1 : W2.cell? ⟨w3.heap.size, 1, none⟩ = some (.slice A4 n4 c4) := Bd_2.cell 1
  have cd2 : W2.cell? ⟨w3.heap.size, 2, none⟩ = some (.int .i64 r4) := Bd_2.cell 2
  go_wp2_with (go_at_call 27
               (with_reducible refine (HM.out).mono ?_)
               rintro e w5 ⟨A5, n5, c5, r5, rfl, D5, K5⟩
               have Brn := Br_2.keep K5 fun h => h
               have Lrn := Brn.lt
               have Bsn := Bs_2.keep K5 fun h => h
               have Lsn := Bsn.lt
               have Bresn := Bres_2.keep K5 fun h => h
               have Lresn := Bresn.lt
               have Bdn := Bd_2.keep K5 fun h => h
               have Ldn := Bdn.lt
               have y0 : w5.cell? ⟨w.heap.size + 2, 0, none⟩ = some (.int .i64 0) := Bresn.cell 0
               have y1 : w5.cell? ⟨w.heap.size + 2, 1, none⟩ = some (.slice none 0 0) := Bresn.cell 1
               have y2 : w5.cell? ⟨w.heap.size + 2, 2, none⟩ = some (.int .i64 0) := Bresn.cell 2
               have yf0 := Bresn.frozen 0
               have yf1 := Bresn.frozen 1
               have yf2 := Bresn.frozen 2)
  clear cr0 cr1 cr2 cs0 cs1 cs2 cd0 cd1 cd2
  obtain ⟨Bres_3, Qres_3, S3⟩ := set3_box Bresn sl_nint D5
  have Br_3 := Brn.keep S3 fun h => by omega
  have Qr_3 := (Qr_2.keep K5).far_box Bresn sl_nint S3
  have Bs_3 := Bsn.keep S3 fun h => by omega
  have Qs_3 := (Qs_2.keep K5).far_box Bresn sl_nint S3
  have Bd_3 := Bdn.keep S3 fun h => by omega
  have Qd_3 := (Qd_2.keep K5).far_box Bresn sl_nint S3
  have Kw_3 : Keep NoF w (((w5.setCell ⟨w.heap.size + 2, 0, none⟩ (.int .i64 V)).setCell ⟨w.heap.size + 2, 1, none⟩ (.slice A5 n5 c5)).setCell ⟨w.heap.size + 2, 2, none⟩ (.int .i64 r5)) := (Kw_2.trans K5 fun _ _ h => h).trans S3 fun i hi h => by omega
  generalize (((w5.setCell ⟨w.heap.size + 2, 0, none⟩ (.int .i64 V)).setCell ⟨w.heap.size + 2, 1, none⟩ (.slice A5 n5 c5)).setCell ⟨w.heap.size + 2, 2, none⟩ (.int .i64 r5)) = W3 at *
  clear Br_2 Bs_2 Bres_2 Bd_2 Qr_2 Qs_2 Qd_2 Brn Bsn Bresn Bdn Kw_2 D5 K5 S3 y0 y1 y2 yf0 yf1 yf2
  have h0 : W3.cell? ⟨w.heap.size + 2, 0, none⟩ = some (.int .i64 V) := Bres_3.cell 0
  have h1 : W3.cell? ⟨w.heap.size + 2, 1, none⟩ = some (.slice A5 n5 c5) := Bres_3.cell 1
  have h2 : W3.cell? ⟨w.heap.size + 2, 2, none⟩ = some (.int .i64 r5) := Bres_3.cell 2
  refine bodyPost_ret (v := .tuple #[.agg #[.int .i64 V, .slice A5 n5 c5, .int .i64 r5], .int .i64 0]) (by simp [results, Tryd.results33, go_sem, h0, h1, h2]) rfl ?_
  exact ⟨A5, n5, c5, r5, rfl, Qres_3, Kw_3⟩
end
end Go.Proofs.YtgdmcidcappkpaaDoor
