/- Reversed relations, images and boxes of valid operands: the program's Converse, both, Prime, Image, Pre, Box. No condition. -/
import Derived.Test.YtgdmcidcappkpaaDoorSyL
import Derived.Test.YtgdmcidcappkpaaDoorSyI
import Derived.Test.YtgdmcidcappkpaaDoorSyJ
set_option linter.unusedVariables false
set_option linter.unusedSimpArgs false
namespace Go.Proofs.YtgdmcidcappkpaaDoor
open Go.RowKit
open Dd (Rn rat ofN toN checkErr den lo var Within Valid supp canon rf swF sw1 upF dnF imF prF boF odN memN)

/-- A function of the current state alone. -/
def NoOdd (f : BF) : Prop := ∀ v, v % 2 = 1 → ∀ ρ b, f (Dd.upd ρ v b) = f ρ
theorem dg_relE {d : Dg} {V : Nat} (h : d.err = 0) (hV : d.V = V) (he : V % 2 = 0) : relE d = 0 := by
  unfold relE
  rw [if_neg (by simp [h]), if_neg (by rw [hV]; omega)]
theorem dg_setE {d : Dg} {V : Nat} {M : List Nd} {r : Nat} {sl : Value} (hd : d = ⟨V, ofN M, r, sl⟩) (H : Valid V M r) (h : d.err = 0) (he : V % 2 = 0) (hno : NoOdd (den M r)) : setE d = 0 := by
  have hV : d.V = V := by rw [hd]
  unfold setE
  rw [dg_relE h hV he, if_neg (by simp)]
  have hs : suppD d = supp M := by
    unfold suppD
    rw [if_pos h, hd, Dd.toN_ofN]
  rw [hs, hV, Int.toNat_natCast, if_neg]
  simp only [ne_eq, Decidable.not_not]
  apply Nat.eq_of_testBit_eq
  intro v
  rw [Nat.testBit_and, Nat.zero_testBit]
  cases hb : (supp M).testBit v with
  | false => rfl
  | true =>
    obtain ⟨nd, hn, rfl⟩ := (Dd.supp_bit M v).1 hb
    obtain ⟨i, i1, i2, i3⟩ := Dd.node_var hn
    rw [Bool.true_and, Dd.odN_bit]
    by_cases ho : nd.1 % 2 = 1
    · exact absurd i3 (Dd.valid_free H (hno _ ho) i i1 i2)
    · simp [ho]
section
variable {w : World} {V : Nat} {f g : BF} {A B : Option Addr} {n c r n' c' r' : Nat}
theorem relOk (D : IsD w V f A n c r) (he : V % 2 = 0) : Calls Tryd.prog 44 #[.agg #[.int .i64 V, .slice A n c, .int .i64 r]] w fun e w' => e = .returned (.int .i64 0) ∧ Keep NoF w w' := by
  obtain ⟨d, e1, e2, e3, e4, e5, _⟩ := D.dg
  have h := relErr_any d w e2
  rw [e1, dg_relE e3 e4 he] at h
  exact h
theorem setOk (D : IsD w V f A n c r) (he : V % 2 = 0) (hno : NoOdd f) : Calls Tryd.prog 34 #[.agg #[.int .i64 V, .slice A n c, .int .i64 r]] w fun e w' => e = .returned (.int .i64 0) ∧ Keep NoF w w' := by
  obtain ⟨d, e1, e2, e3, e4, e5, M, hd, hv, hM⟩ := D.dg
  have h := setErr_any d w e2
  rw [e1, dg_setE hd hv e3 he fun v hv ρ b => by rw [hM, hM, hno v hv]] at h
  exact h
theorem Members_ok (k : Nat) (hk : k ≤ 6) (D : IsD w (2 * k) f A n c r) (hno : NoOdd f) : Calls Tryd.prog 8 #[.agg #[.int .i64 (2 * k : Nat), .slice A n c, .int .i64 r]] w fun e w' => e = .returned (.tuple #[.int .u64 (memN k f (2 ^ k)), .int .i64 0]) ∧ Keep NoF w w' := by
  obtain ⟨d, e1, e2, e3, e4, e5, M, hd, hv, hM⟩ := D.dg
  have h := Members_any d w e2 (dg_setE hd hv e3 (by omega) fun v hv ρ b => by rw [hM, hM, hno v hv]) k hk e4
  rw [e1, e5] at h
  exact h
theorem Pairs_ok (k : Nat) (hk : k ≤ 6) (D : IsD w (2 * k) f A n c r) : Calls Tryd.prog 15 #[.agg #[.int .i64 (2 * k : Nat), .slice A n c, .int .i64 r]] w (ListPost w (Dd.pairsN k f) 0) := by
  obtain ⟨d, e1, e2, e3, e4, e5, M, hd, hv, hM⟩ := D.dg
  have h := Pairs_any d w e2 (dg_relE e3 e4 (by omega)) k hk e4
  rw [e1, e5] at h
  exact h
end
section
set_option maxRecDepth 100000
set_option maxHeartbeats 4000000
theorem Converse_ok {f : BF} {V : Nat} (hV : V ≤ 12) (he : V % 2 = 0) (A1 : Option Addr) (n1 c1 r1 : Nat) (w : World) (D1 : IsD w V f A1 n1 c1 r1) : Calls Tryd.prog 14 #[.agg #[.int .i64 V, .slice A1 n1 c1, .int .i64 r1]] w (DP w V (swF V f)) := by
  go_enter Tryd.func14, Tryd.ntmps14
  go_upto_region 1 with (fail)
  have Br := Bk.new w 26 #[.int .i64 V, .slice A1 n1 c1, .int .i64 r1]
  have Br := (Br.alloc (.cells #[.int .i64 0, .slice none 0 0, .int .i64 0] 26))
  have Bres := Bk.new (w.alloc (.cells #[.int .i64 V, .slice A1 n1 c1, .int .i64 r1] 26)) 26 #[.int .i64 0, .slice none 0 0, .int .i64 0]
  simp only [World.size_alloc, Nat.add_assoc, Nat.reduceAdd] at Bres
  have Kw : Keep NoF w ((w.alloc (.cells #[.int .i64 V, .slice A1 n1 c1, .int .i64 r1] 26)).alloc (.cells #[.int .i64 0, .slice none 0 0, .int .i64 0] 26)) := (((Keep.refl NoF w).alloc _).alloc _)
  have Qr := D1.keep Kw
  generalize ((w.alloc (.cells #[.int .i64 V, .slice A1 n1 c1, .int .i64 r1] 26)).alloc (.cells #[.int .i64 0, .slice none 0 0, .int .i64 0] 26)) = W0 at *
  have HREL := Lib.hid (relOk Qr he)
  have cr0 : W0.cell? ⟨w.heap.size, 0, none⟩ = some (.int .i64 V) := Br.cell 0
  have cr1 : W0.cell? ⟨w.heap.size, 1, none⟩ = some (.slice A1 n1 c1) := Br.cell 1
  have cr2 : W0.cell? ⟨w.heap.size, 2, none⟩ = some (.int .i64 r1) := Br.cell 2
  go_upto_region 4 with (go_at_call 44
                         (with_reducible refine HREL.out.mono ?_)
                         rintro e wz ⟨rfl, KZ⟩
                         have Brn := Br.keep KZ fun h => h
                         have Bresn := Bres.keep KZ fun h => h
                         have Lrn := Brn.lt
                         have Lresn := Bresn.lt)
  clear cr0 cr1 cr2
  have Brz := Brn
  have Bresz := Bresn
  have Qrz := Qr.keep KZ
  have Kwz := Kw.trans KZ fun _ _ h => h
  clear Brn Bresn Br Bres Qr Kw KZ HREL
  have cr0 : wz.cell? ⟨w.heap.size, 0, none⟩ = some (.int .i64 V) := Brz.cell 0
  have cr1 : wz.cell? ⟨w.heap.size, 1, none⟩ = some (.slice A1 n1 c1) := Brz.cell 1
  have cr2 : wz.cell? ⟨w.heap.size, 2, none⟩ = some (.int .i64 r1) := Brz.cell 2
  go_upto_region 5 with (fail)
  have Bd := Bk.new wz 26 #[.int .i64 V, .slice A1 n1 c1, .int .i64 r1]
  have Br := Brz.alloc (.cells #[.int .i64 V, .slice A1 n1 c1, .int .i64 r1] 26)
  have Bres := Bresz.alloc (.cells #[.int .i64 V, .slice A1 n1 c1, .int .i64 r1] 26)
  have Qd := Qrz.keep ((Keep.refl NoF wz).alloc (.cells #[.int .i64 V, .slice A1 n1 c1, .int .i64 r1] 26))
  have Kw : Keep NoF w (wz.alloc (.cells #[.int .i64 V, .slice A1 n1 c1, .int .i64 r1] 26)) := Kwz.alloc _
  generalize wz.alloc (.cells #[.int .i64 V, .slice A1 n1 c1, .int .i64 r1] 26) = W1 at *
  generalize wz.heap.size = bd at *
  clear cr0 cr1 cr2 Brz Bresz Qrz Kwz
  have HST := Lib.hid fun n (hn : n % 2 = 0) ρ => Dd.sw1_swF hn f ρ
  go_wp2
  go_loopw [6] (fun iv wr => ∃ (j : Nat) (A : Option Addr) (n c r : Nat), iv = .int .i64 ((2 * j : Nat) : Int) ∧ 2 * j ≤ V ∧ Bk wr bd 26 #[.int .i64 V, .slice A n c, .int .i64 r] ∧ IsD wr V (swF (2 * j) f) A n c r ∧ Bk wr w.heap.size 26 #[.int .i64 V, .slice A1 n1 c1, .int .i64 r1] ∧ Bk wr (w.heap.size + 1) 26 #[.int .i64 0, .slice none 0 0, .int .i64 0] ∧ Keep NoF w wr) (fun iv _ => V + 2 - (intOf iv).toNat)
  case atStart => exact ⟨0, _, _, _, _, rfl, by omega, Bd, by rw [Nat.mul_zero, Dd.swF_zero]; exact Qd, Br, Bres, Kw⟩
  case round =>
    clear Bd Qd Br Bres Kw
    obtain ⟨j, A2, n2, c2, r2, rfl, hj, Bd, Qd, Br, Bres, Kw⟩ := hrel
    by_cases hlt : 2 * j < V
    · have hx := fun W => x_var V (2 * j) (by omega) (by omega) W
      have hy := fun W => x_var V (2 * j + 1) (by omega) (by omega) W
      simp only [show ((2 * j : Nat) : Int) = 2 * (j : Int) by omega] at hx
      simp only [show ((2 * j + 1 : Nat) : Int) = 2 * (j : Int) + 1 by omega] at hy
      have HX := Lib.hid hx
      have HY := Lib.hid hy
      have HSJ := Lib.hid (HST.out (2 * j) (by omega))
      clear hx hy
      have cr0 : wr.cell? ⟨w.heap.size, 0, none⟩ = some (.int .i64 V) := Br.cell 0
      have cr1 : wr.cell? ⟨w.heap.size, 1, none⟩ = some (.slice A1 n1 c1) := Br.cell 1
      have cr2 : wr.cell? ⟨w.heap.size, 2, none⟩ = some (.int .i64 r1) := Br.cell 2
      go_upto_region 9 with (go_at_call 40
                             (with_reducible refine (HX.out wr).mono ?_)
                             rintro e w3 ⟨A3, n3, c3, r3, rfl, D3, K3⟩
                             have Bdn := Bd.keep K3 fun h => h
                             have Ldn := Bdn.lt
                             have Brn := Br.keep K3 fun h => h
                             have Lrn := Brn.lt
                             have Bresn := Bres.keep K3 fun h => h
                             have Lresn := Bresn.lt)
      clear cr0 cr1 cr2
      have Bd_1 := Bdn.alloc (.cells #[.int .i64 V, .slice A3 n3 c3, .int .i64 r3] 26)
      have Qd_1 := (Qd.keep K3).keep ((Keep.refl NoF w3).alloc (.cells #[.int .i64 V, .slice A3 n3 c3, .int .i64 r3] 26))
      have Br_1 := Brn.alloc (.cells #[.int .i64 V, .slice A3 n3 c3, .int .i64 r3] 26)
      have Bres_1 := Bresn.alloc (.cells #[.int .i64 V, .slice A3 n3 c3, .int .i64 r3] 26)
      have Bx_1 := Bk.new w3 26 #[.int .i64 V, .slice A3 n3 c3, .int .i64 r3]
      have Qx_1 := D3.keep ((Keep.refl NoF w3).alloc (.cells #[.int .i64 V, .slice A3 n3 c3, .int .i64 r3] 26))
      have Kw_1 : Keep NoF w (w3.alloc (.cells #[.int .i64 V, .slice A3 n3 c3, .int .i64 r3] 26)) := (Kw.trans K3 fun _ _ h => h).alloc _
      generalize w3.alloc (.cells #[.int .i64 V, .slice A3 n3 c3, .int .i64 r3] 26) = W1 at *
      clear Bd Br Bres Qd Bdn Brn Bresn Kw D3 K3
      have cr0 : W1.cell? ⟨w.heap.size, 0, none⟩ = some (.int .i64 V) := Br_1.cell 0
      have cr1 : W1.cell? ⟨w.heap.size, 1, none⟩ = some (.slice A1 n1 c1) := Br_1.cell 1
      have cr2 : W1.cell? ⟨w.heap.size, 2, none⟩ = some (.int .i64 r1) := Br_1.cell 2
      go_upto_region 12 with (go_at_call 40
                              (with_reducible refine (HY.out W1).mono ?_)
                              rintro e w4 ⟨A4, n4, c4, r4, rfl, D4, K4⟩
                              have Bdn := Bd_1.keep K4 fun h => h
                              have Ldn := Bdn.lt
                              have Brn := Br_1.keep K4 fun h => h
                              have Lrn := Brn.lt
                              have Bresn := Bres_1.keep K4 fun h => h
                              have Lresn := Bresn.lt
                              have Bxn := Bx_1.keep K4 fun h => h
                              have Lxn := Bxn.lt)
      clear cr0 cr1 cr2
      have Bd_2 := Bdn.alloc (.cells #[.int .i64 V, .slice A4 n4 c4, .int .i64 r4] 26)
      have Qd_2 := (Qd_1.keep K4).keep ((Keep.refl NoF w4).alloc (.cells #[.int .i64 V, .slice A4 n4 c4, .int .i64 r4] 26))
      have Br_2 := Brn.alloc (.cells #[.int .i64 V, .slice A4 n4 c4, .int .i64 r4] 26)
      have Bres_2 := Bresn.alloc (.cells #[.int .i64 V, .slice A4 n4 c4, .int .i64 r4] 26)
      have Bx_2 := Bxn.alloc (.cells #[.int .i64 V, .slice A4 n4 c4, .int .i64 r4] 26)
      have Qx_2 := (Qx_1.keep K4).keep ((Keep.refl NoF w4).alloc (.cells #[.int .i64 V, .slice A4 n4 c4, .int .i64 r4] 26))
      have By_2 := Bk.new w4 26 #[.int .i64 V, .slice A4 n4 c4, .int .i64 r4]
      have Qy_2 := D4.keep ((Keep.refl NoF w4).alloc (.cells #[.int .i64 V, .slice A4 n4 c4, .int .i64 r4] 26))
      have Kw_2 : Keep NoF w (w4.alloc (.cells #[.int .i64 V, .slice A4 n4 c4, .int .i64 r4] 26)) := (Kw_1.trans K4 fun _ _ h => h).alloc _
      generalize w4.alloc (.cells #[.int .i64 V, .slice A4 n4 c4, .int .i64 r4] 26) = W2 at *
      clear Bd_1 Br_1 Bres_1 Bx_1 Qd_1 Qx_1 Bdn Brn Bresn Bxn Kw_1 D4 K4
      have hsw := swap_any hV (2 * j) (by omega) _ _ _ _ _ _ _ _ _ _ _ _ _ Qd_2 Qx_2 Qy_2
      rw [show ((2 * j : Nat) : Int) = 2 * (j : Int) by omega] at hsw
      have HSW := Lib.hid hsw
      clear hsw
      have cd0 : W2.cell? ⟨bd, 0, none⟩ = some (.int .i64 V) := Bd_2.cell 0
      have cd1 : W2.cell? ⟨bd, 1, none⟩ = some (.slice A2 n2 c2) := Bd_2.cell 1
      have cd2 : W2.cell? ⟨bd, 2, none⟩ = some (.int .i64 r2) := Bd_2.cell 2
      have cr0 : W2.cell? ⟨w.heap.size, 0, none⟩ = some (.int .i64 V) := Br_2.cell 0
      have cr1 : W2.cell? ⟨w.heap.size, 1, none⟩ = some (.slice A1 n1 c1) := Br_2.cell 1
      have cr2 : W2.cell? ⟨w.heap.size, 2, none⟩ = some (.int .i64 r1) := Br_2.cell 2
      have cx0 : W2.cell? ⟨w3.heap.size, 0, none⟩ = some (.int .i64 V) := Bx_2.cell 0
      have cx1 : W2.cell? ⟨w3.heap.size, 1, none⟩ = some (.slice A3 n3 c3) := Bx_2.cell 1
      have cx2 : W2.cell? ⟨w3.heap.size, 2, none⟩ = some (.int .i64 r3) := Bx_2.cell 2
      have cy0 : W2.cell? ⟨w4.heap.size, 0, none⟩ = some (.int .i64 V) := By_2.cell 0
      have cy1 : W2.cell? ⟨w4.heap.size, 1, none⟩ = some (.slice A4 n4 c4) := By_2.cell 1
      have cy2 : W2.cell? ⟨w4.heap.size, 2, none⟩ = some (.int .i64 r4) := By_2.cell 2
      go_wp2_with (go_at_call 45
                   (with_reducible refine (HSW.out).mono ?_)
                   rintro e w5 ⟨A5, n5, c5, r5, rfl, D5, K5⟩
                   have Bdn := Bd_2.keep K5 fun h => h
                   have Ldn := Bdn.lt
                   have Brn := Br_2.keep K5 fun h => h
                   have Lrn := Brn.lt
                   have Bresn := Bres_2.keep K5 fun h => h
                   have Lresn := Bresn.lt
                   have Bxn := Bx_2.keep K5 fun h => h
                   have Lxn := Bxn.lt
                   have Byn := By_2.keep K5 fun h => h
                   have Lyn := Byn.lt
                   have y0 : w5.cell? ⟨bd, 0, none⟩ = some (.int .i64 V) := Bdn.cell 0
                   have y1 : w5.cell? ⟨bd, 1, none⟩ = some (.slice A2 n2 c2) := Bdn.cell 1
                   have y2 : w5.cell? ⟨bd, 2, none⟩ = some (.int .i64 r2) := Bdn.cell 2
                   have yf0 := Bdn.frozen 0
                   have yf1 := Bdn.frozen 1
                   have yf2 := Bdn.frozen 2)
      clear cd0 cd1 cd2 cr0 cr1 cr2 cx0 cx1 cx2 cy0 cy1 cy2
      go_roundw
      case rel =>
        obtain ⟨s1, s2, S3⟩ := set3_box Bdn sl_nint D5
        exact ⟨j + 1, A5, n5, c5, r5, by go_num, by omega, s1, s2.congr (HSJ.out), Brn.keep S3 fun h => by omega, Bresn.keep S3 fun h => by omega, (Kw_2.trans K5 fun _ _ h => h).trans S3 fun i hi h => by omega⟩
      case measure => simp only [intOf]; omega
    · have hjV : 2 * j = V := by omega
      rw [hjV] at Qd
      clear hjV
      have cr0 : wr.cell? ⟨w.heap.size, 0, none⟩ = some (.int .i64 V) := Br.cell 0
      have cr1 : wr.cell? ⟨w.heap.size, 1, none⟩ = some (.slice A1 n1 c1) := Br.cell 1
      have cr2 : wr.cell? ⟨w.heap.size, 2, none⟩ = some (.int .i64 r1) := Br.cell 2
      have cd0 : wr.cell? ⟨bd, 0, none⟩ = some (.int .i64 V) := Bd.cell 0
      have cd1 : wr.cell? ⟨bd, 1, none⟩ = some (.slice A2 n2 c2) := Bd.cell 1
      have cd2 : wr.cell? ⟨bd, 2, none⟩ = some (.int .i64 r2) := Bd.cell 2
      have hlt2 := Bd.lt
      have hlt3 := Bres.lt
      have z0 : wr.cell? ⟨w.heap.size + 1, 0, none⟩ = some (.int .i64 0) := Bres.cell 0
      have z1 : wr.cell? ⟨w.heap.size + 1, 1, none⟩ = some (.slice none 0 0) := Bres.cell 1
      have z2 : wr.cell? ⟨w.heap.size + 1, 2, none⟩ = some (.int .i64 0) := Bres.cell 2
      have zf0 := Bres.frozen 0
      have zf1 := Bres.frozen 1
      have zf2 := Bres.frozen 2
      go_wp2
      obtain ⟨s1, s2, S3⟩ := set3_box Bres sl_nint Qd
      have hKf : Keep NoF w (((wr.setCell ⟨w.heap.size + 1, 0, none⟩ (.int .i64 V)).setCell ⟨w.heap.size + 1, 1, none⟩ (.slice A2 n2 c2)).setCell ⟨w.heap.size + 1, 2, none⟩ (.int .i64 r2)) := Kw.trans S3 fun i hi h => by omega
      generalize (((wr.setCell ⟨w.heap.size + 1, 0, none⟩ (.int .i64 V)).setCell ⟨w.heap.size + 1, 1, none⟩ (.slice A2 n2 c2)).setCell ⟨w.heap.size + 1, 2, none⟩ (.int .i64 r2)) = W6 at *
      have h0 : W6.cell? ⟨w.heap.size + 1, 0, none⟩ = some (.int .i64 V) := s1.cell 0
      have h1 : W6.cell? ⟨w.heap.size + 1, 1, none⟩ = some (.slice A2 n2 c2) := s1.cell 1
      have h2 : W6.cell? ⟨w.heap.size + 1, 2, none⟩ = some (.int .i64 r2) := s1.cell 2
      refine bodyPost_ret (v := .tuple #[.agg #[.int .i64 V, .slice A2 n2 c2, .int .i64 r2], .int .i64 0]) (by simp [results, Tryd.results14, go_sem, h0, h1, h2]) rfl ?_
      exact ⟨A2, n2, c2, r2, rfl, s2, hKf⟩
theorem Prime_ok {f : BF} {V : Nat} (hV : V ≤ 12) (he : V % 2 = 0) (hno : NoOdd f) (A1 : Option Addr) (n1 c1 r1 : Nat) (w : World) (D1 : IsD w V f A1 n1 c1 r1) : Calls Tryd.prog 41 #[.agg #[.int .i64 V, .slice A1 n1 c1, .int .i64 r1]] w (DP w V (upF V f)) := by
  go_enter Tryd.func41, Tryd.ntmps41
  go_upto_region 1 with (fail)
  have Bs := Bk.new w 26 #[.int .i64 V, .slice A1 n1 c1, .int .i64 r1]
  have Bs := (Bs.alloc (.cells #[.int .i64 0, .slice none 0 0, .int .i64 0] 26))
  have Bres := Bk.new (w.alloc (.cells #[.int .i64 V, .slice A1 n1 c1, .int .i64 r1] 26)) 26 #[.int .i64 0, .slice none 0 0, .int .i64 0]
  simp only [World.size_alloc, Nat.add_assoc, Nat.reduceAdd] at Bres
  have Kw : Keep NoF w ((w.alloc (.cells #[.int .i64 V, .slice A1 n1 c1, .int .i64 r1] 26)).alloc (.cells #[.int .i64 0, .slice none 0 0, .int .i64 0] 26)) := (((Keep.refl NoF w).alloc _).alloc _)
  have Qs := D1.keep Kw
  generalize ((w.alloc (.cells #[.int .i64 V, .slice A1 n1 c1, .int .i64 r1] 26)).alloc (.cells #[.int .i64 0, .slice none 0 0, .int .i64 0] 26)) = W0 at *
  have HS := Lib.hid (setOk Qs he hno)
  have cs0 : W0.cell? ⟨w.heap.size, 0, none⟩ = some (.int .i64 V) := Bs.cell 0
  have cs1 : W0.cell? ⟨w.heap.size, 1, none⟩ = some (.slice A1 n1 c1) := Bs.cell 1
  have cs2 : W0.cell? ⟨w.heap.size, 2, none⟩ = some (.int .i64 r1) := Bs.cell 2
  go_upto_region 4 with (go_at_call 34
                         (with_reducible refine HS.out.mono ?_)
                         rintro e wz ⟨rfl, KZ⟩
                         have Bsn := Bs.keep KZ fun h => h
                         have Bresn := Bres.keep KZ fun h => h)
  clear cs0 cs1 cs2
  have Qsz := Qs.keep KZ
  have Kwz := Kw.trans KZ fun _ _ h => h
  clear Bs Bres Qs Kw KZ HS
  have Bsz := Bsn
  have Bresz := Bresn
  clear Bsn Bresn
  have HSH := Lib.hid (shifted0_any hV he _ _ _ _ _ Qsz)
  have cs0 : wz.cell? ⟨w.heap.size, 0, none⟩ = some (.int .i64 V) := Bsz.cell 0
  have cs1 : wz.cell? ⟨w.heap.size, 1, none⟩ = some (.slice A1 n1 c1) := Bsz.cell 1
  have cs2 : wz.cell? ⟨w.heap.size, 2, none⟩ = some (.int .i64 r1) := Bsz.cell 2
  go_wp2_with (go_at_call 62
               (with_reducible refine (HSH.out).mono ?_)
               rintro e w2 ⟨A2, n2, c2, r2, rfl, D2, K2⟩
               have Bsn := Bsz.keep K2 fun h => h
               have Lsn := Bsn.lt
               have Bresn := Bresz.keep K2 fun h => h
               have Lresn := Bresn.lt
               have y0 : w2.cell? ⟨w.heap.size + 1, 0, none⟩ = some (.int .i64 0) := Bresn.cell 0
               have y1 : w2.cell? ⟨w.heap.size + 1, 1, none⟩ = some (.slice none 0 0) := Bresn.cell 1
               have y2 : w2.cell? ⟨w.heap.size + 1, 2, none⟩ = some (.int .i64 0) := Bresn.cell 2
               have yf0 := Bresn.frozen 0
               have yf1 := Bresn.frozen 1
               have yf2 := Bresn.frozen 2)
  clear cs0 cs1 cs2
  obtain ⟨Bres_1, Qres_1, S3⟩ := set3_box Bresn sl_nint D2
  have Bs_1 := Bsn.keep S3 fun h => by omega
  have Qs_1 := (Qsz.keep K2).far_box Bresn sl_nint S3
  have Kw_1 : Keep NoF w (((w2.setCell ⟨w.heap.size + 1, 0, none⟩ (.int .i64 V)).setCell ⟨w.heap.size + 1, 1, none⟩ (.slice A2 n2 c2)).setCell ⟨w.heap.size + 1, 2, none⟩ (.int .i64 r2)) := (Kwz.trans K2 fun _ _ h => h).trans S3 fun i hi h => by omega
  generalize (((w2.setCell ⟨w.heap.size + 1, 0, none⟩ (.int .i64 V)).setCell ⟨w.heap.size + 1, 1, none⟩ (.slice A2 n2 c2)).setCell ⟨w.heap.size + 1, 2, none⟩ (.int .i64 r2)) = W1 at *
  clear Bsz Bresz Qsz Bsn Bresn Kwz D2 K2 S3 y0 y1 y2 yf0 yf1 yf2
  have h0 : W1.cell? ⟨w.heap.size + 1, 0, none⟩ = some (.int .i64 V) := Bres_1.cell 0
  have h1 : W1.cell? ⟨w.heap.size + 1, 1, none⟩ = some (.slice A2 n2 c2) := Bres_1.cell 1
  have h2 : W1.cell? ⟨w.heap.size + 1, 2, none⟩ = some (.int .i64 r2) := Bres_1.cell 2
  refine bodyPost_ret (v := .tuple #[.agg #[.int .i64 V, .slice A2 n2 c2, .int .i64 r2], .int .i64 0]) (by simp [results, Tryd.results41, go_sem, h0, h1, h2]) rfl ?_
  exact ⟨A2, n2, c2, r2, rfl, Qres_1, Kw_1⟩
end
end Go.Proofs.YtgdmcidcappkpaaDoor
