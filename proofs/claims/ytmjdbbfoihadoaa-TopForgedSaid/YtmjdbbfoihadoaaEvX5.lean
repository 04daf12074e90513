/- Evidence: what follows does, a binary operator (5). Conditions: the model is valid; the node is one of the list; its agent, fact or group is one of the model; all worlds are worlds of the model. -/
import Derived.Test.YtmjdbbfoihadoaaEvX
set_option linter.unusedVariables false
set_option linter.unusedSimpArgs false
namespace Go.Proofs.Ytmjdbbfoihadoaa
open Go.RowKit
open Ev
open Fm (Nd)
attribute [local go_sem] Oper.semAt_some
section
set_option maxRecDepth 100000
set_option maxHeartbeats 4000000
variable {w : World} {M : Md} {va ra : Option Addr} {cv cr : Nat} {rs : List (Option Addr × Nat)}
theorem evfollows_5 (hM : MdR w M va cv ra cr rs) (hok : Okm M) (c : List Nd) (A : Option Addr) (cc : Nat) (hrd : Rd w (.slice A c.length cc) 6 c.length (fmC c)) (i e0 g x y : Int) (kn wd : Nat) (hwd : wd < M.n) (hk : c[kn]? = some ⟨5, i, e0, g, x, y⟩) (h : Bool) (fr : List Int) (p : Option Addr × Nat) (st : Nat)
    (L : List Cl) (AL : Option Addr) (cL : Nat) (hL : L.length ≤ 1000000) (hrl : Rd w (.slice AL L.length cL) 3 L.length (clsC L)) :
    Calls Try.prog 18 #[.agg #[.int .i64 M.W, .slice va M.V.length cv, .slice ra M.R.length cr], .slice A c.length cc, .agg #[.int .i64 (wd : Int), .int .i64 (kn : Int), .bool h, .slice p.1 fr.length p.2, .int .u64 st], .slice AL L.length cL] w fun e w' => e = .returned (.bool (folB M c ⟨wd, kn, h, fr, st⟩ L)) ∧ Keep NoF w w' := by
  have hget : c.getD kn default = ⟨5, i, e0, g, x, y⟩ := by rw [List.getD_eq_getElem?_getD, hk]; rfl
  have HFB : Hid (folB M c ⟨wd, kn, h, fr, st⟩ L = ((h && decide (L = [⟨wd, x, true⟩, ⟨wd, y, true⟩])) || (!h && (decide (L = [⟨wd, x, false⟩]) || decide (L = [⟨wd, y, false⟩]))))) := Lib.hid (by unfold folB; simp only [Int.toNat_natCast, hget]; rfl)
  obtain ⟨bl, off, rfl, -, hcc, x0, x1, x2, x3, x4, x5⟩ := hrd.nd hk
  have hkl : kn < c.length := (List.getElem?_eq_some_iff.1 hk).1
  have l1 : (kn : Int) < (c.length : Int) := by omega
  have l0 : (0 : Int) ≤ (kn : Int) := by omega
  have q0 := ((Bk.new w 25 #[.int .i64 M.W, .slice va M.V.length cv, .slice ra M.R.length cr]).alloc (.cells #[.int .i64 (wd : Int), .int .i64 (kn : Int), .bool h, .slice p.1 fr.length p.2, .int .u64 st] 40)).alloc (.cells #[.slice AL L.length cL] 57)
  have q1 := (Bk.new (w.alloc (.cells #[.int .i64 M.W, .slice va M.V.length cv, .slice ra M.R.length cr] 25)) 40 #[.int .i64 (wd : Int), .int .i64 (kn : Int), .bool h, .slice p.1 fr.length p.2, .int .u64 st]).alloc (.cells #[.slice AL L.length cL] 57)
  have q2 := Bk.new ((w.alloc (.cells #[.int .i64 M.W, .slice va M.V.length cv, .slice ra M.R.length cr] 25)).alloc (.cells #[.int .i64 (wd : Int), .int .i64 (kn : Int), .bool h, .slice p.1 fr.length p.2, .int .u64 st] 40)) 57 #[.slice AL L.length cL]
  simp only [World.size_alloc] at q1 q2
  have k3 : Keep NoF w (((w.alloc (.cells #[.int .i64 M.W, .slice va M.V.length cv, .slice ra M.R.length cr] 25)).alloc (.cells #[.int .i64 (wd : Int), .int .i64 (kn : Int), .bool h, .slice p.1 fr.length p.2, .int .u64 st] 40)).alloc (.cells #[.slice AL L.length cL] 57)) := (((Keep.refl _ _).alloc _).alloc _).alloc _
  have HQ := Lib.hid (And.intro q0 (And.intro q1 (And.intro q2 k3)))
  simp only at x0 x1 x2 x3 x4 x5
  have y0 := k3.cellv x0 fun h => h
  have y1 := k3.cellv x1 fun h => h
  have y2 := k3.cellv x2 fun h => h
  have y3 := k3.cellv x3 fun h => h
  have y4 := k3.cellv x4 fun h => h
  have y5 := k3.cellv x5 fun h => h
  have HRL := Lib.hid hrl
  have HM := Lib.hid hM
  have HOK := Lib.hid hok
  clear hrd hk hget x0 x1 x2 x3 x4 x5 q0 q1 q2 k3 hkl hM hok hrl
  go_enter Try.func18, Try.ntmps18
  go_upto_region 1 with (fail)
  generalize ((w.alloc (.cells #[.int .i64 M.W, .slice va M.V.length cv, .slice ra M.R.length cr] 25)).alloc (.cells #[.int .i64 (wd : Int), .int .i64 (kn : Int), .bool h, .slice p.1 fr.length p.2, .int .u64 st] 40)).alloc (.cells #[.slice AL L.length cL] 57) = W3 at *
  have r0 := HQ.out.2.1.cell 0
  have r1 := HQ.out.2.1.cell 1
  have z1 : w.heap.size + 1 < W3.heap.size := HQ.out.2.1.lt
  have z2 : bl < W3.heap.size := World.block_lt_of_cell? W3 _ y0
  go_cut [9, 10] from 15 to 255 (fun v9 v10 wc => ∃ bn bw : Nat, v9 = .pointer (some ⟨bn, 0, none⟩) ∧ v10 = .pointer (some ⟨bw, 0, none⟩) ∧ Bk wc bn 53 #[.int .i64 5, .int .i64 i, .int .i64 e0, .int .i64 g, .int .i64 x, .int .i64 y] ∧ Bk wc bw 3 #[.int .i64 (wd : Int)] ∧ Keep NoF W3 wc)
  case first =>
    have HA := Lib.hid (Bk.new W3 53 #[.int .i64 5, .int .i64 i, .int .i64 e0, .int .i64 g, .int .i64 x, .int .i64 y])
    have HB := Lib.hid (Bk.new W3 3 #[.int .i64 (wd : Int)])
    have HSS : Hid (∀ w' : World, Keep NoF W3 w' → w'.cell? ⟨w.heap.size + 1, 0, none⟩ = some (.int .i64 (wd : Int)) ∧ w'.cell? ⟨w.heap.size + 1, 1, none⟩ = some (.int .i64 (kn : Int)) ∧ w'.cell? ⟨bl, off + kn * 6, none⟩ = some (.int .i64 5) ∧ w'.cell? ⟨bl, off + kn * 6 + 1, none⟩ = some (.int .i64 i) ∧ w'.cell? ⟨bl, off + kn * 6 + 2, none⟩ = some (.int .i64 e0) ∧ w'.cell? ⟨bl, off + kn * 6 + 3, none⟩ = some (.int .i64 g) ∧ w'.cell? ⟨bl, off + kn * 6 + 4, none⟩ = some (.int .i64 x) ∧ w'.cell? ⟨bl, off + kn * 6 + 5, none⟩ = some (.int .i64 y)) := Lib.hid fun w' h => ⟨h.cellv r0 fun h => h, h.cellv r1 fun h => h, h.cellv y0 fun h => h, h.cellv y1 fun h => h, h.cellv y2 fun h => h, h.cellv y3 fun h => h, h.cellv y4 fun h => h, h.cellv y5 fun h => h⟩
    go_region_held3 (fun w' => w'.cell? ⟨w.heap.size + 1, 0, none⟩ = some (.int .i64 (wd : Int)) ∧ w'.cell? ⟨w.heap.size + 1, 1, none⟩ = some (.int .i64 (kn : Int)) ∧ w'.cell? ⟨bl, off + kn * 6, none⟩ = some (.int .i64 5) ∧ w'.cell? ⟨bl, off + kn * 6 + 1, none⟩ = some (.int .i64 i) ∧ w'.cell? ⟨bl, off + kn * 6 + 2, none⟩ = some (.int .i64 e0) ∧ w'.cell? ⟨bl, off + kn * 6 + 3, none⟩ = some (.int .i64 g) ∧ w'.cell? ⟨bl, off + kn * 6 + 4, none⟩ = some (.int .i64 x) ∧ w'.cell? ⟨bl, off + kn * 6 + 5, none⟩ = some (.int .i64 y))
      ((refine HSS.out _ ?_
        repeat (first | exact Keep.refl _ _ | refine Keep.drew ?_ | refine Keep.alloc ?_ _ | (refine Keep.setCell ?_ (.inr (by simp)) _))))
      (fail)
    all_goals
      go_wp2
      go_meet
      first
        | exact ⟨W3.heap.size, W3.heap.size + 1, rfl, rfl, (HA.out.alloc _).drew, Bk.drew (by have := Bk.new (W3.alloc (.cells #[.int .i64 5, .int .i64 i, .int .i64 e0, .int .i64 g, .int .i64 x, .int .i64 y] 53)) 3 #[.int .i64 (wd : Int)]; rwa [World.size_alloc] at this), (((Keep.refl _ _).alloc _).alloc _).drew⟩
        | exact ⟨W3.heap.size + 1, W3.heap.size, rfl, rfl, Bk.drew (by have := Bk.new (W3.alloc (.cells #[.int .i64 (wd : Int)] 3)) 53 #[.int .i64 5, .int .i64 i, .int .i64 e0, .int .i64 g, .int .i64 x, .int .i64 y]; rwa [World.size_alloc] at this), (HB.out.alloc _).drew, (((Keep.refl _ _).alloc _).alloc _).drew⟩
  case rest =>
    obtain ⟨bn, bw, rfl, rfl, hbn, hbw, K⟩ := hcut
    clear r0 r1 y0 y1 y2 y3 y4 y5
    have KW := HQ.out.2.2.2.trans K fun _ _ h => h
    have f0 := K.cellv (HQ.out.2.2.1.cell 0) fun h => h
    have r2 := K.cellv (HQ.out.2.1.cell 2) fun h => h
    have n0 := hbn.cell 0
    have HX : Hid (∀ (W : World) (b : Bool), Keep NoF wc W → Calls Try.prog 33 #[.bool b, .pointer (some ⟨bw, 0, none⟩), .pointer (some ⟨bn, 0, none⟩)] W fun e w' => e = .returned (.agg #[.int .i64 (wd : Int), .int .i64 x, .bool b]) ∧ Keep NoF W w') := Lib.hid fun W b hk => evfollows2_any wd x b bw bn W (hk.cellv (hbw.cell 0) fun h => h) (hk.cellv (hbn.cell 4) fun h => h)
    have HY : Hid (∀ (W : World) (b : Bool), Keep NoF wc W → Calls Try.prog 34 #[.bool b, .pointer (some ⟨bw, 0, none⟩), .pointer (some ⟨bn, 0, none⟩)] W fun e w' => e = .returned (.agg #[.int .i64 (wd : Int), .int .i64 y, .bool b]) ∧ Keep NoF W w') := Lib.hid fun W b hk => evfollows3_any wd y b bw bn W (hk.cellv (hbw.cell 0) fun h => h) (hk.cellv (hbn.cell 5) fun h => h)
    have hrl := HRL.out.kept KW fun _ _ h => h
    have KK : Keep NoF wc wc := Keep.refl _ _
    cases h
    · have HI : Hid (∀ W : World, Keep NoF wc W → Calls Try.prog 31 #[.slice (some ⟨W.heap.size, 0, none⟩) 1 1, .pointer (some ⟨w.heap.size + 1 + 1, 0, none⟩)] (W.alloc (.cells #[.int .i64 (wd : Int), .int .i64 x, .bool false] 59)) fun e w' => e = .returned (.bool (decide (L = [⟨wd, x, false⟩]))) ∧ Keep NoF wc w') := Lib.hid fun W hk => is_one L ⟨wd, x, false⟩ AL cL _ hk f0 hrl (by omega)
      generalize decide (L = [⟨(wd : Int), x, false⟩]) = d at *
      have HJ : Hid (∀ W : World, Keep NoF wc W → Calls Try.prog 31 #[.slice (some ⟨W.heap.size, 0, none⟩) 1 1, .pointer (some ⟨w.heap.size + 1 + 1, 0, none⟩)] (W.alloc (.cells #[.int .i64 (wd : Int), .int .i64 y, .bool false] 59)) fun e w' => e = .returned (.bool (decide (L = [⟨wd, y, false⟩]))) ∧ Keep NoF wc w') := Lib.hid fun W hk => is_one L ⟨wd, y, false⟩ AL cL _ hk f0 hrl (by omega)
      generalize decide (L = [⟨(wd : Int), y, false⟩]) = f at *
      clear hbn hbw f0 hrl
      cases d
      · cases f
        · go_wp2_with (first
            | (go_at_call 33
               (with_reducible refine (HX.out _ _ KK).mono ?_)
               rintro e w5 ⟨rfl, k5⟩
               replace KK := KK.trans k5 fun _ _ h => h)
            | (go_at_call 34
               (with_reducible refine (HY.out _ _ KK).mono ?_)
               rintro e w5 ⟨rfl, k5⟩
               replace KK := KK.trans k5 fun _ _ h => h)
            | (go_at_call 31
               (with_reducible refine (HI.out _ KK).mono ?_)
               rintro e w6 ⟨rfl, k6⟩
               replace KK := k6
               have r26 := KK.cellv r2 fun h => h)
            | (go_at_call 31
               (with_reducible refine (HJ.out _ KK).mono ?_)
               rintro e w6 ⟨rfl, k6⟩
               replace KK := k6
               have r26 := KK.cellv r2 fun h => h))
          go_ret
          exact ⟨by rw [HFB.out]; rfl, KW.trans KK fun _ _ h => h⟩
        · go_wp2_with (first
            | (go_at_call 33
               (with_reducible refine (HX.out _ _ KK).mono ?_)
               rintro e w5 ⟨rfl, k5⟩
               replace KK := KK.trans k5 fun _ _ h => h)
            | (go_at_call 34
               (with_reducible refine (HY.out _ _ KK).mono ?_)
               rintro e w5 ⟨rfl, k5⟩
               replace KK := KK.trans k5 fun _ _ h => h)
            | (go_at_call 31
               (with_reducible refine (HI.out _ KK).mono ?_)
               rintro e w6 ⟨rfl, k6⟩
               replace KK := k6
               have r26 := KK.cellv r2 fun h => h)
            | (go_at_call 31
               (with_reducible refine (HJ.out _ KK).mono ?_)
               rintro e w6 ⟨rfl, k6⟩
               replace KK := k6
               have r26 := KK.cellv r2 fun h => h))
          go_ret
          exact ⟨by rw [HFB.out]; rfl, KW.trans KK fun _ _ h => h⟩
      · go_wp2_with (first
          | (go_at_call 33
             (with_reducible refine (HX.out _ _ KK).mono ?_)
             rintro e w5 ⟨rfl, k5⟩
             replace KK := KK.trans k5 fun _ _ h => h)
          | (go_at_call 34
             (with_reducible refine (HY.out _ _ KK).mono ?_)
             rintro e w5 ⟨rfl, k5⟩
             replace KK := KK.trans k5 fun _ _ h => h)
          | (go_at_call 31
             (with_reducible refine (HI.out _ KK).mono ?_)
             rintro e w6 ⟨rfl, k6⟩
             replace KK := k6
             have r26 := KK.cellv r2 fun h => h)
          | (go_at_call 31
             (with_reducible refine (HJ.out _ KK).mono ?_)
             rintro e w6 ⟨rfl, k6⟩
             replace KK := k6
             have r26 := KK.cellv r2 fun h => h))
        go_ret
        exact ⟨by rw [HFB.out]; rfl, KW.trans KK fun _ _ h => h⟩
    · have HI : Hid (∀ W : World, Keep NoF wc W → Calls Try.prog 31 #[.slice (some ⟨W.heap.size, 0, none⟩) 2 2, .pointer (some ⟨w.heap.size + 1 + 1, 0, none⟩)] (W.alloc (.cells #[.int .i64 (wd : Int), .int .i64 x, .bool true, .int .i64 (wd : Int), .int .i64 y, .bool true] 59)) fun e w' => e = .returned (.bool (decide (L = [⟨wd, x, true⟩, ⟨wd, y, true⟩]))) ∧ Keep NoF wc w') := Lib.hid fun W hk => is_two L ⟨wd, x, true⟩ ⟨wd, y, true⟩ AL cL _ hk f0 hrl (by omega)
      generalize decide (L = [⟨(wd : Int), x, true⟩, ⟨(wd : Int), y, true⟩]) = d at *
      clear hbn hbw f0 hrl
      cases d
      · go_wp2_with (first
          | (go_at_call 33
             (with_reducible refine (HX.out _ _ KK).mono ?_)
             rintro e w5 ⟨rfl, k5⟩
             replace KK := KK.trans k5 fun _ _ h => h)
          | (go_at_call 34
             (with_reducible refine (HY.out _ _ KK).mono ?_)
             rintro e w5 ⟨rfl, k5⟩
             replace KK := KK.trans k5 fun _ _ h => h)
          | (go_at_call 31
             (with_reducible refine (HI.out _ KK).mono ?_)
             rintro e w6 ⟨rfl, k6⟩
             replace KK := k6
             have r26 := KK.cellv r2 fun h => h))
        go_ret
        exact ⟨by rw [HFB.out]; rfl, KW.trans KK fun _ _ h => h⟩
      · go_wp2_with (first
          | (go_at_call 33
             (with_reducible refine (HX.out _ _ KK).mono ?_)
             rintro e w5 ⟨rfl, k5⟩
             replace KK := KK.trans k5 fun _ _ h => h)
          | (go_at_call 34
             (with_reducible refine (HY.out _ _ KK).mono ?_)
             rintro e w5 ⟨rfl, k5⟩
             replace KK := KK.trans k5 fun _ _ h => h)
          | (go_at_call 31
             (with_reducible refine (HI.out _ KK).mono ?_)
             rintro e w6 ⟨rfl, k6⟩
             replace KK := k6
             have r26 := KK.cellv r2 fun h => h))
        go_ret
        exact ⟨by rw [HFB.out]; rfl, KW.trans KK fun _ _ h => h⟩
end
end Go.Proofs.Ytmjdbbfoihadoaa
