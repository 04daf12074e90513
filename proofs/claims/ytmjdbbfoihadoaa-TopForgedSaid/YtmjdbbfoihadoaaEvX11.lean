/- Evidence: what follows does, groups. Conditions: the model is valid; the node is one of the list; its agent, fact or group is one of the model; all worlds are worlds of the model. -/
import Derived.Test.YtmjdbbfoihadoaaEvX8
set_option linter.unusedVariables false
set_option linter.unusedSimpArgs false
namespace Go.Proofs.Ytmjdbbfoihadoaa
open Go.RowKit
open Ev
open Fm (Nd)
attribute [local go_sem] Oper.semAt_some
section
set_option maxRecDepth 100000
set_option maxHeartbeats 4000000
variable {w : World} {M : Md} {va ra : Option Addr} {cv cr : Nat} {rs : List (Option Addr × Nat)}
theorem evfollows_11 (hM : MdR w M va cv ra cr rs) (hok : Okm M) (c : List Nd) (A : Option Addr) (cc : Nat) (hrd : Rd w (.slice A c.length cc) 6 c.length (fmC c)) (i e0 g x y : Int) (kn wd : Nat) (hwd : wd < M.n) (hk : c[kn]? = some ⟨11, i, e0, g, x, y⟩) (h : Bool) (fr : List Int) (p : Option Addr × Nat) (st : Nat)
    (L : List Cl) (AL : Option Addr) (cL : Nat) (hL : L.length ≤ 1000000) (hrl : Rd w (.slice AL L.length cL) 3 L.length (clsC L)) (hg : 0 ≤ g ∧ g < ((2 ^ M.R.length : Nat) : Int)) (hs : succN M ⟨11, i, e0, g, x, y⟩ wd < 2 ^ M.n) (hLw : ∀ l ∈ L, 0 ≤ l.w ∧ l.w < (M.n : Int)) :
    Calls Try.prog 18 #[.agg #[.int .i64 M.W, .slice va M.V.length cv, .slice ra M.R.length cr], .slice A c.length cc, .agg #[.int .i64 (wd : Int), .int .i64 (kn : Int), .bool h, .slice p.1 fr.length p.2, .int .u64 st], .slice AL L.length cL] w fun e w' => e = .returned (.bool (folB M c ⟨wd, kn, h, fr, st⟩ L)) ∧ Keep NoF w w' := by
  have hget : c.getD kn default = ⟨11, i, e0, g, x, y⟩ := by rw [List.getD_eq_getElem?_getD, hk]; rfl
  have HFB : Hid (folB M c ⟨wd, kn, h, fr, st⟩ L = (if (h == false) = false then decide (L = eachL (succN M ⟨11, i, e0, g, x, y⟩ wd) x h) else someM L (succN M ⟨11, i, e0, g, x, y⟩ wd) x h)) := Lib.hid (fol_m (by decide) hget)
  obtain ⟨bl, off, rfl, -, hcc, x0, x1, x2, x3, x4, x5⟩ := hrd.nd hk
  have hkl : kn < c.length := (List.getElem?_eq_some_iff.1 hk).1
  have l1 : (kn : Int) < (c.length : Int) := by omega
  have l0 : (0 : Int) ≤ (kn : Int) := by omega
  have q0 := ((Bk.new w 25 #[.int .i64 M.W, .slice va M.V.length cv, .slice ra M.R.length cr]).alloc (.cells #[.int .i64 (wd : Int), .int .i64 (kn : Int), .bool h, .slice p.1 fr.length p.2, .int .u64 st] 40)).alloc (.cells #[.slice AL L.length cL] 57)
  have q1 := (Bk.new (w.alloc (.cells #[.int .i64 M.W, .slice va M.V.length cv, .slice ra M.R.length cr] 25)) 40 #[.int .i64 (wd : Int), .int .i64 (kn : Int), .bool h, .slice p.1 fr.length p.2, .int .u64 st]).alloc (.cells #[.slice AL L.length cL] 57)
  have q2 := Bk.new ((w.alloc (.cells #[.int .i64 M.W, .slice va M.V.length cv, .slice ra M.R.length cr] 25)).alloc (.cells #[.int .i64 (wd : Int), .int .i64 (kn : Int), .bool h, .slice p.1 fr.length p.2, .int .u64 st] 40)) 57 #[.slice AL L.length cL]
  simp only [World.size_alloc] at q1 q2
  have k3 : Keep NoF w (((w.alloc (.cells #[.int .i64 M.W, .slice va M.V.length cv, .slice ra M.R.length cr] 25)).alloc (.cells #[.int .i64 (wd : Int), .int .i64 (kn : Int), .bool h, .slice p.1 fr.length p.2, .int .u64 st] 40)).alloc (.cells #[.slice AL L.length cL] 57)) := (((Keep.refl _ _).alloc _).alloc _).alloc _
  have HQ := Lib.hid (And.intro q0 (And.intro q1 (And.intro q2 k3)))
  simp only at x0 x1 x2 x3 x4 x5
  have y0 := k3.cellv x0 fun h => h
  have y1 := k3.cellv x1 fun h => h
  have y2 := k3.cellv x2 fun h => h
  have y3 := k3.cellv x3 fun h => h
  have y4 := k3.cellv x4 fun h => h
  have y5 := k3.cellv x5 fun h => h
  have HRL := Lib.hid hrl
  have HM := Lib.hid hM
  have HOK := Lib.hid hok
  clear hrd hk hget x0 x1 x2 x3 x4 x5 q0 q1 q2 k3 hkl hM hok hrl
  go_enter Try.func18, Try.ntmps18
  go_upto_region 1 with (fail)
  generalize ((w.alloc (.cells #[.int .i64 M.W, .slice va M.V.length cv, .slice ra M.R.length cr] 25)).alloc (.cells #[.int .i64 (wd : Int), .int .i64 (kn : Int), .bool h, .slice p.1 fr.length p.2, .int .u64 st] 40)).alloc (.cells #[.slice AL L.length cL] 57) = W3 at *
  have r0 := HQ.out.2.1.cell 0
  have r1 := HQ.out.2.1.cell 1
  have z1 : w.heap.size + 1 < W3.heap.size := HQ.out.2.1.lt
  have z2 : bl < W3.heap.size := World.block_lt_of_cell? W3 _ y0
  go_cut [9, 10] from 15 to 255 (fun v9 v10 wc => ∃ bn bw : Nat, v9 = .pointer (some ⟨bn, 0, none⟩) ∧ v10 = .pointer (some ⟨bw, 0, none⟩) ∧ Bk wc bn 53 #[.int .i64 11, .int .i64 i, .int .i64 e0, .int .i64 g, .int .i64 x, .int .i64 y] ∧ Bk wc bw 3 #[.int .i64 (wd : Int)] ∧ Keep NoF W3 wc)
  case first =>
    have HA := Lib.hid (Bk.new W3 53 #[.int .i64 11, .int .i64 i, .int .i64 e0, .int .i64 g, .int .i64 x, .int .i64 y])
    have HB := Lib.hid (Bk.new W3 3 #[.int .i64 (wd : Int)])
    have HSS : Hid (∀ w' : World, Keep NoF W3 w' → w'.cell? ⟨w.heap.size + 1, 0, none⟩ = some (.int .i64 (wd : Int)) ∧ w'.cell? ⟨w.heap.size + 1, 1, none⟩ = some (.int .i64 (kn : Int)) ∧ w'.cell? ⟨bl, off + kn * 6, none⟩ = some (.int .i64 11) ∧ w'.cell? ⟨bl, off + kn * 6 + 1, none⟩ = some (.int .i64 i) ∧ w'.cell? ⟨bl, off + kn * 6 + 2, none⟩ = some (.int .i64 e0) ∧ w'.cell? ⟨bl, off + kn * 6 + 3, none⟩ = some (.int .i64 g) ∧ w'.cell? ⟨bl, off + kn * 6 + 4, none⟩ = some (.int .i64 x) ∧ w'.cell? ⟨bl, off + kn * 6 + 5, none⟩ = some (.int .i64 y)) := Lib.hid fun w' h => ⟨h.cellv r0 fun h => h, h.cellv r1 fun h => h, h.cellv y0 fun h => h, h.cellv y1 fun h => h, h.cellv y2 fun h => h, h.cellv y3 fun h => h, h.cellv y4 fun h => h, h.cellv y5 fun h => h⟩
    go_region_held3 (fun w' => w'.cell? ⟨w.heap.size + 1, 0, none⟩ = some (.int .i64 (wd : Int)) ∧ w'.cell? ⟨w.heap.size + 1, 1, none⟩ = some (.int .i64 (kn : Int)) ∧ w'.cell? ⟨bl, off + kn * 6, none⟩ = some (.int .i64 11) ∧ w'.cell? ⟨bl, off + kn * 6 + 1, none⟩ = some (.int .i64 i) ∧ w'.cell? ⟨bl, off + kn * 6 + 2, none⟩ = some (.int .i64 e0) ∧ w'.cell? ⟨bl, off + kn * 6 + 3, none⟩ = some (.int .i64 g) ∧ w'.cell? ⟨bl, off + kn * 6 + 4, none⟩ = some (.int .i64 x) ∧ w'.cell? ⟨bl, off + kn * 6 + 5, none⟩ = some (.int .i64 y))
      ((refine HSS.out _ ?_
        repeat (first | exact Keep.refl _ _ | refine Keep.drew ?_ | refine Keep.alloc ?_ _ | (refine Keep.setCell ?_ (.inr (by simp)) _))))
      (fail)
    all_goals
      go_wp2
      go_meet
      first
        | exact ⟨W3.heap.size, W3.heap.size + 1, rfl, rfl, (HA.out.alloc _).drew, Bk.drew (by have := Bk.new (W3.alloc (.cells #[.int .i64 11, .int .i64 i, .int .i64 e0, .int .i64 g, .int .i64 x, .int .i64 y] 53)) 3 #[.int .i64 (wd : Int)]; rwa [World.size_alloc] at this), (((Keep.refl _ _).alloc _).alloc _).drew⟩
        | exact ⟨W3.heap.size + 1, W3.heap.size, rfl, rfl, Bk.drew (by have := Bk.new (W3.alloc (.cells #[.int .i64 (wd : Int)] 3)) 53 #[.int .i64 11, .int .i64 i, .int .i64 e0, .int .i64 g, .int .i64 x, .int .i64 y]; rwa [World.size_alloc] at this), (HB.out.alloc _).drew, (((Keep.refl _ _).alloc _).alloc _).drew⟩
  case rest =>
    obtain ⟨bn, bw, rfl, rfl, hbn, hbw, K⟩ := hcut
    clear r0 r1 y0 y1 y2 y3 y4 y5
    have KW := HQ.out.2.2.2.trans K fun _ _ h => h
    have f0 := K.cellv (HQ.out.2.2.1.cell 0) fun h => h
    have r2 := K.cellv (HQ.out.2.1.cell 2) fun h => h
    have n0 := hbn.cell 0
    have n1 := hbn.cell 1
    have n2 := hbn.cell 2
    have n3 := hbn.cell 3
    have n4 := hbn.cell 4
    have n5 := hbn.cell 5
    have w0 := hbw.cell 0
    have m0 := K.cellv (HQ.out.1.cell 0) fun h => h
    have m1 := K.cellv (HQ.out.1.cell 1) fun h => h
    have m2 := K.cellv (HQ.out.1.cell 2) fun h => h
    have hn64 := HOK.out.n1.2.1
    have HC := Lib.hid (evsucc_any (HM.out.keep KW) HOK.out ⟨11, i, e0, g, x, y⟩ wd (fun h => absurd h (by decide : ¬ ((11 : Int) = 9 ∨ (11 : Int) = 10))) (fun _ => hg) hwd)
    have hs64 := Ev.lt64 hn64 hs
    clear hs
    generalize succN M ⟨11, i, e0, g, x, y⟩ wd = sc at *
    go_upto_region 24 with (go_at_call 36; (with_reducible refine HC.out.mono ?_); rintro e w5 ⟨rfl, k5⟩
                            have r25 := k5.cellv r2 fun h => h
                            have n05 := k5.cellv n0 fun h => h
                            have n45 := k5.cellv n4 fun h => h
                            have f05 := k5.cellv f0 fun h => h)
    have K5 := KW.trans k5 fun _ _ h => h
    have HR5 := Lib.hid (HRL.out.kept K5 fun _ _ h => h)
    cases h with
    | true =>
      have HE := Lib.hid (eveach_any sc x true hs64)
      have ll : (eachL sc x true).length ≤ 64 := by unfold eachL; rw [List.length_map]; exact mem_len _
      have HG : Hid (folB M c ⟨wd, kn, true, fr, st⟩ L = decide (L = eachL sc x true)) := Lib.hid (by rw [HFB.out]; rfl)
      generalize eachL sc x true = l1 at *
      have HEC : Hid (∀ (W' : World) (B : Option Addr) (d : Nat), Keep NoF w5 W' → Rd W' (.slice B l1.length d) 3 l1.length (clsC l1) → Calls Try.prog 32 #[.slice AL L.length cL, .slice B l1.length d] W' fun e w' => e = .returned (.bool (decide (L = l1))) ∧ Keep NoF W' w') := Lib.hid fun W' B d hkW hR => slEqC_any L l1 AL B cL d W' (HR5.out.kept hkW fun _ _ h => h) hR (by omega) (by omega)
      have HSS : Hid (∀ w' : World, Keep NoF w5 w' → w'.cell? ⟨w.heap.size + 1 + 1, 0, none⟩ = some (.slice AL L.length cL) ∧ w'.cell? ⟨w.heap.size + 1, 2, none⟩ = some (.bool true) ∧ w'.cell? ⟨bn, 4, none⟩ = some (.int .i64 x)) := Lib.hid fun w' h => ⟨h.cellv f05 fun h => h, h.cellv r25 fun h => h, h.cellv n45 fun h => h⟩
      have KK : Keep NoF w5 w5.drew := (Keep.refl _ _).drew
      go_upto_region 25 with (fail)
      go_region_held3 (fun w' => w'.cell? ⟨w.heap.size + 1 + 1, 0, none⟩ = some (.slice AL L.length cL) ∧ w'.cell? ⟨w.heap.size + 1, 2, none⟩ = some (.bool true) ∧ w'.cell? ⟨bn, 4, none⟩ = some (.int .i64 x))
        (first
          | with_reducible exact HSS.out _ KK)
        (first
          | (go_at_call 37
             (with_reducible refine (HE.out _).mono ?_)
             rintro e w6 ⟨v1, rfl, o1, k6⟩
             replace KK := KK.trans k6 fun _ _ h => h
             obtain ⟨A1, c1, rfl⟩ := own_form o1
             have R1 := Rd.of_own o1)
          | (go_at_call 32
             (with_reducible refine (HEC.out _ _ _ KK R1).mono ?_)
             rintro e w7 ⟨rfl, k7⟩
             replace KK := KK.trans k7 fun _ _ h => h))
      all_goals
        go_wp2
        go_ret
        exact ⟨by rw [HG.out]; rfl, K5.trans KK fun _ _ h => h⟩
    | false =>
      by_cases hl : L.length = 1
      · have HF2 := Lib.hid (some_one (s := sc) (x := x) (h := false) hl)
        have e0 : ((L.length : Int) == 1) = true := by rw [hl]; rfl
        have z0 : (0 : Int) < (L.length : Int) := by omega
        have z0n : 0 < L.length := by omega
        have hat := clAt_eq (l := L) (k := 0) (by omega)
        obtain ⟨-, hcl, lb, lo, rfl, c0, c1, c2⟩ := HR5.out.cl hat
        have hlw := hLw _ (List.mem_of_getElem? hat)
        clear hat hl hLw hbn hbw
        generalize clAt L 0 = cl at *
        obtain ⟨cw, ck, ch⟩ := cl
        simp only at c0 c1 c2 hlw HF2
        obtain ⟨v, rfl⟩ : ∃ v : Nat, cw = (v : Int) := ⟨cw.toNat, by omega⟩
        rw [Int.toNat_natCast] at HF2
        have c0' : w5.cell? ⟨lb, lo, none⟩ = some (.int .i64 (v : Int)) := by simpa using c0
        have c1' : w5.cell? ⟨lb, lo + 1, none⟩ = some (.int .i64 ck) := by simpa using c1
        have c2' : w5.cell? ⟨lb, lo + 2, none⟩ = some (.bool ch) := by simpa using c2
        clear c0 c1 c2
        have hbit := sbit_eq v hs64
        have hmin : min v 64 = v := Nat.min_eq_left (by omega)
        have l9 : ¬ (v : Int) < 0 := by omega
        have hguard := cl_guard
        have hql := run_cl_eql ⟨(v : Int), ck, ch⟩ ⟨(v : Int), x, false⟩
        simp only [clV] at hql
        generalize decide ((⟨(v : Int), ck, ch⟩ : Cl) = ⟨(v : Int), x, false⟩) = dd at *
        generalize sc.testBit v = tb at *
        cases tb
        · go_wp2
          go_quiet (fail)
          go_wp2
          go_ret
          exact ⟨by rw [HFB.out, if_neg (by decide), HF2.out]; rfl, K5.drewN _⟩
        · go_wp2
          go_quiet (fail)
          go_wp2
          go_ret
          exact ⟨by rw [HFB.out, if_neg (by decide), HF2.out]; rfl, K5.drewN _⟩
      · have HF2 := Lib.hid (some_no (s := sc) (x := x) (h := false) hl)
        have e0 : ((L.length : Int) == 1) = false := beq_eq_false_iff_ne.2 (by omega)
        clear hl hbn hbw
        go_wp2
        go_quiet (fail)
        go_wp2
        go_ret
        exact ⟨by rw [HFB.out, if_neg (by decide), HF2.out]; rfl, K5.drewN _⟩
theorem evfollows_12 (hM : MdR w M va cv ra cr rs) (hok : Okm M) (c : List Nd) (A : Option Addr) (cc : Nat) (hrd : Rd w (.slice A c.length cc) 6 c.length (fmC c)) (i e0 g x y : Int) (kn wd : Nat) (hwd : wd < M.n) (hk : c[kn]? = some ⟨12, i, e0, g, x, y⟩) (h : Bool) (fr : List Int) (p : Option Addr × Nat) (st : Nat)
    (L : List Cl) (AL : Option Addr) (cL : Nat) (hL : L.length ≤ 1000000) (hrl : Rd w (.slice AL L.length cL) 3 L.length (clsC L)) (hg : 0 ≤ g ∧ g < ((2 ^ M.R.length : Nat) : Int)) (hs : succN M ⟨12, i, e0, g, x, y⟩ wd < 2 ^ M.n) (hLw : ∀ l ∈ L, 0 ≤ l.w ∧ l.w < (M.n : Int)) :
    Calls Try.prog 18 #[.agg #[.int .i64 M.W, .slice va M.V.length cv, .slice ra M.R.length cr], .slice A c.length cc, .agg #[.int .i64 (wd : Int), .int .i64 (kn : Int), .bool h, .slice p.1 fr.length p.2, .int .u64 st], .slice AL L.length cL] w fun e w' => e = .returned (.bool (folB M c ⟨wd, kn, h, fr, st⟩ L)) ∧ Keep NoF w w' := by
  have hget : c.getD kn default = ⟨12, i, e0, g, x, y⟩ := by rw [List.getD_eq_getElem?_getD, hk]; rfl
  have HFB : Hid (folB M c ⟨wd, kn, h, fr, st⟩ L = (if (h == false) = false then decide (L = eachL (succN M ⟨12, i, e0, g, x, y⟩ wd) x h) else someM L (succN M ⟨12, i, e0, g, x, y⟩ wd) x h)) := Lib.hid (fol_m (by decide) hget)
  obtain ⟨bl, off, rfl, -, hcc, x0, x1, x2, x3, x4, x5⟩ := hrd.nd hk
  have hkl : kn < c.length := (List.getElem?_eq_some_iff.1 hk).1
  have l1 : (kn : Int) < (c.length : Int) := by omega
  have l0 : (0 : Int) ≤ (kn : Int) := by omega
  have q0 := ((Bk.new w 25 #[.int .i64 M.W, .slice va M.V.length cv, .slice ra M.R.length cr]).alloc (.cells #[.int .i64 (wd : Int), .int .i64 (kn : Int), .bool h, .slice p.1 fr.length p.2, .int .u64 st] 40)).alloc (.cells #[.slice AL L.length cL] 57)
  have q1 := (Bk.new (w.alloc (.cells #[.int .i64 M.W, .slice va M.V.length cv, .slice ra M.R.length cr] 25)) 40 #[.int .i64 (wd : Int), .int .i64 (kn : Int), .bool h, .slice p.1 fr.length p.2, .int .u64 st]).alloc (.cells #[.slice AL L.length cL] 57)
  have q2 := Bk.new ((w.alloc (.cells #[.int .i64 M.W, .slice va M.V.length cv, .slice ra M.R.length cr] 25)).alloc (.cells #[.int .i64 (wd : Int), .int .i64 (kn : Int), .bool h, .slice p.1 fr.length p.2, .int .u64 st] 40)) 57 #[.slice AL L.length cL]
  simp only [World.size_alloc] at q1 q2
  have k3 : Keep NoF w (((w.alloc (.cells #[.int .i64 M.W, .slice va M.V.length cv, .slice ra M.R.length cr] 25)).alloc (.cells #[.int .i64 (wd : Int), .int .i64 (kn : Int), .bool h, .slice p.1 fr.length p.2, .int .u64 st] 40)).alloc (.cells #[.slice AL L.length cL] 57)) := (((Keep.refl _ _).alloc _).alloc _).alloc _
  have HQ := Lib.hid (And.intro q0 (And.intro q1 (And.intro q2 k3)))
  simp only at x0 x1 x2 x3 x4 x5
  have y0 := k3.cellv x0 fun h => h
  have y1 := k3.cellv x1 fun h => h
  have y2 := k3.cellv x2 fun h => h
  have y3 := k3.cellv x3 fun h => h
  have y4 := k3.cellv x4 fun h => h
  have y5 := k3.cellv x5 fun h => h
  have HRL := Lib.hid hrl
  have HM := Lib.hid hM
  have HOK := Lib.hid hok
  clear hrd hk hget x0 x1 x2 x3 x4 x5 q0 q1 q2 k3 hkl hM hok hrl
  go_enter Try.func18, Try.ntmps18
  go_upto_region 1 with (fail)
  generalize ((w.alloc (.cells #[.int .i64 M.W, .slice va M.V.length cv, .slice ra M.R.length cr] 25)).alloc (.cells #[.int .i64 (wd : Int), .int .i64 (kn : Int), .bool h, .slice p.1 fr.length p.2, .int .u64 st] 40)).alloc (.cells #[.slice AL L.length cL] 57) = W3 at *
  have r0 := HQ.out.2.1.cell 0
  have r1 := HQ.out.2.1.cell 1
  have z1 : w.heap.size + 1 < W3.heap.size := HQ.out.2.1.lt
  have z2 : bl < W3.heap.size := World.block_lt_of_cell? W3 _ y0
  go_cut [9, 10] from 15 to 255 (fun v9 v10 wc => ∃ bn bw : Nat, v9 = .pointer (some ⟨bn, 0, none⟩) ∧ v10 = .pointer (some ⟨bw, 0, none⟩) ∧ Bk wc bn 53 #[.int .i64 12, .int .i64 i, .int .i64 e0, .int .i64 g, .int .i64 x, .int .i64 y] ∧ Bk wc bw 3 #[.int .i64 (wd : Int)] ∧ Keep NoF W3 wc)
  case first =>
    have HA := Lib.hid (Bk.new W3 53 #[.int .i64 12, .int .i64 i, .int .i64 e0, .int .i64 g, .int .i64 x, .int .i64 y])
    have HB := Lib.hid (Bk.new W3 3 #[.int .i64 (wd : Int)])
    have HSS : Hid (∀ w' : World, Keep NoF W3 w' → w'.cell? ⟨w.heap.size + 1, 0, none⟩ = some (.int .i64 (wd : Int)) ∧ w'.cell? ⟨w.heap.size + 1, 1, none⟩ = some (.int .i64 (kn : Int)) ∧ w'.cell? ⟨bl, off + kn * 6, none⟩ = some (.int .i64 12) ∧ w'.cell? ⟨bl, off + kn * 6 + 1, none⟩ = some (.int .i64 i) ∧ w'.cell? ⟨bl, off + kn * 6 + 2, none⟩ = some (.int .i64 e0) ∧ w'.cell? ⟨bl, off + kn * 6 + 3, none⟩ = some (.int .i64 g) ∧ w'.cell? ⟨bl, off + kn * 6 + 4, none⟩ = some (.int .i64 x) ∧ w'.cell? ⟨bl, off + kn * 6 + 5, none⟩ = some (.int .i64 y)) := Lib.hid fun w' h => ⟨h.cellv r0 fun h => h, h.cellv r1 fun h => h, h.cellv y0 fun h => h, h.cellv y1 fun h => h, h.cellv y2 fun h => h, h.cellv y3 fun h => h, h.cellv y4 fun h => h, h.cellv y5 fun h => h⟩
    go_region_held3 (fun w' => w'.cell? ⟨w.heap.size + 1, 0, none⟩ = some (.int .i64 (wd : Int)) ∧ w'.cell? ⟨w.heap.size + 1, 1, none⟩ = some (.int .i64 (kn : Int)) ∧ w'.cell? ⟨bl, off + kn * 6, none⟩ = some (.int .i64 12) ∧ w'.cell? ⟨bl, off + kn * 6 + 1, none⟩ = some (.int .i64 i) ∧ w'.cell? ⟨bl, off + kn * 6 + 2, none⟩ = some (.int .i64 e0) ∧ w'.cell? ⟨bl, off + kn * 6 + 3, none⟩ = some (.int .i64 g) ∧ w'.cell? ⟨bl, off + kn * 6 + 4, none⟩ = some (.int .i64 x) ∧ w'.cell? ⟨bl, off + kn * 6 + 5, none⟩ = some (.int .i64 y))
      ((refine HSS.out _ ?_
        repeat (first | exact Keep.refl _ _ | refine Keep.drew ?_ | refine Keep.alloc ?_ _ | (refine Keep.setCell ?_ (.inr (by simp)) _))))
      (fail)
    all_goals
      go_wp2
      go_meet
      first
        | exact ⟨W3.heap.size, W3.heap.size + 1, rfl, rfl, (HA.out.alloc _).drew, Bk.drew (by have := Bk.new (W3.alloc (.cells #[.int .i64 12, .int .i64 i, .int .i64 e0, .int .i64 g, .int .i64 x, .int .i64 y] 53)) 3 #[.int .i64 (wd : Int)]; rwa [World.size_alloc] at this), (((Keep.refl _ _).alloc _).alloc _).drew⟩
        | exact ⟨W3.heap.size + 1, W3.heap.size, rfl, rfl, Bk.drew (by have := Bk.new (W3.alloc (.cells #[.int .i64 (wd : Int)] 3)) 53 #[.int .i64 12, .int .i64 i, .int .i64 e0, .int .i64 g, .int .i64 x, .int .i64 y]; rwa [World.size_alloc] at this), (HB.out.alloc _).drew, (((Keep.refl _ _).alloc _).alloc _).drew⟩
  case rest =>
    obtain ⟨bn, bw, rfl, rfl, hbn, hbw, K⟩ := hcut
    clear r0 r1 y0 y1 y2 y3 y4 y5
    have KW := HQ.out.2.2.2.trans K fun _ _ h => h
    have f0 := K.cellv (HQ.out.2.2.1.cell 0) fun h => h
    have r2 := K.cellv (HQ.out.2.1.cell 2) fun h => h
    have n0 := hbn.cell 0
    have n1 := hbn.cell 1
    have n2 := hbn.cell 2
    have n3 := hbn.cell 3
    have n4 := hbn.cell 4
    have n5 := hbn.cell 5
    have w0 := hbw.cell 0
    have m0 := K.cellv (HQ.out.1.cell 0) fun h => h
    have m1 := K.cellv (HQ.out.1.cell 1) fun h => h
    have m2 := K.cellv (HQ.out.1.cell 2) fun h => h
    have hn64 := HOK.out.n1.2.1
    have HC := Lib.hid (evsucc_any (HM.out.keep KW) HOK.out ⟨12, i, e0, g, x, y⟩ wd (fun h => absurd h (by decide : ¬ ((12 : Int) = 9 ∨ (12 : Int) = 10))) (fun _ => hg) hwd)
    have hs64 := Ev.lt64 hn64 hs
    clear hs
    generalize succN M ⟨12, i, e0, g, x, y⟩ wd = sc at *
    go_upto_region 24 with (go_at_call 36; (with_reducible refine HC.out.mono ?_); rintro e w5 ⟨rfl, k5⟩
                            have r25 := k5.cellv r2 fun h => h
                            have n05 := k5.cellv n0 fun h => h
                            have n45 := k5.cellv n4 fun h => h
                            have f05 := k5.cellv f0 fun h => h)
    have K5 := KW.trans k5 fun _ _ h => h
    have HR5 := Lib.hid (HRL.out.kept K5 fun _ _ h => h)
    cases h with
    | true =>
      have HE := Lib.hid (eveach_any sc x true hs64)
      have ll : (eachL sc x true).length ≤ 64 := by unfold eachL; rw [List.length_map]; exact mem_len _
      have HG : Hid (folB M c ⟨wd, kn, true, fr, st⟩ L = decide (L = eachL sc x true)) := Lib.hid (by rw [HFB.out]; rfl)
      generalize eachL sc x true = l1 at *
      have HEC : Hid (∀ (W' : World) (B : Option Addr) (d : Nat), Keep NoF w5 W' → Rd W' (.slice B l1.length d) 3 l1.length (clsC l1) → Calls Try.prog 32 #[.slice AL L.length cL, .slice B l1.length d] W' fun e w' => e = .returned (.bool (decide (L = l1))) ∧ Keep NoF W' w') := Lib.hid fun W' B d hkW hR => slEqC_any L l1 AL B cL d W' (HR5.out.kept hkW fun _ _ h => h) hR (by omega) (by omega)
      have HSS : Hid (∀ w' : World, Keep NoF w5 w' → w'.cell? ⟨w.heap.size + 1 + 1, 0, none⟩ = some (.slice AL L.length cL) ∧ w'.cell? ⟨w.heap.size + 1, 2, none⟩ = some (.bool true) ∧ w'.cell? ⟨bn, 4, none⟩ = some (.int .i64 x)) := Lib.hid fun w' h => ⟨h.cellv f05 fun h => h, h.cellv r25 fun h => h, h.cellv n45 fun h => h⟩
      have KK : Keep NoF w5 w5.drew := (Keep.refl _ _).drew
      go_upto_region 25 with (fail)
      go_region_held3 (fun w' => w'.cell? ⟨w.heap.size + 1 + 1, 0, none⟩ = some (.slice AL L.length cL) ∧ w'.cell? ⟨w.heap.size + 1, 2, none⟩ = some (.bool true) ∧ w'.cell? ⟨bn, 4, none⟩ = some (.int .i64 x))
        (first
          | with_reducible exact HSS.out _ KK)
        (first
          | (go_at_call 37
             (with_reducible refine (HE.out _).mono ?_)
             rintro e w6 ⟨v1, rfl, o1, k6⟩
             replace KK := KK.trans k6 fun _ _ h => h
             obtain ⟨A1, c1, rfl⟩ := own_form o1
             have R1 := Rd.of_own o1)
          | (go_at_call 32
             (with_reducible refine (HEC.out _ _ _ KK R1).mono ?_)
             rintro e w7 ⟨rfl, k7⟩
             replace KK := KK.trans k7 fun _ _ h => h))
      all_goals
        go_wp2
        go_ret
        exact ⟨by rw [HG.out]; rfl, K5.trans KK fun _ _ h => h⟩
    | false =>
      by_cases hl : L.length = 1
      · have HF2 := Lib.hid (some_one (s := sc) (x := x) (h := false) hl)
        have e0 : ((L.length : Int) == 1) = true := by rw [hl]; rfl
        have z0 : (0 : Int) < (L.length : Int) := by omega
        have z0n : 0 < L.length := by omega
        have hat := clAt_eq (l := L) (k := 0) (by omega)
        obtain ⟨-, hcl, lb, lo, rfl, c0, c1, c2⟩ := HR5.out.cl hat
        have hlw := hLw _ (List.mem_of_getElem? hat)
        clear hat hl hLw hbn hbw
        generalize clAt L 0 = cl at *
        obtain ⟨cw, ck, ch⟩ := cl
        simp only at c0 c1 c2 hlw HF2
        obtain ⟨v, rfl⟩ : ∃ v : Nat, cw = (v : Int) := ⟨cw.toNat, by omega⟩
        rw [Int.toNat_natCast] at HF2
        have c0' : w5.cell? ⟨lb, lo, none⟩ = some (.int .i64 (v : Int)) := by simpa using c0
        have c1' : w5.cell? ⟨lb, lo + 1, none⟩ = some (.int .i64 ck) := by simpa using c1
        have c2' : w5.cell? ⟨lb, lo + 2, none⟩ = some (.bool ch) := by simpa using c2
        clear c0 c1 c2
        have hbit := sbit_eq v hs64
        have hmin : min v 64 = v := Nat.min_eq_left (by omega)
        have l9 : ¬ (v : Int) < 0 := by omega
        have hguard := cl_guard
        have hql := run_cl_eql ⟨(v : Int), ck, ch⟩ ⟨(v : Int), x, false⟩
        simp only [clV] at hql
        generalize decide ((⟨(v : Int), ck, ch⟩ : Cl) = ⟨(v : Int), x, false⟩) = dd at *
        generalize sc.testBit v = tb at *
        cases tb
        · go_wp2
          go_quiet (fail)
          go_wp2
          go_ret
          exact ⟨by rw [HFB.out, if_neg (by decide), HF2.out]; rfl, K5.drewN _⟩
        · go_wp2
          go_quiet (fail)
          go_wp2
          go_ret
          exact ⟨by rw [HFB.out, if_neg (by decide), HF2.out]; rfl, K5.drewN _⟩
      · have HF2 := Lib.hid (some_no (s := sc) (x := x) (h := false) hl)
        have e0 : ((L.length : Int) == 1) = false := beq_eq_false_iff_ne.2 (by omega)
        clear hl hbn hbw
        go_wp2
        go_quiet (fail)
        go_wp2
        go_ret
        exact ⟨by rw [HFB.out, if_neg (by decide), HF2.out]; rfl, K5.drewN _⟩
end
end Go.Proofs.Ytmjdbbfoihadoaa
