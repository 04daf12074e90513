/- Evidence: what follows does, constants and facts. Conditions: the model is valid; the node is one of the list; its agent, fact or group is one of the model; all worlds are worlds of the model. -/
import Derived.Test.YtmjdbbfoihadoaaEvX
set_option linter.unusedVariables false
set_option linter.unusedSimpArgs false
namespace Go.Proofs.Ytmjdbbfoihadoaa
open Go.RowKit
open Ev
open Fm (Nd)
attribute [local go_sem] Oper.semAt_some
section
set_option maxRecDepth 100000
set_option maxHeartbeats 4000000
variable {w : World} {M : Md} {va ra : Option Addr} {cv cr : Nat} {rs : List (Option Addr × Nat)}
theorem val_lt {M : Md} (hM : Okm M) (k : Nat) : M.V.getD k 0 < 2 ^ M.n := by
  rw [List.getD_eq_getElem?_getD]
  cases hx : M.V[k]? with
  | none => exact Nat.two_pow_pos _
  | some x => exact hM.val x (List.mem_of_getElem? hx)
theorem evfollows_1 (hM : MdR w M va cv ra cr rs) (hok : Okm M) (c : List Nd) (A : Option Addr) (cc : Nat) (hrd : Rd w (.slice A c.length cc) 6 c.length (fmC c)) (i e0 g x y : Int) (kn wd : Nat) (hwd : wd < M.n) (hk : c[kn]? = some ⟨1, i, e0, g, x, y⟩) (h : Bool) (fr : List Int) (p : Option Addr × Nat) (st : Nat)
    (L : List Cl) (AL : Option Addr) (cL : Nat) (hL : L.length ≤ 1000000) (hrl : Rd w (.slice AL L.length cL) 3 L.length (clsC L)) :
    Calls Try.prog 18 #[.agg #[.int .i64 M.W, .slice va M.V.length cv, .slice ra M.R.length cr], .slice A c.length cc, .agg #[.int .i64 (wd : Int), .int .i64 (kn : Int), .bool h, .slice p.1 fr.length p.2, .int .u64 st], .slice AL L.length cL] w fun e w' => e = .returned (.bool (folB M c ⟨wd, kn, h, fr, st⟩ L)) ∧ Keep NoF w w' := by
  have hget : c.getD kn default = ⟨1, i, e0, g, x, y⟩ := by rw [List.getD_eq_getElem?_getD, hk]; rfl
  have HFB : Hid (folB M c ⟨wd, kn, h, fr, st⟩ L = (L.isEmpty && (h == true))) := Lib.hid (by unfold folB; simp only [Int.toNat_natCast, hget]; rfl)
  obtain ⟨bl, off, rfl, -, hcc, x0, x1, x2, x3, x4, x5⟩ := hrd.nd hk
  have hkl : kn < c.length := (List.getElem?_eq_some_iff.1 hk).1
  have l1 : (kn : Int) < (c.length : Int) := by omega
  have l0 : (0 : Int) ≤ (kn : Int) := by omega
  have q0 := ((Bk.new w 25 #[.int .i64 M.W, .slice va M.V.length cv, .slice ra M.R.length cr]).alloc (.cells #[.int .i64 (wd : Int), .int .i64 (kn : Int), .bool h, .slice p.1 fr.length p.2, .int .u64 st] 40)).alloc (.cells #[.slice AL L.length cL] 57)
  have q1 := (Bk.new (w.alloc (.cells #[.int .i64 M.W, .slice va M.V.length cv, .slice ra M.R.length cr] 25)) 40 #[.int .i64 (wd : Int), .int .i64 (kn : Int), .bool h, .slice p.1 fr.length p.2, .int .u64 st]).alloc (.cells #[.slice AL L.length cL] 57)
  have q2 := Bk.new ((w.alloc (.cells #[.int .i64 M.W, .slice va M.V.length cv, .slice ra M.R.length cr] 25)).alloc (.cells #[.int .i64 (wd : Int), .int .i64 (kn : Int), .bool h, .slice p.1 fr.length p.2, .int .u64 st] 40)) 57 #[.slice AL L.length cL]
  simp only [World.size_alloc] at q1 q2
  have k3 : Keep NoF w (((w.alloc (.cells #[.int .i64 M.W, .slice va M.V.length cv, .slice ra M.R.length cr] 25)).alloc (.cells #[.int .i64 (wd : Int), .int .i64 (kn : Int), .bool h, .slice p.1 fr.length p.2, .int .u64 st] 40)).alloc (.cells #[.slice AL L.length cL] 57)) := (((Keep.refl _ _).alloc _).alloc _).alloc _
  have HQ := Lib.hid (And.intro q0 (And.intro q1 (And.intro q2 k3)))
  simp only at x0 x1 x2 x3 x4 x5
  have y0 := k3.cellv x0 fun h => h
  have y1 := k3.cellv x1 fun h => h
  have y2 := k3.cellv x2 fun h => h
  have y3 := k3.cellv x3 fun h => h
  have y4 := k3.cellv x4 fun h => h
  have y5 := k3.cellv x5 fun h => h
  have HRL := Lib.hid hrl
  have HM := Lib.hid hM
  have HOK := Lib.hid hok
  clear hrd hk hget x0 x1 x2 x3 x4 x5 q0 q1 q2 k3 hkl hM hok hrl
  go_enter Try.func18, Try.ntmps18
  go_upto_region 1 with (fail)
  generalize ((w.alloc (.cells #[.int .i64 M.W, .slice va M.V.length cv, .slice ra M.R.length cr] 25)).alloc (.cells #[.int .i64 (wd : Int), .int .i64 (kn : Int), .bool h, .slice p.1 fr.length p.2, .int .u64 st] 40)).alloc (.cells #[.slice AL L.length cL] 57) = W3 at *
  have r0 := HQ.out.2.1.cell 0
  have r1 := HQ.out.2.1.cell 1
  have z1 : w.heap.size + 1 < W3.heap.size := HQ.out.2.1.lt
  have z2 : bl < W3.heap.size := World.block_lt_of_cell? W3 _ y0
  go_cut [9, 10] from 15 to 255 (fun v9 v10 wc => ∃ bn bw : Nat, v9 = .pointer (some ⟨bn, 0, none⟩) ∧ v10 = .pointer (some ⟨bw, 0, none⟩) ∧ Bk wc bn 53 #[.int .i64 1, .int .i64 i, .int .i64 e0, .int .i64 g, .int .i64 x, .int .i64 y] ∧ Bk wc bw 3 #[.int .i64 (wd : Int)] ∧ Keep NoF W3 wc)
  case first =>
    have HA := Lib.hid (Bk.new W3 53 #[.int .i64 1, .int .i64 i, .int .i64 e0, .int .i64 g, .int .i64 x, .int .i64 y])
    have HB := Lib.hid (Bk.new W3 3 #[.int .i64 (wd : Int)])
    have HSS : Hid (∀ w' : World, Keep NoF W3 w' → w'.cell? ⟨w.heap.size + 1, 0, none⟩ = some (.int .i64 (wd : Int)) ∧ w'.cell? ⟨w.heap.size + 1, 1, none⟩ = some (.int .i64 (kn : Int)) ∧ w'.cell? ⟨bl, off + kn * 6, none⟩ = some (.int .i64 1) ∧ w'.cell? ⟨bl, off + kn * 6 + 1, none⟩ = some (.int .i64 i) ∧ w'.cell? ⟨bl, off + kn * 6 + 2, none⟩ = some (.int .i64 e0) ∧ w'.cell? ⟨bl, off + kn * 6 + 3, none⟩ = some (.int .i64 g) ∧ w'.cell? ⟨bl, off + kn * 6 + 4, none⟩ = some (.int .i64 x) ∧ w'.cell? ⟨bl, off + kn * 6 + 5, none⟩ = some (.int .i64 y)) := Lib.hid fun w' h => ⟨h.cellv r0 fun h => h, h.cellv r1 fun h => h, h.cellv y0 fun h => h, h.cellv y1 fun h => h, h.cellv y2 fun h => h, h.cellv y3 fun h => h, h.cellv y4 fun h => h, h.cellv y5 fun h => h⟩
    go_region_held3 (fun w' => w'.cell? ⟨w.heap.size + 1, 0, none⟩ = some (.int .i64 (wd : Int)) ∧ w'.cell? ⟨w.heap.size + 1, 1, none⟩ = some (.int .i64 (kn : Int)) ∧ w'.cell? ⟨bl, off + kn * 6, none⟩ = some (.int .i64 1) ∧ w'.cell? ⟨bl, off + kn * 6 + 1, none⟩ = some (.int .i64 i) ∧ w'.cell? ⟨bl, off + kn * 6 + 2, none⟩ = some (.int .i64 e0) ∧ w'.cell? ⟨bl, off + kn * 6 + 3, none⟩ = some (.int .i64 g) ∧ w'.cell? ⟨bl, off + kn * 6 + 4, none⟩ = some (.int .i64 x) ∧ w'.cell? ⟨bl, off + kn * 6 + 5, none⟩ = some (.int .i64 y))
      ((refine HSS.out _ ?_
        repeat (first | exact Keep.refl _ _ | refine Keep.drew ?_ | refine Keep.alloc ?_ _ | (refine Keep.setCell ?_ (.inr (by simp)) _))))
      (fail)
    all_goals
      go_wp2
      go_meet
      first
        | exact ⟨W3.heap.size, W3.heap.size + 1, rfl, rfl, (HA.out.alloc _).drew, Bk.drew (by have := Bk.new (W3.alloc (.cells #[.int .i64 1, .int .i64 i, .int .i64 e0, .int .i64 g, .int .i64 x, .int .i64 y] 53)) 3 #[.int .i64 (wd : Int)]; rwa [World.size_alloc] at this), (((Keep.refl _ _).alloc _).alloc _).drew⟩
        | exact ⟨W3.heap.size + 1, W3.heap.size, rfl, rfl, Bk.drew (by have := Bk.new (W3.alloc (.cells #[.int .i64 (wd : Int)] 3)) 53 #[.int .i64 1, .int .i64 i, .int .i64 e0, .int .i64 g, .int .i64 x, .int .i64 y]; rwa [World.size_alloc] at this), (HB.out.alloc _).drew, (((Keep.refl _ _).alloc _).alloc _).drew⟩
  case rest =>
    obtain ⟨bn, bw, rfl, rfl, hbn, hbw, K⟩ := hcut
    clear r0 r1 y0 y1 y2 y3 y4 y5
    have KW := HQ.out.2.2.2.trans K fun _ _ h => h
    have f0 := K.cellv (HQ.out.2.2.1.cell 0) fun h => h
    have r2 := K.cellv (HQ.out.2.1.cell 2) fun h => h
    have n0 := hbn.cell 0
    clear hbw
    by_cases hl : L.length = 0
    · have e0 : ((L.length : Int) == 0) = true := by rw [hl]; rfl
      have HL : Hid (L.isEmpty = true) := Lib.hid (by rw [List.isEmpty_iff]; exact List.eq_nil_of_length_eq_zero hl)
      clear hl
      go_wp2
      go_ret
      exact ⟨by rw [HFB.out, HL.out]; cases h <;> rfl, KW⟩
    · have e0 : ((L.length : Int) == 0) = false := beq_eq_false_iff_ne.2 (by omega)
      have HL : Hid (L.isEmpty = false) := Lib.hid (by
        cases hb : L.isEmpty with
        | false => rfl
        | true => rw [List.isEmpty_iff] at hb; rw [hb] at hl; exact absurd rfl hl)
      clear hl
      go_wp2
      go_ret
      exact ⟨by rw [HFB.out, HL.out]; rfl, KW⟩
theorem evfollows_2 (hM : MdR w M va cv ra cr rs) (hok : Okm M) (c : List Nd) (A : Option Addr) (cc : Nat) (hrd : Rd w (.slice A c.length cc) 6 c.length (fmC c)) (i e0 g x y : Int) (kn wd : Nat) (hwd : wd < M.n) (hk : c[kn]? = some ⟨2, i, e0, g, x, y⟩) (h : Bool) (fr : List Int) (p : Option Addr × Nat) (st : Nat)
    (L : List Cl) (AL : Option Addr) (cL : Nat) (hL : L.length ≤ 1000000) (hrl : Rd w (.slice AL L.length cL) 3 L.length (clsC L)) :
    Calls Try.prog 18 #[.agg #[.int .i64 M.W, .slice va M.V.length cv, .slice ra M.R.length cr], .slice A c.length cc, .agg #[.int .i64 (wd : Int), .int .i64 (kn : Int), .bool h, .slice p.1 fr.length p.2, .int .u64 st], .slice AL L.length cL] w fun e w' => e = .returned (.bool (folB M c ⟨wd, kn, h, fr, st⟩ L)) ∧ Keep NoF w w' := by
  have hget : c.getD kn default = ⟨2, i, e0, g, x, y⟩ := by rw [List.getD_eq_getElem?_getD, hk]; rfl
  have HFB : Hid (folB M c ⟨wd, kn, h, fr, st⟩ L = (L.isEmpty && (h == false))) := Lib.hid (by unfold folB; simp only [Int.toNat_natCast, hget]; rfl)
  obtain ⟨bl, off, rfl, -, hcc, x0, x1, x2, x3, x4, x5⟩ := hrd.nd hk
  have hkl : kn < c.length := (List.getElem?_eq_some_iff.1 hk).1
  have l1 : (kn : Int) < (c.length : Int) := by omega
  have l0 : (0 : Int) ≤ (kn : Int) := by omega
  have q0 := ((Bk.new w 25 #[.int .i64 M.W, .slice va M.V.length cv, .slice ra M.R.length cr]).alloc (.cells #[.int .i64 (wd : Int), .int .i64 (kn : Int), .bool h, .slice p.1 fr.length p.2, .int .u64 st] 40)).alloc (.cells #[.slice AL L.length cL] 57)
  have q1 := (Bk.new (w.alloc (.cells #[.int .i64 M.W, .slice va M.V.length cv, .slice ra M.R.length cr] 25)) 40 #[.int .i64 (wd : Int), .int .i64 (kn : Int), .bool h, .slice p.1 fr.length p.2, .int .u64 st]).alloc (.cells #[.slice AL L.length cL] 57)
  have q2 := Bk.new ((w.alloc (.cells #[.int .i64 M.W, .slice va M.V.length cv, .slice ra M.R.length cr] 25)).alloc (.cells #[.int .i64 (wd : Int), .int .i64 (kn : Int), .bool h, .slice p.1 fr.length p.2, .int .u64 st] 40)) 57 #[.slice AL L.length cL]
  simp only [World.size_alloc] at q1 q2
  have k3 : Keep NoF w (((w.alloc (.cells #[.int .i64 M.W, .slice va M.V.length cv, .slice ra M.R.length cr] 25)).alloc (.cells #[.int .i64 (wd : Int), .int .i64 (kn : Int), .bool h, .slice p.1 fr.length p.2, .int .u64 st] 40)).alloc (.cells #[.slice AL L.length cL] 57)) := (((Keep.refl _ _).alloc _).alloc _).alloc _
  have HQ := Lib.hid (And.intro q0 (And.intro q1 (And.intro q2 k3)))
  simp only at x0 x1 x2 x3 x4 x5
  have y0 := k3.cellv x0 fun h => h
  have y1 := k3.cellv x1 fun h => h
  have y2 := k3.cellv x2 fun h => h
  have y3 := k3.cellv x3 fun h => h
  have y4 := k3.cellv x4 fun h => h
  have y5 := k3.cellv x5 fun h => h
  have HRL := Lib.hid hrl
  have HM := Lib.hid hM
  have HOK := Lib.hid hok
  clear hrd hk hget x0 x1 x2 x3 x4 x5 q0 q1 q2 k3 hkl hM hok hrl
  go_enter Try.func18, Try.ntmps18
  go_upto_region 1 with (fail)
  generalize ((w.alloc (.cells #[.int .i64 M.W, .slice va M.V.length cv, .slice ra M.R.length cr] 25)).alloc (.cells #[.int .i64 (wd : Int), .int .i64 (kn : Int), .bool h, .slice p.1 fr.length p.2, .int .u64 st] 40)).alloc (.cells #[.slice AL L.length cL] 57) = W3 at *
  have r0 := HQ.out.2.1.cell 0
  have r1 := HQ.out.2.1.cell 1
  have z1 : w.heap.size + 1 < W3.heap.size := HQ.out.2.1.lt
  have z2 : bl < W3.heap.size := World.block_lt_of_cell? W3 _ y0
  go_cut [9, 10] from 15 to 255 (fun v9 v10 wc => ∃ bn bw : Nat, v9 = .pointer (some ⟨bn, 0, none⟩) ∧ v10 = .pointer (some ⟨bw, 0, none⟩) ∧ Bk wc bn 53 #[.int .i64 2, .int .i64 i, .int .i64 e0, .int .i64 g, .int .i64 x, .int .i64 y] ∧ Bk wc bw 3 #[.int .i64 (wd : Int)] ∧ Keep NoF W3 wc)
  case first =>
    have HA := Lib.hid (Bk.new W3 53 #[.int .i64 2, .int .i64 i, .int .i64 e0, .int .i64 g, .int .i64 x, .int .i64 y])
    have HB := Lib.hid (Bk.new W3 3 #[.int .i64 (wd : Int)])
    have HSS : Hid (∀ w' : World, Keep NoF W3 w' → w'.cell? ⟨w.heap.size + 1, 0, none⟩ = some (.int .i64 (wd : Int)) ∧ w'.cell? ⟨w.heap.size + 1, 1, none⟩ = some (.int .i64 (kn : Int)) ∧ w'.cell? ⟨bl, off + kn * 6, none⟩ = some (.int .i64 2) ∧ w'.cell? ⟨bl, off + kn * 6 + 1, none⟩ = some (.int .i64 i) ∧ w'.cell? ⟨bl, off + kn * 6 + 2, none⟩ = some (.int .i64 e0) ∧ w'.cell? ⟨bl, off + kn * 6 + 3, none⟩ = some (.int .i64 g) ∧ w'.cell? ⟨bl, off + kn * 6 + 4, none⟩ = some (.int .i64 x) ∧ w'.cell? ⟨bl, off + kn * 6 + 5, none⟩ = some (.int .i64 y)) := Lib.hid fun w' h => ⟨h.cellv r0 fun h => h, h.cellv r1 fun h => h, h.cellv y0 fun h => h, h.cellv y1 fun h => h, h.cellv y2 fun h => h, h.cellv y3 fun h => h, h.cellv y4 fun h => h, h.cellv y5 fun h => h⟩
    go_region_held3 (fun w' => w'.cell? ⟨w.heap.size + 1, 0, none⟩ = some (.int .i64 (wd : Int)) ∧ w'.cell? ⟨w.heap.size + 1, 1, none⟩ = some (.int .i64 (kn : Int)) ∧ w'.cell? ⟨bl, off + kn * 6, none⟩ = some (.int .i64 2) ∧ w'.cell? ⟨bl, off + kn * 6 + 1, none⟩ = some (.int .i64 i) ∧ w'.cell? ⟨bl, off + kn * 6 + 2, none⟩ = some (.int .i64 e0) ∧ w'.cell? ⟨bl, off + kn * 6 + 3, none⟩ = some (.int .i64 g) ∧ w'.cell? ⟨bl, off + kn * 6 + 4, none⟩ = some (.int .i64 x) ∧ w'.cell? ⟨bl, off + kn * 6 + 5, none⟩ = some (.int .i64 y))
      ((refine HSS.out _ ?_
        repeat (first | exact Keep.refl _ _ | refine Keep.drew ?_ | refine Keep.alloc ?_ _ | (refine Keep.setCell ?_ (.inr (by simp)) _))))
      (fail)
    all_goals
      go_wp2
      go_meet
      first
        | exact ⟨W3.heap.size, W3.heap.size + 1, rfl, rfl, (HA.out.alloc _).drew, Bk.drew (by have := Bk.new (W3.alloc (.cells #[.int .i64 2, .int .i64 i, .int .i64 e0, .int .i64 g, .int .i64 x, .int .i64 y] 53)) 3 #[.int .i64 (wd : Int)]; rwa [World.size_alloc] at this), (((Keep.refl _ _).alloc _).alloc _).drew⟩
        | exact ⟨W3.heap.size + 1, W3.heap.size, rfl, rfl, Bk.drew (by have := Bk.new (W3.alloc (.cells #[.int .i64 (wd : Int)] 3)) 53 #[.int .i64 2, .int .i64 i, .int .i64 e0, .int .i64 g, .int .i64 x, .int .i64 y]; rwa [World.size_alloc] at this), (HB.out.alloc _).drew, (((Keep.refl _ _).alloc _).alloc _).drew⟩
  case rest =>
    obtain ⟨bn, bw, rfl, rfl, hbn, hbw, K⟩ := hcut
    clear r0 r1 y0 y1 y2 y3 y4 y5
    have KW := HQ.out.2.2.2.trans K fun _ _ h => h
    have f0 := K.cellv (HQ.out.2.2.1.cell 0) fun h => h
    have r2 := K.cellv (HQ.out.2.1.cell 2) fun h => h
    have n0 := hbn.cell 0
    clear hbw
    by_cases hl : L.length = 0
    · have e0 : ((L.length : Int) == 0) = true := by rw [hl]; rfl
      have HL : Hid (L.isEmpty = true) := Lib.hid (by rw [List.isEmpty_iff]; exact List.eq_nil_of_length_eq_zero hl)
      clear hl
      go_wp2
      go_ret
      exact ⟨by rw [HFB.out, HL.out]; cases h <;> rfl, KW⟩
    · have e0 : ((L.length : Int) == 0) = false := beq_eq_false_iff_ne.2 (by omega)
      have HL : Hid (L.isEmpty = false) := Lib.hid (by
        cases hb : L.isEmpty with
        | false => rfl
        | true => rw [List.isEmpty_iff] at hb; rw [hb] at hl; exact absurd rfl hl)
      clear hl
      go_wp2
      go_ret
      exact ⟨by rw [HFB.out, HL.out]; rfl, KW⟩
theorem evfollows_3 (hM : MdR w M va cv ra cr rs) (hok : Okm M) (c : List Nd) (A : Option Addr) (cc : Nat) (hrd : Rd w (.slice A c.length cc) 6 c.length (fmC c)) (i e0 g x y : Int) (kn wd : Nat) (hwd : wd < M.n) (hk : c[kn]? = some ⟨3, i, e0, g, x, y⟩) (h : Bool) (fr : List Int) (p : Option Addr × Nat) (st : Nat)
    (L : List Cl) (AL : Option Addr) (cL : Nat) (hL : L.length ≤ 1000000) (hrl : Rd w (.slice AL L.length cL) 3 L.length (clsC L)) (hi : 0 ≤ i ∧ i < M.V.length) :
    Calls Try.prog 18 #[.agg #[.int .i64 M.W, .slice va M.V.length cv, .slice ra M.R.length cr], .slice A c.length cc, .agg #[.int .i64 (wd : Int), .int .i64 (kn : Int), .bool h, .slice p.1 fr.length p.2, .int .u64 st], .slice AL L.length cL] w fun e w' => e = .returned (.bool (folB M c ⟨wd, kn, h, fr, st⟩ L)) ∧ Keep NoF w w' := by
  have hget : c.getD kn default = ⟨3, i, e0, g, x, y⟩ := by rw [List.getD_eq_getElem?_getD, hk]; rfl
  have HFB : Hid (folB M c ⟨wd, kn, h, fr, st⟩ L = (L.isEmpty && (h == (M.V.getD i.toNat 0).testBit wd))) := Lib.hid (by unfold folB; simp only [Int.toNat_natCast, hget]; rfl)
  obtain ⟨bl, off, rfl, -, hcc, x0, x1, x2, x3, x4, x5⟩ := hrd.nd hk
  have hkl : kn < c.length := (List.getElem?_eq_some_iff.1 hk).1
  have l1 : (kn : Int) < (c.length : Int) := by omega
  have l0 : (0 : Int) ≤ (kn : Int) := by omega
  have q0 := ((Bk.new w 25 #[.int .i64 M.W, .slice va M.V.length cv, .slice ra M.R.length cr]).alloc (.cells #[.int .i64 (wd : Int), .int .i64 (kn : Int), .bool h, .slice p.1 fr.length p.2, .int .u64 st] 40)).alloc (.cells #[.slice AL L.length cL] 57)
  have q1 := (Bk.new (w.alloc (.cells #[.int .i64 M.W, .slice va M.V.length cv, .slice ra M.R.length cr] 25)) 40 #[.int .i64 (wd : Int), .int .i64 (kn : Int), .bool h, .slice p.1 fr.length p.2, .int .u64 st]).alloc (.cells #[.slice AL L.length cL] 57)
  have q2 := Bk.new ((w.alloc (.cells #[.int .i64 M.W, .slice va M.V.length cv, .slice ra M.R.length cr] 25)).alloc (.cells #[.int .i64 (wd : Int), .int .i64 (kn : Int), .bool h, .slice p.1 fr.length p.2, .int .u64 st] 40)) 57 #[.slice AL L.length cL]
  simp only [World.size_alloc] at q1 q2
  have k3 : Keep NoF w (((w.alloc (.cells #[.int .i64 M.W, .slice va M.V.length cv, .slice ra M.R.length cr] 25)).alloc (.cells #[.int .i64 (wd : Int), .int .i64 (kn : Int), .bool h, .slice p.1 fr.length p.2, .int .u64 st] 40)).alloc (.cells #[.slice AL L.length cL] 57)) := (((Keep.refl _ _).alloc _).alloc _).alloc _
  have HQ := Lib.hid (And.intro q0 (And.intro q1 (And.intro q2 k3)))
  simp only at x0 x1 x2 x3 x4 x5
  have y0 := k3.cellv x0 fun h => h
  have y1 := k3.cellv x1 fun h => h
  have y2 := k3.cellv x2 fun h => h
  have y3 := k3.cellv x3 fun h => h
  have y4 := k3.cellv x4 fun h => h
  have y5 := k3.cellv x5 fun h => h
  have HRL := Lib.hid hrl
  have HM := Lib.hid hM
  have HOK := Lib.hid hok
  clear hrd hk hget x0 x1 x2 x3 x4 x5 q0 q1 q2 k3 hkl hM hok hrl
  go_enter Try.func18, Try.ntmps18
  go_upto_region 1 with (fail)
  generalize ((w.alloc (.cells #[.int .i64 M.W, .slice va M.V.length cv, .slice ra M.R.length cr] 25)).alloc (.cells #[.int .i64 (wd : Int), .int .i64 (kn : Int), .bool h, .slice p.1 fr.length p.2, .int .u64 st] 40)).alloc (.cells #[.slice AL L.length cL] 57) = W3 at *
  have r0 := HQ.out.2.1.cell 0
  have r1 := HQ.out.2.1.cell 1
  have z1 : w.heap.size + 1 < W3.heap.size := HQ.out.2.1.lt
  have z2 : bl < W3.heap.size := World.block_lt_of_cell? W3 _ y0
  go_cut [9, 10] from 15 to 255 (fun v9 v10 wc => ∃ bn bw : Nat, v9 = .pointer (some ⟨bn, 0, none⟩) ∧ v10 = .pointer (some ⟨bw, 0, none⟩) ∧ Bk wc bn 53 #[.int .i64 3, .int .i64 i, .int .i64 e0, .int .i64 g, .int .i64 x, .int .i64 y] ∧ Bk wc bw 3 #[.int .i64 (wd : Int)] ∧ Keep NoF W3 wc)
  case first =>
    have HA := Lib.hid (Bk.new W3 53 #[.int .i64 3, .int .i64 i, .int .i64 e0, .int .i64 g, .int .i64 x, .int .i64 y])
    have HB := Lib.hid (Bk.new W3 3 #[.int .i64 (wd : Int)])
    have HSS : Hid (∀ w' : World, Keep NoF W3 w' → w'.cell? ⟨w.heap.size + 1, 0, none⟩ = some (.int .i64 (wd : Int)) ∧ w'.cell? ⟨w.heap.size + 1, 1, none⟩ = some (.int .i64 (kn : Int)) ∧ w'.cell? ⟨bl, off + kn * 6, none⟩ = some (.int .i64 3) ∧ w'.cell? ⟨bl, off + kn * 6 + 1, none⟩ = some (.int .i64 i) ∧ w'.cell? ⟨bl, off + kn * 6 + 2, none⟩ = some (.int .i64 e0) ∧ w'.cell? ⟨bl, off + kn * 6 + 3, none⟩ = some (.int .i64 g) ∧ w'.cell? ⟨bl, off + kn * 6 + 4, none⟩ = some (.int .i64 x) ∧ w'.cell? ⟨bl, off + kn * 6 + 5, none⟩ = some (.int .i64 y)) := Lib.hid fun w' h => ⟨h.cellv r0 fun h => h, h.cellv r1 fun h => h, h.cellv y0 fun h => h, h.cellv y1 fun h => h, h.cellv y2 fun h => h, h.cellv y3 fun h => h, h.cellv y4 fun h => h, h.cellv y5 fun h => h⟩
    go_region_held3 (fun w' => w'.cell? ⟨w.heap.size + 1, 0, none⟩ = some (.int .i64 (wd : Int)) ∧ w'.cell? ⟨w.heap.size + 1, 1, none⟩ = some (.int .i64 (kn : Int)) ∧ w'.cell? ⟨bl, off + kn * 6, none⟩ = some (.int .i64 3) ∧ w'.cell? ⟨bl, off + kn * 6 + 1, none⟩ = some (.int .i64 i) ∧ w'.cell? ⟨bl, off + kn * 6 + 2, none⟩ = some (.int .i64 e0) ∧ w'.cell? ⟨bl, off + kn * 6 + 3, none⟩ = some (.int .i64 g) ∧ w'.cell? ⟨bl, off + kn * 6 + 4, none⟩ = some (.int .i64 x) ∧ w'.cell? ⟨bl, off + kn * 6 + 5, none⟩ = some (.int .i64 y))
      ((refine HSS.out _ ?_
        repeat (first | exact Keep.refl _ _ | refine Keep.drew ?_ | refine Keep.alloc ?_ _ | (refine Keep.setCell ?_ (.inr (by simp)) _))))
      (fail)
    all_goals
      go_wp2
      go_meet
      first
        | exact ⟨W3.heap.size, W3.heap.size + 1, rfl, rfl, (HA.out.alloc _).drew, Bk.drew (by have := Bk.new (W3.alloc (.cells #[.int .i64 3, .int .i64 i, .int .i64 e0, .int .i64 g, .int .i64 x, .int .i64 y] 53)) 3 #[.int .i64 (wd : Int)]; rwa [World.size_alloc] at this), (((Keep.refl _ _).alloc _).alloc _).drew⟩
        | exact ⟨W3.heap.size + 1, W3.heap.size, rfl, rfl, Bk.drew (by have := Bk.new (W3.alloc (.cells #[.int .i64 (wd : Int)] 3)) 53 #[.int .i64 3, .int .i64 i, .int .i64 e0, .int .i64 g, .int .i64 x, .int .i64 y]; rwa [World.size_alloc] at this), (HB.out.alloc _).drew, (((Keep.refl _ _).alloc _).alloc _).drew⟩
  case rest =>
    obtain ⟨bn, bw, rfl, rfl, hbn, hbw, K⟩ := hcut
    clear r0 r1 y0 y1 y2 y3 y4 y5
    have KW := HQ.out.2.2.2.trans K fun _ _ h => h
    have f0 := K.cellv (HQ.out.2.2.1.cell 0) fun h => h
    have r2 := K.cellv (HQ.out.2.1.cell 2) fun h => h
    have n0 := hbn.cell 0
    have n1 := hbn.cell 1
    have w0 := hbw.cell 0
    have m1 := K.cellv (HQ.out.1.cell 1) fun h => h
    obtain ⟨hi0, hi1⟩ := hi
    obtain ⟨vi, rfl⟩ : ∃ v : Nat, i = (v : Int) := ⟨i.toNat, by omega⟩
    obtain ⟨-, hlc, vb, vo, rfl, hc1⟩ := (HM.out.V.kept KW fun _ _ h => h).nat_lt (k := vi) (by omega)
    have hv64 : M.V.getD vi 0 < 18446744073709551616 := Ev.lt64 HOK.out.n1.2.1 (val_lt HOK.out vi)
    rw [Int.toNat_natCast] at HFB
    have hbit := sbit_eq wd hv64
    have l9 : ¬ (wd : Int) < 0 := by omega
    have hn64 := HOK.out.n1.2.1
    have hmin : min wd 64 = wd := Nat.min_eq_left (by omega)
    generalize M.V.getD vi 0 = vv at *
    clear hbw hbn
    by_cases hl : L.length = 0
    · have e0 : ((L.length : Int) == 0) = true := by rw [hl]; rfl
      have HL : Hid (L.isEmpty = true) := Lib.hid (by rw [List.isEmpty_iff]; exact List.eq_nil_of_length_eq_zero hl)
      clear hl
      go_wp2
      go_quiet (fail)
      go_wp2
      go_ret
      exact ⟨by rw [HFB.out, HL.out]; rfl, KW.drewN _⟩
    · have e0 : ((L.length : Int) == 0) = false := beq_eq_false_iff_ne.2 (by omega)
      have HL : Hid (L.isEmpty = false) := Lib.hid (by
        cases hb : L.isEmpty with
        | false => rfl
        | true => rw [List.isEmpty_iff] at hb; rw [hb] at hl; exact absurd rfl hl)
      clear hl
      go_wp2
      go_quiet (fail)
      go_wp2
      go_ret
      exact ⟨by rw [HFB.out, HL.out]; rfl, KW.drewN _⟩
end
end Go.Proofs.Ytmjdbbfoihadoaa
