/- Evidence: what follows does, a biconditional. Conditions: the model is valid; the node is one of the list; its agent, fact or group is one of the model; all worlds are worlds of the model. -/
import Derived.Test.YtmjdbbfoihadoaaEvX
set_option linter.unusedVariables false
set_option linter.unusedSimpArgs false
namespace Go.Proofs.Ytmjdbbfoihadoaa
open Go.RowKit
open Ev
open Fm (Nd)
attribute [local go_sem] Oper.semAt_some
section
set_option maxRecDepth 100000
set_option maxHeartbeats 4000000
variable {w : World} {M : Md} {va ra : Option Addr} {cv cr : Nat} {rs : List (Option Addr × Nat)}
def iffM (L : List Cl) (wd : Nat) (x y : Int) (h : Bool) : Bool := match L with | [a, b] => decide (L = [⟨wd, x, a.h⟩, ⟨wd, y, b.h⟩]) && (h == (a.h == b.h)) | _ => false
def someM (L : List Cl) (s : Nat) (x : Int) (h : Bool) : Bool := match L with | [a] => s.testBit a.w.toNat && decide (a = ⟨a.w, x, h⟩) | _ => false
theorem iff_two {L : List Cl} {wd : Nat} {x y : Int} {h : Bool} (hl : L.length = 2) : iffM L wd x y h = (decide (L = [⟨wd, x, (clAt L 0).h⟩, ⟨wd, y, (clAt L 1).h⟩]) && (h == ((clAt L 0).h == (clAt L 1).h))) := by
  match L, hl with
  | [a, b], _ => rfl
theorem iff_no {L : List Cl} {wd : Nat} {x y : Int} {h : Bool} (hl : L.length ≠ 2) : iffM L wd x y h = false := by
  match L, hl with
  | [], _ => rfl
  | [a], _ => rfl
  | [a, b], hl => exact absurd rfl hl
  | a :: b :: c :: l, _ => rfl
theorem some_one {L : List Cl} {s : Nat} {x : Int} {h : Bool} (hl : L.length = 1) : someM L s x h = (s.testBit (clAt L 0).w.toNat && decide (clAt L 0 = ⟨(clAt L 0).w, x, h⟩)) := by
  match L, hl with
  | [a], _ => rfl
theorem some_no {L : List Cl} {s : Nat} {x : Int} {h : Bool} (hl : L.length ≠ 1) : someM L s x h = false := by
  match L, hl with
  | [], _ => rfl
  | [a], hl => exact absurd rfl hl
  | a :: b :: l, _ => rfl
theorem fol_8 {M : Md} {c : List Nd} {kn wd st : Nat} {i e0 g x y : Int} {h : Bool} {fr : List Int} {L : List Cl} (hget : c.getD kn default = ⟨8, i, e0, g, x, y⟩) : folB M c ⟨wd, kn, h, fr, st⟩ L = iffM L wd x y h := by
  unfold folB
  simp only [Int.toNat_natCast, hget]
  match L with
  | [] => rfl
  | [a] => rfl
  | [a, b] => rfl
  | a :: b :: c :: l => rfl
theorem fol_m {M : Md} {c : List Nd} {kn wd st : Nat} {op i e0 g x y : Int} {h : Bool} {fr : List Int} {L : List Cl} (hop : op = 9 ∨ op = 10 ∨ op = 11 ∨ op = 12) (hget : c.getD kn default = ⟨op, i, e0, g, x, y⟩) : folB M c ⟨wd, kn, h, fr, st⟩ L = (if (h == decide (op = 10)) = false then decide (L = eachL (succN M ⟨op, i, e0, g, x, y⟩ wd) x h) else someM L (succN M ⟨op, i, e0, g, x, y⟩ wd) x h) := by
  unfold folB
  simp only [Int.toNat_natCast, hget]
  rcases hop with rfl | rfl | rfl | rfl
  all_goals
    match L with
    | [] => rfl
    | [a] => rfl
    | a :: b :: l => rfl
theorem evfollows_8 (hM : MdR w M va cv ra cr rs) (hok : Okm M) (c : List Nd) (A : Option Addr) (cc : Nat) (hrd : Rd w (.slice A c.length cc) 6 c.length (fmC c)) (i e0 g x y : Int) (kn wd : Nat) (hwd : wd < M.n) (hk : c[kn]? = some ⟨8, i, e0, g, x, y⟩) (h : Bool) (fr : List Int) (p : Option Addr × Nat) (st : Nat)
    (L : List Cl) (AL : Option Addr) (cL : Nat) (hL : L.length ≤ 1000000) (hrl : Rd w (.slice AL L.length cL) 3 L.length (clsC L)) :
    Calls Try.prog 18 #[.agg #[.int .i64 M.W, .slice va M.V.length cv, .slice ra M.R.length cr], .slice A c.length cc, .agg #[.int .i64 (wd : Int), .int .i64 (kn : Int), .bool h, .slice p.1 fr.length p.2, .int .u64 st], .slice AL L.length cL] w fun e w' => e = .returned (.bool (folB M c ⟨wd, kn, h, fr, st⟩ L)) ∧ Keep NoF w w' := by
  have hget : c.getD kn default = ⟨8, i, e0, g, x, y⟩ := by rw [List.getD_eq_getElem?_getD, hk]; rfl
  have HFB : Hid (folB M c ⟨wd, kn, h, fr, st⟩ L = iffM L wd x y h) := Lib.hid (fol_8 hget)
  obtain ⟨bl, off, rfl, -, hcc, x0, x1, x2, x3, x4, x5⟩ := hrd.nd hk
  have hkl : kn < c.length := (List.getElem?_eq_some_iff.1 hk).1
  have l1 : (kn : Int) < (c.length : Int) := by omega
  have l0 : (0 : Int) ≤ (kn : Int) := by omega
  have q0 := ((Bk.new w 25 #[.int .i64 M.W, .slice va M.V.length cv, .slice ra M.R.length cr]).alloc (.cells #[.int .i64 (wd : Int), .int .i64 (kn : Int), .bool h, .slice p.1 fr.length p.2, .int .u64 st] 40)).alloc (.cells #[.slice AL L.length cL] 57)
  have q1 := (Bk.new (w.alloc (.cells #[.int .i64 M.W, .slice va M.V.length cv, .slice ra M.R.length cr] 25)) 40 #[.int .i64 (wd : Int), .int .i64 (kn : Int), .bool h, .slice p.1 fr.length p.2, .int .u64 st]).alloc (.cells #[.slice AL L.length cL] 57)
  have q2 := Bk.new ((w.alloc (.cells #[.int .i64 M.W, .slice va M.V.length cv, .slice ra M.R.length cr] 25)).alloc (.cells #[.int .i64 (wd : Int), .int .i64 (kn : Int), .bool h, .slice p.1 fr.length p.2, .int .u64 st] 40)) 57 #[.slice AL L.length cL]
  simp only [World.size_alloc] at q1 q2
  have k3 : Keep NoF w (((w.alloc (.cells #[.int .i64 M.W, .slice va M.V.length cv, .slice ra M.R.length cr] 25)).alloc (.cells #[.int .i64 (wd : Int), .int .i64 (kn : Int), .bool h, .slice p.1 fr.length p.2, .int .u64 st] 40)).alloc (.cells #[.slice AL L.length cL] 57)) := (((Keep.refl _ _).alloc _).alloc _).alloc _
  have HQ := Lib.hid (And.intro q0 (And.intro q1 (And.intro q2 k3)))
  simp only at x0 x1 x2 x3 x4 x5
  have y0 := k3.cellv x0 fun h => h
  have y1 := k3.cellv x1 fun h => h
  have y2 := k3.cellv x2 fun h => h
  have y3 := k3.cellv x3 fun h => h
  have y4 := k3.cellv x4 fun h => h
  have y5 := k3.cellv x5 fun h => h
  have HRL := Lib.hid hrl
  have HM := Lib.hid hM
  have HOK := Lib.hid hok
  clear hrd hk hget x0 x1 x2 x3 x4 x5 q0 q1 q2 k3 hkl hM hok hrl
  go_enter Try.func18, Try.ntmps18
  go_upto_region 1 with (fail)
  generalize ((w.alloc (.cells #[.int .i64 M.W, .slice va M.V.length cv, .slice ra M.R.length cr] 25)).alloc (.cells #[.int .i64 (wd : Int), .int .i64 (kn : Int), .bool h, .slice p.1 fr.length p.2, .int .u64 st] 40)).alloc (.cells #[.slice AL L.length cL] 57) = W3 at *
  have r0 := HQ.out.2.1.cell 0
  have r1 := HQ.out.2.1.cell 1
  have z1 : w.heap.size + 1 < W3.heap.size := HQ.out.2.1.lt
  have z2 : bl < W3.heap.size := World.block_lt_of_cell? W3 _ y0
  go_cut [9, 10] from 15 to 255 (fun v9 v10 wc => ∃ bn bw : Nat, v9 = .pointer (some ⟨bn, 0, none⟩) ∧ v10 = .pointer (some ⟨bw, 0, none⟩) ∧ Bk wc bn 53 #[.int .i64 8, .int .i64 i, .int .i64 e0, .int .i64 g, .int .i64 x, .int .i64 y] ∧ Bk wc bw 3 #[.int .i64 (wd : Int)] ∧ Keep NoF W3 wc)
  case first =>
    have HA := Lib.hid (Bk.new W3 53 #[.int .i64 8, .int .i64 i, .int .i64 e0, .int .i64 g, .int .i64 x, .int .i64 y])
    have HB := Lib.hid (Bk.new W3 3 #[.int .i64 (wd : Int)])
    have HSS : Hid (∀ w' : World, Keep NoF W3 w' → w'.cell? ⟨w.heap.size + 1, 0, none⟩ = some (.int .i64 (wd : Int)) ∧ w'.cell? ⟨w.heap.size + 1, 1, none⟩ = some (.int .i64 (kn : Int)) ∧ w'.cell? ⟨bl, off + kn * 6, none⟩ = some (.int .i64 8) ∧ w'.cell? ⟨bl, off + kn * 6 + 1, none⟩ = some (.int .i64 i) ∧ w'.cell? ⟨bl, off + kn * 6 + 2, none⟩ = some (.int .i64 e0) ∧ w'.cell? ⟨bl, off + kn * 6 + 3, none⟩ = some (.int .i64 g) ∧ w'.cell? ⟨bl, off + kn * 6 + 4, none⟩ = some (.int .i64 x) ∧ w'.cell? ⟨bl, off + kn * 6 + 5, none⟩ = some (.int .i64 y)) := Lib.hid fun w' h => ⟨h.cellv r0 fun h => h, h.cellv r1 fun h => h, h.cellv y0 fun h => h, h.cellv y1 fun h => h, h.cellv y2 fun h => h, h.cellv y3 fun h => h, h.cellv y4 fun h => h, h.cellv y5 fun h => h⟩
    go_region_held3 (fun w' => w'.cell? ⟨w.heap.size + 1, 0, none⟩ = some (.int .i64 (wd : Int)) ∧ w'.cell? ⟨w.heap.size + 1, 1, none⟩ = some (.int .i64 (kn : Int)) ∧ w'.cell? ⟨bl, off + kn * 6, none⟩ = some (.int .i64 8) ∧ w'.cell? ⟨bl, off + kn * 6 + 1, none⟩ = some (.int .i64 i) ∧ w'.cell? ⟨bl, off + kn * 6 + 2, none⟩ = some (.int .i64 e0) ∧ w'.cell? ⟨bl, off + kn * 6 + 3, none⟩ = some (.int .i64 g) ∧ w'.cell? ⟨bl, off + kn * 6 + 4, none⟩ = some (.int .i64 x) ∧ w'.cell? ⟨bl, off + kn * 6 + 5, none⟩ = some (.int .i64 y))
      ((refine HSS.out _ ?_
        repeat (first | exact Keep.refl _ _ | refine Keep.drew ?_ | refine Keep.alloc ?_ _ | (refine Keep.setCell ?_ (.inr (by simp)) _))))
      (fail)
    all_goals
      go_wp2
      go_meet
      first
        | exact ⟨W3.heap.size, W3.heap.size + 1, rfl, rfl, (HA.out.alloc _).drew, Bk.drew (by have := Bk.new (W3.alloc (.cells #[.int .i64 8, .int .i64 i, .int .i64 e0, .int .i64 g, .int .i64 x, .int .i64 y] 53)) 3 #[.int .i64 (wd : Int)]; rwa [World.size_alloc] at this), (((Keep.refl _ _).alloc _).alloc _).drew⟩
        | exact ⟨W3.heap.size + 1, W3.heap.size, rfl, rfl, Bk.drew (by have := Bk.new (W3.alloc (.cells #[.int .i64 (wd : Int)] 3)) 53 #[.int .i64 8, .int .i64 i, .int .i64 e0, .int .i64 g, .int .i64 x, .int .i64 y]; rwa [World.size_alloc] at this), (HB.out.alloc _).drew, (((Keep.refl _ _).alloc _).alloc _).drew⟩
  case rest =>
    obtain ⟨bn, bw, rfl, rfl, hbn, hbw, K⟩ := hcut
    clear r0 r1 y0 y1 y2 y3 y4 y5
    have KW := HQ.out.2.2.2.trans K fun _ _ h => h
    have f0 := K.cellv (HQ.out.2.2.1.cell 0) fun h => h
    have r2 := K.cellv (HQ.out.2.1.cell 2) fun h => h
    have n0 := hbn.cell 0
    by_cases hl : L.length = 2
    · have HF2 := Lib.hid (iff_two (wd := wd) (x := x) (y := y) (h := h) hl)
      have e0 : ((L.length : Int) == 2) = true := by rw [hl]; rfl
      have z0 : (0 : Int) < (L.length : Int) := by omega
      have z0n : 0 < L.length := by omega
      have z1n : 1 < L.length := by omega
      have z11 : (1 : Int) < (L.length : Int) := by omega
      have HX : Hid (∀ (W : World) (b : Bool), Keep NoF wc W → Calls Try.prog 33 #[.bool b, .pointer (some ⟨bw, 0, none⟩), .pointer (some ⟨bn, 0, none⟩)] W fun e w' => e = .returned (.agg #[.int .i64 (wd : Int), .int .i64 x, .bool b]) ∧ Keep NoF W w') := Lib.hid fun W b hk => evfollows2_any wd x b bw bn W (hk.cellv (hbw.cell 0) fun h => h) (hk.cellv (hbn.cell 4) fun h => h)
      have HY : Hid (∀ (W : World) (b : Bool), Keep NoF wc W → Calls Try.prog 34 #[.bool b, .pointer (some ⟨bw, 0, none⟩), .pointer (some ⟨bn, 0, none⟩)] W fun e w' => e = .returned (.agg #[.int .i64 (wd : Int), .int .i64 y, .bool b]) ∧ Keep NoF W w') := Lib.hid fun W b hk => evfollows3_any wd y b bw bn W (hk.cellv (hbw.cell 0) fun h => h) (hk.cellv (hbn.cell 5) fun h => h)
      have hrl := HRL.out.kept KW fun _ _ h => h
      have KK : Keep NoF wc wc := Keep.refl _ _
      obtain ⟨-, hcl, lb, lo, rfl, -, -, c2⟩ := hrl.cl (clAt_eq (l := L) (k := 0) (by omega))
      obtain ⟨-, -, lb2, lo2, hbe, -, -, c5⟩ := hrl.cl (clAt_eq (l := L) (k := 1) (by omega))
      obtain ⟨e1, e2⟩ : lb = lb2 ∧ lo = lo2 := by simpa using hbe
      subst e1 e2
      clear hbe hl
      generalize (clAt L 0).h = ah at *
      generalize (clAt L 1).h = bh at *
      have c2' : wc.cell? ⟨lb, lo + 2, none⟩ = some (.bool ah) := by simpa using c2
      have c5' : wc.cell? ⟨lb, lo + 5, none⟩ = some (.bool bh) := by simpa using c5
      clear c2 c5
      have HI : Hid (∀ W : World, Keep NoF wc W → Calls Try.prog 31 #[.slice (some ⟨W.heap.size, 0, none⟩) 2 2, .pointer (some ⟨w.heap.size + 1 + 1, 0, none⟩)] (W.alloc (.cells #[.int .i64 (wd : Int), .int .i64 x, .bool ah, .int .i64 (wd : Int), .int .i64 y, .bool bh] 59)) fun e w' => e = .returned (.bool (decide (L = [⟨wd, x, ah⟩, ⟨wd, y, bh⟩]))) ∧ Keep NoF wc w') := Lib.hid fun W hk => is_two L ⟨wd, x, ah⟩ ⟨wd, y, bh⟩ _ cL _ hk f0 hrl (by omega)
      generalize decide (L = [⟨(wd : Int), x, ah⟩, ⟨(wd : Int), y, bh⟩]) = d at *
      have HSS : Hid (∀ w' : World, Keep NoF wc w' → w'.cell? ⟨w.heap.size + 1 + 1, 0, none⟩ = some (.slice (some ⟨lb, lo, none⟩) L.length cL) ∧ w'.cell? ⟨w.heap.size + 1, 2, none⟩ = some (.bool h) ∧ w'.cell? ⟨lb, lo + 2, none⟩ = some (.bool ah) ∧ w'.cell? ⟨lb, lo + 5, none⟩ = some (.bool bh)) := Lib.hid fun w' h => ⟨h.cellv f0 fun h => h, h.cellv r2 fun h => h, h.cellv c2' fun h => h, h.cellv c5' fun h => h⟩
      replace KK : Keep NoF wc wc.drew := KK.drew
      clear hbn hbw hrl
      go_upto_region 20 with (fail)
      cases d
      · refine wp_region_held_drew (S := fun w' => w'.cell? ⟨w.heap.size + 1 + 1, 0, none⟩ = some (.slice (some ⟨lb, lo, none⟩) L.length cL) ∧ w'.cell? ⟨w.heap.size + 1, 2, none⟩ = some (.bool h) ∧ w'.cell? ⟨lb, lo + 2, none⟩ = some (.bool ah) ∧ w'.cell? ⟨lb, lo + 5, none⟩ = some (.bool bh)) (by kernel_rfl) (HSS.out _ KK) (fun hHeld => ?_)
        refine wpAnyH_take (i := 0) (oi := ⟨some 169, _, _, _, _, _⟩) (v := ?_) rfl (by kernel_rfl) (by kernel_rfl) (by kernel_rfl) (fun _ _ _ h => h) (Or.inl ⟨by rfl, ?_⟩) (by assumption) ?_
        rotate_left 1
        · intro w hSw
          (try dsimp only at hSw)
          go_simp
          all_goals (try with_reducible rfl)
        (try simp only [Act.put, List.setIfInBounds_toArray, List.set_cons_zero, List.set_cons_succ])
        refine wpAnyH_take (i := 1) (oi := ⟨some 170, _, _, _, _, _⟩) (v := ?_) rfl (by kernel_rfl) (by kernel_rfl) (by kernel_rfl) (fun _ _ _ h => h) (Or.inl ⟨by rfl, ?_⟩) (by assumption) ?_
        rotate_left 1
        · intro w hSw
          (try dsimp only at hSw)
          go_simp
          all_goals (try with_reducible rfl)
        (try simp only [Act.put, List.setIfInBounds_toArray, List.set_cons_zero, List.set_cons_succ])
        refine wpAnyH_take (i := 2) (oi := ⟨some 171, _, _, _, _, _⟩) (v := ?_) rfl (by kernel_rfl) (by kernel_rfl) (by kernel_rfl) (fun _ _ _ h => h) (Or.inl ⟨by rfl, ?_⟩) (by assumption) ?_
        rotate_left 1
        · intro w hSw
          (try dsimp only at hSw)
          go_simp
          all_goals (try with_reducible rfl)
        (try simp only [Act.put, List.setIfInBounds_toArray, List.set_cons_zero, List.set_cons_succ])
        refine wpAnyH_take (i := 3) (oi := ⟨some 172, _, _, _, _, _⟩) (v := ?_) rfl (by kernel_rfl) (by kernel_rfl) (by kernel_rfl) (fun _ _ _ h => h) (Or.inl ⟨by rfl, ?_⟩) (by assumption) ?_
        rotate_left 1
        · intro w hSw
          (try dsimp only at hSw)
          go_simp
          all_goals (try with_reducible rfl)
        (try simp only [Act.put, List.setIfInBounds_toArray, List.set_cons_zero, List.set_cons_succ])
        refine wpAnyH_take (i := 4) (oi := ⟨some 173, _, _, _, _, _⟩) (v := ?_) rfl (by kernel_rfl) (by kernel_rfl) (by kernel_rfl) (fun _ _ _ h => h) (Or.inl ⟨by rfl, ?_⟩) (by assumption) ?_
        rotate_left 1
        · intro w hSw
          (try dsimp only at hSw)
          go_simp
          all_goals (try with_reducible rfl)
        (try simp only [Act.put, List.setIfInBounds_toArray, List.set_cons_zero, List.set_cons_succ])
        refine wpAnyH_take (i := 5) (oi := ⟨some 174, _, _, _, _, _⟩) (v := ?_) rfl (by kernel_rfl) (by kernel_rfl) (by kernel_rfl) (fun _ _ _ h => h) (Or.inl ⟨by rfl, ?_⟩) (by assumption) ?_
        rotate_left 1
        · intro w hSw
          (try dsimp only at hSw)
          go_simp
          all_goals (try with_reducible rfl)
        (try simp only [Act.put, List.setIfInBounds_toArray, List.set_cons_zero, List.set_cons_succ])
        refine wpAnyH_take (i := 6) (oi := ⟨some 175, _, _, _, _, _⟩) (v := ?_) rfl (by kernel_rfl) (by kernel_rfl) (by kernel_rfl) (fun _ _ _ h => h) (Or.inl ⟨by rfl, ?_⟩) (by assumption) ?_
        rotate_left 1
        · intro w hSw
          (try dsimp only at hSw)
          go_simp
          all_goals (try with_reducible rfl)
        (try simp only [Act.put, List.setIfInBounds_toArray, List.set_cons_zero, List.set_cons_succ])
        refine wpAnyH_take (i := 7) (oi := ⟨some 176, _, _, _, _, _⟩) (v := ?_) rfl (by kernel_rfl) (by kernel_rfl) (by kernel_rfl) (fun _ _ _ h => h) (Or.inl ⟨by rfl, ?_⟩) (by assumption) ?_
        rotate_left 1
        · intro w hSw
          (try dsimp only at hSw)
          go_simp
          all_goals (try with_reducible rfl)
        (try simp only [Act.put, List.setIfInBounds_toArray, List.set_cons_zero, List.set_cons_succ])
        refine wpAnyH_take (i := 8) (oi := ⟨some 177, _, _, _, _, _⟩) (v := ?_) rfl (by kernel_rfl) (by kernel_rfl) (by kernel_rfl) (fun _ _ _ h => h) (Or.inl ⟨by rfl, ?_⟩) (by assumption) ?_
        rotate_left 1
        · intro w hSw
          (try dsimp only at hSw)
          go_simp
          all_goals (try with_reducible rfl)
        (try simp only [Act.put, List.setIfInBounds_toArray, List.set_cons_zero, List.set_cons_succ])
        refine wpAnyH_take (i := 9) (oi := ⟨some 178, _, _, _, _, _⟩) (v := ?_) rfl (by kernel_rfl) (by kernel_rfl) (by kernel_rfl) (fun _ _ _ h => h) (Or.inl ⟨by rfl, ?_⟩) (by assumption) ?_
        rotate_left 1
        · intro w hSw
          (try dsimp only at hSw)
          go_simp
          all_goals (try with_reducible rfl)
        (try simp only [Act.put, List.setIfInBounds_toArray, List.set_cons_zero, List.set_cons_succ])
        refine wpAnyH_take (i := 11) (oi := ⟨some 180, _, _, _, _, _⟩) (v := ?_) rfl (by kernel_rfl) (by kernel_rfl) (by kernel_rfl) (fun _ _ _ h => h) (Or.inl ⟨by rfl, ?_⟩) (by assumption) ?_
        rotate_left 1
        · intro w hSw
          (try dsimp only at hSw)
          go_simp
          all_goals (try with_reducible rfl)
        (try simp only [Act.put, List.setIfInBounds_toArray, List.set_cons_zero, List.set_cons_succ])
        refine wpAnyH_take (i := 12) (oi := ⟨some 181, _, _, _, _, _⟩) (v := ?_) rfl (by kernel_rfl) (by kernel_rfl) (by kernel_rfl) (fun _ _ _ h => h) (Or.inl ⟨by rfl, ?_⟩) (by assumption) ?_
        rotate_left 1
        · intro w hSw
          (try dsimp only at hSw)
          go_simp
          all_goals (try with_reducible rfl)
        (try simp only [Act.put, List.setIfInBounds_toArray, List.set_cons_zero, List.set_cons_succ])
        refine wpAnyH_take (i := 13) (oi := ⟨some 182, _, _, _, _, _⟩) (v := ?_) rfl (by kernel_rfl) (by kernel_rfl) (by kernel_rfl) (fun _ _ _ h => h) (Or.inl ⟨by rfl, ?_⟩) (by assumption) ?_
        rotate_left 1
        · intro w hSw
          (try dsimp only at hSw)
          go_simp
          all_goals (try with_reducible rfl)
        (try simp only [Act.put, List.setIfInBounds_toArray, List.set_cons_zero, List.set_cons_succ])
        refine wpAnyH_take (i := 14) (oi := ⟨some 183, _, _, _, _, _⟩) (v := ?_) rfl (by kernel_rfl) (by kernel_rfl) (by kernel_rfl) (fun _ _ _ h => h) (Or.inl ⟨by rfl, ?_⟩) (by assumption) ?_
        rotate_left 1
        · intro w hSw
          (try dsimp only at hSw)
          go_simp
          all_goals (try with_reducible rfl)
        (try simp only [Act.put, List.setIfInBounds_toArray, List.set_cons_zero, List.set_cons_succ])
        refine wpAnyH_take (i := 15) (oi := ⟨some 184, _, _, _, _, _⟩) (v := ?_) rfl (by kernel_rfl) (by kernel_rfl) (by kernel_rfl) (fun _ _ _ h => h) (Or.inl ⟨by rfl, ?_⟩) (by assumption) ?_
        rotate_left 1
        · intro w hSw
          (try dsimp only at hSw)
          go_simp
          all_goals (try with_reducible rfl)
        (try simp only [Act.put, List.setIfInBounds_toArray, List.set_cons_zero, List.set_cons_succ])
        refine wpAnyH_ready (rs := [10]) (by kernel_rfl) (by simp) ?_
        refine AllReadyH.cons (o := ⟨some 179, _, _, _, _, _⟩) rfl (fun K hK => ?_) ?_
        · go_simp
          go_at_call 33
          (with_reducible refine (HX.out _ _ KK).mono ?_)
          rintro e w5 ⟨rfl, k5⟩
          replace KK := KK.trans k5 fun _ _ h => h
          (try go_wp2_with (fail))
          refine hK.out _ _ (HSS.out _ KK) (fun hHeld => ?_)
          clear hK K
          (try simp only [Act.put, List.setIfInBounds_toArray, List.set_cons_zero, List.set_cons_succ])
          refine wpAnyH_ready (rs := [16]) (by kernel_rfl) (by simp) ?_
          refine AllReadyH.cons (o := ⟨some 185, _, _, _, _, _⟩) rfl (fun K hK => ?_) ?_
          · go_simp
            go_at_call 34
            (with_reducible refine (HY.out _ _ KK).mono ?_)
            rintro e w5 ⟨rfl, k5⟩
            replace KK := KK.trans k5 fun _ _ h => h
            (try go_wp2_with (fail))
            refine hK.out _ _ (HSS.out _ KK) (fun hHeld => ?_)
            clear hK K
            (try simp only [Act.put, List.setIfInBounds_toArray, List.set_cons_zero, List.set_cons_succ])
            refine wpAnyH_ready (rs := [17]) (by kernel_rfl) (by simp) ?_
            refine AllReadyH.cons (o := ⟨some 186, _, _, _, _, _⟩) rfl (fun K hK => ?_) ?_
            · go_simp
              refine hK.out _ _ (HSS.out _ (KK.alloc _)) (fun hHeld => ?_)
              clear hK K
              (try simp only [Act.put, List.setIfInBounds_toArray, List.set_cons_zero, List.set_cons_succ])
              refine wpAnyH_ready (rs := [18]) (by kernel_rfl) (by simp) ?_
              refine AllReadyH.cons (o := ⟨some 187, _, _, _, _, _⟩) rfl (fun K hK => ?_) ?_
              · go_simp
                go_at_call 31
                (with_reducible refine (HI.out _ KK).mono ?_)
                rintro e w6 ⟨rfl, k6⟩
                replace KK := k6
                have r26 := KK.cellv r2 fun h => h
                (try go_wp2_with (fail))
                refine hK.out _ _ (HSS.out _ KK) (fun hHeld => ?_)
                clear hK K
                (try simp only [Act.put, List.setIfInBounds_toArray, List.set_cons_zero, List.set_cons_succ])
                refine wpAnyH_take (i := 19) (oi := ⟨some 188, _, _, _, _, _⟩) (v := ?_) rfl (by kernel_rfl) (by kernel_rfl) (by kernel_rfl) (fun _ _ _ h => h) (Or.inl ⟨by rfl, ?_⟩) (by assumption) ?_
                rotate_left 1
                · intro w hSw
                  (try dsimp only at hSw)
                  go_simp
                  all_goals (try with_reducible rfl)
                (try simp only [Act.put, List.setIfInBounds_toArray, List.set_cons_zero, List.set_cons_succ])
                refine wpAnyH_take (i := 20) (oi := ⟨some 189, _, _, _, _, _⟩) (v := ?_) rfl (by kernel_rfl) (by kernel_rfl) (by kernel_rfl) (fun _ _ _ h => h) (Or.inl ⟨by rfl, ?_⟩) (by assumption) ?_
                rotate_left 1
                · intro w hSw
                  (try dsimp only at hSw)
                  go_simp
                  all_goals (try with_reducible rfl)
                (try simp only [Act.put, List.setIfInBounds_toArray, List.set_cons_zero, List.set_cons_succ])
                refine wpAnyH_take (i := 21) (oi := ⟨some 190, _, _, _, _, _⟩) (v := undef) rfl (by kernel_rfl) (by kernel_rfl) (by kernel_rfl) (fun _ _ _ h => h) (Or.inr ⟨by rfl, rfl⟩) (by assumption) ?_
                (try simp only [Act.put, List.setIfInBounds_toArray, List.set_cons_zero, List.set_cons_succ])
                refine wpAnyH_take (i := 22) (oi := ⟨some 191, _, _, _, _, _⟩) (v := undef) rfl (by kernel_rfl) (by kernel_rfl) (by kernel_rfl) (fun _ _ _ h => h) (Or.inr ⟨by rfl, rfl⟩) (by assumption) ?_
                (try simp only [Act.put, List.setIfInBounds_toArray, List.set_cons_zero, List.set_cons_succ])
                refine wpAnyH_take (i := 23) (oi := ⟨some 192, _, _, _, _, _⟩) (v := undef) rfl (by kernel_rfl) (by kernel_rfl) (by kernel_rfl) (fun _ _ _ h => h) (Or.inr ⟨by rfl, rfl⟩) (by assumption) ?_
                (try simp only [Act.put, List.setIfInBounds_toArray, List.set_cons_zero, List.set_cons_succ])
                refine wpAnyH_take (i := 24) (oi := ⟨some 193, _, _, _, _, _⟩) (v := undef) rfl (by kernel_rfl) (by kernel_rfl) (by kernel_rfl) (fun _ _ _ h => h) (Or.inr ⟨by rfl, rfl⟩) (by assumption) ?_
                (try simp only [Act.put, List.setIfInBounds_toArray, List.set_cons_zero, List.set_cons_succ])
                refine wpAnyH_take (i := 25) (oi := ⟨some 194, _, _, _, _, _⟩) (v := undef) rfl (by kernel_rfl) (by kernel_rfl) (by kernel_rfl) (fun _ _ _ h => h) (Or.inr ⟨by rfl, rfl⟩) (by assumption) ?_
                (try simp only [Act.put, List.setIfInBounds_toArray, List.set_cons_zero, List.set_cons_succ])
                refine wpAnyH_take (i := 26) (oi := ⟨some 195, _, _, _, _, _⟩) (v := undef) rfl (by kernel_rfl) (by kernel_rfl) (by kernel_rfl) (fun _ _ _ h => h) (Or.inr ⟨by rfl, rfl⟩) (by assumption) ?_
                (try simp only [Act.put, List.setIfInBounds_toArray, List.set_cons_zero, List.set_cons_succ])
                refine wpAnyH_take (i := 27) (oi := ⟨some 196, _, _, _, _, _⟩) (v := undef) rfl (by kernel_rfl) (by kernel_rfl) (by kernel_rfl) (fun _ _ _ h => h) (Or.inr ⟨by rfl, rfl⟩) (by assumption) ?_
                (try simp only [Act.put, List.setIfInBounds_toArray, List.set_cons_zero, List.set_cons_succ])
                refine wpAnyH_take (i := 28) (oi := ⟨some 197, _, _, _, _, _⟩) (v := undef) rfl (by kernel_rfl) (by kernel_rfl) (by kernel_rfl) (fun _ _ _ h => h) (Or.inr ⟨by rfl, rfl⟩) (by assumption) ?_
                (try simp only [Act.put, List.setIfInBounds_toArray, List.set_cons_zero, List.set_cons_succ])
                refine wpAnyH_take (i := 29) (oi := ⟨some 198, _, _, _, _, _⟩) (v := undef) rfl (by kernel_rfl) (by kernel_rfl) (by kernel_rfl) (fun _ _ _ h => h) (Or.inr ⟨by rfl, rfl⟩) (by assumption) ?_
                (try simp only [Act.put, List.setIfInBounds_toArray, List.set_cons_zero, List.set_cons_succ])
                refine wpAnyH_take (i := 30) (oi := ⟨some 199, _, _, _, _, _⟩) (v := undef) rfl (by kernel_rfl) (by kernel_rfl) (by kernel_rfl) (fun _ _ _ h => h) (Or.inr ⟨by rfl, rfl⟩) (by assumption) ?_
                (try simp only [Act.put, List.setIfInBounds_toArray, List.set_cons_zero, List.set_cons_succ])
                refine wpAnyH_take (i := 31) (oi := ⟨some 200, _, _, _, _, _⟩) (v := undef) rfl (by kernel_rfl) (by kernel_rfl) (by kernel_rfl) (fun _ _ _ h => h) (Or.inr ⟨by rfl, rfl⟩) (by assumption) ?_
                (try simp only [Act.put, List.setIfInBounds_toArray, List.set_cons_zero, List.set_cons_succ])
                refine wpAnyH_take (i := 32) (oi := ⟨some 201, _, _, _, _, _⟩) (v := undef) rfl (by kernel_rfl) (by kernel_rfl) (by kernel_rfl) (fun _ _ _ h => h) (Or.inr ⟨by rfl, rfl⟩) (by assumption) ?_
                (try simp only [Act.put, List.setIfInBounds_toArray, List.set_cons_zero, List.set_cons_succ])
                refine wpAnyH_take (i := 33) (oi := ⟨some 202, _, _, _, _, _⟩) (v := ?_) rfl (by kernel_rfl) (by kernel_rfl) (by kernel_rfl) (fun _ _ _ h => h) (Or.inl ⟨by rfl, ?_⟩) (by assumption) ?_
                rotate_left 1
                · intro w hSw
                  (try dsimp only at hSw)
                  go_simp
                  all_goals (try with_reducible rfl)
                (try simp only [Act.put, List.setIfInBounds_toArray, List.set_cons_zero, List.set_cons_succ])
                refine wpAnyH_take (i := 34) (oi := ⟨some 8, _, _, _, _, _⟩) (v := ?_) rfl (by kernel_rfl) (by kernel_rfl) (by kernel_rfl) (fun _ _ _ h => h) (Or.inl ⟨by rfl, ?_⟩) (by assumption) ?_
                rotate_left 1
                · intro w hSw
                  (try dsimp only at hSw)
                  go_simp
                  all_goals (try with_reducible rfl)
                (try simp only [Act.put, List.setIfInBounds_toArray, List.set_cons_zero, List.set_cons_succ])
                refine wpAnyH_done (by kernel_rfl) ?_ _
                go_wp2
                go_ret
                exact ⟨by rw [HFB.out, HF2.out]; cases h <;> cases ah <;> cases bh <;> rfl, KW.trans KK fun _ _ h => h⟩
              exact AllReadyH.nil
            exact AllReadyH.nil
          exact AllReadyH.nil
        exact AllReadyH.nil
      · go_region_held3 (fun w' => w'.cell? ⟨w.heap.size + 1 + 1, 0, none⟩ = some (.slice (some ⟨lb, lo, none⟩) L.length cL) ∧ w'.cell? ⟨w.heap.size + 1, 2, none⟩ = some (.bool h) ∧ w'.cell? ⟨lb, lo + 2, none⟩ = some (.bool ah) ∧ w'.cell? ⟨lb, lo + 5, none⟩ = some (.bool bh))
          (first
            | with_reducible exact HSS.out _ KK
            | with_reducible exact HSS.out _ (KK.alloc _))
          (first
            | (go_at_call 33
               (with_reducible refine (HX.out _ _ KK).mono ?_)
               rintro e w5 ⟨rfl, k5⟩
               replace KK := KK.trans k5 fun _ _ h => h)
            | (go_at_call 34
               (with_reducible refine (HY.out _ _ KK).mono ?_)
               rintro e w5 ⟨rfl, k5⟩
               replace KK := KK.trans k5 fun _ _ h => h)
            | (go_at_call 31
               (with_reducible refine (HI.out _ KK).mono ?_)
               rintro e w6 ⟨rfl, k6⟩
               replace KK := k6
               have r26 := KK.cellv r2 fun h => h))
        all_goals
          go_wp2
          go_ret
          exact ⟨by rw [HFB.out, HF2.out]; cases h <;> cases ah <;> cases bh <;> rfl, KW.trans KK fun _ _ h => h⟩
    · have HF2 := Lib.hid (iff_no (wd := wd) (x := x) (y := y) (h := h) hl)
      have e0 : ((L.length : Int) == 2) = false := beq_eq_false_iff_ne.2 (by omega)
      clear hl hbn hbw
      go_wp2
      go_quiet (fail)
      go_wp2
      go_ret
      exact ⟨by rw [HFB.out, HF2.out]; rfl, KW.drewN _⟩
end
end Go.Proofs.Ytmjdbbfoihadoaa
