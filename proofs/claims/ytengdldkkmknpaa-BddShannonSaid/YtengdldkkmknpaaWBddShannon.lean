/- The walk of the law BddShannon. No condition. -/
import Derived.Test.YtengdldkkmknpaaShan
set_option linter.unusedVariables false
set_option linter.unusedSimpArgs false
namespace Go.Proofs.Ytengdldkkmknpaa
open Go.RowKit
open Dd (rf)

structure ShF (W : World) (f : BF) (i : Nat) (ga gv gx gy gz gp gq gj gm : Nat) (Aa : Option Addr) (na ca ra : Nat) (Av : Option Addr) (nv cv rv : Nat) (Ax : Option Addr) (nx cx rx : Nat) (Ay : Option Addr) (ny cy ry : Nat) (Az : Option Addr) (nz cz rz : Nat) (Ap : Option Addr) (np cp rp : Nat) (Aq : Option Addr) (nq cq rq : Nat) (Aj : Option Addr) (nj cj rj : Nat) (Am : Option Addr) (nm cm rm : Nat) : Prop where
  a : Bk W ga 24 #[.int .i64 5, .slice Aa na ca, .int .i64 ra]
  v : Bk W gv 24 #[.int .i64 5, .slice Av nv cv, .int .i64 rv]
  x : Bk W gx 24 #[.int .i64 5, .slice Ax nx cx, .int .i64 rx]
  y : Bk W gy 24 #[.int .i64 5, .slice Ay ny cy, .int .i64 ry]
  z : Bk W gz 24 #[.int .i64 5, .slice Az nz cz, .int .i64 rz]
  p : Bk W gp 24 #[.int .i64 5, .slice Ap np cp, .int .i64 rp]
  q : Bk W gq 24 #[.int .i64 5, .slice Aq nq cq, .int .i64 rq]
  j : Bk W gj 24 #[.int .i64 5, .slice Aj nj cj, .int .i64 rj]
  m : Bk W gm 24 #[.int .i64 5, .slice Am nm cm, .int .i64 rm]
  fa : IsD W 5 f Aa na ca ra
  fv : IsD W 5 (fun ρ => ρ i) Av nv cv rv
  fx : IsD W 5 (rf i false f) Ax nx cx rx
  fy : IsD W 5 (rf i true f) Ay ny cy ry
  fz : IsD W 5 f Az nz cz rz
  fp : IsD W 5 (fun ρ => rf i false f ρ || rf i true f ρ) Ap np cp rp
  fq : IsD W 5 (fun ρ => rf i false f ρ && rf i true f ρ) Aq nq cq rq
  fj : IsD W 5 (fun ρ => rf i false f ρ || rf i true f ρ) Aj nj cj rj
  fm : IsD W 5 (fun ρ => rf i false f ρ && rf i true f ρ) Am nm cm rm
theorem ShF.keep {W W' : World} {f : BF} {i ga gv gx gy gz gp gq gj gm : Nat} {Aa : Option Addr} {na ca ra : Nat} {Av : Option Addr} {nv cv rv : Nat} {Ax : Option Addr} {nx cx rx : Nat} {Ay : Option Addr} {ny cy ry : Nat} {Az : Option Addr} {nz cz rz : Nat} {Ap : Option Addr} {np cp rp : Nat} {Aq : Option Addr} {nq cq rq : Nat} {Aj : Option Addr} {nj cj rj : Nat} {Am : Option Addr} {nm cm rm : Nat} (k : ShF W f i ga gv gx gy gz gp gq gj gm Aa na ca ra Av nv cv rv Ax nx cx rx Ay ny cy ry Az nz cz rz Ap np cp rp Aq nq cq rq Aj nj cj rj Am nm cm rm) (hk : Keep NoF W W') : ShF W' f i ga gv gx gy gz gp gq gj gm Aa na ca ra Av nv cv rv Ax nx cx rx Ay ny cy ry Az nz cz rz Ap np cp rp Aq nq cq rq Aj nj cj rj Am nm cm rm :=
  ⟨k.a.keep hk (fun h => h), k.v.keep hk (fun h => h), k.x.keep hk (fun h => h), k.y.keep hk (fun h => h), k.z.keep hk (fun h => h), k.p.keep hk (fun h => h), k.q.keep hk (fun h => h), k.j.keep hk (fun h => h), k.m.keep hk (fun h => h), k.fa.keep hk, k.fv.keep hk, k.fx.keep hk, k.fy.keep hk, k.fz.keep hk, k.fp.keep hk, k.fq.keep hk, k.fj.keep hk, k.fm.keep hk⟩

set_option maxRecDepth 100000 in
set_option maxHeartbeats 8000000 in
theorem walk_BddShannon (a0 a1 : Int) (w0 : (Lit.int .u64 a0).wf = true) (w1 : (Lit.int .i64 a1).wf = true) (w : World) :
    Calls Try.prog 10 #[.int .u64 a0, .int .i64 a1] w fun e w' => e = .returned (.bool true) ∧ Keep NoF w w' := by
  have b0 := bounds_u64 w0
  clear w0 w1
  by_cases h1 : a1 < 0
  · go_enter Try.func10, Try.ntmps10
    go_wp2_with (go_at_call 12; (with_reducible refine (awake_any _).mono ?_); rintro e w7 ⟨rfl, k7⟩)
    go_ret
    exact ⟨rfl, k7⟩
  by_cases h2 : 4 < a1
  · go_enter Try.func10, Try.ntmps10
    go_wp2_with (go_at_call 12; (with_reducible refine (awake_any _).mono ?_); rintro e w7 ⟨rfl, k7⟩)
    go_ret
    exact ⟨rfl, k7⟩
  obtain ⟨t, rfl⟩ := Int.eq_ofNat_of_zero_le (show 0 ≤ a0 by omega)
  obtain ⟨i, rfl⟩ := Int.eq_ofNat_of_zero_le (show 0 ≤ a1 by omega)
  have hi : i < 5 := by omega
  have HT : Hid (t < 18446744073709551616) := Lib.hid (by omega)
  clear b0 h1 h2
  have HB : Hid (∀ (W : World) (gb : Nat), W.cell? ⟨gb, 0, none⟩ = some (.int .u64 t) → Calls Try.prog 38 #[.int .i64 5, .slice (some ⟨gb, 0, none⟩) 1 1] W (D5 W (tf t 5 0 0))) := Lib.hid fun W gb h => (build_any 5 t HT.out (by omega) W gb 0 1 h).mono fun _ _ h => h.d5
  clear HT
  generalize tf t 5 0 0 = f at *
  have HV := Lib.hid fun (W : World) => s5_var W hi
  go_enter Try.func10, Try.ntmps10
  go_upto_region 4 with (go_at_call 38
                         (with_reducible refine (HB.out _ _ (by simp [go_sem])).mono ?_)
                         rintro e w1 ⟨Aa, na, ca, ra, rfl, da, ka⟩)
  have kk : Keep NoF w (w1.alloc (.cells #[.int .i64 5, .slice Aa na ca, .int .i64 ra] 24)) := (((Keep.refl NoF w).alloc (.cells #[.int .u64 t] 25)).trans ka fun _ _ h => h).alloc _
  have qa := Bk.new w1 24 #[.int .i64 5, .slice Aa na ca, .int .i64 ra]
  have fa := da.keep ((Keep.refl NoF w1).alloc (.cells #[.int .i64 5, .slice Aa na ca, .int .i64 ra] 24))
  have kw : Keep NoF w _ := kk
  clear da ka kk
  generalize (w1.alloc (.cells #[.int .i64 5, .slice Aa na ca, .int .i64 ra] 24)) = W1 at *
  have la := qa.lt
  go_upto_region 5 with (go_at_call 36
                         (with_reducible refine (HV.out _).mono ?_)
                         rintro e w2 ⟨Av, nv, cv, rv, rfl, dv, kv, _⟩)
  have kk : Keep NoF W1 (w2.alloc (.cells #[.int .i64 5, .slice Av nv cv, .int .i64 rv] 24)) := kv.alloc _
  have qv := Bk.new w2 24 #[.int .i64 5, .slice Av nv cv, .int .i64 rv]
  have fv := dv.keep ((Keep.refl NoF w2).alloc (.cells #[.int .i64 5, .slice Av nv cv, .int .i64 rv] 24))
  have qa := qa.keep kk (fun h => h)
  have fa := fa.keep kk
  have kw : Keep NoF w _ := kw.trans kk fun _ _ h => h
  clear dv kv kk
  generalize (w2.alloc (.cells #[.int .i64 5, .slice Av nv cv, .int .i64 rv] 24)) = W2 at *
  have la := qa.lt
  have lv := qv.lt
  have HX := Lib.hid (s5_res (W := W2) hi false fa)
  have ua0 : W2.cell? ⟨w1.heap.size, 0, none⟩ = some (.int .i64 5) := qa.cell 0
  have ua1 : W2.cell? ⟨w1.heap.size, 1, none⟩ = some (.slice Aa na ca) := qa.cell 1
  have ua2 : W2.cell? ⟨w1.heap.size, 2, none⟩ = some (.int .i64 ra) := qa.cell 2
  go_upto_region 6 with (go_at_call 43
                         (with_reducible refine (HX.out).mono ?_)
                         rintro e w3 ⟨Ax, nx, cx, rx, rfl, dx, kx, _⟩)
  clear ua0 ua1 ua2
  have kk : Keep NoF W2 (w3.alloc (.cells #[.int .i64 5, .slice Ax nx cx, .int .i64 rx] 24)) := kx.alloc _
  have qx := Bk.new w3 24 #[.int .i64 5, .slice Ax nx cx, .int .i64 rx]
  have fx := dx.keep ((Keep.refl NoF w3).alloc (.cells #[.int .i64 5, .slice Ax nx cx, .int .i64 rx] 24))
  have qa := qa.keep kk (fun h => h)
  have fa := fa.keep kk
  have qv := qv.keep kk (fun h => h)
  have fv := fv.keep kk
  have kw : Keep NoF w _ := kw.trans kk fun _ _ h => h
  clear dx kx kk HX
  generalize (w3.alloc (.cells #[.int .i64 5, .slice Ax nx cx, .int .i64 rx] 24)) = W3 at *
  have la := qa.lt
  have lv := qv.lt
  have lx := qx.lt
  have HY := Lib.hid (s5_res (W := W3) hi true fa)
  have ua0 : W3.cell? ⟨w1.heap.size, 0, none⟩ = some (.int .i64 5) := qa.cell 0
  have ua1 : W3.cell? ⟨w1.heap.size, 1, none⟩ = some (.slice Aa na ca) := qa.cell 1
  have ua2 : W3.cell? ⟨w1.heap.size, 2, none⟩ = some (.int .i64 ra) := qa.cell 2
  go_upto_region 7 with (go_at_call 43
                         (with_reducible refine (HY.out).mono ?_)
                         rintro e w4 ⟨Ay, ny, cy, ry, rfl, dy, ky, _⟩)
  clear ua0 ua1 ua2
  have kk : Keep NoF W3 (w4.alloc (.cells #[.int .i64 5, .slice Ay ny cy, .int .i64 ry] 24)) := ky.alloc _
  have qy := Bk.new w4 24 #[.int .i64 5, .slice Ay ny cy, .int .i64 ry]
  have fy := dy.keep ((Keep.refl NoF w4).alloc (.cells #[.int .i64 5, .slice Ay ny cy, .int .i64 ry] 24))
  have qa := qa.keep kk (fun h => h)
  have fa := fa.keep kk
  have qv := qv.keep kk (fun h => h)
  have fv := fv.keep kk
  have qx := qx.keep kk (fun h => h)
  have fx := fx.keep kk
  have kw : Keep NoF w _ := kw.trans kk fun _ _ h => h
  clear dy ky kk HY
  generalize (w4.alloc (.cells #[.int .i64 5, .slice Ay ny cy, .int .i64 ry] 24)) = W4 at *
  have la := qa.lt
  have lv := qv.lt
  have lx := qx.lt
  have ly := qy.lt
  go_upto_region 9 with (fail)
  have HZ := Lib.hid (s5_exp (W := W4) fv fy fx)
  have uv0 : W4.cell? ⟨w2.heap.size, 0, none⟩ = some (.int .i64 5) := qv.cell 0
  have uv1 : W4.cell? ⟨w2.heap.size, 1, none⟩ = some (.slice Av nv cv) := qv.cell 1
  have uv2 : W4.cell? ⟨w2.heap.size, 2, none⟩ = some (.int .i64 rv) := qv.cell 2
  have uy0 : W4.cell? ⟨w4.heap.size, 0, none⟩ = some (.int .i64 5) := qy.cell 0
  have uy1 : W4.cell? ⟨w4.heap.size, 1, none⟩ = some (.slice Ay ny cy) := qy.cell 1
  have uy2 : W4.cell? ⟨w4.heap.size, 2, none⟩ = some (.int .i64 ry) := qy.cell 2
  have ux0 : W4.cell? ⟨w3.heap.size, 0, none⟩ = some (.int .i64 5) := qx.cell 0
  have ux1 : W4.cell? ⟨w3.heap.size, 1, none⟩ = some (.slice Ax nx cx) := qx.cell 1
  have ux2 : W4.cell? ⟨w3.heap.size, 2, none⟩ = some (.int .i64 rx) := qx.cell 2
  go_upto_region 10 with (go_at_call 32
                          (with_reducible refine (HZ.out).mono ?_)
                          rintro e w5 ⟨Az, nz, cz, rz, rfl, dz, kz, _⟩)
  clear uv0 uv1 uv2 uy0 uy1 uy2 ux0 ux1 ux2
  have kk : Keep NoF W4 (w5.alloc (.cells #[.int .i64 5, .slice Az nz cz, .int .i64 rz] 24)) := kz.alloc _
  have qz := Bk.new w5 24 #[.int .i64 5, .slice Az nz cz, .int .i64 rz]
  have fz := dz.keep ((Keep.refl NoF w5).alloc (.cells #[.int .i64 5, .slice Az nz cz, .int .i64 rz] 24))
  have qa := qa.keep kk (fun h => h)
  have fa := fa.keep kk
  have qv := qv.keep kk (fun h => h)
  have fv := fv.keep kk
  have qx := qx.keep kk (fun h => h)
  have fx := fx.keep kk
  have qy := qy.keep kk (fun h => h)
  have fy := fy.keep kk
  have kw : Keep NoF w _ := kw.trans kk fun _ _ h => h
  clear dz kz kk HZ
  generalize (w5.alloc (.cells #[.int .i64 5, .slice Az nz cz, .int .i64 rz] 24)) = W5 at *
  have la := qa.lt
  have lv := qv.lt
  have lx := qx.lt
  have ly := qy.lt
  have lz := qz.lt
  have hp2 : (2 : Int) ^ i ≤ 16 := by
    have e : (2 : Int) ^ i = ((2 ^ i : Nat) : Int) := by norm_cast
    have h : 2 ^ i ≤ 2 ^ 4 := Nat.pow_le_pow_right (by omega) (by omega)
    rw [e]
    generalize 2 ^ i = m at *
    omega
  have hp3 : (0 : Int) ≤ (2 : Int) ^ i := Int.le_of_lt (Int.pow_pos (by omega))
  have E : IntKind.u64.wrap ((2 : Int) ^ i) = (2 : Int) ^ i := IntWalk.u64_in _ (by omega)
  have ua0 : W5.cell? ⟨w1.heap.size, 0, none⟩ = some (.int .i64 5) := qa.cell 0
  have ua1 : W5.cell? ⟨w1.heap.size, 1, none⟩ = some (.slice Aa na ca) := qa.cell 1
  have ua2 : W5.cell? ⟨w1.heap.size, 2, none⟩ = some (.int .i64 ra) := qa.cell 2
  have xd0 : W5.drew.cell? ⟨w1.heap.size, 0, none⟩ = some (.int .i64 5) := ua0
  have xd1 : W5.drew.cell? ⟨w1.heap.size, 1, none⟩ = some (.slice Aa na ca) := ua1
  have xd2 : W5.drew.cell? ⟨w1.heap.size, 2, none⟩ = some (.int .i64 ra) := ua2
  have xa0 : ∀ o, (W5.alloc o).drew.cell? ⟨w1.heap.size, 0, none⟩ = some (.int .i64 5) := fun o => ((Keep.refl NoF W5).alloc o).cellv ua0 (fun h => h)
  have xa1 : ∀ o, (W5.alloc o).drew.cell? ⟨w1.heap.size, 1, none⟩ = some (.slice Aa na ca) := fun o => ((Keep.refl NoF W5).alloc o).cellv ua1 (fun h => h)
  have xa2 : ∀ o, (W5.alloc o).drew.cell? ⟨w1.heap.size, 2, none⟩ = some (.int .i64 ra) := fun o => ((Keep.refl NoF W5).alloc o).cellv ua2 (fun h => h)
  have HE := Lib.hid fun (V : World) (hk : Keep NoF W5 V) => s5_some hi (fa.keep hk)
  have abk0 : Bk (W5.alloc (.cells #[.int .i64 0, .slice none 0 0, .int .i64 0] 24)).drew W5.heap.size 24 #[.int .i64 0, .slice none 0 0, .int .i64 0] := Bk.drew (Bk.new W5 _ _)
  go_cut [15, 16] (fun v1 v2 wc => ∃ (cb n c : Nat) (A : Option Addr) (r : Nat), v1 = .pointer (some ⟨cb, 0, none⟩) ∧ v2 = .int .i64 0 ∧ Bk wc cb 24 #[.int .i64 5, .slice A n c, .int .i64 r] ∧ IsD wc 5 (fun ρ => rf i false f ρ || rf i true f ρ) A n c r ∧ Keep NoF W5 wc)
  case first =>
    go_region_held3 (fun w' => w'.cell? ⟨w1.heap.size, 0, none⟩ = some (.int .i64 5) ∧ w'.cell? ⟨w1.heap.size, 1, none⟩ = some (.slice Aa na ca) ∧ w'.cell? ⟨w1.heap.size, 2, none⟩ = some (.int .i64 ra))
      (first
        | with_reducible exact ⟨xd0, xd1, xd2⟩
        | with_reducible exact ⟨xa0 _, xa1 _, xa2 _⟩
        | with_reducible exact ⟨s0, s1, s2⟩
        | with_reducible exact ⟨sa0 _, sa1 _, sa2 _⟩
        | (go_split_ands
           refine ⟨?_, ?_, ?_⟩
           all_goals exact Keep.cellv (keep_set3 _ W5.heap.size _ _ _) (by first | assumption | exact sa0 _ | exact sa1 _ | exact sa2 _) (by simp <;> omega)))
      (first
        | (go_at_call 47
           have akk := abk0
           (with_reducible refine (HE.out (W5.alloc _).drew ((Keep.refl NoF _).alloc _).drew).mono ?_)
           rintro e w4 ⟨A, n, c, r, rfl, hd4, hk4, hf4⟩
           have k4 : Keep NoF W5 w4 := ((Keep.refl _ _).alloc _).drew.trans hk4 fun _ _ h => h
           have s0 : w4.cell? ⟨w1.heap.size, 0, none⟩ = some (.int .i64 5) := k4.cellv ua0 (fun h => h)
           have s1 : w4.cell? ⟨w1.heap.size, 1, none⟩ = some (.slice Aa na ca) := k4.cellv ua1 (fun h => h)
           have s2 : w4.cell? ⟨w1.heap.size, 2, none⟩ = some (.int .i64 ra) := k4.cellv ua2 (fun h => h)
           have bbk : Bk w4 W5.heap.size 24 #[.int .i64 0, .slice none 0 0, .int .i64 0] := akk.keep hk4 (fun h => h)
           have g0 : w4.cell? ⟨W5.heap.size, 0, none⟩ = some (.int .i64 0) := bbk.cell 0
           have g1 : w4.cell? ⟨W5.heap.size, 1, none⟩ = some (.slice none 0 0) := bbk.cell 1
           have g2 : w4.cell? ⟨W5.heap.size, 2, none⟩ = some (.int .i64 0) := bbk.cell 2
           have gf0 := bbk.frozen 0
           have gf1 := bbk.frozen 1
           have gf2 := bbk.frozen 2)
        | (go_at_call 47
           (with_reducible refine (HE.out W5.drew (Keep.refl NoF _).drew).mono ?_)
           rintro e w4 ⟨A, n, c, r, rfl, hd4, hk4, hf4⟩
           have k4 : Keep NoF W5 w4 := (Keep.refl NoF W5).drew.trans hk4 fun _ _ h => h
           have s0 : w4.cell? ⟨w1.heap.size, 0, none⟩ = some (.int .i64 5) := k4.cellv ua0 (fun h => h)
           have s1 : w4.cell? ⟨w1.heap.size, 1, none⟩ = some (.slice Aa na ca) := k4.cellv ua1 (fun h => h)
           have s2 : w4.cell? ⟨w1.heap.size, 2, none⟩ = some (.int .i64 ra) := k4.cellv ua2 (fun h => h)
           have sa0 : ∀ o, (w4.alloc o).cell? ⟨w1.heap.size, 0, none⟩ = some (.int .i64 5) := fun o => ((Keep.refl NoF w4).alloc o).cellv s0 (fun h => h)
           have sa1 : ∀ o, (w4.alloc o).cell? ⟨w1.heap.size, 1, none⟩ = some (.slice Aa na ca) := fun o => ((Keep.refl NoF w4).alloc o).cellv s1 (fun h => h)
           have sa2 : ∀ o, (w4.alloc o).cell? ⟨w1.heap.size, 2, none⟩ = some (.int .i64 ra) := fun o => ((Keep.refl NoF w4).alloc o).cellv s2 (fun h => h)))
    all_goals clear E
    all_goals go_wp2
    all_goals go_meet
    all_goals
      case rel =>
        first
        | exact ⟨w4.heap.size, n, c, A, r, rfl, rfl, Bk.new _ _ _, hd4.keep ((Keep.refl _ _).alloc _), k4.alloc _⟩
        | (have hs0 : W5.heap.size < (W5.alloc (.cells #[.int .i64 0, .slice none 0 0, .int .i64 0] 24)).drew.heap.size := by simp
           exact ⟨W5.heap.size, n, c, A, r, rfl, rfl, ((bbk.put 0 _).put 1 _).put 2 _, hd4.set3 (fun k hk => by have := hf4 k hk; omega) _ _ _, k4.set3 (Nat.le_refl _) _ _ _⟩)
  case rest =>
  obtain ⟨gp, np, cp, Ap, rp, rfl, rfl, qp, fp, kk⟩ := hcut
  obtain ⟨W6, rfl⟩ : ∃ wa : World, wa = wc := ⟨_, rfl⟩
  clear xd0 xd1 xd2 xa0 xa1 xa2 HE abk0 ua0 ua1 ua2
  have qa := qa.keep kk (fun h => h)
  have fa := fa.keep kk
  have qv := qv.keep kk (fun h => h)
  have fv := fv.keep kk
  have qx := qx.keep kk (fun h => h)
  have fx := fx.keep kk
  have qy := qy.keep kk (fun h => h)
  have fy := fy.keep kk
  have qz := qz.keep kk (fun h => h)
  have fz := fz.keep kk
  have kw := kw.trans kk fun _ _ h => h
  clear kk
  have la := qa.lt
  have lv := qv.lt
  have lx := qx.lt
  have ly := qy.lt
  have lz := qz.lt
  have lp := qp.lt
  go_upto_region 11 with (fail)
  have ua0 : W6.cell? ⟨w1.heap.size, 0, none⟩ = some (.int .i64 5) := qa.cell 0
  have ua1 : W6.cell? ⟨w1.heap.size, 1, none⟩ = some (.slice Aa na ca) := qa.cell 1
  have ua2 : W6.cell? ⟨w1.heap.size, 2, none⟩ = some (.int .i64 ra) := qa.cell 2
  have xd0 : W6.drew.cell? ⟨w1.heap.size, 0, none⟩ = some (.int .i64 5) := ua0
  have xd1 : W6.drew.cell? ⟨w1.heap.size, 1, none⟩ = some (.slice Aa na ca) := ua1
  have xd2 : W6.drew.cell? ⟨w1.heap.size, 2, none⟩ = some (.int .i64 ra) := ua2
  have xa0 : ∀ o, (W6.alloc o).drew.cell? ⟨w1.heap.size, 0, none⟩ = some (.int .i64 5) := fun o => ((Keep.refl NoF W6).alloc o).cellv ua0 (fun h => h)
  have xa1 : ∀ o, (W6.alloc o).drew.cell? ⟨w1.heap.size, 1, none⟩ = some (.slice Aa na ca) := fun o => ((Keep.refl NoF W6).alloc o).cellv ua1 (fun h => h)
  have xa2 : ∀ o, (W6.alloc o).drew.cell? ⟨w1.heap.size, 2, none⟩ = some (.int .i64 ra) := fun o => ((Keep.refl NoF W6).alloc o).cellv ua2 (fun h => h)
  have HE := Lib.hid fun (V : World) (hk : Keep NoF W6 V) => s5_all hi (fa.keep hk)
  have abk0 : Bk (W6.alloc (.cells #[.int .i64 0, .slice none 0 0, .int .i64 0] 24)).drew W6.heap.size 24 #[.int .i64 0, .slice none 0 0, .int .i64 0] := Bk.drew (Bk.new W6 _ _)
  go_cut [17, 18] (fun v1 v2 wc => ∃ (cb n c : Nat) (A : Option Addr) (r : Nat), v1 = .pointer (some ⟨cb, 0, none⟩) ∧ v2 = .int .i64 0 ∧ Bk wc cb 24 #[.int .i64 5, .slice A n c, .int .i64 r] ∧ IsD wc 5 (fun ρ => rf i false f ρ && rf i true f ρ) A n c r ∧ Keep NoF W6 wc)
  case first =>
    go_region_held3 (fun w' => w'.cell? ⟨w1.heap.size, 0, none⟩ = some (.int .i64 5) ∧ w'.cell? ⟨w1.heap.size, 1, none⟩ = some (.slice Aa na ca) ∧ w'.cell? ⟨w1.heap.size, 2, none⟩ = some (.int .i64 ra))
      (first
        | with_reducible exact ⟨xd0, xd1, xd2⟩
        | with_reducible exact ⟨xa0 _, xa1 _, xa2 _⟩
        | with_reducible exact ⟨s0, s1, s2⟩
        | with_reducible exact ⟨sa0 _, sa1 _, sa2 _⟩
        | (go_split_ands
           refine ⟨?_, ?_, ?_⟩
           all_goals exact Keep.cellv (keep_set3 _ W6.heap.size _ _ _) (by first | assumption | exact sa0 _ | exact sa1 _ | exact sa2 _) (by simp <;> omega)))
      (first
        | (go_at_call 49
           have akk := abk0
           (with_reducible refine (HE.out (W6.alloc _).drew ((Keep.refl NoF _).alloc _).drew).mono ?_)
           rintro e w4 ⟨A, n, c, r, rfl, hd4, hk4, hf4⟩
           have k4 : Keep NoF W6 w4 := ((Keep.refl _ _).alloc _).drew.trans hk4 fun _ _ h => h
           have s0 : w4.cell? ⟨w1.heap.size, 0, none⟩ = some (.int .i64 5) := k4.cellv ua0 (fun h => h)
           have s1 : w4.cell? ⟨w1.heap.size, 1, none⟩ = some (.slice Aa na ca) := k4.cellv ua1 (fun h => h)
           have s2 : w4.cell? ⟨w1.heap.size, 2, none⟩ = some (.int .i64 ra) := k4.cellv ua2 (fun h => h)
           have bbk : Bk w4 W6.heap.size 24 #[.int .i64 0, .slice none 0 0, .int .i64 0] := akk.keep hk4 (fun h => h)
           have g0 : w4.cell? ⟨W6.heap.size, 0, none⟩ = some (.int .i64 0) := bbk.cell 0
           have g1 : w4.cell? ⟨W6.heap.size, 1, none⟩ = some (.slice none 0 0) := bbk.cell 1
           have g2 : w4.cell? ⟨W6.heap.size, 2, none⟩ = some (.int .i64 0) := bbk.cell 2
           have gf0 := bbk.frozen 0
           have gf1 := bbk.frozen 1
           have gf2 := bbk.frozen 2)
        | (go_at_call 49
           (with_reducible refine (HE.out W6.drew (Keep.refl NoF _).drew).mono ?_)
           rintro e w4 ⟨A, n, c, r, rfl, hd4, hk4, hf4⟩
           have k4 : Keep NoF W6 w4 := (Keep.refl NoF W6).drew.trans hk4 fun _ _ h => h
           have s0 : w4.cell? ⟨w1.heap.size, 0, none⟩ = some (.int .i64 5) := k4.cellv ua0 (fun h => h)
           have s1 : w4.cell? ⟨w1.heap.size, 1, none⟩ = some (.slice Aa na ca) := k4.cellv ua1 (fun h => h)
           have s2 : w4.cell? ⟨w1.heap.size, 2, none⟩ = some (.int .i64 ra) := k4.cellv ua2 (fun h => h)
           have sa0 : ∀ o, (w4.alloc o).cell? ⟨w1.heap.size, 0, none⟩ = some (.int .i64 5) := fun o => ((Keep.refl NoF w4).alloc o).cellv s0 (fun h => h)
           have sa1 : ∀ o, (w4.alloc o).cell? ⟨w1.heap.size, 1, none⟩ = some (.slice Aa na ca) := fun o => ((Keep.refl NoF w4).alloc o).cellv s1 (fun h => h)
           have sa2 : ∀ o, (w4.alloc o).cell? ⟨w1.heap.size, 2, none⟩ = some (.int .i64 ra) := fun o => ((Keep.refl NoF w4).alloc o).cellv s2 (fun h => h)))
    all_goals clear E
    all_goals go_wp2
    all_goals go_meet
    all_goals
      case rel =>
        first
        | exact ⟨w4.heap.size, n, c, A, r, rfl, rfl, Bk.new _ _ _, hd4.keep ((Keep.refl _ _).alloc _), k4.alloc _⟩
        | (have hs0 : W6.heap.size < (W6.alloc (.cells #[.int .i64 0, .slice none 0 0, .int .i64 0] 24)).drew.heap.size := by simp
           exact ⟨W6.heap.size, n, c, A, r, rfl, rfl, ((bbk.put 0 _).put 1 _).put 2 _, hd4.set3 (fun k hk => by have := hf4 k hk; omega) _ _ _, k4.set3 (Nat.le_refl _) _ _ _⟩)
  case rest =>
  obtain ⟨gq, nq, cq, Aq, rq, rfl, rfl, qq, fq, kk⟩ := hcut
  obtain ⟨W7, rfl⟩ : ∃ wa : World, wa = wc := ⟨_, rfl⟩
  clear xd0 xd1 xd2 xa0 xa1 xa2 HE abk0 ua0 ua1 ua2
  have qa := qa.keep kk (fun h => h)
  have fa := fa.keep kk
  have qv := qv.keep kk (fun h => h)
  have fv := fv.keep kk
  have qx := qx.keep kk (fun h => h)
  have fx := fx.keep kk
  have qy := qy.keep kk (fun h => h)
  have fy := fy.keep kk
  have qz := qz.keep kk (fun h => h)
  have fz := fz.keep kk
  have qp := qp.keep kk (fun h => h)
  have fp := fp.keep kk
  have kw := kw.trans kk fun _ _ h => h
  clear kk
  have la := qa.lt
  have lv := qv.lt
  have lx := qx.lt
  have ly := qy.lt
  have lz := qz.lt
  have lp := qp.lt
  have lq := qq.lt
  clear E
  have HJ := Lib.hid (s5_or (W := W7) fx fy)
  have ux0 : W7.cell? ⟨w3.heap.size, 0, none⟩ = some (.int .i64 5) := qx.cell 0
  have ux1 : W7.cell? ⟨w3.heap.size, 1, none⟩ = some (.slice Ax nx cx) := qx.cell 1
  have ux2 : W7.cell? ⟨w3.heap.size, 2, none⟩ = some (.int .i64 rx) := qx.cell 2
  have uy0 : W7.cell? ⟨w4.heap.size, 0, none⟩ = some (.int .i64 5) := qy.cell 0
  have uy1 : W7.cell? ⟨w4.heap.size, 1, none⟩ = some (.slice Ay ny cy) := qy.cell 1
  have uy2 : W7.cell? ⟨w4.heap.size, 2, none⟩ = some (.int .i64 ry) := qy.cell 2
  go_upto_region 13 with (go_at_call 26
                          (with_reducible refine (HJ.out).mono ?_)
                          rintro e w8 ⟨Aj, nj, cj, rj, rfl, dj, kj, _⟩)
  clear ux0 ux1 ux2 uy0 uy1 uy2
  have kk : Keep NoF W7 (w8.alloc (.cells #[.int .i64 5, .slice Aj nj cj, .int .i64 rj] 24)) := kj.alloc _
  have qj := Bk.new w8 24 #[.int .i64 5, .slice Aj nj cj, .int .i64 rj]
  have fj := dj.keep ((Keep.refl NoF w8).alloc (.cells #[.int .i64 5, .slice Aj nj cj, .int .i64 rj] 24))
  have qa := qa.keep kk (fun h => h)
  have fa := fa.keep kk
  have qv := qv.keep kk (fun h => h)
  have fv := fv.keep kk
  have qx := qx.keep kk (fun h => h)
  have fx := fx.keep kk
  have qy := qy.keep kk (fun h => h)
  have fy := fy.keep kk
  have qz := qz.keep kk (fun h => h)
  have fz := fz.keep kk
  have qp := qp.keep kk (fun h => h)
  have fp := fp.keep kk
  have qq := qq.keep kk (fun h => h)
  have fq := fq.keep kk
  have kw : Keep NoF w _ := kw.trans kk fun _ _ h => h
  clear dj kj kk HJ
  generalize (w8.alloc (.cells #[.int .i64 5, .slice Aj nj cj, .int .i64 rj] 24)) = W8 at *
  have la := qa.lt
  have lv := qv.lt
  have lx := qx.lt
  have ly := qy.lt
  have lz := qz.lt
  have lp := qp.lt
  have lq := qq.lt
  have lj := qj.lt
  have HM := Lib.hid (s5_and (W := W8) fx fy)
  have ux0 : W8.cell? ⟨w3.heap.size, 0, none⟩ = some (.int .i64 5) := qx.cell 0
  have ux1 : W8.cell? ⟨w3.heap.size, 1, none⟩ = some (.slice Ax nx cx) := qx.cell 1
  have ux2 : W8.cell? ⟨w3.heap.size, 2, none⟩ = some (.int .i64 rx) := qx.cell 2
  have uy0 : W8.cell? ⟨w4.heap.size, 0, none⟩ = some (.int .i64 5) := qy.cell 0
  have uy1 : W8.cell? ⟨w4.heap.size, 1, none⟩ = some (.slice Ay ny cy) := qy.cell 1
  have uy2 : W8.cell? ⟨w4.heap.size, 2, none⟩ = some (.int .i64 ry) := qy.cell 2
  go_upto_region 14 with (go_at_call 23
                          (with_reducible refine (HM.out).mono ?_)
                          rintro e w9 ⟨Am, nm, cm, rm, rfl, dm, km, _⟩)
  clear ux0 ux1 ux2 uy0 uy1 uy2
  have kk : Keep NoF W8 (w9.alloc (.cells #[.int .i64 5, .slice Am nm cm, .int .i64 rm] 24)) := km.alloc _
  have qm := Bk.new w9 24 #[.int .i64 5, .slice Am nm cm, .int .i64 rm]
  have fm := dm.keep ((Keep.refl NoF w9).alloc (.cells #[.int .i64 5, .slice Am nm cm, .int .i64 rm] 24))
  have qa := qa.keep kk (fun h => h)
  have fa := fa.keep kk
  have qv := qv.keep kk (fun h => h)
  have fv := fv.keep kk
  have qx := qx.keep kk (fun h => h)
  have fx := fx.keep kk
  have qy := qy.keep kk (fun h => h)
  have fy := fy.keep kk
  have qz := qz.keep kk (fun h => h)
  have fz := fz.keep kk
  have qp := qp.keep kk (fun h => h)
  have fp := fp.keep kk
  have qq := qq.keep kk (fun h => h)
  have fq := fq.keep kk
  have qj := qj.keep kk (fun h => h)
  have fj := fj.keep kk
  have kw : Keep NoF w _ := kw.trans kk fun _ _ h => h
  clear dm km kk HM
  generalize (w9.alloc (.cells #[.int .i64 5, .slice Am nm cm, .int .i64 rm] 24)) = W9 at *
  have la := qa.lt
  have lv := qv.lt
  have lx := qx.lt
  have ly := qy.lt
  have lz := qz.lt
  have lp := qp.lt
  have lq := qq.lt
  have lj := qj.lt
  have lm := qm.lt
  have F0 : ShF W9 f i w1.heap.size w2.heap.size w3.heap.size w4.heap.size w5.heap.size gp gq w8.heap.size w9.heap.size Aa na ca ra Av nv cv rv Ax nx cx rx Ay ny cy ry Az nz cz rz Ap np cp rp Aq nq cq rq Aj nj cj rj Am nm cm rm := ⟨qa, qv, qx, qy, qz, qp, qq, qj, qm, fa, fv, fx, fy, fz, fp, fq, fj, fm⟩
  have kw0 := kw
  clear kw qa fa qv fv qx fx qy fy qz fz qp fp qq fq qj fj qm fm HB HV
  have ua0 : W9.cell? ⟨w1.heap.size, 0, none⟩ = some (.int .i64 5) := F0.a.cell 0
  have ua1 : W9.cell? ⟨w1.heap.size, 1, none⟩ = some (.slice Aa na ca) := F0.a.cell 1
  have ua2 : W9.cell? ⟨w1.heap.size, 2, none⟩ = some (.int .i64 ra) := F0.a.cell 2
  have ux0 : W9.cell? ⟨w3.heap.size, 0, none⟩ = some (.int .i64 5) := F0.x.cell 0
  have ux1 : W9.cell? ⟨w3.heap.size, 1, none⟩ = some (.slice Ax nx cx) := F0.x.cell 1
  have ux2 : W9.cell? ⟨w3.heap.size, 2, none⟩ = some (.int .i64 rx) := F0.x.cell 2
  have uy0 : W9.cell? ⟨w4.heap.size, 0, none⟩ = some (.int .i64 5) := F0.y.cell 0
  have uy1 : W9.cell? ⟨w4.heap.size, 1, none⟩ = some (.slice Ay ny cy) := F0.y.cell 1
  have uy2 : W9.cell? ⟨w4.heap.size, 2, none⟩ = some (.int .i64 ry) := F0.y.cell 2
  have uz0 : W9.cell? ⟨w5.heap.size, 0, none⟩ = some (.int .i64 5) := F0.z.cell 0
  have uz1 : W9.cell? ⟨w5.heap.size, 1, none⟩ = some (.slice Az nz cz) := F0.z.cell 1
  have uz2 : W9.cell? ⟨w5.heap.size, 2, none⟩ = some (.int .i64 rz) := F0.z.cell 2
  have up0 : W9.cell? ⟨gp, 0, none⟩ = some (.int .i64 5) := F0.p.cell 0
  have up1 : W9.cell? ⟨gp, 1, none⟩ = some (.slice Ap np cp) := F0.p.cell 1
  have up2 : W9.cell? ⟨gp, 2, none⟩ = some (.int .i64 rp) := F0.p.cell 2
  have uq0 : W9.cell? ⟨gq, 0, none⟩ = some (.int .i64 5) := F0.q.cell 0
  have uq1 : W9.cell? ⟨gq, 1, none⟩ = some (.slice Aq nq cq) := F0.q.cell 1
  have uq2 : W9.cell? ⟨gq, 2, none⟩ = some (.int .i64 rq) := F0.q.cell 2
  have uj0 : W9.cell? ⟨w8.heap.size, 0, none⟩ = some (.int .i64 5) := F0.j.cell 0
  have uj1 : W9.cell? ⟨w8.heap.size, 1, none⟩ = some (.slice Aj nj cj) := F0.j.cell 1
  have uj2 : W9.cell? ⟨w8.heap.size, 2, none⟩ = some (.int .i64 rj) := F0.j.cell 2
  have um0 : W9.cell? ⟨w9.heap.size, 0, none⟩ = some (.int .i64 5) := F0.m.cell 0
  have um1 : W9.cell? ⟨w9.heap.size, 1, none⟩ = some (.slice Am nm cm) := F0.m.cell 1
  have um2 : W9.cell? ⟨w9.heap.size, 2, none⟩ = some (.int .i64 rm) := F0.m.cell 2
  go_region_held3 (fun w' => w'.cell? ⟨w1.heap.size, 0, none⟩ = some (.int .i64 5) ∧ w'.cell? ⟨w1.heap.size, 1, none⟩ = some (.slice Aa na ca) ∧ w'.cell? ⟨w1.heap.size, 2, none⟩ = some (.int .i64 ra) ∧ w'.cell? ⟨w3.heap.size, 0, none⟩ = some (.int .i64 5) ∧ w'.cell? ⟨w3.heap.size, 1, none⟩ = some (.slice Ax nx cx) ∧ w'.cell? ⟨w3.heap.size, 2, none⟩ = some (.int .i64 rx) ∧ w'.cell? ⟨w4.heap.size, 0, none⟩ = some (.int .i64 5) ∧ w'.cell? ⟨w4.heap.size, 1, none⟩ = some (.slice Ay ny cy) ∧ w'.cell? ⟨w4.heap.size, 2, none⟩ = some (.int .i64 ry) ∧ w'.cell? ⟨w5.heap.size, 0, none⟩ = some (.int .i64 5) ∧ w'.cell? ⟨w5.heap.size, 1, none⟩ = some (.slice Az nz cz) ∧ w'.cell? ⟨w5.heap.size, 2, none⟩ = some (.int .i64 rz) ∧ w'.cell? ⟨gp, 0, none⟩ = some (.int .i64 5) ∧ w'.cell? ⟨gp, 1, none⟩ = some (.slice Ap np cp) ∧ w'.cell? ⟨gp, 2, none⟩ = some (.int .i64 rp) ∧ w'.cell? ⟨gq, 0, none⟩ = some (.int .i64 5) ∧ w'.cell? ⟨gq, 1, none⟩ = some (.slice Aq nq cq) ∧ w'.cell? ⟨gq, 2, none⟩ = some (.int .i64 rq) ∧ w'.cell? ⟨w8.heap.size, 0, none⟩ = some (.int .i64 5) ∧ w'.cell? ⟨w8.heap.size, 1, none⟩ = some (.slice Aj nj cj) ∧ w'.cell? ⟨w8.heap.size, 2, none⟩ = some (.int .i64 rj) ∧ w'.cell? ⟨w9.heap.size, 0, none⟩ = some (.int .i64 5) ∧ w'.cell? ⟨w9.heap.size, 1, none⟩ = some (.slice Am nm cm) ∧ w'.cell? ⟨w9.heap.size, 2, none⟩ = some (.int .i64 rm))
    (first | with_reducible exact ⟨ua0, ua1, ua2, ux0, ux1, ux2, uy0, uy1, uy2, uz0, uz1, uz2, up0, up1, up2, uq0, uq1, uq2, uj0, uj1, uj2, um0, um1, um2⟩ | exact ⟨ua0, ua1, ua2, ux0, ux1, ux2, uy0, uy1, uy2, uz0, uz1, uz2, up0, up1, up2, uq0, uq1, uq2, uj0, uj1, uj2, um0, um1, um2⟩)
    (first
    | (go_at_call 12
       (with_reducible refine (awake_any _).mono ?_)
       rintro e w16 ⟨rfl, k16⟩
       have F16 := F15.keep k16
       have kw16 := kw15.trans k16 fun _ _ h => h
       have ua0 : w16.cell? ⟨w1.heap.size, 0, none⟩ = some (.int .i64 5) := F16.a.cell 0
       have ua1 : w16.cell? ⟨w1.heap.size, 1, none⟩ = some (.slice Aa na ca) := F16.a.cell 1
       have ua2 : w16.cell? ⟨w1.heap.size, 2, none⟩ = some (.int .i64 ra) := F16.a.cell 2
       have ux0 : w16.cell? ⟨w3.heap.size, 0, none⟩ = some (.int .i64 5) := F16.x.cell 0
       have ux1 : w16.cell? ⟨w3.heap.size, 1, none⟩ = some (.slice Ax nx cx) := F16.x.cell 1
       have ux2 : w16.cell? ⟨w3.heap.size, 2, none⟩ = some (.int .i64 rx) := F16.x.cell 2
       have uy0 : w16.cell? ⟨w4.heap.size, 0, none⟩ = some (.int .i64 5) := F16.y.cell 0
       have uy1 : w16.cell? ⟨w4.heap.size, 1, none⟩ = some (.slice Ay ny cy) := F16.y.cell 1
       have uy2 : w16.cell? ⟨w4.heap.size, 2, none⟩ = some (.int .i64 ry) := F16.y.cell 2
       have uz0 : w16.cell? ⟨w5.heap.size, 0, none⟩ = some (.int .i64 5) := F16.z.cell 0
       have uz1 : w16.cell? ⟨w5.heap.size, 1, none⟩ = some (.slice Az nz cz) := F16.z.cell 1
       have uz2 : w16.cell? ⟨w5.heap.size, 2, none⟩ = some (.int .i64 rz) := F16.z.cell 2
       have up0 : w16.cell? ⟨gp, 0, none⟩ = some (.int .i64 5) := F16.p.cell 0
       have up1 : w16.cell? ⟨gp, 1, none⟩ = some (.slice Ap np cp) := F16.p.cell 1
       have up2 : w16.cell? ⟨gp, 2, none⟩ = some (.int .i64 rp) := F16.p.cell 2
       have uq0 : w16.cell? ⟨gq, 0, none⟩ = some (.int .i64 5) := F16.q.cell 0
       have uq1 : w16.cell? ⟨gq, 1, none⟩ = some (.slice Aq nq cq) := F16.q.cell 1
       have uq2 : w16.cell? ⟨gq, 2, none⟩ = some (.int .i64 rq) := F16.q.cell 2
       have uj0 : w16.cell? ⟨w8.heap.size, 0, none⟩ = some (.int .i64 5) := F16.j.cell 0
       have uj1 : w16.cell? ⟨w8.heap.size, 1, none⟩ = some (.slice Aj nj cj) := F16.j.cell 1
       have uj2 : w16.cell? ⟨w8.heap.size, 2, none⟩ = some (.int .i64 rj) := F16.j.cell 2
       have um0 : w16.cell? ⟨w9.heap.size, 0, none⟩ = some (.int .i64 5) := F16.m.cell 0
       have um1 : w16.cell? ⟨w9.heap.size, 1, none⟩ = some (.slice Am nm cm) := F16.m.cell 1
       have um2 : w16.cell? ⟨w9.heap.size, 2, none⟩ = some (.int .i64 rm) := F16.m.cell 2)
    | (go_at_call 25
       (with_reducible refine (s5_sameb F14.fx F14.fy (!S.testBit i) HSB.out).mono ?_)
       rintro e w15 ⟨rfl, k15⟩
       have F15 := F14.keep k15
       have kw15 := kw14.trans k15 fun _ _ h => h
       have ua0 : w15.cell? ⟨w1.heap.size, 0, none⟩ = some (.int .i64 5) := F15.a.cell 0
       have ua1 : w15.cell? ⟨w1.heap.size, 1, none⟩ = some (.slice Aa na ca) := F15.a.cell 1
       have ua2 : w15.cell? ⟨w1.heap.size, 2, none⟩ = some (.int .i64 ra) := F15.a.cell 2
       have ux0 : w15.cell? ⟨w3.heap.size, 0, none⟩ = some (.int .i64 5) := F15.x.cell 0
       have ux1 : w15.cell? ⟨w3.heap.size, 1, none⟩ = some (.slice Ax nx cx) := F15.x.cell 1
       have ux2 : w15.cell? ⟨w3.heap.size, 2, none⟩ = some (.int .i64 rx) := F15.x.cell 2
       have uy0 : w15.cell? ⟨w4.heap.size, 0, none⟩ = some (.int .i64 5) := F15.y.cell 0
       have uy1 : w15.cell? ⟨w4.heap.size, 1, none⟩ = some (.slice Ay ny cy) := F15.y.cell 1
       have uy2 : w15.cell? ⟨w4.heap.size, 2, none⟩ = some (.int .i64 ry) := F15.y.cell 2
       have uz0 : w15.cell? ⟨w5.heap.size, 0, none⟩ = some (.int .i64 5) := F15.z.cell 0
       have uz1 : w15.cell? ⟨w5.heap.size, 1, none⟩ = some (.slice Az nz cz) := F15.z.cell 1
       have uz2 : w15.cell? ⟨w5.heap.size, 2, none⟩ = some (.int .i64 rz) := F15.z.cell 2
       have up0 : w15.cell? ⟨gp, 0, none⟩ = some (.int .i64 5) := F15.p.cell 0
       have up1 : w15.cell? ⟨gp, 1, none⟩ = some (.slice Ap np cp) := F15.p.cell 1
       have up2 : w15.cell? ⟨gp, 2, none⟩ = some (.int .i64 rp) := F15.p.cell 2
       have uq0 : w15.cell? ⟨gq, 0, none⟩ = some (.int .i64 5) := F15.q.cell 0
       have uq1 : w15.cell? ⟨gq, 1, none⟩ = some (.slice Aq nq cq) := F15.q.cell 1
       have uq2 : w15.cell? ⟨gq, 2, none⟩ = some (.int .i64 rq) := F15.q.cell 2
       have uj0 : w15.cell? ⟨w8.heap.size, 0, none⟩ = some (.int .i64 5) := F15.j.cell 0
       have uj1 : w15.cell? ⟨w8.heap.size, 1, none⟩ = some (.slice Aj nj cj) := F15.j.cell 1
       have uj2 : w15.cell? ⟨w8.heap.size, 2, none⟩ = some (.int .i64 rj) := F15.j.cell 2
       have um0 : w15.cell? ⟨w9.heap.size, 0, none⟩ = some (.int .i64 5) := F15.m.cell 0
       have um1 : w15.cell? ⟨w9.heap.size, 1, none⟩ = some (.slice Am nm cm) := F15.m.cell 1
       have um2 : w15.cell? ⟨w9.heap.size, 2, none⟩ = some (.int .i64 rm) := F15.m.cell 2)
    | (go_at_call 21
       (with_reducible refine (s5_supp F13.fa).mono ?_)
       rintro e w14 ⟨S, rfl, hS, hSb, k14⟩
       have F14 := F13.keep k14
       have kw14 := kw13.trans k14 fun _ _ h => h
       have hbz := bit_zero S i hS
       have HSB : Hid ((!S.testBit i) = true ↔ ∀ ρ, rf i false f ρ = rf i true f ρ) := Lib.hid (by rw [← Dd.indep_iff, Bool.not_eq_true', ← Bool.not_eq_true, hSb, Classical.not_not])
       clear hSb
       have hSn : (0 : Int) ≤ (S : Int) := by omega
       have ua0 : w14.cell? ⟨w1.heap.size, 0, none⟩ = some (.int .i64 5) := F14.a.cell 0
       have ua1 : w14.cell? ⟨w1.heap.size, 1, none⟩ = some (.slice Aa na ca) := F14.a.cell 1
       have ua2 : w14.cell? ⟨w1.heap.size, 2, none⟩ = some (.int .i64 ra) := F14.a.cell 2
       have ux0 : w14.cell? ⟨w3.heap.size, 0, none⟩ = some (.int .i64 5) := F14.x.cell 0
       have ux1 : w14.cell? ⟨w3.heap.size, 1, none⟩ = some (.slice Ax nx cx) := F14.x.cell 1
       have ux2 : w14.cell? ⟨w3.heap.size, 2, none⟩ = some (.int .i64 rx) := F14.x.cell 2
       have uy0 : w14.cell? ⟨w4.heap.size, 0, none⟩ = some (.int .i64 5) := F14.y.cell 0
       have uy1 : w14.cell? ⟨w4.heap.size, 1, none⟩ = some (.slice Ay ny cy) := F14.y.cell 1
       have uy2 : w14.cell? ⟨w4.heap.size, 2, none⟩ = some (.int .i64 ry) := F14.y.cell 2
       have uz0 : w14.cell? ⟨w5.heap.size, 0, none⟩ = some (.int .i64 5) := F14.z.cell 0
       have uz1 : w14.cell? ⟨w5.heap.size, 1, none⟩ = some (.slice Az nz cz) := F14.z.cell 1
       have uz2 : w14.cell? ⟨w5.heap.size, 2, none⟩ = some (.int .i64 rz) := F14.z.cell 2
       have up0 : w14.cell? ⟨gp, 0, none⟩ = some (.int .i64 5) := F14.p.cell 0
       have up1 : w14.cell? ⟨gp, 1, none⟩ = some (.slice Ap np cp) := F14.p.cell 1
       have up2 : w14.cell? ⟨gp, 2, none⟩ = some (.int .i64 rp) := F14.p.cell 2
       have uq0 : w14.cell? ⟨gq, 0, none⟩ = some (.int .i64 5) := F14.q.cell 0
       have uq1 : w14.cell? ⟨gq, 1, none⟩ = some (.slice Aq nq cq) := F14.q.cell 1
       have uq2 : w14.cell? ⟨gq, 2, none⟩ = some (.int .i64 rq) := F14.q.cell 2
       have uj0 : w14.cell? ⟨w8.heap.size, 0, none⟩ = some (.int .i64 5) := F14.j.cell 0
       have uj1 : w14.cell? ⟨w8.heap.size, 1, none⟩ = some (.slice Aj nj cj) := F14.j.cell 1
       have uj2 : w14.cell? ⟨w8.heap.size, 2, none⟩ = some (.int .i64 rj) := F14.j.cell 2
       have um0 : w14.cell? ⟨w9.heap.size, 0, none⟩ = some (.int .i64 5) := F14.m.cell 0
       have um1 : w14.cell? ⟨w9.heap.size, 1, none⟩ = some (.slice Am nm cm) := F14.m.cell 1
       have um2 : w14.cell? ⟨w9.heap.size, 2, none⟩ = some (.int .i64 rm) := F14.m.cell 2)
    | (go_at_call 25
       (with_reducible refine (s5_same F12.fq F12.fm (fun _ => rfl)).mono ?_)
       rintro e w13 ⟨rfl, k13⟩
       have F13 := F12.keep k13
       have kw13 := kw12.trans k13 fun _ _ h => h
       have ua0 : w13.cell? ⟨w1.heap.size, 0, none⟩ = some (.int .i64 5) := F13.a.cell 0
       have ua1 : w13.cell? ⟨w1.heap.size, 1, none⟩ = some (.slice Aa na ca) := F13.a.cell 1
       have ua2 : w13.cell? ⟨w1.heap.size, 2, none⟩ = some (.int .i64 ra) := F13.a.cell 2
       have ux0 : w13.cell? ⟨w3.heap.size, 0, none⟩ = some (.int .i64 5) := F13.x.cell 0
       have ux1 : w13.cell? ⟨w3.heap.size, 1, none⟩ = some (.slice Ax nx cx) := F13.x.cell 1
       have ux2 : w13.cell? ⟨w3.heap.size, 2, none⟩ = some (.int .i64 rx) := F13.x.cell 2
       have uy0 : w13.cell? ⟨w4.heap.size, 0, none⟩ = some (.int .i64 5) := F13.y.cell 0
       have uy1 : w13.cell? ⟨w4.heap.size, 1, none⟩ = some (.slice Ay ny cy) := F13.y.cell 1
       have uy2 : w13.cell? ⟨w4.heap.size, 2, none⟩ = some (.int .i64 ry) := F13.y.cell 2
       have uz0 : w13.cell? ⟨w5.heap.size, 0, none⟩ = some (.int .i64 5) := F13.z.cell 0
       have uz1 : w13.cell? ⟨w5.heap.size, 1, none⟩ = some (.slice Az nz cz) := F13.z.cell 1
       have uz2 : w13.cell? ⟨w5.heap.size, 2, none⟩ = some (.int .i64 rz) := F13.z.cell 2
       have up0 : w13.cell? ⟨gp, 0, none⟩ = some (.int .i64 5) := F13.p.cell 0
       have up1 : w13.cell? ⟨gp, 1, none⟩ = some (.slice Ap np cp) := F13.p.cell 1
       have up2 : w13.cell? ⟨gp, 2, none⟩ = some (.int .i64 rp) := F13.p.cell 2
       have uq0 : w13.cell? ⟨gq, 0, none⟩ = some (.int .i64 5) := F13.q.cell 0
       have uq1 : w13.cell? ⟨gq, 1, none⟩ = some (.slice Aq nq cq) := F13.q.cell 1
       have uq2 : w13.cell? ⟨gq, 2, none⟩ = some (.int .i64 rq) := F13.q.cell 2
       have uj0 : w13.cell? ⟨w8.heap.size, 0, none⟩ = some (.int .i64 5) := F13.j.cell 0
       have uj1 : w13.cell? ⟨w8.heap.size, 1, none⟩ = some (.slice Aj nj cj) := F13.j.cell 1
       have uj2 : w13.cell? ⟨w8.heap.size, 2, none⟩ = some (.int .i64 rj) := F13.j.cell 2
       have um0 : w13.cell? ⟨w9.heap.size, 0, none⟩ = some (.int .i64 5) := F13.m.cell 0
       have um1 : w13.cell? ⟨w9.heap.size, 1, none⟩ = some (.slice Am nm cm) := F13.m.cell 1
       have um2 : w13.cell? ⟨w9.heap.size, 2, none⟩ = some (.int .i64 rm) := F13.m.cell 2)
    | (go_at_call 25
       (with_reducible refine (s5_same F11.fp F11.fj (fun _ => rfl)).mono ?_)
       rintro e w12 ⟨rfl, k12⟩
       have F12 := F11.keep k12
       have kw12 := kw11.trans k12 fun _ _ h => h
       have ua0 : w12.cell? ⟨w1.heap.size, 0, none⟩ = some (.int .i64 5) := F12.a.cell 0
       have ua1 : w12.cell? ⟨w1.heap.size, 1, none⟩ = some (.slice Aa na ca) := F12.a.cell 1
       have ua2 : w12.cell? ⟨w1.heap.size, 2, none⟩ = some (.int .i64 ra) := F12.a.cell 2
       have ux0 : w12.cell? ⟨w3.heap.size, 0, none⟩ = some (.int .i64 5) := F12.x.cell 0
       have ux1 : w12.cell? ⟨w3.heap.size, 1, none⟩ = some (.slice Ax nx cx) := F12.x.cell 1
       have ux2 : w12.cell? ⟨w3.heap.size, 2, none⟩ = some (.int .i64 rx) := F12.x.cell 2
       have uy0 : w12.cell? ⟨w4.heap.size, 0, none⟩ = some (.int .i64 5) := F12.y.cell 0
       have uy1 : w12.cell? ⟨w4.heap.size, 1, none⟩ = some (.slice Ay ny cy) := F12.y.cell 1
       have uy2 : w12.cell? ⟨w4.heap.size, 2, none⟩ = some (.int .i64 ry) := F12.y.cell 2
       have uz0 : w12.cell? ⟨w5.heap.size, 0, none⟩ = some (.int .i64 5) := F12.z.cell 0
       have uz1 : w12.cell? ⟨w5.heap.size, 1, none⟩ = some (.slice Az nz cz) := F12.z.cell 1
       have uz2 : w12.cell? ⟨w5.heap.size, 2, none⟩ = some (.int .i64 rz) := F12.z.cell 2
       have up0 : w12.cell? ⟨gp, 0, none⟩ = some (.int .i64 5) := F12.p.cell 0
       have up1 : w12.cell? ⟨gp, 1, none⟩ = some (.slice Ap np cp) := F12.p.cell 1
       have up2 : w12.cell? ⟨gp, 2, none⟩ = some (.int .i64 rp) := F12.p.cell 2
       have uq0 : w12.cell? ⟨gq, 0, none⟩ = some (.int .i64 5) := F12.q.cell 0
       have uq1 : w12.cell? ⟨gq, 1, none⟩ = some (.slice Aq nq cq) := F12.q.cell 1
       have uq2 : w12.cell? ⟨gq, 2, none⟩ = some (.int .i64 rq) := F12.q.cell 2
       have uj0 : w12.cell? ⟨w8.heap.size, 0, none⟩ = some (.int .i64 5) := F12.j.cell 0
       have uj1 : w12.cell? ⟨w8.heap.size, 1, none⟩ = some (.slice Aj nj cj) := F12.j.cell 1
       have uj2 : w12.cell? ⟨w8.heap.size, 2, none⟩ = some (.int .i64 rj) := F12.j.cell 2
       have um0 : w12.cell? ⟨w9.heap.size, 0, none⟩ = some (.int .i64 5) := F12.m.cell 0
       have um1 : w12.cell? ⟨w9.heap.size, 1, none⟩ = some (.slice Am nm cm) := F12.m.cell 1
       have um2 : w12.cell? ⟨w9.heap.size, 2, none⟩ = some (.int .i64 rm) := F12.m.cell 2)
    | (go_at_call 25
       (with_reducible refine (s5_same (F0.keep (Keep.refl NoF W9).drew).fz (F0.keep (Keep.refl NoF W9).drew).fa (fun _ => rfl)).mono ?_)
       rintro e w11 ⟨rfl, k11⟩
       have k11 : Keep NoF W9 w11 := (Keep.refl NoF W9).drew.trans k11 fun _ _ h => h
       have F11 := F0.keep k11
       have kw11 := kw0.trans k11 fun _ _ h => h
       have ua0 : w11.cell? ⟨w1.heap.size, 0, none⟩ = some (.int .i64 5) := F11.a.cell 0
       have ua1 : w11.cell? ⟨w1.heap.size, 1, none⟩ = some (.slice Aa na ca) := F11.a.cell 1
       have ua2 : w11.cell? ⟨w1.heap.size, 2, none⟩ = some (.int .i64 ra) := F11.a.cell 2
       have ux0 : w11.cell? ⟨w3.heap.size, 0, none⟩ = some (.int .i64 5) := F11.x.cell 0
       have ux1 : w11.cell? ⟨w3.heap.size, 1, none⟩ = some (.slice Ax nx cx) := F11.x.cell 1
       have ux2 : w11.cell? ⟨w3.heap.size, 2, none⟩ = some (.int .i64 rx) := F11.x.cell 2
       have uy0 : w11.cell? ⟨w4.heap.size, 0, none⟩ = some (.int .i64 5) := F11.y.cell 0
       have uy1 : w11.cell? ⟨w4.heap.size, 1, none⟩ = some (.slice Ay ny cy) := F11.y.cell 1
       have uy2 : w11.cell? ⟨w4.heap.size, 2, none⟩ = some (.int .i64 ry) := F11.y.cell 2
       have uz0 : w11.cell? ⟨w5.heap.size, 0, none⟩ = some (.int .i64 5) := F11.z.cell 0
       have uz1 : w11.cell? ⟨w5.heap.size, 1, none⟩ = some (.slice Az nz cz) := F11.z.cell 1
       have uz2 : w11.cell? ⟨w5.heap.size, 2, none⟩ = some (.int .i64 rz) := F11.z.cell 2
       have up0 : w11.cell? ⟨gp, 0, none⟩ = some (.int .i64 5) := F11.p.cell 0
       have up1 : w11.cell? ⟨gp, 1, none⟩ = some (.slice Ap np cp) := F11.p.cell 1
       have up2 : w11.cell? ⟨gp, 2, none⟩ = some (.int .i64 rp) := F11.p.cell 2
       have uq0 : w11.cell? ⟨gq, 0, none⟩ = some (.int .i64 5) := F11.q.cell 0
       have uq1 : w11.cell? ⟨gq, 1, none⟩ = some (.slice Aq nq cq) := F11.q.cell 1
       have uq2 : w11.cell? ⟨gq, 2, none⟩ = some (.int .i64 rq) := F11.q.cell 2
       have uj0 : w11.cell? ⟨w8.heap.size, 0, none⟩ = some (.int .i64 5) := F11.j.cell 0
       have uj1 : w11.cell? ⟨w8.heap.size, 1, none⟩ = some (.slice Aj nj cj) := F11.j.cell 1
       have uj2 : w11.cell? ⟨w8.heap.size, 2, none⟩ = some (.int .i64 rj) := F11.j.cell 2
       have um0 : w11.cell? ⟨w9.heap.size, 0, none⟩ = some (.int .i64 5) := F11.m.cell 0
       have um1 : w11.cell? ⟨w9.heap.size, 1, none⟩ = some (.slice Am nm cm) := F11.m.cell 1
       have um2 : w11.cell? ⟨w9.heap.size, 2, none⟩ = some (.int .i64 rm) := F11.m.cell 2))
  all_goals go_wp2
  all_goals go_ret
  all_goals exact ⟨by first | rfl | (cases S.testBit i <;> rfl) | (simp), kw16⟩
end Go.Proofs.Ytengdldkkmknpaa
