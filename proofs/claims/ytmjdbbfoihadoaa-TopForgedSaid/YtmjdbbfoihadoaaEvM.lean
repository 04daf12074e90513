/- The checker: Sets returns the sets of the nodes. No condition. -/
import Derived.Test.YtmjdbbfoihadoaaEvL
import Derived.Deep.RegionWith
import Derived.Deep.Cut
set_option linter.unusedVariables false
set_option linter.unusedSimpArgs false
namespace Go.Proofs.Ytmjdbbfoihadoaa
open Go.RowKit
open Ev
open Fm (Nd checkE compactL)
attribute [local go_sem] Oper.semAt_some
theorem set_bk {w : World} {b : Nat} {t : TypeId} {l : List Value} {k : Nat} {v : Value} (h : Bk w b t (l.toArray.setIfInBounds k v)) : Bk w b t (l.set k v).toArray := by rwa [← List.setIfInBounds_toArray]
theorem bl_at {l : List (Nat × Bool)} {n j : Nat} (hj : j < n) : (bl (pad2 l n)).toArray[j]? = some (.bool (l.getD j (0, false)).2) := by
  rw [List.getElem?_toArray]
  unfold bl
  rw [List.getElem?_map, pad2_at hj]
  rfl
theorem u6_at {l : List (Nat × Bool)} {n j : Nat} (hj : j < n) : (u6 (pad1 l n)).toArray[j]? = some (.int .u64 ((l.getD j (0, false)).1 : Nat)) := by
  rw [List.getElem?_toArray]
  unfold u6
  rw [List.getElem?_map, pad1_at hj]
  rfl
/-- What a step adds. -/
theorem sets_next {M : Md} {f : List Nd} {k : Nat} {n : Nd} (hn : f[k]? = some n) {fx fy : Bool} (hfx : ((setsN M f k).getD n.x.toNat (0, false)).2 = fx) (hfy : ((setsN M f k).getD n.y.toNat (0, false)).2 = fy) :
    (((if (4 : Int) ≤ n.op then fx else true) && (if (5 ≤ n.op ∧ n.op ≤ 8) ∨ n.op = 13 then fy else true)) = true → u6 (pad1 (setsN M f (k + 1)) f.length) = (u6 (pad1 (setsN M f k) f.length)).set k (.int .u64 ((valP M n ((setsN M f k).getD n.x.toNat (0, false)).1 ((setsN M f k).getD n.y.toNat (0, false)).1).1 : Nat)) ∧ bl (pad2 (setsN M f (k + 1)) f.length) = (bl (pad2 (setsN M f k) f.length)).set k (.bool (valP M n ((setsN M f k).getD n.x.toNat (0, false)).1 ((setsN M f k).getD n.y.toNat (0, false)).1).2)) ∧
    (((if (4 : Int) ≤ n.op then fx else true) && (if (5 ≤ n.op ∧ n.op ≤ 8) ∨ n.op = 13 then fy else true)) = false → pad1 (setsN M f (k + 1)) f.length = pad1 (setsN M f k) f.length ∧ pad2 (setsN M f (k + 1)) f.length = pad2 (setsN M f k) f.length) := by
  have hk : k < f.length := (List.getElem?_eq_some_iff.1 hn).1
  have hl := setsN_len M f k
  have e : f.getD k default = n := by rw [List.getD_eq_getElem?_getD, hn]; rfl
  have hs : setsN M f (k + 1) = setsN M f k ++ [stepS M (setsN M f k) n] := by rw [setsN, e]
  rw [stepS_eq, hfx, hfy] at hs
  constructor
  · intro h
    rw [if_pos h] at hs
    generalize valP M n ((setsN M f k).getD n.x.toNat (0, false)).1 ((setsN M f k).getD n.y.toNat (0, false)).1 = vp at *
    rw [hs]
    constructor
    · unfold u6
      have h1 := pad1_set (l := setsN M f k) (n := f.length) (by omega) vp.1 vp.2
      rw [hl] at h1
      rw [← h1, List.map_set]
    · unfold bl
      have h1 := pad2_set (l := setsN M f k) (n := f.length) (by omega) vp.1 vp.2
      rw [hl] at h1
      rw [← h1, List.map_set]
  · intro h
    rw [if_neg (by rw [h]; simp)] at hs
    rw [hs]
    exact ⟨(pad1_skip (by omega)).symm, (pad2_skip (by omega)).symm⟩
section
set_option maxRecDepth 100000
set_option maxHeartbeats 40000000
variable {w : World} {M : Md} {va ra : Option Addr} {cv cr : Nat} {rs : List (Option Addr × Nat)}
theorem ckSets_bad (f : List Nd) (A : Option Addr) (c : Nat) (hM : MdR w M va cv ra cr rs) (hll : f.length ≤ 9223372036854775807) (hrd : Rd w (.slice A f.length c) 6 f.length (fmC f)) (h : requestE M f ≠ 0) :
    Calls Try.prog 8 #[.agg #[.int .i64 M.W, .slice va M.V.length cv, .slice ra M.R.length cr], .slice A f.length c] w fun e w' => e = .returned (.tuple #[.slice none 0 0, .int .i64 (requestE M f)]) ∧ Keep NoF w w' := by
  have k0 : Keep NoF w (w.alloc (.cells #[.int .i64 M.W, .slice va M.V.length cv, .slice ra M.R.length cr] 25)) := (Keep.refl _ _).alloc _
  have HRQ := Lib.hid (ckrequest_any f A c _ (hM.keep k0) hll (hrd.kept k0 fun _ _ h => h))
  have hx : (requestE M f != 0) = true := by simpa using h
  clear h hM hrd
  generalize requestE M f = x at *
  generalize f.length = fl at *
  go_enter Try.func8, Try.ntmps8
  go_wp2_with (first
    | (go_at_call 15; (with_reducible refine HRQ.out.mono ?_); rintro e w1 ⟨rfl, K1⟩))
  refine bodyPost_ret (v := .tuple #[.slice none 0 0, .int .i64 x]) (by simp [results, Try.results8, go_sem]) rfl ?_
  exact ⟨rfl, k0.trans K1 fun _ _ h => h⟩
theorem ckSets_ok (f : List Nd) (A : Option Addr) (c : Nat) (hM : MdR w M va cv ra cr rs) (hrd : Rd w (.slice A f.length c) 6 f.length (fmC f)) (h : requestE M f = 0) :
    Calls Try.prog 8 #[.agg #[.int .i64 M.W, .slice va M.V.length cv, .slice ra M.R.length cr], .slice A f.length c] w fun e w' => ∃ b, e = .returned (.tuple #[.slice (some ⟨b, 0, none⟩) f.length f.length, .int .i64 0]) ∧ w.heap.size ≤ b ∧ Bk w' b 38 (u6 ((setsN M f f.length).map (·.1))).toArray ∧ Keep NoF w w' := by
  obtain ⟨h1, h2, _, _⟩ := request_zero.1 h
  have hok := (model_zero hM.u).1 h1
  obtain ⟨hp, h200, _⟩ := Fm.checkE_zero.1 h2
  have hord := Fm.check_ord h2
  have hown : ∀ (k : Nat) (n : Nd), f[k]? = some n → Fm.own n.op n.i n.e n.g = true := fun k n hn => (Fm.nodeE_zero.1 ((Fm.checkE_zero.1 h2).2.2 k n hn)).1
  have k0 : Keep NoF w (w.alloc (.cells #[.int .i64 M.W, .slice va M.V.length cv, .slice ra M.R.length cr] 25)) := (Keep.refl _ _).alloc _
  have b0 := Bk.new w 25 #[.int .i64 M.W, .slice va M.V.length cv, .slice ra M.R.length cr]
  have HRQ : Hid (Calls Try.prog 15 #[.agg #[.int .i64 M.W, .slice va M.V.length cv, .slice ra M.R.length cr], .slice A f.length c] (w.alloc (.cells #[.int .i64 M.W, .slice va M.V.length cv, .slice ra M.R.length cr] 25)) fun e w' => e = .returned (.int .i64 0) ∧ Keep NoF (w.alloc (.cells #[.int .i64 M.W, .slice va M.V.length cv, .slice ra M.R.length cr] 25)) w') := Lib.hid (by have := ckrequest_any f A c _ (hM.keep k0) (by omega) (hrd.kept k0 fun _ _ h => h); rwa [h] at this)
  have hmk1 := fun w => run_make_u6 f.length (by omega) w
  have hmk2 := fun w => run_make_bl f.length (by omega) w
  have HM := Lib.hid hM
  have HRD := Lib.hid hrd
  have HOK := Lib.hid hok
  have HORD := Lib.hid hord
  have HOWN := Lib.hid hown
  have HB := Lib.hid b0
  have HLT : Hid (∀ k, k ≤ f.length → ∀ j, ((setsN M f k).getD j (0, false)).1 < 18446744073709551616) := Lib.hid (setsN_lt hok hown)
  have HP1 : Hid (u6 (pad1 [] f.length) = u6 (pad1 (setsN M f 0) f.length) ∧ bl (pad2 [] f.length) = bl (pad2 (setsN M f 0) f.length)) := Lib.hid ⟨rfl, rfl⟩
  have HFIN : Hid (pad1 (setsN M f f.length) f.length = (setsN M f f.length).map (·.1)) := Lib.hid (by unfold pad1; rw [setsN_len, Nat.sub_self]; simp)
  clear h h1 h2 hM hrd hok hord hown b0
  rw [HP1.out.1] at hmk1
  rw [HP1.out.2] at hmk2
  go_enter Try.func8, Try.ntmps8
  go_upto_region 1 with (fail)
  generalize (w.alloc (.cells #[.int .i64 M.W, .slice va M.V.length cv, .slice ra M.R.length cr] 25)) = W0 at *
  have s0 : W0.cell? ⟨w.heap.size, 0, none⟩ = some (.int .i64 M.W) := HB.out.cell 0
  have s1 : W0.cell? ⟨w.heap.size, 1, none⟩ = some (.slice va M.V.length cv) := HB.out.cell 1
  have s2 : W0.cell? ⟨w.heap.size, 2, none⟩ = some (.slice ra M.R.length cr) := HB.out.cell 2
  go_wp2_with (first
    | (go_at_call 15; (with_reducible refine HRQ.out.mono ?_); rintro e w1 ⟨rfl, K1⟩))
  clear hmk1 hmk2 s0 s1 s2
  have B1 := (Bk.new w1 38 (u6 (pad1 (setsN M f 0) f.length)).toArray).alloc (.cells (bl (pad2 (setsN M f 0) f.length)).toArray 4)
  have B2 := Bk.new (w1.alloc (.cells (u6 (pad1 (setsN M f 0) f.length)).toArray 38)) 4 (bl (pad2 (setsN M f 0) f.length)).toArray
  rw [World.size_alloc] at B2
  have KK : Keep NoF w1 ((w1.alloc (.cells (u6 (pad1 (setsN M f 0) f.length)).toArray 38)).alloc (.cells (bl (pad2 (setsN M f 0) f.length)).toArray 4)) := ((Keep.refl _ _).alloc _).alloc _
  have HK1 := Lib.hid (k0.trans K1 fun _ _ h => h)
  have HKM := Lib.hid K1
  have hz1 := (k0.trans K1 fun _ _ h => h).size
  have hz0 : w.heap.size < w1.heap.size := Nat.lt_of_lt_of_le HB.out.lt K1.size
  clear K1
  generalize (w1.alloc (.cells (u6 (pad1 (setsN M f 0) f.length)).toArray 38)).alloc (.cells (bl (pad2 (setsN M f 0) f.length)).toArray 4) = W2 at *
  go_loopw [26] (fun t wr => ∃ k : Nat, t = .int .i64 (k : Int) ∧ k ≤ f.length ∧ Bk wr w1.heap.size 38 (u6 (pad1 (setsN M f k) f.length)).toArray ∧ Bk wr (w1.heap.size + 1) 4 (bl (pad2 (setsN M f k) f.length)).toArray ∧ Keep NoF w1 wr) (fun t _ => f.length - (intOf t).toNat)
  case atStart => exact ⟨0, rfl, by omega, B1, B2, KK⟩
  case round =>
    obtain ⟨k, rfl, hk, hb1, hb2, hkw⟩ := hrel
    by_cases hlt : k < f.length
    · have hn := List.getElem?_eq_getElem hlt
      have kwr := HK1.out.trans hkw fun _ _ h => h
      obtain ⟨bl0, off0, rfl, _, hcap, x0, x1, x2, x3, x4, x5⟩ := (HRD.out.kept kwr fun _ _ h => h).nd hn
      obtain ⟨o1, o2, o3, o4⟩ := HORD.out k _ hn
      have ho := HOWN.out k _ hn
      generalize f[k] = n at *
      obtain ⟨op, i, e0, g, nx, ny⟩ := n
      simp only at x0 x1 x2 x3 x4 x5 o1 o2 o3 o4 ho
      obtain ⟨xi, hxi, hxl, hxk⟩ : ∃ xi : Nat, nx = (xi : Int) ∧ xi < f.length ∧ (0 < k → xi < k) := by
        cases hu : Fm.usesX op
        · exact ⟨0, o2 hu, by omega, fun h => h⟩
        · have := o1 hu; exact ⟨nx.toNat, by omega, by omega, fun h => by omega⟩
      obtain ⟨yi, hyi, hyl, hyk⟩ : ∃ yi : Nat, ny = (yi : Int) ∧ yi < f.length ∧ (0 < k → yi < k) := by
        cases hu : Fm.usesY op
        · exact ⟨0, o4 hu, by omega, fun h => h⟩
        · have := o3 hu; exact ⟨ny.toNat, by omega, by omega, fun h => by omega⟩
      subst hxi
      subst hyi
      have hnx := sets_next (M := M) hn (fx := ((setsN M f k).getD xi (0, false)).2) (fy := ((setsN M f k).getD yi (0, false)).2) rfl rfl
      simp only [Int.toNat_natCast] at hnx
      obtain ⟨hop1, hop2, _, _⟩ := own_nat ho
      have HV : Hid (∀ W : World, Keep NoF w W → Calls Try.prog 16 #[.agg #[.int .i64 M.W, .slice va M.V.length cv, .slice ra M.R.length cr], .agg #[.int .i64 op, .int .i64 i, .int .i64 e0, .int .i64 g, .int .i64 (xi : Int), .int .i64 (yi : Int)], .int .u64 (((setsN M f k).getD xi (0, false)).1 : Nat), .int .u64 (((setsN M f k).getD yi (0, false)).1 : Nat)] W fun e w' => e = .returned (.tuple #[.int .u64 ((valP M ⟨op, i, e0, g, xi, yi⟩ ((setsN M f k).getD xi (0, false)).1 ((setsN M f k).getD yi (0, false)).1).1 : Nat), .bool (valP M ⟨op, i, e0, g, xi, yi⟩ ((setsN M f k).getD xi (0, false)).1 ((setsN M f k).getD yi (0, false)).1).2]) ∧ Keep NoF W w') := Lib.hid fun (W : World) (hkW : Keep NoF w W) => ckvalue_any (w := W) (HM.out.keep hkW) HOK.out ⟨op, i, e0, g, xi, yi⟩ ho (HLT.out k hk xi) (HLT.out k hk yi)
      have hk3 : Keep NoF wr (wr.alloc (.cells #[.int .i64 op, .int .i64 i, .int .i64 e0, .int .i64 g, .int .i64 (xi : Int), .int .i64 (yi : Int)] 53)) := (Keep.refl _ _).alloc _
      have m0 : (wr.alloc (.cells #[.int .i64 op, .int .i64 i, .int .i64 e0, .int .i64 g, .int .i64 (xi : Int), .int .i64 (yi : Int)] 53)).cell? ⟨w.heap.size, 0, none⟩ = some (.int .i64 M.W) := hk3.cellv (hkw.cellv (HKM.out.cellv (HB.out.cell 0) fun h => h) fun h => h) fun h => h
      have m1 : (wr.alloc (.cells #[.int .i64 op, .int .i64 i, .int .i64 e0, .int .i64 g, .int .i64 (xi : Int), .int .i64 (yi : Int)] 53)).cell? ⟨w.heap.size, 1, none⟩ = some (.slice va M.V.length cv) := hk3.cellv (hkw.cellv (HKM.out.cellv (HB.out.cell 1) fun h => h) fun h => h) fun h => h
      have m2 : (wr.alloc (.cells #[.int .i64 op, .int .i64 i, .int .i64 e0, .int .i64 g, .int .i64 (xi : Int), .int .i64 (yi : Int)] 53)).cell? ⟨w.heap.size, 2, none⟩ = some (.slice ra M.R.length cr) := hk3.cellv (hkw.cellv (HKM.out.cellv (HB.out.cell 2) fun h => h) fun h => h) fun h => h
      have q1x : (wr.alloc (.cells #[.int .i64 op, .int .i64 i, .int .i64 e0, .int .i64 g, .int .i64 (xi : Int), .int .i64 (yi : Int)] 53)).cell? ⟨w1.heap.size, xi, none⟩ = some (.int .u64 (((setsN M f k).getD xi (0, false)).1 : Nat)) := hk3.cellv ((hb1.cell xi).trans (u6_at hxl)) fun h => h
      have q1y : (wr.alloc (.cells #[.int .i64 op, .int .i64 i, .int .i64 e0, .int .i64 g, .int .i64 (xi : Int), .int .i64 (yi : Int)] 53)).cell? ⟨w1.heap.size, yi, none⟩ = some (.int .u64 (((setsN M f k).getD yi (0, false)).1 : Nat)) := hk3.cellv ((hb1.cell yi).trans (u6_at hyl)) fun h => h
      have q1k : (wr.alloc (.cells #[.int .i64 op, .int .i64 i, .int .i64 e0, .int .i64 g, .int .i64 (xi : Int), .int .i64 (yi : Int)] 53)).cell? ⟨w1.heap.size, k, none⟩ = some (.int .u64 (((setsN M f k).getD k (0, false)).1 : Nat)) := hk3.cellv ((hb1.cell k).trans (u6_at hlt)) fun h => h
      have q2x : (wr.alloc (.cells #[.int .i64 op, .int .i64 i, .int .i64 e0, .int .i64 g, .int .i64 (xi : Int), .int .i64 (yi : Int)] 53)).cell? ⟨w1.heap.size + 1, xi, none⟩ = some (.bool ((setsN M f k).getD xi (0, false)).2) := hk3.cellv ((hb2.cell xi).trans (bl_at hxl)) fun h => h
      have q2y : (wr.alloc (.cells #[.int .i64 op, .int .i64 i, .int .i64 e0, .int .i64 g, .int .i64 (xi : Int), .int .i64 (yi : Int)] 53)).cell? ⟨w1.heap.size + 1, yi, none⟩ = some (.bool ((setsN M f k).getD yi (0, false)).2) := hk3.cellv ((hb2.cell yi).trans (bl_at hyl)) fun h => h
      have q2k : (wr.alloc (.cells #[.int .i64 op, .int .i64 i, .int .i64 e0, .int .i64 g, .int .i64 (xi : Int), .int .i64 (yi : Int)] 53)).cell? ⟨w1.heap.size + 1, k, none⟩ = some (.bool ((setsN M f k).getD k (0, false)).2) := hk3.cellv ((hb2.cell k).trans (bl_at hlt)) fun h => h
      have qb := Bk.new wr 53 #[.int .i64 op, .int .i64 i, .int .i64 e0, .int .i64 g, .int .i64 (xi : Int), .int .i64 (yi : Int)]
      have r0 : (wr.alloc (.cells #[.int .i64 op, .int .i64 i, .int .i64 e0, .int .i64 g, .int .i64 (xi : Int), .int .i64 (yi : Int)] 53)).cell? ⟨wr.heap.size, 0, none⟩ = some (.int .i64 op) := qb.cell 0
      have r1 : (wr.alloc (.cells #[.int .i64 op, .int .i64 i, .int .i64 e0, .int .i64 g, .int .i64 (xi : Int), .int .i64 (yi : Int)] 53)).cell? ⟨wr.heap.size, 1, none⟩ = some (.int .i64 i) := qb.cell 1
      have r2 : (wr.alloc (.cells #[.int .i64 op, .int .i64 i, .int .i64 e0, .int .i64 g, .int .i64 (xi : Int), .int .i64 (yi : Int)] 53)).cell? ⟨wr.heap.size, 2, none⟩ = some (.int .i64 e0) := qb.cell 2
      have r3 : (wr.alloc (.cells #[.int .i64 op, .int .i64 i, .int .i64 e0, .int .i64 g, .int .i64 (xi : Int), .int .i64 (yi : Int)] 53)).cell? ⟨wr.heap.size, 3, none⟩ = some (.int .i64 g) := qb.cell 3
      have r4 : (wr.alloc (.cells #[.int .i64 op, .int .i64 i, .int .i64 e0, .int .i64 g, .int .i64 (xi : Int), .int .i64 (yi : Int)] 53)).cell? ⟨wr.heap.size, 4, none⟩ = some (.int .i64 (xi : Int)) := qb.cell 4
      have r5 : (wr.alloc (.cells #[.int .i64 op, .int .i64 i, .int .i64 e0, .int .i64 g, .int .i64 (xi : Int), .int .i64 (yi : Int)] 53)).cell? ⟨wr.heap.size, 5, none⟩ = some (.int .i64 (yi : Int)) := qb.cell 5
      have HQ1 : Hid (Bk (wr.alloc (.cells #[.int .i64 op, .int .i64 i, .int .i64 e0, .int .i64 g, .int .i64 (xi : Int), .int .i64 (yi : Int)] 53)) w1.heap.size 38 (u6 (pad1 (setsN M f k) f.length)).toArray) := Lib.hid (hb1.alloc _)
      have HQ2 : Hid (Bk (wr.alloc (.cells #[.int .i64 op, .int .i64 i, .int .i64 e0, .int .i64 g, .int .i64 (xi : Int), .int .i64 (yi : Int)] 53)) (w1.heap.size + 1) 4 (bl (pad2 (setsN M f k) f.length)).toArray) := Lib.hid (hb2.alloc _)
      have HK3 : Hid (Keep NoF w (wr.alloc (.cells #[.int .i64 op, .int .i64 i, .int .i64 e0, .int .i64 g, .int .i64 (xi : Int), .int .i64 (yi : Int)] 53))) := Lib.hid (kwr.trans hk3 fun _ _ h => h)
      have HKA : Hid (Keep NoF w1 (wr.alloc (.cells #[.int .i64 op, .int .i64 i, .int .i64 e0, .int .i64 g, .int .i64 (xi : Int), .int .i64 (yi : Int)] 53))) := Lib.hid (hkw.trans hk3 fun _ _ h => h)
      have hlw1 : w1.heap.size < wr.heap.size := hb1.lt
      have hlw2 : w1.heap.size + 1 < wr.heap.size := hb2.lt
      have HB1 := Lib.hid hb1
      have HB2 := Lib.hid hb2
      have l1 : (k : Int) < (f.length : Int) := by omega
      have l0 : (0 : Int) ≤ (k : Int) := by omega
      have lx : (xi : Int) < (f.length : Int) := by omega
      have ly : (yi : Int) < (f.length : Int) := by omega
      have hne : ¬ w1.heap.size + 1 = w1.heap.size := by omega
      have hne2 : ¬ w1.heap.size = w1.heap.size + 1 := by omega
      obtain ⟨ok1, hok1⟩ : ∃ ok1, (if (4 : Int) ≤ op then ((setsN M f k).getD xi (0, false)).2 else true) = ok1 := ⟨_, rfl⟩
      obtain ⟨ok2, hok2⟩ : ∃ ok2, (ok1 && (if (5 ≤ op ∧ op ≤ 8) ∨ op = 13 then ((setsN M f k).getD yi (0, false)).2 else true)) = ok2 := ⟨_, rfl⟩
      have hok2e : ((if (4 : Int) ≤ op then ((setsN M f k).getD xi (0, false)).2 else true) && (if (5 ≤ op ∧ op ≤ 8) ∨ op = 13 then ((setsN M f k).getD yi (0, false)).2 else true)) = ok2 := by rw [hok1]; exact hok2
      have HOK2E := Lib.hid hok2e
      obtain ⟨cnd, hcnd⟩ : ∃ cnd, decide ((5 ≤ op ∧ op ≤ 8) ∨ op = 13) = cnd := ⟨_, rfl⟩
      have HCND := Lib.hid hcnd
      clear hcnd
      have HOK2 := Lib.hid hok2
      clear hok2 hok2e
      have hcls : op < 4 ∨ op = 4 ∨ (5 ≤ op ∧ op ≤ 8) ∨ op = 13 ∨ (9 ≤ op ∧ op ≠ 13) := by omega
      have hkz : ¬ op < 4 → 0 < k := fun h => by
        have := o1 (by simp only [Fm.usesX, Bool.and_eq_true, decide_eq_true_eq]; omega)
        omega
      clear hb1 hb2 hk3 qb o1 o2 o3 o4 ho hn hop1 hop2
      generalize valP M ⟨op, i, e0, g, xi, yi⟩ ((setsN M f k).getD xi (0, false)).1 ((setsN M f k).getD yi (0, false)).1 = vp at *
      generalize ((setsN M f k).getD xi (0, false)).1 = vx at *
      generalize ((setsN M f k).getD yi (0, false)).1 = vy at *
      generalize ((setsN M f k).getD xi (0, false)).2 = fx at *
      generalize ((setsN M f k).getD yi (0, false)).2 = fy at *
      generalize ((setsN M f k).getD k (0, false)).1 = vk at *
      generalize ((setsN M f k).getD k (0, false)).2 = fk at *
      by_cases hcl : op < 4
      · have c4 : decide ((4 : Int) ≤ op) = false := decide_eq_false (by omega)
        have c5 : decide ((5 : Int) ≤ op) = false := decide_eq_false (by omega)
        have c8 : decide (op ≤ (8 : Int)) = true := decide_eq_true (by omega)
        have c13 : (op == 13) = false := by exact beq_eq_false_iff_ne.2 (by omega)
        have p4 : ¬ (4 : Int) ≤ op := by omega
        have p5 : ¬ (5 : Int) ≤ op := by omega
        have p8 : op ≤ (8 : Int) := by omega
        have hA : ¬ (4 : Int) ≤ op := p4
        have hB : ¬ ((5 ≤ op ∧ op ≤ 8) ∨ op = 13) := by omega
        have HSV := Lib.hid (hnx.1 (by rw [if_neg hA, if_neg hB]; rfl))
        clear hnx hA hB hcl hok1 HOK2E HCND HOK2 hkz hxk hyk hcls
        go_upto_region 15 with (fail)
        generalize wr.alloc (.cells #[.int .i64 op, .int .i64 i, .int .i64 e0, .int .i64 g, .int .i64 (xi : Int), .int .i64 (yi : Int)] 53) = W3 at *
        have HVN := Lib.hid fun m => HV.out (W3.drewN m) (HK3.out.drewN m)
        have HVD := Lib.hid (HV.out W3.drew HK3.out.drew)
        have HSS : Hid (∀ w' : World, Keep NoF W3 w' → w'.cell? ⟨w.heap.size, 0, none⟩ = some (.int .i64 M.W) ∧ w'.cell? ⟨w.heap.size, 1, none⟩ = some (.slice va M.V.length cv) ∧ w'.cell? ⟨w.heap.size, 2, none⟩ = some (.slice ra M.R.length cr) ∧ w'.cell? ⟨wr.heap.size, 0, none⟩ = some (.int .i64 op) ∧ w'.cell? ⟨wr.heap.size, 1, none⟩ = some (.int .i64 i) ∧ w'.cell? ⟨wr.heap.size, 2, none⟩ = some (.int .i64 e0) ∧ w'.cell? ⟨wr.heap.size, 3, none⟩ = some (.int .i64 g) ∧ w'.cell? ⟨wr.heap.size, 4, none⟩ = some (.int .i64 (xi : Int)) ∧ w'.cell? ⟨wr.heap.size, 5, none⟩ = some (.int .i64 (yi : Int))) := Lib.hid fun w' h =>
          ⟨h.cellv m0 fun h => h, h.cellv m1 fun h => h, h.cellv m2 fun h => h, h.cellv r0 fun h => h, h.cellv r1 fun h => h, h.cellv r2 fun h => h, h.cellv r3 fun h => h, h.cellv r4 fun h => h, h.cellv r5 fun h => h⟩
        have HST : Hid (∀ (w' : World) (u : Value), Keep NoF W3 w' → (w'.setCell ⟨w1.heap.size, k, none⟩ u).cell? ⟨w.heap.size, 0, none⟩ = some (.int .i64 M.W) ∧ (w'.setCell ⟨w1.heap.size, k, none⟩ u).cell? ⟨w.heap.size, 1, none⟩ = some (.slice va M.V.length cv) ∧ (w'.setCell ⟨w1.heap.size, k, none⟩ u).cell? ⟨w.heap.size, 2, none⟩ = some (.slice ra M.R.length cr) ∧ (w'.setCell ⟨w1.heap.size, k, none⟩ u).cell? ⟨wr.heap.size, 0, none⟩ = some (.int .i64 op) ∧ (w'.setCell ⟨w1.heap.size, k, none⟩ u).cell? ⟨wr.heap.size, 1, none⟩ = some (.int .i64 i) ∧ (w'.setCell ⟨w1.heap.size, k, none⟩ u).cell? ⟨wr.heap.size, 2, none⟩ = some (.int .i64 e0) ∧ (w'.setCell ⟨w1.heap.size, k, none⟩ u).cell? ⟨wr.heap.size, 3, none⟩ = some (.int .i64 g) ∧ (w'.setCell ⟨w1.heap.size, k, none⟩ u).cell? ⟨wr.heap.size, 4, none⟩ = some (.int .i64 (xi : Int)) ∧ (w'.setCell ⟨w1.heap.size, k, none⟩ u).cell? ⟨wr.heap.size, 5, none⟩ = some (.int .i64 (yi : Int))) := Lib.hid fun w' u h => by
          obtain ⟨a0, a1, a2, a3, a4, a5, a6, a7, a8⟩ := HSS.out w' h
          exact ⟨(World.cell?_setCell_far _ _ _ _ (show w1.heap.size ≠ w.heap.size by omega)).trans a0, (World.cell?_setCell_far _ _ _ _ (show w1.heap.size ≠ w.heap.size by omega)).trans a1, (World.cell?_setCell_far _ _ _ _ (show w1.heap.size ≠ w.heap.size by omega)).trans a2, (World.cell?_setCell_far _ _ _ _ (show w1.heap.size ≠ wr.heap.size by omega)).trans a3, (World.cell?_setCell_far _ _ _ _ (show w1.heap.size ≠ wr.heap.size by omega)).trans a4, (World.cell?_setCell_far _ _ _ _ (show w1.heap.size ≠ wr.heap.size by omega)).trans a5, (World.cell?_setCell_far _ _ _ _ (show w1.heap.size ≠ wr.heap.size by omega)).trans a6, (World.cell?_setCell_far _ _ _ _ (show w1.heap.size ≠ wr.heap.size by omega)).trans a7, (World.cell?_setCell_far _ _ _ _ (show w1.heap.size ≠ wr.heap.size by omega)).trans a8⟩
        have HSU : Hid (∀ (w' : World) (u u' : Value), Keep NoF W3 w' → ((w'.setCell ⟨w1.heap.size, k, none⟩ u).setCell ⟨w1.heap.size + 1, k, none⟩ u').cell? ⟨w.heap.size, 0, none⟩ = some (.int .i64 M.W) ∧ ((w'.setCell ⟨w1.heap.size, k, none⟩ u).setCell ⟨w1.heap.size + 1, k, none⟩ u').cell? ⟨w.heap.size, 1, none⟩ = some (.slice va M.V.length cv) ∧ ((w'.setCell ⟨w1.heap.size, k, none⟩ u).setCell ⟨w1.heap.size + 1, k, none⟩ u').cell? ⟨w.heap.size, 2, none⟩ = some (.slice ra M.R.length cr) ∧ ((w'.setCell ⟨w1.heap.size, k, none⟩ u).setCell ⟨w1.heap.size + 1, k, none⟩ u').cell? ⟨wr.heap.size, 0, none⟩ = some (.int .i64 op) ∧ ((w'.setCell ⟨w1.heap.size, k, none⟩ u).setCell ⟨w1.heap.size + 1, k, none⟩ u').cell? ⟨wr.heap.size, 1, none⟩ = some (.int .i64 i) ∧ ((w'.setCell ⟨w1.heap.size, k, none⟩ u).setCell ⟨w1.heap.size + 1, k, none⟩ u').cell? ⟨wr.heap.size, 2, none⟩ = some (.int .i64 e0) ∧ ((w'.setCell ⟨w1.heap.size, k, none⟩ u).setCell ⟨w1.heap.size + 1, k, none⟩ u').cell? ⟨wr.heap.size, 3, none⟩ = some (.int .i64 g) ∧ ((w'.setCell ⟨w1.heap.size, k, none⟩ u).setCell ⟨w1.heap.size + 1, k, none⟩ u').cell? ⟨wr.heap.size, 4, none⟩ = some (.int .i64 (xi : Int)) ∧ ((w'.setCell ⟨w1.heap.size, k, none⟩ u).setCell ⟨w1.heap.size + 1, k, none⟩ u').cell? ⟨wr.heap.size, 5, none⟩ = some (.int .i64 (yi : Int))) := Lib.hid fun w' u u' h => by
          obtain ⟨a0, a1, a2, a3, a4, a5, a6, a7, a8⟩ := HST.out w' u h
          exact ⟨(World.cell?_setCell_far _ _ _ _ (show w1.heap.size + 1 ≠ w.heap.size by omega)).trans a0, (World.cell?_setCell_far _ _ _ _ (show w1.heap.size + 1 ≠ w.heap.size by omega)).trans a1, (World.cell?_setCell_far _ _ _ _ (show w1.heap.size + 1 ≠ w.heap.size by omega)).trans a2, (World.cell?_setCell_far _ _ _ _ (show w1.heap.size + 1 ≠ wr.heap.size by omega)).trans a3, (World.cell?_setCell_far _ _ _ _ (show w1.heap.size + 1 ≠ wr.heap.size by omega)).trans a4, (World.cell?_setCell_far _ _ _ _ (show w1.heap.size + 1 ≠ wr.heap.size by omega)).trans a5, (World.cell?_setCell_far _ _ _ _ (show w1.heap.size + 1 ≠ wr.heap.size by omega)).trans a6, (World.cell?_setCell_far _ _ _ _ (show w1.heap.size + 1 ≠ wr.heap.size by omega)).trans a7, (World.cell?_setCell_far _ _ _ _ (show w1.heap.size + 1 ≠ wr.heap.size by omega)).trans a8⟩
        have K0 : Keep NoF W3 W3.drew := (Keep.refl _ _).drew
        have q1xd : W3.drew.cell? ⟨w1.heap.size, xi, none⟩ = some (.int .u64 (vx : Nat)) := q1x
        have q1yd : W3.drew.cell? ⟨w1.heap.size, yi, none⟩ = some (.int .u64 (vy : Nat)) := q1y
        clear m0 m1 m2 r0 r1 r2 r3 r4 r5 q2x q2y
        refine wp_region_held_drew (S := fun w' => w'.cell? ⟨w.heap.size, 0, none⟩ = some (.int .i64 M.W) ∧ w'.cell? ⟨w.heap.size, 1, none⟩ = some (.slice va M.V.length cv) ∧ w'.cell? ⟨w.heap.size, 2, none⟩ = some (.slice ra M.R.length cr) ∧ w'.cell? ⟨wr.heap.size, 0, none⟩ = some (.int .i64 op) ∧ w'.cell? ⟨wr.heap.size, 1, none⟩ = some (.int .i64 i) ∧ w'.cell? ⟨wr.heap.size, 2, none⟩ = some (.int .i64 e0) ∧ w'.cell? ⟨wr.heap.size, 3, none⟩ = some (.int .i64 g) ∧ w'.cell? ⟨wr.heap.size, 4, none⟩ = some (.int .i64 (xi : Int)) ∧ w'.cell? ⟨wr.heap.size, 5, none⟩ = some (.int .i64 (yi : Int))) (by kernel_rfl) (HSS.out _ K0) (fun hHeld => ?_)
        refine wpAnyH_take (i := 0) (v := ?_) rfl (by kernel_rfl) (by kernel_rfl) (by kernel_rfl) (fun _ _ _ h => h) (Or.inl ⟨by rfl, ?_⟩) (by assumption) ?_
        rotate_left 1
        · intro w hSw
          (try dsimp only at hSw)
          go_simp
          all_goals (try with_reducible rfl)
        (try simp only [Act.put, List.setIfInBounds_toArray, List.set_cons_zero, List.set_cons_succ])
        refine wpAnyH_take (i := 1) (v := ?_) rfl (by kernel_rfl) (by kernel_rfl) (by kernel_rfl) (fun _ _ _ h => h) (Or.inl ⟨by rfl, ?_⟩) (by assumption) ?_
        rotate_left 1
        · intro w hSw
          (try dsimp only at hSw)
          go_simp
          all_goals (try with_reducible rfl)
        (try simp only [Act.put, List.setIfInBounds_toArray, List.set_cons_zero, List.set_cons_succ])
        refine wpAnyH_take (i := 2) (v := ?_) rfl (by kernel_rfl) (by kernel_rfl) (by kernel_rfl) (fun _ _ _ h => h) (Or.inl ⟨by rfl, ?_⟩) (by assumption) ?_
        rotate_left 1
        · intro w hSw
          (try dsimp only at hSw)
          go_simp
          all_goals (try with_reducible rfl)
        (try simp only [Act.put, List.setIfInBounds_toArray, List.set_cons_zero, List.set_cons_succ])
        refine wpAnyH_take (i := 3) (v := ?_) rfl (by kernel_rfl) (by kernel_rfl) (by kernel_rfl) (fun _ _ _ h => h) (Or.inl ⟨by rfl, ?_⟩) (by assumption) ?_
        rotate_left 1
        · intro w hSw
          (try dsimp only at hSw)
          go_simp
          all_goals (try with_reducible rfl)
        (try simp only [Act.put, List.setIfInBounds_toArray, List.set_cons_zero, List.set_cons_succ])
        refine wpAnyH_take (i := 4) (v := ?_) rfl (by kernel_rfl) (by kernel_rfl) (by kernel_rfl) (fun _ _ _ h => h) (Or.inl ⟨by rfl, ?_⟩) (by assumption) ?_
        rotate_left 1
        · intro w hSw
          (try dsimp only at hSw)
          go_simp
          all_goals (try with_reducible rfl)
        (try simp only [Act.put, List.setIfInBounds_toArray, List.set_cons_zero, List.set_cons_succ])
        refine wpAnyH_take (i := 5) (v := ?_) rfl (by kernel_rfl) (by kernel_rfl) (by kernel_rfl) (fun _ _ _ h => h) (Or.inl ⟨by rfl, ?_⟩) (by assumption) ?_
        rotate_left 1
        · intro w hSw
          (try dsimp only at hSw)
          go_simp
          all_goals (try with_reducible rfl)
        (try simp only [Act.put, List.setIfInBounds_toArray, List.set_cons_zero, List.set_cons_succ])
        refine wpAnyH_take (i := 6) (v := ?_) rfl (by kernel_rfl) (by kernel_rfl) (by kernel_rfl) (fun _ _ _ h => h) (Or.inl ⟨by rfl, ?_⟩) (by assumption) ?_
        rotate_left 1
        · intro w hSw
          (try dsimp only at hSw)
          go_simp
          all_goals (try with_reducible rfl)
        (try simp only [Act.put, List.setIfInBounds_toArray, List.set_cons_zero, List.set_cons_succ])
        refine wpAnyH_take (i := 7) (v := ?_) rfl (by kernel_rfl) (by kernel_rfl) (by kernel_rfl) (fun _ _ _ h => h) (Or.inl ⟨by rfl, ?_⟩) (by assumption) ?_
        rotate_left 1
        · intro w hSw
          (try dsimp only at hSw)
          go_simp
          all_goals (try with_reducible rfl)
        (try simp only [Act.put, List.setIfInBounds_toArray, List.set_cons_zero, List.set_cons_succ])
        refine wpAnyH_take (i := 8) (v := ?_) rfl (by kernel_rfl) (by kernel_rfl) (by kernel_rfl) (fun _ _ _ h => h) (Or.inl ⟨by rfl, ?_⟩) (by assumption) ?_
        rotate_left 1
        · intro w hSw
          (try dsimp only at hSw)
          go_simp
          all_goals (try with_reducible rfl)
        (try simp only [Act.put, List.setIfInBounds_toArray, List.set_cons_zero, List.set_cons_succ])
        refine wpAnyH_take (i := 9) (v := ?_) rfl (by kernel_rfl) (by kernel_rfl) (by kernel_rfl) (fun _ _ _ h => h) (Or.inl ⟨by rfl, ?_⟩) (by assumption) ?_
        rotate_left 1
        · intro w hSw
          (try dsimp only at hSw)
          go_simp
          all_goals (try with_reducible rfl)
        (try simp only [Act.put, List.setIfInBounds_toArray, List.set_cons_zero, List.set_cons_succ])
        refine wpAnyH_take (i := 11) (v := ?_) rfl (by kernel_rfl) (by kernel_rfl) (by kernel_rfl) (fun _ _ _ h => h) (Or.inl ⟨by rfl, ?_⟩) (by assumption) ?_
        rotate_left 1
        · intro w hSw
          (try dsimp only at hSw)
          go_simp
          all_goals (try with_reducible rfl)
        (try simp only [Act.put, List.setIfInBounds_toArray, List.set_cons_zero, List.set_cons_succ])
        refine wpAnyH_take (i := 12) (v := ?_) rfl (by kernel_rfl) (by kernel_rfl) (by kernel_rfl) (fun _ _ _ h => h) (Or.inl ⟨by rfl, ?_⟩) (by assumption) ?_
        rotate_left 1
        · intro w hSw
          (try dsimp only at hSw)
          go_simp
          all_goals (try with_reducible rfl)
        (try simp only [Act.put, List.setIfInBounds_toArray, List.set_cons_zero, List.set_cons_succ])
        refine wpAnyH_take (i := 13) (v := ?_) rfl (by kernel_rfl) (by kernel_rfl) (by kernel_rfl) (fun _ _ _ h => h) (Or.inl ⟨by rfl, ?_⟩) (by assumption) ?_
        rotate_left 1
        · intro w hSw
          (try dsimp only at hSw)
          go_simp
          all_goals (try with_reducible rfl)
        (try simp only [Act.put, List.setIfInBounds_toArray, List.set_cons_zero, List.set_cons_succ])
        refine wpAnyH_take (i := 14) (v := ?_) rfl (by kernel_rfl) (by kernel_rfl) (by kernel_rfl) (fun _ _ _ h => h) (Or.inl ⟨by rfl, ?_⟩) (by assumption) ?_
        rotate_left 1
        · intro w hSw
          (try dsimp only at hSw)
          go_simp
          all_goals (try with_reducible rfl)
        (try simp only [Act.put, List.setIfInBounds_toArray, List.set_cons_zero, List.set_cons_succ])
        refine wpAnyH_ready (rs := [10, 15]) (by kernel_rfl) (by simp) ?_
        refine AllReadyH.cons rfl (fun K hK => ?_) ?_
        · go_simp
          refine hK.out _ _ (HSS.out _ K0) (fun hHeld => ?_)
          clear hK K
          (try simp only [Act.put, List.setIfInBounds_toArray, List.set_cons_zero, List.set_cons_succ])
          refine wpAnyH_ready (rs := [15]) (by kernel_rfl) (by simp) ?_
          refine AllReadyH.cons rfl (fun K hK => ?_) ?_
          · go_simp
            refine hK.out _ _ (HSS.out _ K0) (fun hHeld => ?_)
            clear hK K
            (try simp only [Act.put, List.setIfInBounds_toArray, List.set_cons_zero, List.set_cons_succ])
            refine wpAnyH_ready (rs := [16]) (by kernel_rfl) (by simp) ?_
            refine AllReadyH.cons rfl (fun K hK => ?_) ?_
            · go_simp
              go_at_call 16
              (first | (with_reducible refine (HVN.out _).mono ?_) | (with_reducible refine HVD.out.mono ?_))
              rintro e w4 ⟨rfl, k40⟩
              have k4 : Keep NoF W3 w4 := (by first | exact k40.undrewN | exact k40.undrew)
              clear k40
              have d1 := k4.cellv q1k fun h => h
              have d2 := k4.cellv q2k fun h => h
              have g1 : w4.frozen? ⟨w1.heap.size, k, none⟩ = false := (HQ1.out.keep k4 fun h => h).frozen k
              have g2 : w4.frozen? ⟨w1.heap.size + 1, k, none⟩ = false := (HQ2.out.keep k4 fun h => h).frozen k
              have HQ14 := Lib.hid (HQ1.out.keep k4 fun h => h)
              have HQ24 := Lib.hid (HQ2.out.keep k4 fun h => h)
              have HK4 := Lib.hid k4
              (try go_wp2_with (fail))
              refine hK.out _ _ (HSS.out _ k4) (fun hHeld => ?_)
              clear hK K
              (try simp only [Act.put, List.setIfInBounds_toArray, List.set_cons_zero, List.set_cons_succ])
              refine wpAnyH_take (i := 17) (v := ?_) rfl (by kernel_rfl) (by kernel_rfl) (by kernel_rfl) (fun _ _ _ h => h) (Or.inl ⟨by rfl, ?_⟩) (by assumption) ?_
              rotate_left 1
              · intro w hSw
                (try dsimp only at hSw)
                go_simp
                all_goals (try with_reducible rfl)
              (try simp only [Act.put, List.setIfInBounds_toArray, List.set_cons_zero, List.set_cons_succ])
              refine wpAnyH_take (i := 18) (v := ?_) rfl (by kernel_rfl) (by kernel_rfl) (by kernel_rfl) (fun _ _ _ h => h) (Or.inl ⟨by rfl, ?_⟩) (by assumption) ?_
              rotate_left 1
              · intro w hSw
                (try dsimp only at hSw)
                go_simp
                all_goals (try with_reducible rfl)
              (try simp only [Act.put, List.setIfInBounds_toArray, List.set_cons_zero, List.set_cons_succ])
              refine wpAnyH_take (i := 19) (v := ?_) rfl (by kernel_rfl) (by kernel_rfl) (by kernel_rfl) (fun _ _ _ h => h) (Or.inl ⟨by rfl, ?_⟩) (by assumption) ?_
              rotate_left 1
              · intro w hSw
                (try dsimp only at hSw)
                go_simp
                all_goals (try with_reducible rfl)
              (try simp only [Act.put, List.setIfInBounds_toArray, List.set_cons_zero, List.set_cons_succ])
              refine wpAnyH_take (i := 20) (v := ?_) rfl (by kernel_rfl) (by kernel_rfl) (by kernel_rfl) (fun _ _ _ h => h) (Or.inl ⟨by rfl, ?_⟩) (by assumption) ?_
              rotate_left 1
              · intro w hSw
                (try dsimp only at hSw)
                go_simp
                all_goals (try with_reducible rfl)
              (try simp only [Act.put, List.setIfInBounds_toArray, List.set_cons_zero, List.set_cons_succ])
              refine wpAnyH_ready (rs := [21]) (by kernel_rfl) (by simp) ?_
              refine AllReadyH.cons rfl (fun K hK => ?_) ?_
              · go_simp
                refine hK.out _ _ (HST.out _ _ k4) (fun hHeld => ?_)
                clear hK K
                (try simp only [Act.put, List.setIfInBounds_toArray, List.set_cons_zero, List.set_cons_succ])
                refine wpAnyH_take (i := 22) (v := ?_) rfl (by kernel_rfl) (by kernel_rfl) (by kernel_rfl) (fun _ _ _ h => h) (Or.inl ⟨by rfl, ?_⟩) (by assumption) ?_
                rotate_left 1
                · intro w hSw
                  (try dsimp only at hSw)
                  go_simp
                  all_goals (try with_reducible rfl)
                (try simp only [Act.put, List.setIfInBounds_toArray, List.set_cons_zero, List.set_cons_succ])
                refine wpAnyH_ready (rs := [23]) (by kernel_rfl) (by simp) ?_
                refine AllReadyH.cons rfl (fun K hK => ?_) ?_
                · go_simp
                  refine hK.out _ _ (HSU.out _ _ _ k4) (fun hHeld => ?_)
                  clear hK K
                  (try simp only [Act.put, List.setIfInBounds_toArray, List.set_cons_zero, List.set_cons_succ])
                  refine wpAnyH_done (by kernel_rfl) ?_ _
                  go_wp2
                  go_roundw
                  case rel =>
                    refine ⟨k + 1, by go_num, by omega, by rw [HSV.out.1]; exact set_bk ((HQ14.out.put k _).far (by show w1.heap.size ≠ w1.heap.size + 1; omega) _), by rw [HSV.out.2]; exact set_bk ((HQ24.out.far (by show w1.heap.size + 1 ≠ w1.heap.size; omega) _).put k _), ?_⟩
                    exact ((HKA.out.trans HK4.out fun _ _ h => h).setCell (.inr (Nat.le_refl _)) _).setCell (.inr (by show w1.heap.size ≤ w1.heap.size + 1; omega)) _
                  case measure => simp only [intOf]; omega
                exact AllReadyH.nil
              exact AllReadyH.nil
            exact AllReadyH.nil
          exact AllReadyH.nil
        refine AllReadyH.cons rfl (fun K hK => ?_) ?_
        · go_simp
          refine hK.out _ _ (HSS.out _ K0) (fun hHeld => ?_)
          clear hK K
          (try simp only [Act.put, List.setIfInBounds_toArray, List.set_cons_zero, List.set_cons_succ])
          refine wpAnyH_ready (rs := [10]) (by kernel_rfl) (by simp) ?_
          refine AllReadyH.cons rfl (fun K hK => ?_) ?_
          · go_simp
            refine hK.out _ _ (HSS.out _ K0) (fun hHeld => ?_)
            clear hK K
            (try simp only [Act.put, List.setIfInBounds_toArray, List.set_cons_zero, List.set_cons_succ])
            refine wpAnyH_ready (rs := [16]) (by kernel_rfl) (by simp) ?_
            refine AllReadyH.cons rfl (fun K hK => ?_) ?_
            · go_simp
              go_at_call 16
              (first | (with_reducible refine (HVN.out _).mono ?_) | (with_reducible refine HVD.out.mono ?_))
              rintro e w4 ⟨rfl, k40⟩
              have k4 : Keep NoF W3 w4 := (by first | exact k40.undrewN | exact k40.undrew)
              clear k40
              have d1 := k4.cellv q1k fun h => h
              have d2 := k4.cellv q2k fun h => h
              have g1 : w4.frozen? ⟨w1.heap.size, k, none⟩ = false := (HQ1.out.keep k4 fun h => h).frozen k
              have g2 : w4.frozen? ⟨w1.heap.size + 1, k, none⟩ = false := (HQ2.out.keep k4 fun h => h).frozen k
              have HQ14 := Lib.hid (HQ1.out.keep k4 fun h => h)
              have HQ24 := Lib.hid (HQ2.out.keep k4 fun h => h)
              have HK4 := Lib.hid k4
              (try go_wp2_with (fail))
              refine hK.out _ _ (HSS.out _ k4) (fun hHeld => ?_)
              clear hK K
              (try simp only [Act.put, List.setIfInBounds_toArray, List.set_cons_zero, List.set_cons_succ])
              refine wpAnyH_take (i := 17) (v := ?_) rfl (by kernel_rfl) (by kernel_rfl) (by kernel_rfl) (fun _ _ _ h => h) (Or.inl ⟨by rfl, ?_⟩) (by assumption) ?_
              rotate_left 1
              · intro w hSw
                (try dsimp only at hSw)
                go_simp
                all_goals (try with_reducible rfl)
              (try simp only [Act.put, List.setIfInBounds_toArray, List.set_cons_zero, List.set_cons_succ])
              refine wpAnyH_take (i := 18) (v := ?_) rfl (by kernel_rfl) (by kernel_rfl) (by kernel_rfl) (fun _ _ _ h => h) (Or.inl ⟨by rfl, ?_⟩) (by assumption) ?_
              rotate_left 1
              · intro w hSw
                (try dsimp only at hSw)
                go_simp
                all_goals (try with_reducible rfl)
              (try simp only [Act.put, List.setIfInBounds_toArray, List.set_cons_zero, List.set_cons_succ])
              refine wpAnyH_take (i := 19) (v := ?_) rfl (by kernel_rfl) (by kernel_rfl) (by kernel_rfl) (fun _ _ _ h => h) (Or.inl ⟨by rfl, ?_⟩) (by assumption) ?_
              rotate_left 1
              · intro w hSw
                (try dsimp only at hSw)
                go_simp
                all_goals (try with_reducible rfl)
              (try simp only [Act.put, List.setIfInBounds_toArray, List.set_cons_zero, List.set_cons_succ])
              refine wpAnyH_take (i := 20) (v := ?_) rfl (by kernel_rfl) (by kernel_rfl) (by kernel_rfl) (fun _ _ _ h => h) (Or.inl ⟨by rfl, ?_⟩) (by assumption) ?_
              rotate_left 1
              · intro w hSw
                (try dsimp only at hSw)
                go_simp
                all_goals (try with_reducible rfl)
              (try simp only [Act.put, List.setIfInBounds_toArray, List.set_cons_zero, List.set_cons_succ])
              refine wpAnyH_ready (rs := [21]) (by kernel_rfl) (by simp) ?_
              refine AllReadyH.cons rfl (fun K hK => ?_) ?_
              · go_simp
                refine hK.out _ _ (HST.out _ _ k4) (fun hHeld => ?_)
                clear hK K
                (try simp only [Act.put, List.setIfInBounds_toArray, List.set_cons_zero, List.set_cons_succ])
                refine wpAnyH_take (i := 22) (v := ?_) rfl (by kernel_rfl) (by kernel_rfl) (by kernel_rfl) (fun _ _ _ h => h) (Or.inl ⟨by rfl, ?_⟩) (by assumption) ?_
                rotate_left 1
                · intro w hSw
                  (try dsimp only at hSw)
                  go_simp
                  all_goals (try with_reducible rfl)
                (try simp only [Act.put, List.setIfInBounds_toArray, List.set_cons_zero, List.set_cons_succ])
                refine wpAnyH_ready (rs := [23]) (by kernel_rfl) (by simp) ?_
                refine AllReadyH.cons rfl (fun K hK => ?_) ?_
                · go_simp
                  refine hK.out _ _ (HSU.out _ _ _ k4) (fun hHeld => ?_)
                  clear hK K
                  (try simp only [Act.put, List.setIfInBounds_toArray, List.set_cons_zero, List.set_cons_succ])
                  refine wpAnyH_done (by kernel_rfl) ?_ _
                  go_wp2
                  go_roundw
                  case rel =>
                    refine ⟨k + 1, by go_num, by omega, by rw [HSV.out.1]; exact set_bk ((HQ14.out.put k _).far (by show w1.heap.size ≠ w1.heap.size + 1; omega) _), by rw [HSV.out.2]; exact set_bk ((HQ24.out.far (by show w1.heap.size + 1 ≠ w1.heap.size; omega) _).put k _), ?_⟩
                    exact ((HKA.out.trans HK4.out fun _ _ h => h).setCell (.inr (Nat.le_refl _)) _).setCell (.inr (by show w1.heap.size ≤ w1.heap.size + 1; omega)) _
                  case measure => simp only [intOf]; omega
                exact AllReadyH.nil
              exact AllReadyH.nil
            exact AllReadyH.nil
          exact AllReadyH.nil
        exact AllReadyH.nil
      · have hk0 : 0 < k := hkz hcl
        clear hkz
        have HOK1 : Hid ((if (4 : Int) ≤ op then fx else true) = ok1) := Lib.hid hok1
        clear hok1
        go_upto_if 33 with (fail)
        generalize wr.alloc (.cells #[.int .i64 op, .int .i64 i, .int .i64 e0, .int .i64 g, .int .i64 (xi : Int), .int .i64 (yi : Int)] 53) = W3 at *
        have HO1 : Hid (((4 : Int) ≤ op → ok1 = fx) ∧ (¬ (4 : Int) ≤ op → ok1 = true)) := Lib.hid ⟨fun h => by rw [← HOK1.out, if_pos h], fun h => by rw [← HOK1.out, if_neg h]⟩
        go_cut [11, 26] from 26 to 83 (fun v11 v26 wc => v11 = .bool ok1 ∧ v26 = .int .i64 (k : Int) ∧ wc = W3)
        case first =>
          by_cases h4 : (4 : Int) ≤ op
          · have c4 : decide ((4 : Int) ≤ op) = true := decide_eq_true h4
            go_wp2
            go_meet
            exact ⟨by rw [HO1.out.1 h4], rfl, rfl⟩
          · exact absurd h4 (by omega)
        case rest =>
          obtain ⟨rfl, rfl, hw⟩ := hcut
          obtain rfl := hw.symm
          go_upto_region 12 with (fail)
          go_cut [11, 26, 51] from 26 to 83 (fun v11 v26 v51 wc => v11 = .bool ok1 ∧ v26 = .int .i64 (k : Int) ∧ v51 = .bool cnd ∧ wc = W3)
          case first =>
            have hcls : op < 5 ∨ (5 ≤ op ∧ op ≤ 8) ∨ op = 13 ∨ (9 ≤ op ∧ op ≠ 13) := by omega
            rcases hcls with hcl | hcl | hcl | hcl
            · have c5 : decide ((5 : Int) ≤ op) = false := decide_eq_false (by omega)
              have c8 : decide (op ≤ (8 : Int)) = true := decide_eq_true (by omega)
              have c13 : (op == 13) = false := by exact beq_eq_false_iff_ne.2 (by omega)
              have h2 : cnd = false := by rw [← HCND.out]; exact decide_eq_false (by omega)
              go_wp2
              go_meet
              exact ⟨rfl, rfl, by rw [h2], rfl⟩
            · have c5 : decide ((5 : Int) ≤ op) = true := decide_eq_true (by omega)
              have c8 : decide (op ≤ (8 : Int)) = true := decide_eq_true (by omega)
              have c13 : (op == 13) = false := by exact beq_eq_false_iff_ne.2 (by omega)
              have h2 : cnd = true := by rw [← HCND.out]; exact decide_eq_true (by omega)
              go_wp2
              go_meet
              exact ⟨rfl, rfl, by rw [h2], rfl⟩
            · have c5 : decide ((5 : Int) ≤ op) = true := decide_eq_true (by omega)
              have c8 : decide (op ≤ (8 : Int)) = false := decide_eq_false (by omega)
              have c13 : (op == 13) = true := by rw [hcl]; rfl
              have h2 : cnd = true := by rw [← HCND.out]; exact decide_eq_true (by omega)
              go_wp2
              go_meet
              exact ⟨rfl, rfl, by rw [h2], rfl⟩
            · have c5 : decide ((5 : Int) ≤ op) = true := decide_eq_true (by omega)
              have c8 : decide (op ≤ (8 : Int)) = false := decide_eq_false (by omega)
              have c13 : (op == 13) = false := by exact beq_eq_false_iff_ne.2 (by omega)
              have h2 : cnd = false := by rw [← HCND.out]; exact decide_eq_false (by omega)
              go_wp2
              go_meet
              exact ⟨rfl, rfl, by rw [h2], rfl⟩
          case rest =>
          obtain ⟨rfl, rfl, rfl, hw⟩ := hcut
          obtain rfl := hw.symm
          go_upto_if 51 with (fail)
          go_cut [11, 26] from 26 to 83 (fun v11 v26 wc => v11 = .bool ok2 ∧ v26 = .int .i64 (k : Int) ∧ wc = W3)
          case first =>
            have hc2 : ok2 = (ok1 && (if cnd = true then fy else true)) := by
              rw [← HOK2.out, ← HCND.out]
              simp only [decide_eq_true_eq]
            cases cnd
            · have h2 : ok2 = ok1 := by rw [hc2]; simp
              clear hc2
              go_wp2
              go_meet
              exact ⟨by rw [h2], rfl, rfl⟩
            · cases ok1
              · have h2 : ok2 = false := by rw [hc2]; rfl
                clear hc2
                go_wp2
                go_meet
                exact ⟨by rw [h2], rfl, rfl⟩
              · have h2 : ok2 = fy := by rw [hc2]; rfl
                clear hc2
                go_wp2
                go_meet
                exact ⟨by rw [h2], rfl, rfl⟩
          case rest =>
            obtain ⟨rfl, rfl, hw⟩ := hcut
            obtain rfl := hw.symm
            cases ok2
            · have HSK := Lib.hid (hnx.2 HOK2E.out)
              clear hnx
              go_wp2
              go_roundw
              case rel => exact ⟨k + 1, by go_num, by omega, by rw [HSK.out.1]; exact HQ1.out, by rw [HSK.out.2]; exact HQ2.out, HKA.out⟩
              case measure => simp only [intOf]; omega
            · have HSV := Lib.hid (hnx.1 HOK2E.out)
              clear hnx
              go_upto_region 15 with (fail)
              have HVN := Lib.hid fun m => HV.out (W3.drewN m) (HK3.out.drewN m)
              have HVD := Lib.hid (HV.out W3.drew HK3.out.drew)
              have hxk0 := hxk hk0
              have hyk0 := hyk hk0
              have HSS : Hid (∀ w' : World, Keep NoF W3 w' → w'.cell? ⟨w.heap.size, 0, none⟩ = some (.int .i64 M.W) ∧ w'.cell? ⟨w.heap.size, 1, none⟩ = some (.slice va M.V.length cv) ∧ w'.cell? ⟨w.heap.size, 2, none⟩ = some (.slice ra M.R.length cr) ∧ w'.cell? ⟨wr.heap.size, 0, none⟩ = some (.int .i64 op) ∧ w'.cell? ⟨wr.heap.size, 1, none⟩ = some (.int .i64 i) ∧ w'.cell? ⟨wr.heap.size, 2, none⟩ = some (.int .i64 e0) ∧ w'.cell? ⟨wr.heap.size, 3, none⟩ = some (.int .i64 g) ∧ w'.cell? ⟨wr.heap.size, 4, none⟩ = some (.int .i64 (xi : Int)) ∧ w'.cell? ⟨wr.heap.size, 5, none⟩ = some (.int .i64 (yi : Int)) ∧ w'.cell? ⟨w1.heap.size, xi, none⟩ = some (.int .u64 (vx : Nat)) ∧ w'.cell? ⟨w1.heap.size, yi, none⟩ = some (.int .u64 (vy : Nat))) := Lib.hid fun w' h =>
                ⟨h.cellv m0 fun h => h, h.cellv m1 fun h => h, h.cellv m2 fun h => h, h.cellv r0 fun h => h, h.cellv r1 fun h => h, h.cellv r2 fun h => h, h.cellv r3 fun h => h, h.cellv r4 fun h => h, h.cellv r5 fun h => h, h.cellv q1x fun h => h, h.cellv q1y fun h => h⟩
              have hwlt : w.heap.size < w1.heap.size := by omega
              have hwrl : w1.heap.size < wr.heap.size := hlw1
              have HST : Hid (∀ (w' : World) (u : Value), Keep NoF W3 w' → (w'.setCell ⟨w1.heap.size, k, none⟩ u).cell? ⟨w.heap.size, 0, none⟩ = some (.int .i64 M.W) ∧ (w'.setCell ⟨w1.heap.size, k, none⟩ u).cell? ⟨w.heap.size, 1, none⟩ = some (.slice va M.V.length cv) ∧ (w'.setCell ⟨w1.heap.size, k, none⟩ u).cell? ⟨w.heap.size, 2, none⟩ = some (.slice ra M.R.length cr) ∧ (w'.setCell ⟨w1.heap.size, k, none⟩ u).cell? ⟨wr.heap.size, 0, none⟩ = some (.int .i64 op) ∧ (w'.setCell ⟨w1.heap.size, k, none⟩ u).cell? ⟨wr.heap.size, 1, none⟩ = some (.int .i64 i) ∧ (w'.setCell ⟨w1.heap.size, k, none⟩ u).cell? ⟨wr.heap.size, 2, none⟩ = some (.int .i64 e0) ∧ (w'.setCell ⟨w1.heap.size, k, none⟩ u).cell? ⟨wr.heap.size, 3, none⟩ = some (.int .i64 g) ∧ (w'.setCell ⟨w1.heap.size, k, none⟩ u).cell? ⟨wr.heap.size, 4, none⟩ = some (.int .i64 (xi : Int)) ∧ (w'.setCell ⟨w1.heap.size, k, none⟩ u).cell? ⟨wr.heap.size, 5, none⟩ = some (.int .i64 (yi : Int)) ∧ (w'.setCell ⟨w1.heap.size, k, none⟩ u).cell? ⟨w1.heap.size, xi, none⟩ = some (.int .u64 (vx : Nat)) ∧ (w'.setCell ⟨w1.heap.size, k, none⟩ u).cell? ⟨w1.heap.size, yi, none⟩ = some (.int .u64 (vy : Nat))) := Lib.hid fun w' u h => by
                obtain ⟨a0, a1, a2, a3, a4, a5, a6, a7, a8, a9, a10⟩ := HSS.out w' h
                exact ⟨(World.cell?_setCell_far _ _ _ _ (show w1.heap.size ≠ w.heap.size by omega)).trans a0, (World.cell?_setCell_far _ _ _ _ (show w1.heap.size ≠ w.heap.size by omega)).trans a1, (World.cell?_setCell_far _ _ _ _ (show w1.heap.size ≠ w.heap.size by omega)).trans a2, (World.cell?_setCell_far _ _ _ _ (show w1.heap.size ≠ wr.heap.size by omega)).trans a3, (World.cell?_setCell_far _ _ _ _ (show w1.heap.size ≠ wr.heap.size by omega)).trans a4, (World.cell?_setCell_far _ _ _ _ (show w1.heap.size ≠ wr.heap.size by omega)).trans a5, (World.cell?_setCell_far _ _ _ _ (show w1.heap.size ≠ wr.heap.size by omega)).trans a6, (World.cell?_setCell_far _ _ _ _ (show w1.heap.size ≠ wr.heap.size by omega)).trans a7, (World.cell?_setCell_far _ _ _ _ (show w1.heap.size ≠ wr.heap.size by omega)).trans a8, (World.cell?_setCell_other _ _ _ _ (fun e => by simp only [Addr.mk.injEq] at e; omega)).trans a9, (World.cell?_setCell_other _ _ _ _ (fun e => by simp only [Addr.mk.injEq] at e; omega)).trans a10⟩
              have HSU : Hid (∀ (w' : World) (u u' : Value), Keep NoF W3 w' → ((w'.setCell ⟨w1.heap.size, k, none⟩ u).setCell ⟨w1.heap.size + 1, k, none⟩ u').cell? ⟨w.heap.size, 0, none⟩ = some (.int .i64 M.W) ∧ ((w'.setCell ⟨w1.heap.size, k, none⟩ u).setCell ⟨w1.heap.size + 1, k, none⟩ u').cell? ⟨w.heap.size, 1, none⟩ = some (.slice va M.V.length cv) ∧ ((w'.setCell ⟨w1.heap.size, k, none⟩ u).setCell ⟨w1.heap.size + 1, k, none⟩ u').cell? ⟨w.heap.size, 2, none⟩ = some (.slice ra M.R.length cr) ∧ ((w'.setCell ⟨w1.heap.size, k, none⟩ u).setCell ⟨w1.heap.size + 1, k, none⟩ u').cell? ⟨wr.heap.size, 0, none⟩ = some (.int .i64 op) ∧ ((w'.setCell ⟨w1.heap.size, k, none⟩ u).setCell ⟨w1.heap.size + 1, k, none⟩ u').cell? ⟨wr.heap.size, 1, none⟩ = some (.int .i64 i) ∧ ((w'.setCell ⟨w1.heap.size, k, none⟩ u).setCell ⟨w1.heap.size + 1, k, none⟩ u').cell? ⟨wr.heap.size, 2, none⟩ = some (.int .i64 e0) ∧ ((w'.setCell ⟨w1.heap.size, k, none⟩ u).setCell ⟨w1.heap.size + 1, k, none⟩ u').cell? ⟨wr.heap.size, 3, none⟩ = some (.int .i64 g) ∧ ((w'.setCell ⟨w1.heap.size, k, none⟩ u).setCell ⟨w1.heap.size + 1, k, none⟩ u').cell? ⟨wr.heap.size, 4, none⟩ = some (.int .i64 (xi : Int)) ∧ ((w'.setCell ⟨w1.heap.size, k, none⟩ u).setCell ⟨w1.heap.size + 1, k, none⟩ u').cell? ⟨wr.heap.size, 5, none⟩ = some (.int .i64 (yi : Int)) ∧ ((w'.setCell ⟨w1.heap.size, k, none⟩ u).setCell ⟨w1.heap.size + 1, k, none⟩ u').cell? ⟨w1.heap.size, xi, none⟩ = some (.int .u64 (vx : Nat)) ∧ ((w'.setCell ⟨w1.heap.size, k, none⟩ u).setCell ⟨w1.heap.size + 1, k, none⟩ u').cell? ⟨w1.heap.size, yi, none⟩ = some (.int .u64 (vy : Nat))) := Lib.hid fun w' u u' h => by
                obtain ⟨a0, a1, a2, a3, a4, a5, a6, a7, a8, a9, a10⟩ := HST.out w' u h
                exact ⟨(World.cell?_setCell_far _ _ _ _ (show w1.heap.size + 1 ≠ w.heap.size by omega)).trans a0, (World.cell?_setCell_far _ _ _ _ (show w1.heap.size + 1 ≠ w.heap.size by omega)).trans a1, (World.cell?_setCell_far _ _ _ _ (show w1.heap.size + 1 ≠ w.heap.size by omega)).trans a2, (World.cell?_setCell_far _ _ _ _ (show w1.heap.size + 1 ≠ wr.heap.size by omega)).trans a3, (World.cell?_setCell_far _ _ _ _ (show w1.heap.size + 1 ≠ wr.heap.size by omega)).trans a4, (World.cell?_setCell_far _ _ _ _ (show w1.heap.size + 1 ≠ wr.heap.size by omega)).trans a5, (World.cell?_setCell_far _ _ _ _ (show w1.heap.size + 1 ≠ wr.heap.size by omega)).trans a6, (World.cell?_setCell_far _ _ _ _ (show w1.heap.size + 1 ≠ wr.heap.size by omega)).trans a7, (World.cell?_setCell_far _ _ _ _ (show w1.heap.size + 1 ≠ wr.heap.size by omega)).trans a8, (World.cell?_setCell_far _ _ _ _ (show w1.heap.size + 1 ≠ w1.heap.size by omega)).trans a9, (World.cell?_setCell_far _ _ _ _ (show w1.heap.size + 1 ≠ w1.heap.size by omega)).trans a10⟩
              have K0 : Keep NoF W3 W3.drew := (Keep.refl _ _).drew
              clear m0 m1 m2 r0 r1 r2 r3 r4 r5 q2x q2y
              go_region_held3 (fun w' => w'.cell? ⟨w.heap.size, 0, none⟩ = some (.int .i64 M.W) ∧ w'.cell? ⟨w.heap.size, 1, none⟩ = some (.slice va M.V.length cv) ∧ w'.cell? ⟨w.heap.size, 2, none⟩ = some (.slice ra M.R.length cr) ∧ w'.cell? ⟨wr.heap.size, 0, none⟩ = some (.int .i64 op) ∧ w'.cell? ⟨wr.heap.size, 1, none⟩ = some (.int .i64 i) ∧ w'.cell? ⟨wr.heap.size, 2, none⟩ = some (.int .i64 e0) ∧ w'.cell? ⟨wr.heap.size, 3, none⟩ = some (.int .i64 g) ∧ w'.cell? ⟨wr.heap.size, 4, none⟩ = some (.int .i64 (xi : Int)) ∧ w'.cell? ⟨wr.heap.size, 5, none⟩ = some (.int .i64 (yi : Int)) ∧ w'.cell? ⟨w1.heap.size, xi, none⟩ = some (.int .u64 (vx : Nat)) ∧ w'.cell? ⟨w1.heap.size, yi, none⟩ = some (.int .u64 (vy : Nat)))
                (first
                  | with_reducible exact HSS.out _ K0
                  | with_reducible exact HSS.out _ k4
                  | with_reducible exact HST.out _ _ k4
                  | with_reducible exact HSU.out _ _ _ k4)
                (first
                  | (go_at_call 16
                     (first | (with_reducible refine (HVN.out _).mono ?_) | (with_reducible refine HVD.out.mono ?_))
                     rintro e w4 ⟨rfl, k40⟩
                     have k4 : Keep NoF W3 w4 := (by first | exact k40.undrewN | exact k40.undrew)
                     clear k40
                     have d1 := k4.cellv q1k fun h => h
                     have d2 := k4.cellv q2k fun h => h
                     have g1 : w4.frozen? ⟨w1.heap.size, k, none⟩ = false := (HQ1.out.keep k4 fun h => h).frozen k
                     have g2 : w4.frozen? ⟨w1.heap.size + 1, k, none⟩ = false := (HQ2.out.keep k4 fun h => h).frozen k
                     have HQ14 := Lib.hid (HQ1.out.keep k4 fun h => h)
                     have HQ24 := Lib.hid (HQ2.out.keep k4 fun h => h)
                     have HK4 := Lib.hid k4))
              all_goals
                go_wp2
                go_roundw
                case rel =>
                  refine ⟨k + 1, by go_num, by omega, by rw [HSV.out.1]; exact set_bk ((HQ14.out.put k _).far (by show w1.heap.size ≠ w1.heap.size + 1; omega) _), by rw [HSV.out.2]; exact set_bk ((HQ24.out.far (by show w1.heap.size + 1 ≠ w1.heap.size; omega) _).put k _), ?_⟩
                  exact ((HKA.out.trans HK4.out fun _ _ h => h).setCell (.inr (Nat.le_refl _)) _).setCell (.inr (by show w1.heap.size ≤ w1.heap.size + 1; omega)) _
                case measure => simp only [intOf]; omega
    · obtain rfl : k = f.length := by omega
      have l1 : ¬ (f.length : Int) < (f.length : Int) := by omega
      rw [HFIN.out] at hb1
      have HB1 := Lib.hid hb1
      clear hb1 hb2
      go_wp2
      refine bodyPost_ret (v := .tuple #[.slice (some ⟨w1.heap.size, 0, none⟩) f.length f.length, .int .i64 0]) (by simp [results, Try.results8, go_sem]) rfl ?_
      exact ⟨w1.heap.size, rfl, hz1, HB1.out, HK1.out.trans hkw fun _ _ h => h⟩
end
end Go.Proofs.Ytmjdbbfoihadoaa
