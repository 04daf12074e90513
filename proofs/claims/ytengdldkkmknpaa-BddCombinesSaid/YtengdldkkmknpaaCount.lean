/- What Count does. No condition. -/
import Derived.Test.YtengdldkkmknpaaEval
import Derived.Outline
set_option linter.unusedVariables false
set_option linter.unusedSimpArgs false
namespace Go.Proofs.Ytengdldkkmknpaa
open Go.RowKit
open Dd (Rn rat ofN toN checkErr den lo var vr cn cns)

def countD (a : Dg) : Nat := if a.err = 0 then cn a.V.toNat (toN a.R) a.root.toNat else 0

theorem shl_fits (c v y u : Nat) (hu : u < y) (hy : y ≤ v) (hv : v ≤ 24) (hc : c ≤ 2 ^ (v - y)) : c * 2 ^ (y - u - 1) ≤ 16777216 := by
  have h : 2 ^ (v - y) * 2 ^ (y - u - 1) ≤ 2 ^ 24 := by rw [← Nat.pow_add]; exact Nat.pow_le_pow_right (by omega) (by omega)
  exact Nat.le_trans (Nat.mul_le_mul_right _ hc) h
theorem shl_wrap (c m : Nat) (h : c * 2 ^ m ≤ 16777216) : wrap64 ((c : Int) * 2 ^ m) = ((c * 2 ^ m : Nat) : Int) := by
  have e : (c : Int) * 2 ^ m = ((c * 2 ^ m : Nat) : Int) := by push_cast; rfl
  rw [e]
  clear e
  generalize c * 2 ^ m = q at *
  unfold wrap64
  omega

set_option maxRecDepth 100000 in
set_option maxHeartbeats 400000 in
theorem Count1_any (b V : Nat) (M : List Nd) (A : Option Addr) (c i : Nat) (w : World) (hi : i < M.length + 2) (hM : M.length ≤ 4096) (h0 : w.cell? ⟨b, 0, none⟩ = some (.int .i64 V)) (h1 : w.cell? ⟨b, 1, none⟩ = some (.slice A M.length c)) (hrd : Rd w (.slice A M.length c) 3 M.length (ndsC M)) :
    Calls Try.prog 60 #[.int .i64 i, .pointer (some ⟨b, 0, none⟩)] w fun e w' => e = .returned (.int .i64 (vr V M i)) ∧ w' = w := by
  by_cases h2 : i < 2
  · have hv : vr V M i = V := by simp [vr, h2]
    rw [hv]
    go_enter Try.func60, Try.ntmps60
    go_wp2
    go_ret
    exact ⟨rfl, rfl⟩
  · obtain ⟨bl, off, rfl, _, y1, y2, y3⟩ := hrd.num (i := i) (by omega) hi
    have hv : vr V M i = var M i := by simp [vr, h2]
    rw [hv]
    clear hv y2 y3
    obtain ⟨j, rfl⟩ : ∃ j, i = j + 2 := ⟨i - 2, by omega⟩
    simp only [Nat.add_sub_cancel] at y1
    generalize var M (j + 2) = u at *
    have hj : j < M.length := by omega
    go_enter Try.func60, Try.ntmps60
    go_wp2
    go_ret
    exact ⟨rfl, rfl⟩

set_option maxRecDepth 100000 in
set_option maxHeartbeats 2000000 in
theorem Count_any (a : Dg) (w : World) (ha : a.In w) : Calls Try.prog 19 #[a.val] w fun e w' => e = .returned (.int .i64 (countD a : Nat)) ∧ Keep NoF w w' := by
  have hck := fun (w1 : World) (hk : Keep NoF w w1) => check_any a.V a.R a.root a.sl w1 ha.2 (ha.1.kept hk fun _ _ h => h)
  have hcke : checkErr a.V a.R a.root = a.err := rfl
  rw [hcke] at hck
  have hval : a.err = 0 → ∃ (v : Nat) (M : List Nd) (r : Nat), a.V = v ∧ a.R = ofN M ∧ a.root = r ∧ Dd.Valid v M r := fun h => Dd.valid_of h
  have HE : Hid (a.err ≠ 0 → countD a = 0) := Lib.hid fun h => if_neg h
  have HE0 : Hid (a.err = 0 → countD a = cn a.V.toNat (toN a.R) a.root.toNat) := Lib.hid fun h => if_pos h
  have ha1 := ha.1
  obtain ⟨V1, R1, r1, s1⟩ := a
  simp only at ha1 hck hval HE0
  have ha2 := ha1
  obtain ⟨_, A1, c1, rfl, _, _⟩ := ha2
  show Calls Try.prog 19 #[.agg #[.int .i64 V1, .slice A1 R1.length c1, .int .i64 r1]] w _
  clear ha hcke
  generalize countD ⟨V1, R1, r1, .slice A1 R1.length c1⟩ = ev at *
  generalize Dg.err ⟨V1, R1, r1, .slice A1 R1.length c1⟩ = ae at *
  have hk0 : Keep NoF w (w.alloc (.cells #[.int .i64 V1, .slice A1 R1.length c1, .int .i64 r1] 24)) := (Keep.refl _ _).alloc _
  have hb := Bk.new w 24 #[.int .i64 V1, .slice A1 R1.length c1, .int .i64 r1]
  have HS := Lib.hid (hck _ hk0)
  clear hck
  by_cases h0 : ae = 0
  · obtain ⟨v, M, r, rfl, rfl, rfl, hv⟩ := hval h0
    have hev := HE0.out h0
    rw [Dd.toN_ofN, Int.toNat_natCast, Int.toNat_natCast] at hev
    subst h0
    have HEV := Lib.hid hev
    have HVL := Lib.hid hv
    rw [rnsC_ofN] at ha1
    rw [Dd.ofN_len] at ha1 HS hb hk0
    rw [Dd.ofN_len]
    have hML := hv.len
    have hV24 := hv.vars
    clear HE HE0 hval hev hv
    go_enter Try.func19, Try.ntmps19
    go_wp2_with (go_at_call 15
                 (with_reducible refine HS.out.mono ?_)
                 rintro e w2 ⟨rfl, hk2⟩
                 have hb2 := hb.keep hk2 (fun h => h)
                 have hl2 : w.heap.size < w2.heap.size := hb2.lt
                 have x1 : w2.cell? ⟨w.heap.size, 1, none⟩ = some (.slice A1 M.length c1) := hb2.cell 1)
    have hkw := hk0.trans hk2 fun _ _ h => h
    clear x1 HS hk2 hb hk0
    go_loopw [4, 17] (fun cv i wr => ∃ k : Nat, i = .int .i64 k ∧ k ≤ M.length ∧ ∃ g cap, cv = .slice (some ⟨g, 0, none⟩) (k + 2) cap ∧ wr.ownsRow w2.heap.size 3 1 cv (k + 2) ((cns v M k).map inV) ∧ Keep NoF w2 wr) (fun _ i _ => M.length - (intOf i).toNat)
    case atStart =>
      refine ⟨0, rfl, by omega, w2.heap.size, 2, rfl, ?_, (Keep.refl _ _).alloc _⟩
      refine ⟨rfl, .inr ⟨w2.heap.size, 2, #[.int .i64 0, .int .i64 1], rfl, Nat.le_refl _, heap_alloc_new _ _, by omega, by unfold maxLen; omega, rfl, ?_⟩⟩
      simp [inV, cns]
    case round =>
      obtain ⟨k, rfl, hk, g, cap, rfl, hown, hkr⟩ := hrel
      have hrd := (ha1.kept hkw fun _ _ h => h).kept hkr fun _ _ h => h
      have hb3 := hb2.keep hkr (fun h => h)
      have hg := HVL.out.good
      have hl3 : w.heap.size < wr.heap.size := hb3.lt
      by_cases hlt : k < M.length
      · obtain ⟨bl, off, rfl, _, y1, y2, y3⟩ := hrd.num (i := k + 2) (by omega) (by omega)
        have hcl := Dd.cns_len v M k hk
        have a1 := hg.lo_lt (k + 2) (by omega) (by omega)
        have a2 := hg.hi_lt (k + 2) (by omega) (by omega)
        have hu := HVL.out.bound (k + 2) (by omega) (by omega)
        have v1 := Dd.vr_lt HVL.out.bound (hg.lo_var (k + 2) (by omega) (by omega)) hu (by omega)
        have v2 := Dd.vr_lt HVL.out.bound (hg.hi_var (k + 2) (by omega) (by omega)) hu (by omega)
        have v3 := Dd.vr_le HVL.out.bound (k := lo M (k + 2)) (by omega)
        have v4 := Dd.vr_le HVL.out.bound (k := Dd.hi M (k + 2)) (by omega)
        have r1 : ((cns v M k).map inV)[lo M (k + 2)]? = some (.int .i64 ((cns v M k).getD (lo M (k + 2)) 0 : Nat)) := by simp [List.getD_eq_getElem?_getD, List.getElem?_eq_getElem (show lo M (k + 2) < (cns v M k).length by omega), inV]
        have r2 : ((cns v M k).map inV)[Dd.hi M (k + 2)]? = some (.int .i64 ((cns v M k).getD (Dd.hi M (k + 2)) 0 : Nat)) := by simp [List.getD_eq_getElem?_getD, List.getElem?_eq_getElem (show Dd.hi M (k + 2) < (cns v M k).length by omega), inV]
        have q1 := hown.cells (g := g) rfl _ _ r1
        have q2 := hown.cells (g := g) rfl _ _ r2
        rw [Addr.add_lit] at q1 q2
        simp only [Nat.zero_add] at q1 q2
        have i1 := Dd.cns_le hg HVL.out.bound k hk (lo M (k + 2)) a1
        have i2 := Dd.cns_le hg HVL.out.bound k hk (Dd.hi M (k + 2)) a2
        have hMk : M[k] = (var M (k + 2), lo M (k + 2), Dd.hi M (k + 2)) := by
          have := Dd.node_at (N := M) (i := k + 2) (by omega) (by omega)
          rw [Nat.add_sub_cancel, List.getElem?_eq_getElem hlt] at this
          exact Option.some.inj this
        have hst := Dd.cns_succ v M hlt
        rw [hMk] at hst
        simp only [Dd.cnStep] at hst
        have HST := Lib.hid hst
        have HC1 := fun (W : World) (hkW : Keep NoF wr W) => Count1_any w.heap.size v M (some ⟨bl, off, none⟩) c1 (lo M (k + 2)) W (by omega) hML ((hb3.keep hkW (fun h => h)).cell 0) ((hb3.keep hkW (fun h => h)).cell 1) (hrd.kept hkW fun _ _ h => h)
        have HC2 := fun (W : World) (hkW : Keep NoF wr W) => Count1_any w.heap.size v M (some ⟨bl, off, none⟩) c1 (Dd.hi M (k + 2)) W (by omega) hML ((hb3.keep hkW (fun h => h)).cell 0) ((hb3.keep hkW (fun h => h)).cell 1) (hrd.kept hkW fun _ _ h => h)
        simp only [Nat.add_sub_cancel] at y1 y2 y3
        clear hMk hst r1 r2 hcl hg
        generalize cns v M k = cs at *
        generalize vr v M (lo M (k + 2)) = vl at *
        generalize vr v M (Dd.hi M (k + 2)) = vh at *
        generalize var M (k + 2) = u at *
        generalize lo M (k + 2) = l at *
        generalize Dd.hi M (k + 2) = h at *
        generalize cs.getD l 0 = cl at *
        generalize cs.getD h 0 = ch at *
        have H1 := Lib.hid HC1
        have H2 := Lib.hid HC2
        clear HC1 HC2
        go_upto_region 8 with (fail)
        have hnW := Bk.new wr 63 #[.int .i64 u, .int .i64 l, .int .i64 h]
        have hkW : Keep NoF wr (wr.alloc (.cells #[.int .i64 u, .int .i64 l, .int .i64 h] 63)) := (Keep.refl _ _).alloc _
        have p1 := hkW.cellv q1 (fun h => h)
        have p2 := hkW.cellv q2 (fun h => h)
        have n0 := hnW.cell 0
        have n1 := hnW.cell 1
        have n2 := hnW.cell 2
        simp only [List.getElem?_toArray, List.getElem?_cons_zero, List.getElem?_cons_succ] at n0 n1 n2
        have b1 : (0 : Int) ≤ (l : Int) := by omega
        have b2 : (l : Int) < (k : Int) + 2 := by omega
        have b3 : (0 : Int) ≤ (h : Int) := by omega
        have b4 : (h : Int) < (k : Int) + 2 := by omega
        clear q1 q2 y1 y2 y3
        have hown1 : (wr.alloc (.cells #[.int .i64 u, .int .i64 l, .int .i64 h] 63)).ownsRow w2.heap.size 3 1 (.slice (some ⟨g, 0, none⟩) (k + 2) cap) (k + 2) (cs.map inV) := hown.alloc _
        generalize wr.alloc (.cells #[.int .i64 u, .int .i64 l, .int .i64 h] 63) = W3 at *
        have E1 : IntKind.i64.wrap ((vl : Int) - u) = (vl : Int) - u := IntWalk.i64_in _ (by omega)
        have E2 : IntKind.i64.wrap ((vl : Int) - u - 1) = ((vl - u - 1 : Nat) : Int) := by rw [IntWalk.i64_in _ (by omega)]; omega
        go_quiet ((go_at_call 60; exact Calls.quiet_of_same (H1.out _ (hkW.drewN _))))
        clear E1 E2
        have HF1 := shl_fits cl v vl u v1 v3 hV24 i1
        have HF2 := shl_fits ch v vh u v2 v4 hV24 i2
        rw [shl_wrap _ _ HF1]
        generalize cl * 2 ^ (vl - u - 1) = xl at *
        have hkW4 : Keep NoF wr (W3.drewN nq) := hkW.drewN nq
        have hown4 : (W3.drewN nq).ownsRow w2.heap.size 3 1 (.slice (some ⟨g, 0, none⟩) (k + 2) cap) (k + 2) (cs.map inV) := hown1
        have p3 : (W3.drewN nq).cell? ⟨g, h, none⟩ = some (.int .i64 ch) := p2
        have m0 : (W3.drewN nq).cell? ⟨wr.heap.size, 0, none⟩ = some (.int .i64 u) := n0
        have m2 : (W3.drewN nq).cell? ⟨wr.heap.size, 2, none⟩ = some (.int .i64 h) := n2
        clear hown1 p1 p2 n0 n1 n2 hkW
        generalize W3.drewN nq = W4 at *
        clear nq
        go_wp2
        have E1 : IntKind.i64.wrap ((vh : Int) - u) = (vh : Int) - u := IntWalk.i64_in _ (by omega)
        have E2 : IntKind.i64.wrap ((vh : Int) - u - 1) = ((vh - u - 1 : Nat) : Int) := by rw [IntWalk.i64_in _ (by omega)]; omega
        go_quiet ((go_at_call 60; exact Calls.quiet_of_same (H2.out _ (hkW4.drewN _))))
        clear E1 E2
        rw [shl_wrap _ _ HF2]
        generalize ch * 2 ^ (vh - u - 1) = xh at *
        have hkW5 : Keep NoF wr (W4.drewN nq) := hkW4.drewN _
        have hown5 : (W4.drewN nq).ownsRow w2.heap.size 3 1 (.slice (some ⟨g, 0, none⟩) (k + 2) cap) (k + 2) (cs.map inV) := hown4
        clear hown4 hkW4 m0 m2 p3
        generalize W4.drewN nq = W5 at *
        have hgl := hown5.lt g rfl
        go_wp2_with (at_builtin
                     refine wpList_app (by rfl) eInts (.tmp 49) (.tmp 53) (by rfl) (by rfl) (hown5.alloc _) ⟨W5.heap.size, 0, none⟩ 1 1 [.int .i64 ((xl : Int) + (xh : Int))] (by rfl) (by rfl)
                       (World.news_of_block (cs := #[.int .i64 ((xl : Int) + (xh : Int))]) (t := 3) (fr := (0, 0)) (heap_alloc_new W5 _)) (by simp [Value.oneCell']) (by omega) (by omega) (by omega) (by simp; omega) ?_
                     intro g4 cap4 w4 hown6 hA4)
        go_roundw
        case rel =>
          refine ⟨k + 1, by go_num, by omega, g4, cap4, by rw [show k + 2 + 1 = k + 1 + 2 by omega], ?_, ?_⟩
          · rw [HST.out]
            simpa [inV] using hown6
          · exact (((hkr.trans hkW5 fun _ _ h => h).alloc _).grown hA4.grown fun x hx => .inr (hown5.lt x hx).1)
        case measure => simp [intOf]; omega
      · obtain rfl : k = M.length := by omega
        have hvl := HVL.out
        have hr := hvl.root
        have v3 := Dd.vr_le hvl.bound (k := r) hr
        have hcl := Dd.cns_len v M M.length (Nat.le_refl _)
        have r1 : ((cns v M M.length).map inV)[r]? = some (.int .i64 ((cns v M M.length).getD r 0 : Nat)) := by simp [List.getD_eq_getElem?_getD, List.getElem?_eq_getElem (show r < (cns v M M.length).length by omega), inV]
        have q1 := hown.cells (g := g) rfl _ _ r1
        rw [Addr.add_lit] at q1
        simp only [Nat.zero_add] at q1
        have i1 := Dd.cns_le hg hvl.bound M.length (Nat.le_refl _) r hr
        have hfin : ev = (cns v M M.length).getD r 0 * 2 ^ vr v M r := HEV.out
        have HFIN := Lib.hid hfin
        have H1 := Lib.hid fun (W : World) (hkW : Keep NoF wr W) => Count1_any w.heap.size v M A1 c1 r W (by omega) hML ((hb3.keep hkW (fun h => h)).cell 0) ((hb3.keep hkW (fun h => h)).cell 1) (hrd.kept hkW fun _ _ h => h)
        clear hfin r1 hcl hg hvl
        generalize vr v M r = vl at *
        generalize (cns v M M.length).getD r 0 = cl at *
        have m2 : wr.cell? ⟨w.heap.size, 2, none⟩ = some (.int .i64 r) := hb3.cell 2
        have b1 : (0 : Int) ≤ (r : Int) := by omega
        have b2 : (r : Int) < (M.length : Int) + 2 := by omega
        have HF1 : cl * 2 ^ vl ≤ 16777216 := by
          have h : 2 ^ (v - vl) * 2 ^ vl ≤ 2 ^ 24 := by rw [← Nat.pow_add]; exact Nat.pow_le_pow_right (by omega) (by omega)
          exact Nat.le_trans (Nat.mul_le_mul_right _ i1) h
        go_wp2
        go_quiet ((go_at_call 60; exact Calls.quiet_of_same (H1.out _ ((Keep.refl NoF _).drewN _))))
        rw [shl_wrap _ _ HF1]
        go_wp2
        go_ret
        exact ⟨by rw [HFIN.out]; rfl, (hkw.trans hkr fun _ _ h => h).drewN _⟩
  · have hne : (ae != 0) = true := by simpa using h0
    have hev := HE.out h0
    subst hev
    clear HE0 hval
    go_enter Try.func19, Try.ntmps19
    go_wp2_with (go_at_call 15; (with_reducible refine HS.out.mono ?_); rintro e w2 ⟨rfl, hk2⟩)
    go_ret
    exact ⟨rfl, hk0.trans hk2 fun _ _ h => h⟩
end Go.Proofs.Ytengdldkkmknpaa
