/- What the law's build does, continued: the step of its closure, and the whole. No condition. -/
import Derived.Test.YtengdldkkmknpaaBuild
set_option linter.unusedVariables false
set_option linter.unusedSimpArgs false
namespace Go.Proofs.Ytengdldkkmknpaa
open Go.RowKit
open Dd (Rn rat ofN toN checkErr den lo var Within Valid)

theorem BPost.out {w : World} {V : Nat} {f : BF} {e : Ending} {w' : World} (h : BPost w V f e w') : BPost w V f e w' := h

set_option maxRecDepth 100000 in
set_option maxHeartbeats 2000000 in
theorem rise_step {w : World} {vb ab rb tb gb go cap V t : Nat} (h : BCap w vb ab rb tb gb go cap V t) (hV : V ≤ 6) (lv a : Nat) (hlv : lv < V) (ha : a < 2 ^ lv) (f0 f1 : BF)
    (IH : ∀ W, Keep NoF w W → Calls Try.prog 75 #[.int .i64 ((lv : Int) + 1), .int .i64 a, .pointer (some ⟨vb, 0, none⟩), .pointer (some ⟨ab, 0, none⟩), .pointer (some ⟨rb, 0, none⟩)] W (BPost W V f0))
    (IH1 : ∀ W, Keep NoF w W → Calls Try.prog 75 #[.int .i64 ((lv : Int) + 1), .int .i64 ((a : Int) + 2 ^ lv), .pointer (some ⟨vb, 0, none⟩), .pointer (some ⟨ab, 0, none⟩), .pointer (some ⟨rb, 0, none⟩)] W (BPost W V f1)) :
    Calls Try.prog 75 #[.int .i64 lv, .int .i64 a, .pointer (some ⟨vb, 0, none⟩), .pointer (some ⟨ab, 0, none⟩), .pointer (some ⟨rb, 0, none⟩)] w (BPost w V fun ρ => if ρ lv then f1 ρ else f0 ρ) := by
  have HL := Lib.hid IH
  have HH := Lib.hid IH1
  clear IH IH1
  have hp : 2 ^ lv ≤ 2 ^ 5 := Nat.pow_le_pow_right (by omega) (by omega)
  have ha2 : a < 32 := by omega
  have HV := Lib.hid fun (W : World) => d_var V lv (by omega) hlv W
  have hv := h.v
  have hr := h.r
  have hbv : vb < w.heap.size := World.block_lt_of_cell? w _ hv
  have hbr : rb < w.heap.size := World.block_lt_of_cell? w _ hr
  have e0 : ((lv : Int) == (V : Int)) = false := by simp; omega
  go_enter Try.func75, Try.ntmps75
  go_upto_region 4 with (fail)
  have hk0 : Keep NoF w (w.alloc (.cells #[.int .i64 0, .slice none 0 0, .int .i64 0] 24)) := (Keep.refl _ _).alloc _
  have hb0 := Bk.new w 24 #[.int .i64 0, .slice none 0 0, .int .i64 0]
  have x0 := hk0.cellv hv (fun h => h)
  have x1 := hk0.cellv hr (fun h => h)
  have hls : w.heap.size < (w.alloc (.cells #[.int .i64 0, .slice none 0 0, .int .i64 0] 24)).heap.size := by simp
  clear hv hr
  generalize w.alloc (.cells #[.int .i64 0, .slice none 0 0, .int .i64 0] 24) = W0 at *
  go_upto_region 5 with (go_at_call 36
                         (with_reducible refine (HV.out _).mono ?_)
                         rintro e w1 ⟨A1, n1, c1, r1, rfl, hd1, hk1, hf1⟩)
  have k1 : Keep NoF W0 (w1.alloc (.cells #[.int .i64 V, .slice A1 n1 c1, .int .i64 r1] 24)) := hk1.alloc _
  have v1 := Bk.new w1 24 #[.int .i64 V, .slice A1 n1 c1, .int .i64 r1]
  have D1 := hd1.keep (((Keep.refl NoF w1).alloc (.cells #[.int .i64 V, .slice A1 n1 c1, .int .i64 r1] 24)))
  have y1 := k1.cellv x1 (fun h => h)
  have kw1 := hk0.trans k1 fun _ _ h => h
  have l1 : w1.heap.size < (w1.alloc (.cells #[.int .i64 V, .slice A1 n1 c1, .int .i64 r1] 24)).heap.size := by simp
  have hw01 := hk1.size
  clear hd1
  generalize w1.alloc (.cells #[.int .i64 V, .slice A1 n1 c1, .int .i64 r1] 24) = W1 at *
  go_upto_region 6 with (go_at_call 75
                         (with_reducible refine (HL.out W1 kw1).mono ?_)
                         rintro e w2 ⟨A2, n2, c2, r2, rfl, hd2, hk2, hf2⟩)
  have k2 : Keep NoF W1 (w2.alloc (.cells #[.int .i64 V, .slice A2 n2 c2, .int .i64 r2] 24)) := hk2.alloc _
  have v2 := Bk.new w2 24 #[.int .i64 V, .slice A2 n2 c2, .int .i64 r2]
  have D2 := hd2.keep (((Keep.refl NoF w2).alloc (.cells #[.int .i64 V, .slice A2 n2 c2, .int .i64 r2] 24)))
  have z1 := k2.cellv y1 (fun h => h)
  have kw2 := kw1.trans k2 fun _ _ h => h
  have l2 : w2.heap.size < (w2.alloc (.cells #[.int .i64 V, .slice A2 n2 c2, .int .i64 r2] 24)).heap.size := by simp
  have hw12 := hk2.size
  clear hd2
  generalize w2.alloc (.cells #[.int .i64 V, .slice A2 n2 c2, .int .i64 r2] 24) = W2 at *
  have hp2 : (2 : Int) ^ lv ≤ 32 := by
    have e : (2 : Int) ^ lv = ((2 ^ lv : Nat) : Int) := by norm_cast
    rw [e]; omega
  have hp3 : (0 : Int) ≤ (2 : Int) ^ lv := Int.le_of_lt (Int.pow_pos (by omega))
  have E1 : IntKind.i64.wrap ((lv : Int) + 1) = (lv : Int) + 1 := IntWalk.i64_in _ (by omega)
  have E2 : IntKind.i64.wrap ((2 : Int) ^ lv) = (2 : Int) ^ lv := IntWalk.i64_in _ (by omega)
  have E3 : IntKind.i64.wrap ((a : Int) + (2 : Int) ^ lv) = (a : Int) + (2 : Int) ^ lv := IntWalk.i64_in _ (by omega)
  have xa1 : ∀ o, (W2.alloc o).drew.cell? ⟨rb, 0, none⟩ = some (.func (.func 75) #[] #[.pointer (some ⟨vb, 0, none⟩), .pointer (some ⟨ab, 0, none⟩), .pointer (some ⟨rb, 0, none⟩)]) := fun o => ((Keep.refl NoF W2).alloc o).cellv z1 (fun h => h)
  have xd1 : W2.drew.cell? ⟨rb, 0, none⟩ = some (.func (.func 75) #[] #[.pointer (some ⟨vb, 0, none⟩), .pointer (some ⟨ab, 0, none⟩), .pointer (some ⟨rb, 0, none⟩)]) := z1
  have abk0 : Bk (W2.alloc (.cells #[.int .i64 0, .slice none 0 0, .int .i64 0] 24)).drew W2.heap.size 24 #[.int .i64 0, .slice none 0 0, .int .i64 0] := Bk.drew (Bk.new W2 _ _)
  have hbr2 : rb < W2.heap.size := Nat.lt_of_lt_of_le hbr kw2.size
  go_cut [15, 16] (fun v15 v16 wc => ∃ (cb n c : Nat) (A : Option Addr) (r : Nat), v15 = .pointer (some ⟨cb, 0, none⟩) ∧ v16 = .bool true ∧ Bk wc cb 24 #[.int .i64 V, .slice A n c, .int .i64 r] ∧ IsD wc V f1 A n c r ∧ Keep NoF W2 wc)
  case first =>
    go_region_held3 (fun w' => w'.cell? ⟨rb, 0, none⟩ = some (.func (.func 75) #[] #[.pointer (some ⟨vb, 0, none⟩), .pointer (some ⟨ab, 0, none⟩), .pointer (some ⟨rb, 0, none⟩)]))
      (first
        | with_reducible exact xd1
        | with_reducible exact xa1 _
        | with_reducible exact u1
        | with_reducible exact ua1 _
        | (exact Keep.cellv (keep_set3 _ W2.heap.size _ _ _) (by first | assumption | exact ua1 _) (by simp <;> omega)))
      (first
        | (go_at_call 75
           have akk := abk0
           (with_reducible refine (HH.out (W2.alloc _).drew (kw2.alloc _).drew).mono ?_)
           rintro e w4 ⟨A, n, c, r, rfl, hd4, hk4, hf4⟩
           have k4 : Keep NoF W2 w4 := ((Keep.refl _ _).alloc _).drew.trans hk4 fun _ _ h => h
           have u1 : w4.cell? ⟨rb, 0, none⟩ = some (.func (.func 75) #[] #[.pointer (some ⟨vb, 0, none⟩), .pointer (some ⟨ab, 0, none⟩), .pointer (some ⟨rb, 0, none⟩)]) := k4.cellv z1 (fun h => h)
           have bbk : Bk w4 W2.heap.size 24 #[.int .i64 0, .slice none 0 0, .int .i64 0] := akk.keep hk4 (fun h => h)
           have g0 : w4.cell? ⟨W2.heap.size, 0, none⟩ = some (.int .i64 0) := bbk.cell 0
           have g1 : w4.cell? ⟨W2.heap.size, 1, none⟩ = some (.slice none 0 0) := bbk.cell 1
           have g2 : w4.cell? ⟨W2.heap.size, 2, none⟩ = some (.int .i64 0) := bbk.cell 2
           have gf0 := bbk.frozen 0
           have gf1 := bbk.frozen 1
           have gf2 := bbk.frozen 2)
        | (go_at_call 75
           (with_reducible refine (HH.out W2.drew kw2.drew).mono ?_)
           rintro e w4 ⟨A, n, c, r, rfl, hd4, hk4, hf4⟩
           have k4 : Keep NoF W2 w4 := (Keep.refl NoF W2).drew.trans hk4 fun _ _ h => h
           have u1 : w4.cell? ⟨rb, 0, none⟩ = some (.func (.func 75) #[] #[.pointer (some ⟨vb, 0, none⟩), .pointer (some ⟨ab, 0, none⟩), .pointer (some ⟨rb, 0, none⟩)]) := k4.cellv z1 (fun h => h)
           have ua1 : ∀ o, (w4.alloc o).cell? ⟨rb, 0, none⟩ = some (.func (.func 75) #[] #[.pointer (some ⟨vb, 0, none⟩), .pointer (some ⟨ab, 0, none⟩), .pointer (some ⟨rb, 0, none⟩)]) := fun o => ((Keep.refl NoF w4).alloc o).cellv u1 (fun h => h)))
    all_goals clear E1 E2 E3
    all_goals go_wp2
    all_goals go_meet
    all_goals
      case rel =>
        first
        | exact ⟨w4.heap.size, n, c, A, r, rfl, rfl, Bk.new _ _ _, hd4.keep ((Keep.refl _ _).alloc _), k4.alloc _⟩
        | (have hs0 : W2.heap.size < (W2.alloc (.cells #[.int .i64 0, .slice none 0 0, .int .i64 0] 24)).drew.heap.size := by simp
           exact ⟨W2.heap.size, n, c, A, r, rfl, rfl, ((bbk.put 0 _).put 1 _).put 2 _, hd4.set3 (fun k hk => by have := hf4 k hk; omega) _ _ _, k4.set3 (Nat.le_refl _) _ _ _⟩)
  case rest =>
    obtain ⟨cb, n3, c3, A3, r3, rfl, rfl, v3, D3, k3⟩ := hcut
    obtain ⟨wa, rfl⟩ : ∃ wa : World, wa = wc := ⟨_, rfl⟩
    clear E1 E2 E3 xa1 xd1 abk0
    have D1a := (D1.keep k2).keep k3
    have D2a := D2.keep k3
    have v1a := (v1.keep k2 (fun h => h)).keep k3 (fun h => h)
    have v2a := v2.keep k3 (fun h => h)
    have p10 : wa.cell? ⟨w1.heap.size, 0, none⟩ = some (.int .i64 V) := v1a.cell 0
    have p11 : wa.cell? ⟨w1.heap.size, 1, none⟩ = some (.slice A1 n1 c1) := v1a.cell 1
    have p12 : wa.cell? ⟨w1.heap.size, 2, none⟩ = some (.int .i64 r1) := v1a.cell 2
    have p20 : wa.cell? ⟨w2.heap.size, 0, none⟩ = some (.int .i64 V) := v2a.cell 0
    have p21 : wa.cell? ⟨w2.heap.size, 1, none⟩ = some (.slice A2 n2 c2) := v2a.cell 1
    have p22 : wa.cell? ⟨w2.heap.size, 2, none⟩ = some (.int .i64 r2) := v2a.cell 2
    have p30 : wa.cell? ⟨cb, 0, none⟩ = some (.int .i64 V) := v3.cell 0
    have p31 : wa.cell? ⟨cb, 1, none⟩ = some (.slice A3 n3 c3) := v3.cell 1
    have p32 : wa.cell? ⟨cb, 2, none⟩ = some (.int .i64 r3) := v3.cell 2
    have kwa : Keep NoF W0 wa := (k1.trans k2 fun _ _ h => h).trans k3 fun _ _ h => h
    have HI := Lib.hid (d_ite (w := wa) (by omega) D1a D3 D2a)
    have hb2 := hb0.keep kwa (fun h => h)
    clear x0 x1 y1 z1 v1 v2 v1a v2a v3 D1 D2 D3 D1a D2a
    go_wp2_with (go_at_call 32
                 (with_reducible refine HI.out.mono ?_)
                 rintro e w5 ⟨A, n, c, r, rfl, hd5, hk5, hf5⟩
                 have hb5 := hb2.keep hk5 (fun h => h)
                 have t0 : w5.cell? ⟨w.heap.size, 0, none⟩ = some (.int .i64 0) := hb5.cell 0
                 have t1 : w5.cell? ⟨w.heap.size, 1, none⟩ = some (.slice none 0 0) := hb5.cell 1
                 have t2 : w5.cell? ⟨w.heap.size, 2, none⟩ = some (.int .i64 0) := hb5.cell 2
                 have hl5 : w.heap.size < w5.heap.size := hb5.lt
                 have f0 := hb5.frozen 0
                 have f1 := hb5.frozen 1
                 have f2 := hb5.frozen 2)
    have hkf : Keep NoF w ((((w5.setCell ⟨w.heap.size, 0, none⟩ (.int .i64 V)).setCell ⟨w.heap.size, 1, none⟩ (.slice A n c)).setCell ⟨w.heap.size, 2, none⟩ (.int .i64 r)).alloc (.cells #[.int .i64 V, .slice A n c, .int .i64 r] 24)) := (((hk0.trans kwa fun _ _ h => h).trans hk5 fun _ _ h => h).set3 (Nat.le_refl _) _ _ _).alloc _
    have hw05 := kwa.size
    have hx := (((hb5.put 0 (.int .i64 V)).put 1 (.slice A n c)).put 2 (.int .i64 r)).alloc (.cells #[.int .i64 V, .slice A n c, .int .i64 r] 24)
    have hd6 := (hd5.set3 (b := w.heap.size) (fun k hk => by have := hf5 k hk; omega) (.int .i64 V) (.slice A n c) (.int .i64 r)).keep ((Keep.refl NoF _).alloc (.cells #[.int .i64 V, .slice A n c, .int .i64 r] 24))
    generalize (((w5.setCell ⟨w.heap.size, 0, none⟩ (.int .i64 V)).setCell ⟨w.heap.size, 1, none⟩ (.slice A n c)).setCell ⟨w.heap.size, 2, none⟩ (.int .i64 r)).alloc (.cells #[.int .i64 V, .slice A n c, .int .i64 r] 24) = W6 at *
    have hx0 : W6.cell? ⟨w.heap.size, 0, none⟩ = some (.int .i64 V) := hx.cell 0
    have hx1 : W6.cell? ⟨w.heap.size, 1, none⟩ = some (.slice A n c) := hx.cell 1
    have hx2 : W6.cell? ⟨w.heap.size, 2, none⟩ = some (.int .i64 r) := hx.cell 2
    refine bodyPost_ret (v := .tuple #[.agg #[.int .i64 V, .slice A n c, .int .i64 r], .bool true]) (by simp [results, Try.results75, go_sem, hx0, hx1, hx2]) rfl ?_
    exact ⟨A, n, c, r, rfl, hd6, hkf, fun k hk => by have := hf5 k hk; omega⟩

theorem rise_any (vb ab rb tb gb go cap V t : Nat) (ht : t < 18446744073709551616) (hV : V ≤ 6) : ∀ (d lv a : Nat) (w : World), V = lv + d → a < 2 ^ lv → BCap w vb ab rb tb gb go cap V t →
    Calls Try.prog 75 #[.int .i64 lv, .int .i64 a, .pointer (some ⟨vb, 0, none⟩), .pointer (some ⟨ab, 0, none⟩), .pointer (some ⟨rb, 0, none⟩)] w (BPost w V (tf t d lv a)) := by
  intro d
  induction d with
  | zero =>
    intro lv a w hd ha h
    have e : lv = V := by omega
    subst e
    have : 2 ^ lv ≤ 2 ^ 6 := Nat.pow_le_pow_right (by omega) hV
    exact rise_const h ht hV a (by omega)
  | succ d ih =>
    intro lv a w hd ha h
    refine rise_step h hV lv a (by omega) ha (tf t d (lv + 1) a) (tf t d (lv + 1) (a + 2 ^ lv)) (fun W hk => ?_) (fun W hk => ?_)
    · exact ih (lv + 1) a W (by omega) (by rw [Nat.pow_succ]; omega) (h.keep hk)
    · have := ih (lv + 1) (a + 2 ^ lv) W (by omega) (by rw [Nat.pow_succ]; omega) (h.keep hk)
      have e : ((a + 2 ^ lv : Nat) : Int) = (a : Int) + 2 ^ lv := by push_cast; rfl
      rw [e] at this
      exact this

end Go.Proofs.Ytengdldkkmknpaa
