/- What the reference's Compose does. No condition. -/
import Derived.Test.YtengdldkkmknpaaRQu
import Derived.Test.YtengdldkkmknpaaCmpD
set_option linter.unusedVariables false
set_option linter.unusedSimpArgs false
namespace Go.Proofs.Ytengdldkkmknpaa
open Go.RowKit
open Dd (Rn rat ofN toN checkErr den lo var vr mk BOp canon rf Within)

theorem cErr_two (a b : Dg) (i : Int) : cErr a b i = if twoE a b ≠ 0 then twoE a b else if i < 0 ∨ a.V ≤ i then 2 else 0 := by
  unfold cErr twoE dgErr dgErr dgErr
  by_cases h1 : a.err = 0
  · by_cases h2 : b.err = 0
    · by_cases h3 : a.V = b.V <;> simp [h1, h2, h3]
    · simp [h1, h2]
  · simp [h1]
theorem lim_out {w0 W : World} {V : Nat} {f : (Nat → Bool) → Bool} {A : Option Addr} {n c r : Nat} {M : List Dd.Nd} (ho : Opd W V f A n c r M) (hc : canon M r = (r, M)) (hf : ∀ k, (Value.slice A n c).ownBlock = some k → w0.heap.size ≤ k) :
    Calls Try.prog 66 #[.agg #[.int .i64 V, .slice A n c, .int .i64 r]] W fun e w' => (∃ N s, Dd.Good N ∧ s < N.length + 2 ∧ (∀ ρ, den N s ρ = f ρ) ∧ DgRes w0.heap.size V (canon N s) e w') ∧ Keep NoF W w' := by
  have hl := ho.len
  subst hl
  refine (limited_res (H := w0.heap.size) V r M A c W ho.rd hf).mono fun e w' h => ⟨⟨M, r, ho.good, ho.root, ho.den, ?_⟩, h.2⟩
  rw [hc]
  exact h.1

set_option maxRecDepth 100000 in
set_option maxHeartbeats 4000000 in
theorem rCompose_any (a b : Dg) (i : Int) (w : World) (ha : a.In w) (hb : b.In w) : Calls Try.prog 46 #[a.val, .int .i64 i, b.val] w (ErrOr w (cErr a b i) (OpPost w a.V [a, b] (cSem i.toNat))) := by
  have HT := Lib.hid fun (wx : World) (hk : Keep NoF w wx) => two_any a b wx ⟨ha.1.kept hk fun _ _ h => h, ha.2⟩ ⟨hb.1.kept hk fun _ _ h => h, hb.2⟩
  have hce := cErr_two a b i
  by_cases hte : twoE a b = 0
  · rw [if_neg (by simp [hte])] at hce
    rw [hte] at HT
    have hop : opErr a.V [a, b] = 0 := by rw [← twoE_op]; exact hte
    obtain ⟨h1, h2, h3⟩ := two_zero hte
    obtain ⟨v, M1, r1, A1, c1, e1, f1, O1, v1, d1⟩ := opd_of a w ha h1
    obtain ⟨v', M2, r2, A2, c2, e2, f2, O2, v2, d2⟩ := opd_of b w hb h2
    have hvv : v' = v := by rw [e1, e2] at h3; omega
    subst hvv
    have w1' : Within v' a.fn := by rw [← funext d1]; exact Dd.valid_within v1 _ v1.root
    have w2' : Within v' b.fn := by rw [← funext d2]; exact Dd.valid_within v2 _ v2.root
    have HPOST : Hid (∀ e w', (∃ N t, Dd.Good N ∧ t < N.length + 2 ∧ (∀ ρ, den N t ρ = if b.fn ρ then rf i.toNat true a.fn ρ else rf i.toNat false a.fn ρ) ∧ DgRes w.heap.size v' (canon N t) e w') → Keep NoF w w' → OpPost w a.V [a, b] (cSem i.toNat) e w') := Lib.hid fun e w' hh hk => by
      obtain ⟨N, t, g1, g2, g3, g4⟩ := hh
      refine ⟨fun h => absurd hop h, fun _ => ⟨N, t, g1, g2, fun ρ => ?_, by rw [e1]; exact g4⟩, hk⟩
      rw [g3]
      simp [cSem]
    have HP : Hid (∀ e w', (cErr a b i ≠ 0 → e = .returned (.tuple #[dgZero, .int .i64 (cErr a b i)]) ∧ Keep NoF w w') → (cErr a b i = 0 → OpPost w a.V [a, b] (cSem i.toNat) e w') → ErrOr w (cErr a b i) (OpPost w a.V [a, b] (cSem i.toNat)) e w') := Lib.hid fun e w' h1 h2 => ⟨h1, h2⟩
    have hv24 := v1.vars
    generalize ErrOr w (cErr a b i) (OpPost w a.V [a, b] (cSem i.toNat)) = PP at *
    generalize OpPost w a.V [a, b] (cSem i.toNat) = PQ at *
    rw [e1] at hce
    generalize cErr a b i = re at *
    have HRE := Lib.hid hce
    rw [f1, f2] at HT ⊢
    clear hop h1 h2 h3 e1 e2 f1 f2 hte ha hb v1 v2 d1 d2 hce
    generalize a.fn = fa at *
    generalize b.fn = fb at *
    have k1 : Keep NoF w (((w.alloc (.cells #[.int .i64 v', .slice A1 M1.length c1, .int .i64 r1] 24)).alloc (.cells #[.int .i64 v', .slice A2 M2.length c2, .int .i64 r2] 24)).alloc (.cells #[.int .i64 0, .slice none 0 0, .int .i64 0] 24)) := (((Keep.refl _ _).alloc _).alloc _).alloc _
    have qa : Bk (((w.alloc (.cells #[.int .i64 v', .slice A1 M1.length c1, .int .i64 r1] 24)).alloc (.cells #[.int .i64 v', .slice A2 M2.length c2, .int .i64 r2] 24)).alloc (.cells #[.int .i64 0, .slice none 0 0, .int .i64 0] 24)) w.heap.size 24 #[.int .i64 v', .slice A1 M1.length c1, .int .i64 r1] := ((Bk.new' _ _ _ (by simp)).alloc _).alloc _
    have qb : Bk (((w.alloc (.cells #[.int .i64 v', .slice A1 M1.length c1, .int .i64 r1] 24)).alloc (.cells #[.int .i64 v', .slice A2 M2.length c2, .int .i64 r2] 24)).alloc (.cells #[.int .i64 0, .slice none 0 0, .int .i64 0] 24)) (w.heap.size + 1) 24 #[.int .i64 v', .slice A2 M2.length c2, .int .i64 r2] := (Bk.new' _ _ _ (by simp)).alloc _
    have qz : Bk (((w.alloc (.cells #[.int .i64 v', .slice A1 M1.length c1, .int .i64 r1] 24)).alloc (.cells #[.int .i64 v', .slice A2 M2.length c2, .int .i64 r2] 24)).alloc (.cells #[.int .i64 0, .slice none 0 0, .int .i64 0] 24)) (w.heap.size + 1 + 1) 24 #[.int .i64 0, .slice none 0 0, .int .i64 0] := Bk.new' _ _ _ (by simp)
    go_enter Try.func46, Try.ntmps46
    go_upto_region 1 with (fail)
    generalize ((w.alloc (.cells #[.int .i64 v', .slice A1 M1.length c1, .int .i64 r1] 24)).alloc (.cells #[.int .i64 v', .slice A2 M2.length c2, .int .i64 r2] 24)).alloc (.cells #[.int .i64 0, .slice none 0 0, .int .i64 0] 24) = W2 at *
    have a0 : W2.cell? ⟨w.heap.size, 0, none⟩ = some (.int .i64 v') := qa.cell 0
    have a1 : W2.cell? ⟨w.heap.size, 1, none⟩ = some (.slice A1 M1.length c1) := qa.cell 1
    have a2 : W2.cell? ⟨w.heap.size, 2, none⟩ = some (.int .i64 r1) := qa.cell 2
    have a3 : W2.cell? ⟨w.heap.size + 1, 0, none⟩ = some (.int .i64 v') := qb.cell 0
    have a4 : W2.cell? ⟨w.heap.size + 1, 1, none⟩ = some (.slice A2 M2.length c2) := qb.cell 1
    have a5 : W2.cell? ⟨w.heap.size + 1, 2, none⟩ = some (.int .i64 r2) := qb.cell 2
    have HT2 := Lib.hid (HT.out _ k1)
    go_upto_region 2 with (go_at_call 65
                           (with_reducible refine HT2.out.mono ?_)
                           rintro e w4 ⟨rfl, hk4⟩)
    have k4 := k1.trans hk4 fun _ _ h => h
    have qa4 := qa.keep hk4 (fun h => h)
    have qb4 := qb.keep hk4 (fun h => h)
    have qz4 := qz.keep hk4 (fun h => h)
    have g0 : w4.cell? ⟨w.heap.size, 0, none⟩ = some (.int .i64 v') := qa4.cell 0
    have g1 : w4.cell? ⟨w.heap.size, 1, none⟩ = some (.slice A1 M1.length c1) := qa4.cell 1
    have g2 : w4.cell? ⟨w.heap.size, 2, none⟩ = some (.int .i64 r1) := qa4.cell 2
    have g3 : w4.cell? ⟨w.heap.size + 1, 0, none⟩ = some (.int .i64 v') := qb4.cell 0
    have g4 : w4.cell? ⟨w.heap.size + 1, 1, none⟩ = some (.slice A2 M2.length c2) := qb4.cell 1
    have g5 : w4.cell? ⟨w.heap.size + 1, 2, none⟩ = some (.int .i64 r2) := qb4.cell 2
    have hs4 := k4.size
    have hzl := qz4.lt
    clear a0 a1 a2 a3 a4 a5 qa qb qz HT HT2
    by_cases hneg : i < 0
    · have hre : re = 2 := by rw [HRE.out, if_pos (.inl hneg)]
      have HREE := Lib.hid hre
      clear hre
      have z0 : w4.cell? ⟨w.heap.size + 1 + 1, 0, none⟩ = some (.int .i64 0) := qz4.cell 0
      have z1 : w4.cell? ⟨w.heap.size + 1 + 1, 1, none⟩ = some (.slice none 0 0) := qz4.cell 1
      have z2 : w4.cell? ⟨w.heap.size + 1 + 1, 2, none⟩ = some (.int .i64 0) := qz4.cell 2
      have f0 := qz4.frozen 0
      have f1 := qz4.frozen 1
      have f2 := qz4.frozen 2
      go_wp2
      have hx := ((qz4.put 0 (.int .i64 0)).put 1 (.slice none 0 0)).put 2 (.int .i64 0)
      have hkf := k4.set3 (b := w.heap.size + 1 + 1) (by omega) (.int .i64 0) (.slice none 0 0) (.int .i64 0)
      generalize ((w4.setCell ⟨w.heap.size + 1 + 1, 0, none⟩ (.int .i64 0)).setCell ⟨w.heap.size + 1 + 1, 1, none⟩ (.slice none 0 0)).setCell ⟨w.heap.size + 1 + 1, 2, none⟩ (.int .i64 0) = W6 at *
      have hx0 : W6.cell? ⟨w.heap.size + 1 + 1, 0, none⟩ = some (.int .i64 0) := hx.cell 0
      have hx1 : W6.cell? ⟨w.heap.size + 1 + 1, 1, none⟩ = some (.slice none 0 0) := hx.cell 1
      have hx2 : W6.cell? ⟨w.heap.size + 1 + 1, 2, none⟩ = some (.int .i64 0) := hx.cell 2
      refine bodyPost_ret (v := .tuple #[.agg #[.int .i64 0, .slice none 0 0, .int .i64 0], .int .i64 2]) (by simp [results, Try.results46, go_sem, hx0, hx1, hx2]) rfl ?_
      exact HP.out _ _ (fun _ => ⟨by rw [HREE.out]; rfl, hkf⟩) fun h => absurd (HREE.out.symm.trans h) (by omega)
    · by_cases hge : (v' : Int) ≤ i
      · have hre : re = 2 := by rw [HRE.out, if_pos (.inr hge)]
        have HREE := Lib.hid hre
        clear hre
        have z0 : w4.cell? ⟨w.heap.size + 1 + 1, 0, none⟩ = some (.int .i64 0) := qz4.cell 0
        have z1 : w4.cell? ⟨w.heap.size + 1 + 1, 1, none⟩ = some (.slice none 0 0) := qz4.cell 1
        have z2 : w4.cell? ⟨w.heap.size + 1 + 1, 2, none⟩ = some (.int .i64 0) := qz4.cell 2
        have f0 := qz4.frozen 0
        have f1 := qz4.frozen 1
        have f2 := qz4.frozen 2
        go_wp2
        have hx := ((qz4.put 0 (.int .i64 0)).put 1 (.slice none 0 0)).put 2 (.int .i64 0)
        have hkf := k4.set3 (b := w.heap.size + 1 + 1) (by omega) (.int .i64 0) (.slice none 0 0) (.int .i64 0)
        generalize ((w4.setCell ⟨w.heap.size + 1 + 1, 0, none⟩ (.int .i64 0)).setCell ⟨w.heap.size + 1 + 1, 1, none⟩ (.slice none 0 0)).setCell ⟨w.heap.size + 1 + 1, 2, none⟩ (.int .i64 0) = W6 at *
        have hx0 : W6.cell? ⟨w.heap.size + 1 + 1, 0, none⟩ = some (.int .i64 0) := hx.cell 0
        have hx1 : W6.cell? ⟨w.heap.size + 1 + 1, 1, none⟩ = some (.slice none 0 0) := hx.cell 1
        have hx2 : W6.cell? ⟨w.heap.size + 1 + 1, 2, none⟩ = some (.int .i64 0) := hx.cell 2
        refine bodyPost_ret (v := .tuple #[.agg #[.int .i64 0, .slice none 0 0, .int .i64 0], .int .i64 2]) (by simp [results, Try.results46, go_sem, hx0, hx1, hx2]) rfl ?_
        exact HP.out _ _ (fun _ => ⟨by rw [HREE.out]; rfl, hkf⟩) fun h => absurd (HREE.out.symm.trans h) (by omega)
      · have hre : Hid (re = 0) := Lib.hid (by rw [HRE.out, if_neg (by omega)])
        obtain ⟨n, rfl⟩ : ∃ n : Nat, i = n := ⟨i.toNat, by omega⟩
        have hnv : n < v' := by omega
        have kd : Keep NoF w4 w4.drew := (Keep.refl _ _).drew
        have p1 := (O1.keep k4).keep kd
        have p2 := (O2.keep k4).keep kd
        have q1 := qa4.keep kd (fun h => h)
        have q2 := qb4.keep kd (fun h => h)
        have qz := qz4.keep kd (fun h => h)
        have kk0 := k4.trans kd fun _ _ h => h
        have hdz : w4.drew.heap.size = w4.heap.size := rfl
        clear kd
        go_upto_region 6 with (fail)
        go_region_held3 (fun w' => w'.cell? ⟨w.heap.size, 0, none⟩ = some (.int .i64 v') ∧ w'.cell? ⟨w.heap.size, 1, none⟩ = some (.slice A1 M1.length c1) ∧ w'.cell? ⟨w.heap.size, 2, none⟩ = some (.int .i64 r1) ∧ w'.cell? ⟨w.heap.size + 1, 0, none⟩ = some (.int .i64 v') ∧ w'.cell? ⟨w.heap.size + 1, 1, none⟩ = some (.slice A2 M2.length c2) ∧ w'.cell? ⟨w.heap.size + 1, 2, none⟩ = some (.int .i64 r2))
          (first | with_reducible exact ⟨g0, g1, g2, g3, g4, g5⟩ | exact ⟨g0, g1, g2, g3, g4, g5⟩ | exact ⟨y1.cell 0, y1.cell 1, y1.cell 2, y2.cell 0, y2.cell 1, y2.cell 2⟩)
          (first
          | (go_at_call 66
             (with_reducible refine (lim_out (w0 := w4) s3 hc3 hf3).mono ?_)
             rintro e x4 ⟨⟨N, s, hg, ht, hd, hres⟩, hk⟩
             obtain ⟨V', r', err, A'', n'', cc', rfl, hout⟩ := hres.out
             have HCE := Lib.hid (And.intro hg (And.intro ht hd))
             clear hg ht hd hres
             have kk0 := kk0.trans hk fun _ _ h => h
             have p1 := p1.keep hk
             have p2 := p2.keep hk
             have q1 := q1.keep hk (fun h => h)
             have q2 := q2.keep hk (fun h => h)
             have qz := qz.keep hk (fun h => h)
             have hzx4 := hk.size
             have g0 : x4.cell? ⟨w.heap.size, 0, none⟩ = some (.int .i64 v') := q1.cell 0
             have g1 : x4.cell? ⟨w.heap.size, 1, none⟩ = some (.slice A1 M1.length c1) := q1.cell 1
             have g2 : x4.cell? ⟨w.heap.size, 2, none⟩ = some (.int .i64 r1) := q1.cell 2
             have g3 : x4.cell? ⟨w.heap.size + 1, 0, none⟩ = some (.int .i64 v') := q2.cell 0
             have g4 : x4.cell? ⟨w.heap.size + 1, 1, none⟩ = some (.slice A2 M2.length c2) := q2.cell 1
             have g5 : x4.cell? ⟨w.heap.size + 1, 2, none⟩ = some (.int .i64 r2) := q2.cell 2
             have z0 : x4.cell? ⟨w.heap.size + 1 + 1, 0, none⟩ = some (.int .i64 0) := qz.cell 0
             have z1 : x4.cell? ⟨w.heap.size + 1 + 1, 1, none⟩ = some (.slice none 0 0) := qz.cell 1
             have z2 : x4.cell? ⟨w.heap.size + 1 + 1, 2, none⟩ = some (.int .i64 0) := qz.cell 2
             have f0 := qz.frozen 0
             have f1 := qz.frozen 1
             have f2 := qz.frozen 2
             have y1 := ((q1.far (p := ⟨w.heap.size + 1 + 1, 0, none⟩) (by show w.heap.size ≠ w.heap.size + 1 + 1; omega) (.int .i64 V')).far (p := ⟨w.heap.size + 1 + 1, 1, none⟩) (by show w.heap.size ≠ w.heap.size + 1 + 1; omega) (.slice A'' n'' cc')).far (p := ⟨w.heap.size + 1 + 1, 2, none⟩) (by show w.heap.size ≠ w.heap.size + 1 + 1; omega) (.int .i64 r')
             have y2 := ((q2.far (p := ⟨w.heap.size + 1 + 1, 0, none⟩) (by show w.heap.size + 1 ≠ w.heap.size + 1 + 1; omega) (.int .i64 V')).far (p := ⟨w.heap.size + 1 + 1, 1, none⟩) (by show w.heap.size + 1 ≠ w.heap.size + 1 + 1; omega) (.slice A'' n'' cc')).far (p := ⟨w.heap.size + 1 + 1, 2, none⟩) (by show w.heap.size + 1 ≠ w.heap.size + 1 + 1; omega) (.int .i64 r'))
          | (go_at_call 73
             (with_reducible refine (rite_any v' hv24 w2' w1'.rf w1'.rf p2 s1 s2).mono ?_)
             rintro e x3 ⟨B3, m3, d3, t3, L3, rfl, s3, hk, hf3', hc3⟩
             have hf3 : ∀ k, (Value.slice B3 m3 d3).ownBlock = some k → w4.heap.size ≤ k := fun k hk => by have := hf3' k hk; omega
             have kk0 := kk0.trans hk fun _ _ h => h
             have p1 := p1.keep hk
             have p2 := p2.keep hk
             have q1 := q1.keep hk (fun h => h)
             have q2 := q2.keep hk (fun h => h)
             have qz := qz.keep hk (fun h => h)
             have hzx3 := hk.size
             have g0 : x3.cell? ⟨w.heap.size, 0, none⟩ = some (.int .i64 v') := q1.cell 0
             have g1 : x3.cell? ⟨w.heap.size, 1, none⟩ = some (.slice A1 M1.length c1) := q1.cell 1
             have g2 : x3.cell? ⟨w.heap.size, 2, none⟩ = some (.int .i64 r1) := q1.cell 2
             have g3 : x3.cell? ⟨w.heap.size + 1, 0, none⟩ = some (.int .i64 v') := q2.cell 0
             have g4 : x3.cell? ⟨w.heap.size + 1, 1, none⟩ = some (.slice A2 M2.length c2) := q2.cell 1
             have g5 : x3.cell? ⟨w.heap.size + 1, 2, none⟩ = some (.int .i64 r2) := q2.cell 2)
          | (go_at_call 78
             (with_reducible refine (restr_out v' hv24 w1' p1 n hnv false).mono ?_)
             rintro e x2 ⟨B2, m2, d2, t2, L2, rfl, s2, hk, hf2, hc2⟩
             have s1 := s1.keep hk
             have kk0 := kk0.trans hk fun _ _ h => h
             have p1 := p1.keep hk
             have p2 := p2.keep hk
             have q1 := q1.keep hk (fun h => h)
             have q2 := q2.keep hk (fun h => h)
             have qz := qz.keep hk (fun h => h)
             have hzx2 := hk.size
             have g0 : x2.cell? ⟨w.heap.size, 0, none⟩ = some (.int .i64 v') := q1.cell 0
             have g1 : x2.cell? ⟨w.heap.size, 1, none⟩ = some (.slice A1 M1.length c1) := q1.cell 1
             have g2 : x2.cell? ⟨w.heap.size, 2, none⟩ = some (.int .i64 r1) := q1.cell 2
             have g3 : x2.cell? ⟨w.heap.size + 1, 0, none⟩ = some (.int .i64 v') := q2.cell 0
             have g4 : x2.cell? ⟨w.heap.size + 1, 1, none⟩ = some (.slice A2 M2.length c2) := q2.cell 1
             have g5 : x2.cell? ⟨w.heap.size + 1, 2, none⟩ = some (.int .i64 r2) := q2.cell 2)
          | (go_at_call 78
             (with_reducible refine (restr_out v' hv24 w1' p1 n hnv true).mono ?_)
             rintro e x1 ⟨B1, m1, d1, t1, L1, rfl, s1, hk, hf1, hc1⟩
             have kk0 := kk0.trans hk fun _ _ h => h
             have p1 := p1.keep hk
             have p2 := p2.keep hk
             have q1 := q1.keep hk (fun h => h)
             have q2 := q2.keep hk (fun h => h)
             have qz := qz.keep hk (fun h => h)
             have hzx1 := hk.size
             have g0 : x1.cell? ⟨w.heap.size, 0, none⟩ = some (.int .i64 v') := q1.cell 0
             have g1 : x1.cell? ⟨w.heap.size, 1, none⟩ = some (.slice A1 M1.length c1) := q1.cell 1
             have g2 : x1.cell? ⟨w.heap.size, 2, none⟩ = some (.int .i64 r1) := q1.cell 2
             have g3 : x1.cell? ⟨w.heap.size + 1, 0, none⟩ = some (.int .i64 v') := q2.cell 0
             have g4 : x1.cell? ⟨w.heap.size + 1, 1, none⟩ = some (.slice A2 M2.length c2) := q2.cell 1
             have g5 : x1.cell? ⟨w.heap.size + 1, 2, none⟩ = some (.int .i64 r2) := q2.cell 2))
        all_goals
          have hx := ((qz.put 0 (.int .i64 V')).put 1 (.slice A'' n'' cc')).put 2 (.int .i64 r')
          have hkf := kk0.set3 (b := w.heap.size + 1 + 1) (by omega) (.int .i64 V') (.slice A'' n'' cc') (.int .i64 r')
          have hset : ∀ k, k ≠ w.heap.size + 1 + 1 → (((x4.setCell ⟨w.heap.size + 1 + 1, 0, none⟩ (.int .i64 V')).setCell ⟨w.heap.size + 1 + 1, 1, none⟩ (.slice A'' n'' cc')).setCell ⟨w.heap.size + 1 + 1, 2, none⟩ (.int .i64 r')).heap[k]? = x4.heap[k]? := fun k hne => ((Below.heap_setCell _ _ _ k hne).trans (Below.heap_setCell _ _ _ k hne)).trans (Below.heap_setCell _ _ _ k hne)
          generalize ((x4.setCell ⟨w.heap.size + 1 + 1, 0, none⟩ (.int .i64 V')).setCell ⟨w.heap.size + 1 + 1, 1, none⟩ (.slice A'' n'' cc')).setCell ⟨w.heap.size + 1 + 1, 2, none⟩ (.int .i64 r') = W6 at *
          have hx0 : W6.cell? ⟨w.heap.size + 1 + 1, 0, none⟩ = some (.int .i64 V') := hx.cell 0
          have hx1 : W6.cell? ⟨w.heap.size + 1 + 1, 1, none⟩ = some (.slice A'' n'' cc') := hx.cell 1
          have hx2 : W6.cell? ⟨w.heap.size + 1 + 1, 2, none⟩ = some (.int .i64 r') := hx.cell 2
          go_wp2
          refine bodyPost_ret (v := .tuple #[.agg #[.int .i64 V', .slice A'' n'' cc', .int .i64 r'], .int .i64 err]) (by simp [results, Try.results46, go_sem, hx0, hx1, hx2]) rfl ?_
          obtain ⟨hg, ht, hd⟩ := HCE.out
          exact HP.out _ _ (fun h => absurd hre.out h) fun _ => HPOST.out _ _ ⟨N, s, hg, ht, hd, DgRes.move hout (by omega) fun k hk => hset k (by omega)⟩ hkf
  · rw [if_pos hte] at hce
    have HP : Hid (∀ e w', e = .returned (.tuple #[dgZero, .int .i64 (twoE a b)]) → Keep NoF w w' → ErrOr w (cErr a b i) (OpPost w a.V [a, b] (cSem i.toNat)) e w') := Lib.hid fun e w' he hk => ⟨fun _ => ⟨by rw [he, hce], hk⟩, fun h => absurd (hce ▸ h) hte⟩
    have ha1 := ha.1
    have hb1 := hb.1
    generalize ErrOr w (cErr a b i) (OpPost w a.V [a, b] (cSem i.toNat)) = PP at *
    clear hce
    generalize twoE a b = te at *
    obtain ⟨V1, R1, r1, s1⟩ := a
    obtain ⟨V2, R2, r2, s2⟩ := b
    simp only at ha1 hb1
    obtain ⟨_, A1, c1, rfl, _, _⟩ := ha1
    obtain ⟨_, A2, c2, rfl, _, _⟩ := hb1
    simp only [Dg.val] at HT ⊢
    clear ha hb
    have e1 : (te != 0) = true := by simp [hte]
    have k1 : Keep NoF w (((w.alloc (.cells #[.int .i64 V1, .slice A1 R1.length c1, .int .i64 r1] 24)).alloc (.cells #[.int .i64 V2, .slice A2 R2.length c2, .int .i64 r2] 24)).alloc (.cells #[.int .i64 0, .slice none 0 0, .int .i64 0] 24)) := (((Keep.refl _ _).alloc _).alloc _).alloc _
    have qa : Bk (((w.alloc (.cells #[.int .i64 V1, .slice A1 R1.length c1, .int .i64 r1] 24)).alloc (.cells #[.int .i64 V2, .slice A2 R2.length c2, .int .i64 r2] 24)).alloc (.cells #[.int .i64 0, .slice none 0 0, .int .i64 0] 24)) w.heap.size 24 #[.int .i64 V1, .slice A1 R1.length c1, .int .i64 r1] := ((Bk.new' _ _ _ (by simp)).alloc _).alloc _
    have qb : Bk (((w.alloc (.cells #[.int .i64 V1, .slice A1 R1.length c1, .int .i64 r1] 24)).alloc (.cells #[.int .i64 V2, .slice A2 R2.length c2, .int .i64 r2] 24)).alloc (.cells #[.int .i64 0, .slice none 0 0, .int .i64 0] 24)) (w.heap.size + 1) 24 #[.int .i64 V2, .slice A2 R2.length c2, .int .i64 r2] := (Bk.new' _ _ _ (by simp)).alloc _
    have qz : Bk (((w.alloc (.cells #[.int .i64 V1, .slice A1 R1.length c1, .int .i64 r1] 24)).alloc (.cells #[.int .i64 V2, .slice A2 R2.length c2, .int .i64 r2] 24)).alloc (.cells #[.int .i64 0, .slice none 0 0, .int .i64 0] 24)) (w.heap.size + 1 + 1) 24 #[.int .i64 0, .slice none 0 0, .int .i64 0] := Bk.new' _ _ _ (by simp)
    go_enter Try.func46, Try.ntmps46
    go_upto_region 1 with (fail)
    generalize ((w.alloc (.cells #[.int .i64 V1, .slice A1 R1.length c1, .int .i64 r1] 24)).alloc (.cells #[.int .i64 V2, .slice A2 R2.length c2, .int .i64 r2] 24)).alloc (.cells #[.int .i64 0, .slice none 0 0, .int .i64 0] 24) = W2 at *
    have a0 : W2.cell? ⟨w.heap.size, 0, none⟩ = some (.int .i64 V1) := qa.cell 0
    have a1 : W2.cell? ⟨w.heap.size, 1, none⟩ = some (.slice A1 R1.length c1) := qa.cell 1
    have a2 : W2.cell? ⟨w.heap.size, 2, none⟩ = some (.int .i64 r1) := qa.cell 2
    have a3 : W2.cell? ⟨w.heap.size + 1, 0, none⟩ = some (.int .i64 V2) := qb.cell 0
    have a4 : W2.cell? ⟨w.heap.size + 1, 1, none⟩ = some (.slice A2 R2.length c2) := qb.cell 1
    have a5 : W2.cell? ⟨w.heap.size + 1, 2, none⟩ = some (.int .i64 r2) := qb.cell 2
    have HT2 := Lib.hid (HT.out _ k1)
    have HTE := Lib.hid hte
    clear hte
    go_upto_region 2 with (go_at_call 65
                           (with_reducible refine HT2.out.mono ?_)
                           rintro e w4 ⟨rfl, hk4⟩)
    have k4 := k1.trans hk4 fun _ _ h => h
    have qz4 := qz.keep hk4 (fun h => h)
    have z0 : w4.cell? ⟨w.heap.size + 1 + 1, 0, none⟩ = some (.int .i64 0) := qz4.cell 0
    have z1 : w4.cell? ⟨w.heap.size + 1 + 1, 1, none⟩ = some (.slice none 0 0) := qz4.cell 1
    have z2 : w4.cell? ⟨w.heap.size + 1 + 1, 2, none⟩ = some (.int .i64 0) := qz4.cell 2
    have f0 := qz4.frozen 0
    have f1 := qz4.frozen 1
    have f2 := qz4.frozen 2
    go_wp2
    have hx := ((qz4.put 0 (.int .i64 0)).put 1 (.slice none 0 0)).put 2 (.int .i64 0)
    have hkf := k4.set3 (b := w.heap.size + 1 + 1) (by omega) (.int .i64 0) (.slice none 0 0) (.int .i64 0)
    generalize ((w4.setCell ⟨w.heap.size + 1 + 1, 0, none⟩ (.int .i64 0)).setCell ⟨w.heap.size + 1 + 1, 1, none⟩ (.slice none 0 0)).setCell ⟨w.heap.size + 1 + 1, 2, none⟩ (.int .i64 0) = W6 at *
    have hx0 : W6.cell? ⟨w.heap.size + 1 + 1, 0, none⟩ = some (.int .i64 0) := hx.cell 0
    have hx1 : W6.cell? ⟨w.heap.size + 1 + 1, 1, none⟩ = some (.slice none 0 0) := hx.cell 1
    have hx2 : W6.cell? ⟨w.heap.size + 1 + 1, 2, none⟩ = some (.int .i64 0) := hx.cell 2
    refine bodyPost_ret (v := .tuple #[.agg #[.int .i64 0, .slice none 0 0, .int .i64 0], .int .i64 te]) (by simp [results, Try.results46, go_sem, hx0, hx1, hx2]) rfl ?_
    exact HP.out _ _ rfl hkf
end Go.Proofs.Ytengdldkkmknpaa
