/- What the reference's And, Or, Xor do. No condition. -/
import Derived.Test.YtgdmcidcappkpaaGreatRCo
import Derived.Test.YtgdmcidcappkpaaGreatWrap
set_option linter.unusedVariables false
set_option linter.unusedSimpArgs false
namespace Go.Proofs.YtgdmcidcappkpaaGreat
open Go.RowKit
open Dd (Rn rat ofN toN checkErr den lo var vr mk BOp canon)

theorem limited_res {H : Nat} (V : Int) (C1 : Nat) (C2 : List Dd.Nd) (A : Option Addr) (c : Nat) (w : World) (hrd : Rd w (.slice A C2.length c) 3 C2.length (ndsC C2)) (hf : ∀ k, (Value.slice A C2.length c).ownBlock = some k → H ≤ k) :
    Calls Tryz.prog 68 #[.agg #[.int .i64 V, .slice A C2.length c, .int .i64 C1]] w fun e w' => DgRes H V (C1, C2) e w' ∧ Keep NoF w w' := by
  refine (limited_any V C1 A C2.length c w).mono ?_
  rintro e w' ⟨rfl, hk⟩
  refine ⟨?_, hk⟩
  by_cases h : 4096 < C2.length
  · rw [if_pos h]; exact .inl ⟨h, rfl⟩
  · rw [if_neg h]; exact .inr ⟨Nat.le_of_not_lt h, _, rfl, hrd.kept hk fun _ _ h => h, hf⟩

theorem opd_of (a : Dg) (w : World) (ha : a.In w) (h : a.err = 0) : ∃ (v : Nat) (M : List Dd.Nd) (r : Nat) (A : Option Addr) (c : Nat), a.V = v ∧ a.val = .agg #[.int .i64 v, .slice A M.length c, .int .i64 r] ∧ Opd w v a.fn A M.length c r M ∧ Dd.Valid v M r ∧ ∀ ρ, den M r ρ = a.fn ρ := by
  obtain ⟨V, R, root, sl⟩ := a
  obtain ⟨v, M, r, rfl, rfl, rfl, hv⟩ := Dd.valid_of (show checkErr V R root = 0 from h)
  have hrd := ha.1
  simp only at hrd
  rw [rnsC_ofN, Dd.ofN_len] at hrd
  have hrd2 := hrd
  obtain ⟨_, A, c, rfl, _, _⟩ := hrd2
  have hd : ∀ ρ, den M r ρ = Dg.fn ⟨v, ofN M, r, .slice A M.length c⟩ ρ := fun ρ => by
    show den M r ρ = den (toN (ofN M)) ((r : Int).toNat) ρ
    rw [Dd.toN_ofN, Int.toNat_natCast]
  exact ⟨v, M, r, A, c, rfl, rfl, ⟨rfl, hrd, hv.good, hv.bound, hv.root, hd, by have := hv.len; omega⟩, hv, hd⟩

theorem two_zero {a b : Dg} (h : twoE a b = 0) : a.err = 0 ∧ b.err = 0 ∧ a.V = b.V := by
  unfold twoE at h
  by_cases h1 : a.err = 0
  · by_cases h2 : b.err = 0
    · by_cases h3 : a.V = b.V
      · exact ⟨h1, h2, h3⟩
      · simp [h1, h2, h3] at h
    · simp [h1, h2] at h
  · simp [h1] at h

set_option maxRecDepth 100000 in
set_option maxHeartbeats 1000000 in
theorem rAnd_any (a b : Dg) (w : World) (ha : a.In w) (hb : b.In w) : Calls Tryz.prog 34 #[a.val, b.val] w (OpPost w a.V [a, b] andSem) := by
  have HT := Lib.hid fun (wx : World) (hk : Keep NoF w wx) => two_any a b wx ⟨ha.1.kept hk fun _ _ h => h, ha.2⟩ ⟨hb.1.kept hk fun _ _ h => h, hb.2⟩
  by_cases hte : twoE a b = 0
  · rw [hte] at HT
    have hop : opErr a.V [a, b] = 0 := by rw [← twoE_op]; exact hte
    obtain ⟨h1, h2, h3⟩ := two_zero hte
    obtain ⟨v, M1, r1, A1, c1, e1, f1, O1, v1, _⟩ := opd_of a w ha h1
    obtain ⟨v', M2, r2, A2, c2, e2, f2, O2, _, _⟩ := opd_of b w hb h2
    have hvv : v' = v := by rw [e1, e2] at h3; omega
    subst hvv
    have hpost : ∀ e w', (∃ N t, Dd.Good N ∧ t < N.length + 2 ∧ (∀ ρ, den N t ρ = opF 0 (a.fn ρ) (b.fn ρ)) ∧ DgRes w.heap.size v' (canon N t) e w') → Keep NoF w w' → OpPost w a.V [a, b] andSem e w' := fun e w' hh hk => by
      obtain ⟨N, t, g1, g2, g3, g4⟩ := hh
      refine ⟨fun h => absurd hop h, fun _ => ⟨N, t, g1, g2, fun ρ => ?_, by rw [e1]; exact g4⟩, hk⟩
      rw [g3]
      simp [opF, andSem]
    have hv24 := v1.vars
    generalize OpPost w a.V [a, b] andSem = PP at *
    rw [f1, f2] at HT ⊢
    clear hop h1 h2 h3 e1 e2 f1 f2 hte ha hb v1
    generalize a.fn = fa at *
    generalize b.fn = fb at *
    have k1 : Keep NoF w (((w.alloc (.cells #[.int .i64 v', .slice A1 M1.length c1, .int .i64 r1] 24)).alloc (.cells #[.int .i64 v', .slice A2 M2.length c2, .int .i64 r2] 24)).alloc (.cells #[.int .i64 0, .slice none 0 0, .int .i64 0] 24)) := (((Keep.refl _ _).alloc _).alloc _).alloc _
    have qa : Bk (((w.alloc (.cells #[.int .i64 v', .slice A1 M1.length c1, .int .i64 r1] 24)).alloc (.cells #[.int .i64 v', .slice A2 M2.length c2, .int .i64 r2] 24)).alloc (.cells #[.int .i64 0, .slice none 0 0, .int .i64 0] 24)) w.heap.size 24 #[.int .i64 v', .slice A1 M1.length c1, .int .i64 r1] := ((Bk.new' _ _ _ (by simp)).alloc _).alloc _
    have qb : Bk (((w.alloc (.cells #[.int .i64 v', .slice A1 M1.length c1, .int .i64 r1] 24)).alloc (.cells #[.int .i64 v', .slice A2 M2.length c2, .int .i64 r2] 24)).alloc (.cells #[.int .i64 0, .slice none 0 0, .int .i64 0] 24)) (w.heap.size + 1) 24 #[.int .i64 v', .slice A2 M2.length c2, .int .i64 r2] := (Bk.new' _ _ _ (by simp)).alloc _
    have qz : Bk (((w.alloc (.cells #[.int .i64 v', .slice A1 M1.length c1, .int .i64 r1] 24)).alloc (.cells #[.int .i64 v', .slice A2 M2.length c2, .int .i64 r2] 24)).alloc (.cells #[.int .i64 0, .slice none 0 0, .int .i64 0] 24)) (w.heap.size + 1 + 1) 24 #[.int .i64 0, .slice none 0 0, .int .i64 0] := Bk.new' _ _ _ (by simp)
    go_enter Tryz.func34, Tryz.ntmps34
    go_upto_region 1 with (fail)
    generalize ((w.alloc (.cells #[.int .i64 v', .slice A1 M1.length c1, .int .i64 r1] 24)).alloc (.cells #[.int .i64 v', .slice A2 M2.length c2, .int .i64 r2] 24)).alloc (.cells #[.int .i64 0, .slice none 0 0, .int .i64 0] 24) = W2 at *
    have a0 : W2.cell? ⟨w.heap.size, 0, none⟩ = some (.int .i64 v') := qa.cell 0
    have a1 : W2.cell? ⟨w.heap.size, 1, none⟩ = some (.slice A1 M1.length c1) := qa.cell 1
    have a2 : W2.cell? ⟨w.heap.size, 2, none⟩ = some (.int .i64 r1) := qa.cell 2
    have b0 : W2.cell? ⟨w.heap.size + 1, 0, none⟩ = some (.int .i64 v') := qb.cell 0
    have b1 : W2.cell? ⟨w.heap.size + 1, 1, none⟩ = some (.slice A2 M2.length c2) := qb.cell 1
    have b2 : W2.cell? ⟨w.heap.size + 1, 2, none⟩ = some (.int .i64 r2) := qb.cell 2
    have HT2 := Lib.hid (HT.out _ k1)
    go_upto_region 2 with (go_at_call 67
                           (with_reducible refine HT2.out.mono ?_)
                           rintro e w4 ⟨rfl, hk4⟩)
    have k4 := k1.trans hk4 fun _ _ h => h
    have qa4 := qa.keep hk4 (fun h => h)
    have qb4 := qb.keep hk4 (fun h => h)
    have qz4 := qz.keep hk4 (fun h => h)
    have g0 : w4.cell? ⟨w.heap.size, 0, none⟩ = some (.int .i64 v') := qa4.cell 0
    have g1 : w4.cell? ⟨w.heap.size, 1, none⟩ = some (.slice A1 M1.length c1) := qa4.cell 1
    have g2 : w4.cell? ⟨w.heap.size, 2, none⟩ = some (.int .i64 r1) := qa4.cell 2
    have g3 : w4.cell? ⟨w.heap.size + 1, 0, none⟩ = some (.int .i64 v') := qb4.cell 0
    have g4 : w4.cell? ⟨w.heap.size + 1, 1, none⟩ = some (.slice A2 M2.length c2) := qb4.cell 1
    have g5 : w4.cell? ⟨w.heap.size + 1, 2, none⟩ = some (.int .i64 r2) := qb4.cell 2
    have hs4 := k4.size
    have HC := Lib.hid (show Calls Tryz.prog 69 #[.int .i64 0, .agg #[.int .i64 v', .slice A1 M1.length c1, .int .i64 r1], .agg #[.int .i64 v', .slice A2 M2.length c2, .int .i64 r2]] _ _ from combine_any 0 v' (by omega) hv24 (O1.keep k4) (O2.keep k4))
    go_wp2_with (first
      | (go_at_call 69
         (with_reducible refine HC.out.mono ?_)
         rintro e w7 ⟨N, t, hg, ht, hd, A', c', rfl, hrd7, hk7, hf7⟩
         generalize hC : canon N t = C at *
         obtain ⟨C1, C2⟩ := C
         have HCE := Lib.hid (And.intro hg (And.intro ht (And.intro hd hC)))
         clear hC hg ht hd
         have Hand := Lib.hid (limited_res (H := w4.heap.size) v' C1 C2 A' c' w7 hrd7 hf7)
         have qz7 := qz4.keep hk7 (fun h => h))
      | (go_at_call 68
         (with_reducible refine Hand.out.mono ?_)
         rintro e w8 ⟨hres, hk8⟩
         obtain ⟨V', r', err, A'', n'', cc', rfl, hout⟩ := hres.out
         have qz8 := qz7.keep hk8 (fun h => h)
         have z0 : w8.cell? ⟨w.heap.size + 1 + 1, 0, none⟩ = some (.int .i64 0) := qz8.cell 0
         have z1 : w8.cell? ⟨w.heap.size + 1 + 1, 1, none⟩ = some (.slice none 0 0) := qz8.cell 1
         have z2 : w8.cell? ⟨w.heap.size + 1 + 1, 2, none⟩ = some (.int .i64 0) := qz8.cell 2
         have f0 := qz8.frozen 0
         have f1 := qz8.frozen 1
         have f2 := qz8.frozen 2))
    have hx := ((qz8.put 0 (.int .i64 V')).put 1 (.slice A'' n'' cc')).put 2 (.int .i64 r')
    have hzl : w.heap.size + 1 + 1 < W2.heap.size := qz.lt
    have hz4 := hk4.size
    have A8 : Keep NoF w w8 := (k4.trans hk7 fun _ _ h => h).trans hk8 fun _ _ h => h
    have hkf := A8.set3 (b := w.heap.size + 1 + 1) (by omega) (.int .i64 V') (.slice A'' n'' cc') (.int .i64 r')
    have hset : ∀ k, k ≠ w.heap.size + 1 + 1 → (((w8.setCell ⟨w.heap.size + 1 + 1, 0, none⟩ (.int .i64 V')).setCell ⟨w.heap.size + 1 + 1, 1, none⟩ (.slice A'' n'' cc')).setCell ⟨w.heap.size + 1 + 1, 2, none⟩ (.int .i64 r')).heap[k]? = w8.heap[k]? := fun k hne => ((Below.heap_setCell _ _ _ k hne).trans (Below.heap_setCell _ _ _ k hne)).trans (Below.heap_setCell _ _ _ k hne)
    generalize ((w8.setCell ⟨w.heap.size + 1 + 1, 0, none⟩ (.int .i64 V')).setCell ⟨w.heap.size + 1 + 1, 1, none⟩ (.slice A'' n'' cc')).setCell ⟨w.heap.size + 1 + 1, 2, none⟩ (.int .i64 r') = W6 at *
    have hx0 : W6.cell? ⟨w.heap.size + 1 + 1, 0, none⟩ = some (.int .i64 V') := hx.cell 0
    have hx1 : W6.cell? ⟨w.heap.size + 1 + 1, 1, none⟩ = some (.slice A'' n'' cc') := hx.cell 1
    have hx2 : W6.cell? ⟨w.heap.size + 1 + 1, 2, none⟩ = some (.int .i64 r') := hx.cell 2
    refine bodyPost_ret (v := .tuple #[.agg #[.int .i64 V', .slice A'' n'' cc', .int .i64 r'], .int .i64 err]) (by simp [results, Tryz.results34, go_sem, hx0, hx1, hx2]) rfl ?_
    obtain ⟨hg, ht, hd, hC⟩ := HCE.out
    exact hpost _ _ ⟨N, t, hg, ht, hd, by rw [hC]; exact DgRes.move hout (by omega) fun k hk => hset k (by omega)⟩ hkf
  · have hop : opErr a.V [a, b] ≠ 0 := by rw [← twoE_op]; exact hte
    have hpost : ∀ e w', e = .returned (.tuple #[dgZero, .int .i64 (twoE a b)]) → Keep NoF w w' → OpPost w a.V [a, b] andSem e w' := fun e w' hh hk => ⟨fun _ => by rw [hh, twoE_op], fun h => absurd h hop, hk⟩
    have ha1 := ha.1
    have hb1 := hb.1
    generalize OpPost w a.V [a, b] andSem = PP at *
    generalize twoE a b = te at *
    obtain ⟨V1, R1, r1, s1⟩ := a
    obtain ⟨V2, R2, r2, s2⟩ := b
    simp only at ha1 hb1
    obtain ⟨_, A1, c1, rfl, _, _⟩ := ha1
    obtain ⟨_, A2, c2, rfl, _, _⟩ := hb1
    simp only [Dg.val] at HT ⊢
    clear ha hb hop
    have e1 : (te != 0) = true := by simp [hte]
    have k1 : Keep NoF w (((w.alloc (.cells #[.int .i64 V1, .slice A1 R1.length c1, .int .i64 r1] 24)).alloc (.cells #[.int .i64 V2, .slice A2 R2.length c2, .int .i64 r2] 24)).alloc (.cells #[.int .i64 0, .slice none 0 0, .int .i64 0] 24)) := (((Keep.refl _ _).alloc _).alloc _).alloc _
    have qa : Bk (((w.alloc (.cells #[.int .i64 V1, .slice A1 R1.length c1, .int .i64 r1] 24)).alloc (.cells #[.int .i64 V2, .slice A2 R2.length c2, .int .i64 r2] 24)).alloc (.cells #[.int .i64 0, .slice none 0 0, .int .i64 0] 24)) w.heap.size 24 #[.int .i64 V1, .slice A1 R1.length c1, .int .i64 r1] := ((Bk.new' _ _ _ (by simp)).alloc _).alloc _
    have qb : Bk (((w.alloc (.cells #[.int .i64 V1, .slice A1 R1.length c1, .int .i64 r1] 24)).alloc (.cells #[.int .i64 V2, .slice A2 R2.length c2, .int .i64 r2] 24)).alloc (.cells #[.int .i64 0, .slice none 0 0, .int .i64 0] 24)) (w.heap.size + 1) 24 #[.int .i64 V2, .slice A2 R2.length c2, .int .i64 r2] := (Bk.new' _ _ _ (by simp)).alloc _
    have qz : Bk (((w.alloc (.cells #[.int .i64 V1, .slice A1 R1.length c1, .int .i64 r1] 24)).alloc (.cells #[.int .i64 V2, .slice A2 R2.length c2, .int .i64 r2] 24)).alloc (.cells #[.int .i64 0, .slice none 0 0, .int .i64 0] 24)) (w.heap.size + 1 + 1) 24 #[.int .i64 0, .slice none 0 0, .int .i64 0] := Bk.new' _ _ _ (by simp)
    go_enter Tryz.func34, Tryz.ntmps34
    go_upto_region 1 with (fail)
    generalize ((w.alloc (.cells #[.int .i64 V1, .slice A1 R1.length c1, .int .i64 r1] 24)).alloc (.cells #[.int .i64 V2, .slice A2 R2.length c2, .int .i64 r2] 24)).alloc (.cells #[.int .i64 0, .slice none 0 0, .int .i64 0] 24) = W2 at *
    have a0 : W2.cell? ⟨w.heap.size, 0, none⟩ = some (.int .i64 V1) := qa.cell 0
    have a1 : W2.cell? ⟨w.heap.size, 1, none⟩ = some (.slice A1 R1.length c1) := qa.cell 1
    have a2 : W2.cell? ⟨w.heap.size, 2, none⟩ = some (.int .i64 r1) := qa.cell 2
    have b0 : W2.cell? ⟨w.heap.size + 1, 0, none⟩ = some (.int .i64 V2) := qb.cell 0
    have b1 : W2.cell? ⟨w.heap.size + 1, 1, none⟩ = some (.slice A2 R2.length c2) := qb.cell 1
    have b2 : W2.cell? ⟨w.heap.size + 1, 2, none⟩ = some (.int .i64 r2) := qb.cell 2
    have HT2 := Lib.hid (HT.out _ k1)
    have HTE := Lib.hid hte
    clear hte
    go_upto_region 2 with (go_at_call 67
                           (with_reducible refine HT2.out.mono ?_)
                           rintro e w4 ⟨rfl, hk4⟩)
    have k4 := k1.trans hk4 fun _ _ h => h
    have qz4 := qz.keep hk4 (fun h => h)
    have z0 : w4.cell? ⟨w.heap.size + 1 + 1, 0, none⟩ = some (.int .i64 0) := qz4.cell 0
    have z1 : w4.cell? ⟨w.heap.size + 1 + 1, 1, none⟩ = some (.slice none 0 0) := qz4.cell 1
    have z2 : w4.cell? ⟨w.heap.size + 1 + 1, 2, none⟩ = some (.int .i64 0) := qz4.cell 2
    have f0 := qz4.frozen 0
    have f1 := qz4.frozen 1
    have f2 := qz4.frozen 2
    go_wp2
    have hx := ((qz4.put 0 (.int .i64 0)).put 1 (.slice none 0 0)).put 2 (.int .i64 0)
    have hkf := k4.set3 (b := w.heap.size + 1 + 1) (by omega) (.int .i64 0) (.slice none 0 0) (.int .i64 0)
    generalize ((w4.setCell ⟨w.heap.size + 1 + 1, 0, none⟩ (.int .i64 0)).setCell ⟨w.heap.size + 1 + 1, 1, none⟩ (.slice none 0 0)).setCell ⟨w.heap.size + 1 + 1, 2, none⟩ (.int .i64 0) = W6 at *
    have hx0 : W6.cell? ⟨w.heap.size + 1 + 1, 0, none⟩ = some (.int .i64 0) := hx.cell 0
    have hx1 : W6.cell? ⟨w.heap.size + 1 + 1, 1, none⟩ = some (.slice none 0 0) := hx.cell 1
    have hx2 : W6.cell? ⟨w.heap.size + 1 + 1, 2, none⟩ = some (.int .i64 0) := hx.cell 2
    refine bodyPost_ret (v := .tuple #[.agg #[.int .i64 0, .slice none 0 0, .int .i64 0], .int .i64 te]) (by simp [results, Tryz.results34, go_sem, hx0, hx1, hx2]) rfl ?_
    exact hpost _ _ rfl hkf

end Go.Proofs.YtgdmcidcappkpaaGreat
