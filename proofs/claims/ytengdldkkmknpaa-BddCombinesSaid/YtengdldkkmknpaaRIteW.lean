/- What the reference's Ite does. No condition. -/
import Derived.Test.YtengdldkkmknpaaRIte
set_option linter.unusedVariables false
set_option linter.unusedSimpArgs false
namespace Go.Proofs.Ytengdldkkmknpaa
open Go.RowKit
open Dd (Rn rat ofN toN checkErr den lo var vr mk BOp canon Within)

/-- The error of three diagrams. -/
def threeE (ae be ce V1 V2 V3 : Int) : Int := if ae ≠ 0 then ae else if be ≠ 0 then be else if ce ≠ 0 then ce else if V1 = V2 ∧ V1 = V3 then 0 else 3
theorem threeE_op (a b c : Dg) : threeE a.err b.err c.err a.V b.V c.V = opErr a.V [a, b, c] := by
  unfold threeE opErr dgErr dgErr dgErr dgErr
  by_cases h1 : a.err = 0
  · by_cases h2 : b.err = 0
    · by_cases h3 : c.err = 0
      · have e1 : (b.V = a.V) = (a.V = b.V) := propext ⟨Eq.symm, Eq.symm⟩
        have e2 : (c.V = a.V) = (a.V = c.V) := propext ⟨Eq.symm, Eq.symm⟩
        by_cases h4 : a.V = b.V
        · by_cases h5 : a.V = c.V
          · simp [h1, h2, h3, ← h4, ← h5]
          · simp [h1, h2, h3, ← h4, h5, e2]
        · simp [h1, h2, h3, h4, e1]
      · simp [h1, h2, h3]
    · simp [h1, h2]
  · simp [h1]

set_option maxRecDepth 100000 in
set_option maxHeartbeats 4000000 in
theorem rIte_any (a b c : Dg) (w : World) (ha : a.In w) (hb : b.In w) (hc : c.In w) : Calls Try.prog 33 #[a.val, b.val, c.val] w (OpPost w a.V [a, b, c] ite3Sem) := by
  have HA := Lib.hid fun (w1 : World) (hk : Keep NoF w w1) => (show Calls Try.prog 16 #[a.val] w1 (fun e w' => e = .returned (.int .i64 a.err) ∧ Keep NoF w1 w') from rcheck_any a.V a.R a.root a.sl w1 ha.2 (ha.1.kept hk fun _ _ h => h))
  have HB := Lib.hid fun (w1 : World) (hk : Keep NoF w w1) => (show Calls Try.prog 16 #[b.val] w1 (fun e w' => e = .returned (.int .i64 b.err) ∧ Keep NoF w1 w') from rcheck_any b.V b.R b.root b.sl w1 hb.2 (hb.1.kept hk fun _ _ h => h))
  have HC := Lib.hid fun (w1 : World) (hk : Keep NoF w w1) => (show Calls Try.prog 16 #[c.val] w1 (fun e w' => e = .returned (.int .i64 c.err) ∧ Keep NoF w1 w') from rcheck_any c.V c.R c.root c.sl w1 hc.2 (hc.1.kept hk fun _ _ h => h))
  have HERR : Hid (∀ (te : Int), (te ≠ 0 ∧ te = threeE a.err b.err c.err a.V b.V c.V) → ∀ w', Keep NoF w w' → OpPost w a.V [a, b, c] ite3Sem (.returned (.tuple #[.agg #[.int .i64 0, .slice none 0 0, .int .i64 0], .int .i64 te])) w') := Lib.hid fun te ht w' hk => by
    rw [threeE_op] at ht
    refine ⟨fun _ => by rw [← ht.2]; rfl, fun h => absurd (ht.2.trans h) ht.1, hk⟩
  have HOK : Hid (a.err = 0 → b.err = 0 → c.err = 0 → a.V = b.V → a.V = c.V → ∀ w1, Keep NoF w w1 → Calls Try.prog 73 #[a.val, b.val, c.val] w1 fun e w2 => ∃ (N : List Dd.Nd) (t : Nat) (C1 : Nat) (C2 : List Dd.Nd) (A' : Option Addr) (c' : Nat), e = .returned (.agg #[.int .i64 a.V, .slice A' C2.length c', .int .i64 C1]) ∧ Rd w2 (.slice A' C2.length c') 3 C2.length (ndsC C2) ∧ Keep NoF w1 w2 ∧ (∀ k, (Value.slice A' C2.length c').ownBlock = some k → w1.heap.size ≤ k) ∧
      ∀ e w', DgRes w.heap.size a.V (C1, C2) e w' → Keep NoF w w' → OpPost w a.V [a, b, c] ite3Sem e w') := Lib.hid fun h1 h2 h3 h4 h5 w1 hk => by
    obtain ⟨v, M1, r1, A1, c1, e1, f1, O1, v1, d1⟩ := opd_of a w ha h1
    obtain ⟨v', M2, r2, A2, c2, e2, f2, O2, v2, d2⟩ := opd_of b w hb h2
    obtain ⟨v'', M3, r3, A3, c3, e3, f3, O3, v3, d3⟩ := opd_of c w hc h3
    have hv1 : v' = v := by rw [e1, e2] at h4; omega
    have hv2 : v'' = v := by rw [e1, e3] at h5; omega
    subst hv1
    subst hv2
    have w1' : Within v'' a.fn := by rw [← funext d1]; exact Dd.valid_within v1 _ v1.root
    have w2' : Within v'' b.fn := by rw [← funext d2]; exact Dd.valid_within v2 _ v2.root
    have w3' : Within v'' c.fn := by rw [← funext d3]; exact Dd.valid_within v3 _ v3.root
    have hop : opErr a.V [a, b, c] = 0 := by rw [← threeE_op]; simp [threeE, h1, h2, h3, h4, ← h5]
    rw [f1, f2, f3]
    refine (rite_any v'' v1.vars w1' w2' w3' (O1.keep hk) (O2.keep hk) (O3.keep hk)).mono fun e w2 h => ?_
    obtain ⟨N, t, g1, g2, g3, A', c', rfl, hr, hk2, hf⟩ := h.fpost
    refine ⟨N, t, (canon N t).1, (canon N t).2, A', c', by rw [e1], hr, hk2, hf, fun e w' hres hkw => ⟨fun h => absurd hop h, fun _ => ⟨N, t, g1, g2, fun ρ => ?_, hres⟩, hkw⟩⟩
    rw [g3]
    simp [ite3Sem]
  have ha1 := ha.1
  have hb1 := hb.1
  have hc1 := hc.1
  clear ha hb hc
  generalize OpPost w a.V [a, b, c] ite3Sem = PP at *
  generalize a.err = ae at *
  generalize b.err = be at *
  generalize c.err = ce at *
  obtain ⟨V1, R1, r1, s1⟩ := a
  obtain ⟨V2, R2, r2, s2⟩ := b
  obtain ⟨V3, R3, r3, s3⟩ := c
  simp only at ha1 hb1 hc1 HERR HOK
  obtain ⟨_, A1, c1, rfl, _, _⟩ := ha1
  obtain ⟨_, A2, c2, rfl, _, _⟩ := hb1
  obtain ⟨_, A3, c3, rfl, _, _⟩ := hc1
  simp only [Dg.val] at HA HB HC HOK ⊢
  generalize R1.length = n1 at *
  generalize R2.length = n2 at *
  generalize R3.length = n3 at *
  have k1 : Keep NoF w ((((w.alloc (.cells #[.int .i64 V1, .slice A1 n1 c1, .int .i64 r1] 24)).alloc (.cells #[.int .i64 V2, .slice A2 n2 c2, .int .i64 r2] 24)).alloc (.cells #[.int .i64 V3, .slice A3 n3 c3, .int .i64 r3] 24)).alloc (.cells #[.int .i64 0, .slice none 0 0, .int .i64 0] 24)) := ((((Keep.refl _ _).alloc _).alloc _).alloc _).alloc _
  have q1 : Bk ((((w.alloc (.cells #[.int .i64 V1, .slice A1 n1 c1, .int .i64 r1] 24)).alloc (.cells #[.int .i64 V2, .slice A2 n2 c2, .int .i64 r2] 24)).alloc (.cells #[.int .i64 V3, .slice A3 n3 c3, .int .i64 r3] 24)).alloc (.cells #[.int .i64 0, .slice none 0 0, .int .i64 0] 24)) w.heap.size 24 #[.int .i64 V1, .slice A1 n1 c1, .int .i64 r1] := (((Bk.new' _ _ _ (by simp)).alloc _).alloc _).alloc _
  have q2 : Bk ((((w.alloc (.cells #[.int .i64 V1, .slice A1 n1 c1, .int .i64 r1] 24)).alloc (.cells #[.int .i64 V2, .slice A2 n2 c2, .int .i64 r2] 24)).alloc (.cells #[.int .i64 V3, .slice A3 n3 c3, .int .i64 r3] 24)).alloc (.cells #[.int .i64 0, .slice none 0 0, .int .i64 0] 24)) (w.heap.size + 1) 24 #[.int .i64 V2, .slice A2 n2 c2, .int .i64 r2] := ((Bk.new' _ _ _ (by simp)).alloc _).alloc _
  have q3 : Bk ((((w.alloc (.cells #[.int .i64 V1, .slice A1 n1 c1, .int .i64 r1] 24)).alloc (.cells #[.int .i64 V2, .slice A2 n2 c2, .int .i64 r2] 24)).alloc (.cells #[.int .i64 V3, .slice A3 n3 c3, .int .i64 r3] 24)).alloc (.cells #[.int .i64 0, .slice none 0 0, .int .i64 0] 24)) (w.heap.size + 1 + 1) 24 #[.int .i64 V3, .slice A3 n3 c3, .int .i64 r3] := (Bk.new' _ _ _ (by simp)).alloc _
  have qz : Bk ((((w.alloc (.cells #[.int .i64 V1, .slice A1 n1 c1, .int .i64 r1] 24)).alloc (.cells #[.int .i64 V2, .slice A2 n2 c2, .int .i64 r2] 24)).alloc (.cells #[.int .i64 V3, .slice A3 n3 c3, .int .i64 r3] 24)).alloc (.cells #[.int .i64 0, .slice none 0 0, .int .i64 0] 24)) (w.heap.size + 1 + 1 + 1) 24 #[.int .i64 0, .slice none 0 0, .int .i64 0] := Bk.new' _ _ _ (by simp)
  go_enter Try.func33, Try.ntmps33
  go_upto_region 1 with (fail)
  generalize (((w.alloc (.cells #[.int .i64 V1, .slice A1 n1 c1, .int .i64 r1] 24)).alloc (.cells #[.int .i64 V2, .slice A2 n2 c2, .int .i64 r2] 24)).alloc (.cells #[.int .i64 V3, .slice A3 n3 c3, .int .i64 r3] 24)).alloc (.cells #[.int .i64 0, .slice none 0 0, .int .i64 0] 24) = W2 at *
  have a10 : W2.cell? ⟨w.heap.size, 0, none⟩ = some (.int .i64 V1) := q1.cell 0
  have a11 : W2.cell? ⟨w.heap.size, 1, none⟩ = some (.slice A1 n1 c1) := q1.cell 1
  have a12 : W2.cell? ⟨w.heap.size, 2, none⟩ = some (.int .i64 r1) := q1.cell 2
  have HA2 := Lib.hid (HA.out _ k1)
  go_upto_region 2 with (go_at_call 16
                         (with_reducible refine HA2.out.mono ?_)
                         rintro e w3 ⟨rfl, hk3⟩)
  have k3 := k1.trans hk3 fun _ _ h => h
  have q1 := q1.keep hk3 (fun h => h)
  have q2 := q2.keep hk3 (fun h => h)
  have q3 := q3.keep hk3 (fun h => h)
  have qz := qz.keep hk3 (fun h => h)
  have HB2 := Lib.hid (HB.out _ k3)
  by_cases h1 : ae = 0
  · have e1 : (ae != 0) = false := by simp [h1]
    have H1 := Lib.hid h1
    clear h1
    have b20 : w3.cell? ⟨w.heap.size + 1, 0, none⟩ = some (.int .i64 V2) := q2.cell 0
    have b21 : w3.cell? ⟨w.heap.size + 1, 1, none⟩ = some (.slice A2 n2 c2) := q2.cell 1
    have b22 : w3.cell? ⟨w.heap.size + 1, 2, none⟩ = some (.int .i64 r2) := q2.cell 2
    go_upto_region 5 with (go_at_call 16
                           (with_reducible refine HB2.out.mono ?_)
                           rintro e w4 ⟨rfl, hk4⟩)
    have k4 := k3.trans hk4 fun _ _ h => h
    have q1 := q1.keep hk4 (fun h => h)
    have q2 := q2.keep hk4 (fun h => h)
    have q3 := q3.keep hk4 (fun h => h)
    have qz := qz.keep hk4 (fun h => h)
    have HC2 := Lib.hid (HC.out _ k4)
    by_cases h2 : be = 0
    · have e2 : (be != 0) = false := by simp [h2]
      have H2 := Lib.hid h2
      clear h2
      have c30 : w4.cell? ⟨w.heap.size + 1 + 1, 0, none⟩ = some (.int .i64 V3) := q3.cell 0
      have c31 : w4.cell? ⟨w.heap.size + 1 + 1, 1, none⟩ = some (.slice A3 n3 c3) := q3.cell 1
      have c32 : w4.cell? ⟨w.heap.size + 1 + 1, 2, none⟩ = some (.int .i64 r3) := q3.cell 2
      go_upto_region 8 with (go_at_call 16
                             (with_reducible refine HC2.out.mono ?_)
                             rintro e w5 ⟨rfl, hk5⟩)
      have k5 := k4.trans hk5 fun _ _ h => h
      have q1 := q1.keep hk5 (fun h => h)
      have q2 := q2.keep hk5 (fun h => h)
      have q3 := q3.keep hk5 (fun h => h)
      have qz := qz.keep hk5 (fun h => h)
      by_cases h3 : ce = 0
      · have e3 : (ce != 0) = false := by simp [h3]
        have H3 := Lib.hid h3
        clear h3
        have g10 : w5.cell? ⟨w.heap.size, 0, none⟩ = some (.int .i64 V1) := q1.cell 0
        have g11 : w5.cell? ⟨w.heap.size, 1, none⟩ = some (.slice A1 n1 c1) := q1.cell 1
        have g12 : w5.cell? ⟨w.heap.size, 2, none⟩ = some (.int .i64 r1) := q1.cell 2
        have g20 : w5.cell? ⟨w.heap.size + 1, 0, none⟩ = some (.int .i64 V2) := q2.cell 0
        have g21 : w5.cell? ⟨w.heap.size + 1, 1, none⟩ = some (.slice A2 n2 c2) := q2.cell 1
        have g22 : w5.cell? ⟨w.heap.size + 1, 2, none⟩ = some (.int .i64 r2) := q2.cell 2
        have g30 : w5.cell? ⟨w.heap.size + 1 + 1, 0, none⟩ = some (.int .i64 V3) := q3.cell 0
        have g31 : w5.cell? ⟨w.heap.size + 1 + 1, 1, none⟩ = some (.slice A3 n3 c3) := q3.cell 1
        have g32 : w5.cell? ⟨w.heap.size + 1 + 1, 2, none⟩ = some (.int .i64 r3) := q3.cell 2
        by_cases h4 : V1 = V2
        · by_cases h5 : V1 = V3
          · have e4 : (V1 != V2) = false := by simp [h4]
            have e5 : (V1 != V3) = false := by simp [h5]
            have HI := Lib.hid (HOK.out H1.out H2.out H3.out h4 h5 w5 k5)
            clear h4 h5
            go_wp2_with (first
              | (go_at_call 73
                 (with_reducible refine HI.out.mono ?_)
                 rintro e w7 ⟨N, t, C1, C2, A', c', rfl, hrd7, hk7, hf7, hfin⟩
                 have HFIN := Lib.hid hfin
                 clear hfin
                 have HLL := Lib.hid (limited_res (H := w5.heap.size) V1 C1 C2 A' c' w7 hrd7 hf7)
                 have qz7 := qz.keep hk7 (fun h => h))
              | (go_at_call 66
                 (with_reducible refine HLL.out.mono ?_)
                 rintro e w8 ⟨hres, hk8⟩
                 obtain ⟨V', r', err, A'', n'', cc', rfl, hout⟩ := hres.out
                 have qz8 := qz7.keep hk8 (fun h => h)
                 have z0 : w8.cell? ⟨w.heap.size + 1 + 1 + 1, 0, none⟩ = some (.int .i64 0) := qz8.cell 0
                 have z1 : w8.cell? ⟨w.heap.size + 1 + 1 + 1, 1, none⟩ = some (.slice none 0 0) := qz8.cell 1
                 have z2 : w8.cell? ⟨w.heap.size + 1 + 1 + 1, 2, none⟩ = some (.int .i64 0) := qz8.cell 2
                 have f0 := qz8.frozen 0
                 have f1 := qz8.frozen 1
                 have f2 := qz8.frozen 2))
            have hx := ((qz8.put 0 (.int .i64 V')).put 1 (.slice A'' n'' cc')).put 2 (.int .i64 r')
            have hzl : w.heap.size + 1 + 1 + 1 < w5.heap.size := qz.lt
            have A8 : Keep NoF w w8 := (k5.trans hk7 fun _ _ h => h).trans hk8 fun _ _ h => h
            have hkf := A8.set3 (b := w.heap.size + 1 + 1 + 1) (by omega) (.int .i64 V') (.slice A'' n'' cc') (.int .i64 r')
            have hset : ∀ k, k ≠ w.heap.size + 1 + 1 + 1 → (((w8.setCell ⟨w.heap.size + 1 + 1 + 1, 0, none⟩ (.int .i64 V')).setCell ⟨w.heap.size + 1 + 1 + 1, 1, none⟩ (.slice A'' n'' cc')).setCell ⟨w.heap.size + 1 + 1 + 1, 2, none⟩ (.int .i64 r')).heap[k]? = w8.heap[k]? := fun k hne => ((Below.heap_setCell _ _ _ k hne).trans (Below.heap_setCell _ _ _ k hne)).trans (Below.heap_setCell _ _ _ k hne)
            generalize ((w8.setCell ⟨w.heap.size + 1 + 1 + 1, 0, none⟩ (.int .i64 V')).setCell ⟨w.heap.size + 1 + 1 + 1, 1, none⟩ (.slice A'' n'' cc')).setCell ⟨w.heap.size + 1 + 1 + 1, 2, none⟩ (.int .i64 r') = W6 at *
            have hx0 : W6.cell? ⟨w.heap.size + 1 + 1 + 1, 0, none⟩ = some (.int .i64 V') := hx.cell 0
            have hx1 : W6.cell? ⟨w.heap.size + 1 + 1 + 1, 1, none⟩ = some (.slice A'' n'' cc') := hx.cell 1
            have hx2 : W6.cell? ⟨w.heap.size + 1 + 1 + 1, 2, none⟩ = some (.int .i64 r') := hx.cell 2
            refine bodyPost_ret (v := .tuple #[.agg #[.int .i64 V', .slice A'' n'' cc', .int .i64 r'], .int .i64 err]) (by simp [results, Try.results33, go_sem, hx0, hx1, hx2]) rfl ?_
            have hw5 := k5.size
            exact HFIN.out _ _ (DgRes.move hout (by omega) fun k hk => hset k (by omega)) hkf
          · have e4 : (V1 != V2) = false := by simp [h4]
            have e5 : (V1 != V3) = true := by simp [h5]
            have ht : (3 : Int) ≠ 0 ∧ 3 = threeE ae be ce V1 V2 V3 := by simp [threeE, H1.out, H2.out, H3.out, h5]
            have HTT := Lib.hid ht
            clear ht h4 h5
            have z0 : w5.cell? ⟨w.heap.size + 1 + 1 + 1, 0, none⟩ = some (.int .i64 0) := qz.cell 0
            have z1 : w5.cell? ⟨w.heap.size + 1 + 1 + 1, 1, none⟩ = some (.slice none 0 0) := qz.cell 1
            have z2 : w5.cell? ⟨w.heap.size + 1 + 1 + 1, 2, none⟩ = some (.int .i64 0) := qz.cell 2
            have f0 := qz.frozen 0
            have f1 := qz.frozen 1
            have f2 := qz.frozen 2
            have hx := ((qz.put 0 (.int .i64 0)).put 1 (.slice none 0 0)).put 2 (.int .i64 0)
            have hkf := k5.set3 (b := w.heap.size + 1 + 1 + 1) (by omega) (.int .i64 0) (.slice none 0 0) (.int .i64 0)
            have HL := Lib.hid (HERR.out _ (HTT.out) _ hkf)
            go_wp2
            generalize ((w5.setCell ⟨w.heap.size + 1 + 1 + 1, 0, none⟩ (.int .i64 0)).setCell ⟨w.heap.size + 1 + 1 + 1, 1, none⟩ (.slice none 0 0)).setCell ⟨w.heap.size + 1 + 1 + 1, 2, none⟩ (.int .i64 0) = W6 at *
            have hx0 : W6.cell? ⟨w.heap.size + 1 + 1 + 1, 0, none⟩ = some (.int .i64 0) := hx.cell 0
            have hx1 : W6.cell? ⟨w.heap.size + 1 + 1 + 1, 1, none⟩ = some (.slice none 0 0) := hx.cell 1
            have hx2 : W6.cell? ⟨w.heap.size + 1 + 1 + 1, 2, none⟩ = some (.int .i64 0) := hx.cell 2
            refine bodyPost_ret (v := .tuple #[.agg #[.int .i64 0, .slice none 0 0, .int .i64 0], .int .i64 3]) (by simp [results, Try.results33, go_sem, hx0, hx1, hx2]) rfl ?_
            exact HL.out
        · have e4 : (V1 != V2) = true := by simp [h4]
          have ht : (3 : Int) ≠ 0 ∧ 3 = threeE ae be ce V1 V2 V3 := by simp [threeE, H1.out, H2.out, H3.out, h4]
          have HTT := Lib.hid ht
          clear ht h4
          have z0 : w5.cell? ⟨w.heap.size + 1 + 1 + 1, 0, none⟩ = some (.int .i64 0) := qz.cell 0
          have z1 : w5.cell? ⟨w.heap.size + 1 + 1 + 1, 1, none⟩ = some (.slice none 0 0) := qz.cell 1
          have z2 : w5.cell? ⟨w.heap.size + 1 + 1 + 1, 2, none⟩ = some (.int .i64 0) := qz.cell 2
          have f0 := qz.frozen 0
          have f1 := qz.frozen 1
          have f2 := qz.frozen 2
          have hx := ((qz.put 0 (.int .i64 0)).put 1 (.slice none 0 0)).put 2 (.int .i64 0)
          have hkf := k5.set3 (b := w.heap.size + 1 + 1 + 1) (by omega) (.int .i64 0) (.slice none 0 0) (.int .i64 0)
          have HL := Lib.hid (HERR.out _ (HTT.out) _ hkf)
          go_wp2
          generalize ((w5.setCell ⟨w.heap.size + 1 + 1 + 1, 0, none⟩ (.int .i64 0)).setCell ⟨w.heap.size + 1 + 1 + 1, 1, none⟩ (.slice none 0 0)).setCell ⟨w.heap.size + 1 + 1 + 1, 2, none⟩ (.int .i64 0) = W6 at *
          have hx0 : W6.cell? ⟨w.heap.size + 1 + 1 + 1, 0, none⟩ = some (.int .i64 0) := hx.cell 0
          have hx1 : W6.cell? ⟨w.heap.size + 1 + 1 + 1, 1, none⟩ = some (.slice none 0 0) := hx.cell 1
          have hx2 : W6.cell? ⟨w.heap.size + 1 + 1 + 1, 2, none⟩ = some (.int .i64 0) := hx.cell 2
          refine bodyPost_ret (v := .tuple #[.agg #[.int .i64 0, .slice none 0 0, .int .i64 0], .int .i64 3]) (by simp [results, Try.results33, go_sem, hx0, hx1, hx2]) rfl ?_
          exact HL.out
      · have e3 : (ce != 0) = true := by simp [h3]
        have ht : ce ≠ 0 ∧ ce = threeE ae be ce V1 V2 V3 := by simp [threeE, H1.out, H2.out, h3]
        have HTT := Lib.hid ht
        clear ht h3
        have z0 : w5.cell? ⟨w.heap.size + 1 + 1 + 1, 0, none⟩ = some (.int .i64 0) := qz.cell 0
        have z1 : w5.cell? ⟨w.heap.size + 1 + 1 + 1, 1, none⟩ = some (.slice none 0 0) := qz.cell 1
        have z2 : w5.cell? ⟨w.heap.size + 1 + 1 + 1, 2, none⟩ = some (.int .i64 0) := qz.cell 2
        have f0 := qz.frozen 0
        have f1 := qz.frozen 1
        have f2 := qz.frozen 2
        have hx := ((qz.put 0 (.int .i64 0)).put 1 (.slice none 0 0)).put 2 (.int .i64 0)
        have hkf := k5.set3 (b := w.heap.size + 1 + 1 + 1) (by omega) (.int .i64 0) (.slice none 0 0) (.int .i64 0)
        have HL := Lib.hid (HERR.out _ (HTT.out) _ hkf)
        go_wp2
        generalize ((w5.setCell ⟨w.heap.size + 1 + 1 + 1, 0, none⟩ (.int .i64 0)).setCell ⟨w.heap.size + 1 + 1 + 1, 1, none⟩ (.slice none 0 0)).setCell ⟨w.heap.size + 1 + 1 + 1, 2, none⟩ (.int .i64 0) = W6 at *
        have hx0 : W6.cell? ⟨w.heap.size + 1 + 1 + 1, 0, none⟩ = some (.int .i64 0) := hx.cell 0
        have hx1 : W6.cell? ⟨w.heap.size + 1 + 1 + 1, 1, none⟩ = some (.slice none 0 0) := hx.cell 1
        have hx2 : W6.cell? ⟨w.heap.size + 1 + 1 + 1, 2, none⟩ = some (.int .i64 0) := hx.cell 2
        refine bodyPost_ret (v := .tuple #[.agg #[.int .i64 0, .slice none 0 0, .int .i64 0], .int .i64 ce]) (by simp [results, Try.results33, go_sem, hx0, hx1, hx2]) rfl ?_
        exact HL.out
    · have e2 : (be != 0) = true := by simp [h2]
      have ht : be ≠ 0 ∧ be = threeE ae be ce V1 V2 V3 := by simp [threeE, H1.out, h2]
      have HTT := Lib.hid ht
      clear ht h2
      have z0 : w4.cell? ⟨w.heap.size + 1 + 1 + 1, 0, none⟩ = some (.int .i64 0) := qz.cell 0
      have z1 : w4.cell? ⟨w.heap.size + 1 + 1 + 1, 1, none⟩ = some (.slice none 0 0) := qz.cell 1
      have z2 : w4.cell? ⟨w.heap.size + 1 + 1 + 1, 2, none⟩ = some (.int .i64 0) := qz.cell 2
      have f0 := qz.frozen 0
      have f1 := qz.frozen 1
      have f2 := qz.frozen 2
      have hx := ((qz.put 0 (.int .i64 0)).put 1 (.slice none 0 0)).put 2 (.int .i64 0)
      have hkf := k4.set3 (b := w.heap.size + 1 + 1 + 1) (by omega) (.int .i64 0) (.slice none 0 0) (.int .i64 0)
      have HL := Lib.hid (HERR.out _ (HTT.out) _ hkf)
      go_wp2
      generalize ((w4.setCell ⟨w.heap.size + 1 + 1 + 1, 0, none⟩ (.int .i64 0)).setCell ⟨w.heap.size + 1 + 1 + 1, 1, none⟩ (.slice none 0 0)).setCell ⟨w.heap.size + 1 + 1 + 1, 2, none⟩ (.int .i64 0) = W6 at *
      have hx0 : W6.cell? ⟨w.heap.size + 1 + 1 + 1, 0, none⟩ = some (.int .i64 0) := hx.cell 0
      have hx1 : W6.cell? ⟨w.heap.size + 1 + 1 + 1, 1, none⟩ = some (.slice none 0 0) := hx.cell 1
      have hx2 : W6.cell? ⟨w.heap.size + 1 + 1 + 1, 2, none⟩ = some (.int .i64 0) := hx.cell 2
      refine bodyPost_ret (v := .tuple #[.agg #[.int .i64 0, .slice none 0 0, .int .i64 0], .int .i64 be]) (by simp [results, Try.results33, go_sem, hx0, hx1, hx2]) rfl ?_
      exact HL.out
  · have e1 : (ae != 0) = true := by simp [h1]
    have ht : ae ≠ 0 ∧ ae = threeE ae be ce V1 V2 V3 := by simp [threeE, h1]
    have HTT := Lib.hid ht
    clear ht h1
    have z0 : w3.cell? ⟨w.heap.size + 1 + 1 + 1, 0, none⟩ = some (.int .i64 0) := qz.cell 0
    have z1 : w3.cell? ⟨w.heap.size + 1 + 1 + 1, 1, none⟩ = some (.slice none 0 0) := qz.cell 1
    have z2 : w3.cell? ⟨w.heap.size + 1 + 1 + 1, 2, none⟩ = some (.int .i64 0) := qz.cell 2
    have f0 := qz.frozen 0
    have f1 := qz.frozen 1
    have f2 := qz.frozen 2
    have hx := ((qz.put 0 (.int .i64 0)).put 1 (.slice none 0 0)).put 2 (.int .i64 0)
    have hkf := k3.set3 (b := w.heap.size + 1 + 1 + 1) (by omega) (.int .i64 0) (.slice none 0 0) (.int .i64 0)
    have HL := Lib.hid (HERR.out _ (HTT.out) _ hkf)
    go_wp2
    generalize ((w3.setCell ⟨w.heap.size + 1 + 1 + 1, 0, none⟩ (.int .i64 0)).setCell ⟨w.heap.size + 1 + 1 + 1, 1, none⟩ (.slice none 0 0)).setCell ⟨w.heap.size + 1 + 1 + 1, 2, none⟩ (.int .i64 0) = W6 at *
    have hx0 : W6.cell? ⟨w.heap.size + 1 + 1 + 1, 0, none⟩ = some (.int .i64 0) := hx.cell 0
    have hx1 : W6.cell? ⟨w.heap.size + 1 + 1 + 1, 1, none⟩ = some (.slice none 0 0) := hx.cell 1
    have hx2 : W6.cell? ⟨w.heap.size + 1 + 1 + 1, 2, none⟩ = some (.int .i64 0) := hx.cell 2
    refine bodyPost_ret (v := .tuple #[.agg #[.int .i64 0, .slice none 0 0, .int .i64 0], .int .i64 ae]) (by simp [results, Try.results33, go_sem, hx0, hx1, hx2]) rfl ?_
    exact HL.out
end Go.Proofs.Ytengdldkkmknpaa
