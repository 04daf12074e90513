/- What the reference's Not does. What the reference's ite does. What the reference's Ite does. No condition. -/
import Derived.Test.YtgdmcidcappkpaaROps
set_option linter.unusedVariables false
set_option linter.unusedSimpArgs false
namespace Go.Proofs.Ytgdmcidcappkpaa
open Go.RowKit
open Dd (Rn rat ofN toN checkErr den lo var vr mk BOp canon)

set_option maxRecDepth 100000 in
set_option maxHeartbeats 1000000 in
theorem rNot_any (a : Dg) (w : World) (ha : a.In w) : Calls Try.prog 71 #[a.val] w (OpPost w a.V [a] notSem) := by
  have HT := Lib.hid fun (w1 : World) (hk : Keep NoF w w1) => (show Calls Try.prog 81 #[a.val] w1 (fun e w' => e = .returned (.int .i64 a.err) ∧ Keep NoF w1 w') from rcheck_any a.V a.R a.root a.sl w1 ha.2 (ha.1.kept hk fun _ _ h => h))
  by_cases hte : a.err = 0
  · rw [hte] at HT
    have hop : opErr a.V [a] = 0 := by simp [opErr, dgErr, hte]
    obtain ⟨v', M1, r1, A1, c1, e1, f1, O1, v1, hden⟩ := opd_of a w ha hte
    have hwi : Dd.Within v' a.fn := by rw [← funext hden]; exact Dd.valid_within v1 _ v1.root
    have hpost : ∀ e w', (∃ N t, Dd.Good N ∧ t < N.length + 2 ∧ (∀ ρ, den N t ρ = !a.fn ρ) ∧ DgRes w.heap.size v' (canon N t) e w') → Keep NoF w w' → OpPost w a.V [a] notSem e w' := fun e w' hh hk => by
      obtain ⟨N, t, g1, g2, g3, g4⟩ := hh
      refine ⟨fun h => absurd hop h, fun _ => ⟨N, t, g1, g2, fun ρ => ?_, by rw [e1]; exact g4⟩, hk⟩
      rw [g3]
      simp [notSem]
    have hv24 := v1.vars
    generalize OpPost w a.V [a] notSem = PP at *
    rw [f1] at HT ⊢
    clear hop e1 f1 hte ha v1 hden
    generalize a.fn = fa at *
    have k1 : Keep NoF w ((w.alloc (.cells #[.int .i64 v', .slice A1 M1.length c1, .int .i64 r1] 27)).alloc (.cells #[.int .i64 0, .slice none 0 0, .int .i64 0] 27)) := ((Keep.refl _ _).alloc _).alloc _
    have qa : Bk ((w.alloc (.cells #[.int .i64 v', .slice A1 M1.length c1, .int .i64 r1] 27)).alloc (.cells #[.int .i64 0, .slice none 0 0, .int .i64 0] 27)) w.heap.size 27 #[.int .i64 v', .slice A1 M1.length c1, .int .i64 r1] := (Bk.new' _ _ _ (by simp)).alloc _
    have qz : Bk ((w.alloc (.cells #[.int .i64 v', .slice A1 M1.length c1, .int .i64 r1] 27)).alloc (.cells #[.int .i64 0, .slice none 0 0, .int .i64 0] 27)) (w.heap.size + 1) 27 #[.int .i64 0, .slice none 0 0, .int .i64 0] := Bk.new' _ _ _ (by simp)
    go_enter Try.func71, Try.ntmps71
    go_upto_region 1 with (fail)
    generalize (w.alloc (.cells #[.int .i64 v', .slice A1 M1.length c1, .int .i64 r1] 27)).alloc (.cells #[.int .i64 0, .slice none 0 0, .int .i64 0] 27) = W2 at *
    have a0 : W2.cell? ⟨w.heap.size, 0, none⟩ = some (.int .i64 v') := qa.cell 0
    have a1 : W2.cell? ⟨w.heap.size, 1, none⟩ = some (.slice A1 M1.length c1) := qa.cell 1
    have a2 : W2.cell? ⟨w.heap.size, 2, none⟩ = some (.int .i64 r1) := qa.cell 2
    have HT2 := Lib.hid (HT.out _ k1)
    go_upto_region 2 with (go_at_call 81
                           (with_reducible refine HT2.out.mono ?_)
                           rintro e w4 ⟨rfl, hk4⟩)
    have k4 := k1.trans hk4 fun _ _ h => h
    have qa4 := qa.keep hk4 (fun h => h)
    have qz4 := qz.keep hk4 (fun h => h)
    have g0 : w4.cell? ⟨w.heap.size, 0, none⟩ = some (.int .i64 v') := qa4.cell 0
    have g1 : w4.cell? ⟨w.heap.size, 1, none⟩ = some (.slice A1 M1.length c1) := qa4.cell 1
    have g2 : w4.cell? ⟨w.heap.size, 2, none⟩ = some (.int .i64 r1) := qa4.cell 2
    have hs4 := k4.size
    have HC := Lib.hid (flip_any v' hv24 hwi (O1.keep k4))
    go_wp2_with (first
      | (go_at_call 93
         (with_reducible refine HC.out.mono ?_)
         rintro e w7 ⟨N, t, hg, ht, hd, A', c', rfl, hrd7, hk7, hf7⟩
         generalize hC : canon N t = C at *
         obtain ⟨C1, C2⟩ := C
         have HCE := Lib.hid (And.intro hg (And.intro ht (And.intro hd hC)))
         clear hC hg ht hd
         have HLL := Lib.hid (limited_res (H := w4.heap.size) v' C1 C2 A' c' w7 hrd7 hf7)
         have qz7 := qz4.keep hk7 (fun h => h))
      | (go_at_call 68
         (with_reducible refine HLL.out.mono ?_)
         rintro e w8 ⟨hres, hk8⟩
         obtain ⟨V', r', err, A'', n'', cc', rfl, hout⟩ := hres.out
         have qz8 := qz7.keep hk8 (fun h => h)
         have z0 : w8.cell? ⟨w.heap.size + 1, 0, none⟩ = some (.int .i64 0) := qz8.cell 0
         have z1 : w8.cell? ⟨w.heap.size + 1, 1, none⟩ = some (.slice none 0 0) := qz8.cell 1
         have z2 : w8.cell? ⟨w.heap.size + 1, 2, none⟩ = some (.int .i64 0) := qz8.cell 2
         have f0 := qz8.frozen 0
         have f1 := qz8.frozen 1
         have f2 := qz8.frozen 2))
    have hx := ((qz8.put 0 (.int .i64 V')).put 1 (.slice A'' n'' cc')).put 2 (.int .i64 r')
    have hzl : w.heap.size + 1 < W2.heap.size := qz.lt
    have hz4 := hk4.size
    have A8 : Keep NoF w w8 := (k4.trans hk7 fun _ _ h => h).trans hk8 fun _ _ h => h
    have hkf := A8.set3 (b := w.heap.size + 1) (by omega) (.int .i64 V') (.slice A'' n'' cc') (.int .i64 r')
    have hset : ∀ k, k ≠ w.heap.size + 1 → (((w8.setCell ⟨w.heap.size + 1, 0, none⟩ (.int .i64 V')).setCell ⟨w.heap.size + 1, 1, none⟩ (.slice A'' n'' cc')).setCell ⟨w.heap.size + 1, 2, none⟩ (.int .i64 r')).heap[k]? = w8.heap[k]? := fun k hne => ((Below.heap_setCell _ _ _ k hne).trans (Below.heap_setCell _ _ _ k hne)).trans (Below.heap_setCell _ _ _ k hne)
    generalize ((w8.setCell ⟨w.heap.size + 1, 0, none⟩ (.int .i64 V')).setCell ⟨w.heap.size + 1, 1, none⟩ (.slice A'' n'' cc')).setCell ⟨w.heap.size + 1, 2, none⟩ (.int .i64 r') = W6 at *
    have hx0 : W6.cell? ⟨w.heap.size + 1, 0, none⟩ = some (.int .i64 V') := hx.cell 0
    have hx1 : W6.cell? ⟨w.heap.size + 1, 1, none⟩ = some (.slice A'' n'' cc') := hx.cell 1
    have hx2 : W6.cell? ⟨w.heap.size + 1, 2, none⟩ = some (.int .i64 r') := hx.cell 2
    refine bodyPost_ret (v := .tuple #[.agg #[.int .i64 V', .slice A'' n'' cc', .int .i64 r'], .int .i64 err]) (by simp [results, Try.results71, go_sem, hx0, hx1, hx2]) rfl ?_
    obtain ⟨hg, ht, hd, hC⟩ := HCE.out
    exact hpost _ _ ⟨N, t, hg, ht, hd, by rw [hC]; exact DgRes.move hout (by omega) fun k hk => hset k (by omega)⟩ hkf
  · have hop : opErr a.V [a] = a.err := by simp [opErr, dgErr, hte]
    have hpost : ∀ e w', e = .returned (.tuple #[dgZero, .int .i64 a.err]) → Keep NoF w w' → OpPost w a.V [a] notSem e w' := fun e w' hh hk => ⟨fun _ => by rw [hh, hop], fun h => absurd (hop ▸ h) hte, hk⟩
    have ha1 := ha.1
    generalize OpPost w a.V [a] notSem = PP at *
    generalize a.err = te at *
    obtain ⟨V1, R1, r1, s1⟩ := a
    simp only at ha1
    obtain ⟨_, A1, c1, rfl, _, _⟩ := ha1
    simp only [Dg.val] at HT ⊢
    clear ha hop
    have e1 : (te != 0) = true := by simp [hte]
    have k1 : Keep NoF w ((w.alloc (.cells #[.int .i64 V1, .slice A1 R1.length c1, .int .i64 r1] 27)).alloc (.cells #[.int .i64 0, .slice none 0 0, .int .i64 0] 27)) := ((Keep.refl _ _).alloc _).alloc _
    have qa : Bk ((w.alloc (.cells #[.int .i64 V1, .slice A1 R1.length c1, .int .i64 r1] 27)).alloc (.cells #[.int .i64 0, .slice none 0 0, .int .i64 0] 27)) w.heap.size 27 #[.int .i64 V1, .slice A1 R1.length c1, .int .i64 r1] := (Bk.new' _ _ _ (by simp)).alloc _
    have qz : Bk ((w.alloc (.cells #[.int .i64 V1, .slice A1 R1.length c1, .int .i64 r1] 27)).alloc (.cells #[.int .i64 0, .slice none 0 0, .int .i64 0] 27)) (w.heap.size + 1) 27 #[.int .i64 0, .slice none 0 0, .int .i64 0] := Bk.new' _ _ _ (by simp)
    go_enter Try.func71, Try.ntmps71
    go_upto_region 1 with (fail)
    generalize (w.alloc (.cells #[.int .i64 V1, .slice A1 R1.length c1, .int .i64 r1] 27)).alloc (.cells #[.int .i64 0, .slice none 0 0, .int .i64 0] 27) = W2 at *
    have a0 : W2.cell? ⟨w.heap.size, 0, none⟩ = some (.int .i64 V1) := qa.cell 0
    have a1 : W2.cell? ⟨w.heap.size, 1, none⟩ = some (.slice A1 R1.length c1) := qa.cell 1
    have a2 : W2.cell? ⟨w.heap.size, 2, none⟩ = some (.int .i64 r1) := qa.cell 2
    have HT2 := Lib.hid (HT.out _ k1)
    have HTE := Lib.hid hte
    clear hte
    go_upto_region 2 with (go_at_call 81
                           (with_reducible refine HT2.out.mono ?_)
                           rintro e w4 ⟨rfl, hk4⟩)
    have k4 := k1.trans hk4 fun _ _ h => h
    have qz4 := qz.keep hk4 (fun h => h)
    have z0 : w4.cell? ⟨w.heap.size + 1, 0, none⟩ = some (.int .i64 0) := qz4.cell 0
    have z1 : w4.cell? ⟨w.heap.size + 1, 1, none⟩ = some (.slice none 0 0) := qz4.cell 1
    have z2 : w4.cell? ⟨w.heap.size + 1, 2, none⟩ = some (.int .i64 0) := qz4.cell 2
    have f0 := qz4.frozen 0
    have f1 := qz4.frozen 1
    have f2 := qz4.frozen 2
    go_wp2
    have hx := ((qz4.put 0 (.int .i64 0)).put 1 (.slice none 0 0)).put 2 (.int .i64 0)
    have hkf := k4.set3 (b := w.heap.size + 1) (by omega) (.int .i64 0) (.slice none 0 0) (.int .i64 0)
    generalize ((w4.setCell ⟨w.heap.size + 1, 0, none⟩ (.int .i64 0)).setCell ⟨w.heap.size + 1, 1, none⟩ (.slice none 0 0)).setCell ⟨w.heap.size + 1, 2, none⟩ (.int .i64 0) = W6 at *
    have hx0 : W6.cell? ⟨w.heap.size + 1, 0, none⟩ = some (.int .i64 0) := hx.cell 0
    have hx1 : W6.cell? ⟨w.heap.size + 1, 1, none⟩ = some (.slice none 0 0) := hx.cell 1
    have hx2 : W6.cell? ⟨w.heap.size + 1, 2, none⟩ = some (.int .i64 0) := hx.cell 2
    refine bodyPost_ret (v := .tuple #[.agg #[.int .i64 0, .slice none 0 0, .int .i64 0], .int .i64 te]) (by simp [results, Try.results71, go_sem, hx0, hx1, hx2]) rfl ?_
    exact hpost _ _ rfl hkf
end Go.Proofs.Ytgdmcidcappkpaa
namespace Go.Proofs.Ytgdmcidcappkpaa
open Go.RowKit
open Dd (Rn rat ofN toN checkErr den lo var vr mk BOp canon Within)

theorem Dd.Within.not {V : Nat} {f : (Nat → Bool) → Bool} (h : Within V f) : Within V (fun ρ => !f ρ) := fun v hv ρ b => by simp only [h v hv]
theorem Dd.Within.and {V : Nat} {f g : (Nat → Bool) → Bool} (h : Within V f) (h' : Within V g) : Within V (fun ρ => f ρ && g ρ) := fun v hv ρ b => by simp only [h v hv, h' v hv]
theorem Dd.Within.or {V : Nat} {f g : (Nat → Bool) → Bool} (h : Within V f) (h' : Within V g) : Within V (fun ρ => f ρ || g ρ) := fun v hv ρ b => by simp only [h v hv, h' v hv]

/-- A diagram of a function, alone: as an operand. -/
def QPost (w : World) (V : Nat) (f : (Nat → Bool) → Bool) (e : Ending) (w' : World) : Prop :=
  ∃ (A : Option Addr) (n c r : Nat) (M : List Dd.Nd), e = .returned (.agg #[.int .i64 V, .slice A n c, .int .i64 r]) ∧ Opd w' V f A n c r M ∧ Keep NoF w w' ∧ (∀ k, (Value.slice A n c).ownBlock = some k → w.heap.size ≤ k) ∧ canon M r = (r, M)
theorem QPost.fpost {w w' : World} {V : Nat} {f : (Nat → Bool) → Bool} {e : Ending} (h : QPost w V f e w') : FPost w V f e w' := by
  obtain ⟨A, n, c, r, M, rfl, ho, hk, hf, hc⟩ := h
  have hl := ho.len
  subst hl
  exact ⟨M, r, ho.good, ho.root, ho.den, by rw [hc]; exact ⟨A, c, rfl, ho.rd, hk, hf⟩⟩

section
variable {f g : (Nat → Bool) → Bool} {A1 A2 : Option Addr} {n1 c1 r1 n2 c2 r2 : Nat} {M1 M2 : List Dd.Nd} {w : World}
theorem comb0 (V : Nat) (hV : V ≤ 24) (wf : Within V f) (wg : Within V g) (H1 : Opd w V f A1 n1 c1 r1 M1) (H2 : Opd w V g A2 n2 c2 r2 M2) :
    Calls Try.prog 69 #[.int .i64 0, .agg #[.int .i64 V, .slice A1 n1 c1, .int .i64 r1], .agg #[.int .i64 V, .slice A2 n2 c2, .int .i64 r2]] w (QPost w V fun ρ => f ρ && g ρ) :=
  (combine_any 0 V (by omega) hV H1 H2).mono fun _ _ h => FPost.out (f := fun ρ => f ρ && g ρ) h (wf.and wg)
theorem comb1 (V : Nat) (hV : V ≤ 24) (wf : Within V f) (wg : Within V g) (H1 : Opd w V f A1 n1 c1 r1 M1) (H2 : Opd w V g A2 n2 c2 r2 M2) :
    Calls Try.prog 69 #[.int .i64 1, .agg #[.int .i64 V, .slice A1 n1 c1, .int .i64 r1], .agg #[.int .i64 V, .slice A2 n2 c2, .int .i64 r2]] w (QPost w V fun ρ => f ρ || g ρ) :=
  (combine_any 1 V (by omega) hV H1 H2).mono fun _ _ h => FPost.out (f := fun ρ => f ρ || g ρ) h (wf.or wg)
theorem flip_out (V : Nat) (hV : V ≤ 24) (wf : Within V f) (H1 : Opd w V f A1 n1 c1 r1 M1) :
    Calls Try.prog 93 #[.agg #[.int .i64 V, .slice A1 n1 c1, .int .i64 r1]] w (QPost w V fun ρ => !f ρ) :=
  (flip_any V hV wf H1).mono fun _ _ h => FPost.out h wf.not
end

end Go.Proofs.Ytgdmcidcappkpaa
namespace Go.Proofs.Ytgdmcidcappkpaa
open Go.RowKit
open Dd (Rn rat ofN toN checkErr den lo var vr mk BOp canon Within)

/-- The error of three diagrams. -/
def threeE (ae be ce V1 V2 V3 : Int) : Int := if ae ≠ 0 then ae else if be ≠ 0 then be else if ce ≠ 0 then ce else if V1 = V2 ∧ V1 = V3 then 0 else 3
theorem threeE_op (a b c : Dg) : threeE a.err b.err c.err a.V b.V c.V = opErr a.V [a, b, c] := by
  unfold threeE opErr dgErr dgErr dgErr dgErr
  by_cases h1 : a.err = 0
  · by_cases h2 : b.err = 0
    · by_cases h3 : c.err = 0
      · have e1 : (b.V = a.V) = (a.V = b.V) := propext ⟨Eq.symm, Eq.symm⟩
        have e2 : (c.V = a.V) = (a.V = c.V) := propext ⟨Eq.symm, Eq.symm⟩
        by_cases h4 : a.V = b.V
        · by_cases h5 : a.V = c.V
          · simp [h1, h2, h3, ← h4, ← h5]
          · simp [h1, h2, h3, ← h4, h5, e2]
        · simp [h1, h2, h3, h4, e1]
      · simp [h1, h2, h3]
    · simp [h1, h2]
  · simp [h1]

end Go.Proofs.Ytgdmcidcappkpaa
