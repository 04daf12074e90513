/- What the reference's Not does. What the reference's ite does. What the reference's Ite does. No condition. -/
import Derived.Test.YtgdmcidcappkpaaGreatROps
set_option linter.unusedVariables false
set_option linter.unusedSimpArgs false
namespace Go.Proofs.YtgdmcidcappkpaaGreat
open Go.RowKit
open Dd (Rn rat ofN toN checkErr den lo var vr mk BOp canon)

set_option maxRecDepth 100000 in
set_option maxHeartbeats 1000000 in
theorem rNot_any (a : Dg) (w : World) (ha : a.In w) : Calls Tryz.prog 40 #[a.val] w (OpPost w a.V [a] notSem) := by
  have HT := Lib.hid fun (w1 : World) (hk : Keep NoF w w1) => (show Calls Tryz.prog 71 #[a.val] w1 (fun e w' => e = .returned (.int .i64 a.err) ∧ Keep NoF w1 w') from rcheck_any a.V a.R a.root a.sl w1 ha.2 (ha.1.kept hk fun _ _ h => h))
  by_cases hte : a.err = 0
  · rw [hte] at HT
    have hop : opErr a.V [a] = 0 := by simp [opErr, dgErr, hte]
    obtain ⟨v', M1, r1, A1, c1, e1, f1, O1, v1, hden⟩ := opd_of a w ha hte
    have hwi : Dd.Within v' a.fn := by rw [← funext hden]; exact Dd.valid_within v1 _ v1.root
    have hpost : ∀ e w', (∃ N t, Dd.Good N ∧ t < N.length + 2 ∧ (∀ ρ, den N t ρ = !a.fn ρ) ∧ DgRes w.heap.size v' (canon N t) e w') → Keep NoF w w' → OpPost w a.V [a] notSem e w' := fun e w' hh hk => by
      obtain ⟨N, t, g1, g2, g3, g4⟩ := hh
      refine ⟨fun h => absurd hop h, fun _ => ⟨N, t, g1, g2, fun ρ => ?_, by rw [e1]; exact g4⟩, hk⟩
      rw [g3]
      simp [notSem]
    have hv24 := v1.vars
    generalize OpPost w a.V [a] notSem = PP at *
    rw [f1] at HT ⊢
    clear hop e1 f1 hte ha v1 hden
    generalize a.fn = fa at *
    have k1 : Keep NoF w ((w.alloc (.cells #[.int .i64 v', .slice A1 M1.length c1, .int .i64 r1] 24)).alloc (.cells #[.int .i64 0, .slice none 0 0, .int .i64 0] 24)) := ((Keep.refl _ _).alloc _).alloc _
    have qa : Bk ((w.alloc (.cells #[.int .i64 v', .slice A1 M1.length c1, .int .i64 r1] 24)).alloc (.cells #[.int .i64 0, .slice none 0 0, .int .i64 0] 24)) w.heap.size 24 #[.int .i64 v', .slice A1 M1.length c1, .int .i64 r1] := (Bk.new' _ _ _ (by simp)).alloc _
    have qz : Bk ((w.alloc (.cells #[.int .i64 v', .slice A1 M1.length c1, .int .i64 r1] 24)).alloc (.cells #[.int .i64 0, .slice none 0 0, .int .i64 0] 24)) (w.heap.size + 1) 24 #[.int .i64 0, .slice none 0 0, .int .i64 0] := Bk.new' _ _ _ (by simp)
    go_enter Tryz.func40, Tryz.ntmps40
    go_upto_region 1 with (fail)
    generalize (w.alloc (.cells #[.int .i64 v', .slice A1 M1.length c1, .int .i64 r1] 24)).alloc (.cells #[.int .i64 0, .slice none 0 0, .int .i64 0] 24) = W2 at *
    have a0 : W2.cell? ⟨w.heap.size, 0, none⟩ = some (.int .i64 v') := qa.cell 0
    have a1 : W2.cell? ⟨w.heap.size, 1, none⟩ = some (.slice A1 M1.length c1) := qa.cell 1
    have a2 : W2.cell? ⟨w.heap.size, 2, none⟩ = some (.int .i64 r1) := qa.cell 2
    have HT2 := Lib.hid (HT.out _ k1)
    go_upto_region 2 with (go_at_call 71
                           (with_reducible refine HT2.out.mono ?_)
                           rintro e w4 ⟨rfl, hk4⟩)
    have k4 := k1.trans hk4 fun _ _ h => h
    have qa4 := qa.keep hk4 (fun h => h)
    have qz4 := qz.keep hk4 (fun h => h)
    have g0 : w4.cell? ⟨w.heap.size, 0, none⟩ = some (.int .i64 v') := qa4.cell 0
    have g1 : w4.cell? ⟨w.heap.size, 1, none⟩ = some (.slice A1 M1.length c1) := qa4.cell 1
    have g2 : w4.cell? ⟨w.heap.size, 2, none⟩ = some (.int .i64 r1) := qa4.cell 2
    have hs4 := k4.size
    have HC := Lib.hid (flip_any v' hv24 hwi (O1.keep k4))
    go_wp2_with (first
      | (go_at_call 72
         (with_reducible refine HC.out.mono ?_)
         rintro e w7 ⟨N, t, hg, ht, hd, A', c', rfl, hrd7, hk7, hf7⟩
         generalize hC : canon N t = C at *
         obtain ⟨C1, C2⟩ := C
         have HCE := Lib.hid (And.intro hg (And.intro ht (And.intro hd hC)))
         clear hC hg ht hd
         have HLL := Lib.hid (limited_res (H := w4.heap.size) v' C1 C2 A' c' w7 hrd7 hf7)
         have qz7 := qz4.keep hk7 (fun h => h))
      | (go_at_call 68
         (with_reducible refine HLL.out.mono ?_)
         rintro e w8 ⟨hres, hk8⟩
         obtain ⟨V', r', err, A'', n'', cc', rfl, hout⟩ := hres.out
         have qz8 := qz7.keep hk8 (fun h => h)
         have z0 : w8.cell? ⟨w.heap.size + 1, 0, none⟩ = some (.int .i64 0) := qz8.cell 0
         have z1 : w8.cell? ⟨w.heap.size + 1, 1, none⟩ = some (.slice none 0 0) := qz8.cell 1
         have z2 : w8.cell? ⟨w.heap.size + 1, 2, none⟩ = some (.int .i64 0) := qz8.cell 2
         have f0 := qz8.frozen 0
         have f1 := qz8.frozen 1
         have f2 := qz8.frozen 2))
    have hx := ((qz8.put 0 (.int .i64 V')).put 1 (.slice A'' n'' cc')).put 2 (.int .i64 r')
    have hzl : w.heap.size + 1 < W2.heap.size := qz.lt
    have hz4 := hk4.size
    have A8 : Keep NoF w w8 := (k4.trans hk7 fun _ _ h => h).trans hk8 fun _ _ h => h
    have hkf := A8.set3 (b := w.heap.size + 1) (by omega) (.int .i64 V') (.slice A'' n'' cc') (.int .i64 r')
    have hset : ∀ k, k ≠ w.heap.size + 1 → (((w8.setCell ⟨w.heap.size + 1, 0, none⟩ (.int .i64 V')).setCell ⟨w.heap.size + 1, 1, none⟩ (.slice A'' n'' cc')).setCell ⟨w.heap.size + 1, 2, none⟩ (.int .i64 r')).heap[k]? = w8.heap[k]? := fun k hne => ((Below.heap_setCell _ _ _ k hne).trans (Below.heap_setCell _ _ _ k hne)).trans (Below.heap_setCell _ _ _ k hne)
    generalize ((w8.setCell ⟨w.heap.size + 1, 0, none⟩ (.int .i64 V')).setCell ⟨w.heap.size + 1, 1, none⟩ (.slice A'' n'' cc')).setCell ⟨w.heap.size + 1, 2, none⟩ (.int .i64 r') = W6 at *
    have hx0 : W6.cell? ⟨w.heap.size + 1, 0, none⟩ = some (.int .i64 V') := hx.cell 0
    have hx1 : W6.cell? ⟨w.heap.size + 1, 1, none⟩ = some (.slice A'' n'' cc') := hx.cell 1
    have hx2 : W6.cell? ⟨w.heap.size + 1, 2, none⟩ = some (.int .i64 r') := hx.cell 2
    refine bodyPost_ret (v := .tuple #[.agg #[.int .i64 V', .slice A'' n'' cc', .int .i64 r'], .int .i64 err]) (by simp [results, Tryz.results40, go_sem, hx0, hx1, hx2]) rfl ?_
    obtain ⟨hg, ht, hd, hC⟩ := HCE.out
    exact hpost _ _ ⟨N, t, hg, ht, hd, by rw [hC]; exact DgRes.move hout (by omega) fun k hk => hset k (by omega)⟩ hkf
  · have hop : opErr a.V [a] = a.err := by simp [opErr, dgErr, hte]
    have hpost : ∀ e w', e = .returned (.tuple #[dgZero, .int .i64 a.err]) → Keep NoF w w' → OpPost w a.V [a] notSem e w' := fun e w' hh hk => ⟨fun _ => by rw [hh, hop], fun h => absurd (hop ▸ h) hte, hk⟩
    have ha1 := ha.1
    generalize OpPost w a.V [a] notSem = PP at *
    generalize a.err = te at *
    obtain ⟨V1, R1, r1, s1⟩ := a
    simp only at ha1
    obtain ⟨_, A1, c1, rfl, _, _⟩ := ha1
    simp only [Dg.val] at HT ⊢
    clear ha hop
    have e1 : (te != 0) = true := by simp [hte]
    have k1 : Keep NoF w ((w.alloc (.cells #[.int .i64 V1, .slice A1 R1.length c1, .int .i64 r1] 24)).alloc (.cells #[.int .i64 0, .slice none 0 0, .int .i64 0] 24)) := ((Keep.refl _ _).alloc _).alloc _
    have qa : Bk ((w.alloc (.cells #[.int .i64 V1, .slice A1 R1.length c1, .int .i64 r1] 24)).alloc (.cells #[.int .i64 0, .slice none 0 0, .int .i64 0] 24)) w.heap.size 24 #[.int .i64 V1, .slice A1 R1.length c1, .int .i64 r1] := (Bk.new' _ _ _ (by simp)).alloc _
    have qz : Bk ((w.alloc (.cells #[.int .i64 V1, .slice A1 R1.length c1, .int .i64 r1] 24)).alloc (.cells #[.int .i64 0, .slice none 0 0, .int .i64 0] 24)) (w.heap.size + 1) 24 #[.int .i64 0, .slice none 0 0, .int .i64 0] := Bk.new' _ _ _ (by simp)
    go_enter Tryz.func40, Tryz.ntmps40
    go_upto_region 1 with (fail)
    generalize (w.alloc (.cells #[.int .i64 V1, .slice A1 R1.length c1, .int .i64 r1] 24)).alloc (.cells #[.int .i64 0, .slice none 0 0, .int .i64 0] 24) = W2 at *
    have a0 : W2.cell? ⟨w.heap.size, 0, none⟩ = some (.int .i64 V1) := qa.cell 0
    have a1 : W2.cell? ⟨w.heap.size, 1, none⟩ = some (.slice A1 R1.length c1) := qa.cell 1
    have a2 : W2.cell? ⟨w.heap.size, 2, none⟩ = some (.int .i64 r1) := qa.cell 2
    have HT2 := Lib.hid (HT.out _ k1)
    have HTE := Lib.hid hte
    clear hte
    go_upto_region 2 with (go_at_call 71
                           (with_reducible refine HT2.out.mono ?_)
                           rintro e w4 ⟨rfl, hk4⟩)
    have k4 := k1.trans hk4 fun _ _ h => h
    have qz4 := qz.keep hk4 (fun h => h)
    have z0 : w4.cell? ⟨w.heap.size + 1, 0, none⟩ = some (.int .i64 0) := qz4.cell 0
    have z1 : w4.cell? ⟨w.heap.size + 1, 1, none⟩ = some (.slice none 0 0) := qz4.cell 1
    have z2 : w4.cell? ⟨w.heap.size + 1, 2, none⟩ = some (.int .i64 0) := qz4.cell 2
    have f0 := qz4.frozen 0
    have f1 := qz4.frozen 1
    have f2 := qz4.frozen 2
    go_wp2
    have hx := ((qz4.put 0 (.int .i64 0)).put 1 (.slice none 0 0)).put 2 (.int .i64 0)
    have hkf := k4.set3 (b := w.heap.size + 1) (by omega) (.int .i64 0) (.slice none 0 0) (.int .i64 0)
    generalize ((w4.setCell ⟨w.heap.size + 1, 0, none⟩ (.int .i64 0)).setCell ⟨w.heap.size + 1, 1, none⟩ (.slice none 0 0)).setCell ⟨w.heap.size + 1, 2, none⟩ (.int .i64 0) = W6 at *
    have hx0 : W6.cell? ⟨w.heap.size + 1, 0, none⟩ = some (.int .i64 0) := hx.cell 0
    have hx1 : W6.cell? ⟨w.heap.size + 1, 1, none⟩ = some (.slice none 0 0) := hx.cell 1
    have hx2 : W6.cell? ⟨w.heap.size + 1, 2, none⟩ = some (.int .i64 0) := hx.cell 2
    refine bodyPost_ret (v := .tuple #[.agg #[.int .i64 0, .slice none 0 0, .int .i64 0], .int .i64 te]) (by simp [results, Tryz.results40, go_sem, hx0, hx1, hx2]) rfl ?_
    exact hpost _ _ rfl hkf
end Go.Proofs.YtgdmcidcappkpaaGreat
namespace Go.Proofs.YtgdmcidcappkpaaGreat
open Go.RowKit
open Dd (Rn rat ofN toN checkErr den lo var vr mk BOp canon Within)

theorem Dd.Within.not {V : Nat} {f : (Nat → Bool) → Bool} (h : Within V f) : Within V (fun ρ => !f ρ) := fun v hv ρ b => by simp only [h v hv]
theorem Dd.Within.and {V : Nat} {f g : (Nat → Bool) → Bool} (h : Within V f) (h' : Within V g) : Within V (fun ρ => f ρ && g ρ) := fun v hv ρ b => by simp only [h v hv, h' v hv]
theorem Dd.Within.or {V : Nat} {f g : (Nat → Bool) → Bool} (h : Within V f) (h' : Within V g) : Within V (fun ρ => f ρ || g ρ) := fun v hv ρ b => by simp only [h v hv, h' v hv]

/-- A diagram of a function, alone: as an operand. -/
def QPost (w : World) (V : Nat) (f : (Nat → Bool) → Bool) (e : Ending) (w' : World) : Prop :=
  ∃ (A : Option Addr) (n c r : Nat) (M : List Dd.Nd), e = .returned (.agg #[.int .i64 V, .slice A n c, .int .i64 r]) ∧ Opd w' V f A n c r M ∧ Keep NoF w w' ∧ (∀ k, (Value.slice A n c).ownBlock = some k → w.heap.size ≤ k) ∧ canon M r = (r, M)
theorem QPost.fpost {w w' : World} {V : Nat} {f : (Nat → Bool) → Bool} {e : Ending} (h : QPost w V f e w') : FPost w V f e w' := by
  obtain ⟨A, n, c, r, M, rfl, ho, hk, hf, hc⟩ := h
  have hl := ho.len
  subst hl
  exact ⟨M, r, ho.good, ho.root, ho.den, by rw [hc]; exact ⟨A, c, rfl, ho.rd, hk, hf⟩⟩

section
variable {f g : (Nat → Bool) → Bool} {A1 A2 : Option Addr} {n1 c1 r1 n2 c2 r2 : Nat} {M1 M2 : List Dd.Nd} {w : World}
theorem comb0 (V : Nat) (hV : V ≤ 24) (wf : Within V f) (wg : Within V g) (H1 : Opd w V f A1 n1 c1 r1 M1) (H2 : Opd w V g A2 n2 c2 r2 M2) :
    Calls Tryz.prog 69 #[.int .i64 0, .agg #[.int .i64 V, .slice A1 n1 c1, .int .i64 r1], .agg #[.int .i64 V, .slice A2 n2 c2, .int .i64 r2]] w (QPost w V fun ρ => f ρ && g ρ) :=
  (combine_any 0 V (by omega) hV H1 H2).mono fun _ _ h => FPost.out (f := fun ρ => f ρ && g ρ) h (wf.and wg)
theorem comb1 (V : Nat) (hV : V ≤ 24) (wf : Within V f) (wg : Within V g) (H1 : Opd w V f A1 n1 c1 r1 M1) (H2 : Opd w V g A2 n2 c2 r2 M2) :
    Calls Tryz.prog 69 #[.int .i64 1, .agg #[.int .i64 V, .slice A1 n1 c1, .int .i64 r1], .agg #[.int .i64 V, .slice A2 n2 c2, .int .i64 r2]] w (QPost w V fun ρ => f ρ || g ρ) :=
  (combine_any 1 V (by omega) hV H1 H2).mono fun _ _ h => FPost.out (f := fun ρ => f ρ || g ρ) h (wf.or wg)
theorem flip_out (V : Nat) (hV : V ≤ 24) (wf : Within V f) (H1 : Opd w V f A1 n1 c1 r1 M1) :
    Calls Tryz.prog 72 #[.agg #[.int .i64 V, .slice A1 n1 c1, .int .i64 r1]] w (QPost w V fun ρ => !f ρ) :=
  (flip_any V hV wf H1).mono fun _ _ h => FPost.out h wf.not
end

set_option maxRecDepth 100000 in
set_option maxHeartbeats 4000000 in
theorem rite_any (V : Nat) (hV : V ≤ 24) {f g h : (Nat → Bool) → Bool} {A1 A2 A3 : Option Addr} {n1 c1 r1 n2 c2 r2 n3 c3 r3 : Nat} {M1 M2 M3 : List Dd.Nd} {w : World} (wf : Within V f) (wg : Within V g) (wh : Within V h) (H1 : Opd w V f A1 n1 c1 r1 M1) (H2 : Opd w V g A2 n2 c2 r2 M2) (H3 : Opd w V h A3 n3 c3 r3 M3) :
    Calls Tryz.prog 77 #[.agg #[.int .i64 V, .slice A1 n1 c1, .int .i64 r1], .agg #[.int .i64 V, .slice A2 n2 c2, .int .i64 r2], .agg #[.int .i64 V, .slice A3 n3 c3, .int .i64 r3]] w (QPost w V fun ρ => if f ρ then g ρ else h ρ) := by
  have kk0 : Keep NoF w ((((w.alloc (.cells #[.int .i64 V, .slice A1 n1 c1, .int .i64 r1] 24)).alloc (.cells #[.int .i64 V, .slice A2 n2 c2, .int .i64 r2] 24)).alloc (.cells #[.int .i64 V, .slice A3 n3 c3, .int .i64 r3] 24)).alloc (.cells #[.int .i64 0, .slice none 0 0, .int .i64 0] 24)) := ((((Keep.refl _ _).alloc _).alloc _).alloc _).alloc _
  have q1 : Bk ((((w.alloc (.cells #[.int .i64 V, .slice A1 n1 c1, .int .i64 r1] 24)).alloc (.cells #[.int .i64 V, .slice A2 n2 c2, .int .i64 r2] 24)).alloc (.cells #[.int .i64 V, .slice A3 n3 c3, .int .i64 r3] 24)).alloc (.cells #[.int .i64 0, .slice none 0 0, .int .i64 0] 24)) w.heap.size 24 #[.int .i64 V, .slice A1 n1 c1, .int .i64 r1] := (((Bk.new' _ _ _ (by simp)).alloc _).alloc _).alloc _
  have q2 : Bk ((((w.alloc (.cells #[.int .i64 V, .slice A1 n1 c1, .int .i64 r1] 24)).alloc (.cells #[.int .i64 V, .slice A2 n2 c2, .int .i64 r2] 24)).alloc (.cells #[.int .i64 V, .slice A3 n3 c3, .int .i64 r3] 24)).alloc (.cells #[.int .i64 0, .slice none 0 0, .int .i64 0] 24)) (w.heap.size + 1) 24 #[.int .i64 V, .slice A2 n2 c2, .int .i64 r2] := ((Bk.new' _ _ _ (by simp)).alloc _).alloc _
  have q3 : Bk ((((w.alloc (.cells #[.int .i64 V, .slice A1 n1 c1, .int .i64 r1] 24)).alloc (.cells #[.int .i64 V, .slice A2 n2 c2, .int .i64 r2] 24)).alloc (.cells #[.int .i64 V, .slice A3 n3 c3, .int .i64 r3] 24)).alloc (.cells #[.int .i64 0, .slice none 0 0, .int .i64 0] 24)) (w.heap.size + 1 + 1) 24 #[.int .i64 V, .slice A3 n3 c3, .int .i64 r3] := (Bk.new' _ _ _ (by simp)).alloc _
  have qz : Bk ((((w.alloc (.cells #[.int .i64 V, .slice A1 n1 c1, .int .i64 r1] 24)).alloc (.cells #[.int .i64 V, .slice A2 n2 c2, .int .i64 r2] 24)).alloc (.cells #[.int .i64 V, .slice A3 n3 c3, .int .i64 r3] 24)).alloc (.cells #[.int .i64 0, .slice none 0 0, .int .i64 0] 24)) (w.heap.size + 1 + 1 + 1) 24 #[.int .i64 0, .slice none 0 0, .int .i64 0] := Bk.new' _ _ _ (by simp)
  have p1 := H1.keep kk0
  have p2 := H2.keep kk0
  have p3 := H3.keep kk0
  clear H1 H2 H3
  go_enter Tryz.func77, Tryz.ntmps77
  go_upto_region 1 with (fail)
  generalize (((w.alloc (.cells #[.int .i64 V, .slice A1 n1 c1, .int .i64 r1] 24)).alloc (.cells #[.int .i64 V, .slice A2 n2 c2, .int .i64 r2] 24)).alloc (.cells #[.int .i64 V, .slice A3 n3 c3, .int .i64 r3] 24)).alloc (.cells #[.int .i64 0, .slice none 0 0, .int .i64 0] 24) = W2 at *
  have u10 : W2.cell? ⟨w.heap.size, 0, none⟩ = some (.int .i64 V) := q1.cell 0
  have u11 : W2.cell? ⟨w.heap.size, 1, none⟩ = some (.slice A1 n1 c1) := q1.cell 1
  have u12 : W2.cell? ⟨w.heap.size, 2, none⟩ = some (.int .i64 r1) := q1.cell 2
  have u20 : W2.cell? ⟨w.heap.size + 1, 0, none⟩ = some (.int .i64 V) := q2.cell 0
  have u21 : W2.cell? ⟨w.heap.size + 1, 1, none⟩ = some (.slice A2 n2 c2) := q2.cell 1
  have u22 : W2.cell? ⟨w.heap.size + 1, 2, none⟩ = some (.int .i64 r2) := q2.cell 2
  have u30 : W2.cell? ⟨w.heap.size + 1 + 1, 0, none⟩ = some (.int .i64 V) := q3.cell 0
  have u31 : W2.cell? ⟨w.heap.size + 1 + 1, 1, none⟩ = some (.slice A3 n3 c3) := q3.cell 1
  have u32 : W2.cell? ⟨w.heap.size + 1 + 1, 2, none⟩ = some (.int .i64 r3) := q3.cell 2
  have hzl : w.heap.size + 1 + 1 + 1 < W2.heap.size := qz.lt
  have kd : Keep NoF W2 W2.drew := (Keep.refl _ _).drew
  have p1 := p1.keep kd
  have p2 := p2.keep kd
  have p3 := p3.keep kd
  have q1 := q1.keep kd (fun h => h)
  have q2 := q2.keep kd (fun h => h)
  have q3 := q3.keep kd (fun h => h)
  have qz := qz.keep kd (fun h => h)
  have kk0 := kk0.trans kd fun _ _ h => h
  clear kd
  go_region_held3 (fun w' => w'.cell? ⟨w.heap.size, 0, none⟩ = some (.int .i64 V) ∧ w'.cell? ⟨w.heap.size, 1, none⟩ = some (.slice A1 n1 c1) ∧ w'.cell? ⟨w.heap.size, 2, none⟩ = some (.int .i64 r1) ∧ w'.cell? ⟨w.heap.size + 1, 0, none⟩ = some (.int .i64 V) ∧ w'.cell? ⟨w.heap.size + 1, 1, none⟩ = some (.slice A2 n2 c2) ∧ w'.cell? ⟨w.heap.size + 1, 2, none⟩ = some (.int .i64 r2) ∧ w'.cell? ⟨w.heap.size + 1 + 1, 0, none⟩ = some (.int .i64 V) ∧ w'.cell? ⟨w.heap.size + 1 + 1, 1, none⟩ = some (.slice A3 n3 c3) ∧ w'.cell? ⟨w.heap.size + 1 + 1, 2, none⟩ = some (.int .i64 r3))
    (first | with_reducible exact ⟨u10, u11, u12, u20, u21, u22, u30, u31, u32⟩ | exact ⟨u10, u11, u12, u20, u21, u22, u30, u31, u32⟩ | exact ⟨y1.cell 0, y1.cell 1, y1.cell 2, y2.cell 0, y2.cell 1, y2.cell 2, y3.cell 0, y3.cell 1, y3.cell 2⟩)
    (first
    | (go_at_call 69
       (with_reducible refine (comb1 V hV (wf.and wg) (wf.not.and wh) s1 s3).mono ?_)
       rintro e v4 ⟨B4, m4, d4, t4, L4, rfl, s4, hk4, hf4, hc4⟩
       have kk4 := kk3.trans hk4 fun _ _ h => h
       have p1 := p1.keep hk4
       have q1 := q1.keep hk4 (fun h => h)
       have q2 := q2.keep hk4 (fun h => h)
       have q3 := q3.keep hk4 (fun h => h)
       have qz := qz.keep hk4 (fun h => h)
       have u10 : v4.cell? ⟨w.heap.size, 0, none⟩ = some (.int .i64 V) := q1.cell 0
       have u11 : v4.cell? ⟨w.heap.size, 1, none⟩ = some (.slice A1 n1 c1) := q1.cell 1
       have u12 : v4.cell? ⟨w.heap.size, 2, none⟩ = some (.int .i64 r1) := q1.cell 2
       have u20 : v4.cell? ⟨w.heap.size + 1, 0, none⟩ = some (.int .i64 V) := q2.cell 0
       have u21 : v4.cell? ⟨w.heap.size + 1, 1, none⟩ = some (.slice A2 n2 c2) := q2.cell 1
       have u22 : v4.cell? ⟨w.heap.size + 1, 2, none⟩ = some (.int .i64 r2) := q2.cell 2
       have u30 : v4.cell? ⟨w.heap.size + 1 + 1, 0, none⟩ = some (.int .i64 V) := q3.cell 0
       have u31 : v4.cell? ⟨w.heap.size + 1 + 1, 1, none⟩ = some (.slice A3 n3 c3) := q3.cell 1
       have u32 : v4.cell? ⟨w.heap.size + 1 + 1, 2, none⟩ = some (.int .i64 r3) := q3.cell 2
       have z0 : v4.cell? ⟨w.heap.size + 1 + 1 + 1, 0, none⟩ = some (.int .i64 0) := qz.cell 0
       have z1 : v4.cell? ⟨w.heap.size + 1 + 1 + 1, 1, none⟩ = some (.slice none 0 0) := qz.cell 1
       have z2 : v4.cell? ⟨w.heap.size + 1 + 1 + 1, 2, none⟩ = some (.int .i64 0) := qz.cell 2
       have f0 := qz.frozen 0
       have f1 := qz.frozen 1
       have f2 := qz.frozen 2
       have y1 := ((q1.far (p := ⟨w.heap.size + 1 + 1 + 1, 0, none⟩) (by show w.heap.size ≠ w.heap.size + 1 + 1 + 1; omega) (.int .i64 V)).far (p := ⟨w.heap.size + 1 + 1 + 1, 1, none⟩) (by show w.heap.size ≠ w.heap.size + 1 + 1 + 1; omega) (.slice B4 m4 d4)).far (p := ⟨w.heap.size + 1 + 1 + 1, 2, none⟩) (by show w.heap.size ≠ w.heap.size + 1 + 1 + 1; omega) (.int .i64 t4)
       have y2 := ((q2.far (p := ⟨w.heap.size + 1 + 1 + 1, 0, none⟩) (by show w.heap.size + 1 ≠ w.heap.size + 1 + 1 + 1; omega) (.int .i64 V)).far (p := ⟨w.heap.size + 1 + 1 + 1, 1, none⟩) (by show w.heap.size + 1 ≠ w.heap.size + 1 + 1 + 1; omega) (.slice B4 m4 d4)).far (p := ⟨w.heap.size + 1 + 1 + 1, 2, none⟩) (by show w.heap.size + 1 ≠ w.heap.size + 1 + 1 + 1; omega) (.int .i64 t4)
       have y3 := ((q3.far (p := ⟨w.heap.size + 1 + 1 + 1, 0, none⟩) (by show w.heap.size + 1 + 1 ≠ w.heap.size + 1 + 1 + 1; omega) (.int .i64 V)).far (p := ⟨w.heap.size + 1 + 1 + 1, 1, none⟩) (by show w.heap.size + 1 + 1 ≠ w.heap.size + 1 + 1 + 1; omega) (.slice B4 m4 d4)).far (p := ⟨w.heap.size + 1 + 1 + 1, 2, none⟩) (by show w.heap.size + 1 + 1 ≠ w.heap.size + 1 + 1 + 1; omega) (.int .i64 t4))
    | (go_at_call 69
       (with_reducible refine (comb0 V hV wf.not wh s2 p3).mono ?_)
       rintro e v3 ⟨B3, m3, d3, t3, L3, rfl, s3, hk3, hf3, hc3⟩
       have kk3 := kk2.trans hk3 fun _ _ h => h
       have p1 := p1.keep hk3
       have p2 := p2.keep hk3
       have p3 := p3.keep hk3
       have s1 := s1.keep hk3
       have s2 := s2.keep hk3
       have q1 := q1.keep hk3 (fun h => h)
       have q2 := q2.keep hk3 (fun h => h)
       have q3 := q3.keep hk3 (fun h => h)
       have qz := qz.keep hk3 (fun h => h)
       have u10 : v3.cell? ⟨w.heap.size, 0, none⟩ = some (.int .i64 V) := q1.cell 0
       have u11 : v3.cell? ⟨w.heap.size, 1, none⟩ = some (.slice A1 n1 c1) := q1.cell 1
       have u12 : v3.cell? ⟨w.heap.size, 2, none⟩ = some (.int .i64 r1) := q1.cell 2
       have u20 : v3.cell? ⟨w.heap.size + 1, 0, none⟩ = some (.int .i64 V) := q2.cell 0
       have u21 : v3.cell? ⟨w.heap.size + 1, 1, none⟩ = some (.slice A2 n2 c2) := q2.cell 1
       have u22 : v3.cell? ⟨w.heap.size + 1, 2, none⟩ = some (.int .i64 r2) := q2.cell 2
       have u30 : v3.cell? ⟨w.heap.size + 1 + 1, 0, none⟩ = some (.int .i64 V) := q3.cell 0
       have u31 : v3.cell? ⟨w.heap.size + 1 + 1, 1, none⟩ = some (.slice A3 n3 c3) := q3.cell 1
       have u32 : v3.cell? ⟨w.heap.size + 1 + 1, 2, none⟩ = some (.int .i64 r3) := q3.cell 2)
    | (go_at_call 72
       (with_reducible refine (flip_out V hV wf p1).mono ?_)
       rintro e v2 ⟨B2, m2, d2, t2, L2, rfl, s2, hk2, hf2, hc2⟩
       have kk2 := kk1.trans hk2 fun _ _ h => h
       have p1 := p1.keep hk2
       have p2 := p2.keep hk2
       have p3 := p3.keep hk2
       have s1 := s1.keep hk2
       have q1 := q1.keep hk2 (fun h => h)
       have q2 := q2.keep hk2 (fun h => h)
       have q3 := q3.keep hk2 (fun h => h)
       have qz := qz.keep hk2 (fun h => h)
       have u10 : v2.cell? ⟨w.heap.size, 0, none⟩ = some (.int .i64 V) := q1.cell 0
       have u11 : v2.cell? ⟨w.heap.size, 1, none⟩ = some (.slice A1 n1 c1) := q1.cell 1
       have u12 : v2.cell? ⟨w.heap.size, 2, none⟩ = some (.int .i64 r1) := q1.cell 2
       have u20 : v2.cell? ⟨w.heap.size + 1, 0, none⟩ = some (.int .i64 V) := q2.cell 0
       have u21 : v2.cell? ⟨w.heap.size + 1, 1, none⟩ = some (.slice A2 n2 c2) := q2.cell 1
       have u22 : v2.cell? ⟨w.heap.size + 1, 2, none⟩ = some (.int .i64 r2) := q2.cell 2
       have u30 : v2.cell? ⟨w.heap.size + 1 + 1, 0, none⟩ = some (.int .i64 V) := q3.cell 0
       have u31 : v2.cell? ⟨w.heap.size + 1 + 1, 1, none⟩ = some (.slice A3 n3 c3) := q3.cell 1
       have u32 : v2.cell? ⟨w.heap.size + 1 + 1, 2, none⟩ = some (.int .i64 r3) := q3.cell 2)
    | (go_at_call 69
       (with_reducible refine (comb0 V hV wf wg p1 p2).mono ?_)
       rintro e v1 ⟨B1, m1, d1, t1, L1, rfl, s1, hk1, hf1, hc1⟩
       have kk1 := kk0.trans hk1 fun _ _ h => h
       have p1 := p1.keep hk1
       have p2 := p2.keep hk1
       have p3 := p3.keep hk1
       have q1 := q1.keep hk1 (fun h => h)
       have q2 := q2.keep hk1 (fun h => h)
       have q3 := q3.keep hk1 (fun h => h)
       have qz := qz.keep hk1 (fun h => h)
       have u10 : v1.cell? ⟨w.heap.size, 0, none⟩ = some (.int .i64 V) := q1.cell 0
       have u11 : v1.cell? ⟨w.heap.size, 1, none⟩ = some (.slice A1 n1 c1) := q1.cell 1
       have u12 : v1.cell? ⟨w.heap.size, 2, none⟩ = some (.int .i64 r1) := q1.cell 2
       have u20 : v1.cell? ⟨w.heap.size + 1, 0, none⟩ = some (.int .i64 V) := q2.cell 0
       have u21 : v1.cell? ⟨w.heap.size + 1, 1, none⟩ = some (.slice A2 n2 c2) := q2.cell 1
       have u22 : v1.cell? ⟨w.heap.size + 1, 2, none⟩ = some (.int .i64 r2) := q2.cell 2
       have u30 : v1.cell? ⟨w.heap.size + 1 + 1, 0, none⟩ = some (.int .i64 V) := q3.cell 0
       have u31 : v1.cell? ⟨w.heap.size + 1 + 1, 1, none⟩ = some (.slice A3 n3 c3) := q3.cell 1
       have u32 : v1.cell? ⟨w.heap.size + 1 + 1, 2, none⟩ = some (.int .i64 r3) := q3.cell 2))
  all_goals
    have hx := ((qz.put 0 (.int .i64 V)).put 1 (.slice B4 m4 d4)).put 2 (.int .i64 t4)
    have hz1 := hk1.size
    have hz2 := hk2.size
    have hz3 := hk3.size
    have hz4 := kk0.size
    have hdz : W2.drew.heap.size = W2.heap.size := rfl
    have hkf := kk4.set3 (b := w.heap.size + 1 + 1 + 1) (by omega) (.int .i64 V) (.slice B4 m4 d4) (.int .i64 t4)
    have ho : Opd (((v4.setCell ⟨w.heap.size + 1 + 1 + 1, 0, none⟩ (.int .i64 V)).setCell ⟨w.heap.size + 1 + 1 + 1, 1, none⟩ (.slice B4 m4 d4)).setCell ⟨w.heap.size + 1 + 1 + 1, 2, none⟩ (.int .i64 t4)) V (fun ρ => f ρ && g ρ || (!f ρ && h ρ)) B4 m4 d4 t4 L4 := ⟨s4.len, s4.rd.kept (keep_set3 v4 (w.heap.size + 1 + 1 + 1) _ _ _) (fun k hk (e : k = w.heap.size + 1 + 1 + 1) => by have := hf4 k hk; omega), s4.good, s4.vars, s4.root, s4.den, s4.small⟩
    generalize ((v4.setCell ⟨w.heap.size + 1 + 1 + 1, 0, none⟩ (.int .i64 V)).setCell ⟨w.heap.size + 1 + 1 + 1, 1, none⟩ (.slice B4 m4 d4)).setCell ⟨w.heap.size + 1 + 1 + 1, 2, none⟩ (.int .i64 t4) = W6 at *
    have hx0 : W6.cell? ⟨w.heap.size + 1 + 1 + 1, 0, none⟩ = some (.int .i64 V) := hx.cell 0
    have hx1 : W6.cell? ⟨w.heap.size + 1 + 1 + 1, 1, none⟩ = some (.slice B4 m4 d4) := hx.cell 1
    have hx2 : W6.cell? ⟨w.heap.size + 1 + 1 + 1, 2, none⟩ = some (.int .i64 t4) := hx.cell 2
    go_wp2
    refine bodyPost_ret (v := .agg #[.int .i64 V, .slice B4 m4 d4, .int .i64 t4]) (by simp [results, Tryz.results77, go_sem, hx0, hx1, hx2]) rfl ?_
    have he : (fun ρ => f ρ && g ρ || (!f ρ && h ρ)) = fun ρ => if f ρ then g ρ else h ρ := by
      funext ρ
      cases f ρ <;> simp
    rw [← he]
    exact ⟨B4, m4, d4, t4, L4, rfl, ho, hkf, fun k hk => by have := hf4 k hk; omega, hc4⟩
end Go.Proofs.YtgdmcidcappkpaaGreat
namespace Go.Proofs.YtgdmcidcappkpaaGreat
open Go.RowKit
open Dd (Rn rat ofN toN checkErr den lo var vr mk BOp canon Within)

/-- The error of three diagrams. -/
def threeE (ae be ce V1 V2 V3 : Int) : Int := if ae ≠ 0 then ae else if be ≠ 0 then be else if ce ≠ 0 then ce else if V1 = V2 ∧ V1 = V3 then 0 else 3
theorem threeE_op (a b c : Dg) : threeE a.err b.err c.err a.V b.V c.V = opErr a.V [a, b, c] := by
  unfold threeE opErr dgErr dgErr dgErr dgErr
  by_cases h1 : a.err = 0
  · by_cases h2 : b.err = 0
    · by_cases h3 : c.err = 0
      · have e1 : (b.V = a.V) = (a.V = b.V) := propext ⟨Eq.symm, Eq.symm⟩
        have e2 : (c.V = a.V) = (a.V = c.V) := propext ⟨Eq.symm, Eq.symm⟩
        by_cases h4 : a.V = b.V
        · by_cases h5 : a.V = c.V
          · simp [h1, h2, h3, ← h4, ← h5]
          · simp [h1, h2, h3, ← h4, h5, e2]
        · simp [h1, h2, h3, h4, e1]
      · simp [h1, h2, h3]
    · simp [h1, h2]
  · simp [h1]

set_option maxRecDepth 100000 in
set_option maxHeartbeats 4000000 in
theorem rIte_any (a b c : Dg) (w : World) (ha : a.In w) (hb : b.In w) (hc : c.In w) : Calls Tryz.prog 46 #[a.val, b.val, c.val] w (OpPost w a.V [a, b, c] ite3Sem) := by
  have HA := Lib.hid fun (w1 : World) (hk : Keep NoF w w1) => (show Calls Tryz.prog 71 #[a.val] w1 (fun e w' => e = .returned (.int .i64 a.err) ∧ Keep NoF w1 w') from rcheck_any a.V a.R a.root a.sl w1 ha.2 (ha.1.kept hk fun _ _ h => h))
  have HB := Lib.hid fun (w1 : World) (hk : Keep NoF w w1) => (show Calls Tryz.prog 71 #[b.val] w1 (fun e w' => e = .returned (.int .i64 b.err) ∧ Keep NoF w1 w') from rcheck_any b.V b.R b.root b.sl w1 hb.2 (hb.1.kept hk fun _ _ h => h))
  have HC := Lib.hid fun (w1 : World) (hk : Keep NoF w w1) => (show Calls Tryz.prog 71 #[c.val] w1 (fun e w' => e = .returned (.int .i64 c.err) ∧ Keep NoF w1 w') from rcheck_any c.V c.R c.root c.sl w1 hc.2 (hc.1.kept hk fun _ _ h => h))
  have HERR : Hid (∀ (te : Int), (te ≠ 0 ∧ te = threeE a.err b.err c.err a.V b.V c.V) → ∀ w', Keep NoF w w' → OpPost w a.V [a, b, c] ite3Sem (.returned (.tuple #[.agg #[.int .i64 0, .slice none 0 0, .int .i64 0], .int .i64 te])) w') := Lib.hid fun te ht w' hk => by
    rw [threeE_op] at ht
    refine ⟨fun _ => by rw [← ht.2]; rfl, fun h => absurd (ht.2.trans h) ht.1, hk⟩
  have HOK : Hid (a.err = 0 → b.err = 0 → c.err = 0 → a.V = b.V → a.V = c.V → ∀ w1, Keep NoF w w1 → Calls Tryz.prog 77 #[a.val, b.val, c.val] w1 fun e w2 => ∃ (N : List Dd.Nd) (t : Nat) (C1 : Nat) (C2 : List Dd.Nd) (A' : Option Addr) (c' : Nat), e = .returned (.agg #[.int .i64 a.V, .slice A' C2.length c', .int .i64 C1]) ∧ Rd w2 (.slice A' C2.length c') 3 C2.length (ndsC C2) ∧ Keep NoF w1 w2 ∧ (∀ k, (Value.slice A' C2.length c').ownBlock = some k → w1.heap.size ≤ k) ∧
      ∀ e w', DgRes w.heap.size a.V (C1, C2) e w' → Keep NoF w w' → OpPost w a.V [a, b, c] ite3Sem e w') := Lib.hid fun h1 h2 h3 h4 h5 w1 hk => by
    obtain ⟨v, M1, r1, A1, c1, e1, f1, O1, v1, d1⟩ := opd_of a w ha h1
    obtain ⟨v', M2, r2, A2, c2, e2, f2, O2, v2, d2⟩ := opd_of b w hb h2
    obtain ⟨v'', M3, r3, A3, c3, e3, f3, O3, v3, d3⟩ := opd_of c w hc h3
    have hv1 : v' = v := by rw [e1, e2] at h4; omega
    have hv2 : v'' = v := by rw [e1, e3] at h5; omega
    subst hv1
    subst hv2
    have w1' : Within v'' a.fn := by rw [← funext d1]; exact Dd.valid_within v1 _ v1.root
    have w2' : Within v'' b.fn := by rw [← funext d2]; exact Dd.valid_within v2 _ v2.root
    have w3' : Within v'' c.fn := by rw [← funext d3]; exact Dd.valid_within v3 _ v3.root
    have hop : opErr a.V [a, b, c] = 0 := by rw [← threeE_op]; simp [threeE, h1, h2, h3, h4, ← h5]
    rw [f1, f2, f3]
    refine (rite_any v'' v1.vars w1' w2' w3' (O1.keep hk) (O2.keep hk) (O3.keep hk)).mono fun e w2 h => ?_
    obtain ⟨N, t, g1, g2, g3, A', c', rfl, hr, hk2, hf⟩ := h.fpost
    refine ⟨N, t, (canon N t).1, (canon N t).2, A', c', by rw [e1], hr, hk2, hf, fun e w' hres hkw => ⟨fun h => absurd hop h, fun _ => ⟨N, t, g1, g2, fun ρ => ?_, hres⟩, hkw⟩⟩
    rw [g3]
    simp [ite3Sem]
  have ha1 := ha.1
  have hb1 := hb.1
  have hc1 := hc.1
  clear ha hb hc
  generalize OpPost w a.V [a, b, c] ite3Sem = PP at *
  generalize a.err = ae at *
  generalize b.err = be at *
  generalize c.err = ce at *
  obtain ⟨V1, R1, r1, s1⟩ := a
  obtain ⟨V2, R2, r2, s2⟩ := b
  obtain ⟨V3, R3, r3, s3⟩ := c
  simp only at ha1 hb1 hc1 HERR HOK
  obtain ⟨_, A1, c1, rfl, _, _⟩ := ha1
  obtain ⟨_, A2, c2, rfl, _, _⟩ := hb1
  obtain ⟨_, A3, c3, rfl, _, _⟩ := hc1
  simp only [Dg.val] at HA HB HC HOK ⊢
  generalize R1.length = n1 at *
  generalize R2.length = n2 at *
  generalize R3.length = n3 at *
  have k1 : Keep NoF w ((((w.alloc (.cells #[.int .i64 V1, .slice A1 n1 c1, .int .i64 r1] 24)).alloc (.cells #[.int .i64 V2, .slice A2 n2 c2, .int .i64 r2] 24)).alloc (.cells #[.int .i64 V3, .slice A3 n3 c3, .int .i64 r3] 24)).alloc (.cells #[.int .i64 0, .slice none 0 0, .int .i64 0] 24)) := ((((Keep.refl _ _).alloc _).alloc _).alloc _).alloc _
  have q1 : Bk ((((w.alloc (.cells #[.int .i64 V1, .slice A1 n1 c1, .int .i64 r1] 24)).alloc (.cells #[.int .i64 V2, .slice A2 n2 c2, .int .i64 r2] 24)).alloc (.cells #[.int .i64 V3, .slice A3 n3 c3, .int .i64 r3] 24)).alloc (.cells #[.int .i64 0, .slice none 0 0, .int .i64 0] 24)) w.heap.size 24 #[.int .i64 V1, .slice A1 n1 c1, .int .i64 r1] := (((Bk.new' _ _ _ (by simp)).alloc _).alloc _).alloc _
  have q2 : Bk ((((w.alloc (.cells #[.int .i64 V1, .slice A1 n1 c1, .int .i64 r1] 24)).alloc (.cells #[.int .i64 V2, .slice A2 n2 c2, .int .i64 r2] 24)).alloc (.cells #[.int .i64 V3, .slice A3 n3 c3, .int .i64 r3] 24)).alloc (.cells #[.int .i64 0, .slice none 0 0, .int .i64 0] 24)) (w.heap.size + 1) 24 #[.int .i64 V2, .slice A2 n2 c2, .int .i64 r2] := ((Bk.new' _ _ _ (by simp)).alloc _).alloc _
  have q3 : Bk ((((w.alloc (.cells #[.int .i64 V1, .slice A1 n1 c1, .int .i64 r1] 24)).alloc (.cells #[.int .i64 V2, .slice A2 n2 c2, .int .i64 r2] 24)).alloc (.cells #[.int .i64 V3, .slice A3 n3 c3, .int .i64 r3] 24)).alloc (.cells #[.int .i64 0, .slice none 0 0, .int .i64 0] 24)) (w.heap.size + 1 + 1) 24 #[.int .i64 V3, .slice A3 n3 c3, .int .i64 r3] := (Bk.new' _ _ _ (by simp)).alloc _
  have qz : Bk ((((w.alloc (.cells #[.int .i64 V1, .slice A1 n1 c1, .int .i64 r1] 24)).alloc (.cells #[.int .i64 V2, .slice A2 n2 c2, .int .i64 r2] 24)).alloc (.cells #[.int .i64 V3, .slice A3 n3 c3, .int .i64 r3] 24)).alloc (.cells #[.int .i64 0, .slice none 0 0, .int .i64 0] 24)) (w.heap.size + 1 + 1 + 1) 24 #[.int .i64 0, .slice none 0 0, .int .i64 0] := Bk.new' _ _ _ (by simp)
  go_enter Tryz.func46, Tryz.ntmps46
  go_upto_region 1 with (fail)
  generalize (((w.alloc (.cells #[.int .i64 V1, .slice A1 n1 c1, .int .i64 r1] 24)).alloc (.cells #[.int .i64 V2, .slice A2 n2 c2, .int .i64 r2] 24)).alloc (.cells #[.int .i64 V3, .slice A3 n3 c3, .int .i64 r3] 24)).alloc (.cells #[.int .i64 0, .slice none 0 0, .int .i64 0] 24) = W2 at *
  have a10 : W2.cell? ⟨w.heap.size, 0, none⟩ = some (.int .i64 V1) := q1.cell 0
  have a11 : W2.cell? ⟨w.heap.size, 1, none⟩ = some (.slice A1 n1 c1) := q1.cell 1
  have a12 : W2.cell? ⟨w.heap.size, 2, none⟩ = some (.int .i64 r1) := q1.cell 2
  have HA2 := Lib.hid (HA.out _ k1)
  go_upto_region 2 with (go_at_call 71
                         (with_reducible refine HA2.out.mono ?_)
                         rintro e w3 ⟨rfl, hk3⟩)
  have k3 := k1.trans hk3 fun _ _ h => h
  have q1 := q1.keep hk3 (fun h => h)
  have q2 := q2.keep hk3 (fun h => h)
  have q3 := q3.keep hk3 (fun h => h)
  have qz := qz.keep hk3 (fun h => h)
  have HB2 := Lib.hid (HB.out _ k3)
  by_cases h1 : ae = 0
  · have e1 : (ae != 0) = false := by simp [h1]
    have H1 := Lib.hid h1
    clear h1
    have b20 : w3.cell? ⟨w.heap.size + 1, 0, none⟩ = some (.int .i64 V2) := q2.cell 0
    have b21 : w3.cell? ⟨w.heap.size + 1, 1, none⟩ = some (.slice A2 n2 c2) := q2.cell 1
    have b22 : w3.cell? ⟨w.heap.size + 1, 2, none⟩ = some (.int .i64 r2) := q2.cell 2
    go_upto_region 5 with (go_at_call 71
                           (with_reducible refine HB2.out.mono ?_)
                           rintro e w4 ⟨rfl, hk4⟩)
    have k4 := k3.trans hk4 fun _ _ h => h
    have q1 := q1.keep hk4 (fun h => h)
    have q2 := q2.keep hk4 (fun h => h)
    have q3 := q3.keep hk4 (fun h => h)
    have qz := qz.keep hk4 (fun h => h)
    have HC2 := Lib.hid (HC.out _ k4)
    by_cases h2 : be = 0
    · have e2 : (be != 0) = false := by simp [h2]
      have H2 := Lib.hid h2
      clear h2
      have c30 : w4.cell? ⟨w.heap.size + 1 + 1, 0, none⟩ = some (.int .i64 V3) := q3.cell 0
      have c31 : w4.cell? ⟨w.heap.size + 1 + 1, 1, none⟩ = some (.slice A3 n3 c3) := q3.cell 1
      have c32 : w4.cell? ⟨w.heap.size + 1 + 1, 2, none⟩ = some (.int .i64 r3) := q3.cell 2
      go_upto_region 8 with (go_at_call 71
                             (with_reducible refine HC2.out.mono ?_)
                             rintro e w5 ⟨rfl, hk5⟩)
      have k5 := k4.trans hk5 fun _ _ h => h
      have q1 := q1.keep hk5 (fun h => h)
      have q2 := q2.keep hk5 (fun h => h)
      have q3 := q3.keep hk5 (fun h => h)
      have qz := qz.keep hk5 (fun h => h)
      by_cases h3 : ce = 0
      · have e3 : (ce != 0) = false := by simp [h3]
        have H3 := Lib.hid h3
        clear h3
        have g10 : w5.cell? ⟨w.heap.size, 0, none⟩ = some (.int .i64 V1) := q1.cell 0
        have g11 : w5.cell? ⟨w.heap.size, 1, none⟩ = some (.slice A1 n1 c1) := q1.cell 1
        have g12 : w5.cell? ⟨w.heap.size, 2, none⟩ = some (.int .i64 r1) := q1.cell 2
        have g20 : w5.cell? ⟨w.heap.size + 1, 0, none⟩ = some (.int .i64 V2) := q2.cell 0
        have g21 : w5.cell? ⟨w.heap.size + 1, 1, none⟩ = some (.slice A2 n2 c2) := q2.cell 1
        have g22 : w5.cell? ⟨w.heap.size + 1, 2, none⟩ = some (.int .i64 r2) := q2.cell 2
        have g30 : w5.cell? ⟨w.heap.size + 1 + 1, 0, none⟩ = some (.int .i64 V3) := q3.cell 0
        have g31 : w5.cell? ⟨w.heap.size + 1 + 1, 1, none⟩ = some (.slice A3 n3 c3) := q3.cell 1
        have g32 : w5.cell? ⟨w.heap.size + 1 + 1, 2, none⟩ = some (.int .i64 r3) := q3.cell 2
        by_cases h4 : V1 = V2
        · by_cases h5 : V1 = V3
          · have e4 : (V1 != V2) = false := by simp [h4]
            have e5 : (V1 != V3) = false := by simp [h5]
            have HI := Lib.hid (HOK.out H1.out H2.out H3.out h4 h5 w5 k5)
            clear h4 h5
            go_wp2_with (first
              | (go_at_call 77
                 (with_reducible refine HI.out.mono ?_)
                 rintro e w7 ⟨N, t, C1, C2, A', c', rfl, hrd7, hk7, hf7, hfin⟩
                 have HFIN := Lib.hid hfin
                 clear hfin
                 have HLL := Lib.hid (limited_res (H := w5.heap.size) V1 C1 C2 A' c' w7 hrd7 hf7)
                 have qz7 := qz.keep hk7 (fun h => h))
              | (go_at_call 68
                 (with_reducible refine HLL.out.mono ?_)
                 rintro e w8 ⟨hres, hk8⟩
                 obtain ⟨V', r', err, A'', n'', cc', rfl, hout⟩ := hres.out
                 have qz8 := qz7.keep hk8 (fun h => h)
                 have z0 : w8.cell? ⟨w.heap.size + 1 + 1 + 1, 0, none⟩ = some (.int .i64 0) := qz8.cell 0
                 have z1 : w8.cell? ⟨w.heap.size + 1 + 1 + 1, 1, none⟩ = some (.slice none 0 0) := qz8.cell 1
                 have z2 : w8.cell? ⟨w.heap.size + 1 + 1 + 1, 2, none⟩ = some (.int .i64 0) := qz8.cell 2
                 have f0 := qz8.frozen 0
                 have f1 := qz8.frozen 1
                 have f2 := qz8.frozen 2))
            have hx := ((qz8.put 0 (.int .i64 V')).put 1 (.slice A'' n'' cc')).put 2 (.int .i64 r')
            have hzl : w.heap.size + 1 + 1 + 1 < w5.heap.size := qz.lt
            have A8 : Keep NoF w w8 := (k5.trans hk7 fun _ _ h => h).trans hk8 fun _ _ h => h
            have hkf := A8.set3 (b := w.heap.size + 1 + 1 + 1) (by omega) (.int .i64 V') (.slice A'' n'' cc') (.int .i64 r')
            have hset : ∀ k, k ≠ w.heap.size + 1 + 1 + 1 → (((w8.setCell ⟨w.heap.size + 1 + 1 + 1, 0, none⟩ (.int .i64 V')).setCell ⟨w.heap.size + 1 + 1 + 1, 1, none⟩ (.slice A'' n'' cc')).setCell ⟨w.heap.size + 1 + 1 + 1, 2, none⟩ (.int .i64 r')).heap[k]? = w8.heap[k]? := fun k hne => ((Below.heap_setCell _ _ _ k hne).trans (Below.heap_setCell _ _ _ k hne)).trans (Below.heap_setCell _ _ _ k hne)
            generalize ((w8.setCell ⟨w.heap.size + 1 + 1 + 1, 0, none⟩ (.int .i64 V')).setCell ⟨w.heap.size + 1 + 1 + 1, 1, none⟩ (.slice A'' n'' cc')).setCell ⟨w.heap.size + 1 + 1 + 1, 2, none⟩ (.int .i64 r') = W6 at *
            have hx0 : W6.cell? ⟨w.heap.size + 1 + 1 + 1, 0, none⟩ = some (.int .i64 V') := hx.cell 0
            have hx1 : W6.cell? ⟨w.heap.size + 1 + 1 + 1, 1, none⟩ = some (.slice A'' n'' cc') := hx.cell 1
            have hx2 : W6.cell? ⟨w.heap.size + 1 + 1 + 1, 2, none⟩ = some (.int .i64 r') := hx.cell 2
            refine bodyPost_ret (v := .tuple #[.agg #[.int .i64 V', .slice A'' n'' cc', .int .i64 r'], .int .i64 err]) (by simp [results, Tryz.results46, go_sem, hx0, hx1, hx2]) rfl ?_
            have hw5 := k5.size
            exact HFIN.out _ _ (DgRes.move hout (by omega) fun k hk => hset k (by omega)) hkf
          · have e4 : (V1 != V2) = false := by simp [h4]
            have e5 : (V1 != V3) = true := by simp [h5]
            have ht : (3 : Int) ≠ 0 ∧ 3 = threeE ae be ce V1 V2 V3 := by simp [threeE, H1.out, H2.out, H3.out, h5]
            have HTT := Lib.hid ht
            clear ht h4 h5
            have z0 : w5.cell? ⟨w.heap.size + 1 + 1 + 1, 0, none⟩ = some (.int .i64 0) := qz.cell 0
            have z1 : w5.cell? ⟨w.heap.size + 1 + 1 + 1, 1, none⟩ = some (.slice none 0 0) := qz.cell 1
            have z2 : w5.cell? ⟨w.heap.size + 1 + 1 + 1, 2, none⟩ = some (.int .i64 0) := qz.cell 2
            have f0 := qz.frozen 0
            have f1 := qz.frozen 1
            have f2 := qz.frozen 2
            have hx := ((qz.put 0 (.int .i64 0)).put 1 (.slice none 0 0)).put 2 (.int .i64 0)
            have hkf := k5.set3 (b := w.heap.size + 1 + 1 + 1) (by omega) (.int .i64 0) (.slice none 0 0) (.int .i64 0)
            have HL := Lib.hid (HERR.out _ (HTT.out) _ hkf)
            go_wp2
            generalize ((w5.setCell ⟨w.heap.size + 1 + 1 + 1, 0, none⟩ (.int .i64 0)).setCell ⟨w.heap.size + 1 + 1 + 1, 1, none⟩ (.slice none 0 0)).setCell ⟨w.heap.size + 1 + 1 + 1, 2, none⟩ (.int .i64 0) = W6 at *
            have hx0 : W6.cell? ⟨w.heap.size + 1 + 1 + 1, 0, none⟩ = some (.int .i64 0) := hx.cell 0
            have hx1 : W6.cell? ⟨w.heap.size + 1 + 1 + 1, 1, none⟩ = some (.slice none 0 0) := hx.cell 1
            have hx2 : W6.cell? ⟨w.heap.size + 1 + 1 + 1, 2, none⟩ = some (.int .i64 0) := hx.cell 2
            refine bodyPost_ret (v := .tuple #[.agg #[.int .i64 0, .slice none 0 0, .int .i64 0], .int .i64 3]) (by simp [results, Tryz.results46, go_sem, hx0, hx1, hx2]) rfl ?_
            exact HL.out
        · have e4 : (V1 != V2) = true := by simp [h4]
          have ht : (3 : Int) ≠ 0 ∧ 3 = threeE ae be ce V1 V2 V3 := by simp [threeE, H1.out, H2.out, H3.out, h4]
          have HTT := Lib.hid ht
          clear ht h4
          have z0 : w5.cell? ⟨w.heap.size + 1 + 1 + 1, 0, none⟩ = some (.int .i64 0) := qz.cell 0
          have z1 : w5.cell? ⟨w.heap.size + 1 + 1 + 1, 1, none⟩ = some (.slice none 0 0) := qz.cell 1
          have z2 : w5.cell? ⟨w.heap.size + 1 + 1 + 1, 2, none⟩ = some (.int .i64 0) := qz.cell 2
          have f0 := qz.frozen 0
          have f1 := qz.frozen 1
          have f2 := qz.frozen 2
          have hx := ((qz.put 0 (.int .i64 0)).put 1 (.slice none 0 0)).put 2 (.int .i64 0)
          have hkf := k5.set3 (b := w.heap.size + 1 + 1 + 1) (by omega) (.int .i64 0) (.slice none 0 0) (.int .i64 0)
          have HL := Lib.hid (HERR.out _ (HTT.out) _ hkf)
          go_wp2
          generalize ((w5.setCell ⟨w.heap.size + 1 + 1 + 1, 0, none⟩ (.int .i64 0)).setCell ⟨w.heap.size + 1 + 1 + 1, 1, none⟩ (.slice none 0 0)).setCell ⟨w.heap.size + 1 + 1 + 1, 2, none⟩ (.int .i64 0) = W6 at *
          have hx0 : W6.cell? ⟨w.heap.size + 1 + 1 + 1, 0, none⟩ = some (.int .i64 0) := hx.cell 0
          have hx1 : W6.cell? ⟨w.heap.size + 1 + 1 + 1, 1, none⟩ = some (.slice none 0 0) := hx.cell 1
          have hx2 : W6.cell? ⟨w.heap.size + 1 + 1 + 1, 2, none⟩ = some (.int .i64 0) := hx.cell 2
          refine bodyPost_ret (v := .tuple #[.agg #[.int .i64 0, .slice none 0 0, .int .i64 0], .int .i64 3]) (by simp [results, Tryz.results46, go_sem, hx0, hx1, hx2]) rfl ?_
          exact HL.out
      · have e3 : (ce != 0) = true := by simp [h3]
        have ht : ce ≠ 0 ∧ ce = threeE ae be ce V1 V2 V3 := by simp [threeE, H1.out, H2.out, h3]
        have HTT := Lib.hid ht
        clear ht h3
        have z0 : w5.cell? ⟨w.heap.size + 1 + 1 + 1, 0, none⟩ = some (.int .i64 0) := qz.cell 0
        have z1 : w5.cell? ⟨w.heap.size + 1 + 1 + 1, 1, none⟩ = some (.slice none 0 0) := qz.cell 1
        have z2 : w5.cell? ⟨w.heap.size + 1 + 1 + 1, 2, none⟩ = some (.int .i64 0) := qz.cell 2
        have f0 := qz.frozen 0
        have f1 := qz.frozen 1
        have f2 := qz.frozen 2
        have hx := ((qz.put 0 (.int .i64 0)).put 1 (.slice none 0 0)).put 2 (.int .i64 0)
        have hkf := k5.set3 (b := w.heap.size + 1 + 1 + 1) (by omega) (.int .i64 0) (.slice none 0 0) (.int .i64 0)
        have HL := Lib.hid (HERR.out _ (HTT.out) _ hkf)
        go_wp2
        generalize ((w5.setCell ⟨w.heap.size + 1 + 1 + 1, 0, none⟩ (.int .i64 0)).setCell ⟨w.heap.size + 1 + 1 + 1, 1, none⟩ (.slice none 0 0)).setCell ⟨w.heap.size + 1 + 1 + 1, 2, none⟩ (.int .i64 0) = W6 at *
        have hx0 : W6.cell? ⟨w.heap.size + 1 + 1 + 1, 0, none⟩ = some (.int .i64 0) := hx.cell 0
        have hx1 : W6.cell? ⟨w.heap.size + 1 + 1 + 1, 1, none⟩ = some (.slice none 0 0) := hx.cell 1
        have hx2 : W6.cell? ⟨w.heap.size + 1 + 1 + 1, 2, none⟩ = some (.int .i64 0) := hx.cell 2
        refine bodyPost_ret (v := .tuple #[.agg #[.int .i64 0, .slice none 0 0, .int .i64 0], .int .i64 ce]) (by simp [results, Tryz.results46, go_sem, hx0, hx1, hx2]) rfl ?_
        exact HL.out
    · have e2 : (be != 0) = true := by simp [h2]
      have ht : be ≠ 0 ∧ be = threeE ae be ce V1 V2 V3 := by simp [threeE, H1.out, h2]
      have HTT := Lib.hid ht
      clear ht h2
      have z0 : w4.cell? ⟨w.heap.size + 1 + 1 + 1, 0, none⟩ = some (.int .i64 0) := qz.cell 0
      have z1 : w4.cell? ⟨w.heap.size + 1 + 1 + 1, 1, none⟩ = some (.slice none 0 0) := qz.cell 1
      have z2 : w4.cell? ⟨w.heap.size + 1 + 1 + 1, 2, none⟩ = some (.int .i64 0) := qz.cell 2
      have f0 := qz.frozen 0
      have f1 := qz.frozen 1
      have f2 := qz.frozen 2
      have hx := ((qz.put 0 (.int .i64 0)).put 1 (.slice none 0 0)).put 2 (.int .i64 0)
      have hkf := k4.set3 (b := w.heap.size + 1 + 1 + 1) (by omega) (.int .i64 0) (.slice none 0 0) (.int .i64 0)
      have HL := Lib.hid (HERR.out _ (HTT.out) _ hkf)
      go_wp2
      generalize ((w4.setCell ⟨w.heap.size + 1 + 1 + 1, 0, none⟩ (.int .i64 0)).setCell ⟨w.heap.size + 1 + 1 + 1, 1, none⟩ (.slice none 0 0)).setCell ⟨w.heap.size + 1 + 1 + 1, 2, none⟩ (.int .i64 0) = W6 at *
      have hx0 : W6.cell? ⟨w.heap.size + 1 + 1 + 1, 0, none⟩ = some (.int .i64 0) := hx.cell 0
      have hx1 : W6.cell? ⟨w.heap.size + 1 + 1 + 1, 1, none⟩ = some (.slice none 0 0) := hx.cell 1
      have hx2 : W6.cell? ⟨w.heap.size + 1 + 1 + 1, 2, none⟩ = some (.int .i64 0) := hx.cell 2
      refine bodyPost_ret (v := .tuple #[.agg #[.int .i64 0, .slice none 0 0, .int .i64 0], .int .i64 be]) (by simp [results, Tryz.results46, go_sem, hx0, hx1, hx2]) rfl ?_
      exact HL.out
  · have e1 : (ae != 0) = true := by simp [h1]
    have ht : ae ≠ 0 ∧ ae = threeE ae be ce V1 V2 V3 := by simp [threeE, h1]
    have HTT := Lib.hid ht
    clear ht h1
    have z0 : w3.cell? ⟨w.heap.size + 1 + 1 + 1, 0, none⟩ = some (.int .i64 0) := qz.cell 0
    have z1 : w3.cell? ⟨w.heap.size + 1 + 1 + 1, 1, none⟩ = some (.slice none 0 0) := qz.cell 1
    have z2 : w3.cell? ⟨w.heap.size + 1 + 1 + 1, 2, none⟩ = some (.int .i64 0) := qz.cell 2
    have f0 := qz.frozen 0
    have f1 := qz.frozen 1
    have f2 := qz.frozen 2
    have hx := ((qz.put 0 (.int .i64 0)).put 1 (.slice none 0 0)).put 2 (.int .i64 0)
    have hkf := k3.set3 (b := w.heap.size + 1 + 1 + 1) (by omega) (.int .i64 0) (.slice none 0 0) (.int .i64 0)
    have HL := Lib.hid (HERR.out _ (HTT.out) _ hkf)
    go_wp2
    generalize ((w3.setCell ⟨w.heap.size + 1 + 1 + 1, 0, none⟩ (.int .i64 0)).setCell ⟨w.heap.size + 1 + 1 + 1, 1, none⟩ (.slice none 0 0)).setCell ⟨w.heap.size + 1 + 1 + 1, 2, none⟩ (.int .i64 0) = W6 at *
    have hx0 : W6.cell? ⟨w.heap.size + 1 + 1 + 1, 0, none⟩ = some (.int .i64 0) := hx.cell 0
    have hx1 : W6.cell? ⟨w.heap.size + 1 + 1 + 1, 1, none⟩ = some (.slice none 0 0) := hx.cell 1
    have hx2 : W6.cell? ⟨w.heap.size + 1 + 1 + 1, 2, none⟩ = some (.int .i64 0) := hx.cell 2
    refine bodyPost_ret (v := .tuple #[.agg #[.int .i64 0, .slice none 0 0, .int .i64 0], .int .i64 ae]) (by simp [results, Tryz.results46, go_sem, hx0, hx1, hx2]) rfl ?_
    exact HL.out
end Go.Proofs.YtgdmcidcappkpaaGreat
