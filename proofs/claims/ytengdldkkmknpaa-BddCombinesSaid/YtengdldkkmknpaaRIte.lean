/- What the reference's ite does. No condition. -/
import Derived.Test.YtengdldkkmknpaaRNot
set_option linter.unusedVariables false
set_option linter.unusedSimpArgs false
namespace Go.Proofs.Ytengdldkkmknpaa
open Go.RowKit
open Dd (Rn rat ofN toN checkErr den lo var vr mk BOp canon Within)

theorem Dd.Within.not {V : Nat} {f : (Nat → Bool) → Bool} (h : Within V f) : Within V (fun ρ => !f ρ) := fun v hv ρ b => by simp only [h v hv]
theorem Dd.Within.and {V : Nat} {f g : (Nat → Bool) → Bool} (h : Within V f) (h' : Within V g) : Within V (fun ρ => f ρ && g ρ) := fun v hv ρ b => by simp only [h v hv, h' v hv]
theorem Dd.Within.or {V : Nat} {f g : (Nat → Bool) → Bool} (h : Within V f) (h' : Within V g) : Within V (fun ρ => f ρ || g ρ) := fun v hv ρ b => by simp only [h v hv, h' v hv]

/-- A diagram of a function, alone: as an operand. -/
def QPost (w : World) (V : Nat) (f : (Nat → Bool) → Bool) (e : Ending) (w' : World) : Prop :=
  ∃ (A : Option Addr) (n c r : Nat) (M : List Dd.Nd), e = .returned (.agg #[.int .i64 V, .slice A n c, .int .i64 r]) ∧ Opd w' V f A n c r M ∧ Keep NoF w w' ∧ (∀ k, (Value.slice A n c).ownBlock = some k → w.heap.size ≤ k) ∧ canon M r = (r, M)
theorem QPost.fpost {w w' : World} {V : Nat} {f : (Nat → Bool) → Bool} {e : Ending} (h : QPost w V f e w') : FPost w V f e w' := by
  obtain ⟨A, n, c, r, M, rfl, ho, hk, hf, hc⟩ := h
  have hl := ho.len
  subst hl
  exact ⟨M, r, ho.good, ho.root, ho.den, by rw [hc]; exact ⟨A, c, rfl, ho.rd, hk, hf⟩⟩

section
variable {f g : (Nat → Bool) → Bool} {A1 A2 : Option Addr} {n1 c1 r1 n2 c2 r2 : Nat} {M1 M2 : List Dd.Nd} {w : World}
theorem comb0 (V : Nat) (hV : V ≤ 24) (wf : Within V f) (wg : Within V g) (H1 : Opd w V f A1 n1 c1 r1 M1) (H2 : Opd w V g A2 n2 c2 r2 M2) :
    Calls Try.prog 67 #[.int .i64 0, .agg #[.int .i64 V, .slice A1 n1 c1, .int .i64 r1], .agg #[.int .i64 V, .slice A2 n2 c2, .int .i64 r2]] w (QPost w V fun ρ => f ρ && g ρ) :=
  (combine_any 0 V (by omega) hV H1 H2).mono fun _ _ h => FPost.out (f := fun ρ => f ρ && g ρ) h (wf.and wg)
theorem comb1 (V : Nat) (hV : V ≤ 24) (wf : Within V f) (wg : Within V g) (H1 : Opd w V f A1 n1 c1 r1 M1) (H2 : Opd w V g A2 n2 c2 r2 M2) :
    Calls Try.prog 67 #[.int .i64 1, .agg #[.int .i64 V, .slice A1 n1 c1, .int .i64 r1], .agg #[.int .i64 V, .slice A2 n2 c2, .int .i64 r2]] w (QPost w V fun ρ => f ρ || g ρ) :=
  (combine_any 1 V (by omega) hV H1 H2).mono fun _ _ h => FPost.out (f := fun ρ => f ρ || g ρ) h (wf.or wg)
theorem flip_out (V : Nat) (hV : V ≤ 24) (wf : Within V f) (H1 : Opd w V f A1 n1 c1 r1 M1) :
    Calls Try.prog 71 #[.agg #[.int .i64 V, .slice A1 n1 c1, .int .i64 r1]] w (QPost w V fun ρ => !f ρ) :=
  (flip_any V hV wf H1).mono fun _ _ h => FPost.out h wf.not
end

set_option maxRecDepth 100000 in
set_option maxHeartbeats 4000000 in
theorem rite_any (V : Nat) (hV : V ≤ 24) {f g h : (Nat → Bool) → Bool} {A1 A2 A3 : Option Addr} {n1 c1 r1 n2 c2 r2 n3 c3 r3 : Nat} {M1 M2 M3 : List Dd.Nd} {w : World} (wf : Within V f) (wg : Within V g) (wh : Within V h) (H1 : Opd w V f A1 n1 c1 r1 M1) (H2 : Opd w V g A2 n2 c2 r2 M2) (H3 : Opd w V h A3 n3 c3 r3 M3) :
    Calls Try.prog 73 #[.agg #[.int .i64 V, .slice A1 n1 c1, .int .i64 r1], .agg #[.int .i64 V, .slice A2 n2 c2, .int .i64 r2], .agg #[.int .i64 V, .slice A3 n3 c3, .int .i64 r3]] w (QPost w V fun ρ => if f ρ then g ρ else h ρ) := by
  have kk0 : Keep NoF w ((((w.alloc (.cells #[.int .i64 V, .slice A1 n1 c1, .int .i64 r1] 24)).alloc (.cells #[.int .i64 V, .slice A2 n2 c2, .int .i64 r2] 24)).alloc (.cells #[.int .i64 V, .slice A3 n3 c3, .int .i64 r3] 24)).alloc (.cells #[.int .i64 0, .slice none 0 0, .int .i64 0] 24)) := ((((Keep.refl _ _).alloc _).alloc _).alloc _).alloc _
  have q1 : Bk ((((w.alloc (.cells #[.int .i64 V, .slice A1 n1 c1, .int .i64 r1] 24)).alloc (.cells #[.int .i64 V, .slice A2 n2 c2, .int .i64 r2] 24)).alloc (.cells #[.int .i64 V, .slice A3 n3 c3, .int .i64 r3] 24)).alloc (.cells #[.int .i64 0, .slice none 0 0, .int .i64 0] 24)) w.heap.size 24 #[.int .i64 V, .slice A1 n1 c1, .int .i64 r1] := (((Bk.new' _ _ _ (by simp)).alloc _).alloc _).alloc _
  have q2 : Bk ((((w.alloc (.cells #[.int .i64 V, .slice A1 n1 c1, .int .i64 r1] 24)).alloc (.cells #[.int .i64 V, .slice A2 n2 c2, .int .i64 r2] 24)).alloc (.cells #[.int .i64 V, .slice A3 n3 c3, .int .i64 r3] 24)).alloc (.cells #[.int .i64 0, .slice none 0 0, .int .i64 0] 24)) (w.heap.size + 1) 24 #[.int .i64 V, .slice A2 n2 c2, .int .i64 r2] := ((Bk.new' _ _ _ (by simp)).alloc _).alloc _
  have q3 : Bk ((((w.alloc (.cells #[.int .i64 V, .slice A1 n1 c1, .int .i64 r1] 24)).alloc (.cells #[.int .i64 V, .slice A2 n2 c2, .int .i64 r2] 24)).alloc (.cells #[.int .i64 V, .slice A3 n3 c3, .int .i64 r3] 24)).alloc (.cells #[.int .i64 0, .slice none 0 0, .int .i64 0] 24)) (w.heap.size + 1 + 1) 24 #[.int .i64 V, .slice A3 n3 c3, .int .i64 r3] := (Bk.new' _ _ _ (by simp)).alloc _
  have qz : Bk ((((w.alloc (.cells #[.int .i64 V, .slice A1 n1 c1, .int .i64 r1] 24)).alloc (.cells #[.int .i64 V, .slice A2 n2 c2, .int .i64 r2] 24)).alloc (.cells #[.int .i64 V, .slice A3 n3 c3, .int .i64 r3] 24)).alloc (.cells #[.int .i64 0, .slice none 0 0, .int .i64 0] 24)) (w.heap.size + 1 + 1 + 1) 24 #[.int .i64 0, .slice none 0 0, .int .i64 0] := Bk.new' _ _ _ (by simp)
  have p1 := H1.keep kk0
  have p2 := H2.keep kk0
  have p3 := H3.keep kk0
  clear H1 H2 H3
  go_enter Try.func73, Try.ntmps73
  go_upto_region 1 with (fail)
  generalize (((w.alloc (.cells #[.int .i64 V, .slice A1 n1 c1, .int .i64 r1] 24)).alloc (.cells #[.int .i64 V, .slice A2 n2 c2, .int .i64 r2] 24)).alloc (.cells #[.int .i64 V, .slice A3 n3 c3, .int .i64 r3] 24)).alloc (.cells #[.int .i64 0, .slice none 0 0, .int .i64 0] 24) = W2 at *
  have u10 : W2.cell? ⟨w.heap.size, 0, none⟩ = some (.int .i64 V) := q1.cell 0
  have u11 : W2.cell? ⟨w.heap.size, 1, none⟩ = some (.slice A1 n1 c1) := q1.cell 1
  have u12 : W2.cell? ⟨w.heap.size, 2, none⟩ = some (.int .i64 r1) := q1.cell 2
  have u20 : W2.cell? ⟨w.heap.size + 1, 0, none⟩ = some (.int .i64 V) := q2.cell 0
  have u21 : W2.cell? ⟨w.heap.size + 1, 1, none⟩ = some (.slice A2 n2 c2) := q2.cell 1
  have u22 : W2.cell? ⟨w.heap.size + 1, 2, none⟩ = some (.int .i64 r2) := q2.cell 2
  have u30 : W2.cell? ⟨w.heap.size + 1 + 1, 0, none⟩ = some (.int .i64 V) := q3.cell 0
  have u31 : W2.cell? ⟨w.heap.size + 1 + 1, 1, none⟩ = some (.slice A3 n3 c3) := q3.cell 1
  have u32 : W2.cell? ⟨w.heap.size + 1 + 1, 2, none⟩ = some (.int .i64 r3) := q3.cell 2
  have hzl : w.heap.size + 1 + 1 + 1 < W2.heap.size := qz.lt
  have kd : Keep NoF W2 W2.drew := (Keep.refl _ _).drew
  have p1 := p1.keep kd
  have p2 := p2.keep kd
  have p3 := p3.keep kd
  have q1 := q1.keep kd (fun h => h)
  have q2 := q2.keep kd (fun h => h)
  have q3 := q3.keep kd (fun h => h)
  have qz := qz.keep kd (fun h => h)
  have kk0 := kk0.trans kd fun _ _ h => h
  clear kd
  go_region_held3 (fun w' => w'.cell? ⟨w.heap.size, 0, none⟩ = some (.int .i64 V) ∧ w'.cell? ⟨w.heap.size, 1, none⟩ = some (.slice A1 n1 c1) ∧ w'.cell? ⟨w.heap.size, 2, none⟩ = some (.int .i64 r1) ∧ w'.cell? ⟨w.heap.size + 1, 0, none⟩ = some (.int .i64 V) ∧ w'.cell? ⟨w.heap.size + 1, 1, none⟩ = some (.slice A2 n2 c2) ∧ w'.cell? ⟨w.heap.size + 1, 2, none⟩ = some (.int .i64 r2) ∧ w'.cell? ⟨w.heap.size + 1 + 1, 0, none⟩ = some (.int .i64 V) ∧ w'.cell? ⟨w.heap.size + 1 + 1, 1, none⟩ = some (.slice A3 n3 c3) ∧ w'.cell? ⟨w.heap.size + 1 + 1, 2, none⟩ = some (.int .i64 r3))
    (first | with_reducible exact ⟨u10, u11, u12, u20, u21, u22, u30, u31, u32⟩ | exact ⟨u10, u11, u12, u20, u21, u22, u30, u31, u32⟩ | exact ⟨y1.cell 0, y1.cell 1, y1.cell 2, y2.cell 0, y2.cell 1, y2.cell 2, y3.cell 0, y3.cell 1, y3.cell 2⟩)
    (first
    | (go_at_call 67
       (with_reducible refine (comb1 V hV (wf.and wg) (wf.not.and wh) s1 s3).mono ?_)
       rintro e v4 ⟨B4, m4, d4, t4, L4, rfl, s4, hk4, hf4, hc4⟩
       have kk4 := kk3.trans hk4 fun _ _ h => h
       have p1 := p1.keep hk4
       have q1 := q1.keep hk4 (fun h => h)
       have q2 := q2.keep hk4 (fun h => h)
       have q3 := q3.keep hk4 (fun h => h)
       have qz := qz.keep hk4 (fun h => h)
       have u10 : v4.cell? ⟨w.heap.size, 0, none⟩ = some (.int .i64 V) := q1.cell 0
       have u11 : v4.cell? ⟨w.heap.size, 1, none⟩ = some (.slice A1 n1 c1) := q1.cell 1
       have u12 : v4.cell? ⟨w.heap.size, 2, none⟩ = some (.int .i64 r1) := q1.cell 2
       have u20 : v4.cell? ⟨w.heap.size + 1, 0, none⟩ = some (.int .i64 V) := q2.cell 0
       have u21 : v4.cell? ⟨w.heap.size + 1, 1, none⟩ = some (.slice A2 n2 c2) := q2.cell 1
       have u22 : v4.cell? ⟨w.heap.size + 1, 2, none⟩ = some (.int .i64 r2) := q2.cell 2
       have u30 : v4.cell? ⟨w.heap.size + 1 + 1, 0, none⟩ = some (.int .i64 V) := q3.cell 0
       have u31 : v4.cell? ⟨w.heap.size + 1 + 1, 1, none⟩ = some (.slice A3 n3 c3) := q3.cell 1
       have u32 : v4.cell? ⟨w.heap.size + 1 + 1, 2, none⟩ = some (.int .i64 r3) := q3.cell 2
       have z0 : v4.cell? ⟨w.heap.size + 1 + 1 + 1, 0, none⟩ = some (.int .i64 0) := qz.cell 0
       have z1 : v4.cell? ⟨w.heap.size + 1 + 1 + 1, 1, none⟩ = some (.slice none 0 0) := qz.cell 1
       have z2 : v4.cell? ⟨w.heap.size + 1 + 1 + 1, 2, none⟩ = some (.int .i64 0) := qz.cell 2
       have f0 := qz.frozen 0
       have f1 := qz.frozen 1
       have f2 := qz.frozen 2
       have y1 := ((q1.far (p := ⟨w.heap.size + 1 + 1 + 1, 0, none⟩) (by show w.heap.size ≠ w.heap.size + 1 + 1 + 1; omega) (.int .i64 V)).far (p := ⟨w.heap.size + 1 + 1 + 1, 1, none⟩) (by show w.heap.size ≠ w.heap.size + 1 + 1 + 1; omega) (.slice B4 m4 d4)).far (p := ⟨w.heap.size + 1 + 1 + 1, 2, none⟩) (by show w.heap.size ≠ w.heap.size + 1 + 1 + 1; omega) (.int .i64 t4)
       have y2 := ((q2.far (p := ⟨w.heap.size + 1 + 1 + 1, 0, none⟩) (by show w.heap.size + 1 ≠ w.heap.size + 1 + 1 + 1; omega) (.int .i64 V)).far (p := ⟨w.heap.size + 1 + 1 + 1, 1, none⟩) (by show w.heap.size + 1 ≠ w.heap.size + 1 + 1 + 1; omega) (.slice B4 m4 d4)).far (p := ⟨w.heap.size + 1 + 1 + 1, 2, none⟩) (by show w.heap.size + 1 ≠ w.heap.size + 1 + 1 + 1; omega) (.int .i64 t4)
       have y3 := ((q3.far (p := ⟨w.heap.size + 1 + 1 + 1, 0, none⟩) (by show w.heap.size + 1 + 1 ≠ w.heap.size + 1 + 1 + 1; omega) (.int .i64 V)).far (p := ⟨w.heap.size + 1 + 1 + 1, 1, none⟩) (by show w.heap.size + 1 + 1 ≠ w.heap.size + 1 + 1 + 1; omega) (.slice B4 m4 d4)).far (p := ⟨w.heap.size + 1 + 1 + 1, 2, none⟩) (by show w.heap.size + 1 + 1 ≠ w.heap.size + 1 + 1 + 1; omega) (.int .i64 t4))
    | (go_at_call 67
       (with_reducible refine (comb0 V hV wf.not wh s2 p3).mono ?_)
       rintro e v3 ⟨B3, m3, d3, t3, L3, rfl, s3, hk3, hf3, hc3⟩
       have kk3 := kk2.trans hk3 fun _ _ h => h
       have p1 := p1.keep hk3
       have p2 := p2.keep hk3
       have p3 := p3.keep hk3
       have s1 := s1.keep hk3
       have s2 := s2.keep hk3
       have q1 := q1.keep hk3 (fun h => h)
       have q2 := q2.keep hk3 (fun h => h)
       have q3 := q3.keep hk3 (fun h => h)
       have qz := qz.keep hk3 (fun h => h)
       have u10 : v3.cell? ⟨w.heap.size, 0, none⟩ = some (.int .i64 V) := q1.cell 0
       have u11 : v3.cell? ⟨w.heap.size, 1, none⟩ = some (.slice A1 n1 c1) := q1.cell 1
       have u12 : v3.cell? ⟨w.heap.size, 2, none⟩ = some (.int .i64 r1) := q1.cell 2
       have u20 : v3.cell? ⟨w.heap.size + 1, 0, none⟩ = some (.int .i64 V) := q2.cell 0
       have u21 : v3.cell? ⟨w.heap.size + 1, 1, none⟩ = some (.slice A2 n2 c2) := q2.cell 1
       have u22 : v3.cell? ⟨w.heap.size + 1, 2, none⟩ = some (.int .i64 r2) := q2.cell 2
       have u30 : v3.cell? ⟨w.heap.size + 1 + 1, 0, none⟩ = some (.int .i64 V) := q3.cell 0
       have u31 : v3.cell? ⟨w.heap.size + 1 + 1, 1, none⟩ = some (.slice A3 n3 c3) := q3.cell 1
       have u32 : v3.cell? ⟨w.heap.size + 1 + 1, 2, none⟩ = some (.int .i64 r3) := q3.cell 2)
    | (go_at_call 71
       (with_reducible refine (flip_out V hV wf p1).mono ?_)
       rintro e v2 ⟨B2, m2, d2, t2, L2, rfl, s2, hk2, hf2, hc2⟩
       have kk2 := kk1.trans hk2 fun _ _ h => h
       have p1 := p1.keep hk2
       have p2 := p2.keep hk2
       have p3 := p3.keep hk2
       have s1 := s1.keep hk2
       have q1 := q1.keep hk2 (fun h => h)
       have q2 := q2.keep hk2 (fun h => h)
       have q3 := q3.keep hk2 (fun h => h)
       have qz := qz.keep hk2 (fun h => h)
       have u10 : v2.cell? ⟨w.heap.size, 0, none⟩ = some (.int .i64 V) := q1.cell 0
       have u11 : v2.cell? ⟨w.heap.size, 1, none⟩ = some (.slice A1 n1 c1) := q1.cell 1
       have u12 : v2.cell? ⟨w.heap.size, 2, none⟩ = some (.int .i64 r1) := q1.cell 2
       have u20 : v2.cell? ⟨w.heap.size + 1, 0, none⟩ = some (.int .i64 V) := q2.cell 0
       have u21 : v2.cell? ⟨w.heap.size + 1, 1, none⟩ = some (.slice A2 n2 c2) := q2.cell 1
       have u22 : v2.cell? ⟨w.heap.size + 1, 2, none⟩ = some (.int .i64 r2) := q2.cell 2
       have u30 : v2.cell? ⟨w.heap.size + 1 + 1, 0, none⟩ = some (.int .i64 V) := q3.cell 0
       have u31 : v2.cell? ⟨w.heap.size + 1 + 1, 1, none⟩ = some (.slice A3 n3 c3) := q3.cell 1
       have u32 : v2.cell? ⟨w.heap.size + 1 + 1, 2, none⟩ = some (.int .i64 r3) := q3.cell 2)
    | (go_at_call 67
       (with_reducible refine (comb0 V hV wf wg p1 p2).mono ?_)
       rintro e v1 ⟨B1, m1, d1, t1, L1, rfl, s1, hk1, hf1, hc1⟩
       have kk1 := kk0.trans hk1 fun _ _ h => h
       have p1 := p1.keep hk1
       have p2 := p2.keep hk1
       have p3 := p3.keep hk1
       have q1 := q1.keep hk1 (fun h => h)
       have q2 := q2.keep hk1 (fun h => h)
       have q3 := q3.keep hk1 (fun h => h)
       have qz := qz.keep hk1 (fun h => h)
       have u10 : v1.cell? ⟨w.heap.size, 0, none⟩ = some (.int .i64 V) := q1.cell 0
       have u11 : v1.cell? ⟨w.heap.size, 1, none⟩ = some (.slice A1 n1 c1) := q1.cell 1
       have u12 : v1.cell? ⟨w.heap.size, 2, none⟩ = some (.int .i64 r1) := q1.cell 2
       have u20 : v1.cell? ⟨w.heap.size + 1, 0, none⟩ = some (.int .i64 V) := q2.cell 0
       have u21 : v1.cell? ⟨w.heap.size + 1, 1, none⟩ = some (.slice A2 n2 c2) := q2.cell 1
       have u22 : v1.cell? ⟨w.heap.size + 1, 2, none⟩ = some (.int .i64 r2) := q2.cell 2
       have u30 : v1.cell? ⟨w.heap.size + 1 + 1, 0, none⟩ = some (.int .i64 V) := q3.cell 0
       have u31 : v1.cell? ⟨w.heap.size + 1 + 1, 1, none⟩ = some (.slice A3 n3 c3) := q3.cell 1
       have u32 : v1.cell? ⟨w.heap.size + 1 + 1, 2, none⟩ = some (.int .i64 r3) := q3.cell 2))
  all_goals
    have hx := ((qz.put 0 (.int .i64 V)).put 1 (.slice B4 m4 d4)).put 2 (.int .i64 t4)
    have hz1 := hk1.size
    have hz2 := hk2.size
    have hz3 := hk3.size
    have hz4 := kk0.size
    have hdz : W2.drew.heap.size = W2.heap.size := rfl
    have hkf := kk4.set3 (b := w.heap.size + 1 + 1 + 1) (by omega) (.int .i64 V) (.slice B4 m4 d4) (.int .i64 t4)
    have ho : Opd (((v4.setCell ⟨w.heap.size + 1 + 1 + 1, 0, none⟩ (.int .i64 V)).setCell ⟨w.heap.size + 1 + 1 + 1, 1, none⟩ (.slice B4 m4 d4)).setCell ⟨w.heap.size + 1 + 1 + 1, 2, none⟩ (.int .i64 t4)) V (fun ρ => f ρ && g ρ || (!f ρ && h ρ)) B4 m4 d4 t4 L4 := ⟨s4.len, s4.rd.kept (keep_set3 v4 (w.heap.size + 1 + 1 + 1) _ _ _) (fun k hk (e : k = w.heap.size + 1 + 1 + 1) => by have := hf4 k hk; omega), s4.good, s4.vars, s4.root, s4.den, s4.small⟩
    generalize ((v4.setCell ⟨w.heap.size + 1 + 1 + 1, 0, none⟩ (.int .i64 V)).setCell ⟨w.heap.size + 1 + 1 + 1, 1, none⟩ (.slice B4 m4 d4)).setCell ⟨w.heap.size + 1 + 1 + 1, 2, none⟩ (.int .i64 t4) = W6 at *
    have hx0 : W6.cell? ⟨w.heap.size + 1 + 1 + 1, 0, none⟩ = some (.int .i64 V) := hx.cell 0
    have hx1 : W6.cell? ⟨w.heap.size + 1 + 1 + 1, 1, none⟩ = some (.slice B4 m4 d4) := hx.cell 1
    have hx2 : W6.cell? ⟨w.heap.size + 1 + 1 + 1, 2, none⟩ = some (.int .i64 t4) := hx.cell 2
    go_wp2
    refine bodyPost_ret (v := .agg #[.int .i64 V, .slice B4 m4 d4, .int .i64 t4]) (by simp [results, Try.results73, go_sem, hx0, hx1, hx2]) rfl ?_
    have he : (fun ρ => f ρ && g ρ || (!f ρ && h ρ)) = fun ρ => if f ρ then g ρ else h ρ := by
      funext ρ
      cases f ρ <;> simp
    rw [← he]
    exact ⟨B4, m4, d4, t4, L4, rfl, ho, hkf, fun k hk => by have := hf4 k hk; omega, hc4⟩
end Go.Proofs.Ytengdldkkmknpaa
