/- What the reference's limited, two and flip do. No condition. -/
import Derived.Test.YtengdldkkmknpaaRComb
import Derived.Test.YtengdldkkmknpaaLaw
import Derived.Test.YtengdldkkmknpaaRCheck
set_option linter.unusedVariables false
set_option linter.unusedSimpArgs false
namespace Go.Proofs.Ytengdldkkmknpaa
open Go.RowKit
open Dd (Rn rat ofN toN checkErr den lo var vr mk BOp canon)

set_option maxRecDepth 100000 in
set_option maxHeartbeats 1000000 in
theorem limited_any (V r : Int) (A : Option Addr) (n c : Nat) (w : World) : Calls Try.prog 66 #[.agg #[.int .i64 V, .slice A n c, .int .i64 r]] w fun e w' =>
    (e = if 4096 < n then .returned (.tuple #[dgZero, .int .i64 8]) else .returned (.tuple #[.agg #[.int .i64 V, .slice A n c, .int .i64 r], .int .i64 0])) ∧ Keep NoF w w' := by
  by_cases h1 : 4096 < n
  · have h1' : (4096 : Int) < (n : Int) := by omega
    have HE : Hid ((if 4096 < n then Ending.returned (.tuple #[dgZero, .int .i64 8]) else .returned (.tuple #[.agg #[.int .i64 V, .slice A n c, .int .i64 r], .int .i64 0])) = .returned (.tuple #[dgZero, .int .i64 8])) := Lib.hid (if_pos h1)
    rw [HE.out]
    go_enter Try.func66, Try.ntmps66
    go_wp2
    refine bodyPost_ret (v := .tuple #[dgZero, .int .i64 8]) (by simp [results, Try.results66, go_sem, dgZero]) rfl ⟨rfl, ?_⟩
    exact ((Keep.refl _ _).alloc _).alloc _
  · have h1' : ¬ (4096 : Int) < (n : Int) := by omega
    have HE : Hid ((if 4096 < n then Ending.returned (.tuple #[dgZero, .int .i64 8]) else .returned (.tuple #[.agg #[.int .i64 V, .slice A n c, .int .i64 r], .int .i64 0])) = .returned (.tuple #[.agg #[.int .i64 V, .slice A n c, .int .i64 r], .int .i64 0])) := Lib.hid (if_neg h1)
    rw [HE.out]
    go_enter Try.func66, Try.ntmps66
    go_wp2
    refine bodyPost_ret (v := .tuple #[.agg #[.int .i64 V, .slice A n c, .int .i64 r], .int .i64 0]) (by simp [results, Try.results66, go_sem]) rfl ⟨rfl, ?_⟩
    exact ((Keep.refl _ _).alloc _).alloc _

/-- What combine hands back is an operand again. -/
theorem FPost.out {w w' : World} {V : Nat} {f : (Nat → Bool) → Bool} {e : Ending} (h : FPost w V f e w') (hw : Dd.Within V f) :
    ∃ A n c r M, e = .returned (.agg #[.int .i64 V, .slice A n c, .int .i64 (r : Nat)]) ∧ Opd w' V f A n c r M ∧ Keep NoF w w' ∧ (∀ k, (Value.slice A n c).ownBlock = some k → w.heap.size ≤ k) ∧ canon M r = (r, M) := by
  obtain ⟨N, r, g, hr, hd, A, c, rfl, hrd, hk, hf⟩ := h
  obtain ⟨g1, g2, g3, g4⟩ := Dd.canon_good g hr
  have hwN : Dd.Within V (den N r) := by rw [show den N r = f from funext hd]; exact hw
  have hv := (Dd.canon_within g hr hwN).1
  exact ⟨A, _, c, _, (canon N r).2, rfl, ⟨rfl, hrd, g1, fun i h2 hi => hv _ (List.mem_of_getElem? (Dd.node_at h2 hi)), g2, fun ρ => (g3 ρ).trans (hd ρ), Dd.canon_len g hr⟩, hk, hf, g4⟩

theorem Opd.keep {w w' : World} {V : Nat} {f : (Nat → Bool) → Bool} {A : Option Addr} {n c r : Nat} {M : List Dd.Nd} (h : Opd w V f A n c r M) (hk : Keep NoF w w') : Opd w' V f A n c r M :=
  ⟨h.len, h.rd.kept hk fun _ _ h => h, h.good, h.vars, h.root, h.den, h.small⟩

theorem opd_true (w : World) (V : Nat) : Opd w V (fun _ => true) none 0 0 1 [] :=
  ⟨rfl, (Rd.of_own (World.ownsRow_nil w 0 63 3) : Rd w (.slice none 0 0) 3 0 (ndsC [])), Dd.Good.nil, fun i h2 hi => by simp at hi; omega, by simp, fun _ => rfl, by simp⟩

set_option maxRecDepth 100000 in
set_option maxHeartbeats 1000000 in
theorem flip_any (V : Nat) (hV : V ≤ 24) {f : (Nat → Bool) → Bool} (hw : Dd.Within V f) {A : Option Addr} {n c r : Nat} {M : List Dd.Nd} {w : World} (H : Opd w V f A n c r M) :
    Calls Try.prog 71 #[.agg #[.int .i64 V, .slice A n c, .int .i64 r]] w (FPost w V fun ρ => !f ρ) := by
  have k1 : Keep NoF w ((w.alloc (.cells #[.int .i64 V, .slice A n c, .int .i64 r] 24)).alloc (.cells #[.int .i64 0, .slice none 0 0, .int .i64 0] 24)) := ((Keep.refl _ _).alloc _).alloc _
  have qz : Bk ((w.alloc (.cells #[.int .i64 V, .slice A n c, .int .i64 r] 24)).alloc (.cells #[.int .i64 0, .slice none 0 0, .int .i64 0] 24)) (w.heap.size + 1) 24 #[.int .i64 0, .slice none 0 0, .int .i64 0] := Bk.new' _ _ _ (by simp)
  have HC := Lib.hid (show Calls Try.prog 67 #[.int .i64 2, .agg #[.int .i64 V, .slice A n c, .int .i64 r], .agg #[.int .i64 V, .slice none 0 0, .int .i64 1]] _ _ from combine_any 2 V (by omega) hV (H.keep k1) (opd_true _ V))
  clear H
  have qa : Bk ((w.alloc (.cells #[.int .i64 V, .slice A n c, .int .i64 r] 24)).alloc (.cells #[.int .i64 0, .slice none 0 0, .int .i64 0] 24)) w.heap.size 24 #[.int .i64 V, .slice A n c, .int .i64 r] := (Bk.new' _ _ _ (by simp)).alloc _
  go_enter Try.func71, Try.ntmps71
  go_upto_region 1 with (fail)
  generalize (w.alloc (.cells #[.int .i64 V, .slice A n c, .int .i64 r] 24)).alloc (.cells #[.int .i64 0, .slice none 0 0, .int .i64 0] 24) = W2 at *
  have a0 : W2.cell? ⟨w.heap.size, 0, none⟩ = some (.int .i64 V) := qa.cell 0
  have a1 : W2.cell? ⟨w.heap.size, 1, none⟩ = some (.slice A n c) := qa.cell 1
  have a2 : W2.cell? ⟨w.heap.size, 2, none⟩ = some (.int .i64 r) := qa.cell 2
  go_wp2_with (go_at_call 67
               (with_reducible refine HC.out.mono ?_)
               rintro e w7 ⟨N, t, hg, ht, hd, A', c', rfl, hrd7, hk7, hf7⟩
               generalize hC : canon N t = C at *
               obtain ⟨C1, C2⟩ := C
               have HCE := Lib.hid (And.intro hg (And.intro ht (And.intro hd hC)))
               clear hC hg ht hd
               have qz7 := qz.keep hk7 (fun h => h)
               have z0 : w7.cell? ⟨w.heap.size + 1, 0, none⟩ = some (.int .i64 0) := qz7.cell 0
               have z1 : w7.cell? ⟨w.heap.size + 1, 1, none⟩ = some (.slice none 0 0) := qz7.cell 1
               have z2 : w7.cell? ⟨w.heap.size + 1, 2, none⟩ = some (.int .i64 0) := qz7.cell 2
               have f0 := qz7.frozen 0
               have f1 := qz7.frozen 1
               have f2 := qz7.frozen 2)
  have hx := ((qz7.put 0 (.int .i64 V)).put 1 (.slice A' C2.length c')).put 2 (.int .i64 C1)
  have hz6 := k1.size
  have hz7 := hk7.size
  have hzl : w.heap.size + 1 < W2.heap.size := qz.lt
  have A7 : Keep NoF w w7 := k1.trans hk7 fun _ _ h => h
  have hkf := A7.set3 (b := w.heap.size + 1) (by omega) (.int .i64 V) (.slice A' C2.length c') (.int .i64 C1)
  have hrf : Rd (((w7.setCell ⟨w.heap.size + 1, 0, none⟩ (.int .i64 V)).setCell ⟨w.heap.size + 1, 1, none⟩ (.slice A' C2.length c')).setCell ⟨w.heap.size + 1, 2, none⟩ (.int .i64 C1)) (.slice A' C2.length c') 3 C2.length (ndsC C2) := hrd7.kept (keep_set3 w7 (w.heap.size + 1) _ _ _) fun k hk (e : k = w.heap.size + 1) => by have := hf7 k hk; omega
  generalize ((w7.setCell ⟨w.heap.size + 1, 0, none⟩ (.int .i64 V)).setCell ⟨w.heap.size + 1, 1, none⟩ (.slice A' C2.length c')).setCell ⟨w.heap.size + 1, 2, none⟩ (.int .i64 C1) = W7 at *
  have x0 : W7.cell? ⟨w.heap.size + 1, 0, none⟩ = some (.int .i64 V) := hx.cell 0
  have x1 : W7.cell? ⟨w.heap.size + 1, 1, none⟩ = some (.slice A' C2.length c') := hx.cell 1
  have x2 : W7.cell? ⟨w.heap.size + 1, 2, none⟩ = some (.int .i64 C1) := hx.cell 2
  refine bodyPost_ret (v := .agg #[.int .i64 V, .slice A' C2.length c', .int .i64 C1]) (by simp [results, Try.results71, go_sem, x0, x1, x2]) rfl ?_
  obtain ⟨hg, ht, hd, hC⟩ := HCE.out
  refine ⟨N, t, hg, ht, fun ρ => ?_, ?_⟩
  · rw [hd]; simp [opF]
  · rw [hC]
    exact ⟨A', c', rfl, hrf, hkf, fun k hk => by have := hf7 k hk; omega⟩

/-- The error of two diagrams. -/
def twoE (a b : Dg) : Int := if a.err ≠ 0 then a.err else if b.err ≠ 0 then b.err else if a.V = b.V then 0 else 3
theorem twoE_op (a b : Dg) : twoE a b = opErr a.V [a, b] := by
  unfold twoE opErr dgErr dgErr dgErr
  by_cases h1 : a.err = 0
  · by_cases h2 : b.err = 0
    · simp [h1, h2, eq_comm]
    · simp [h1, h2]
  · simp [h1]

set_option maxRecDepth 100000 in
set_option maxHeartbeats 1000000 in
theorem two_any (a b : Dg) (w : World) (ha : a.In w) (hb : b.In w) : Calls Try.prog 65 #[a.val, b.val] w fun e w' => e = .returned (.int .i64 (twoE a b)) ∧ Keep NoF w w' := by
  have HA := Lib.hid fun (w1 : World) (hk : Keep NoF w w1) => (show Calls Try.prog 16 #[a.val] w1 (fun e w' => e = .returned (.int .i64 a.err) ∧ Keep NoF w1 w') from rcheck_any a.V a.R a.root a.sl w1 ha.2 (ha.1.kept hk fun _ _ h => h))
  have HB := Lib.hid fun (w1 : World) (hk : Keep NoF w w1) => (show Calls Try.prog 16 #[b.val] w1 (fun e w' => e = .returned (.int .i64 b.err) ∧ Keep NoF w1 w') from rcheck_any b.V b.R b.root b.sl w1 hb.2 (hb.1.kept hk fun _ _ h => h))
  have HE : Hid (twoE a b = if a.err ≠ 0 then a.err else if b.err ≠ 0 then b.err else if a.V = b.V then 0 else 3) := Lib.hid rfl
  have ha1 := ha.1
  have hb1 := hb.1
  clear ha hb
  generalize twoE a b = te at *
  generalize a.err = ae at *
  generalize b.err = be at *
  obtain ⟨V1, R1, r1, s1⟩ := a
  obtain ⟨V2, R2, r2, s2⟩ := b
  simp only at ha1 hb1 HE
  obtain ⟨_, A1, c1, rfl, _, _⟩ := ha1
  obtain ⟨_, A2, c2, rfl, _, _⟩ := hb1
  simp only [Dg.val] at HA HB ⊢
  have k1 : Keep NoF w ((w.alloc (.cells #[.int .i64 V1, .slice A1 R1.length c1, .int .i64 r1] 24)).alloc (.cells #[.int .i64 V2, .slice A2 R2.length c2, .int .i64 r2] 24)) := ((Keep.refl _ _).alloc _).alloc _
  have qa : Bk ((w.alloc (.cells #[.int .i64 V1, .slice A1 R1.length c1, .int .i64 r1] 24)).alloc (.cells #[.int .i64 V2, .slice A2 R2.length c2, .int .i64 r2] 24)) w.heap.size 24 #[.int .i64 V1, .slice A1 R1.length c1, .int .i64 r1] := (Bk.new' _ _ _ (by simp)).alloc _
  have qb : Bk ((w.alloc (.cells #[.int .i64 V1, .slice A1 R1.length c1, .int .i64 r1] 24)).alloc (.cells #[.int .i64 V2, .slice A2 R2.length c2, .int .i64 r2] 24)) (w.heap.size + 1) 24 #[.int .i64 V2, .slice A2 R2.length c2, .int .i64 r2] := Bk.new' _ _ _ (by simp)
  go_enter Try.func65, Try.ntmps65
  go_upto_region 1 with (fail)
  generalize (w.alloc (.cells #[.int .i64 V1, .slice A1 R1.length c1, .int .i64 r1] 24)).alloc (.cells #[.int .i64 V2, .slice A2 R2.length c2, .int .i64 r2] 24) = W2 at *
  have a0 : W2.cell? ⟨w.heap.size, 0, none⟩ = some (.int .i64 V1) := qa.cell 0
  have a1 : W2.cell? ⟨w.heap.size, 1, none⟩ = some (.slice A1 R1.length c1) := qa.cell 1
  have a2 : W2.cell? ⟨w.heap.size, 2, none⟩ = some (.int .i64 r1) := qa.cell 2
  have HA2 := Lib.hid (HA.out _ k1)
  go_upto_region 2 with (go_at_call 16
                         (with_reducible refine HA2.out.mono ?_)
                         rintro e w3 ⟨rfl, hk3⟩)
  have k3 := k1.trans hk3 fun _ _ h => h
  have qa3 := qa.keep hk3 (fun h => h)
  have qb3 := qb.keep hk3 (fun h => h)
  have HB2 := Lib.hid (HB.out _ k3)
  by_cases h1 : ae = 0
  · have e1 : (ae != 0) = false := by simp [h1]
    have b0 : w3.cell? ⟨w.heap.size + 1, 0, none⟩ = some (.int .i64 V2) := qb3.cell 0
    have b1 : w3.cell? ⟨w.heap.size + 1, 1, none⟩ = some (.slice A2 R2.length c2) := qb3.cell 1
    have b2 : w3.cell? ⟨w.heap.size + 1, 2, none⟩ = some (.int .i64 r2) := qb3.cell 2
    go_upto_region 5 with (go_at_call 16
                           (with_reducible refine HB2.out.mono ?_)
                           rintro e w4 ⟨rfl, hk4⟩)
    have k4 := k3.trans hk4 fun _ _ h => h
    have qa4 := qa3.keep hk4 (fun h => h)
    have qb4 := qb3.keep hk4 (fun h => h)
    have g0 : w4.cell? ⟨w.heap.size, 0, none⟩ = some (.int .i64 V1) := qa4.cell 0
    have g1 : w4.cell? ⟨w.heap.size + 1, 0, none⟩ = some (.int .i64 V2) := qb4.cell 0
    by_cases h2 : be = 0
    · have e2 : (be != 0) = false := by simp [h2]
      by_cases h3 : V1 = V2
      · have e3 : (V1 != V2) = false := by simp [h3]
        have ht : te = 0 := by rw [HE.out, if_neg (by simp [h1]), if_neg (by simp [h2]), if_pos h3]
        have HT := Lib.hid ht
        clear h1 h2 h3 ht
        go_wp2
        go_ret
        exact ⟨by rw [HT.out] <;> rfl, k4⟩
      · have e3 : (V1 != V2) = true := by simp [h3]
        have ht : te = 3 := by rw [HE.out, if_neg (by simp [h1]), if_neg (by simp [h2]), if_neg h3]
        have HT := Lib.hid ht
        clear h1 h2 h3 ht
        go_wp2
        go_ret
        exact ⟨by rw [HT.out] <;> rfl, k4⟩
    · have e2 : (be != 0) = true := by simp [h2]
      have ht : te = be := by rw [HE.out, if_neg (by simp [h1]), if_pos h2]
      have HT := Lib.hid ht
      clear h1 h2 ht
      go_wp2
      go_ret
      exact ⟨by rw [HT.out] <;> rfl, k4⟩
  · have e1 : (ae != 0) = true := by simp [h1]
    have ht : te = ae := by rw [HE.out, if_pos h1]
    have HT := Lib.hid ht
    clear h1 ht
    go_wp2
    go_ret
    exact ⟨by rw [HT.out] <;> rfl, k3⟩
end Go.Proofs.Ytengdldkkmknpaa
