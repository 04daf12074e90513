/- The walk of the law BddCombines. No condition. -/
import Derived.Test.YtengdldkkmknpaaComp
import Derived.Test.YtengdldkkmknpaaSmall
import Derived.Test.YtengdldkkmknpaaAwake
import Derived.OpenShut
set_option linter.unusedVariables false
set_option linter.unusedSimpArgs false
namespace Go.Proofs.Ytengdldkkmknpaa
open Go.RowKit
open Dd (Rn rat checkErr)

/-- A call of an operation leaves a result. -/
def OpCall (f : Nat) (args : Array Value) (w : World) (VV : Int) (L : List Dg) (σ : List BF → BF) : Prop :=
  ∀ W, Keep NoF w W → Calls Try.prog f args W fun e w' => ∃ V' R r err A n c', e = .returned (.tuple #[.agg #[.int .i64 V', .slice A n c', .int .i64 r], .int .i64 err]) ∧ OpRes W w' VV L σ V' R r err A n c'

/-- What is known of the calls of BddCombines. -/
structure CmbH (w : World) (VV : Int) (L1 L2 L3 : List Dg) (V1 : Int) (A1 : Option Addr) (n1 c1 : Nat) (r1 : Int) (V2 : Int) (A2 : Option Addr) (n2 c2 : Nat) (r2 : Int) (V3 : Int) (A3 : Option Addr) (n3 c3 : Nat) (r3 : Int) : Prop where
  p0 : OpCall 23 #[.agg #[.int .i64 V1, .slice A1 n1 c1, .int .i64 r1], .agg #[.int .i64 V2, .slice A2 n2 c2, .int .i64 r2]] w VV L1 andSem
  q0 : OpCall 24 #[.agg #[.int .i64 V1, .slice A1 n1 c1, .int .i64 r1], .agg #[.int .i64 V2, .slice A2 n2 c2, .int .i64 r2]] w VV L1 andSem
  p1 : OpCall 26 #[.agg #[.int .i64 V1, .slice A1 n1 c1, .int .i64 r1], .agg #[.int .i64 V2, .slice A2 n2 c2, .int .i64 r2]] w VV L1 orSem
  q1 : OpCall 27 #[.agg #[.int .i64 V1, .slice A1 n1 c1, .int .i64 r1], .agg #[.int .i64 V2, .slice A2 n2 c2, .int .i64 r2]] w VV L1 orSem
  p2 : OpCall 28 #[.agg #[.int .i64 V1, .slice A1 n1 c1, .int .i64 r1], .agg #[.int .i64 V2, .slice A2 n2 c2, .int .i64 r2]] w VV L1 xorSem
  q2 : OpCall 29 #[.agg #[.int .i64 V1, .slice A1 n1 c1, .int .i64 r1], .agg #[.int .i64 V2, .slice A2 n2 c2, .int .i64 r2]] w VV L1 xorSem
  p3 : OpCall 30 #[.agg #[.int .i64 V1, .slice A1 n1 c1, .int .i64 r1]] w VV L2 notSem
  q3 : OpCall 31 #[.agg #[.int .i64 V1, .slice A1 n1 c1, .int .i64 r1]] w VV L2 notSem
  p4 : OpCall 32 #[.agg #[.int .i64 V1, .slice A1 n1 c1, .int .i64 r1], .agg #[.int .i64 V2, .slice A2 n2 c2, .int .i64 r2], .agg #[.int .i64 V3, .slice A3 n3 c3, .int .i64 r3]] w VV L3 ite3Sem
  q4 : OpCall 33 #[.agg #[.int .i64 V1, .slice A1 n1 c1, .int .i64 r1], .agg #[.int .i64 V2, .slice A2 n2 c2, .int .i64 r2], .agg #[.int .i64 V3, .slice A3 n3 c3, .int .i64 r3]] w VV L3 ite3Sem

/-- The three operands stand in their blocks. -/
structure Opn (w W : World) (V1 : Int) (A1 : Option Addr) (n1 c1 : Nat) (r1 : Int) (V2 : Int) (A2 : Option Addr) (n2 c2 : Nat) (r2 : Int) (V3 : Int) (A3 : Option Addr) (n3 c3 : Nat) (r3 : Int) : Prop where
  b1 : Bk W (w.heap.size) 24 #[.int .i64 V1, .slice A1 n1 c1, .int .i64 r1]
  b2 : Bk W (w.heap.size + 1) 24 #[.int .i64 V2, .slice A2 n2 c2, .int .i64 r2]
  b3 : Bk W (w.heap.size + 1 + 1) 24 #[.int .i64 V3, .slice A3 n3 c3, .int .i64 r3]
  k : Keep NoF w W
theorem Opn.keep {w W W' : World} {V1 V2 V3 r1 r2 r3 : Int} {A1 A2 A3 : Option Addr} {n1 c1 n2 c2 n3 c3 : Nat} (h : Opn w W V1 A1 n1 c1 r1 V2 A2 n2 c2 r2 V3 A3 n3 c3 r3) (hk : Keep NoF W W') : Opn w W' V1 A1 n1 c1 r1 V2 A2 n2 c2 r2 V3 A3 n3 c3 r3 :=
  ⟨h.b1.keep hk (fun h => h), h.b2.keep hk (fun h => h), h.b3.keep hk (fun h => h), h.k.trans hk fun _ _ h => h⟩
theorem Opn.keepF {F : Nat → Prop} {w W W' : World} {V1 V2 V3 r1 r2 r3 : Int} {A1 A2 A3 : Option Addr} {n1 c1 n2 c2 n3 c3 : Nat} (h : Opn w W V1 A1 n1 c1 r1 V2 A2 n2 c2 r2 V3 A3 n3 c3 r3) (hk : Keep F W W') (hF : ∀ i, F i → w.heap.size + 3 ≤ i) : Opn w W' V1 A1 n1 c1 r1 V2 A2 n2 c2 r2 V3 A3 n3 c3 r3 :=
  ⟨h.b1.keep hk (fun h => by have := hF _ h; omega), h.b2.keep hk (fun h => by have := hF _ h; omega), h.b3.keep hk (fun h => by have := hF _ h; omega), h.k.trans hk fun i hi h => by have := hF _ h; omega⟩

section
variable {w : World} {VV V1 V2 V3 r1 r2 r3 : Int} {L1 L2 L3 : List Dg} {A1 A2 A3 : Option Addr} {n1 c1 n2 c2 n3 c3 : Nat}
set_option maxRecDepth 100000 in
set_option maxHeartbeats 8000000 in
theorem combines_core (HH : CmbH w VV L1 L2 L3 V1 A1 n1 c1 r1 V2 A2 n2 c2 r2 V3 A3 n3 c3 r3)
    (HSC : Hid (Calls Try.prog 11 #[.slice (some ⟨w.heap.size + 1 + 1 + 1, 0, none⟩) 3 3] ((((w.alloc (.cells #[.int .i64 V1, .slice A1 n1 c1, .int .i64 r1] 24)).alloc (.cells #[.int .i64 V2, .slice A2 n2 c2, .int .i64 r2] 24)).alloc (.cells #[.int .i64 V3, .slice A3 n3 c3, .int .i64 r3] 24)).alloc (.cells #[.int .i64 V1, .slice A1 n1 c1, .int .i64 r1, .int .i64 V2, .slice A2 n2 c2, .int .i64 r2, .int .i64 V3, .slice A3 n3 c3, .int .i64 r3] 24)) fun e w' => e = .returned (.bool true) ∧ Keep NoF ((((w.alloc (.cells #[.int .i64 V1, .slice A1 n1 c1, .int .i64 r1] 24)).alloc (.cells #[.int .i64 V2, .slice A2 n2 c2, .int .i64 r2] 24)).alloc (.cells #[.int .i64 V3, .slice A3 n3 c3, .int .i64 r3] 24)).alloc (.cells #[.int .i64 V1, .slice A1 n1 c1, .int .i64 r1, .int .i64 V2, .slice A2 n2 c2, .int .i64 r2, .int .i64 V3, .slice A3 n3 c3, .int .i64 r3] 24)) w')) :
    Calls Try.prog 4 #[.agg #[.int .i64 V1, .slice A1 n1 c1, .int .i64 r1], .agg #[.int .i64 V2, .slice A2 n2 c2, .int .i64 r2], .agg #[.int .i64 V3, .slice A3 n3 c3, .int .i64 r3]] w fun e w' => e = .returned (.bool true) ∧ Keep NoF w w' := by
  have O0 : Opn w ((((w.alloc (.cells #[.int .i64 V1, .slice A1 n1 c1, .int .i64 r1] 24)).alloc (.cells #[.int .i64 V2, .slice A2 n2 c2, .int .i64 r2] 24)).alloc (.cells #[.int .i64 V3, .slice A3 n3 c3, .int .i64 r3] 24)).alloc (.cells #[.int .i64 V1, .slice A1 n1 c1, .int .i64 r1, .int .i64 V2, .slice A2 n2 c2, .int .i64 r2, .int .i64 V3, .slice A3 n3 c3, .int .i64 r3] 24)) V1 A1 n1 c1 r1 V2 A2 n2 c2 r2 V3 A3 n3 c3 r3 := ⟨(((Bk.new' _ _ _ (by simp)).alloc _).alloc _).alloc _, ((Bk.new' _ _ _ (by simp)).alloc _).alloc _, (Bk.new' _ _ _ (by simp)).alloc _, ((((Keep.refl _ _).alloc _).alloc _).alloc _).alloc _⟩
  go_enter Try.func4, Try.ntmps4
  go_upto_region 3 with (go_at_call 11
                         (with_reducible refine HSC.out.mono ?_)
                         rintro e w1 ⟨rfl, k1⟩)
  have O1 := O0.keep k1
  clear O0 HSC k1
  have u10 : w1.cell? ⟨w.heap.size, 0, none⟩ = some (.int .i64 V1) := O1.b1.cell 0
  have u11 : w1.cell? ⟨w.heap.size, 1, none⟩ = some (.slice A1 n1 c1) := O1.b1.cell 1
  have u12 : w1.cell? ⟨w.heap.size, 2, none⟩ = some (.int .i64 r1) := O1.b1.cell 2
  have u20 : w1.cell? ⟨w.heap.size + 1, 0, none⟩ = some (.int .i64 V2) := O1.b2.cell 0
  have u21 : w1.cell? ⟨w.heap.size + 1, 1, none⟩ = some (.slice A2 n2 c2) := O1.b2.cell 1
  have u22 : w1.cell? ⟨w.heap.size + 1, 2, none⟩ = some (.int .i64 r2) := O1.b2.cell 2
  have u30 : w1.cell? ⟨w.heap.size + 1 + 1, 0, none⟩ = some (.int .i64 V3) := O1.b3.cell 0
  have u31 : w1.cell? ⟨w.heap.size + 1 + 1, 1, none⟩ = some (.slice A3 n3 c3) := O1.b3.cell 1
  have u32 : w1.cell? ⟨w.heap.size + 1 + 1, 2, none⟩ = some (.int .i64 r3) := O1.b3.cell 2
  have HP0p := Lib.hid (HH.p0 w1 O1.k)
  go_upto_region 4 with (go_at_call 23
                         (with_reducible refine HP0p.out.mono ?_)
                         rintro e x0p ⟨X0p, S0p, y0p, e0p, B0p, m0p, d0p, rfl, res0p⟩)
  clear HP0p u10 u11 u12 u20 u21 u22 u30 u31 u32
  have kv0p : Keep NoF x0p (x0p.alloc (.cells #[.int .i64 X0p, .slice B0p m0p d0p, .int .i64 y0p] 24)) := (Keep.refl _ _).alloc _
  have bP := Bk.new x0p 24 #[.int .i64 X0p, .slice B0p m0p d0p, .int .i64 y0p]
  have hP : w.heap.size + 3 ≤ x0p.heap.size := by have := O1.b3.lt; have := res0p.keep.size; omega
  have G0p := res0p.got.keep kv0p (fun _ h => h.elim)
  have O0p := (O1.keep res0p.keep).keep kv0p
  generalize x0p.alloc (.cells #[.int .i64 X0p, .slice B0p m0p d0p, .int .i64 y0p] 24) = v0p at *
  generalize x0p.heap.size = P at *
  have hPl := bP.lt
  clear res0p O1
  have u10 : v0p.cell? ⟨w.heap.size, 0, none⟩ = some (.int .i64 V1) := O0p.b1.cell 0
  have u11 : v0p.cell? ⟨w.heap.size, 1, none⟩ = some (.slice A1 n1 c1) := O0p.b1.cell 1
  have u12 : v0p.cell? ⟨w.heap.size, 2, none⟩ = some (.int .i64 r1) := O0p.b1.cell 2
  have u20 : v0p.cell? ⟨w.heap.size + 1, 0, none⟩ = some (.int .i64 V2) := O0p.b2.cell 0
  have u21 : v0p.cell? ⟨w.heap.size + 1, 1, none⟩ = some (.slice A2 n2 c2) := O0p.b2.cell 1
  have u22 : v0p.cell? ⟨w.heap.size + 1, 2, none⟩ = some (.int .i64 r2) := O0p.b2.cell 2
  have u30 : v0p.cell? ⟨w.heap.size + 1 + 1, 0, none⟩ = some (.int .i64 V3) := O0p.b3.cell 0
  have u31 : v0p.cell? ⟨w.heap.size + 1 + 1, 1, none⟩ = some (.slice A3 n3 c3) := O0p.b3.cell 1
  have u32 : v0p.cell? ⟨w.heap.size + 1 + 1, 2, none⟩ = some (.int .i64 r3) := O0p.b3.cell 2
  have HP0q := Lib.hid (HH.q0 v0p O0p.k)
  go_upto_region 5 with (go_at_call 24
                         (with_reducible refine HP0q.out.mono ?_)
                         rintro e x0q ⟨X0q, S0q, y0q, e0q, B0q, m0q, d0q, rfl, res0q⟩)
  clear HP0q u10 u11 u12 u20 u21 u22 u30 u31 u32
  have kv0q : Keep NoF x0q (x0q.alloc (.cells #[.int .i64 X0q, .slice B0q m0q d0q, .int .i64 y0q] 24)) := (Keep.refl _ _).alloc _
  have bQ := Bk.new x0q 24 #[.int .i64 X0q, .slice B0q m0q d0q, .int .i64 y0q]
  have hQ : w.heap.size + 3 ≤ x0q.heap.size := by have := O0p.b3.lt; have := res0q.keep.size; omega
  have G0q := res0q.got.keep kv0q (fun _ h => h.elim)
  have O0q := (O0p.keep res0q.keep).keep kv0q
  have bP := (bP.keep res0q.keep (fun h => h)).keep kv0q (fun h => h)
  have G0p := (G0p.keep res0q.keep (fun _ h => h.elim)).keep kv0q (fun _ h => h.elim)
  have hPQ : P ≠ x0q.heap.size := by have := hPl; have := res0q.keep.size; omega
  generalize x0q.alloc (.cells #[.int .i64 X0q, .slice B0q m0q d0q, .int .i64 y0q] 24) = v0q at *
  generalize x0q.heap.size = Q at *
  clear res0q O0p
  obtain ⟨rfl, HSM0⟩ := same_got G0p G0q
  have HS0 := Lib.hid HSM0
  clear HSM0
  have sP0 : v0q.cell? ⟨P, 0, none⟩ = some (.int .i64 X0p) := bP.cell 0
  have sP1 : v0q.cell? ⟨P, 1, none⟩ = some (.slice B0p m0p d0p) := bP.cell 1
  have sP2 : v0q.cell? ⟨P, 2, none⟩ = some (.int .i64 y0p) := bP.cell 2
  have sQ0 : v0q.cell? ⟨Q, 0, none⟩ = some (.int .i64 X0q) := bQ.cell 0
  have sQ1 : v0q.cell? ⟨Q, 1, none⟩ = some (.slice B0q m0q d0q) := bQ.cell 1
  have sQ2 : v0q.cell? ⟨Q, 2, none⟩ = some (.int .i64 y0q) := bQ.cell 2
  have en : (e0p != e0p) = false := by simp
  have en2 : (e0p == e0p) = true := by simp
  go_upto_region 7 with (go_at_call 25
                         (with_reducible refine HS0.out.mono ?_)
                         rintro e s0 ⟨rfl, ks0⟩)
  have O0s := O0q.keep ks0
  have bP := bP.keep ks0 (fun h => h)
  have bQ := bQ.keep ks0 (fun h => h)
  clear ks0 en en2 HS0 G0p G0q O0q sP0 sP1 sP2 sQ0 sQ1 sQ2
  have u10 : s0.cell? ⟨w.heap.size, 0, none⟩ = some (.int .i64 V1) := O0s.b1.cell 0
  have u11 : s0.cell? ⟨w.heap.size, 1, none⟩ = some (.slice A1 n1 c1) := O0s.b1.cell 1
  have u12 : s0.cell? ⟨w.heap.size, 2, none⟩ = some (.int .i64 r1) := O0s.b1.cell 2
  have u20 : s0.cell? ⟨w.heap.size + 1, 0, none⟩ = some (.int .i64 V2) := O0s.b2.cell 0
  have u21 : s0.cell? ⟨w.heap.size + 1, 1, none⟩ = some (.slice A2 n2 c2) := O0s.b2.cell 1
  have u22 : s0.cell? ⟨w.heap.size + 1, 2, none⟩ = some (.int .i64 r2) := O0s.b2.cell 2
  have u30 : s0.cell? ⟨w.heap.size + 1 + 1, 0, none⟩ = some (.int .i64 V3) := O0s.b3.cell 0
  have u31 : s0.cell? ⟨w.heap.size + 1 + 1, 1, none⟩ = some (.slice A3 n3 c3) := O0s.b3.cell 1
  have u32 : s0.cell? ⟨w.heap.size + 1 + 1, 2, none⟩ = some (.int .i64 r3) := O0s.b3.cell 2
  have HP1p := Lib.hid (HH.p1 s0 O0s.k)
  have hw1p := bP.lt
  have hwx1 := bQ.lt
  go_upto_region 8 with (go_at_call 26
                         (with_reducible refine HP1p.out.mono ?_)
                         rintro e x1p ⟨X1p, S1p, y1p, e1p, B1p, m1p, d1p, rfl, res1p⟩
                         have hb1p := bP.keep res1p.keep (fun h => h)
                         have z0 : x1p.cell? ⟨P, 0, none⟩ = some (.int .i64 X0p) := hb1p.cell 0
                         have z1 : x1p.cell? ⟨P, 1, none⟩ = some (.slice B0p m0p d0p) := hb1p.cell 1
                         have z2 : x1p.cell? ⟨P, 2, none⟩ = some (.int .i64 y0p) := hb1p.cell 2
                         have f0 := hb1p.frozen 0
                         have f1 := hb1p.frozen 1
                         have f2 := hb1p.frozen 2)
  clear HP1p u10 u11 u12 u20 u21 u22 u30 u31 u32 z0 z1 z2 f0 f1 f2
  have kv1p : Keep (fun i => i = P) x1p (((x1p.setCell ⟨P, 0, none⟩ (.int .i64 X1p)).setCell ⟨P, 1, none⟩ (.slice B1p m1p d1p)).setCell ⟨P, 2, none⟩ (.int .i64 y1p)) := keep_set3 x1p P _ _ _
  have hl1p := bP.lt
  have bP : Bk (((x1p.setCell ⟨P, 0, none⟩ (.int .i64 X1p)).setCell ⟨P, 1, none⟩ (.slice B1p m1p d1p)).setCell ⟨P, 2, none⟩ (.int .i64 y1p)) P 24 #[.int .i64 X1p, .slice B1p m1p d1p, .int .i64 y1p] := ((hb1p.put 0 (.int .i64 X1p)).put 1 (.slice B1p m1p d1p)).put 2 (.int .i64 y1p)
  have bQ := (bQ.keep res1p.keep (fun h => h)).keep kv1p (fun h => hPQ h.symm)
  have G1p := res1p.got.keep kv1p (fun i (h : i = P) => by omega)
  have O1p := (O0s.keep res1p.keep).keepF kv1p (fun i (h : i = P) => by omega)
  clear kv1p hb1p
  generalize ((x1p.setCell ⟨P, 0, none⟩ (.int .i64 X1p)).setCell ⟨P, 1, none⟩ (.slice B1p m1p d1p)).setCell ⟨P, 2, none⟩ (.int .i64 y1p) = v1p at *
  clear res1p O0s
  have u10 : v1p.cell? ⟨w.heap.size, 0, none⟩ = some (.int .i64 V1) := O1p.b1.cell 0
  have u11 : v1p.cell? ⟨w.heap.size, 1, none⟩ = some (.slice A1 n1 c1) := O1p.b1.cell 1
  have u12 : v1p.cell? ⟨w.heap.size, 2, none⟩ = some (.int .i64 r1) := O1p.b1.cell 2
  have u20 : v1p.cell? ⟨w.heap.size + 1, 0, none⟩ = some (.int .i64 V2) := O1p.b2.cell 0
  have u21 : v1p.cell? ⟨w.heap.size + 1, 1, none⟩ = some (.slice A2 n2 c2) := O1p.b2.cell 1
  have u22 : v1p.cell? ⟨w.heap.size + 1, 2, none⟩ = some (.int .i64 r2) := O1p.b2.cell 2
  have u30 : v1p.cell? ⟨w.heap.size + 1 + 1, 0, none⟩ = some (.int .i64 V3) := O1p.b3.cell 0
  have u31 : v1p.cell? ⟨w.heap.size + 1 + 1, 1, none⟩ = some (.slice A3 n3 c3) := O1p.b3.cell 1
  have u32 : v1p.cell? ⟨w.heap.size + 1 + 1, 2, none⟩ = some (.int .i64 r3) := O1p.b3.cell 2
  have HP1q := Lib.hid (HH.q1 v1p O1p.k)
  have hw1q := bQ.lt
  go_upto_region 9 with (go_at_call 27
                         (with_reducible refine HP1q.out.mono ?_)
                         rintro e x1q ⟨X1q, S1q, y1q, e1q, B1q, m1q, d1q, rfl, res1q⟩
                         have hb1q := bQ.keep res1q.keep (fun h => h)
                         have z0 : x1q.cell? ⟨Q, 0, none⟩ = some (.int .i64 X0q) := hb1q.cell 0
                         have z1 : x1q.cell? ⟨Q, 1, none⟩ = some (.slice B0q m0q d0q) := hb1q.cell 1
                         have z2 : x1q.cell? ⟨Q, 2, none⟩ = some (.int .i64 y0q) := hb1q.cell 2
                         have f0 := hb1q.frozen 0
                         have f1 := hb1q.frozen 1
                         have f2 := hb1q.frozen 2)
  clear HP1q u10 u11 u12 u20 u21 u22 u30 u31 u32 z0 z1 z2 f0 f1 f2
  have kv1q : Keep (fun i => i = Q) x1q (((x1q.setCell ⟨Q, 0, none⟩ (.int .i64 X1q)).setCell ⟨Q, 1, none⟩ (.slice B1q m1q d1q)).setCell ⟨Q, 2, none⟩ (.int .i64 y1q)) := keep_set3 x1q Q _ _ _
  have hl1q := bQ.lt
  have bQ : Bk (((x1q.setCell ⟨Q, 0, none⟩ (.int .i64 X1q)).setCell ⟨Q, 1, none⟩ (.slice B1q m1q d1q)).setCell ⟨Q, 2, none⟩ (.int .i64 y1q)) Q 24 #[.int .i64 X1q, .slice B1q m1q d1q, .int .i64 y1q] := ((hb1q.put 0 (.int .i64 X1q)).put 1 (.slice B1q m1q d1q)).put 2 (.int .i64 y1q)
  have bP := (bP.keep res1q.keep (fun h => h)).keep kv1q (fun h => hPQ h)
  have G1q := res1q.got.keep kv1q (fun i (h : i = Q) => by omega)
  have O1q := (O1p.keep res1q.keep).keepF kv1q (fun i (h : i = Q) => by omega)
  have G1p := (G1p.keep res1q.keep (fun _ h => h.elim)).keep kv1q (fun i (h : i = Q) => by omega)
  clear kv1q hb1q
  generalize ((x1q.setCell ⟨Q, 0, none⟩ (.int .i64 X1q)).setCell ⟨Q, 1, none⟩ (.slice B1q m1q d1q)).setCell ⟨Q, 2, none⟩ (.int .i64 y1q) = v1q at *
  clear res1q O1p
  obtain ⟨rfl, HSM1⟩ := same_got G1p G1q
  have HS1 := Lib.hid HSM1
  clear HSM1
  have sP0 : v1q.cell? ⟨P, 0, none⟩ = some (.int .i64 X1p) := bP.cell 0
  have sP1 : v1q.cell? ⟨P, 1, none⟩ = some (.slice B1p m1p d1p) := bP.cell 1
  have sP2 : v1q.cell? ⟨P, 2, none⟩ = some (.int .i64 y1p) := bP.cell 2
  have sQ0 : v1q.cell? ⟨Q, 0, none⟩ = some (.int .i64 X1q) := bQ.cell 0
  have sQ1 : v1q.cell? ⟨Q, 1, none⟩ = some (.slice B1q m1q d1q) := bQ.cell 1
  have sQ2 : v1q.cell? ⟨Q, 2, none⟩ = some (.int .i64 y1q) := bQ.cell 2
  have en : (e1p != e1p) = false := by simp
  have en2 : (e1p == e1p) = true := by simp
  go_upto_region 11 with (go_at_call 25
                          (with_reducible refine HS1.out.mono ?_)
                          rintro e s1 ⟨rfl, ks1⟩)
  have O1s := O1q.keep ks1
  have bP := bP.keep ks1 (fun h => h)
  have bQ := bQ.keep ks1 (fun h => h)
  clear ks1 en en2 HS1 G1p G1q O1q sP0 sP1 sP2 sQ0 sQ1 sQ2
  have u10 : s1.cell? ⟨w.heap.size, 0, none⟩ = some (.int .i64 V1) := O1s.b1.cell 0
  have u11 : s1.cell? ⟨w.heap.size, 1, none⟩ = some (.slice A1 n1 c1) := O1s.b1.cell 1
  have u12 : s1.cell? ⟨w.heap.size, 2, none⟩ = some (.int .i64 r1) := O1s.b1.cell 2
  have u20 : s1.cell? ⟨w.heap.size + 1, 0, none⟩ = some (.int .i64 V2) := O1s.b2.cell 0
  have u21 : s1.cell? ⟨w.heap.size + 1, 1, none⟩ = some (.slice A2 n2 c2) := O1s.b2.cell 1
  have u22 : s1.cell? ⟨w.heap.size + 1, 2, none⟩ = some (.int .i64 r2) := O1s.b2.cell 2
  have u30 : s1.cell? ⟨w.heap.size + 1 + 1, 0, none⟩ = some (.int .i64 V3) := O1s.b3.cell 0
  have u31 : s1.cell? ⟨w.heap.size + 1 + 1, 1, none⟩ = some (.slice A3 n3 c3) := O1s.b3.cell 1
  have u32 : s1.cell? ⟨w.heap.size + 1 + 1, 2, none⟩ = some (.int .i64 r3) := O1s.b3.cell 2
  have HP2p := Lib.hid (HH.p2 s1 O1s.k)
  have hw2p := bP.lt
  have hwx2 := bQ.lt
  go_upto_region 12 with (go_at_call 28
                          (with_reducible refine HP2p.out.mono ?_)
                          rintro e x2p ⟨X2p, S2p, y2p, e2p, B2p, m2p, d2p, rfl, res2p⟩
                          have hb2p := bP.keep res2p.keep (fun h => h)
                          have z0 : x2p.cell? ⟨P, 0, none⟩ = some (.int .i64 X1p) := hb2p.cell 0
                          have z1 : x2p.cell? ⟨P, 1, none⟩ = some (.slice B1p m1p d1p) := hb2p.cell 1
                          have z2 : x2p.cell? ⟨P, 2, none⟩ = some (.int .i64 y1p) := hb2p.cell 2
                          have f0 := hb2p.frozen 0
                          have f1 := hb2p.frozen 1
                          have f2 := hb2p.frozen 2)
  clear HP2p u10 u11 u12 u20 u21 u22 u30 u31 u32 z0 z1 z2 f0 f1 f2
  have kv2p : Keep (fun i => i = P) x2p (((x2p.setCell ⟨P, 0, none⟩ (.int .i64 X2p)).setCell ⟨P, 1, none⟩ (.slice B2p m2p d2p)).setCell ⟨P, 2, none⟩ (.int .i64 y2p)) := keep_set3 x2p P _ _ _
  have hl2p := bP.lt
  have bP : Bk (((x2p.setCell ⟨P, 0, none⟩ (.int .i64 X2p)).setCell ⟨P, 1, none⟩ (.slice B2p m2p d2p)).setCell ⟨P, 2, none⟩ (.int .i64 y2p)) P 24 #[.int .i64 X2p, .slice B2p m2p d2p, .int .i64 y2p] := ((hb2p.put 0 (.int .i64 X2p)).put 1 (.slice B2p m2p d2p)).put 2 (.int .i64 y2p)
  have bQ := (bQ.keep res2p.keep (fun h => h)).keep kv2p (fun h => hPQ h.symm)
  have G2p := res2p.got.keep kv2p (fun i (h : i = P) => by omega)
  have O2p := (O1s.keep res2p.keep).keepF kv2p (fun i (h : i = P) => by omega)
  clear kv2p hb2p
  generalize ((x2p.setCell ⟨P, 0, none⟩ (.int .i64 X2p)).setCell ⟨P, 1, none⟩ (.slice B2p m2p d2p)).setCell ⟨P, 2, none⟩ (.int .i64 y2p) = v2p at *
  clear res2p O1s
  have u10 : v2p.cell? ⟨w.heap.size, 0, none⟩ = some (.int .i64 V1) := O2p.b1.cell 0
  have u11 : v2p.cell? ⟨w.heap.size, 1, none⟩ = some (.slice A1 n1 c1) := O2p.b1.cell 1
  have u12 : v2p.cell? ⟨w.heap.size, 2, none⟩ = some (.int .i64 r1) := O2p.b1.cell 2
  have u20 : v2p.cell? ⟨w.heap.size + 1, 0, none⟩ = some (.int .i64 V2) := O2p.b2.cell 0
  have u21 : v2p.cell? ⟨w.heap.size + 1, 1, none⟩ = some (.slice A2 n2 c2) := O2p.b2.cell 1
  have u22 : v2p.cell? ⟨w.heap.size + 1, 2, none⟩ = some (.int .i64 r2) := O2p.b2.cell 2
  have u30 : v2p.cell? ⟨w.heap.size + 1 + 1, 0, none⟩ = some (.int .i64 V3) := O2p.b3.cell 0
  have u31 : v2p.cell? ⟨w.heap.size + 1 + 1, 1, none⟩ = some (.slice A3 n3 c3) := O2p.b3.cell 1
  have u32 : v2p.cell? ⟨w.heap.size + 1 + 1, 2, none⟩ = some (.int .i64 r3) := O2p.b3.cell 2
  have HP2q := Lib.hid (HH.q2 v2p O2p.k)
  have hw2q := bQ.lt
  go_upto_region 13 with (go_at_call 29
                          (with_reducible refine HP2q.out.mono ?_)
                          rintro e x2q ⟨X2q, S2q, y2q, e2q, B2q, m2q, d2q, rfl, res2q⟩
                          have hb2q := bQ.keep res2q.keep (fun h => h)
                          have z0 : x2q.cell? ⟨Q, 0, none⟩ = some (.int .i64 X1q) := hb2q.cell 0
                          have z1 : x2q.cell? ⟨Q, 1, none⟩ = some (.slice B1q m1q d1q) := hb2q.cell 1
                          have z2 : x2q.cell? ⟨Q, 2, none⟩ = some (.int .i64 y1q) := hb2q.cell 2
                          have f0 := hb2q.frozen 0
                          have f1 := hb2q.frozen 1
                          have f2 := hb2q.frozen 2)
  clear HP2q u10 u11 u12 u20 u21 u22 u30 u31 u32 z0 z1 z2 f0 f1 f2
  have kv2q : Keep (fun i => i = Q) x2q (((x2q.setCell ⟨Q, 0, none⟩ (.int .i64 X2q)).setCell ⟨Q, 1, none⟩ (.slice B2q m2q d2q)).setCell ⟨Q, 2, none⟩ (.int .i64 y2q)) := keep_set3 x2q Q _ _ _
  have hl2q := bQ.lt
  have bQ : Bk (((x2q.setCell ⟨Q, 0, none⟩ (.int .i64 X2q)).setCell ⟨Q, 1, none⟩ (.slice B2q m2q d2q)).setCell ⟨Q, 2, none⟩ (.int .i64 y2q)) Q 24 #[.int .i64 X2q, .slice B2q m2q d2q, .int .i64 y2q] := ((hb2q.put 0 (.int .i64 X2q)).put 1 (.slice B2q m2q d2q)).put 2 (.int .i64 y2q)
  have bP := (bP.keep res2q.keep (fun h => h)).keep kv2q (fun h => hPQ h)
  have G2q := res2q.got.keep kv2q (fun i (h : i = Q) => by omega)
  have O2q := (O2p.keep res2q.keep).keepF kv2q (fun i (h : i = Q) => by omega)
  have G2p := (G2p.keep res2q.keep (fun _ h => h.elim)).keep kv2q (fun i (h : i = Q) => by omega)
  clear kv2q hb2q
  generalize ((x2q.setCell ⟨Q, 0, none⟩ (.int .i64 X2q)).setCell ⟨Q, 1, none⟩ (.slice B2q m2q d2q)).setCell ⟨Q, 2, none⟩ (.int .i64 y2q) = v2q at *
  clear res2q O2p
  obtain ⟨rfl, HSM2⟩ := same_got G2p G2q
  have HS2 := Lib.hid HSM2
  clear HSM2
  have sP0 : v2q.cell? ⟨P, 0, none⟩ = some (.int .i64 X2p) := bP.cell 0
  have sP1 : v2q.cell? ⟨P, 1, none⟩ = some (.slice B2p m2p d2p) := bP.cell 1
  have sP2 : v2q.cell? ⟨P, 2, none⟩ = some (.int .i64 y2p) := bP.cell 2
  have sQ0 : v2q.cell? ⟨Q, 0, none⟩ = some (.int .i64 X2q) := bQ.cell 0
  have sQ1 : v2q.cell? ⟨Q, 1, none⟩ = some (.slice B2q m2q d2q) := bQ.cell 1
  have sQ2 : v2q.cell? ⟨Q, 2, none⟩ = some (.int .i64 y2q) := bQ.cell 2
  have en : (e2p != e2p) = false := by simp
  have en2 : (e2p == e2p) = true := by simp
  go_upto_region 15 with (go_at_call 25
                          (with_reducible refine HS2.out.mono ?_)
                          rintro e s2 ⟨rfl, ks2⟩)
  have O2s := O2q.keep ks2
  have bP := bP.keep ks2 (fun h => h)
  have bQ := bQ.keep ks2 (fun h => h)
  clear ks2 en en2 HS2 G2p G2q O2q sP0 sP1 sP2 sQ0 sQ1 sQ2
  have u10 : s2.cell? ⟨w.heap.size, 0, none⟩ = some (.int .i64 V1) := O2s.b1.cell 0
  have u11 : s2.cell? ⟨w.heap.size, 1, none⟩ = some (.slice A1 n1 c1) := O2s.b1.cell 1
  have u12 : s2.cell? ⟨w.heap.size, 2, none⟩ = some (.int .i64 r1) := O2s.b1.cell 2
  have u20 : s2.cell? ⟨w.heap.size + 1, 0, none⟩ = some (.int .i64 V2) := O2s.b2.cell 0
  have u21 : s2.cell? ⟨w.heap.size + 1, 1, none⟩ = some (.slice A2 n2 c2) := O2s.b2.cell 1
  have u22 : s2.cell? ⟨w.heap.size + 1, 2, none⟩ = some (.int .i64 r2) := O2s.b2.cell 2
  have u30 : s2.cell? ⟨w.heap.size + 1 + 1, 0, none⟩ = some (.int .i64 V3) := O2s.b3.cell 0
  have u31 : s2.cell? ⟨w.heap.size + 1 + 1, 1, none⟩ = some (.slice A3 n3 c3) := O2s.b3.cell 1
  have u32 : s2.cell? ⟨w.heap.size + 1 + 1, 2, none⟩ = some (.int .i64 r3) := O2s.b3.cell 2
  have HP3p := Lib.hid (HH.p3 s2 O2s.k)
  have hw3p := bP.lt
  have hwx3 := bQ.lt
  go_upto_region 16 with (go_at_call 30
                          (with_reducible refine HP3p.out.mono ?_)
                          rintro e x3p ⟨X3p, S3p, y3p, e3p, B3p, m3p, d3p, rfl, res3p⟩
                          have hb3p := bP.keep res3p.keep (fun h => h)
                          have z0 : x3p.cell? ⟨P, 0, none⟩ = some (.int .i64 X2p) := hb3p.cell 0
                          have z1 : x3p.cell? ⟨P, 1, none⟩ = some (.slice B2p m2p d2p) := hb3p.cell 1
                          have z2 : x3p.cell? ⟨P, 2, none⟩ = some (.int .i64 y2p) := hb3p.cell 2
                          have f0 := hb3p.frozen 0
                          have f1 := hb3p.frozen 1
                          have f2 := hb3p.frozen 2)
  clear HP3p u10 u11 u12 u20 u21 u22 u30 u31 u32 z0 z1 z2 f0 f1 f2
  have kv3p : Keep (fun i => i = P) x3p (((x3p.setCell ⟨P, 0, none⟩ (.int .i64 X3p)).setCell ⟨P, 1, none⟩ (.slice B3p m3p d3p)).setCell ⟨P, 2, none⟩ (.int .i64 y3p)) := keep_set3 x3p P _ _ _
  have hl3p := bP.lt
  have bP : Bk (((x3p.setCell ⟨P, 0, none⟩ (.int .i64 X3p)).setCell ⟨P, 1, none⟩ (.slice B3p m3p d3p)).setCell ⟨P, 2, none⟩ (.int .i64 y3p)) P 24 #[.int .i64 X3p, .slice B3p m3p d3p, .int .i64 y3p] := ((hb3p.put 0 (.int .i64 X3p)).put 1 (.slice B3p m3p d3p)).put 2 (.int .i64 y3p)
  have bQ := (bQ.keep res3p.keep (fun h => h)).keep kv3p (fun h => hPQ h.symm)
  have G3p := res3p.got.keep kv3p (fun i (h : i = P) => by omega)
  have O3p := (O2s.keep res3p.keep).keepF kv3p (fun i (h : i = P) => by omega)
  clear kv3p hb3p
  generalize ((x3p.setCell ⟨P, 0, none⟩ (.int .i64 X3p)).setCell ⟨P, 1, none⟩ (.slice B3p m3p d3p)).setCell ⟨P, 2, none⟩ (.int .i64 y3p) = v3p at *
  clear res3p O2s
  have u10 : v3p.cell? ⟨w.heap.size, 0, none⟩ = some (.int .i64 V1) := O3p.b1.cell 0
  have u11 : v3p.cell? ⟨w.heap.size, 1, none⟩ = some (.slice A1 n1 c1) := O3p.b1.cell 1
  have u12 : v3p.cell? ⟨w.heap.size, 2, none⟩ = some (.int .i64 r1) := O3p.b1.cell 2
  have u20 : v3p.cell? ⟨w.heap.size + 1, 0, none⟩ = some (.int .i64 V2) := O3p.b2.cell 0
  have u21 : v3p.cell? ⟨w.heap.size + 1, 1, none⟩ = some (.slice A2 n2 c2) := O3p.b2.cell 1
  have u22 : v3p.cell? ⟨w.heap.size + 1, 2, none⟩ = some (.int .i64 r2) := O3p.b2.cell 2
  have u30 : v3p.cell? ⟨w.heap.size + 1 + 1, 0, none⟩ = some (.int .i64 V3) := O3p.b3.cell 0
  have u31 : v3p.cell? ⟨w.heap.size + 1 + 1, 1, none⟩ = some (.slice A3 n3 c3) := O3p.b3.cell 1
  have u32 : v3p.cell? ⟨w.heap.size + 1 + 1, 2, none⟩ = some (.int .i64 r3) := O3p.b3.cell 2
  have HP3q := Lib.hid (HH.q3 v3p O3p.k)
  have hw3q := bQ.lt
  go_upto_region 17 with (go_at_call 31
                          (with_reducible refine HP3q.out.mono ?_)
                          rintro e x3q ⟨X3q, S3q, y3q, e3q, B3q, m3q, d3q, rfl, res3q⟩
                          have hb3q := bQ.keep res3q.keep (fun h => h)
                          have z0 : x3q.cell? ⟨Q, 0, none⟩ = some (.int .i64 X2q) := hb3q.cell 0
                          have z1 : x3q.cell? ⟨Q, 1, none⟩ = some (.slice B2q m2q d2q) := hb3q.cell 1
                          have z2 : x3q.cell? ⟨Q, 2, none⟩ = some (.int .i64 y2q) := hb3q.cell 2
                          have f0 := hb3q.frozen 0
                          have f1 := hb3q.frozen 1
                          have f2 := hb3q.frozen 2)
  clear HP3q u10 u11 u12 u20 u21 u22 u30 u31 u32 z0 z1 z2 f0 f1 f2
  have kv3q : Keep (fun i => i = Q) x3q (((x3q.setCell ⟨Q, 0, none⟩ (.int .i64 X3q)).setCell ⟨Q, 1, none⟩ (.slice B3q m3q d3q)).setCell ⟨Q, 2, none⟩ (.int .i64 y3q)) := keep_set3 x3q Q _ _ _
  have hl3q := bQ.lt
  have bQ : Bk (((x3q.setCell ⟨Q, 0, none⟩ (.int .i64 X3q)).setCell ⟨Q, 1, none⟩ (.slice B3q m3q d3q)).setCell ⟨Q, 2, none⟩ (.int .i64 y3q)) Q 24 #[.int .i64 X3q, .slice B3q m3q d3q, .int .i64 y3q] := ((hb3q.put 0 (.int .i64 X3q)).put 1 (.slice B3q m3q d3q)).put 2 (.int .i64 y3q)
  have bP := (bP.keep res3q.keep (fun h => h)).keep kv3q (fun h => hPQ h)
  have G3q := res3q.got.keep kv3q (fun i (h : i = Q) => by omega)
  have O3q := (O3p.keep res3q.keep).keepF kv3q (fun i (h : i = Q) => by omega)
  have G3p := (G3p.keep res3q.keep (fun _ h => h.elim)).keep kv3q (fun i (h : i = Q) => by omega)
  clear kv3q hb3q
  generalize ((x3q.setCell ⟨Q, 0, none⟩ (.int .i64 X3q)).setCell ⟨Q, 1, none⟩ (.slice B3q m3q d3q)).setCell ⟨Q, 2, none⟩ (.int .i64 y3q) = v3q at *
  clear res3q O3p
  obtain ⟨rfl, HSM3⟩ := same_got G3p G3q
  have HS3 := Lib.hid HSM3
  clear HSM3
  have sP0 : v3q.cell? ⟨P, 0, none⟩ = some (.int .i64 X3p) := bP.cell 0
  have sP1 : v3q.cell? ⟨P, 1, none⟩ = some (.slice B3p m3p d3p) := bP.cell 1
  have sP2 : v3q.cell? ⟨P, 2, none⟩ = some (.int .i64 y3p) := bP.cell 2
  have sQ0 : v3q.cell? ⟨Q, 0, none⟩ = some (.int .i64 X3q) := bQ.cell 0
  have sQ1 : v3q.cell? ⟨Q, 1, none⟩ = some (.slice B3q m3q d3q) := bQ.cell 1
  have sQ2 : v3q.cell? ⟨Q, 2, none⟩ = some (.int .i64 y3q) := bQ.cell 2
  have en : (e3p != e3p) = false := by simp
  have en2 : (e3p == e3p) = true := by simp
  go_upto_region 19 with (go_at_call 25
                          (with_reducible refine HS3.out.mono ?_)
                          rintro e s3 ⟨rfl, ks3⟩)
  have O3s := O3q.keep ks3
  have bP := bP.keep ks3 (fun h => h)
  have bQ := bQ.keep ks3 (fun h => h)
  clear ks3 en en2 HS3 G3p G3q O3q sP0 sP1 sP2 sQ0 sQ1 sQ2
  have u10 : s3.cell? ⟨w.heap.size, 0, none⟩ = some (.int .i64 V1) := O3s.b1.cell 0
  have u11 : s3.cell? ⟨w.heap.size, 1, none⟩ = some (.slice A1 n1 c1) := O3s.b1.cell 1
  have u12 : s3.cell? ⟨w.heap.size, 2, none⟩ = some (.int .i64 r1) := O3s.b1.cell 2
  have u20 : s3.cell? ⟨w.heap.size + 1, 0, none⟩ = some (.int .i64 V2) := O3s.b2.cell 0
  have u21 : s3.cell? ⟨w.heap.size + 1, 1, none⟩ = some (.slice A2 n2 c2) := O3s.b2.cell 1
  have u22 : s3.cell? ⟨w.heap.size + 1, 2, none⟩ = some (.int .i64 r2) := O3s.b2.cell 2
  have u30 : s3.cell? ⟨w.heap.size + 1 + 1, 0, none⟩ = some (.int .i64 V3) := O3s.b3.cell 0
  have u31 : s3.cell? ⟨w.heap.size + 1 + 1, 1, none⟩ = some (.slice A3 n3 c3) := O3s.b3.cell 1
  have u32 : s3.cell? ⟨w.heap.size + 1 + 1, 2, none⟩ = some (.int .i64 r3) := O3s.b3.cell 2
  have HP4p := Lib.hid (HH.p4 s3 O3s.k)
  have hw4p := bP.lt
  have hwx4 := bQ.lt
  go_upto_region 20 with (go_at_call 32
                          (with_reducible refine HP4p.out.mono ?_)
                          rintro e x4p ⟨X4p, S4p, y4p, e4p, B4p, m4p, d4p, rfl, res4p⟩
                          have hb4p := bP.keep res4p.keep (fun h => h)
                          have z0 : x4p.cell? ⟨P, 0, none⟩ = some (.int .i64 X3p) := hb4p.cell 0
                          have z1 : x4p.cell? ⟨P, 1, none⟩ = some (.slice B3p m3p d3p) := hb4p.cell 1
                          have z2 : x4p.cell? ⟨P, 2, none⟩ = some (.int .i64 y3p) := hb4p.cell 2
                          have f0 := hb4p.frozen 0
                          have f1 := hb4p.frozen 1
                          have f2 := hb4p.frozen 2)
  clear HP4p u10 u11 u12 u20 u21 u22 u30 u31 u32 z0 z1 z2 f0 f1 f2
  have kv4p : Keep (fun i => i = P) x4p (((x4p.setCell ⟨P, 0, none⟩ (.int .i64 X4p)).setCell ⟨P, 1, none⟩ (.slice B4p m4p d4p)).setCell ⟨P, 2, none⟩ (.int .i64 y4p)) := keep_set3 x4p P _ _ _
  have hl4p := bP.lt
  have bP : Bk (((x4p.setCell ⟨P, 0, none⟩ (.int .i64 X4p)).setCell ⟨P, 1, none⟩ (.slice B4p m4p d4p)).setCell ⟨P, 2, none⟩ (.int .i64 y4p)) P 24 #[.int .i64 X4p, .slice B4p m4p d4p, .int .i64 y4p] := ((hb4p.put 0 (.int .i64 X4p)).put 1 (.slice B4p m4p d4p)).put 2 (.int .i64 y4p)
  have bQ := (bQ.keep res4p.keep (fun h => h)).keep kv4p (fun h => hPQ h.symm)
  have G4p := res4p.got.keep kv4p (fun i (h : i = P) => by omega)
  have O4p := (O3s.keep res4p.keep).keepF kv4p (fun i (h : i = P) => by omega)
  clear kv4p hb4p
  generalize ((x4p.setCell ⟨P, 0, none⟩ (.int .i64 X4p)).setCell ⟨P, 1, none⟩ (.slice B4p m4p d4p)).setCell ⟨P, 2, none⟩ (.int .i64 y4p) = v4p at *
  clear res4p O3s
  have u10 : v4p.cell? ⟨w.heap.size, 0, none⟩ = some (.int .i64 V1) := O4p.b1.cell 0
  have u11 : v4p.cell? ⟨w.heap.size, 1, none⟩ = some (.slice A1 n1 c1) := O4p.b1.cell 1
  have u12 : v4p.cell? ⟨w.heap.size, 2, none⟩ = some (.int .i64 r1) := O4p.b1.cell 2
  have u20 : v4p.cell? ⟨w.heap.size + 1, 0, none⟩ = some (.int .i64 V2) := O4p.b2.cell 0
  have u21 : v4p.cell? ⟨w.heap.size + 1, 1, none⟩ = some (.slice A2 n2 c2) := O4p.b2.cell 1
  have u22 : v4p.cell? ⟨w.heap.size + 1, 2, none⟩ = some (.int .i64 r2) := O4p.b2.cell 2
  have u30 : v4p.cell? ⟨w.heap.size + 1 + 1, 0, none⟩ = some (.int .i64 V3) := O4p.b3.cell 0
  have u31 : v4p.cell? ⟨w.heap.size + 1 + 1, 1, none⟩ = some (.slice A3 n3 c3) := O4p.b3.cell 1
  have u32 : v4p.cell? ⟨w.heap.size + 1 + 1, 2, none⟩ = some (.int .i64 r3) := O4p.b3.cell 2
  have HP4q := Lib.hid (HH.q4 v4p O4p.k)
  have hw4q := bQ.lt
  go_upto_region 21 with (go_at_call 33
                          (with_reducible refine HP4q.out.mono ?_)
                          rintro e x4q ⟨X4q, S4q, y4q, e4q, B4q, m4q, d4q, rfl, res4q⟩
                          have hb4q := bQ.keep res4q.keep (fun h => h)
                          have z0 : x4q.cell? ⟨Q, 0, none⟩ = some (.int .i64 X3q) := hb4q.cell 0
                          have z1 : x4q.cell? ⟨Q, 1, none⟩ = some (.slice B3q m3q d3q) := hb4q.cell 1
                          have z2 : x4q.cell? ⟨Q, 2, none⟩ = some (.int .i64 y3q) := hb4q.cell 2
                          have f0 := hb4q.frozen 0
                          have f1 := hb4q.frozen 1
                          have f2 := hb4q.frozen 2)
  clear HP4q u10 u11 u12 u20 u21 u22 u30 u31 u32 z0 z1 z2 f0 f1 f2
  have kv4q : Keep (fun i => i = Q) x4q (((x4q.setCell ⟨Q, 0, none⟩ (.int .i64 X4q)).setCell ⟨Q, 1, none⟩ (.slice B4q m4q d4q)).setCell ⟨Q, 2, none⟩ (.int .i64 y4q)) := keep_set3 x4q Q _ _ _
  have hl4q := bQ.lt
  have bQ : Bk (((x4q.setCell ⟨Q, 0, none⟩ (.int .i64 X4q)).setCell ⟨Q, 1, none⟩ (.slice B4q m4q d4q)).setCell ⟨Q, 2, none⟩ (.int .i64 y4q)) Q 24 #[.int .i64 X4q, .slice B4q m4q d4q, .int .i64 y4q] := ((hb4q.put 0 (.int .i64 X4q)).put 1 (.slice B4q m4q d4q)).put 2 (.int .i64 y4q)
  have bP := (bP.keep res4q.keep (fun h => h)).keep kv4q (fun h => hPQ h)
  have G4q := res4q.got.keep kv4q (fun i (h : i = Q) => by omega)
  have O4q := (O4p.keep res4q.keep).keepF kv4q (fun i (h : i = Q) => by omega)
  have G4p := (G4p.keep res4q.keep (fun _ h => h.elim)).keep kv4q (fun i (h : i = Q) => by omega)
  clear kv4q hb4q
  generalize ((x4q.setCell ⟨Q, 0, none⟩ (.int .i64 X4q)).setCell ⟨Q, 1, none⟩ (.slice B4q m4q d4q)).setCell ⟨Q, 2, none⟩ (.int .i64 y4q) = v4q at *
  clear res4q O4p
  obtain ⟨rfl, HSM4⟩ := same_got G4p G4q
  have HS4 := Lib.hid HSM4
  clear HSM4
  have sP0 : v4q.cell? ⟨P, 0, none⟩ = some (.int .i64 X4p) := bP.cell 0
  have sP1 : v4q.cell? ⟨P, 1, none⟩ = some (.slice B4p m4p d4p) := bP.cell 1
  have sP2 : v4q.cell? ⟨P, 2, none⟩ = some (.int .i64 y4p) := bP.cell 2
  have sQ0 : v4q.cell? ⟨Q, 0, none⟩ = some (.int .i64 X4q) := bQ.cell 0
  have sQ1 : v4q.cell? ⟨Q, 1, none⟩ = some (.slice B4q m4q d4q) := bQ.cell 1
  have sQ2 : v4q.cell? ⟨Q, 2, none⟩ = some (.int .i64 y4q) := bQ.cell 2
  have en : (e4p != e4p) = false := by simp
  have en2 : (e4p == e4p) = true := by simp
  go_wp2_with (first
    | (go_at_call 25
       (with_reducible refine HS4.out.mono ?_)
       rintro e s4 ⟨rfl, ks4⟩)
    | (go_at_call 12
       (with_reducible refine (awake_any s4).mono ?_)
       rintro e s5 ⟨rfl, ks5⟩))
  go_ret
  exact ⟨rfl, (O4q.k.trans ks4 fun _ _ h => h).trans ks5 fun _ _ h => h⟩
end

theorem walk_BddCombines (a b c : Dg) (w : World) (ha : a.Has w) (hb : b.Has w) (hc : c.Has w) :
    Calls Try.prog 4 #[a.val, b.val, c.val] w fun e w' => e = .returned (.bool true) ∧ Keep NoF w w' := by
  have HS1 := Lib.hid fun (W : World) (lv : Value) (hk : Keep NoF w W) (hr : Rd W lv 3 3 ([a, b, c].flatMap Dg.cells)) => small_any [a, b, c] lv W (by simp) (by simp) hr (fun x hx => by
    have e : x = a ∨ x = b ∨ x = c := by simpa using hx
    rcases e with rfl | rfl | rfl
    · exact ⟨ha.1.kept hk fun _ _ h => h, ha.2⟩
    · exact ⟨hb.1.kept hk fun _ _ h => h, hb.2⟩
    · exact ⟨hc.1.kept hk fun _ _ h => h, hc.2⟩)
  have HIN : smallB [a, b, c] = true → ∀ W, Keep NoF w W → a.In W ∧ b.In W ∧ c.In W := fun h W hk => by
    simp only [smallB, List.all_cons, List.all_nil, Bool.and_true, Bool.and_eq_true, decide_eq_true_eq] at h
    exact ⟨⟨ha.1.kept hk fun _ _ h => h, by omega⟩, ⟨hb.1.kept hk fun _ _ h => h, by omega⟩, ⟨hc.1.kept hk fun _ _ h => h, by omega⟩⟩
  have ha1 := ha.1
  have hb1 := hb.1
  have hc1 := hc.1
  have HCM : smallB [a, b, c] = true → ∀ A1 c1 A2 c2 A3 c3, a.sl = .slice A1 a.R.length c1 → b.sl = .slice A2 b.R.length c2 → c.sl = .slice A3 c.R.length c3 → CmbH w a.V [a, b] [a] [a, b, c] a.V A1 a.R.length c1 a.root b.V A2 b.R.length c2 b.root c.V A3 c.R.length c3 c.root := fun hsm A1 c1 A2 c2 A3 c3 e1 e2 e3 => by
    have v1 : a.val = .agg #[.int .i64 a.V, .slice A1 a.R.length c1, .int .i64 a.root] := by unfold Dg.val; rw [e1]
    have v2 : b.val = .agg #[.int .i64 b.V, .slice A2 b.R.length c2, .int .i64 b.root] := by unfold Dg.val; rw [e2]
    have v3 : c.val = .agg #[.int .i64 c.V, .slice A3 c.R.length c3, .int .i64 c.root] := by unfold Dg.val; rw [e3]
    constructor
    all_goals
      unfold OpCall
      first | rw [← v1, ← v2, ← v3] | rw [← v1, ← v2] | rw [← v1]
    · exact fun W hk => by have h := HIN hsm W hk; exact (and_any a b W h.1 h.2.1).mono fun _ _ h => h.res
    · exact fun W hk => by have h := HIN hsm W hk; exact (rAnd_any a b W h.1 h.2.1).mono fun _ _ h => h.res
    · exact fun W hk => by have h := HIN hsm W hk; exact (or_any a b W h.1 h.2.1).mono fun _ _ h => h.res
    · exact fun W hk => by have h := HIN hsm W hk; exact (rOr_any a b W h.1 h.2.1).mono fun _ _ h => h.res
    · exact fun W hk => by have h := HIN hsm W hk; exact (xor_any a b W h.1 h.2.1).mono fun _ _ h => h.res
    · exact fun W hk => by have h := HIN hsm W hk; exact (rXor_any a b W h.1 h.2.1).mono fun _ _ h => h.res
    · exact fun W hk => by have h := HIN hsm W hk; exact (not_any a W h.1).mono fun _ _ h => h.res
    · exact fun W hk => by have h := HIN hsm W hk; exact (rNot_any a W h.1).mono fun _ _ h => h.res
    · exact fun W hk => by have h := HIN hsm W hk; exact (iteD_any a b c W h.1 h.2.1 h.2.2).mono fun _ _ h => h.res
    · exact fun W hk => by have h := HIN hsm W hk; exact (rIte_any a b c W h.1 h.2.1 h.2.2).mono fun _ _ h => h.res
  obtain ⟨V1, R1, r1, s1⟩ := a
  obtain ⟨V2, R2, r2, s2⟩ := b
  obtain ⟨V3, R3, r3, s3⟩ := c
  simp only at ha1 hb1 hc1
  obtain ⟨_, A1, c1, rfl, _, _⟩ := ha1
  obtain ⟨_, A2, c2, rfl, _, _⟩ := hb1
  obtain ⟨_, A3, c3, rfl, _, _⟩ := hc1
  have HCM2 := fun h => HCM h A1 c1 A2 c2 A3 c3 rfl rfl rfl
  clear HCM HIN ha hb hc
  simp only [List.flatMap_cons, List.flatMap_nil, List.append_nil, Dg.val, Dg.cells, List.cons_append, List.nil_append] at HS1 HCM2 ⊢
  generalize smallB [⟨V1, R1, r1, .slice A1 R1.length c1⟩, ⟨V2, R2, r2, .slice A2 R2.length c2⟩, ⟨V3, R3, r3, .slice A3 R3.length c3⟩] = sm at *
  generalize [(⟨V1, R1, r1, .slice A1 R1.length c1⟩ : Dg), ⟨V2, R2, r2, .slice A2 R2.length c2⟩] = L1 at *
  generalize [(⟨V1, R1, r1, .slice A1 R1.length c1⟩ : Dg)] = L2 at *
  generalize [(⟨V1, R1, r1, .slice A1 R1.length c1⟩ : Dg), ⟨V2, R2, r2, .slice A2 R2.length c2⟩, ⟨V3, R3, r3, .slice A3 R3.length c3⟩] = L3 at *
  generalize R1.length = n1 at *
  generalize R2.length = n2 at *
  generalize R3.length = n3 at *
  have k0 : Keep NoF w ((((w.alloc (.cells #[.int .i64 V1, .slice A1 n1 c1, .int .i64 r1] 24)).alloc (.cells #[.int .i64 V2, .slice A2 n2 c2, .int .i64 r2] 24)).alloc (.cells #[.int .i64 V3, .slice A3 n3 c3, .int .i64 r3] 24)).alloc (.cells #[.int .i64 V1, .slice A1 n1 c1, .int .i64 r1, .int .i64 V2, .slice A2 n2 c2, .int .i64 r2, .int .i64 V3, .slice A3 n3 c3, .int .i64 r3] 24)) := ((((Keep.refl _ _).alloc _).alloc _).alloc _).alloc _
  have HSC := Lib.hid (HS1.out _ _ k0 (rd_new (w := ((w.alloc (.cells #[.int .i64 V1, .slice A1 n1 c1, .int .i64 r1] 24)).alloc (.cells #[.int .i64 V2, .slice A2 n2 c2, .int .i64 r2] 24)).alloc (.cells #[.int .i64 V3, .slice A3 n3 c3, .int .i64 r3] 24)) 24 #[.int .i64 V1, .slice A1 n1 c1, .int .i64 r1, .int .i64 V2, .slice A2 n2 c2, .int .i64 r2, .int .i64 V3, .slice A3 n3 c3, .int .i64 r3] 3 3 3 (blk := w.heap.size + 1 + 1 + 1) (by simp) rfl (by omega)))
  clear HS1
  cases sm
  · clear HCM2
    go_enter Try.func4, Try.ntmps4
    go_wp2_with (first
      | (go_at_call 11
         (with_reducible refine HSC.out.mono ?_)
         rintro e w1 ⟨rfl, k1⟩)
      | (go_at_call 12
         (with_reducible refine (awake_any w1).mono ?_)
         rintro e w2 ⟨rfl, k2⟩))
    go_ret
    exact ⟨rfl, (k0.trans k1 fun _ _ h => h).trans k2 fun _ _ h => h⟩
  · exact combines_core (HCM2 rfl) HSC
end Go.Proofs.Ytengdldkkmknpaa
