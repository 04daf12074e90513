/- The checker: what value does at one node, in a valid model. Conditions: the node is right. -/
import Derived.Test.YtmjdbbfoihadoaaEvJ
import Derived.Test.YtmjdbbfoihadoaaEvG
import Derived.Test.YtmjdbbfoihadoaaEvHI
import Derived.Test.YtmjdbbfoihadoaaEvAC
set_option linter.unusedVariables false
set_option linter.unusedSimpArgs false
namespace Go.Proofs.Ytmjdbbfoihadoaa
open Go.RowKit
open Ev
open Fm (Nd)
attribute [local go_sem] Oper.semAt_some
theorem all_shift {n : Nat} {W : Int} (h1 : 1 ≤ n) (h64 : n ≤ 64) (hW : (n : Int) = W) : ∃ k : Nat, k < 64 ∧ (64 : Int) - W = (k : Int) ∧ (18446744073709551615 : Int) / 2 ^ k = ((2 ^ n - 1 : Nat) : Int) := by
  refine ⟨64 - n, by omega, by omega, ?_⟩
  have h : ∀ m : Fin 65, (18446744073709551615 : Int) / 2 ^ (64 - m.val) = ((2 ^ m.val - 1 : Nat) : Int) := by decide +kernel
  exact h ⟨n, by omega⟩
theorem pow4w {n : Nat} (hn : n ≤ 4) : IntKind.i64.wrap ((2 : Int) ^ n) = ((2 ^ n : Nat) : Int) := by
  have h : ∀ n : Fin 5, IntKind.i64.wrap ((2 : Int) ^ n.val) = ((2 ^ n.val : Nat) : Int) := by decide +kernel
  exact h ⟨n, by omega⟩
section
set_option maxRecDepth 100000
set_option maxHeartbeats 2000000
variable {w : World} {M : Md} {va ra : Option Addr} {cv cr : Nat} {rs : List (Option Addr × Nat)}
theorem ckvalue_1 (hM : MdR w M va cv ra cr rs) (hok : Okm M) {i e0 g x0 y0 : Int} {x y : Nat} (hx : x < 18446744073709551616) (hy : y < 18446744073709551616) : 
    Calls Try.prog 16 #[.agg #[.int .i64 M.W, .slice va M.V.length cv, .slice ra M.R.length cr], .agg #[.int .i64 1, .int .i64 i, .int .i64 e0, .int .i64 g, .int .i64 x0, .int .i64 y0], .int .u64 (x : Int), .int .u64 (y : Int)] w fun e w' => e = .returned (.tuple #[.int .u64 ((2 ^ M.n - 1 : Nat) : Int), .bool true]) ∧ Keep NoF w w' := by
  have hK0 : Keep NoF w ((w.alloc (.cells #[.int .i64 M.W, .slice va M.V.length cv, .slice ra M.R.length cr] 25)).alloc (.cells #[.int .i64 1, .int .i64 i, .int .i64 e0, .int .i64 g, .int .i64 x0, .int .i64 y0] 53)) := ((Keep.refl _ _).alloc _).alloc _
  have b0 : Bk ((w.alloc (.cells #[.int .i64 M.W, .slice va M.V.length cv, .slice ra M.R.length cr] 25)).alloc (.cells #[.int .i64 1, .int .i64 i, .int .i64 e0, .int .i64 g, .int .i64 x0, .int .i64 y0] 53)) w.heap.size 25 #[.int .i64 M.W, .slice va M.V.length cv, .slice ra M.R.length cr] := (Bk.new w _ _).alloc _
  have b1 : Bk ((w.alloc (.cells #[.int .i64 M.W, .slice va M.V.length cv, .slice ra M.R.length cr] 25)).alloc (.cells #[.int .i64 1, .int .i64 i, .int .i64 e0, .int .i64 g, .int .i64 x0, .int .i64 y0] 53)) (w.heap.size + 1) 53 #[.int .i64 1, .int .i64 i, .int .i64 e0, .int .i64 g, .int .i64 x0, .int .i64 y0] := by
    have := Bk.new (w.alloc (.cells #[.int .i64 M.W, .slice va M.V.length cv, .slice ra M.R.length cr] 25)) 53 #[.int .i64 1, .int .i64 i, .int .i64 e0, .int .i64 g, .int .i64 x0, .int .i64 y0]
    rwa [World.size_alloc] at this
  have hn := hok.n1
  obtain ⟨k, hk, hs, hall⟩ := all_shift hn.1 hn.2.1 hn.2.2
  have ha64 : 2 ^ M.n - 1 < 18446744073709551616 := Ev.lt64 hn.2.1 (allN_lt M.n)
  have hk0 : (0 : Int) ≤ (k : Int) := by omega
  have hk1 : (k : Int) < 64 := by omega
  have HM := Lib.hid hM
  have HALL := Lib.hid hall
  clear hall
  generalize 2 ^ M.n - 1 = al at *
  clear hM hok hn
  have hall := HALL.out
  clear HALL
  go_enter Try.func16, Try.ntmps16
  go_upto_region 1 with (fail)
  generalize ((w.alloc (.cells #[.int .i64 M.W, .slice va M.V.length cv, .slice ra M.R.length cr] 25)).alloc (.cells #[.int .i64 1, .int .i64 i, .int .i64 e0, .int .i64 g, .int .i64 x0, .int .i64 y0] 53)) = W at *
  have s0 : W.cell? ⟨w.heap.size, 0, none⟩ = some (.int .i64 M.W) := b0.cell 0
  have s1 : W.cell? ⟨w.heap.size, 1, none⟩ = some (.slice va M.V.length cv) := b0.cell 1
  have s2 : W.cell? ⟨w.heap.size, 2, none⟩ = some (.slice ra M.R.length cr) := b0.cell 2
  have n0 : W.cell? ⟨w.heap.size + 1, 0, none⟩ = some (.int .i64 1) := b1.cell 0
  have n1 : W.cell? ⟨w.heap.size + 1, 1, none⟩ = some (.int .i64 i) := b1.cell 1
  have n3 : W.cell? ⟨w.heap.size + 1, 3, none⟩ = some (.int .i64 g) := b1.cell 3
  have HK := Lib.hid hK0
  clear b0 b1 hK0
  go_wp2
  refine bodyPost_ret (v := .tuple #[.int .u64 ((al : Nat)), .bool true]) (by simp [results, Try.results16, go_sem]) rfl ?_
  exact ⟨rfl, HK.out⟩
theorem ckvalue_2 (hM : MdR w M va cv ra cr rs) (hok : Okm M) {i e0 g x0 y0 : Int} {x y : Nat} (hx : x < 18446744073709551616) (hy : y < 18446744073709551616) : 
    Calls Try.prog 16 #[.agg #[.int .i64 M.W, .slice va M.V.length cv, .slice ra M.R.length cr], .agg #[.int .i64 2, .int .i64 i, .int .i64 e0, .int .i64 g, .int .i64 x0, .int .i64 y0], .int .u64 (x : Int), .int .u64 (y : Int)] w fun e w' => e = .returned (.tuple #[.int .u64 ((0 : Nat) : Int), .bool true]) ∧ Keep NoF w w' := by
  have hK0 : Keep NoF w ((w.alloc (.cells #[.int .i64 M.W, .slice va M.V.length cv, .slice ra M.R.length cr] 25)).alloc (.cells #[.int .i64 2, .int .i64 i, .int .i64 e0, .int .i64 g, .int .i64 x0, .int .i64 y0] 53)) := ((Keep.refl _ _).alloc _).alloc _
  have b0 : Bk ((w.alloc (.cells #[.int .i64 M.W, .slice va M.V.length cv, .slice ra M.R.length cr] 25)).alloc (.cells #[.int .i64 2, .int .i64 i, .int .i64 e0, .int .i64 g, .int .i64 x0, .int .i64 y0] 53)) w.heap.size 25 #[.int .i64 M.W, .slice va M.V.length cv, .slice ra M.R.length cr] := (Bk.new w _ _).alloc _
  have b1 : Bk ((w.alloc (.cells #[.int .i64 M.W, .slice va M.V.length cv, .slice ra M.R.length cr] 25)).alloc (.cells #[.int .i64 2, .int .i64 i, .int .i64 e0, .int .i64 g, .int .i64 x0, .int .i64 y0] 53)) (w.heap.size + 1) 53 #[.int .i64 2, .int .i64 i, .int .i64 e0, .int .i64 g, .int .i64 x0, .int .i64 y0] := by
    have := Bk.new (w.alloc (.cells #[.int .i64 M.W, .slice va M.V.length cv, .slice ra M.R.length cr] 25)) 53 #[.int .i64 2, .int .i64 i, .int .i64 e0, .int .i64 g, .int .i64 x0, .int .i64 y0]
    rwa [World.size_alloc] at this
  have hn := hok.n1
  obtain ⟨k, hk, hs, hall⟩ := all_shift hn.1 hn.2.1 hn.2.2
  have ha64 : 2 ^ M.n - 1 < 18446744073709551616 := Ev.lt64 hn.2.1 (allN_lt M.n)
  have hk0 : (0 : Int) ≤ (k : Int) := by omega
  have hk1 : (k : Int) < 64 := by omega
  have HM := Lib.hid hM
  have HALL := Lib.hid hall
  clear hall
  generalize 2 ^ M.n - 1 = al at *
  clear hM hok hn
  have hall := HALL.out
  clear HALL
  go_enter Try.func16, Try.ntmps16
  go_upto_region 1 with (fail)
  generalize ((w.alloc (.cells #[.int .i64 M.W, .slice va M.V.length cv, .slice ra M.R.length cr] 25)).alloc (.cells #[.int .i64 2, .int .i64 i, .int .i64 e0, .int .i64 g, .int .i64 x0, .int .i64 y0] 53)) = W at *
  have s0 : W.cell? ⟨w.heap.size, 0, none⟩ = some (.int .i64 M.W) := b0.cell 0
  have s1 : W.cell? ⟨w.heap.size, 1, none⟩ = some (.slice va M.V.length cv) := b0.cell 1
  have s2 : W.cell? ⟨w.heap.size, 2, none⟩ = some (.slice ra M.R.length cr) := b0.cell 2
  have n0 : W.cell? ⟨w.heap.size + 1, 0, none⟩ = some (.int .i64 2) := b1.cell 0
  have n1 : W.cell? ⟨w.heap.size + 1, 1, none⟩ = some (.int .i64 i) := b1.cell 1
  have n3 : W.cell? ⟨w.heap.size + 1, 3, none⟩ = some (.int .i64 g) := b1.cell 3
  have HK := Lib.hid hK0
  clear b0 b1 hK0
  go_wp2
  refine bodyPost_ret (v := .tuple #[.int .u64 (0), .bool true]) (by simp [results, Try.results16, go_sem]) rfl ?_
  exact ⟨rfl, HK.out⟩
theorem ckvalue_4 (hM : MdR w M va cv ra cr rs) (hok : Okm M) {i e0 g x0 y0 : Int} {x y : Nat} (hx : x < 18446744073709551616) (hy : y < 18446744073709551616) : 
    Calls Try.prog 16 #[.agg #[.int .i64 M.W, .slice va M.V.length cv, .slice ra M.R.length cr], .agg #[.int .i64 4, .int .i64 i, .int .i64 e0, .int .i64 g, .int .i64 x0, .int .i64 y0], .int .u64 (x : Int), .int .u64 (y : Int)] w fun e w' => e = .returned (.tuple #[.int .u64 ((adN (2 ^ M.n - 1) x : Nat) : Int), .bool true]) ∧ Keep NoF w w' := by
  have hK0 : Keep NoF w ((w.alloc (.cells #[.int .i64 M.W, .slice va M.V.length cv, .slice ra M.R.length cr] 25)).alloc (.cells #[.int .i64 4, .int .i64 i, .int .i64 e0, .int .i64 g, .int .i64 x0, .int .i64 y0] 53)) := ((Keep.refl _ _).alloc _).alloc _
  have b0 : Bk ((w.alloc (.cells #[.int .i64 M.W, .slice va M.V.length cv, .slice ra M.R.length cr] 25)).alloc (.cells #[.int .i64 4, .int .i64 i, .int .i64 e0, .int .i64 g, .int .i64 x0, .int .i64 y0] 53)) w.heap.size 25 #[.int .i64 M.W, .slice va M.V.length cv, .slice ra M.R.length cr] := (Bk.new w _ _).alloc _
  have b1 : Bk ((w.alloc (.cells #[.int .i64 M.W, .slice va M.V.length cv, .slice ra M.R.length cr] 25)).alloc (.cells #[.int .i64 4, .int .i64 i, .int .i64 e0, .int .i64 g, .int .i64 x0, .int .i64 y0] 53)) (w.heap.size + 1) 53 #[.int .i64 4, .int .i64 i, .int .i64 e0, .int .i64 g, .int .i64 x0, .int .i64 y0] := by
    have := Bk.new (w.alloc (.cells #[.int .i64 M.W, .slice va M.V.length cv, .slice ra M.R.length cr] 25)) 53 #[.int .i64 4, .int .i64 i, .int .i64 e0, .int .i64 g, .int .i64 x0, .int .i64 y0]
    rwa [World.size_alloc] at this
  have hn := hok.n1
  obtain ⟨k, hk, hs, hall⟩ := all_shift hn.1 hn.2.1 hn.2.2
  have ha64 : 2 ^ M.n - 1 < 18446744073709551616 := Ev.lt64 hn.2.1 (allN_lt M.n)
  have hk0 : (0 : Int) ≤ (k : Int) := by omega
  have hk1 : (k : Int) < 64 := by omega
  have HM := Lib.hid hM
  have HALL := Lib.hid hall
  clear hall
  have e1 := and_not (2 ^ M.n - 1) x ha64 hx
  generalize adN (2 ^ M.n - 1) x = r at *
  generalize 2 ^ M.n - 1 = al at *
  clear hM hok hn
  have hall := HALL.out
  clear HALL
  go_enter Try.func16, Try.ntmps16
  go_upto_region 1 with (fail)
  generalize ((w.alloc (.cells #[.int .i64 M.W, .slice va M.V.length cv, .slice ra M.R.length cr] 25)).alloc (.cells #[.int .i64 4, .int .i64 i, .int .i64 e0, .int .i64 g, .int .i64 x0, .int .i64 y0] 53)) = W at *
  have s0 : W.cell? ⟨w.heap.size, 0, none⟩ = some (.int .i64 M.W) := b0.cell 0
  have s1 : W.cell? ⟨w.heap.size, 1, none⟩ = some (.slice va M.V.length cv) := b0.cell 1
  have s2 : W.cell? ⟨w.heap.size, 2, none⟩ = some (.slice ra M.R.length cr) := b0.cell 2
  have n0 : W.cell? ⟨w.heap.size + 1, 0, none⟩ = some (.int .i64 4) := b1.cell 0
  have n1 : W.cell? ⟨w.heap.size + 1, 1, none⟩ = some (.int .i64 i) := b1.cell 1
  have n3 : W.cell? ⟨w.heap.size + 1, 3, none⟩ = some (.int .i64 g) := b1.cell 3
  have HK := Lib.hid hK0
  clear b0 b1 hK0
  go_wp2
  refine bodyPost_ret (v := .tuple #[.int .u64 ((r : Nat)), .bool true]) (by simp [results, Try.results16, go_sem]) rfl ?_
  exact ⟨rfl, HK.out⟩
theorem ckvalue_5 (hM : MdR w M va cv ra cr rs) (hok : Okm M) {i e0 g x0 y0 : Int} {x y : Nat} (hx : x < 18446744073709551616) (hy : y < 18446744073709551616) : 
    Calls Try.prog 16 #[.agg #[.int .i64 M.W, .slice va M.V.length cv, .slice ra M.R.length cr], .agg #[.int .i64 5, .int .i64 i, .int .i64 e0, .int .i64 g, .int .i64 x0, .int .i64 y0], .int .u64 (x : Int), .int .u64 (y : Int)] w fun e w' => e = .returned (.tuple #[.int .u64 ((x &&& y : Nat) : Int), .bool true]) ∧ Keep NoF w w' := by
  have hK0 : Keep NoF w ((w.alloc (.cells #[.int .i64 M.W, .slice va M.V.length cv, .slice ra M.R.length cr] 25)).alloc (.cells #[.int .i64 5, .int .i64 i, .int .i64 e0, .int .i64 g, .int .i64 x0, .int .i64 y0] 53)) := ((Keep.refl _ _).alloc _).alloc _
  have b0 : Bk ((w.alloc (.cells #[.int .i64 M.W, .slice va M.V.length cv, .slice ra M.R.length cr] 25)).alloc (.cells #[.int .i64 5, .int .i64 i, .int .i64 e0, .int .i64 g, .int .i64 x0, .int .i64 y0] 53)) w.heap.size 25 #[.int .i64 M.W, .slice va M.V.length cv, .slice ra M.R.length cr] := (Bk.new w _ _).alloc _
  have b1 : Bk ((w.alloc (.cells #[.int .i64 M.W, .slice va M.V.length cv, .slice ra M.R.length cr] 25)).alloc (.cells #[.int .i64 5, .int .i64 i, .int .i64 e0, .int .i64 g, .int .i64 x0, .int .i64 y0] 53)) (w.heap.size + 1) 53 #[.int .i64 5, .int .i64 i, .int .i64 e0, .int .i64 g, .int .i64 x0, .int .i64 y0] := by
    have := Bk.new (w.alloc (.cells #[.int .i64 M.W, .slice va M.V.length cv, .slice ra M.R.length cr] 25)) 53 #[.int .i64 5, .int .i64 i, .int .i64 e0, .int .i64 g, .int .i64 x0, .int .i64 y0]
    rwa [World.size_alloc] at this
  have hn := hok.n1
  obtain ⟨k, hk, hs, hall⟩ := all_shift hn.1 hn.2.1 hn.2.2
  have ha64 : 2 ^ M.n - 1 < 18446744073709551616 := Ev.lt64 hn.2.1 (allN_lt M.n)
  have hk0 : (0 : Int) ≤ (k : Int) := by omega
  have hk1 : (k : Int) < 64 := by omega
  have HM := Lib.hid hM
  have HALL := Lib.hid hall
  clear hall
  have e1 := and_nat hx hy
  generalize x &&& y = r at *
  generalize 2 ^ M.n - 1 = al at *
  clear hM hok hn
  have hall := HALL.out
  clear HALL
  go_enter Try.func16, Try.ntmps16
  go_upto_region 1 with (fail)
  generalize ((w.alloc (.cells #[.int .i64 M.W, .slice va M.V.length cv, .slice ra M.R.length cr] 25)).alloc (.cells #[.int .i64 5, .int .i64 i, .int .i64 e0, .int .i64 g, .int .i64 x0, .int .i64 y0] 53)) = W at *
  have s0 : W.cell? ⟨w.heap.size, 0, none⟩ = some (.int .i64 M.W) := b0.cell 0
  have s1 : W.cell? ⟨w.heap.size, 1, none⟩ = some (.slice va M.V.length cv) := b0.cell 1
  have s2 : W.cell? ⟨w.heap.size, 2, none⟩ = some (.slice ra M.R.length cr) := b0.cell 2
  have n0 : W.cell? ⟨w.heap.size + 1, 0, none⟩ = some (.int .i64 5) := b1.cell 0
  have n1 : W.cell? ⟨w.heap.size + 1, 1, none⟩ = some (.int .i64 i) := b1.cell 1
  have n3 : W.cell? ⟨w.heap.size + 1, 3, none⟩ = some (.int .i64 g) := b1.cell 3
  have HK := Lib.hid hK0
  clear b0 b1 hK0
  go_wp2
  refine bodyPost_ret (v := .tuple #[.int .u64 ((r : Nat)), .bool true]) (by simp [results, Try.results16, go_sem]) rfl ?_
  exact ⟨rfl, HK.out⟩
theorem ckvalue_6 (hM : MdR w M va cv ra cr rs) (hok : Okm M) {i e0 g x0 y0 : Int} {x y : Nat} (hx : x < 18446744073709551616) (hy : y < 18446744073709551616) : 
    Calls Try.prog 16 #[.agg #[.int .i64 M.W, .slice va M.V.length cv, .slice ra M.R.length cr], .agg #[.int .i64 6, .int .i64 i, .int .i64 e0, .int .i64 g, .int .i64 x0, .int .i64 y0], .int .u64 (x : Int), .int .u64 (y : Int)] w fun e w' => e = .returned (.tuple #[.int .u64 ((x ||| y : Nat) : Int), .bool true]) ∧ Keep NoF w w' := by
  have hK0 : Keep NoF w ((w.alloc (.cells #[.int .i64 M.W, .slice va M.V.length cv, .slice ra M.R.length cr] 25)).alloc (.cells #[.int .i64 6, .int .i64 i, .int .i64 e0, .int .i64 g, .int .i64 x0, .int .i64 y0] 53)) := ((Keep.refl _ _).alloc _).alloc _
  have b0 : Bk ((w.alloc (.cells #[.int .i64 M.W, .slice va M.V.length cv, .slice ra M.R.length cr] 25)).alloc (.cells #[.int .i64 6, .int .i64 i, .int .i64 e0, .int .i64 g, .int .i64 x0, .int .i64 y0] 53)) w.heap.size 25 #[.int .i64 M.W, .slice va M.V.length cv, .slice ra M.R.length cr] := (Bk.new w _ _).alloc _
  have b1 : Bk ((w.alloc (.cells #[.int .i64 M.W, .slice va M.V.length cv, .slice ra M.R.length cr] 25)).alloc (.cells #[.int .i64 6, .int .i64 i, .int .i64 e0, .int .i64 g, .int .i64 x0, .int .i64 y0] 53)) (w.heap.size + 1) 53 #[.int .i64 6, .int .i64 i, .int .i64 e0, .int .i64 g, .int .i64 x0, .int .i64 y0] := by
    have := Bk.new (w.alloc (.cells #[.int .i64 M.W, .slice va M.V.length cv, .slice ra M.R.length cr] 25)) 53 #[.int .i64 6, .int .i64 i, .int .i64 e0, .int .i64 g, .int .i64 x0, .int .i64 y0]
    rwa [World.size_alloc] at this
  have hn := hok.n1
  obtain ⟨k, hk, hs, hall⟩ := all_shift hn.1 hn.2.1 hn.2.2
  have ha64 : 2 ^ M.n - 1 < 18446744073709551616 := Ev.lt64 hn.2.1 (allN_lt M.n)
  have hk0 : (0 : Int) ≤ (k : Int) := by omega
  have hk1 : (k : Int) < 64 := by omega
  have HM := Lib.hid hM
  have HALL := Lib.hid hall
  clear hall
  have e1 := or_nat hx hy
  generalize x ||| y = r at *
  generalize 2 ^ M.n - 1 = al at *
  clear hM hok hn
  have hall := HALL.out
  clear HALL
  go_enter Try.func16, Try.ntmps16
  go_upto_region 1 with (fail)
  generalize ((w.alloc (.cells #[.int .i64 M.W, .slice va M.V.length cv, .slice ra M.R.length cr] 25)).alloc (.cells #[.int .i64 6, .int .i64 i, .int .i64 e0, .int .i64 g, .int .i64 x0, .int .i64 y0] 53)) = W at *
  have s0 : W.cell? ⟨w.heap.size, 0, none⟩ = some (.int .i64 M.W) := b0.cell 0
  have s1 : W.cell? ⟨w.heap.size, 1, none⟩ = some (.slice va M.V.length cv) := b0.cell 1
  have s2 : W.cell? ⟨w.heap.size, 2, none⟩ = some (.slice ra M.R.length cr) := b0.cell 2
  have n0 : W.cell? ⟨w.heap.size + 1, 0, none⟩ = some (.int .i64 6) := b1.cell 0
  have n1 : W.cell? ⟨w.heap.size + 1, 1, none⟩ = some (.int .i64 i) := b1.cell 1
  have n3 : W.cell? ⟨w.heap.size + 1, 3, none⟩ = some (.int .i64 g) := b1.cell 3
  have HK := Lib.hid hK0
  clear b0 b1 hK0
  go_wp2
  refine bodyPost_ret (v := .tuple #[.int .u64 ((r : Nat)), .bool true]) (by simp [results, Try.results16, go_sem]) rfl ?_
  exact ⟨rfl, HK.out⟩
theorem ckvalue_7 (hM : MdR w M va cv ra cr rs) (hok : Okm M) {i e0 g x0 y0 : Int} {x y : Nat} (hx : x < 18446744073709551616) (hy : y < 18446744073709551616) : 
    Calls Try.prog 16 #[.agg #[.int .i64 M.W, .slice va M.V.length cv, .slice ra M.R.length cr], .agg #[.int .i64 7, .int .i64 i, .int .i64 e0, .int .i64 g, .int .i64 x0, .int .i64 y0], .int .u64 (x : Int), .int .u64 (y : Int)] w fun e w' => e = .returned (.tuple #[.int .u64 ((adN (2 ^ M.n - 1) x ||| y : Nat) : Int), .bool true]) ∧ Keep NoF w w' := by
  have hK0 : Keep NoF w ((w.alloc (.cells #[.int .i64 M.W, .slice va M.V.length cv, .slice ra M.R.length cr] 25)).alloc (.cells #[.int .i64 7, .int .i64 i, .int .i64 e0, .int .i64 g, .int .i64 x0, .int .i64 y0] 53)) := ((Keep.refl _ _).alloc _).alloc _
  have b0 : Bk ((w.alloc (.cells #[.int .i64 M.W, .slice va M.V.length cv, .slice ra M.R.length cr] 25)).alloc (.cells #[.int .i64 7, .int .i64 i, .int .i64 e0, .int .i64 g, .int .i64 x0, .int .i64 y0] 53)) w.heap.size 25 #[.int .i64 M.W, .slice va M.V.length cv, .slice ra M.R.length cr] := (Bk.new w _ _).alloc _
  have b1 : Bk ((w.alloc (.cells #[.int .i64 M.W, .slice va M.V.length cv, .slice ra M.R.length cr] 25)).alloc (.cells #[.int .i64 7, .int .i64 i, .int .i64 e0, .int .i64 g, .int .i64 x0, .int .i64 y0] 53)) (w.heap.size + 1) 53 #[.int .i64 7, .int .i64 i, .int .i64 e0, .int .i64 g, .int .i64 x0, .int .i64 y0] := by
    have := Bk.new (w.alloc (.cells #[.int .i64 M.W, .slice va M.V.length cv, .slice ra M.R.length cr] 25)) 53 #[.int .i64 7, .int .i64 i, .int .i64 e0, .int .i64 g, .int .i64 x0, .int .i64 y0]
    rwa [World.size_alloc] at this
  have hn := hok.n1
  obtain ⟨k, hk, hs, hall⟩ := all_shift hn.1 hn.2.1 hn.2.2
  have ha64 : 2 ^ M.n - 1 < 18446744073709551616 := Ev.lt64 hn.2.1 (allN_lt M.n)
  have hk0 : (0 : Int) ≤ (k : Int) := by omega
  have hk1 : (k : Int) < 64 := by omega
  have HM := Lib.hid hM
  have HALL := Lib.hid hall
  clear hall
  have e1 := and_not (2 ^ M.n - 1) x ha64 hx
  have e2 := or_nat (a := adN (2 ^ M.n - 1) x) (Nat.lt_of_le_of_lt Nat.and_le_left ha64) hy
  generalize adN (2 ^ M.n - 1) x ||| y = r at *
  generalize adN (2 ^ M.n - 1) x = q at *
  generalize 2 ^ M.n - 1 = al at *
  clear hM hok hn
  have hall := HALL.out
  clear HALL
  go_enter Try.func16, Try.ntmps16
  go_upto_region 1 with (fail)
  generalize ((w.alloc (.cells #[.int .i64 M.W, .slice va M.V.length cv, .slice ra M.R.length cr] 25)).alloc (.cells #[.int .i64 7, .int .i64 i, .int .i64 e0, .int .i64 g, .int .i64 x0, .int .i64 y0] 53)) = W at *
  have s0 : W.cell? ⟨w.heap.size, 0, none⟩ = some (.int .i64 M.W) := b0.cell 0
  have s1 : W.cell? ⟨w.heap.size, 1, none⟩ = some (.slice va M.V.length cv) := b0.cell 1
  have s2 : W.cell? ⟨w.heap.size, 2, none⟩ = some (.slice ra M.R.length cr) := b0.cell 2
  have n0 : W.cell? ⟨w.heap.size + 1, 0, none⟩ = some (.int .i64 7) := b1.cell 0
  have n1 : W.cell? ⟨w.heap.size + 1, 1, none⟩ = some (.int .i64 i) := b1.cell 1
  have n3 : W.cell? ⟨w.heap.size + 1, 3, none⟩ = some (.int .i64 g) := b1.cell 3
  have HK := Lib.hid hK0
  clear b0 b1 hK0
  go_wp2
  refine bodyPost_ret (v := .tuple #[.int .u64 ((r : Nat)), .bool true]) (by simp [results, Try.results16, go_sem]) rfl ?_
  exact ⟨rfl, HK.out⟩
theorem ckvalue_8 (hM : MdR w M va cv ra cr rs) (hok : Okm M) {i e0 g x0 y0 : Int} {x y : Nat} (hx : x < 18446744073709551616) (hy : y < 18446744073709551616) : 
    Calls Try.prog 16 #[.agg #[.int .i64 M.W, .slice va M.V.length cv, .slice ra M.R.length cr], .agg #[.int .i64 8, .int .i64 i, .int .i64 e0, .int .i64 g, .int .i64 x0, .int .i64 y0], .int .u64 (x : Int), .int .u64 (y : Int)] w fun e w' => e = .returned (.tuple #[.int .u64 ((adN (2 ^ M.n - 1) (x ^^^ y) : Nat) : Int), .bool true]) ∧ Keep NoF w w' := by
  have hK0 : Keep NoF w ((w.alloc (.cells #[.int .i64 M.W, .slice va M.V.length cv, .slice ra M.R.length cr] 25)).alloc (.cells #[.int .i64 8, .int .i64 i, .int .i64 e0, .int .i64 g, .int .i64 x0, .int .i64 y0] 53)) := ((Keep.refl _ _).alloc _).alloc _
  have b0 : Bk ((w.alloc (.cells #[.int .i64 M.W, .slice va M.V.length cv, .slice ra M.R.length cr] 25)).alloc (.cells #[.int .i64 8, .int .i64 i, .int .i64 e0, .int .i64 g, .int .i64 x0, .int .i64 y0] 53)) w.heap.size 25 #[.int .i64 M.W, .slice va M.V.length cv, .slice ra M.R.length cr] := (Bk.new w _ _).alloc _
  have b1 : Bk ((w.alloc (.cells #[.int .i64 M.W, .slice va M.V.length cv, .slice ra M.R.length cr] 25)).alloc (.cells #[.int .i64 8, .int .i64 i, .int .i64 e0, .int .i64 g, .int .i64 x0, .int .i64 y0] 53)) (w.heap.size + 1) 53 #[.int .i64 8, .int .i64 i, .int .i64 e0, .int .i64 g, .int .i64 x0, .int .i64 y0] := by
    have := Bk.new (w.alloc (.cells #[.int .i64 M.W, .slice va M.V.length cv, .slice ra M.R.length cr] 25)) 53 #[.int .i64 8, .int .i64 i, .int .i64 e0, .int .i64 g, .int .i64 x0, .int .i64 y0]
    rwa [World.size_alloc] at this
  have hn := hok.n1
  obtain ⟨k, hk, hs, hall⟩ := all_shift hn.1 hn.2.1 hn.2.2
  have ha64 : 2 ^ M.n - 1 < 18446744073709551616 := Ev.lt64 hn.2.1 (allN_lt M.n)
  have hk0 : (0 : Int) ≤ (k : Int) := by omega
  have hk1 : (k : Int) < 64 := by omega
  have HM := Lib.hid hM
  have HALL := Lib.hid hall
  clear hall
  have e1 := u64_xor_nat x y hx hy
  have e2 := and_not (2 ^ M.n - 1) (x ^^^ y) ha64 (Nat.xor_lt_two_pow (n := 64) hx hy)
  generalize adN (2 ^ M.n - 1) (x ^^^ y) = r at *
  generalize x ^^^ y = q at *
  generalize 2 ^ M.n - 1 = al at *
  clear hM hok hn
  have hall := HALL.out
  clear HALL
  go_enter Try.func16, Try.ntmps16
  go_upto_region 1 with (fail)
  generalize ((w.alloc (.cells #[.int .i64 M.W, .slice va M.V.length cv, .slice ra M.R.length cr] 25)).alloc (.cells #[.int .i64 8, .int .i64 i, .int .i64 e0, .int .i64 g, .int .i64 x0, .int .i64 y0] 53)) = W at *
  have s0 : W.cell? ⟨w.heap.size, 0, none⟩ = some (.int .i64 M.W) := b0.cell 0
  have s1 : W.cell? ⟨w.heap.size, 1, none⟩ = some (.slice va M.V.length cv) := b0.cell 1
  have s2 : W.cell? ⟨w.heap.size, 2, none⟩ = some (.slice ra M.R.length cr) := b0.cell 2
  have n0 : W.cell? ⟨w.heap.size + 1, 0, none⟩ = some (.int .i64 8) := b1.cell 0
  have n1 : W.cell? ⟨w.heap.size + 1, 1, none⟩ = some (.int .i64 i) := b1.cell 1
  have n3 : W.cell? ⟨w.heap.size + 1, 3, none⟩ = some (.int .i64 g) := b1.cell 3
  have HK := Lib.hid hK0
  clear b0 b1 hK0
  go_wp2
  refine bodyPost_ret (v := .tuple #[.int .u64 ((r : Nat)), .bool true]) (by simp [results, Try.results16, go_sem]) rfl ?_
  exact ⟨rfl, HK.out⟩
theorem ckvalue_3n (hM : MdR w M va cv ra cr rs) (hok : Okm M) {i e0 g x0 y0 : Int} {x y : Nat} (hx : x < 18446744073709551616) (hy : y < 18446744073709551616) (hi : (M.V.length : Int) ≤ i) : 
    Calls Try.prog 16 #[.agg #[.int .i64 M.W, .slice va M.V.length cv, .slice ra M.R.length cr], .agg #[.int .i64 3, .int .i64 i, .int .i64 e0, .int .i64 g, .int .i64 x0, .int .i64 y0], .int .u64 (x : Int), .int .u64 (y : Int)] w fun e w' => e = .returned (.tuple #[.int .u64 ((0 : Nat) : Int), .bool false]) ∧ Keep NoF w w' := by
  have hK0 : Keep NoF w ((w.alloc (.cells #[.int .i64 M.W, .slice va M.V.length cv, .slice ra M.R.length cr] 25)).alloc (.cells #[.int .i64 3, .int .i64 i, .int .i64 e0, .int .i64 g, .int .i64 x0, .int .i64 y0] 53)) := ((Keep.refl _ _).alloc _).alloc _
  have b0 : Bk ((w.alloc (.cells #[.int .i64 M.W, .slice va M.V.length cv, .slice ra M.R.length cr] 25)).alloc (.cells #[.int .i64 3, .int .i64 i, .int .i64 e0, .int .i64 g, .int .i64 x0, .int .i64 y0] 53)) w.heap.size 25 #[.int .i64 M.W, .slice va M.V.length cv, .slice ra M.R.length cr] := (Bk.new w _ _).alloc _
  have b1 : Bk ((w.alloc (.cells #[.int .i64 M.W, .slice va M.V.length cv, .slice ra M.R.length cr] 25)).alloc (.cells #[.int .i64 3, .int .i64 i, .int .i64 e0, .int .i64 g, .int .i64 x0, .int .i64 y0] 53)) (w.heap.size + 1) 53 #[.int .i64 3, .int .i64 i, .int .i64 e0, .int .i64 g, .int .i64 x0, .int .i64 y0] := by
    have := Bk.new (w.alloc (.cells #[.int .i64 M.W, .slice va M.V.length cv, .slice ra M.R.length cr] 25)) 53 #[.int .i64 3, .int .i64 i, .int .i64 e0, .int .i64 g, .int .i64 x0, .int .i64 y0]
    rwa [World.size_alloc] at this
  have hn := hok.n1
  obtain ⟨k, hk, hs, hall⟩ := all_shift hn.1 hn.2.1 hn.2.2
  have ha64 : 2 ^ M.n - 1 < 18446744073709551616 := Ev.lt64 hn.2.1 (allN_lt M.n)
  have hk0 : (0 : Int) ≤ (k : Int) := by omega
  have hk1 : (k : Int) < 64 := by omega
  have HM := Lib.hid hM
  have HALL := Lib.hid hall
  clear hall
  generalize 2 ^ M.n - 1 = al at *
  clear hM hok hn
  have hall := HALL.out
  clear HALL
  go_enter Try.func16, Try.ntmps16
  go_upto_region 1 with (fail)
  generalize ((w.alloc (.cells #[.int .i64 M.W, .slice va M.V.length cv, .slice ra M.R.length cr] 25)).alloc (.cells #[.int .i64 3, .int .i64 i, .int .i64 e0, .int .i64 g, .int .i64 x0, .int .i64 y0] 53)) = W at *
  have s0 : W.cell? ⟨w.heap.size, 0, none⟩ = some (.int .i64 M.W) := b0.cell 0
  have s1 : W.cell? ⟨w.heap.size, 1, none⟩ = some (.slice va M.V.length cv) := b0.cell 1
  have s2 : W.cell? ⟨w.heap.size, 2, none⟩ = some (.slice ra M.R.length cr) := b0.cell 2
  have n0 : W.cell? ⟨w.heap.size + 1, 0, none⟩ = some (.int .i64 3) := b1.cell 0
  have n1 : W.cell? ⟨w.heap.size + 1, 1, none⟩ = some (.int .i64 i) := b1.cell 1
  have n3 : W.cell? ⟨w.heap.size + 1, 3, none⟩ = some (.int .i64 g) := b1.cell 3
  have HK := Lib.hid hK0
  clear b0 b1 hK0
  go_wp2
  refine bodyPost_ret (v := .tuple #[.int .u64 (0), .bool false]) (by simp [results, Try.results16, go_sem]) rfl ?_
  exact ⟨rfl, HK.out⟩
theorem ckvalue_3y (hM : MdR w M va cv ra cr rs) (hok : Okm M) {i e0 g x0 y0 : Int} {x y : Nat} (hx : x < 18446744073709551616) (hy : y < 18446744073709551616) (hi0 : 0 ≤ i) (hi : i < (M.V.length : Int)) : 
    Calls Try.prog 16 #[.agg #[.int .i64 M.W, .slice va M.V.length cv, .slice ra M.R.length cr], .agg #[.int .i64 3, .int .i64 i, .int .i64 e0, .int .i64 g, .int .i64 x0, .int .i64 y0], .int .u64 (x : Int), .int .u64 (y : Int)] w fun e w' => e = .returned (.tuple #[.int .u64 ((M.V.getD i.toNat 0 : Nat) : Int), .bool true]) ∧ Keep NoF w w' := by
  have hK0 : Keep NoF w ((w.alloc (.cells #[.int .i64 M.W, .slice va M.V.length cv, .slice ra M.R.length cr] 25)).alloc (.cells #[.int .i64 3, .int .i64 i, .int .i64 e0, .int .i64 g, .int .i64 x0, .int .i64 y0] 53)) := ((Keep.refl _ _).alloc _).alloc _
  have b0 : Bk ((w.alloc (.cells #[.int .i64 M.W, .slice va M.V.length cv, .slice ra M.R.length cr] 25)).alloc (.cells #[.int .i64 3, .int .i64 i, .int .i64 e0, .int .i64 g, .int .i64 x0, .int .i64 y0] 53)) w.heap.size 25 #[.int .i64 M.W, .slice va M.V.length cv, .slice ra M.R.length cr] := (Bk.new w _ _).alloc _
  have b1 : Bk ((w.alloc (.cells #[.int .i64 M.W, .slice va M.V.length cv, .slice ra M.R.length cr] 25)).alloc (.cells #[.int .i64 3, .int .i64 i, .int .i64 e0, .int .i64 g, .int .i64 x0, .int .i64 y0] 53)) (w.heap.size + 1) 53 #[.int .i64 3, .int .i64 i, .int .i64 e0, .int .i64 g, .int .i64 x0, .int .i64 y0] := by
    have := Bk.new (w.alloc (.cells #[.int .i64 M.W, .slice va M.V.length cv, .slice ra M.R.length cr] 25)) 53 #[.int .i64 3, .int .i64 i, .int .i64 e0, .int .i64 g, .int .i64 x0, .int .i64 y0]
    rwa [World.size_alloc] at this
  have hn := hok.n1
  obtain ⟨k, hk, hs, hall⟩ := all_shift hn.1 hn.2.1 hn.2.2
  have ha64 : 2 ^ M.n - 1 < 18446744073709551616 := Ev.lt64 hn.2.1 (allN_lt M.n)
  have hk0 : (0 : Int) ≤ (k : Int) := by omega
  have hk1 : (k : Int) < 64 := by omega
  have HM := Lib.hid hM
  have HALL := Lib.hid hall
  clear hall
  generalize 2 ^ M.n - 1 = al at *
  obtain ⟨_, hcV, bl, off, rfl, hc⟩ := (hM.keep hK0).V.nat_lt (show i.toNat < M.V.length by omega)
  have hii : ((i.toNat : Nat) : Int) = i := by omega
  have hd : ¬ (M.V.length : Int) ≤ i := by omega
  obtain ⟨j, hj⟩ : ∃ j, i.toNat = j := ⟨_, rfl⟩
  rw [hj] at hc hii ⊢
  subst hii
  clear hj hM hok hn
  generalize M.V.getD j 0 = r at *
  have hall := HALL.out
  clear HALL
  go_enter Try.func16, Try.ntmps16
  go_upto_region 1 with (fail)
  generalize ((w.alloc (.cells #[.int .i64 M.W, .slice (some ⟨bl, off, none⟩) M.V.length cv, .slice ra M.R.length cr] 25)).alloc (.cells #[.int .i64 3, .int .i64 (j : Int), .int .i64 e0, .int .i64 g, .int .i64 x0, .int .i64 y0] 53)) = W at *
  have s0 : W.cell? ⟨w.heap.size, 0, none⟩ = some (.int .i64 M.W) := b0.cell 0
  have s1 : W.cell? ⟨w.heap.size, 1, none⟩ = some (.slice (some ⟨bl, off, none⟩) M.V.length cv) := b0.cell 1
  have s2 : W.cell? ⟨w.heap.size, 2, none⟩ = some (.slice ra M.R.length cr) := b0.cell 2
  have n0 : W.cell? ⟨w.heap.size + 1, 0, none⟩ = some (.int .i64 3) := b1.cell 0
  have n1 : W.cell? ⟨w.heap.size + 1, 1, none⟩ = some (.int .i64 (j : Int)) := b1.cell 1
  have n3 : W.cell? ⟨w.heap.size + 1, 3, none⟩ = some (.int .i64 g) := b1.cell 3
  have HK := Lib.hid hK0
  clear b0 b1 hK0
  go_wp2
  refine bodyPost_ret (v := .tuple #[.int .u64 ((r : Nat)), .bool true]) (by simp [results, Try.results16, go_sem]) rfl ?_
  exact ⟨rfl, HK.out⟩
theorem ckvalue_9n (hM : MdR w M va cv ra cr rs) (hok : Okm M) {i e0 g x0 y0 : Int} {x y : Nat} (hx : x < 18446744073709551616) (hy : y < 18446744073709551616) (hi : (M.R.length : Int) ≤ i) : 
    Calls Try.prog 16 #[.agg #[.int .i64 M.W, .slice va M.V.length cv, .slice ra M.R.length cr], .agg #[.int .i64 9, .int .i64 i, .int .i64 e0, .int .i64 g, .int .i64 x0, .int .i64 y0], .int .u64 (x : Int), .int .u64 (y : Int)] w fun e w' => e = .returned (.tuple #[.int .u64 ((0 : Nat) : Int), .bool false]) ∧ Keep NoF w w' := by
  have hK0 : Keep NoF w ((w.alloc (.cells #[.int .i64 M.W, .slice va M.V.length cv, .slice ra M.R.length cr] 25)).alloc (.cells #[.int .i64 9, .int .i64 i, .int .i64 e0, .int .i64 g, .int .i64 x0, .int .i64 y0] 53)) := ((Keep.refl _ _).alloc _).alloc _
  have b0 : Bk ((w.alloc (.cells #[.int .i64 M.W, .slice va M.V.length cv, .slice ra M.R.length cr] 25)).alloc (.cells #[.int .i64 9, .int .i64 i, .int .i64 e0, .int .i64 g, .int .i64 x0, .int .i64 y0] 53)) w.heap.size 25 #[.int .i64 M.W, .slice va M.V.length cv, .slice ra M.R.length cr] := (Bk.new w _ _).alloc _
  have b1 : Bk ((w.alloc (.cells #[.int .i64 M.W, .slice va M.V.length cv, .slice ra M.R.length cr] 25)).alloc (.cells #[.int .i64 9, .int .i64 i, .int .i64 e0, .int .i64 g, .int .i64 x0, .int .i64 y0] 53)) (w.heap.size + 1) 53 #[.int .i64 9, .int .i64 i, .int .i64 e0, .int .i64 g, .int .i64 x0, .int .i64 y0] := by
    have := Bk.new (w.alloc (.cells #[.int .i64 M.W, .slice va M.V.length cv, .slice ra M.R.length cr] 25)) 53 #[.int .i64 9, .int .i64 i, .int .i64 e0, .int .i64 g, .int .i64 x0, .int .i64 y0]
    rwa [World.size_alloc] at this
  have hn := hok.n1
  obtain ⟨k, hk, hs, hall⟩ := all_shift hn.1 hn.2.1 hn.2.2
  have ha64 : 2 ^ M.n - 1 < 18446744073709551616 := Ev.lt64 hn.2.1 (allN_lt M.n)
  have hk0 : (0 : Int) ≤ (k : Int) := by omega
  have hk1 : (k : Int) < 64 := by omega
  have HM := Lib.hid hM
  have HALL := Lib.hid hall
  clear hall
  generalize 2 ^ M.n - 1 = al at *
  clear hM hok hn
  have hall := HALL.out
  clear HALL
  go_enter Try.func16, Try.ntmps16
  go_upto_region 1 with (fail)
  generalize ((w.alloc (.cells #[.int .i64 M.W, .slice va M.V.length cv, .slice ra M.R.length cr] 25)).alloc (.cells #[.int .i64 9, .int .i64 i, .int .i64 e0, .int .i64 g, .int .i64 x0, .int .i64 y0] 53)) = W at *
  have s0 : W.cell? ⟨w.heap.size, 0, none⟩ = some (.int .i64 M.W) := b0.cell 0
  have s1 : W.cell? ⟨w.heap.size, 1, none⟩ = some (.slice va M.V.length cv) := b0.cell 1
  have s2 : W.cell? ⟨w.heap.size, 2, none⟩ = some (.slice ra M.R.length cr) := b0.cell 2
  have n0 : W.cell? ⟨w.heap.size + 1, 0, none⟩ = some (.int .i64 9) := b1.cell 0
  have n1 : W.cell? ⟨w.heap.size + 1, 1, none⟩ = some (.int .i64 i) := b1.cell 1
  have n3 : W.cell? ⟨w.heap.size + 1, 3, none⟩ = some (.int .i64 g) := b1.cell 3
  have HK := Lib.hid hK0
  clear b0 b1 hK0
  go_wp2
  refine bodyPost_ret (v := .tuple #[.int .u64 (0), .bool false]) (by simp [results, Try.results16, go_sem]) rfl ?_
  exact ⟨rfl, HK.out⟩
theorem ckvalue_9y (hM : MdR w M va cv ra cr rs) (hok : Okm M) {i e0 g x0 y0 : Int} {x y : Nat} (hx : x < 18446744073709551616) (hy : y < 18446744073709551616) (hi0 : 0 ≤ i) (hi : i < (M.R.length : Int)) : 
    Calls Try.prog 16 #[.agg #[.int .i64 M.W, .slice va M.V.length cv, .slice ra M.R.length cr], .agg #[.int .i64 9, .int .i64 i, .int .i64 e0, .int .i64 g, .int .i64 x0, .int .i64 y0], .int .u64 (x : Int), .int .u64 (y : Int)] w fun e w' => e = .returned (.tuple #[.int .u64 ((bxN (M.R.getD i.toNat []) x : Nat) : Int), .bool true]) ∧ Keep NoF w w' := by
  have hK0 : Keep NoF w ((w.alloc (.cells #[.int .i64 M.W, .slice va M.V.length cv, .slice ra M.R.length cr] 25)).alloc (.cells #[.int .i64 9, .int .i64 i, .int .i64 e0, .int .i64 g, .int .i64 x0, .int .i64 y0] 53)) := ((Keep.refl _ _).alloc _).alloc _
  have b0 : Bk ((w.alloc (.cells #[.int .i64 M.W, .slice va M.V.length cv, .slice ra M.R.length cr] 25)).alloc (.cells #[.int .i64 9, .int .i64 i, .int .i64 e0, .int .i64 g, .int .i64 x0, .int .i64 y0] 53)) w.heap.size 25 #[.int .i64 M.W, .slice va M.V.length cv, .slice ra M.R.length cr] := (Bk.new w _ _).alloc _
  have b1 : Bk ((w.alloc (.cells #[.int .i64 M.W, .slice va M.V.length cv, .slice ra M.R.length cr] 25)).alloc (.cells #[.int .i64 9, .int .i64 i, .int .i64 e0, .int .i64 g, .int .i64 x0, .int .i64 y0] 53)) (w.heap.size + 1) 53 #[.int .i64 9, .int .i64 i, .int .i64 e0, .int .i64 g, .int .i64 x0, .int .i64 y0] := by
    have := Bk.new (w.alloc (.cells #[.int .i64 M.W, .slice va M.V.length cv, .slice ra M.R.length cr] 25)) 53 #[.int .i64 9, .int .i64 i, .int .i64 e0, .int .i64 g, .int .i64 x0, .int .i64 y0]
    rwa [World.size_alloc] at this
  have hn := hok.n1
  obtain ⟨k, hk, hs, hall⟩ := all_shift hn.1 hn.2.1 hn.2.2
  have ha64 : 2 ^ M.n - 1 < 18446744073709551616 := Ev.lt64 hn.2.1 (allN_lt M.n)
  have hk0 : (0 : Int) ≤ (k : Int) := by omega
  have hk1 : (k : Int) < 64 := by omega
  have HM := Lib.hid hM
  have HALL := Lib.hid hall
  clear hall
  generalize 2 ^ M.n - 1 = al at *
  obtain ⟨bl, off, A, c, rfl, hcr, hc, hrd, _⟩ := (hM.keep hK0).at_ (show i.toNat < M.R.length by omega)
  have HBX := Lib.hid (evBox_any (M.R.getD i.toNat []) (ok_of (okr_row hok (show i.toNat < M.R.length by omega))) x hx A c _ hrd)
  have hii : ((i.toNat : Nat) : Int) = i := by omega
  have hd : ¬ (M.R.length : Int) ≤ i := by omega
  obtain ⟨j, hj⟩ : ∃ j, i.toNat = j := ⟨_, rfl⟩
  rw [hj] at hc hii HBX ⊢
  subst hii
  clear hj hM hok hn hrd
  generalize bxN (M.R.getD j []) x = r at *
  generalize (M.R.getD j []).length = rl at *
  have hall := HALL.out
  clear HALL
  go_enter Try.func16, Try.ntmps16
  go_upto_region 1 with (fail)
  generalize ((w.alloc (.cells #[.int .i64 M.W, .slice va M.V.length cv, .slice (some ⟨bl, off, none⟩) M.R.length cr] 25)).alloc (.cells #[.int .i64 9, .int .i64 (j : Int), .int .i64 e0, .int .i64 g, .int .i64 x0, .int .i64 y0] 53)) = W at *
  have s0 : W.cell? ⟨w.heap.size, 0, none⟩ = some (.int .i64 M.W) := b0.cell 0
  have s1 : W.cell? ⟨w.heap.size, 1, none⟩ = some (.slice va M.V.length cv) := b0.cell 1
  have s2 : W.cell? ⟨w.heap.size, 2, none⟩ = some (.slice (some ⟨bl, off, none⟩) M.R.length cr) := b0.cell 2
  have n0 : W.cell? ⟨w.heap.size + 1, 0, none⟩ = some (.int .i64 9) := b1.cell 0
  have n1 : W.cell? ⟨w.heap.size + 1, 1, none⟩ = some (.int .i64 (j : Int)) := b1.cell 1
  have n3 : W.cell? ⟨w.heap.size + 1, 3, none⟩ = some (.int .i64 g) := b1.cell 3
  have HK := Lib.hid hK0
  clear b0 b1 hK0
  go_wp2_with (first
    | (go_at_call 26; (with_reducible refine HBX.out.mono ?_); rintro e w2 ⟨rfl, hw⟩; obtain rfl := hw.symm))
  refine bodyPost_ret (v := .tuple #[.int .u64 ((r : Nat)), .bool true]) (by simp [results, Try.results16, go_sem]) rfl ?_
  exact ⟨rfl, HK.out⟩
theorem ckvalue_10n (hM : MdR w M va cv ra cr rs) (hok : Okm M) {i e0 g x0 y0 : Int} {x y : Nat} (hx : x < 18446744073709551616) (hy : y < 18446744073709551616) (hi : (M.R.length : Int) ≤ i) : 
    Calls Try.prog 16 #[.agg #[.int .i64 M.W, .slice va M.V.length cv, .slice ra M.R.length cr], .agg #[.int .i64 10, .int .i64 i, .int .i64 e0, .int .i64 g, .int .i64 x0, .int .i64 y0], .int .u64 (x : Int), .int .u64 (y : Int)] w fun e w' => e = .returned (.tuple #[.int .u64 ((0 : Nat) : Int), .bool false]) ∧ Keep NoF w w' := by
  have hK0 : Keep NoF w ((w.alloc (.cells #[.int .i64 M.W, .slice va M.V.length cv, .slice ra M.R.length cr] 25)).alloc (.cells #[.int .i64 10, .int .i64 i, .int .i64 e0, .int .i64 g, .int .i64 x0, .int .i64 y0] 53)) := ((Keep.refl _ _).alloc _).alloc _
  have b0 : Bk ((w.alloc (.cells #[.int .i64 M.W, .slice va M.V.length cv, .slice ra M.R.length cr] 25)).alloc (.cells #[.int .i64 10, .int .i64 i, .int .i64 e0, .int .i64 g, .int .i64 x0, .int .i64 y0] 53)) w.heap.size 25 #[.int .i64 M.W, .slice va M.V.length cv, .slice ra M.R.length cr] := (Bk.new w _ _).alloc _
  have b1 : Bk ((w.alloc (.cells #[.int .i64 M.W, .slice va M.V.length cv, .slice ra M.R.length cr] 25)).alloc (.cells #[.int .i64 10, .int .i64 i, .int .i64 e0, .int .i64 g, .int .i64 x0, .int .i64 y0] 53)) (w.heap.size + 1) 53 #[.int .i64 10, .int .i64 i, .int .i64 e0, .int .i64 g, .int .i64 x0, .int .i64 y0] := by
    have := Bk.new (w.alloc (.cells #[.int .i64 M.W, .slice va M.V.length cv, .slice ra M.R.length cr] 25)) 53 #[.int .i64 10, .int .i64 i, .int .i64 e0, .int .i64 g, .int .i64 x0, .int .i64 y0]
    rwa [World.size_alloc] at this
  have hn := hok.n1
  obtain ⟨k, hk, hs, hall⟩ := all_shift hn.1 hn.2.1 hn.2.2
  have ha64 : 2 ^ M.n - 1 < 18446744073709551616 := Ev.lt64 hn.2.1 (allN_lt M.n)
  have hk0 : (0 : Int) ≤ (k : Int) := by omega
  have hk1 : (k : Int) < 64 := by omega
  have HM := Lib.hid hM
  have HALL := Lib.hid hall
  clear hall
  generalize 2 ^ M.n - 1 = al at *
  clear hM hok hn
  have hall := HALL.out
  clear HALL
  go_enter Try.func16, Try.ntmps16
  go_upto_region 1 with (fail)
  generalize ((w.alloc (.cells #[.int .i64 M.W, .slice va M.V.length cv, .slice ra M.R.length cr] 25)).alloc (.cells #[.int .i64 10, .int .i64 i, .int .i64 e0, .int .i64 g, .int .i64 x0, .int .i64 y0] 53)) = W at *
  have s0 : W.cell? ⟨w.heap.size, 0, none⟩ = some (.int .i64 M.W) := b0.cell 0
  have s1 : W.cell? ⟨w.heap.size, 1, none⟩ = some (.slice va M.V.length cv) := b0.cell 1
  have s2 : W.cell? ⟨w.heap.size, 2, none⟩ = some (.slice ra M.R.length cr) := b0.cell 2
  have n0 : W.cell? ⟨w.heap.size + 1, 0, none⟩ = some (.int .i64 10) := b1.cell 0
  have n1 : W.cell? ⟨w.heap.size + 1, 1, none⟩ = some (.int .i64 i) := b1.cell 1
  have n3 : W.cell? ⟨w.heap.size + 1, 3, none⟩ = some (.int .i64 g) := b1.cell 3
  have HK := Lib.hid hK0
  clear b0 b1 hK0
  go_wp2
  refine bodyPost_ret (v := .tuple #[.int .u64 (0), .bool false]) (by simp [results, Try.results16, go_sem]) rfl ?_
  exact ⟨rfl, HK.out⟩
theorem ckvalue_10y (hM : MdR w M va cv ra cr rs) (hok : Okm M) {i e0 g x0 y0 : Int} {x y : Nat} (hx : x < 18446744073709551616) (hy : y < 18446744073709551616) (hi0 : 0 ≤ i) (hi : i < (M.R.length : Int)) : 
    Calls Try.prog 16 #[.agg #[.int .i64 M.W, .slice va M.V.length cv, .slice ra M.R.length cr], .agg #[.int .i64 10, .int .i64 i, .int .i64 e0, .int .i64 g, .int .i64 x0, .int .i64 y0], .int .u64 (x : Int), .int .u64 (y : Int)] w fun e w' => e = .returned (.tuple #[.int .u64 ((dmN (M.R.getD i.toNat []) x : Nat) : Int), .bool true]) ∧ Keep NoF w w' := by
  have hK0 : Keep NoF w ((w.alloc (.cells #[.int .i64 M.W, .slice va M.V.length cv, .slice ra M.R.length cr] 25)).alloc (.cells #[.int .i64 10, .int .i64 i, .int .i64 e0, .int .i64 g, .int .i64 x0, .int .i64 y0] 53)) := ((Keep.refl _ _).alloc _).alloc _
  have b0 : Bk ((w.alloc (.cells #[.int .i64 M.W, .slice va M.V.length cv, .slice ra M.R.length cr] 25)).alloc (.cells #[.int .i64 10, .int .i64 i, .int .i64 e0, .int .i64 g, .int .i64 x0, .int .i64 y0] 53)) w.heap.size 25 #[.int .i64 M.W, .slice va M.V.length cv, .slice ra M.R.length cr] := (Bk.new w _ _).alloc _
  have b1 : Bk ((w.alloc (.cells #[.int .i64 M.W, .slice va M.V.length cv, .slice ra M.R.length cr] 25)).alloc (.cells #[.int .i64 10, .int .i64 i, .int .i64 e0, .int .i64 g, .int .i64 x0, .int .i64 y0] 53)) (w.heap.size + 1) 53 #[.int .i64 10, .int .i64 i, .int .i64 e0, .int .i64 g, .int .i64 x0, .int .i64 y0] := by
    have := Bk.new (w.alloc (.cells #[.int .i64 M.W, .slice va M.V.length cv, .slice ra M.R.length cr] 25)) 53 #[.int .i64 10, .int .i64 i, .int .i64 e0, .int .i64 g, .int .i64 x0, .int .i64 y0]
    rwa [World.size_alloc] at this
  have hn := hok.n1
  obtain ⟨k, hk, hs, hall⟩ := all_shift hn.1 hn.2.1 hn.2.2
  have ha64 : 2 ^ M.n - 1 < 18446744073709551616 := Ev.lt64 hn.2.1 (allN_lt M.n)
  have hk0 : (0 : Int) ≤ (k : Int) := by omega
  have hk1 : (k : Int) < 64 := by omega
  have HM := Lib.hid hM
  have HALL := Lib.hid hall
  clear hall
  generalize 2 ^ M.n - 1 = al at *
  obtain ⟨bl, off, A, c, rfl, hcr, hc, hrd, _⟩ := (hM.keep hK0).at_ (show i.toNat < M.R.length by omega)
  have HBX := Lib.hid (evDia_any (M.R.getD i.toNat []) (ok_of (okr_row hok (show i.toNat < M.R.length by omega))) x hx A c _ hrd)
  have hii : ((i.toNat : Nat) : Int) = i := by omega
  have hd : ¬ (M.R.length : Int) ≤ i := by omega
  obtain ⟨j, hj⟩ : ∃ j, i.toNat = j := ⟨_, rfl⟩
  rw [hj] at hc hii HBX ⊢
  subst hii
  clear hj hM hok hn hrd
  generalize dmN (M.R.getD j []) x = r at *
  generalize (M.R.getD j []).length = rl at *
  have hall := HALL.out
  clear HALL
  go_enter Try.func16, Try.ntmps16
  go_upto_region 1 with (fail)
  generalize ((w.alloc (.cells #[.int .i64 M.W, .slice va M.V.length cv, .slice (some ⟨bl, off, none⟩) M.R.length cr] 25)).alloc (.cells #[.int .i64 10, .int .i64 (j : Int), .int .i64 e0, .int .i64 g, .int .i64 x0, .int .i64 y0] 53)) = W at *
  have s0 : W.cell? ⟨w.heap.size, 0, none⟩ = some (.int .i64 M.W) := b0.cell 0
  have s1 : W.cell? ⟨w.heap.size, 1, none⟩ = some (.slice va M.V.length cv) := b0.cell 1
  have s2 : W.cell? ⟨w.heap.size, 2, none⟩ = some (.slice (some ⟨bl, off, none⟩) M.R.length cr) := b0.cell 2
  have n0 : W.cell? ⟨w.heap.size + 1, 0, none⟩ = some (.int .i64 10) := b1.cell 0
  have n1 : W.cell? ⟨w.heap.size + 1, 1, none⟩ = some (.int .i64 (j : Int)) := b1.cell 1
  have n3 : W.cell? ⟨w.heap.size + 1, 3, none⟩ = some (.int .i64 g) := b1.cell 3
  have HK := Lib.hid hK0
  clear b0 b1 hK0
  go_wp2_with (first
    | (go_at_call 27; (with_reducible refine HBX.out.mono ?_); rintro e w2 ⟨rfl, hw⟩; obtain rfl := hw.symm))
  refine bodyPost_ret (v := .tuple #[.int .u64 ((r : Nat)), .bool true]) (by simp [results, Try.results16, go_sem]) rfl ?_
  exact ⟨rfl, HK.out⟩
theorem ckvalue_11n (hM : MdR w M va cv ra cr rs) (hok : Okm M) {i e0 g x0 y0 : Int} {x y : Nat} (hx : x < 18446744073709551616) (hy : y < 18446744073709551616) (hg : ((2 ^ M.R.length : Nat) : Int) ≤ g) : 
    Calls Try.prog 16 #[.agg #[.int .i64 M.W, .slice va M.V.length cv, .slice ra M.R.length cr], .agg #[.int .i64 11, .int .i64 i, .int .i64 e0, .int .i64 g, .int .i64 x0, .int .i64 y0], .int .u64 (x : Int), .int .u64 (y : Int)] w fun e w' => e = .returned (.tuple #[.int .u64 ((0 : Nat) : Int), .bool false]) ∧ Keep NoF w w' := by
  have hK0 : Keep NoF w ((w.alloc (.cells #[.int .i64 M.W, .slice va M.V.length cv, .slice ra M.R.length cr] 25)).alloc (.cells #[.int .i64 11, .int .i64 i, .int .i64 e0, .int .i64 g, .int .i64 x0, .int .i64 y0] 53)) := ((Keep.refl _ _).alloc _).alloc _
  have b0 : Bk ((w.alloc (.cells #[.int .i64 M.W, .slice va M.V.length cv, .slice ra M.R.length cr] 25)).alloc (.cells #[.int .i64 11, .int .i64 i, .int .i64 e0, .int .i64 g, .int .i64 x0, .int .i64 y0] 53)) w.heap.size 25 #[.int .i64 M.W, .slice va M.V.length cv, .slice ra M.R.length cr] := (Bk.new w _ _).alloc _
  have b1 : Bk ((w.alloc (.cells #[.int .i64 M.W, .slice va M.V.length cv, .slice ra M.R.length cr] 25)).alloc (.cells #[.int .i64 11, .int .i64 i, .int .i64 e0, .int .i64 g, .int .i64 x0, .int .i64 y0] 53)) (w.heap.size + 1) 53 #[.int .i64 11, .int .i64 i, .int .i64 e0, .int .i64 g, .int .i64 x0, .int .i64 y0] := by
    have := Bk.new (w.alloc (.cells #[.int .i64 M.W, .slice va M.V.length cv, .slice ra M.R.length cr] 25)) 53 #[.int .i64 11, .int .i64 i, .int .i64 e0, .int .i64 g, .int .i64 x0, .int .i64 y0]
    rwa [World.size_alloc] at this
  have hn := hok.n1
  obtain ⟨k, hk, hs, hall⟩ := all_shift hn.1 hn.2.1 hn.2.2
  have ha64 : 2 ^ M.n - 1 < 18446744073709551616 := Ev.lt64 hn.2.1 (allN_lt M.n)
  have hk0 : (0 : Int) ≤ (k : Int) := by omega
  have hk1 : (k : Int) < 64 := by omega
  have HM := Lib.hid hM
  have HALL := Lib.hid hall
  clear hall
  have hrl := hok.rl
  have hpw := pow4 hrl
  have hpw2 := pow4w hrl
  have hge : wrap64 ((2 : Int) ^ M.R.length) ≤ g := by rw [hpw]; exact hg
  have hge2 : IntKind.i64.wrap ((2 : Int) ^ M.R.length) ≤ g := by rw [hpw2]; exact hg
  have hl4 : (M.R.length : Int) < 64 := by omega
  have hl0 : (0 : Int) ≤ (M.R.length : Int) := by omega
  generalize 2 ^ M.n - 1 = al at *
  clear hM hok hn hpw hpw2 hg
  have hall := HALL.out
  clear HALL
  go_enter Try.func16, Try.ntmps16
  go_upto_region 1 with (fail)
  generalize ((w.alloc (.cells #[.int .i64 M.W, .slice va M.V.length cv, .slice ra M.R.length cr] 25)).alloc (.cells #[.int .i64 11, .int .i64 i, .int .i64 e0, .int .i64 g, .int .i64 x0, .int .i64 y0] 53)) = W at *
  have s0 : W.cell? ⟨w.heap.size, 0, none⟩ = some (.int .i64 M.W) := b0.cell 0
  have s1 : W.cell? ⟨w.heap.size, 1, none⟩ = some (.slice va M.V.length cv) := b0.cell 1
  have s2 : W.cell? ⟨w.heap.size, 2, none⟩ = some (.slice ra M.R.length cr) := b0.cell 2
  have n0 : W.cell? ⟨w.heap.size + 1, 0, none⟩ = some (.int .i64 11) := b1.cell 0
  have n1 : W.cell? ⟨w.heap.size + 1, 1, none⟩ = some (.int .i64 i) := b1.cell 1
  have n3 : W.cell? ⟨w.heap.size + 1, 3, none⟩ = some (.int .i64 g) := b1.cell 3
  have HK := Lib.hid hK0
  clear b0 b1 hK0
  go_upto_region 31 with (fail)
  go_quiet (fail)
  all_goals
    go_wp2
    refine bodyPost_ret (v := .tuple #[.int .u64 0, .bool false]) (by simp [results, Try.results16, go_sem]) rfl ?_
    exact ⟨rfl, HK.out.drewN _⟩
theorem ckvalue_12n (hM : MdR w M va cv ra cr rs) (hok : Okm M) {i e0 g x0 y0 : Int} {x y : Nat} (hx : x < 18446744073709551616) (hy : y < 18446744073709551616) (hg : ((2 ^ M.R.length : Nat) : Int) ≤ g) : 
    Calls Try.prog 16 #[.agg #[.int .i64 M.W, .slice va M.V.length cv, .slice ra M.R.length cr], .agg #[.int .i64 12, .int .i64 i, .int .i64 e0, .int .i64 g, .int .i64 x0, .int .i64 y0], .int .u64 (x : Int), .int .u64 (y : Int)] w fun e w' => e = .returned (.tuple #[.int .u64 ((0 : Nat) : Int), .bool false]) ∧ Keep NoF w w' := by
  have hK0 : Keep NoF w ((w.alloc (.cells #[.int .i64 M.W, .slice va M.V.length cv, .slice ra M.R.length cr] 25)).alloc (.cells #[.int .i64 12, .int .i64 i, .int .i64 e0, .int .i64 g, .int .i64 x0, .int .i64 y0] 53)) := ((Keep.refl _ _).alloc _).alloc _
  have b0 : Bk ((w.alloc (.cells #[.int .i64 M.W, .slice va M.V.length cv, .slice ra M.R.length cr] 25)).alloc (.cells #[.int .i64 12, .int .i64 i, .int .i64 e0, .int .i64 g, .int .i64 x0, .int .i64 y0] 53)) w.heap.size 25 #[.int .i64 M.W, .slice va M.V.length cv, .slice ra M.R.length cr] := (Bk.new w _ _).alloc _
  have b1 : Bk ((w.alloc (.cells #[.int .i64 M.W, .slice va M.V.length cv, .slice ra M.R.length cr] 25)).alloc (.cells #[.int .i64 12, .int .i64 i, .int .i64 e0, .int .i64 g, .int .i64 x0, .int .i64 y0] 53)) (w.heap.size + 1) 53 #[.int .i64 12, .int .i64 i, .int .i64 e0, .int .i64 g, .int .i64 x0, .int .i64 y0] := by
    have := Bk.new (w.alloc (.cells #[.int .i64 M.W, .slice va M.V.length cv, .slice ra M.R.length cr] 25)) 53 #[.int .i64 12, .int .i64 i, .int .i64 e0, .int .i64 g, .int .i64 x0, .int .i64 y0]
    rwa [World.size_alloc] at this
  have hn := hok.n1
  obtain ⟨k, hk, hs, hall⟩ := all_shift hn.1 hn.2.1 hn.2.2
  have ha64 : 2 ^ M.n - 1 < 18446744073709551616 := Ev.lt64 hn.2.1 (allN_lt M.n)
  have hk0 : (0 : Int) ≤ (k : Int) := by omega
  have hk1 : (k : Int) < 64 := by omega
  have HM := Lib.hid hM
  have HALL := Lib.hid hall
  clear hall
  have hrl := hok.rl
  have hpw := pow4 hrl
  have hpw2 := pow4w hrl
  have hge : wrap64 ((2 : Int) ^ M.R.length) ≤ g := by rw [hpw]; exact hg
  have hge2 : IntKind.i64.wrap ((2 : Int) ^ M.R.length) ≤ g := by rw [hpw2]; exact hg
  have hl4 : (M.R.length : Int) < 64 := by omega
  have hl0 : (0 : Int) ≤ (M.R.length : Int) := by omega
  generalize 2 ^ M.n - 1 = al at *
  clear hM hok hn hpw hpw2 hg
  have hall := HALL.out
  clear HALL
  go_enter Try.func16, Try.ntmps16
  go_upto_region 1 with (fail)
  generalize ((w.alloc (.cells #[.int .i64 M.W, .slice va M.V.length cv, .slice ra M.R.length cr] 25)).alloc (.cells #[.int .i64 12, .int .i64 i, .int .i64 e0, .int .i64 g, .int .i64 x0, .int .i64 y0] 53)) = W at *
  have s0 : W.cell? ⟨w.heap.size, 0, none⟩ = some (.int .i64 M.W) := b0.cell 0
  have s1 : W.cell? ⟨w.heap.size, 1, none⟩ = some (.slice va M.V.length cv) := b0.cell 1
  have s2 : W.cell? ⟨w.heap.size, 2, none⟩ = some (.slice ra M.R.length cr) := b0.cell 2
  have n0 : W.cell? ⟨w.heap.size + 1, 0, none⟩ = some (.int .i64 12) := b1.cell 0
  have n1 : W.cell? ⟨w.heap.size + 1, 1, none⟩ = some (.int .i64 i) := b1.cell 1
  have n3 : W.cell? ⟨w.heap.size + 1, 3, none⟩ = some (.int .i64 g) := b1.cell 3
  have HK := Lib.hid hK0
  clear b0 b1 hK0
  go_upto_region 31 with (fail)
  go_quiet (fail)
  all_goals
    go_wp2
    refine bodyPost_ret (v := .tuple #[.int .u64 0, .bool false]) (by simp [results, Try.results16, go_sem]) rfl ?_
    exact ⟨rfl, HK.out.drewN _⟩
theorem ckvalue_13n (hM : MdR w M va cv ra cr rs) (hok : Okm M) {i e0 g x0 y0 : Int} {x y : Nat} (hx : x < 18446744073709551616) (hy : y < 18446744073709551616) (hg : ((2 ^ M.R.length : Nat) : Int) ≤ g) : 
    Calls Try.prog 16 #[.agg #[.int .i64 M.W, .slice va M.V.length cv, .slice ra M.R.length cr], .agg #[.int .i64 13, .int .i64 i, .int .i64 e0, .int .i64 g, .int .i64 x0, .int .i64 y0], .int .u64 (x : Int), .int .u64 (y : Int)] w fun e w' => e = .returned (.tuple #[.int .u64 ((0 : Nat) : Int), .bool false]) ∧ Keep NoF w w' := by
  have hK0 : Keep NoF w ((w.alloc (.cells #[.int .i64 M.W, .slice va M.V.length cv, .slice ra M.R.length cr] 25)).alloc (.cells #[.int .i64 13, .int .i64 i, .int .i64 e0, .int .i64 g, .int .i64 x0, .int .i64 y0] 53)) := ((Keep.refl _ _).alloc _).alloc _
  have b0 : Bk ((w.alloc (.cells #[.int .i64 M.W, .slice va M.V.length cv, .slice ra M.R.length cr] 25)).alloc (.cells #[.int .i64 13, .int .i64 i, .int .i64 e0, .int .i64 g, .int .i64 x0, .int .i64 y0] 53)) w.heap.size 25 #[.int .i64 M.W, .slice va M.V.length cv, .slice ra M.R.length cr] := (Bk.new w _ _).alloc _
  have b1 : Bk ((w.alloc (.cells #[.int .i64 M.W, .slice va M.V.length cv, .slice ra M.R.length cr] 25)).alloc (.cells #[.int .i64 13, .int .i64 i, .int .i64 e0, .int .i64 g, .int .i64 x0, .int .i64 y0] 53)) (w.heap.size + 1) 53 #[.int .i64 13, .int .i64 i, .int .i64 e0, .int .i64 g, .int .i64 x0, .int .i64 y0] := by
    have := Bk.new (w.alloc (.cells #[.int .i64 M.W, .slice va M.V.length cv, .slice ra M.R.length cr] 25)) 53 #[.int .i64 13, .int .i64 i, .int .i64 e0, .int .i64 g, .int .i64 x0, .int .i64 y0]
    rwa [World.size_alloc] at this
  have hn := hok.n1
  obtain ⟨k, hk, hs, hall⟩ := all_shift hn.1 hn.2.1 hn.2.2
  have ha64 : 2 ^ M.n - 1 < 18446744073709551616 := Ev.lt64 hn.2.1 (allN_lt M.n)
  have hk0 : (0 : Int) ≤ (k : Int) := by omega
  have hk1 : (k : Int) < 64 := by omega
  have HM := Lib.hid hM
  have HALL := Lib.hid hall
  clear hall
  have hrl := hok.rl
  have hpw := pow4 hrl
  have hpw2 := pow4w hrl
  have hge : wrap64 ((2 : Int) ^ M.R.length) ≤ g := by rw [hpw]; exact hg
  have hge2 : IntKind.i64.wrap ((2 : Int) ^ M.R.length) ≤ g := by rw [hpw2]; exact hg
  have hl4 : (M.R.length : Int) < 64 := by omega
  have hl0 : (0 : Int) ≤ (M.R.length : Int) := by omega
  generalize 2 ^ M.n - 1 = al at *
  clear hM hok hn hpw hpw2 hg
  have hall := HALL.out
  clear HALL
  go_enter Try.func16, Try.ntmps16
  go_upto_region 1 with (fail)
  generalize ((w.alloc (.cells #[.int .i64 M.W, .slice va M.V.length cv, .slice ra M.R.length cr] 25)).alloc (.cells #[.int .i64 13, .int .i64 i, .int .i64 e0, .int .i64 g, .int .i64 x0, .int .i64 y0] 53)) = W at *
  have s0 : W.cell? ⟨w.heap.size, 0, none⟩ = some (.int .i64 M.W) := b0.cell 0
  have s1 : W.cell? ⟨w.heap.size, 1, none⟩ = some (.slice va M.V.length cv) := b0.cell 1
  have s2 : W.cell? ⟨w.heap.size, 2, none⟩ = some (.slice ra M.R.length cr) := b0.cell 2
  have n0 : W.cell? ⟨w.heap.size + 1, 0, none⟩ = some (.int .i64 13) := b1.cell 0
  have n1 : W.cell? ⟨w.heap.size + 1, 1, none⟩ = some (.int .i64 i) := b1.cell 1
  have n3 : W.cell? ⟨w.heap.size + 1, 3, none⟩ = some (.int .i64 g) := b1.cell 3
  have HK := Lib.hid hK0
  clear b0 b1 hK0
  go_upto_region 31 with (fail)
  go_quiet (fail)
  all_goals
    go_wp2
    refine bodyPost_ret (v := .tuple #[.int .u64 0, .bool false]) (by simp [results, Try.results16, go_sem]) rfl ?_
    exact ⟨rfl, HK.out.drewN _⟩
theorem ckvalue_11y (hM : MdR w M va cv ra cr rs) (hok : Okm M) {i e0 g x0 y0 : Int} {x y : Nat} (hx : x < 18446744073709551616) (hy : y < 18446744073709551616) (hg1 : 1 ≤ g) (hg : g < ((2 ^ M.R.length : Nat) : Int)) : 
    Calls Try.prog 16 #[.agg #[.int .i64 M.W, .slice va M.V.length cv, .slice ra M.R.length cr], .agg #[.int .i64 11, .int .i64 i, .int .i64 e0, .int .i64 g, .int .i64 x0, .int .i64 y0], .int .u64 (x : Int), .int .u64 (y : Int)] w fun e w' => e = .returned (.tuple #[.int .u64 ((bxN (grpN (· ||| ·) M.R g.toNat) x : Nat) : Int), .bool true]) ∧ Keep NoF w w' := by
  have hK0 : Keep NoF w ((w.alloc (.cells #[.int .i64 M.W, .slice va M.V.length cv, .slice ra M.R.length cr] 25)).alloc (.cells #[.int .i64 11, .int .i64 i, .int .i64 e0, .int .i64 g, .int .i64 x0, .int .i64 y0] 53)) := ((Keep.refl _ _).alloc _).alloc _
  have b0 : Bk ((w.alloc (.cells #[.int .i64 M.W, .slice va M.V.length cv, .slice ra M.R.length cr] 25)).alloc (.cells #[.int .i64 11, .int .i64 i, .int .i64 e0, .int .i64 g, .int .i64 x0, .int .i64 y0] 53)) w.heap.size 25 #[.int .i64 M.W, .slice va M.V.length cv, .slice ra M.R.length cr] := (Bk.new w _ _).alloc _
  have b1 : Bk ((w.alloc (.cells #[.int .i64 M.W, .slice va M.V.length cv, .slice ra M.R.length cr] 25)).alloc (.cells #[.int .i64 11, .int .i64 i, .int .i64 e0, .int .i64 g, .int .i64 x0, .int .i64 y0] 53)) (w.heap.size + 1) 53 #[.int .i64 11, .int .i64 i, .int .i64 e0, .int .i64 g, .int .i64 x0, .int .i64 y0] := by
    have := Bk.new (w.alloc (.cells #[.int .i64 M.W, .slice va M.V.length cv, .slice ra M.R.length cr] 25)) 53 #[.int .i64 11, .int .i64 i, .int .i64 e0, .int .i64 g, .int .i64 x0, .int .i64 y0]
    rwa [World.size_alloc] at this
  have hn := hok.n1
  obtain ⟨k, hk, hs, hall⟩ := all_shift hn.1 hn.2.1 hn.2.2
  have ha64 : 2 ^ M.n - 1 < 18446744073709551616 := Ev.lt64 hn.2.1 (allN_lt M.n)
  have hk0 : (0 : Int) ≤ (k : Int) := by omega
  have hk1 : (k : Int) < 64 := by omega
  have HM := Lib.hid hM
  have HALL := Lib.hid hall
  clear hall
  have hrl := hok.rl
  have hpw := pow4 hrl
  have hpw2 := pow4w hrl
  obtain ⟨gn, hgn⟩ : ∃ gn, g.toNat = gn := ⟨_, rfl⟩
  have hgi : ((gn : Nat) : Int) = g := by omega
  have h1 : 1 ≤ gn := by omega
  have h2 : gn < 2 ^ M.R.length := by omega
  rw [hgn]
  subst hgi
  have hge : ¬ wrap64 ((2 : Int) ^ M.R.length) ≤ (gn : Int) := by rw [hpw]; omega
  have hge2 : ¬ IntKind.i64.wrap ((2 : Int) ^ M.R.length) ≤ (gn : Int) := by rw [hpw2]; omega
  have hl4 : (M.R.length : Int) < 64 := by omega
  have hl0 : (0 : Int) ≤ (M.R.length : Int) := by omega
  have hR := okr_or hok h1 h2
  have HBX : Hid (∀ (W : World) (gg cap : Nat), W.ownsRow w.heap.size 38 1 (.slice (some ⟨gg, 0, none⟩) M.n cap) M.n (u6 (grpN (· ||| ·) M.R gn)) → Calls Try.prog 26 #[.slice (some ⟨gg, 0, none⟩) M.n cap, .int .u64 (x : Int)] W fun e w' => e = .returned (.int .u64 (bxN (grpN (· ||| ·) M.R gn) x : Nat)) ∧ w' = W) := Lib.hid fun W gg cap ho => by
    have := evBox_any (grpN (· ||| ·) M.R gn) (ok_of hR) x hx (some ⟨gg, 0, none⟩) cap W (by rw [hR.len]; exact Rd.of_own ho)
    rwa [hR.len] at this
  have HGR := Lib.hid fun (W : World) (hk : Keep NoF w W) => moGroup_any W (hM.keep hk) hok h1 h2
  clear hM hok hn hpw hpw2 hg hg1 hgn hR h1 h2
  generalize bxN (grpN (· ||| ·) M.R gn) x = r at *
  generalize grpN (· ||| ·) M.R gn = gl at *
  generalize 2 ^ M.n - 1 = al at *
  have hall := HALL.out
  clear HALL
  go_enter Try.func16, Try.ntmps16
  go_upto_region 1 with (fail)
  generalize ((w.alloc (.cells #[.int .i64 M.W, .slice va M.V.length cv, .slice ra M.R.length cr] 25)).alloc (.cells #[.int .i64 11, .int .i64 i, .int .i64 e0, .int .i64 (gn : Int), .int .i64 x0, .int .i64 y0] 53)) = W at *
  have s0 : W.cell? ⟨w.heap.size, 0, none⟩ = some (.int .i64 M.W) := b0.cell 0
  have s1 : W.cell? ⟨w.heap.size, 1, none⟩ = some (.slice va M.V.length cv) := b0.cell 1
  have s2 : W.cell? ⟨w.heap.size, 2, none⟩ = some (.slice ra M.R.length cr) := b0.cell 2
  have n0 : W.cell? ⟨w.heap.size + 1, 0, none⟩ = some (.int .i64 11) := b1.cell 0
  have n1 : W.cell? ⟨w.heap.size + 1, 1, none⟩ = some (.int .i64 i) := b1.cell 1
  have n3 : W.cell? ⟨w.heap.size + 1, 3, none⟩ = some (.int .i64 (gn : Int)) := b1.cell 3
  have HK := Lib.hid hK0
  clear b0 b1 hK0
  go_upto_region 31 with (fail)
  go_quiet (fail)
  all_goals
    go_wp2_with (first
      | (go_at_call 29
         (with_reducible refine (HGR.out _ (HK.out.drewN _)).mono ?_)
         rintro e w2 ⟨gg, cap, rfl, hown, k2⟩
         have kk := (HK.out.drewN _).trans k2 fun _ _ h => h
         have m0 : w2.cell? ⟨w.heap.size + 1, 0, none⟩ = some (.int .i64 11) := k2.cellv n0 fun h => h
         have HB2 := Lib.hid (HBX.out w2 gg cap (own_baseE hown HK.out.size)))
      | (go_at_call 26; (with_reducible refine HB2.out.mono ?_); rintro e w3 ⟨rfl, hw⟩; obtain rfl := hw.symm))
    refine bodyPost_ret (v := .tuple #[.int .u64 (r : Nat), .bool true]) (by simp [results, Try.results16, go_sem]) rfl ?_
    exact ⟨rfl, kk⟩
theorem ckvalue_12y (hM : MdR w M va cv ra cr rs) (hok : Okm M) {i e0 g x0 y0 : Int} {x y : Nat} (hx : x < 18446744073709551616) (hy : y < 18446744073709551616) (hg1 : 1 ≤ g) (hg : g < ((2 ^ M.R.length : Nat) : Int)) : 
    Calls Try.prog 16 #[.agg #[.int .i64 M.W, .slice va M.V.length cv, .slice ra M.R.length cr], .agg #[.int .i64 12, .int .i64 i, .int .i64 e0, .int .i64 g, .int .i64 x0, .int .i64 y0], .int .u64 (x : Int), .int .u64 (y : Int)] w fun e w' => e = .returned (.tuple #[.int .u64 ((bxN (grpN (· &&& ·) M.R g.toNat) x : Nat) : Int), .bool true]) ∧ Keep NoF w w' := by
  have hK0 : Keep NoF w ((w.alloc (.cells #[.int .i64 M.W, .slice va M.V.length cv, .slice ra M.R.length cr] 25)).alloc (.cells #[.int .i64 12, .int .i64 i, .int .i64 e0, .int .i64 g, .int .i64 x0, .int .i64 y0] 53)) := ((Keep.refl _ _).alloc _).alloc _
  have b0 : Bk ((w.alloc (.cells #[.int .i64 M.W, .slice va M.V.length cv, .slice ra M.R.length cr] 25)).alloc (.cells #[.int .i64 12, .int .i64 i, .int .i64 e0, .int .i64 g, .int .i64 x0, .int .i64 y0] 53)) w.heap.size 25 #[.int .i64 M.W, .slice va M.V.length cv, .slice ra M.R.length cr] := (Bk.new w _ _).alloc _
  have b1 : Bk ((w.alloc (.cells #[.int .i64 M.W, .slice va M.V.length cv, .slice ra M.R.length cr] 25)).alloc (.cells #[.int .i64 12, .int .i64 i, .int .i64 e0, .int .i64 g, .int .i64 x0, .int .i64 y0] 53)) (w.heap.size + 1) 53 #[.int .i64 12, .int .i64 i, .int .i64 e0, .int .i64 g, .int .i64 x0, .int .i64 y0] := by
    have := Bk.new (w.alloc (.cells #[.int .i64 M.W, .slice va M.V.length cv, .slice ra M.R.length cr] 25)) 53 #[.int .i64 12, .int .i64 i, .int .i64 e0, .int .i64 g, .int .i64 x0, .int .i64 y0]
    rwa [World.size_alloc] at this
  have hn := hok.n1
  obtain ⟨k, hk, hs, hall⟩ := all_shift hn.1 hn.2.1 hn.2.2
  have ha64 : 2 ^ M.n - 1 < 18446744073709551616 := Ev.lt64 hn.2.1 (allN_lt M.n)
  have hk0 : (0 : Int) ≤ (k : Int) := by omega
  have hk1 : (k : Int) < 64 := by omega
  have HM := Lib.hid hM
  have HALL := Lib.hid hall
  clear hall
  have hrl := hok.rl
  have hpw := pow4 hrl
  have hpw2 := pow4w hrl
  obtain ⟨gn, hgn⟩ : ∃ gn, g.toNat = gn := ⟨_, rfl⟩
  have hgi : ((gn : Nat) : Int) = g := by omega
  have h1 : 1 ≤ gn := by omega
  have h2 : gn < 2 ^ M.R.length := by omega
  rw [hgn]
  subst hgi
  have hge : ¬ wrap64 ((2 : Int) ^ M.R.length) ≤ (gn : Int) := by rw [hpw]; omega
  have hge2 : ¬ IntKind.i64.wrap ((2 : Int) ^ M.R.length) ≤ (gn : Int) := by rw [hpw2]; omega
  have hl4 : (M.R.length : Int) < 64 := by omega
  have hl0 : (0 : Int) ≤ (M.R.length : Int) := by omega
  have hR := okr_and hok h1 h2
  have HBX : Hid (∀ (W : World) (gg cap : Nat), W.ownsRow w.heap.size 38 1 (.slice (some ⟨gg, 0, none⟩) M.n cap) M.n (u6 (grpN (· &&& ·) M.R gn)) → Calls Try.prog 26 #[.slice (some ⟨gg, 0, none⟩) M.n cap, .int .u64 (x : Int)] W fun e w' => e = .returned (.int .u64 (bxN (grpN (· &&& ·) M.R gn) x : Nat)) ∧ w' = W) := Lib.hid fun W gg cap ho => by
    have := evBox_any (grpN (· &&& ·) M.R gn) (ok_of hR) x hx (some ⟨gg, 0, none⟩) cap W (by rw [hR.len]; exact Rd.of_own ho)
    rwa [hR.len] at this
  have HGR := Lib.hid fun (W : World) (hk : Keep NoF w W) => moMeet_any W (hM.keep hk) hok h1 h2
  clear hM hok hn hpw hpw2 hg hg1 hgn hR h1 h2
  generalize bxN (grpN (· &&& ·) M.R gn) x = r at *
  generalize grpN (· &&& ·) M.R gn = gl at *
  generalize 2 ^ M.n - 1 = al at *
  have hall := HALL.out
  clear HALL
  go_enter Try.func16, Try.ntmps16
  go_upto_region 1 with (fail)
  generalize ((w.alloc (.cells #[.int .i64 M.W, .slice va M.V.length cv, .slice ra M.R.length cr] 25)).alloc (.cells #[.int .i64 12, .int .i64 i, .int .i64 e0, .int .i64 (gn : Int), .int .i64 x0, .int .i64 y0] 53)) = W at *
  have s0 : W.cell? ⟨w.heap.size, 0, none⟩ = some (.int .i64 M.W) := b0.cell 0
  have s1 : W.cell? ⟨w.heap.size, 1, none⟩ = some (.slice va M.V.length cv) := b0.cell 1
  have s2 : W.cell? ⟨w.heap.size, 2, none⟩ = some (.slice ra M.R.length cr) := b0.cell 2
  have n0 : W.cell? ⟨w.heap.size + 1, 0, none⟩ = some (.int .i64 12) := b1.cell 0
  have n1 : W.cell? ⟨w.heap.size + 1, 1, none⟩ = some (.int .i64 i) := b1.cell 1
  have n3 : W.cell? ⟨w.heap.size + 1, 3, none⟩ = some (.int .i64 (gn : Int)) := b1.cell 3
  have HK := Lib.hid hK0
  clear b0 b1 hK0
  go_upto_region 31 with (fail)
  go_quiet (fail)
  all_goals
    go_wp2_with (first
      | (go_at_call 28
         (with_reducible refine (HGR.out _ (HK.out.drewN _)).mono ?_)
         rintro e w2 ⟨gg, cap, rfl, hown, k2⟩
         have kk := (HK.out.drewN _).trans k2 fun _ _ h => h
         have m0 : w2.cell? ⟨w.heap.size + 1, 0, none⟩ = some (.int .i64 12) := k2.cellv n0 fun h => h
         have HB2 := Lib.hid (HBX.out w2 gg cap (own_baseE hown HK.out.size)))
      | (go_at_call 26; (with_reducible refine HB2.out.mono ?_); rintro e w3 ⟨rfl, hw⟩; obtain rfl := hw.symm))
    refine bodyPost_ret (v := .tuple #[.int .u64 (r : Nat), .bool true]) (by simp [results, Try.results16, go_sem]) rfl ?_
    exact ⟨rfl, kk⟩
theorem ckvalue_13y (hM : MdR w M va cv ra cr rs) (hok : Okm M) {i e0 g x0 y0 : Int} {x y : Nat} (hx : x < 18446744073709551616) (hy : y < 18446744073709551616) (hg1 : 1 ≤ g) (hg : g < ((2 ^ M.R.length : Nat) : Int)) : 
    Calls Try.prog 16 #[.agg #[.int .i64 M.W, .slice va M.V.length cv, .slice ra M.R.length cr], .agg #[.int .i64 13, .int .i64 i, .int .i64 e0, .int .i64 g, .int .i64 x0, .int .i64 y0], .int .u64 (x : Int), .int .u64 (y : Int)] w fun e w' => e = .returned (.tuple #[.int .u64 ((cmN (grpN (· ||| ·) M.R g.toNat) M.n x y : Nat) : Int), .bool true]) ∧ Keep NoF w w' := by
  have hK0 : Keep NoF w ((w.alloc (.cells #[.int .i64 M.W, .slice va M.V.length cv, .slice ra M.R.length cr] 25)).alloc (.cells #[.int .i64 13, .int .i64 i, .int .i64 e0, .int .i64 g, .int .i64 x0, .int .i64 y0] 53)) := ((Keep.refl _ _).alloc _).alloc _
  have b0 : Bk ((w.alloc (.cells #[.int .i64 M.W, .slice va M.V.length cv, .slice ra M.R.length cr] 25)).alloc (.cells #[.int .i64 13, .int .i64 i, .int .i64 e0, .int .i64 g, .int .i64 x0, .int .i64 y0] 53)) w.heap.size 25 #[.int .i64 M.W, .slice va M.V.length cv, .slice ra M.R.length cr] := (Bk.new w _ _).alloc _
  have b1 : Bk ((w.alloc (.cells #[.int .i64 M.W, .slice va M.V.length cv, .slice ra M.R.length cr] 25)).alloc (.cells #[.int .i64 13, .int .i64 i, .int .i64 e0, .int .i64 g, .int .i64 x0, .int .i64 y0] 53)) (w.heap.size + 1) 53 #[.int .i64 13, .int .i64 i, .int .i64 e0, .int .i64 g, .int .i64 x0, .int .i64 y0] := by
    have := Bk.new (w.alloc (.cells #[.int .i64 M.W, .slice va M.V.length cv, .slice ra M.R.length cr] 25)) 53 #[.int .i64 13, .int .i64 i, .int .i64 e0, .int .i64 g, .int .i64 x0, .int .i64 y0]
    rwa [World.size_alloc] at this
  have hn := hok.n1
  obtain ⟨k, hk, hs, hall⟩ := all_shift hn.1 hn.2.1 hn.2.2
  have ha64 : 2 ^ M.n - 1 < 18446744073709551616 := Ev.lt64 hn.2.1 (allN_lt M.n)
  have hk0 : (0 : Int) ≤ (k : Int) := by omega
  have hk1 : (k : Int) < 64 := by omega
  have HM := Lib.hid hM
  have HALL := Lib.hid hall
  clear hall
  have hrl := hok.rl
  have hpw := pow4 hrl
  have hpw2 := pow4w hrl
  obtain ⟨gn, hgn⟩ : ∃ gn, g.toNat = gn := ⟨_, rfl⟩
  have hgi : ((gn : Nat) : Int) = g := by omega
  have h1 : 1 ≤ gn := by omega
  have h2 : gn < 2 ^ M.R.length := by omega
  rw [hgn]
  subst hgi
  have hge : ¬ wrap64 ((2 : Int) ^ M.R.length) ≤ (gn : Int) := by rw [hpw]; omega
  have hge2 : ¬ IntKind.i64.wrap ((2 : Int) ^ M.R.length) ≤ (gn : Int) := by rw [hpw2]; omega
  have hl4 : (M.R.length : Int) < 64 := by omega
  have hl0 : (0 : Int) ≤ (M.R.length : Int) := by omega
  have hR := okr_or hok h1 h2
  have HBX : Hid (∀ (W : World) (gg cap : Nat), W.ownsRow w.heap.size 38 1 (.slice (some ⟨gg, 0, none⟩) M.n cap) M.n (u6 (grpN (· ||| ·) M.R gn)) → Calls Try.prog 30 #[.slice (some ⟨gg, 0, none⟩) M.n cap, .int .u64 ((2 ^ M.n - 1 : Nat) : Int), .int .u64 (x : Int), .int .u64 (y : Int)] W fun e w' => e = .returned (.int .u64 (cmN (grpN (· ||| ·) M.R gn) M.n x y : Nat)) ∧ w' = W) := Lib.hid fun W gg cap ho => by
    have := ckcommon_any hR hx hy (some ⟨gg, 0, none⟩) cap W (by rw [hR.len]; exact Rd.of_own ho)
    rwa [hR.len] at this
  have HGR := Lib.hid fun (W : World) (hk : Keep NoF w W) => moGroup_any W (hM.keep hk) hok h1 h2
  clear hM hok hn hpw hpw2 hg hg1 hgn hR h1 h2
  generalize cmN (grpN (· ||| ·) M.R gn) M.n x y = r at *
  generalize grpN (· ||| ·) M.R gn = gl at *
  generalize 2 ^ M.n - 1 = al at *
  have hall := HALL.out
  clear HALL
  go_enter Try.func16, Try.ntmps16
  go_upto_region 1 with (fail)
  generalize ((w.alloc (.cells #[.int .i64 M.W, .slice va M.V.length cv, .slice ra M.R.length cr] 25)).alloc (.cells #[.int .i64 13, .int .i64 i, .int .i64 e0, .int .i64 (gn : Int), .int .i64 x0, .int .i64 y0] 53)) = W at *
  have s0 : W.cell? ⟨w.heap.size, 0, none⟩ = some (.int .i64 M.W) := b0.cell 0
  have s1 : W.cell? ⟨w.heap.size, 1, none⟩ = some (.slice va M.V.length cv) := b0.cell 1
  have s2 : W.cell? ⟨w.heap.size, 2, none⟩ = some (.slice ra M.R.length cr) := b0.cell 2
  have n0 : W.cell? ⟨w.heap.size + 1, 0, none⟩ = some (.int .i64 13) := b1.cell 0
  have n1 : W.cell? ⟨w.heap.size + 1, 1, none⟩ = some (.int .i64 i) := b1.cell 1
  have n3 : W.cell? ⟨w.heap.size + 1, 3, none⟩ = some (.int .i64 (gn : Int)) := b1.cell 3
  have HK := Lib.hid hK0
  clear b0 b1 hK0
  go_upto_region 31 with (fail)
  go_quiet (fail)
  all_goals
    go_wp2_with (first
      | (go_at_call 29
         (with_reducible refine (HGR.out _ (HK.out.drewN _)).mono ?_)
         rintro e w2 ⟨gg, cap, rfl, hown, k2⟩
         have kk := (HK.out.drewN _).trans k2 fun _ _ h => h
         have m0 : w2.cell? ⟨w.heap.size + 1, 0, none⟩ = some (.int .i64 13) := k2.cellv n0 fun h => h
         have HB2 := Lib.hid (HBX.out w2 gg cap (own_baseE hown HK.out.size)))
      | (go_at_call 30; (with_reducible refine HB2.out.mono ?_); rintro e w3 ⟨rfl, hw⟩; obtain rfl := hw.symm))
    refine bodyPost_ret (v := .tuple #[.int .u64 (r : Nat), .bool true]) (by simp [results, Try.results16, go_sem]) rfl ?_
    exact ⟨rfl, kk⟩
theorem ckvalue_14 (hM : MdR w M va cv ra cr rs) (hok : Okm M) {i e0 g x0 y0 : Int} {x y : Nat} (hx : x < 18446744073709551616) (hy : y < 18446744073709551616) (op : Int) (hop : 14 ≤ op) : 
    Calls Try.prog 16 #[.agg #[.int .i64 M.W, .slice va M.V.length cv, .slice ra M.R.length cr], .agg #[.int .i64 op, .int .i64 i, .int .i64 e0, .int .i64 g, .int .i64 x0, .int .i64 y0], .int .u64 (x : Int), .int .u64 (y : Int)] w fun e w' => e = .returned (.tuple #[.int .u64 ((0 : Nat) : Int), .bool false]) ∧ Keep NoF w w' := by
  have hK0 : Keep NoF w ((w.alloc (.cells #[.int .i64 M.W, .slice va M.V.length cv, .slice ra M.R.length cr] 25)).alloc (.cells #[.int .i64 op, .int .i64 i, .int .i64 e0, .int .i64 g, .int .i64 x0, .int .i64 y0] 53)) := ((Keep.refl _ _).alloc _).alloc _
  have b0 : Bk ((w.alloc (.cells #[.int .i64 M.W, .slice va M.V.length cv, .slice ra M.R.length cr] 25)).alloc (.cells #[.int .i64 op, .int .i64 i, .int .i64 e0, .int .i64 g, .int .i64 x0, .int .i64 y0] 53)) w.heap.size 25 #[.int .i64 M.W, .slice va M.V.length cv, .slice ra M.R.length cr] := (Bk.new w _ _).alloc _
  have b1 : Bk ((w.alloc (.cells #[.int .i64 M.W, .slice va M.V.length cv, .slice ra M.R.length cr] 25)).alloc (.cells #[.int .i64 op, .int .i64 i, .int .i64 e0, .int .i64 g, .int .i64 x0, .int .i64 y0] 53)) (w.heap.size + 1) 53 #[.int .i64 op, .int .i64 i, .int .i64 e0, .int .i64 g, .int .i64 x0, .int .i64 y0] := by
    have := Bk.new (w.alloc (.cells #[.int .i64 M.W, .slice va M.V.length cv, .slice ra M.R.length cr] 25)) 53 #[.int .i64 op, .int .i64 i, .int .i64 e0, .int .i64 g, .int .i64 x0, .int .i64 y0]
    rwa [World.size_alloc] at this
  have hn := hok.n1
  obtain ⟨k, hk, hs, hall⟩ := all_shift hn.1 hn.2.1 hn.2.2
  have ha64 : 2 ^ M.n - 1 < 18446744073709551616 := Ev.lt64 hn.2.1 (allN_lt M.n)
  have hk0 : (0 : Int) ≤ (k : Int) := by omega
  have hk1 : (k : Int) < 64 := by omega
  have HM := Lib.hid hM
  have HALL := Lib.hid hall
  clear hall
  have t1 : (op == 1) = false := beq_eq_false_iff_ne.2 (by omega)
  have t2 : (op == 2) = false := beq_eq_false_iff_ne.2 (by omega)
  have t3 : (op == 3) = false := beq_eq_false_iff_ne.2 (by omega)
  have t4 : (op == 4) = false := beq_eq_false_iff_ne.2 (by omega)
  have t5 : (op == 5) = false := beq_eq_false_iff_ne.2 (by omega)
  have t6 : (op == 6) = false := beq_eq_false_iff_ne.2 (by omega)
  have t7 : (op == 7) = false := beq_eq_false_iff_ne.2 (by omega)
  have t8 : (op == 8) = false := beq_eq_false_iff_ne.2 (by omega)
  have t9 : (op == 9) = false := beq_eq_false_iff_ne.2 (by omega)
  have t10 : (op == 10) = false := beq_eq_false_iff_ne.2 (by omega)
  have t11 : (op == 11) = false := beq_eq_false_iff_ne.2 (by omega)
  have t12 : (op == 12) = false := beq_eq_false_iff_ne.2 (by omega)
  have t13 : (op == 13) = false := beq_eq_false_iff_ne.2 (by omega)
  generalize 2 ^ M.n - 1 = al at *
  clear hM hok hn
  have hall := HALL.out
  clear HALL
  go_enter Try.func16, Try.ntmps16
  go_upto_region 1 with (fail)
  generalize ((w.alloc (.cells #[.int .i64 M.W, .slice va M.V.length cv, .slice ra M.R.length cr] 25)).alloc (.cells #[.int .i64 op, .int .i64 i, .int .i64 e0, .int .i64 g, .int .i64 x0, .int .i64 y0] 53)) = W at *
  have s0 : W.cell? ⟨w.heap.size, 0, none⟩ = some (.int .i64 M.W) := b0.cell 0
  have s1 : W.cell? ⟨w.heap.size, 1, none⟩ = some (.slice va M.V.length cv) := b0.cell 1
  have s2 : W.cell? ⟨w.heap.size, 2, none⟩ = some (.slice ra M.R.length cr) := b0.cell 2
  have n0 : W.cell? ⟨w.heap.size + 1, 0, none⟩ = some (.int .i64 op) := b1.cell 0
  have n1 : W.cell? ⟨w.heap.size + 1, 1, none⟩ = some (.int .i64 i) := b1.cell 1
  have n3 : W.cell? ⟨w.heap.size + 1, 3, none⟩ = some (.int .i64 g) := b1.cell 3
  have HK := Lib.hid hK0
  clear b0 b1 hK0
  go_wp2
  refine bodyPost_ret (v := .tuple #[.int .u64 (0), .bool false]) (by simp [results, Try.results16, go_sem]) rfl ?_
  exact ⟨rfl, HK.out⟩
theorem own_nat {op i e g : Int} (h : Fm.own op i e g = true) : 1 ≤ op ∧ op ≤ 21 ∧ (op = 3 ∨ op = 9 ∨ op = 10 → 0 ≤ i) ∧ (op = 11 ∨ op = 12 ∨ op = 13 → 1 ≤ g) := by
  obtain ⟨r1, r2, r3, _, _⟩ := own_ranges h
  have hi : Fm.isOp op = true := by
    unfold Fm.own at h
    simp only [Bool.and_eq_true] at h
    exact h.1.1
  unfold Fm.isOp at hi
  simp only [Bool.and_eq_true, decide_eq_true_eq] at hi
  refine ⟨hi.1, hi.2, fun h3 => ?_, fun h3 => ?_⟩
  · rcases h3 with rfl | rfl | rfl
    · exact (r2 rfl).1
    · exact (r1 rfl).1
    · exact (r1 rfl).1
  · rcases h3 with rfl | rfl | rfl <;> simp [Fm.own, Fm.isOp, Fm.zeroed, Fm.ranged, Fm.within, Fm.usesFact, Fm.usesAgent, Fm.usesEvent, Fm.usesGroup] at h <;> omega
/-- What value answers. -/
noncomputable def valP (M : Md) (n : Nd) (x y : Nat) : Nat × Bool := match valF M n x y with | some v => (v, true) | none => (0, false)
theorem valP_some {M : Md} {n : Nd} {x y v : Nat} (h : valF M n x y = some v) : valP M n x y = (v, true) := by unfold valP; rw [h]
theorem valP_none {M : Md} {n : Nd} {x y : Nat} (h : valF M n x y = none) : valP M n x y = (0, false) := by unfold valP; rw [h]
theorem ckvalue_any (hM : MdR w M va cv ra cr rs) (hok : Okm M) (n : Nd) (ho : Fm.own n.op n.i n.e n.g = true) {x y : Nat} (hx : x < 18446744073709551616) (hy : y < 18446744073709551616) :
    Calls Try.prog 16 #[.agg #[.int .i64 M.W, .slice va M.V.length cv, .slice ra M.R.length cr], ndV n, .int .u64 (x : Int), .int .u64 (y : Int)] w fun e w' => e = .returned (.tuple #[.int .u64 ((valP M n x y).1 : Nat), .bool (valP M n x y).2]) ∧ Keep NoF w w' := by
  obtain ⟨o1, o2, o3, o4⟩ := own_nat ho
  obtain ⟨op, i, e, g, x0, y0⟩ := n
  simp only at o1 o2 o3 o4
  clear ho
  by_cases h14 : 14 ≤ op
  · rw [valP_none (by unfold valF; simp only; rw [if_neg (by omega), if_neg (by omega), if_neg (by omega), if_neg (by omega), if_neg (by omega), if_neg (by omega), if_neg (by omega), if_neg (by omega), if_neg (by omega), if_neg (by omega)])]
    exact ckvalue_14 hM hok hx hy op h14
  · have hop : op = 1 ∨ op = 2 ∨ op = 3 ∨ op = 4 ∨ op = 5 ∨ op = 6 ∨ op = 7 ∨ op = 8 ∨ op = 9 ∨ op = 10 ∨ op = 11 ∨ op = 12 ∨ op = 13 := by omega
    clear h14 o1 o2
    rcases hop with rfl | rfl | rfl | rfl | rfl | rfl | rfl | rfl | rfl | rfl | rfl | rfl | rfl
    · rw [valP_some (v := 2 ^ M.n - 1) rfl]; exact ckvalue_1 hM hok hx hy
    · rw [valP_some (v := 0) rfl]; exact ckvalue_2 hM hok hx hy
    · by_cases hi : (M.V.length : Int) ≤ i
      · rw [valP_none (M := M) (n := ⟨3, i, e, g, x0, y0⟩) (x := x) (y := y) (show (if (M.V.length : Int) ≤ i then none else some (M.V.getD i.toNat 0)) = none from if_pos hi)]
        exact ckvalue_3n hM hok hx hy hi
      · rw [valP_some (M := M) (n := ⟨3, i, e, g, x0, y0⟩) (x := x) (y := y) (show (if (M.V.length : Int) ≤ i then none else some (M.V.getD i.toNat 0)) = some _ from if_neg hi)]
        have hi2 : i < (M.V.length : Int) := by omega
        exact ckvalue_3y hM hok hx hy (o3 (by omega)) hi2
    · rw [valP_some (v := adN (2 ^ M.n - 1) x) rfl]; exact ckvalue_4 hM hok hx hy
    · rw [valP_some (v := x &&& y) rfl]; exact ckvalue_5 hM hok hx hy
    · rw [valP_some (v := x ||| y) rfl]; exact ckvalue_6 hM hok hx hy
    · rw [valP_some (v := adN (2 ^ M.n - 1) x ||| y) rfl]; exact ckvalue_7 hM hok hx hy
    · rw [valP_some (v := adN (2 ^ M.n - 1) (x ^^^ y)) rfl]; exact ckvalue_8 hM hok hx hy
    · by_cases hi : (M.R.length : Int) ≤ i
      · rw [valP_none (M := M) (n := ⟨9, i, e, g, x0, y0⟩) (x := x) (y := y) (show (if (M.R.length : Int) ≤ i then none else some (bxN (M.R.getD i.toNat []) x)) = none from if_pos hi)]
        exact ckvalue_9n hM hok hx hy hi
      · rw [valP_some (M := M) (n := ⟨9, i, e, g, x0, y0⟩) (x := x) (y := y) (show (if (M.R.length : Int) ≤ i then none else some (bxN (M.R.getD i.toNat []) x)) = some _ from if_neg hi)]
        have hi2 : i < (M.R.length : Int) := by omega
        exact ckvalue_9y hM hok hx hy (o3 (by omega)) hi2
    · by_cases hi : (M.R.length : Int) ≤ i
      · rw [valP_none (M := M) (n := ⟨10, i, e, g, x0, y0⟩) (x := x) (y := y) (show (if (M.R.length : Int) ≤ i then none else some (dmN (M.R.getD i.toNat []) x)) = none from if_pos hi)]
        exact ckvalue_10n hM hok hx hy hi
      · rw [valP_some (M := M) (n := ⟨10, i, e, g, x0, y0⟩) (x := x) (y := y) (show (if (M.R.length : Int) ≤ i then none else some (dmN (M.R.getD i.toNat []) x)) = some _ from if_neg hi)]
        have hi2 : i < (M.R.length : Int) := by omega
        exact ckvalue_10y hM hok hx hy (o3 (by omega)) hi2
    · by_cases hg : ((2 ^ M.R.length : Nat) : Int) ≤ g
      · rw [valP_none (M := M) (n := ⟨11, i, e, g, x0, y0⟩) (x := x) (y := y) (show (if ((2 ^ M.R.length : Nat) : Int) ≤ g then none else some (bxN (grpN (· ||| ·) M.R g.toNat) x)) = none from if_pos hg)]
        exact ckvalue_11n hM hok hx hy hg
      · rw [valP_some (M := M) (n := ⟨11, i, e, g, x0, y0⟩) (x := x) (y := y) (show (if ((2 ^ M.R.length : Nat) : Int) ≤ g then none else some (bxN (grpN (· ||| ·) M.R g.toNat) x)) = some _ from if_neg hg)]
        have hg2 : g < ((2 ^ M.R.length : Nat) : Int) := by omega
        exact ckvalue_11y hM hok hx hy (o4 (by omega)) hg2
    · by_cases hg : ((2 ^ M.R.length : Nat) : Int) ≤ g
      · rw [valP_none (M := M) (n := ⟨12, i, e, g, x0, y0⟩) (x := x) (y := y) (show (if ((2 ^ M.R.length : Nat) : Int) ≤ g then none else some (bxN (grpN (· &&& ·) M.R g.toNat) x)) = none from if_pos hg)]
        exact ckvalue_12n hM hok hx hy hg
      · rw [valP_some (M := M) (n := ⟨12, i, e, g, x0, y0⟩) (x := x) (y := y) (show (if ((2 ^ M.R.length : Nat) : Int) ≤ g then none else some (bxN (grpN (· &&& ·) M.R g.toNat) x)) = some _ from if_neg hg)]
        have hg2 : g < ((2 ^ M.R.length : Nat) : Int) := by omega
        exact ckvalue_12y hM hok hx hy (o4 (by omega)) hg2
    · by_cases hg : ((2 ^ M.R.length : Nat) : Int) ≤ g
      · rw [valP_none (M := M) (n := ⟨13, i, e, g, x0, y0⟩) (x := x) (y := y) (show (if ((2 ^ M.R.length : Nat) : Int) ≤ g then none else some (cmN (grpN (· ||| ·) M.R g.toNat) M.n x y)) = none from if_pos hg)]
        exact ckvalue_13n hM hok hx hy hg
      · rw [valP_some (M := M) (n := ⟨13, i, e, g, x0, y0⟩) (x := x) (y := y) (show (if ((2 ^ M.R.length : Nat) : Int) ≤ g then none else some (cmN (grpN (· ||| ·) M.R g.toNat) M.n x y)) = some _ from if_neg hg)]
        have hg2 : g < ((2 ^ M.R.length : Nat) : Int) := by omega
        exact ckvalue_13y hM hok hx hy (o4 (by omega)) hg2
end
end Go.Proofs.Ytmjdbbfoihadoaa
