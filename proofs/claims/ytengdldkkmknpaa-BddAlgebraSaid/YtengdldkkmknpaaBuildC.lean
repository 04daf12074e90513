/- What the law's build does, at a table of one number. No condition. -/
import Derived.Test.YtengdldkkmknpaaBuildB
set_option linter.unusedVariables false
set_option linter.unusedSimpArgs false
namespace Go.Proofs.Ytengdldkkmknpaa
open Go.RowKit

set_option maxRecDepth 100000 in
set_option maxHeartbeats 1000000 in
theorem build_any (V t : Nat) (ht : t < 18446744073709551616) (hV : V ≤ 6) (w : World) (gb go cap : Nat) (hg : w.cell? ⟨gb, go, none⟩ = some (.int .u64 t)) :
    Calls Try.prog 38 #[.int .i64 V, .slice (some ⟨gb, go, none⟩) 1 cap] w (BPost w V (tf t V 0 0)) := by
  have HR : Hid (∀ (vb ab rb tb : Nat) (W : World), BCap W vb ab rb tb gb go cap V t → Calls Try.prog 75 #[.int .i64 0, .int .i64 0, .pointer (some ⟨vb, 0, none⟩), .pointer (some ⟨ab, 0, none⟩), .pointer (some ⟨rb, 0, none⟩)] W (BPost W V (tf t V 0 0))) :=
    Lib.hid fun (vb ab rb tb : Nat) (W : World) h => rise_any vb ab rb tb gb go cap V t ht hV V 0 0 W (by omega) (by simp) h
  go_enter Try.func38, Try.ntmps38
  go_upto_region 4 with (fail)
  have hb1 := Bk.new' w 3 #[.int .i64 V] rfl
  have k1 : Keep NoF w (w.alloc (.cells #[.int .i64 V] 3)) := (Keep.refl _ _).alloc _
  have z1 : (w.alloc (.cells #[.int .i64 V] 3)).heap.size = w.heap.size + 1 := by simp
  generalize w.alloc (.cells #[.int .i64 V] 3) = W1 at *
  have hb2 := Bk.new' W1 44 #[.slice (some ⟨gb, go, none⟩) 1 cap] rfl
  have k2 : Keep NoF W1 (W1.alloc (.cells #[.slice (some ⟨gb, go, none⟩) 1 cap] 44)) := (Keep.refl _ _).alloc _
  have z2 : (W1.alloc (.cells #[.slice (some ⟨gb, go, none⟩) 1 cap] 44)).heap.size = W1.heap.size + 1 := by simp
  generalize W1.alloc (.cells #[.slice (some ⟨gb, go, none⟩) 1 cap] 44) = W2 at *
  have hb3 := Bk.new' W2 24 #[.int .i64 0, .slice none 0 0, .int .i64 0] rfl
  have k3 : Keep NoF W2 (W2.alloc (.cells #[.int .i64 0, .slice none 0 0, .int .i64 0] 24)) := (Keep.refl _ _).alloc _
  have z3 : (W2.alloc (.cells #[.int .i64 0, .slice none 0 0, .int .i64 0] 24)).heap.size = W2.heap.size + 1 := by simp
  generalize W2.alloc (.cells #[.int .i64 0, .slice none 0 0, .int .i64 0] 24) = W3 at *
  have hb4 := Bk.new' W3 78 #[.func (.func 74) #[] #[.pointer (some ⟨w.heap.size + 1, 0, none⟩)]] rfl
  have k4 : Keep NoF W3 (W3.alloc (.cells #[.func (.func 74) #[] #[.pointer (some ⟨w.heap.size + 1, 0, none⟩)]] 78)) := (Keep.refl _ _).alloc _
  have z4 : (W3.alloc (.cells #[.func (.func 74) #[] #[.pointer (some ⟨w.heap.size + 1, 0, none⟩)]] 78)).heap.size = W3.heap.size + 1 := by simp
  generalize W3.alloc (.cells #[.func (.func 74) #[] #[.pointer (some ⟨w.heap.size + 1, 0, none⟩)]] 78) = W4 at *
  rw [z1] at hb2 z2
  rw [z2] at hb3 z3
  rw [z3] at hb4 z4
  have hb5 := Bk.new' W4 79 #[.func (.func 75) #[] #[.pointer (some ⟨w.heap.size, 0, none⟩), .pointer (some ⟨w.heap.size + 1 + 1 + 1, 0, none⟩), .pointer (some ⟨w.heap.size + 1 + 1 + 1 + 1, 0, none⟩)]] rfl
  have k5 : Keep NoF W4 (W4.alloc (.cells #[.func (.func 75) #[] #[.pointer (some ⟨w.heap.size, 0, none⟩), .pointer (some ⟨w.heap.size + 1 + 1 + 1, 0, none⟩), .pointer (some ⟨w.heap.size + 1 + 1 + 1 + 1, 0, none⟩)]] 79)) := (Keep.refl _ _).alloc _
  rw [z4] at hb5
  generalize W4.alloc (.cells #[.func (.func 75) #[] #[.pointer (some ⟨w.heap.size, 0, none⟩), .pointer (some ⟨w.heap.size + 1 + 1 + 1, 0, none⟩), .pointer (some ⟨w.heap.size + 1 + 1 + 1 + 1, 0, none⟩)]] 79) = W5 at *
  have c1 := (((hb1.keep k2 (fun h => h)).keep k3 (fun h => h)).keep k4 (fun h => h)).keep k5 (fun h => h)
  have c2 := ((hb2.keep k3 (fun h => h)).keep k4 (fun h => h)).keep k5 (fun h => h)
  have c3 := (hb3.keep k4 (fun h => h)).keep k5 (fun h => h)
  have c4 := hb4.keep k5 (fun h => h)
  have kw : Keep NoF w W5 := (((k1.trans k2 fun _ _ h => h).trans k3 fun _ _ h => h).trans k4 fun _ _ h => h).trans k5 fun _ _ h => h
  have HB : Hid (BCap W5 w.heap.size (w.heap.size + 1 + 1 + 1) (w.heap.size + 1 + 1 + 1 + 1) (w.heap.size + 1) gb go cap V t) := Lib.hid ⟨c1.cell 0, c4.cell 0, hb5.cell 0, c2.cell 0, kw.cellv hg fun h => h⟩
  have HC := Lib.hid (HR.out _ _ _ _ _ HB.out)
  have q5 : W5.cell? ⟨w.heap.size + 1 + 1 + 1 + 1, 0, none⟩ = some (.func (.func 75) #[] #[.pointer (some ⟨w.heap.size, 0, none⟩), .pointer (some ⟨w.heap.size + 1 + 1 + 1, 0, none⟩), .pointer (some ⟨w.heap.size + 1 + 1 + 1 + 1, 0, none⟩)]) := hb5.cell 0
  have hl5 := c3.lt
  clear z1 z2 z3 z4 hb1 hb2 hb3 hb4 hb5 c1 c2 c4 k1 k2 k3 k4 k5
  go_wp2_with (go_at_call 75
               (with_reducible refine HC.out.mono ?_)
               rintro e w5 ⟨A, n, c, r, rfl, hd5, hk5, hf5⟩
               have hb5 := c3.keep hk5 (fun h => h)
               have t0 : w5.cell? ⟨w.heap.size + 1 + 1, 0, none⟩ = some (.int .i64 0) := hb5.cell 0
               have t1 : w5.cell? ⟨w.heap.size + 1 + 1, 1, none⟩ = some (.slice none 0 0) := hb5.cell 1
               have t2 : w5.cell? ⟨w.heap.size + 1 + 1, 2, none⟩ = some (.int .i64 0) := hb5.cell 2
               have f0 := hb5.frozen 0
               have f1 := hb5.frozen 1
               have f2 := hb5.frozen 2)
  have hkf : Keep NoF w (((w5.setCell ⟨w.heap.size + 1 + 1, 0, none⟩ (.int .i64 V)).setCell ⟨w.heap.size + 1 + 1, 1, none⟩ (.slice A n c)).setCell ⟨w.heap.size + 1 + 1, 2, none⟩ (.int .i64 r)) := (kw.trans hk5 fun _ _ h => h).set3 (by omega) _ _ _
  have hx := ((hb5.put 0 (.int .i64 V)).put 1 (.slice A n c)).put 2 (.int .i64 r)
  have hd6 := hd5.set3 (b := w.heap.size + 1 + 1) (fun k hk => by have := hf5 k hk; omega) (.int .i64 V) (.slice A n c) (.int .i64 r)
  generalize ((w5.setCell ⟨w.heap.size + 1 + 1, 0, none⟩ (.int .i64 V)).setCell ⟨w.heap.size + 1 + 1, 1, none⟩ (.slice A n c)).setCell ⟨w.heap.size + 1 + 1, 2, none⟩ (.int .i64 r) = W6 at *
  have hx0 : W6.cell? ⟨w.heap.size + 1 + 1, 0, none⟩ = some (.int .i64 V) := hx.cell 0
  have hx1 : W6.cell? ⟨w.heap.size + 1 + 1, 1, none⟩ = some (.slice A n c) := hx.cell 1
  have hx2 : W6.cell? ⟨w.heap.size + 1 + 1, 2, none⟩ = some (.int .i64 r) := hx.cell 2
  refine bodyPost_ret (v := .tuple #[.agg #[.int .i64 V, .slice A n c, .int .i64 r], .bool true]) (by simp [results, Try.results38, go_sem, hx0, hx1, hx2]) rfl ?_
  exact ⟨A, n, c, r, rfl, hd6, hkf, fun k hk => by have := hf5 k hk; have := kw.size; omega⟩
end Go.Proofs.Ytengdldkkmknpaa
