/- Package formula: what uses, operand, nodeError and Check do. No condition. -/
import Derived.Test.YtmjdbbfoihadoaaBase
import Derived.Test.YtmjdbbfoihadoaaFmAB
import Derived.Lib.Hide
import Derived.BigQuiet
import Derived.Deep.QuietTactic
import Derived.OpenShut
import Derived.Test.YtmjdbbfoihadoaaChecked
set_option linter.unusedVariables false
set_option linter.unusedSimpArgs false
namespace Go.Proofs.Ytmjdbbfoihadoaa
open Go.RowKit
open Fm (Nd isOp usesX usesY usesFact usesAgent usesGroup usesEvent zeroed within ranged operandB nodeE nodesE checkE)

/-- The fragment of an operator. -/
def fragN (o : Int) : Int := if o = 9 ∨ o = 10 then 1 else if o = 11 then 2 else if o = 12 then 4 else if o = 13 then 8 else if o = 14 then 16 else if o = 15 then 32 else if o = 16 then 64 else if o = 17 then 128 else if 18 ≤ o ∧ o ≤ 21 then 256 else 0
def useC (o : Int) : List Value := [.bool (usesX o), .bool (usesY o), .bool (usesFact o), .bool (usesAgent o), .bool (usesGroup o), .bool (usesEvent o), .int .i64 (fragN o)]
abbrev useV (o : Int) : Value := .agg (useC o).toArray
def ndC (n : Nd) : List Value := [.int .i64 n.op, .int .i64 n.i, .int .i64 n.e, .int .i64 n.g, .int .i64 n.x, .int .i64 n.y]
abbrev ndV (n : Nd) : Value := .agg #[.int .i64 n.op, .int .i64 n.i, .int .i64 n.e, .int .i64 n.g, .int .i64 n.x, .int .i64 n.y]
abbrev fmC (l : List Nd) : List Value := l.flatMap ndC
theorem not_op {o : Int} (h : o < 1 ∨ 21 < o) : useC o = [.bool false, .bool false, .bool false, .bool false, .bool false, .bool false, .int .i64 0] ∧ isOp o = false := by
  have h1 : usesX o = false := by simp [usesX]; omega
  have h2 : usesY o = false := by simp [usesY]; omega
  have h3 : usesFact o = false := by simp [usesFact]; omega
  have h4 : usesAgent o = false := by simp [usesAgent]; omega
  have h5 : usesGroup o = false := by simp [usesGroup]; omega
  have h6 : usesEvent o = false := by simp [usesEvent]; omega
  have h7 : fragN o = 0 := by unfold fragN; repeat (first | rw [if_neg (by omega)])
  have h8 : isOp o = false := by simp [isOp]; omega
  unfold useC
  rw [h1, h2, h3, h4, h5, h6, h7]
  exact ⟨rfl, h8⟩
section
variable (w : World)
set_option maxRecDepth 100000
set_option maxHeartbeats 2000000
theorem uses_1 : Calls Try.prog 38 #[.int .i64 1] w fun e w' => e = .returned (.tuple #[.agg #[.bool false, .bool false, .bool false, .bool false, .bool false, .bool false, .int .i64 0], .bool true]) ∧ Keep NoF w w' := by
  go_enter Try.func38, Try.ntmps38
  go_wp2
  have hb := Bk.new w 81 #[.bool false, .bool false, .bool false, .bool false, .bool false, .bool false, .int .i64 0]
  have hk : Keep NoF w (w.alloc (.cells #[.bool false, .bool false, .bool false, .bool false, .bool false, .bool false, .int .i64 0] 81)) := (Keep.refl _ _).alloc _
  have hc0 := hb.cell 0
  have hc1 := hb.cell 1
  have hc2 := hb.cell 2
  have hc3 := hb.cell 3
  have hc4 := hb.cell 4
  have hc5 := hb.cell 5
  have hc6 := hb.cell 6
  generalize w.alloc (.cells #[.bool false, .bool false, .bool false, .bool false, .bool false, .bool false, .int .i64 0] 81) = W at *
  refine bodyPost_ret (v := .tuple #[.agg #[.bool false, .bool false, .bool false, .bool false, .bool false, .bool false, .int .i64 0], .bool true]) (by simp [results, Try.results38, go_sem, hc0, hc1, hc2, hc3, hc4, hc5, hc6]) rfl ?_
  exact ⟨rfl, hk⟩
theorem uses_2 : Calls Try.prog 38 #[.int .i64 2] w fun e w' => e = .returned (.tuple #[.agg #[.bool false, .bool false, .bool false, .bool false, .bool false, .bool false, .int .i64 0], .bool true]) ∧ Keep NoF w w' := by
  go_enter Try.func38, Try.ntmps38
  go_wp2
  have hb := Bk.new w 81 #[.bool false, .bool false, .bool false, .bool false, .bool false, .bool false, .int .i64 0]
  have hk : Keep NoF w (w.alloc (.cells #[.bool false, .bool false, .bool false, .bool false, .bool false, .bool false, .int .i64 0] 81)) := (Keep.refl _ _).alloc _
  have hc0 := hb.cell 0
  have hc1 := hb.cell 1
  have hc2 := hb.cell 2
  have hc3 := hb.cell 3
  have hc4 := hb.cell 4
  have hc5 := hb.cell 5
  have hc6 := hb.cell 6
  generalize w.alloc (.cells #[.bool false, .bool false, .bool false, .bool false, .bool false, .bool false, .int .i64 0] 81) = W at *
  refine bodyPost_ret (v := .tuple #[.agg #[.bool false, .bool false, .bool false, .bool false, .bool false, .bool false, .int .i64 0], .bool true]) (by simp [results, Try.results38, go_sem, hc0, hc1, hc2, hc3, hc4, hc5, hc6]) rfl ?_
  exact ⟨rfl, hk⟩
theorem uses_3 : Calls Try.prog 38 #[.int .i64 3] w fun e w' => e = .returned (.tuple #[.agg #[.bool false, .bool false, .bool true, .bool false, .bool false, .bool false, .int .i64 0], .bool true]) ∧ Keep NoF w w' := by
  go_enter Try.func38, Try.ntmps38
  go_wp2
  have hb := Bk.new w 81 #[.bool false, .bool false, .bool true, .bool false, .bool false, .bool false, .int .i64 0]
  have hk : Keep NoF w (w.alloc (.cells #[.bool false, .bool false, .bool true, .bool false, .bool false, .bool false, .int .i64 0] 81)) := (Keep.refl _ _).alloc _
  have hc0 := hb.cell 0
  have hc1 := hb.cell 1
  have hc2 := hb.cell 2
  have hc3 := hb.cell 3
  have hc4 := hb.cell 4
  have hc5 := hb.cell 5
  have hc6 := hb.cell 6
  generalize w.alloc (.cells #[.bool false, .bool false, .bool true, .bool false, .bool false, .bool false, .int .i64 0] 81) = W at *
  refine bodyPost_ret (v := .tuple #[.agg #[.bool false, .bool false, .bool true, .bool false, .bool false, .bool false, .int .i64 0], .bool true]) (by simp [results, Try.results38, go_sem, hc0, hc1, hc2, hc3, hc4, hc5, hc6]) rfl ?_
  exact ⟨rfl, hk⟩
theorem uses_4 : Calls Try.prog 38 #[.int .i64 4] w fun e w' => e = .returned (.tuple #[.agg #[.bool true, .bool false, .bool false, .bool false, .bool false, .bool false, .int .i64 0], .bool true]) ∧ Keep NoF w w' := by
  go_enter Try.func38, Try.ntmps38
  go_wp2
  have hb := Bk.new w 81 #[.bool true, .bool false, .bool false, .bool false, .bool false, .bool false, .int .i64 0]
  have hk : Keep NoF w (w.alloc (.cells #[.bool true, .bool false, .bool false, .bool false, .bool false, .bool false, .int .i64 0] 81)) := (Keep.refl _ _).alloc _
  have hc0 := hb.cell 0
  have hc1 := hb.cell 1
  have hc2 := hb.cell 2
  have hc3 := hb.cell 3
  have hc4 := hb.cell 4
  have hc5 := hb.cell 5
  have hc6 := hb.cell 6
  generalize w.alloc (.cells #[.bool true, .bool false, .bool false, .bool false, .bool false, .bool false, .int .i64 0] 81) = W at *
  refine bodyPost_ret (v := .tuple #[.agg #[.bool true, .bool false, .bool false, .bool false, .bool false, .bool false, .int .i64 0], .bool true]) (by simp [results, Try.results38, go_sem, hc0, hc1, hc2, hc3, hc4, hc5, hc6]) rfl ?_
  exact ⟨rfl, hk⟩
theorem uses_5 : Calls Try.prog 38 #[.int .i64 5] w fun e w' => e = .returned (.tuple #[.agg #[.bool true, .bool true, .bool false, .bool false, .bool false, .bool false, .int .i64 0], .bool true]) ∧ Keep NoF w w' := by
  go_enter Try.func38, Try.ntmps38
  go_wp2
  have hb := Bk.new w 81 #[.bool true, .bool true, .bool false, .bool false, .bool false, .bool false, .int .i64 0]
  have hk : Keep NoF w (w.alloc (.cells #[.bool true, .bool true, .bool false, .bool false, .bool false, .bool false, .int .i64 0] 81)) := (Keep.refl _ _).alloc _
  have hc0 := hb.cell 0
  have hc1 := hb.cell 1
  have hc2 := hb.cell 2
  have hc3 := hb.cell 3
  have hc4 := hb.cell 4
  have hc5 := hb.cell 5
  have hc6 := hb.cell 6
  generalize w.alloc (.cells #[.bool true, .bool true, .bool false, .bool false, .bool false, .bool false, .int .i64 0] 81) = W at *
  refine bodyPost_ret (v := .tuple #[.agg #[.bool true, .bool true, .bool false, .bool false, .bool false, .bool false, .int .i64 0], .bool true]) (by simp [results, Try.results38, go_sem, hc0, hc1, hc2, hc3, hc4, hc5, hc6]) rfl ?_
  exact ⟨rfl, hk⟩
theorem uses_6 : Calls Try.prog 38 #[.int .i64 6] w fun e w' => e = .returned (.tuple #[.agg #[.bool true, .bool true, .bool false, .bool false, .bool false, .bool false, .int .i64 0], .bool true]) ∧ Keep NoF w w' := by
  go_enter Try.func38, Try.ntmps38
  go_wp2
  have hb := Bk.new w 81 #[.bool true, .bool true, .bool false, .bool false, .bool false, .bool false, .int .i64 0]
  have hk : Keep NoF w (w.alloc (.cells #[.bool true, .bool true, .bool false, .bool false, .bool false, .bool false, .int .i64 0] 81)) := (Keep.refl _ _).alloc _
  have hc0 := hb.cell 0
  have hc1 := hb.cell 1
  have hc2 := hb.cell 2
  have hc3 := hb.cell 3
  have hc4 := hb.cell 4
  have hc5 := hb.cell 5
  have hc6 := hb.cell 6
  generalize w.alloc (.cells #[.bool true, .bool true, .bool false, .bool false, .bool false, .bool false, .int .i64 0] 81) = W at *
  refine bodyPost_ret (v := .tuple #[.agg #[.bool true, .bool true, .bool false, .bool false, .bool false, .bool false, .int .i64 0], .bool true]) (by simp [results, Try.results38, go_sem, hc0, hc1, hc2, hc3, hc4, hc5, hc6]) rfl ?_
  exact ⟨rfl, hk⟩
theorem uses_7 : Calls Try.prog 38 #[.int .i64 7] w fun e w' => e = .returned (.tuple #[.agg #[.bool true, .bool true, .bool false, .bool false, .bool false, .bool false, .int .i64 0], .bool true]) ∧ Keep NoF w w' := by
  go_enter Try.func38, Try.ntmps38
  go_wp2
  have hb := Bk.new w 81 #[.bool true, .bool true, .bool false, .bool false, .bool false, .bool false, .int .i64 0]
  have hk : Keep NoF w (w.alloc (.cells #[.bool true, .bool true, .bool false, .bool false, .bool false, .bool false, .int .i64 0] 81)) := (Keep.refl _ _).alloc _
  have hc0 := hb.cell 0
  have hc1 := hb.cell 1
  have hc2 := hb.cell 2
  have hc3 := hb.cell 3
  have hc4 := hb.cell 4
  have hc5 := hb.cell 5
  have hc6 := hb.cell 6
  generalize w.alloc (.cells #[.bool true, .bool true, .bool false, .bool false, .bool false, .bool false, .int .i64 0] 81) = W at *
  refine bodyPost_ret (v := .tuple #[.agg #[.bool true, .bool true, .bool false, .bool false, .bool false, .bool false, .int .i64 0], .bool true]) (by simp [results, Try.results38, go_sem, hc0, hc1, hc2, hc3, hc4, hc5, hc6]) rfl ?_
  exact ⟨rfl, hk⟩
theorem uses_8 : Calls Try.prog 38 #[.int .i64 8] w fun e w' => e = .returned (.tuple #[.agg #[.bool true, .bool true, .bool false, .bool false, .bool false, .bool false, .int .i64 0], .bool true]) ∧ Keep NoF w w' := by
  go_enter Try.func38, Try.ntmps38
  go_wp2
  have hb := Bk.new w 81 #[.bool true, .bool true, .bool false, .bool false, .bool false, .bool false, .int .i64 0]
  have hk : Keep NoF w (w.alloc (.cells #[.bool true, .bool true, .bool false, .bool false, .bool false, .bool false, .int .i64 0] 81)) := (Keep.refl _ _).alloc _
  have hc0 := hb.cell 0
  have hc1 := hb.cell 1
  have hc2 := hb.cell 2
  have hc3 := hb.cell 3
  have hc4 := hb.cell 4
  have hc5 := hb.cell 5
  have hc6 := hb.cell 6
  generalize w.alloc (.cells #[.bool true, .bool true, .bool false, .bool false, .bool false, .bool false, .int .i64 0] 81) = W at *
  refine bodyPost_ret (v := .tuple #[.agg #[.bool true, .bool true, .bool false, .bool false, .bool false, .bool false, .int .i64 0], .bool true]) (by simp [results, Try.results38, go_sem, hc0, hc1, hc2, hc3, hc4, hc5, hc6]) rfl ?_
  exact ⟨rfl, hk⟩
theorem uses_9 : Calls Try.prog 38 #[.int .i64 9] w fun e w' => e = .returned (.tuple #[.agg #[.bool true, .bool false, .bool false, .bool true, .bool false, .bool false, .int .i64 1], .bool true]) ∧ Keep NoF w w' := by
  go_enter Try.func38, Try.ntmps38
  go_wp2
  have hb := Bk.new w 81 #[.bool true, .bool false, .bool false, .bool true, .bool false, .bool false, .int .i64 1]
  have hk : Keep NoF w (w.alloc (.cells #[.bool true, .bool false, .bool false, .bool true, .bool false, .bool false, .int .i64 1] 81)) := (Keep.refl _ _).alloc _
  have hc0 := hb.cell 0
  have hc1 := hb.cell 1
  have hc2 := hb.cell 2
  have hc3 := hb.cell 3
  have hc4 := hb.cell 4
  have hc5 := hb.cell 5
  have hc6 := hb.cell 6
  generalize w.alloc (.cells #[.bool true, .bool false, .bool false, .bool true, .bool false, .bool false, .int .i64 1] 81) = W at *
  refine bodyPost_ret (v := .tuple #[.agg #[.bool true, .bool false, .bool false, .bool true, .bool false, .bool false, .int .i64 1], .bool true]) (by simp [results, Try.results38, go_sem, hc0, hc1, hc2, hc3, hc4, hc5, hc6]) rfl ?_
  exact ⟨rfl, hk⟩
theorem uses_10 : Calls Try.prog 38 #[.int .i64 10] w fun e w' => e = .returned (.tuple #[.agg #[.bool true, .bool false, .bool false, .bool true, .bool false, .bool false, .int .i64 1], .bool true]) ∧ Keep NoF w w' := by
  go_enter Try.func38, Try.ntmps38
  go_wp2
  have hb := Bk.new w 81 #[.bool true, .bool false, .bool false, .bool true, .bool false, .bool false, .int .i64 1]
  have hk : Keep NoF w (w.alloc (.cells #[.bool true, .bool false, .bool false, .bool true, .bool false, .bool false, .int .i64 1] 81)) := (Keep.refl _ _).alloc _
  have hc0 := hb.cell 0
  have hc1 := hb.cell 1
  have hc2 := hb.cell 2
  have hc3 := hb.cell 3
  have hc4 := hb.cell 4
  have hc5 := hb.cell 5
  have hc6 := hb.cell 6
  generalize w.alloc (.cells #[.bool true, .bool false, .bool false, .bool true, .bool false, .bool false, .int .i64 1] 81) = W at *
  refine bodyPost_ret (v := .tuple #[.agg #[.bool true, .bool false, .bool false, .bool true, .bool false, .bool false, .int .i64 1], .bool true]) (by simp [results, Try.results38, go_sem, hc0, hc1, hc2, hc3, hc4, hc5, hc6]) rfl ?_
  exact ⟨rfl, hk⟩
theorem uses_11 : Calls Try.prog 38 #[.int .i64 11] w fun e w' => e = .returned (.tuple #[.agg #[.bool true, .bool false, .bool false, .bool false, .bool true, .bool false, .int .i64 2], .bool true]) ∧ Keep NoF w w' := by
  go_enter Try.func38, Try.ntmps38
  go_wp2
  have hb := Bk.new w 81 #[.bool true, .bool false, .bool false, .bool false, .bool true, .bool false, .int .i64 2]
  have hk : Keep NoF w (w.alloc (.cells #[.bool true, .bool false, .bool false, .bool false, .bool true, .bool false, .int .i64 2] 81)) := (Keep.refl _ _).alloc _
  have hc0 := hb.cell 0
  have hc1 := hb.cell 1
  have hc2 := hb.cell 2
  have hc3 := hb.cell 3
  have hc4 := hb.cell 4
  have hc5 := hb.cell 5
  have hc6 := hb.cell 6
  generalize w.alloc (.cells #[.bool true, .bool false, .bool false, .bool false, .bool true, .bool false, .int .i64 2] 81) = W at *
  refine bodyPost_ret (v := .tuple #[.agg #[.bool true, .bool false, .bool false, .bool false, .bool true, .bool false, .int .i64 2], .bool true]) (by simp [results, Try.results38, go_sem, hc0, hc1, hc2, hc3, hc4, hc5, hc6]) rfl ?_
  exact ⟨rfl, hk⟩
theorem uses_12 : Calls Try.prog 38 #[.int .i64 12] w fun e w' => e = .returned (.tuple #[.agg #[.bool true, .bool false, .bool false, .bool false, .bool true, .bool false, .int .i64 4], .bool true]) ∧ Keep NoF w w' := by
  go_enter Try.func38, Try.ntmps38
  go_wp2
  have hb := Bk.new w 81 #[.bool true, .bool false, .bool false, .bool false, .bool true, .bool false, .int .i64 4]
  have hk : Keep NoF w (w.alloc (.cells #[.bool true, .bool false, .bool false, .bool false, .bool true, .bool false, .int .i64 4] 81)) := (Keep.refl _ _).alloc _
  have hc0 := hb.cell 0
  have hc1 := hb.cell 1
  have hc2 := hb.cell 2
  have hc3 := hb.cell 3
  have hc4 := hb.cell 4
  have hc5 := hb.cell 5
  have hc6 := hb.cell 6
  generalize w.alloc (.cells #[.bool true, .bool false, .bool false, .bool false, .bool true, .bool false, .int .i64 4] 81) = W at *
  refine bodyPost_ret (v := .tuple #[.agg #[.bool true, .bool false, .bool false, .bool false, .bool true, .bool false, .int .i64 4], .bool true]) (by simp [results, Try.results38, go_sem, hc0, hc1, hc2, hc3, hc4, hc5, hc6]) rfl ?_
  exact ⟨rfl, hk⟩
theorem uses_13 : Calls Try.prog 38 #[.int .i64 13] w fun e w' => e = .returned (.tuple #[.agg #[.bool true, .bool true, .bool false, .bool false, .bool true, .bool false, .int .i64 8], .bool true]) ∧ Keep NoF w w' := by
  go_enter Try.func38, Try.ntmps38
  go_wp2
  have hb := Bk.new w 81 #[.bool true, .bool true, .bool false, .bool false, .bool true, .bool false, .int .i64 8]
  have hk : Keep NoF w (w.alloc (.cells #[.bool true, .bool true, .bool false, .bool false, .bool true, .bool false, .int .i64 8] 81)) := (Keep.refl _ _).alloc _
  have hc0 := hb.cell 0
  have hc1 := hb.cell 1
  have hc2 := hb.cell 2
  have hc3 := hb.cell 3
  have hc4 := hb.cell 4
  have hc5 := hb.cell 5
  have hc6 := hb.cell 6
  generalize w.alloc (.cells #[.bool true, .bool true, .bool false, .bool false, .bool true, .bool false, .int .i64 8] 81) = W at *
  refine bodyPost_ret (v := .tuple #[.agg #[.bool true, .bool true, .bool false, .bool false, .bool true, .bool false, .int .i64 8], .bool true]) (by simp [results, Try.results38, go_sem, hc0, hc1, hc2, hc3, hc4, hc5, hc6]) rfl ?_
  exact ⟨rfl, hk⟩
theorem uses_14 : Calls Try.prog 38 #[.int .i64 14] w fun e w' => e = .returned (.tuple #[.agg #[.bool true, .bool true, .bool false, .bool true, .bool false, .bool false, .int .i64 16], .bool true]) ∧ Keep NoF w w' := by
  go_enter Try.func38, Try.ntmps38
  go_wp2
  have hb := Bk.new w 81 #[.bool true, .bool true, .bool false, .bool true, .bool false, .bool false, .int .i64 16]
  have hk : Keep NoF w (w.alloc (.cells #[.bool true, .bool true, .bool false, .bool true, .bool false, .bool false, .int .i64 16] 81)) := (Keep.refl _ _).alloc _
  have hc0 := hb.cell 0
  have hc1 := hb.cell 1
  have hc2 := hb.cell 2
  have hc3 := hb.cell 3
  have hc4 := hb.cell 4
  have hc5 := hb.cell 5
  have hc6 := hb.cell 6
  generalize w.alloc (.cells #[.bool true, .bool true, .bool false, .bool true, .bool false, .bool false, .int .i64 16] 81) = W at *
  refine bodyPost_ret (v := .tuple #[.agg #[.bool true, .bool true, .bool false, .bool true, .bool false, .bool false, .int .i64 16], .bool true]) (by simp [results, Try.results38, go_sem, hc0, hc1, hc2, hc3, hc4, hc5, hc6]) rfl ?_
  exact ⟨rfl, hk⟩
theorem uses_15 : Calls Try.prog 38 #[.int .i64 15] w fun e w' => e = .returned (.tuple #[.agg #[.bool true, .bool false, .bool false, .bool true, .bool false, .bool false, .int .i64 32], .bool true]) ∧ Keep NoF w w' := by
  go_enter Try.func38, Try.ntmps38
  go_wp2
  have hb := Bk.new w 81 #[.bool true, .bool false, .bool false, .bool true, .bool false, .bool false, .int .i64 32]
  have hk : Keep NoF w (w.alloc (.cells #[.bool true, .bool false, .bool false, .bool true, .bool false, .bool false, .int .i64 32] 81)) := (Keep.refl _ _).alloc _
  have hc0 := hb.cell 0
  have hc1 := hb.cell 1
  have hc2 := hb.cell 2
  have hc3 := hb.cell 3
  have hc4 := hb.cell 4
  have hc5 := hb.cell 5
  have hc6 := hb.cell 6
  generalize w.alloc (.cells #[.bool true, .bool false, .bool false, .bool true, .bool false, .bool false, .int .i64 32] 81) = W at *
  refine bodyPost_ret (v := .tuple #[.agg #[.bool true, .bool false, .bool false, .bool true, .bool false, .bool false, .int .i64 32], .bool true]) (by simp [results, Try.results38, go_sem, hc0, hc1, hc2, hc3, hc4, hc5, hc6]) rfl ?_
  exact ⟨rfl, hk⟩
theorem uses_16 : Calls Try.prog 38 #[.int .i64 16] w fun e w' => e = .returned (.tuple #[.agg #[.bool true, .bool true, .bool false, .bool false, .bool false, .bool false, .int .i64 64], .bool true]) ∧ Keep NoF w w' := by
  go_enter Try.func38, Try.ntmps38
  go_wp2
  have hb := Bk.new w 81 #[.bool true, .bool true, .bool false, .bool false, .bool false, .bool false, .int .i64 64]
  have hk : Keep NoF w (w.alloc (.cells #[.bool true, .bool true, .bool false, .bool false, .bool false, .bool false, .int .i64 64] 81)) := (Keep.refl _ _).alloc _
  have hc0 := hb.cell 0
  have hc1 := hb.cell 1
  have hc2 := hb.cell 2
  have hc3 := hb.cell 3
  have hc4 := hb.cell 4
  have hc5 := hb.cell 5
  have hc6 := hb.cell 6
  generalize w.alloc (.cells #[.bool true, .bool true, .bool false, .bool false, .bool false, .bool false, .int .i64 64] 81) = W at *
  refine bodyPost_ret (v := .tuple #[.agg #[.bool true, .bool true, .bool false, .bool false, .bool false, .bool false, .int .i64 64], .bool true]) (by simp [results, Try.results38, go_sem, hc0, hc1, hc2, hc3, hc4, hc5, hc6]) rfl ?_
  exact ⟨rfl, hk⟩
theorem uses_17 : Calls Try.prog 38 #[.int .i64 17] w fun e w' => e = .returned (.tuple #[.agg #[.bool true, .bool false, .bool false, .bool false, .bool false, .bool true, .int .i64 128], .bool true]) ∧ Keep NoF w w' := by
  go_enter Try.func38, Try.ntmps38
  go_wp2
  have hb := Bk.new w 81 #[.bool true, .bool false, .bool false, .bool false, .bool false, .bool true, .int .i64 128]
  have hk : Keep NoF w (w.alloc (.cells #[.bool true, .bool false, .bool false, .bool false, .bool false, .bool true, .int .i64 128] 81)) := (Keep.refl _ _).alloc _
  have hc0 := hb.cell 0
  have hc1 := hb.cell 1
  have hc2 := hb.cell 2
  have hc3 := hb.cell 3
  have hc4 := hb.cell 4
  have hc5 := hb.cell 5
  have hc6 := hb.cell 6
  generalize w.alloc (.cells #[.bool true, .bool false, .bool false, .bool false, .bool false, .bool true, .int .i64 128] 81) = W at *
  refine bodyPost_ret (v := .tuple #[.agg #[.bool true, .bool false, .bool false, .bool false, .bool false, .bool true, .int .i64 128], .bool true]) (by simp [results, Try.results38, go_sem, hc0, hc1, hc2, hc3, hc4, hc5, hc6]) rfl ?_
  exact ⟨rfl, hk⟩
theorem uses_18 : Calls Try.prog 38 #[.int .i64 18] w fun e w' => e = .returned (.tuple #[.agg #[.bool true, .bool false, .bool false, .bool false, .bool false, .bool false, .int .i64 256], .bool true]) ∧ Keep NoF w w' := by
  go_enter Try.func38, Try.ntmps38
  go_wp2
  have hb := Bk.new w 81 #[.bool true, .bool false, .bool false, .bool false, .bool false, .bool false, .int .i64 256]
  have hk : Keep NoF w (w.alloc (.cells #[.bool true, .bool false, .bool false, .bool false, .bool false, .bool false, .int .i64 256] 81)) := (Keep.refl _ _).alloc _
  have hc0 := hb.cell 0
  have hc1 := hb.cell 1
  have hc2 := hb.cell 2
  have hc3 := hb.cell 3
  have hc4 := hb.cell 4
  have hc5 := hb.cell 5
  have hc6 := hb.cell 6
  generalize w.alloc (.cells #[.bool true, .bool false, .bool false, .bool false, .bool false, .bool false, .int .i64 256] 81) = W at *
  refine bodyPost_ret (v := .tuple #[.agg #[.bool true, .bool false, .bool false, .bool false, .bool false, .bool false, .int .i64 256], .bool true]) (by simp [results, Try.results38, go_sem, hc0, hc1, hc2, hc3, hc4, hc5, hc6]) rfl ?_
  exact ⟨rfl, hk⟩
theorem uses_19 : Calls Try.prog 38 #[.int .i64 19] w fun e w' => e = .returned (.tuple #[.agg #[.bool true, .bool true, .bool false, .bool false, .bool false, .bool false, .int .i64 256], .bool true]) ∧ Keep NoF w w' := by
  go_enter Try.func38, Try.ntmps38
  go_wp2
  have hb := Bk.new w 81 #[.bool true, .bool true, .bool false, .bool false, .bool false, .bool false, .int .i64 256]
  have hk : Keep NoF w (w.alloc (.cells #[.bool true, .bool true, .bool false, .bool false, .bool false, .bool false, .int .i64 256] 81)) := (Keep.refl _ _).alloc _
  have hc0 := hb.cell 0
  have hc1 := hb.cell 1
  have hc2 := hb.cell 2
  have hc3 := hb.cell 3
  have hc4 := hb.cell 4
  have hc5 := hb.cell 5
  have hc6 := hb.cell 6
  generalize w.alloc (.cells #[.bool true, .bool true, .bool false, .bool false, .bool false, .bool false, .int .i64 256] 81) = W at *
  refine bodyPost_ret (v := .tuple #[.agg #[.bool true, .bool true, .bool false, .bool false, .bool false, .bool false, .int .i64 256], .bool true]) (by simp [results, Try.results38, go_sem, hc0, hc1, hc2, hc3, hc4, hc5, hc6]) rfl ?_
  exact ⟨rfl, hk⟩
theorem uses_20 : Calls Try.prog 38 #[.int .i64 20] w fun e w' => e = .returned (.tuple #[.agg #[.bool true, .bool false, .bool false, .bool false, .bool false, .bool false, .int .i64 256], .bool true]) ∧ Keep NoF w w' := by
  go_enter Try.func38, Try.ntmps38
  go_wp2
  have hb := Bk.new w 81 #[.bool true, .bool false, .bool false, .bool false, .bool false, .bool false, .int .i64 256]
  have hk : Keep NoF w (w.alloc (.cells #[.bool true, .bool false, .bool false, .bool false, .bool false, .bool false, .int .i64 256] 81)) := (Keep.refl _ _).alloc _
  have hc0 := hb.cell 0
  have hc1 := hb.cell 1
  have hc2 := hb.cell 2
  have hc3 := hb.cell 3
  have hc4 := hb.cell 4
  have hc5 := hb.cell 5
  have hc6 := hb.cell 6
  generalize w.alloc (.cells #[.bool true, .bool false, .bool false, .bool false, .bool false, .bool false, .int .i64 256] 81) = W at *
  refine bodyPost_ret (v := .tuple #[.agg #[.bool true, .bool false, .bool false, .bool false, .bool false, .bool false, .int .i64 256], .bool true]) (by simp [results, Try.results38, go_sem, hc0, hc1, hc2, hc3, hc4, hc5, hc6]) rfl ?_
  exact ⟨rfl, hk⟩
theorem uses_21 : Calls Try.prog 38 #[.int .i64 21] w fun e w' => e = .returned (.tuple #[.agg #[.bool true, .bool true, .bool false, .bool false, .bool false, .bool false, .int .i64 256], .bool true]) ∧ Keep NoF w w' := by
  go_enter Try.func38, Try.ntmps38
  go_wp2
  have hb := Bk.new w 81 #[.bool true, .bool true, .bool false, .bool false, .bool false, .bool false, .int .i64 256]
  have hk : Keep NoF w (w.alloc (.cells #[.bool true, .bool true, .bool false, .bool false, .bool false, .bool false, .int .i64 256] 81)) := (Keep.refl _ _).alloc _
  have hc0 := hb.cell 0
  have hc1 := hb.cell 1
  have hc2 := hb.cell 2
  have hc3 := hb.cell 3
  have hc4 := hb.cell 4
  have hc5 := hb.cell 5
  have hc6 := hb.cell 6
  generalize w.alloc (.cells #[.bool true, .bool true, .bool false, .bool false, .bool false, .bool false, .int .i64 256] 81) = W at *
  refine bodyPost_ret (v := .tuple #[.agg #[.bool true, .bool true, .bool false, .bool false, .bool false, .bool false, .int .i64 256], .bool true]) (by simp [results, Try.results38, go_sem, hc0, hc1, hc2, hc3, hc4, hc5, hc6]) rfl ?_
  exact ⟨rfl, hk⟩
theorem uses_no (o : Int) (h : o < 1 ∨ 21 < o) : Calls Try.prog 38 #[.int .i64 o] w fun e w' => e = .returned (.tuple #[.agg #[.bool false, .bool false, .bool false, .bool false, .bool false, .bool false, .int .i64 0], .bool false]) ∧ Keep NoF w w' := by
  go_enter Try.func38, Try.ntmps38
  go_wp2
  have hb := Bk.new w 81 #[.bool false, .bool false, .bool false, .bool false, .bool false, .bool false, .int .i64 0]
  have hk : Keep NoF w (w.alloc (.cells #[.bool false, .bool false, .bool false, .bool false, .bool false, .bool false, .int .i64 0] 81)) := (Keep.refl _ _).alloc _
  have hc0 := hb.cell 0
  have hc1 := hb.cell 1
  have hc2 := hb.cell 2
  have hc3 := hb.cell 3
  have hc4 := hb.cell 4
  have hc5 := hb.cell 5
  have hc6 := hb.cell 6
  generalize w.alloc (.cells #[.bool false, .bool false, .bool false, .bool false, .bool false, .bool false, .int .i64 0] 81) = W at *
  refine bodyPost_ret (v := .tuple #[.agg #[.bool false, .bool false, .bool false, .bool false, .bool false, .bool false, .int .i64 0], .bool false]) (by simp [results, Try.results38, go_sem, hc0, hc1, hc2, hc3, hc4, hc5, hc6]) rfl ?_
  exact ⟨rfl, hk⟩
theorem uses_any (o : Int) : Calls Try.prog 38 #[.int .i64 o] w fun e w' => e = .returned (.tuple #[useV o, .bool (isOp o)]) ∧ Keep NoF w w' := by
  have h : o = 1 ∨ o = 2 ∨ o = 3 ∨ o = 4 ∨ o = 5 ∨ o = 6 ∨ o = 7 ∨ o = 8 ∨ o = 9 ∨ o = 10 ∨ o = 11 ∨ o = 12 ∨ o = 13 ∨ o = 14 ∨ o = 15 ∨ o = 16 ∨ o = 17 ∨ o = 18 ∨ o = 19 ∨ o = 20 ∨ o = 21 ∨ (o < 1 ∨ 21 < o) := by omega
  rcases h with rfl | rfl | rfl | rfl | rfl | rfl | rfl | rfl | rfl | rfl | rfl | rfl | rfl | rfl | rfl | rfl | rfl | rfl | rfl | rfl | rfl | h
  · exact uses_1 w
  · exact uses_2 w
  · exact uses_3 w
  · exact uses_4 w
  · exact uses_5 w
  · exact uses_6 w
  · exact uses_7 w
  · exact uses_8 w
  · exact uses_9 w
  · exact uses_10 w
  · exact uses_11 w
  · exact uses_12 w
  · exact uses_13 w
  · exact uses_14 w
  · exact uses_15 w
  · exact uses_16 w
  · exact uses_17 w
  · exact uses_18 w
  · exact uses_19 w
  · exact uses_20 w
  · exact uses_21 w
  · have := uses_no w o h
    obtain ⟨e1, e2⟩ := not_op h
    show Calls Try.prog 38 #[.int .i64 o] w fun e w' => e = .returned (.tuple #[.agg (useC o).toArray, .bool (isOp o)]) ∧ Keep NoF w w'
    rw [e1, e2]
    exact this
end
end Go.Proofs.Ytmjdbbfoihadoaa
