/- The store of the package bdd in memory, and what its methods do to it. No condition. -/
import Derived.Test.YtengdldkkmknpaaProg
import Derived.Test.YtengdldkkmknpaaBase
import Derived.Test.YtengdldkkmknpaaLaw
import Derived.DeepKeys4
import Derived.Deep.QuietTactic
import Derived.BigQuiet
import Derived.Deep.RegionHeld3
import Derived.Deep.RegionLaw
import Derived.Deep.DeepCutAuto
import Derived.Lib.Hide
set_option linter.unusedVariables false
set_option linter.unusedSimpArgs false
namespace Go.Proofs.Ytengdldkkmknpaa
open Go.RowKit

abbrev Nd := Dd.Nd
def ndV (n : Nd) : Value := .agg #[.int .i64 n.1, .int .i64 n.2.1, .int .i64 n.2.2]
def ndC (n : Nd) : List Value := [.int .i64 n.1, .int .i64 n.2.1, .int .i64 n.2.2]
def ndsC (N : List Nd) : List Value := N.flatMap ndC
def tiny (x : Nat) : Prop := x < 4611686018427387904
def ndOk (n : Nd) : Prop := tiny n.1 ∧ tiny n.2.1 ∧ tiny n.2.2
def inV (n : Nat) : Value := .int .i64 n

theorem laid : laidOutB Try.prog = true := by kernel_rfl
theorem keyNode : Maps.Keyed Try.prog 63 := Maps.Keyed.of_law (deep_law_laid laid (m := 5) (by omega) (of_decide_eq_true (by kernel_rfl)) (by kernel_rfl) (by kernel_rfl))
theorem keyThree : Maps.Keyed Try.prog 92 := Maps.Keyed.of_law (deep_law_laid laid (m := 5) (by omega) (of_decide_eq_true (by kernel_rfl)) (by kernel_rfl) (by kernel_rfl))

theorem typesSize : Try.prog.types.size + 1 = (Try.prog.types.size - 1) + 2 := by kernel_rfl
theorem kt1 : Try.prog.keyType 63 = true := by kernel_rfl
theorem kt2 : Try.prog.keyType 92 = true := by kernel_rfl
theorem cellsNode : Try.prog.cellsOf 63 = 3 := by kernel_rfl
theorem cellsKey : Try.prog.cellsOf 92 = 3 := by kernel_rfl
theorem cellsInt : Try.prog.cellsOf 3 = 1 := by kernel_rfl
theorem wf_tiny {x : Nat} (h : tiny x) : (Lit.int .i64 (x : Int)).wf = true := by
  unfold tiny at h
  have h1 : IntKind.i64.min = -9223372036854775808 := by decide
  have h2 : IntKind.i64.max = 9223372036854775807 := by decide
  simp only [Lit.wf, h1, h2, Bool.and_eq_true, decide_eq_true_eq]; omega
theorem lits_int (d : Nat) {x : Nat} (h : tiny x) : Try.prog.keyLits (d + 1) 3 [.int .i64 (x : Int)] = some [.int .i64 x] := by
  simp [Program.keyLits, Try.underlying3, wf_tiny h]
theorem lits_node (d : Nat) (n : Nd) (h : ndOk n) : ∃ l, Try.prog.keyLits (d + 2) 63 (ndC n) = some l := by
  have h1 := lits_int d h.1
  have h2 := lits_int d h.2.1
  have h3 := lits_int d h.2.2
  unfold Program.keyLits
  rw [Try.underlying63]
  simp only [ndC, cellsNode]
  simp [cellsInt, h1, h2, h3]
theorem lits_key (d : Nat) (n : Nd) (h : ndOk n) : ∃ l, Try.prog.keyLits (d + 2) 92 (ndC n) = some l := by
  have h1 := lits_int d h.1
  have h2 := lits_int d h.2.1
  have h3 := lits_int d h.2.2
  unfold Program.keyLits
  rw [Try.underlying92]
  simp only [ndC, cellsKey]
  simp [cellsInt, h1, h2, h3, List.range_succ]
theorem key_node (n : Nd) (h : ndOk n) : ∃ l, keyOf Try.prog 63 (ndV n) = some l := by
  obtain ⟨l, hl⟩ := lits_node (Try.prog.types.size - 1) n h
  refine ⟨.string (keyBytes l), ?_⟩
  have hf : (ndV n).formed Try.prog 63 = true := by simp [ndV, Value.formed, Try.underlying63, cellsNode]
  have hc : (ndV n).cells.toList = ndC n := rfl
  unfold keyOf
  rw [Try.underlying63]
  simp only [kt1, hf, typesSize, hc]
  rw [hl]
  rfl
theorem key_three (n : Nd) (h : ndOk n) : ∃ l, keyOf Try.prog 92 (ndV n) = some l := by
  obtain ⟨l, hl⟩ := lits_key (Try.prog.types.size - 1) n h
  refine ⟨.string (keyBytes l), ?_⟩
  have hf : (ndV n).formed Try.prog 92 = true := by simp [ndV, Value.formed, Try.underlying92, cellsKey]
  have hc : (ndV n).cells.toList = ndC n := rfl
  unfold keyOf
  rw [Try.underlying92]
  simp only [kt2, hf, typesSize, hc]
  rw [hl]
  rfl
theorem ndV_inj (x y : Nd) (h : ndV x = ndV y) : x = y := by
  obtain ⟨a, b, c⟩ := x
  obtain ⟨a', b', c'⟩ := y
  simp only [ndV, Value.agg.injEq, Array.mk.injEq, List.cons.injEq, Value.int.injEq, Int.natCast_inj, true_and, and_true] at h
  obtain ⟨rfl, rfl, rfl⟩ := h
  rfl
theorem encNode : KeyEnc Try.prog 63 ndV ndOk := ⟨keyNode, ndV_inj, key_node⟩
theorem encThree : KeyEnc Try.prog 92 ndV ndOk := ⟨keyThree, ndV_inj, key_three⟩
end Go.Proofs.Ytengdldkkmknpaa
