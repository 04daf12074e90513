/- Package formula: what operand, nodeError and Check do. No condition. -/
import Derived.Test.YtmjdbbfoihadoaaFmC
import Derived.Outline
set_option linter.unusedVariables false
set_option linter.unusedSimpArgs false
namespace Go.Proofs.Ytmjdbbfoihadoaa
open Go.RowKit
open Fm (Nd isOp usesX usesY usesFact usesAgent usesGroup usesEvent zeroed within ranged operandB nodeE nodesE checkE)

section
variable (w : World)
set_option maxRecDepth 100000
set_option maxHeartbeats 2000000
theorem operand_any (u : Bool) (v k : Int) : Calls Try.prog 59 #[.bool u, .int .i64 v, .int .i64 k] w fun e w' => e = .returned (.bool (operandB u v k)) ∧ w' = w := by
  cases u with
  | false =>
    rw [show operandB false v k = (v == 0) by unfold operandB; rw [Bool.eq_iff_iff]; simp]
    generalize hb : (v == 0) = b
    go_enter Try.func59, Try.ntmps59
    go_wp2
    go_ret
    exact ⟨rfl, rfl⟩
  | true =>
    rw [show operandB true v k = (decide (0 ≤ v) && decide (v < k)) by simp [operandB]]
    by_cases h1 : 0 ≤ v
    · by_cases h2 : v < k
      · rw [decide_eq_true h1, decide_eq_true h2]
        go_enter Try.func59, Try.ntmps59
        go_wp2
        go_ret
        exact ⟨rfl, rfl⟩
      · rw [decide_eq_true h1, decide_eq_false h2]
        go_enter Try.func59, Try.ntmps59
        go_wp2
        go_ret
        exact ⟨rfl, rfl⟩
    · rw [decide_eq_false h1]
      go_enter Try.func59, Try.ntmps59
      go_wp2
      go_ret
      exact ⟨rfl, rfl⟩
theorem outside_any (u : Bool) (v a b : Int) : Calls Try.prog 60 #[.bool u, .int .i64 v, .int .i64 a, .int .i64 b] w fun e w' => e = .returned (.bool (!within u v a b)) ∧ w' = w := by
  cases u with
  | false =>
    rw [show within false v a b = true by simp [within]]
    go_enter Try.func60, Try.ntmps60
    go_wp2
    go_ret
    exact ⟨rfl, rfl⟩
  | true =>
    rw [show within true v a b = (decide (a ≤ v) && decide (v ≤ b)) by simp [within]]
    by_cases h1 : v < a
    · rw [decide_eq_false (by omega)]
      go_enter Try.func60, Try.ntmps60
      go_wp2
      go_ret
      exact ⟨rfl, rfl⟩
    · by_cases h2 : b < v
      · rw [decide_eq_true (by omega), decide_eq_false (by omega)]
        go_enter Try.func60, Try.ntmps60
        go_wp2
        go_ret
        exact ⟨rfl, rfl⟩
      · rw [decide_eq_true (by omega), decide_eq_true (by omega)]
        go_enter Try.func60, Try.ntmps60
        go_wp2
        go_ret
        exact ⟨rfl, rfl⟩
/- NODEERROR -/
/-- What an operator's use is. -/
def Cls (op : Int) (uf ua ug ue : Bool) : Prop := isOp op = true ∧ usesFact op = uf ∧ usesAgent op = ua ∧ usesGroup op = ug ∧ usesEvent op = ue
theorem cls_of (op : Int) : isOp op = false ∨ Cls op true false false false ∨ Cls op false true false false ∨ Cls op false false true false ∨ Cls op false false false true ∨ Cls op false false false false := by
  unfold Cls isOp usesFact usesAgent usesGroup usesEvent
  have h : op < 1 ∨ 21 < op ∨ op = 1 ∨ op = 2 ∨ op = 3 ∨ op = 4 ∨ op = 5 ∨ op = 6 ∨ op = 7 ∨ op = 8 ∨ op = 9 ∨ op = 10 ∨ op = 11 ∨ op = 12 ∨ op = 13 ∨ op = 14 ∨ op = 15 ∨ op = 16 ∨ op = 17 ∨ op = 18 ∨ op = 19 ∨ op = 20 ∨ op = 21 := by omega
  rcases h with h | h | rfl | rfl | rfl | rfl | rfl | rfl | rfl | rfl | rfl | rfl | rfl | rfl | rfl | rfl | rfl | rfl | rfl | rfl | rfl | rfl | rfl
  · left; simp; omega
  · left; simp; omega
  all_goals (right; decide)
theorem operand_is {u : Bool} {v k : Int} {b : Bool} (h : operandB u v k = b) : Calls Try.prog 59 #[.bool u, .int .i64 v, .int .i64 k] w fun e w' => e = .returned (.bool b) ∧ w' = w := h ▸ operand_any w u v k
theorem outside_no (v a b : Int) : Calls Try.prog 60 #[.bool false, .int .i64 v, .int .i64 a, .int .i64 b] w fun e w' => e = .returned (.bool false) ∧ w' = w := outside_any w false v a b
theorem outside_is {v a b : Int} {r : Bool} (h : within true v a b = r) : Calls Try.prog 60 #[.bool true, .int .i64 v, .int .i64 a, .int .i64 b] w fun e w' => e = .returned (.bool (!r)) ∧ w' = w := h ▸ outside_any w true v a b
theorem ne_op (op i e g x y k : Int) (ux uy uf ua ug ue : Bool) (fr : Int) (HU : Hid (∀ w, Calls Try.prog 38 #[.int .i64 op] w fun e w' => e = .returned (.tuple #[.agg #[.bool ux, .bool uy, .bool uf, .bool ua, .bool ug, .bool ue, .int .i64 fr], .bool false]) ∧ Keep NoF w w')) : Calls Try.prog 39 #[.agg #[.int .i64 op, .int .i64 i, .int .i64 e, .int .i64 g, .int .i64 x, .int .i64 y], .int .i64 k] w fun e w' => e = .returned (.int .i64 10) ∧ Keep NoF w w' := by
  have Bn := Bk.new w 53 #[.int .i64 op, .int .i64 i, .int .i64 e, .int .i64 g, .int .i64 x, .int .i64 y]
  have Kn : Keep NoF w (w.alloc (.cells #[.int .i64 op, .int .i64 i, .int .i64 e, .int .i64 g, .int .i64 x, .int .i64 y] 53)) := (Keep.refl _ _).alloc _
  go_enter Try.func39, Try.ntmps39
  go_wp2_with (first
               | (go_at_call 38; (with_reducible refine (HU.out _).mono ?_); rintro e w2 ⟨rfl, K2⟩
                  have Bn2 := Bn.keep K2 fun h => h
                  have ln2 := Bn2.lt
                  have n0 := Bn2.cell 0
                  have n1 := Bn2.cell 1
                  have n2 := Bn2.cell 2
                  have n3 := Bn2.cell 3
                  have n4 := Bn2.cell 4
                  have n5 := Bn2.cell 5))
  go_ret
  exact ⟨rfl, (Kn.trans K2 fun _ _ h => h).alloc _⟩
theorem ne_x (op i e g x y k : Int) (ux uy uf ua ug ue : Bool) (fr : Int) (HU : Hid (∀ w, Calls Try.prog 38 #[.int .i64 op] w fun e w' => e = .returned (.tuple #[.agg #[.bool ux, .bool uy, .bool uf, .bool ua, .bool ug, .bool ue, .int .i64 fr], .bool true]) ∧ Keep NoF w w')) (hx : operandB ux x k = false) : Calls Try.prog 39 #[.agg #[.int .i64 op, .int .i64 i, .int .i64 e, .int .i64 g, .int .i64 x, .int .i64 y], .int .i64 k] w fun e w' => e = .returned (.int .i64 3) ∧ Keep NoF w w' := by
  have Bn := Bk.new w 53 #[.int .i64 op, .int .i64 i, .int .i64 e, .int .i64 g, .int .i64 x, .int .i64 y]
  have Kn : Keep NoF w (w.alloc (.cells #[.int .i64 op, .int .i64 i, .int .i64 e, .int .i64 g, .int .i64 x, .int .i64 y] 53)) := (Keep.refl _ _).alloc _
  go_enter Try.func39, Try.ntmps39
  go_wp2_with (first
               | (go_at_call 38; (with_reducible refine (HU.out _).mono ?_); rintro e w2 ⟨rfl, K2⟩
                  have Bn2 := Bn.keep K2 fun h => h
                  have ln2 := Bn2.lt
                  have n0 := Bn2.cell 0
                  have n1 := Bn2.cell 1
                  have n2 := Bn2.cell 2
                  have n3 := Bn2.cell 3
                  have n4 := Bn2.cell 4
                  have n5 := Bn2.cell 5)
               | (go_at_call 59; (with_reducible refine (operand_is _ hx).mono ?_); rintro e w' ⟨rfl, hw'⟩; obtain rfl := hw'.symm)
               | (go_at_call 60; (with_reducible refine (outside_no _ _ _ _).mono ?_); rintro e w' ⟨rfl, hw'⟩; obtain rfl := hw'.symm))
  go_ret
  exact ⟨rfl, (Kn.trans K2 fun _ _ h => h).alloc _⟩
theorem ne_y (op i e g x y k : Int) (ux uy uf ua ug ue : Bool) (fr : Int) (HU : Hid (∀ w, Calls Try.prog 38 #[.int .i64 op] w fun e w' => e = .returned (.tuple #[.agg #[.bool ux, .bool uy, .bool uf, .bool ua, .bool ug, .bool ue, .int .i64 fr], .bool true]) ∧ Keep NoF w w')) (hx : operandB ux x k = true) (hy : operandB uy y k = false) : Calls Try.prog 39 #[.agg #[.int .i64 op, .int .i64 i, .int .i64 e, .int .i64 g, .int .i64 x, .int .i64 y], .int .i64 k] w fun e w' => e = .returned (.int .i64 3) ∧ Keep NoF w w' := by
  have Bn := Bk.new w 53 #[.int .i64 op, .int .i64 i, .int .i64 e, .int .i64 g, .int .i64 x, .int .i64 y]
  have Kn : Keep NoF w (w.alloc (.cells #[.int .i64 op, .int .i64 i, .int .i64 e, .int .i64 g, .int .i64 x, .int .i64 y] 53)) := (Keep.refl _ _).alloc _
  go_enter Try.func39, Try.ntmps39
  go_wp2_with (first
               | (go_at_call 38; (with_reducible refine (HU.out _).mono ?_); rintro e w2 ⟨rfl, K2⟩
                  have Bn2 := Bn.keep K2 fun h => h
                  have ln2 := Bn2.lt
                  have n0 := Bn2.cell 0
                  have n1 := Bn2.cell 1
                  have n2 := Bn2.cell 2
                  have n3 := Bn2.cell 3
                  have n4 := Bn2.cell 4
                  have n5 := Bn2.cell 5)
               | (go_at_call 59; (with_reducible refine (operand_is _ hx).mono ?_); rintro e w' ⟨rfl, hw'⟩; obtain rfl := hw'.symm)
               | (go_at_call 59; (with_reducible refine (operand_is _ hy).mono ?_); rintro e w' ⟨rfl, hw'⟩; obtain rfl := hw'.symm)
               | (go_at_call 60; (with_reducible refine (outside_no _ _ _ _).mono ?_); rintro e w' ⟨rfl, hw'⟩; obtain rfl := hw'.symm))
  go_ret
  exact ⟨rfl, (Kn.trans K2 fun _ _ h => h).alloc _⟩
theorem ne_fact_e (op i e g x y k : Int) (ux uy : Bool) (fr : Int) (HU : Hid (∀ w, Calls Try.prog 38 #[.int .i64 op] w fun e w' => e = .returned (.tuple #[.agg #[.bool ux, .bool uy, .bool true, .bool false, .bool false, .bool false, .int .i64 fr], .bool true]) ∧ Keep NoF w w')) (hx : operandB ux x k = true) (hy : operandB uy y k = true) (hze : (e != 0) = true) : Calls Try.prog 39 #[.agg #[.int .i64 op, .int .i64 i, .int .i64 e, .int .i64 g, .int .i64 x, .int .i64 y], .int .i64 k] w fun e w' => e = .returned (.int .i64 3) ∧ Keep NoF w w' := by
  have Bn := Bk.new w 53 #[.int .i64 op, .int .i64 i, .int .i64 e, .int .i64 g, .int .i64 x, .int .i64 y]
  have Kn : Keep NoF w (w.alloc (.cells #[.int .i64 op, .int .i64 i, .int .i64 e, .int .i64 g, .int .i64 x, .int .i64 y] 53)) := (Keep.refl _ _).alloc _
  go_enter Try.func39, Try.ntmps39
  go_wp2_with (first
               | (go_at_call 38; (with_reducible refine (HU.out _).mono ?_); rintro e w2 ⟨rfl, K2⟩
                  have Bn2 := Bn.keep K2 fun h => h
                  have ln2 := Bn2.lt
                  have n0 := Bn2.cell 0
                  have n1 := Bn2.cell 1
                  have n2 := Bn2.cell 2
                  have n3 := Bn2.cell 3
                  have n4 := Bn2.cell 4
                  have n5 := Bn2.cell 5)
               | (go_at_call 59; (with_reducible refine (operand_is _ hx).mono ?_); rintro e w' ⟨rfl, hw'⟩; obtain rfl := hw'.symm)
               | (go_at_call 59; (with_reducible refine (operand_is _ hy).mono ?_); rintro e w' ⟨rfl, hw'⟩; obtain rfl := hw'.symm)
               | (go_at_call 60; (with_reducible refine (outside_no _ _ _ _).mono ?_); rintro e w' ⟨rfl, hw'⟩; obtain rfl := hw'.symm))
  go_ret
  exact ⟨rfl, (Kn.trans K2 fun _ _ h => h).alloc _⟩
theorem ne_fact_g (op i e g x y k : Int) (ux uy : Bool) (fr : Int) (HU : Hid (∀ w, Calls Try.prog 38 #[.int .i64 op] w fun e w' => e = .returned (.tuple #[.agg #[.bool ux, .bool uy, .bool true, .bool false, .bool false, .bool false, .int .i64 fr], .bool true]) ∧ Keep NoF w w')) (hx : operandB ux x k = true) (hy : operandB uy y k = true) (hze : (e != 0) = false) (hzg : (g != 0) = true) : Calls Try.prog 39 #[.agg #[.int .i64 op, .int .i64 i, .int .i64 e, .int .i64 g, .int .i64 x, .int .i64 y], .int .i64 k] w fun e w' => e = .returned (.int .i64 3) ∧ Keep NoF w w' := by
  have Bn := Bk.new w 53 #[.int .i64 op, .int .i64 i, .int .i64 e, .int .i64 g, .int .i64 x, .int .i64 y]
  have Kn : Keep NoF w (w.alloc (.cells #[.int .i64 op, .int .i64 i, .int .i64 e, .int .i64 g, .int .i64 x, .int .i64 y] 53)) := (Keep.refl _ _).alloc _
  go_enter Try.func39, Try.ntmps39
  go_wp2_with (first
               | (go_at_call 38; (with_reducible refine (HU.out _).mono ?_); rintro e w2 ⟨rfl, K2⟩
                  have Bn2 := Bn.keep K2 fun h => h
                  have ln2 := Bn2.lt
                  have n0 := Bn2.cell 0
                  have n1 := Bn2.cell 1
                  have n2 := Bn2.cell 2
                  have n3 := Bn2.cell 3
                  have n4 := Bn2.cell 4
                  have n5 := Bn2.cell 5)
               | (go_at_call 59; (with_reducible refine (operand_is _ hx).mono ?_); rintro e w' ⟨rfl, hw'⟩; obtain rfl := hw'.symm)
               | (go_at_call 59; (with_reducible refine (operand_is _ hy).mono ?_); rintro e w' ⟨rfl, hw'⟩; obtain rfl := hw'.symm)
               | (go_at_call 60; (with_reducible refine (outside_no _ _ _ _).mono ?_); rintro e w' ⟨rfl, hw'⟩; obtain rfl := hw'.symm))
  go_ret
  exact ⟨rfl, (Kn.trans K2 fun _ _ h => h).alloc _⟩
theorem ne_fact_r0 (op i e g x y k : Int) (ux uy : Bool) (fr : Int) (HU : Hid (∀ w, Calls Try.prog 38 #[.int .i64 op] w fun e w' => e = .returned (.tuple #[.agg #[.bool ux, .bool uy, .bool true, .bool false, .bool false, .bool false, .int .i64 fr], .bool true]) ∧ Keep NoF w w')) (hx : operandB ux x k = true) (hy : operandB uy y k = true) (hze : (e != 0) = false) (hzg : (g != 0) = false) (hw0 : within true i 0 7 = false) : Calls Try.prog 39 #[.agg #[.int .i64 op, .int .i64 i, .int .i64 e, .int .i64 g, .int .i64 x, .int .i64 y], .int .i64 k] w fun e w' => e = .returned (.int .i64 2) ∧ Keep NoF w w' := by
  have Bn := Bk.new w 53 #[.int .i64 op, .int .i64 i, .int .i64 e, .int .i64 g, .int .i64 x, .int .i64 y]
  have Kn : Keep NoF w (w.alloc (.cells #[.int .i64 op, .int .i64 i, .int .i64 e, .int .i64 g, .int .i64 x, .int .i64 y] 53)) := (Keep.refl _ _).alloc _
  go_enter Try.func39, Try.ntmps39
  go_wp2_with (first
               | (go_at_call 38; (with_reducible refine (HU.out _).mono ?_); rintro e w2 ⟨rfl, K2⟩
                  have Bn2 := Bn.keep K2 fun h => h
                  have ln2 := Bn2.lt
                  have n0 := Bn2.cell 0
                  have n1 := Bn2.cell 1
                  have n2 := Bn2.cell 2
                  have n3 := Bn2.cell 3
                  have n4 := Bn2.cell 4
                  have n5 := Bn2.cell 5)
               | (go_at_call 59; (with_reducible refine (operand_is _ hx).mono ?_); rintro e w' ⟨rfl, hw'⟩; obtain rfl := hw'.symm)
               | (go_at_call 59; (with_reducible refine (operand_is _ hy).mono ?_); rintro e w' ⟨rfl, hw'⟩; obtain rfl := hw'.symm)
               | (go_at_call 60; (with_reducible refine (outside_is _ hw0).mono ?_); rintro e w' ⟨rfl, hw'⟩; obtain rfl := hw'.symm)
               | (go_at_call 60; (with_reducible refine (outside_no _ _ _ _).mono ?_); rintro e w' ⟨rfl, hw'⟩; obtain rfl := hw'.symm))
  go_ret
  exact ⟨rfl, (Kn.trans K2 fun _ _ h => h).alloc _⟩
theorem ne_fact_ok (op i e g x y k : Int) (ux uy : Bool) (fr : Int) (HU : Hid (∀ w, Calls Try.prog 38 #[.int .i64 op] w fun e w' => e = .returned (.tuple #[.agg #[.bool ux, .bool uy, .bool true, .bool false, .bool false, .bool false, .int .i64 fr], .bool true]) ∧ Keep NoF w w')) (hx : operandB ux x k = true) (hy : operandB uy y k = true) (hze : (e != 0) = false) (hzg : (g != 0) = false) (hw0 : within true i 0 7 = true) : Calls Try.prog 39 #[.agg #[.int .i64 op, .int .i64 i, .int .i64 e, .int .i64 g, .int .i64 x, .int .i64 y], .int .i64 k] w fun e w' => e = .returned (.int .i64 0) ∧ Keep NoF w w' := by
  have Bn := Bk.new w 53 #[.int .i64 op, .int .i64 i, .int .i64 e, .int .i64 g, .int .i64 x, .int .i64 y]
  have Kn : Keep NoF w (w.alloc (.cells #[.int .i64 op, .int .i64 i, .int .i64 e, .int .i64 g, .int .i64 x, .int .i64 y] 53)) := (Keep.refl _ _).alloc _
  go_enter Try.func39, Try.ntmps39
  go_wp2_with (first
               | (go_at_call 38; (with_reducible refine (HU.out _).mono ?_); rintro e w2 ⟨rfl, K2⟩
                  have Bn2 := Bn.keep K2 fun h => h
                  have ln2 := Bn2.lt
                  have n0 := Bn2.cell 0
                  have n1 := Bn2.cell 1
                  have n2 := Bn2.cell 2
                  have n3 := Bn2.cell 3
                  have n4 := Bn2.cell 4
                  have n5 := Bn2.cell 5)
               | (go_at_call 59; (with_reducible refine (operand_is _ hx).mono ?_); rintro e w' ⟨rfl, hw'⟩; obtain rfl := hw'.symm)
               | (go_at_call 59; (with_reducible refine (operand_is _ hy).mono ?_); rintro e w' ⟨rfl, hw'⟩; obtain rfl := hw'.symm)
               | (go_at_call 60; (with_reducible refine (outside_is _ hw0).mono ?_); rintro e w' ⟨rfl, hw'⟩; obtain rfl := hw'.symm)
               | (go_at_call 60; (with_reducible refine (outside_no _ _ _ _).mono ?_); rintro e w' ⟨rfl, hw'⟩; obtain rfl := hw'.symm))
  go_ret
  exact ⟨rfl, (Kn.trans K2 fun _ _ h => h).alloc _⟩
theorem ne_agent_e (op i e g x y k : Int) (ux uy : Bool) (fr : Int) (HU : Hid (∀ w, Calls Try.prog 38 #[.int .i64 op] w fun e w' => e = .returned (.tuple #[.agg #[.bool ux, .bool uy, .bool false, .bool true, .bool false, .bool false, .int .i64 fr], .bool true]) ∧ Keep NoF w w')) (hx : operandB ux x k = true) (hy : operandB uy y k = true) (hze : (e != 0) = true) : Calls Try.prog 39 #[.agg #[.int .i64 op, .int .i64 i, .int .i64 e, .int .i64 g, .int .i64 x, .int .i64 y], .int .i64 k] w fun e w' => e = .returned (.int .i64 3) ∧ Keep NoF w w' := by
  have Bn := Bk.new w 53 #[.int .i64 op, .int .i64 i, .int .i64 e, .int .i64 g, .int .i64 x, .int .i64 y]
  have Kn : Keep NoF w (w.alloc (.cells #[.int .i64 op, .int .i64 i, .int .i64 e, .int .i64 g, .int .i64 x, .int .i64 y] 53)) := (Keep.refl _ _).alloc _
  go_enter Try.func39, Try.ntmps39
  go_wp2_with (first
               | (go_at_call 38; (with_reducible refine (HU.out _).mono ?_); rintro e w2 ⟨rfl, K2⟩
                  have Bn2 := Bn.keep K2 fun h => h
                  have ln2 := Bn2.lt
                  have n0 := Bn2.cell 0
                  have n1 := Bn2.cell 1
                  have n2 := Bn2.cell 2
                  have n3 := Bn2.cell 3
                  have n4 := Bn2.cell 4
                  have n5 := Bn2.cell 5)
               | (go_at_call 59; (with_reducible refine (operand_is _ hx).mono ?_); rintro e w' ⟨rfl, hw'⟩; obtain rfl := hw'.symm)
               | (go_at_call 59; (with_reducible refine (operand_is _ hy).mono ?_); rintro e w' ⟨rfl, hw'⟩; obtain rfl := hw'.symm)
               | (go_at_call 60; (with_reducible refine (outside_no _ _ _ _).mono ?_); rintro e w' ⟨rfl, hw'⟩; obtain rfl := hw'.symm))
  go_ret
  exact ⟨rfl, (Kn.trans K2 fun _ _ h => h).alloc _⟩
theorem ne_agent_g (op i e g x y k : Int) (ux uy : Bool) (fr : Int) (HU : Hid (∀ w, Calls Try.prog 38 #[.int .i64 op] w fun e w' => e = .returned (.tuple #[.agg #[.bool ux, .bool uy, .bool false, .bool true, .bool false, .bool false, .int .i64 fr], .bool true]) ∧ Keep NoF w w')) (hx : operandB ux x k = true) (hy : operandB uy y k = true) (hze : (e != 0) = false) (hzg : (g != 0) = true) : Calls Try.prog 39 #[.agg #[.int .i64 op, .int .i64 i, .int .i64 e, .int .i64 g, .int .i64 x, .int .i64 y], .int .i64 k] w fun e w' => e = .returned (.int .i64 3) ∧ Keep NoF w w' := by
  have Bn := Bk.new w 53 #[.int .i64 op, .int .i64 i, .int .i64 e, .int .i64 g, .int .i64 x, .int .i64 y]
  have Kn : Keep NoF w (w.alloc (.cells #[.int .i64 op, .int .i64 i, .int .i64 e, .int .i64 g, .int .i64 x, .int .i64 y] 53)) := (Keep.refl _ _).alloc _
  go_enter Try.func39, Try.ntmps39
  go_wp2_with (first
               | (go_at_call 38; (with_reducible refine (HU.out _).mono ?_); rintro e w2 ⟨rfl, K2⟩
                  have Bn2 := Bn.keep K2 fun h => h
                  have ln2 := Bn2.lt
                  have n0 := Bn2.cell 0
                  have n1 := Bn2.cell 1
                  have n2 := Bn2.cell 2
                  have n3 := Bn2.cell 3
                  have n4 := Bn2.cell 4
                  have n5 := Bn2.cell 5)
               | (go_at_call 59; (with_reducible refine (operand_is _ hx).mono ?_); rintro e w' ⟨rfl, hw'⟩; obtain rfl := hw'.symm)
               | (go_at_call 59; (with_reducible refine (operand_is _ hy).mono ?_); rintro e w' ⟨rfl, hw'⟩; obtain rfl := hw'.symm)
               | (go_at_call 60; (with_reducible refine (outside_no _ _ _ _).mono ?_); rintro e w' ⟨rfl, hw'⟩; obtain rfl := hw'.symm))
  go_ret
  exact ⟨rfl, (Kn.trans K2 fun _ _ h => h).alloc _⟩
theorem ne_agent_r0 (op i e g x y k : Int) (ux uy : Bool) (fr : Int) (HU : Hid (∀ w, Calls Try.prog 38 #[.int .i64 op] w fun e w' => e = .returned (.tuple #[.agg #[.bool ux, .bool uy, .bool false, .bool true, .bool false, .bool false, .int .i64 fr], .bool true]) ∧ Keep NoF w w')) (hx : operandB ux x k = true) (hy : operandB uy y k = true) (hze : (e != 0) = false) (hzg : (g != 0) = false) (hw0 : within true i 0 3 = false) : Calls Try.prog 39 #[.agg #[.int .i64 op, .int .i64 i, .int .i64 e, .int .i64 g, .int .i64 x, .int .i64 y], .int .i64 k] w fun e w' => e = .returned (.int .i64 2) ∧ Keep NoF w w' := by
  have Bn := Bk.new w 53 #[.int .i64 op, .int .i64 i, .int .i64 e, .int .i64 g, .int .i64 x, .int .i64 y]
  have Kn : Keep NoF w (w.alloc (.cells #[.int .i64 op, .int .i64 i, .int .i64 e, .int .i64 g, .int .i64 x, .int .i64 y] 53)) := (Keep.refl _ _).alloc _
  go_enter Try.func39, Try.ntmps39
  go_wp2_with (first
               | (go_at_call 38; (with_reducible refine (HU.out _).mono ?_); rintro e w2 ⟨rfl, K2⟩
                  have Bn2 := Bn.keep K2 fun h => h
                  have ln2 := Bn2.lt
                  have n0 := Bn2.cell 0
                  have n1 := Bn2.cell 1
                  have n2 := Bn2.cell 2
                  have n3 := Bn2.cell 3
                  have n4 := Bn2.cell 4
                  have n5 := Bn2.cell 5)
               | (go_at_call 59; (with_reducible refine (operand_is _ hx).mono ?_); rintro e w' ⟨rfl, hw'⟩; obtain rfl := hw'.symm)
               | (go_at_call 59; (with_reducible refine (operand_is _ hy).mono ?_); rintro e w' ⟨rfl, hw'⟩; obtain rfl := hw'.symm)
               | (go_at_call 60; (with_reducible refine (outside_is _ hw0).mono ?_); rintro e w' ⟨rfl, hw'⟩; obtain rfl := hw'.symm)
               | (go_at_call 60; (with_reducible refine (outside_no _ _ _ _).mono ?_); rintro e w' ⟨rfl, hw'⟩; obtain rfl := hw'.symm))
  go_ret
  exact ⟨rfl, (Kn.trans K2 fun _ _ h => h).alloc _⟩
theorem ne_agent_ok (op i e g x y k : Int) (ux uy : Bool) (fr : Int) (HU : Hid (∀ w, Calls Try.prog 38 #[.int .i64 op] w fun e w' => e = .returned (.tuple #[.agg #[.bool ux, .bool uy, .bool false, .bool true, .bool false, .bool false, .int .i64 fr], .bool true]) ∧ Keep NoF w w')) (hx : operandB ux x k = true) (hy : operandB uy y k = true) (hze : (e != 0) = false) (hzg : (g != 0) = false) (hw0 : within true i 0 3 = true) : Calls Try.prog 39 #[.agg #[.int .i64 op, .int .i64 i, .int .i64 e, .int .i64 g, .int .i64 x, .int .i64 y], .int .i64 k] w fun e w' => e = .returned (.int .i64 0) ∧ Keep NoF w w' := by
  have Bn := Bk.new w 53 #[.int .i64 op, .int .i64 i, .int .i64 e, .int .i64 g, .int .i64 x, .int .i64 y]
  have Kn : Keep NoF w (w.alloc (.cells #[.int .i64 op, .int .i64 i, .int .i64 e, .int .i64 g, .int .i64 x, .int .i64 y] 53)) := (Keep.refl _ _).alloc _
  go_enter Try.func39, Try.ntmps39
  go_wp2_with (first
               | (go_at_call 38; (with_reducible refine (HU.out _).mono ?_); rintro e w2 ⟨rfl, K2⟩
                  have Bn2 := Bn.keep K2 fun h => h
                  have ln2 := Bn2.lt
                  have n0 := Bn2.cell 0
                  have n1 := Bn2.cell 1
                  have n2 := Bn2.cell 2
                  have n3 := Bn2.cell 3
                  have n4 := Bn2.cell 4
                  have n5 := Bn2.cell 5)
               | (go_at_call 59; (with_reducible refine (operand_is _ hx).mono ?_); rintro e w' ⟨rfl, hw'⟩; obtain rfl := hw'.symm)
               | (go_at_call 59; (with_reducible refine (operand_is _ hy).mono ?_); rintro e w' ⟨rfl, hw'⟩; obtain rfl := hw'.symm)
               | (go_at_call 60; (with_reducible refine (outside_is _ hw0).mono ?_); rintro e w' ⟨rfl, hw'⟩; obtain rfl := hw'.symm)
               | (go_at_call 60; (with_reducible refine (outside_no _ _ _ _).mono ?_); rintro e w' ⟨rfl, hw'⟩; obtain rfl := hw'.symm))
  go_ret
  exact ⟨rfl, (Kn.trans K2 fun _ _ h => h).alloc _⟩
theorem ne_group_i (op i e g x y k : Int) (ux uy : Bool) (fr : Int) (HU : Hid (∀ w, Calls Try.prog 38 #[.int .i64 op] w fun e w' => e = .returned (.tuple #[.agg #[.bool ux, .bool uy, .bool false, .bool false, .bool true, .bool false, .int .i64 fr], .bool true]) ∧ Keep NoF w w')) (hx : operandB ux x k = true) (hy : operandB uy y k = true) (hzi : (i != 0) = true) : Calls Try.prog 39 #[.agg #[.int .i64 op, .int .i64 i, .int .i64 e, .int .i64 g, .int .i64 x, .int .i64 y], .int .i64 k] w fun e w' => e = .returned (.int .i64 3) ∧ Keep NoF w w' := by
  have Bn := Bk.new w 53 #[.int .i64 op, .int .i64 i, .int .i64 e, .int .i64 g, .int .i64 x, .int .i64 y]
  have Kn : Keep NoF w (w.alloc (.cells #[.int .i64 op, .int .i64 i, .int .i64 e, .int .i64 g, .int .i64 x, .int .i64 y] 53)) := (Keep.refl _ _).alloc _
  go_enter Try.func39, Try.ntmps39
  go_wp2_with (first
               | (go_at_call 38; (with_reducible refine (HU.out _).mono ?_); rintro e w2 ⟨rfl, K2⟩
                  have Bn2 := Bn.keep K2 fun h => h
                  have ln2 := Bn2.lt
                  have n0 := Bn2.cell 0
                  have n1 := Bn2.cell 1
                  have n2 := Bn2.cell 2
                  have n3 := Bn2.cell 3
                  have n4 := Bn2.cell 4
                  have n5 := Bn2.cell 5)
               | (go_at_call 59; (with_reducible refine (operand_is _ hx).mono ?_); rintro e w' ⟨rfl, hw'⟩; obtain rfl := hw'.symm)
               | (go_at_call 59; (with_reducible refine (operand_is _ hy).mono ?_); rintro e w' ⟨rfl, hw'⟩; obtain rfl := hw'.symm)
               | (go_at_call 60; (with_reducible refine (outside_no _ _ _ _).mono ?_); rintro e w' ⟨rfl, hw'⟩; obtain rfl := hw'.symm))
  go_ret
  exact ⟨rfl, (Kn.trans K2 fun _ _ h => h).alloc _⟩
theorem ne_group_e (op i e g x y k : Int) (ux uy : Bool) (fr : Int) (HU : Hid (∀ w, Calls Try.prog 38 #[.int .i64 op] w fun e w' => e = .returned (.tuple #[.agg #[.bool ux, .bool uy, .bool false, .bool false, .bool true, .bool false, .int .i64 fr], .bool true]) ∧ Keep NoF w w')) (hx : operandB ux x k = true) (hy : operandB uy y k = true) (hzi : (i != 0) = false) (hze : (e != 0) = true) : Calls Try.prog 39 #[.agg #[.int .i64 op, .int .i64 i, .int .i64 e, .int .i64 g, .int .i64 x, .int .i64 y], .int .i64 k] w fun e w' => e = .returned (.int .i64 3) ∧ Keep NoF w w' := by
  have Bn := Bk.new w 53 #[.int .i64 op, .int .i64 i, .int .i64 e, .int .i64 g, .int .i64 x, .int .i64 y]
  have Kn : Keep NoF w (w.alloc (.cells #[.int .i64 op, .int .i64 i, .int .i64 e, .int .i64 g, .int .i64 x, .int .i64 y] 53)) := (Keep.refl _ _).alloc _
  go_enter Try.func39, Try.ntmps39
  go_wp2_with (first
               | (go_at_call 38; (with_reducible refine (HU.out _).mono ?_); rintro e w2 ⟨rfl, K2⟩
                  have Bn2 := Bn.keep K2 fun h => h
                  have ln2 := Bn2.lt
                  have n0 := Bn2.cell 0
                  have n1 := Bn2.cell 1
                  have n2 := Bn2.cell 2
                  have n3 := Bn2.cell 3
                  have n4 := Bn2.cell 4
                  have n5 := Bn2.cell 5)
               | (go_at_call 59; (with_reducible refine (operand_is _ hx).mono ?_); rintro e w' ⟨rfl, hw'⟩; obtain rfl := hw'.symm)
               | (go_at_call 59; (with_reducible refine (operand_is _ hy).mono ?_); rintro e w' ⟨rfl, hw'⟩; obtain rfl := hw'.symm)
               | (go_at_call 60; (with_reducible refine (outside_no _ _ _ _).mono ?_); rintro e w' ⟨rfl, hw'⟩; obtain rfl := hw'.symm))
  go_ret
  exact ⟨rfl, (Kn.trans K2 fun _ _ h => h).alloc _⟩
theorem ne_group_r0 (op i e g x y k : Int) (ux uy : Bool) (fr : Int) (HU : Hid (∀ w, Calls Try.prog 38 #[.int .i64 op] w fun e w' => e = .returned (.tuple #[.agg #[.bool ux, .bool uy, .bool false, .bool false, .bool true, .bool false, .int .i64 fr], .bool true]) ∧ Keep NoF w w')) (hx : operandB ux x k = true) (hy : operandB uy y k = true) (hzi : (i != 0) = false) (hze : (e != 0) = false) (hw0 : within true g 1 15 = false) : Calls Try.prog 39 #[.agg #[.int .i64 op, .int .i64 i, .int .i64 e, .int .i64 g, .int .i64 x, .int .i64 y], .int .i64 k] w fun e w' => e = .returned (.int .i64 2) ∧ Keep NoF w w' := by
  have Bn := Bk.new w 53 #[.int .i64 op, .int .i64 i, .int .i64 e, .int .i64 g, .int .i64 x, .int .i64 y]
  have Kn : Keep NoF w (w.alloc (.cells #[.int .i64 op, .int .i64 i, .int .i64 e, .int .i64 g, .int .i64 x, .int .i64 y] 53)) := (Keep.refl _ _).alloc _
  go_enter Try.func39, Try.ntmps39
  go_wp2_with (first
               | (go_at_call 38; (with_reducible refine (HU.out _).mono ?_); rintro e w2 ⟨rfl, K2⟩
                  have Bn2 := Bn.keep K2 fun h => h
                  have ln2 := Bn2.lt
                  have n0 := Bn2.cell 0
                  have n1 := Bn2.cell 1
                  have n2 := Bn2.cell 2
                  have n3 := Bn2.cell 3
                  have n4 := Bn2.cell 4
                  have n5 := Bn2.cell 5)
               | (go_at_call 59; (with_reducible refine (operand_is _ hx).mono ?_); rintro e w' ⟨rfl, hw'⟩; obtain rfl := hw'.symm)
               | (go_at_call 59; (with_reducible refine (operand_is _ hy).mono ?_); rintro e w' ⟨rfl, hw'⟩; obtain rfl := hw'.symm)
               | (go_at_call 60; (with_reducible refine (outside_is _ hw0).mono ?_); rintro e w' ⟨rfl, hw'⟩; obtain rfl := hw'.symm)
               | (go_at_call 60; (with_reducible refine (outside_no _ _ _ _).mono ?_); rintro e w' ⟨rfl, hw'⟩; obtain rfl := hw'.symm))
  go_ret
  exact ⟨rfl, (Kn.trans K2 fun _ _ h => h).alloc _⟩
theorem ne_group_ok (op i e g x y k : Int) (ux uy : Bool) (fr : Int) (HU : Hid (∀ w, Calls Try.prog 38 #[.int .i64 op] w fun e w' => e = .returned (.tuple #[.agg #[.bool ux, .bool uy, .bool false, .bool false, .bool true, .bool false, .int .i64 fr], .bool true]) ∧ Keep NoF w w')) (hx : operandB ux x k = true) (hy : operandB uy y k = true) (hzi : (i != 0) = false) (hze : (e != 0) = false) (hw0 : within true g 1 15 = true) : Calls Try.prog 39 #[.agg #[.int .i64 op, .int .i64 i, .int .i64 e, .int .i64 g, .int .i64 x, .int .i64 y], .int .i64 k] w fun e w' => e = .returned (.int .i64 0) ∧ Keep NoF w w' := by
  have Bn := Bk.new w 53 #[.int .i64 op, .int .i64 i, .int .i64 e, .int .i64 g, .int .i64 x, .int .i64 y]
  have Kn : Keep NoF w (w.alloc (.cells #[.int .i64 op, .int .i64 i, .int .i64 e, .int .i64 g, .int .i64 x, .int .i64 y] 53)) := (Keep.refl _ _).alloc _
  go_enter Try.func39, Try.ntmps39
  go_wp2_with (first
               | (go_at_call 38; (with_reducible refine (HU.out _).mono ?_); rintro e w2 ⟨rfl, K2⟩
                  have Bn2 := Bn.keep K2 fun h => h
                  have ln2 := Bn2.lt
                  have n0 := Bn2.cell 0
                  have n1 := Bn2.cell 1
                  have n2 := Bn2.cell 2
                  have n3 := Bn2.cell 3
                  have n4 := Bn2.cell 4
                  have n5 := Bn2.cell 5)
               | (go_at_call 59; (with_reducible refine (operand_is _ hx).mono ?_); rintro e w' ⟨rfl, hw'⟩; obtain rfl := hw'.symm)
               | (go_at_call 59; (with_reducible refine (operand_is _ hy).mono ?_); rintro e w' ⟨rfl, hw'⟩; obtain rfl := hw'.symm)
               | (go_at_call 60; (with_reducible refine (outside_is _ hw0).mono ?_); rintro e w' ⟨rfl, hw'⟩; obtain rfl := hw'.symm)
               | (go_at_call 60; (with_reducible refine (outside_no _ _ _ _).mono ?_); rintro e w' ⟨rfl, hw'⟩; obtain rfl := hw'.symm))
  go_ret
  exact ⟨rfl, (Kn.trans K2 fun _ _ h => h).alloc _⟩
theorem ne_event_g (op i e g x y k : Int) (ux uy : Bool) (fr : Int) (HU : Hid (∀ w, Calls Try.prog 38 #[.int .i64 op] w fun e w' => e = .returned (.tuple #[.agg #[.bool ux, .bool uy, .bool false, .bool false, .bool false, .bool true, .int .i64 fr], .bool true]) ∧ Keep NoF w w')) (hx : operandB ux x k = true) (hy : operandB uy y k = true) (hzg : (g != 0) = true) : Calls Try.prog 39 #[.agg #[.int .i64 op, .int .i64 i, .int .i64 e, .int .i64 g, .int .i64 x, .int .i64 y], .int .i64 k] w fun e w' => e = .returned (.int .i64 3) ∧ Keep NoF w w' := by
  have Bn := Bk.new w 53 #[.int .i64 op, .int .i64 i, .int .i64 e, .int .i64 g, .int .i64 x, .int .i64 y]
  have Kn : Keep NoF w (w.alloc (.cells #[.int .i64 op, .int .i64 i, .int .i64 e, .int .i64 g, .int .i64 x, .int .i64 y] 53)) := (Keep.refl _ _).alloc _
  go_enter Try.func39, Try.ntmps39
  go_wp2_with (first
               | (go_at_call 38; (with_reducible refine (HU.out _).mono ?_); rintro e w2 ⟨rfl, K2⟩
                  have Bn2 := Bn.keep K2 fun h => h
                  have ln2 := Bn2.lt
                  have n0 := Bn2.cell 0
                  have n1 := Bn2.cell 1
                  have n2 := Bn2.cell 2
                  have n3 := Bn2.cell 3
                  have n4 := Bn2.cell 4
                  have n5 := Bn2.cell 5)
               | (go_at_call 59; (with_reducible refine (operand_is _ hx).mono ?_); rintro e w' ⟨rfl, hw'⟩; obtain rfl := hw'.symm)
               | (go_at_call 59; (with_reducible refine (operand_is _ hy).mono ?_); rintro e w' ⟨rfl, hw'⟩; obtain rfl := hw'.symm)
               | (go_at_call 60; (with_reducible refine (outside_no _ _ _ _).mono ?_); rintro e w' ⟨rfl, hw'⟩; obtain rfl := hw'.symm))
  go_ret
  exact ⟨rfl, (Kn.trans K2 fun _ _ h => h).alloc _⟩
theorem ne_event_r0 (op i e g x y k : Int) (ux uy : Bool) (fr : Int) (HU : Hid (∀ w, Calls Try.prog 38 #[.int .i64 op] w fun e w' => e = .returned (.tuple #[.agg #[.bool ux, .bool uy, .bool false, .bool false, .bool false, .bool true, .int .i64 fr], .bool true]) ∧ Keep NoF w w')) (hx : operandB ux x k = true) (hy : operandB uy y k = true) (hzg : (g != 0) = false) (hw0 : within true i 0 7 = false) : Calls Try.prog 39 #[.agg #[.int .i64 op, .int .i64 i, .int .i64 e, .int .i64 g, .int .i64 x, .int .i64 y], .int .i64 k] w fun e w' => e = .returned (.int .i64 2) ∧ Keep NoF w w' := by
  have Bn := Bk.new w 53 #[.int .i64 op, .int .i64 i, .int .i64 e, .int .i64 g, .int .i64 x, .int .i64 y]
  have Kn : Keep NoF w (w.alloc (.cells #[.int .i64 op, .int .i64 i, .int .i64 e, .int .i64 g, .int .i64 x, .int .i64 y] 53)) := (Keep.refl _ _).alloc _
  go_enter Try.func39, Try.ntmps39
  go_wp2_with (first
               | (go_at_call 38; (with_reducible refine (HU.out _).mono ?_); rintro e w2 ⟨rfl, K2⟩
                  have Bn2 := Bn.keep K2 fun h => h
                  have ln2 := Bn2.lt
                  have n0 := Bn2.cell 0
                  have n1 := Bn2.cell 1
                  have n2 := Bn2.cell 2
                  have n3 := Bn2.cell 3
                  have n4 := Bn2.cell 4
                  have n5 := Bn2.cell 5)
               | (go_at_call 59; (with_reducible refine (operand_is _ hx).mono ?_); rintro e w' ⟨rfl, hw'⟩; obtain rfl := hw'.symm)
               | (go_at_call 59; (with_reducible refine (operand_is _ hy).mono ?_); rintro e w' ⟨rfl, hw'⟩; obtain rfl := hw'.symm)
               | (go_at_call 60; (with_reducible refine (outside_is _ hw0).mono ?_); rintro e w' ⟨rfl, hw'⟩; obtain rfl := hw'.symm)
               | (go_at_call 60; (with_reducible refine (outside_no _ _ _ _).mono ?_); rintro e w' ⟨rfl, hw'⟩; obtain rfl := hw'.symm))
  go_ret
  exact ⟨rfl, (Kn.trans K2 fun _ _ h => h).alloc _⟩
theorem ne_event_r1 (op i e g x y k : Int) (ux uy : Bool) (fr : Int) (HU : Hid (∀ w, Calls Try.prog 38 #[.int .i64 op] w fun e w' => e = .returned (.tuple #[.agg #[.bool ux, .bool uy, .bool false, .bool false, .bool false, .bool true, .int .i64 fr], .bool true]) ∧ Keep NoF w w')) (hx : operandB ux x k = true) (hy : operandB uy y k = true) (hzg : (g != 0) = false) (hw0 : within true i 0 7 = true) (hw1 : within true e 0 7 = false) : Calls Try.prog 39 #[.agg #[.int .i64 op, .int .i64 i, .int .i64 e, .int .i64 g, .int .i64 x, .int .i64 y], .int .i64 k] w fun e w' => e = .returned (.int .i64 2) ∧ Keep NoF w w' := by
  have Bn := Bk.new w 53 #[.int .i64 op, .int .i64 i, .int .i64 e, .int .i64 g, .int .i64 x, .int .i64 y]
  have Kn : Keep NoF w (w.alloc (.cells #[.int .i64 op, .int .i64 i, .int .i64 e, .int .i64 g, .int .i64 x, .int .i64 y] 53)) := (Keep.refl _ _).alloc _
  go_enter Try.func39, Try.ntmps39
  go_wp2_with (first
               | (go_at_call 38; (with_reducible refine (HU.out _).mono ?_); rintro e w2 ⟨rfl, K2⟩
                  have Bn2 := Bn.keep K2 fun h => h
                  have ln2 := Bn2.lt
                  have n0 := Bn2.cell 0
                  have n1 := Bn2.cell 1
                  have n2 := Bn2.cell 2
                  have n3 := Bn2.cell 3
                  have n4 := Bn2.cell 4
                  have n5 := Bn2.cell 5)
               | (go_at_call 59; (with_reducible refine (operand_is _ hx).mono ?_); rintro e w' ⟨rfl, hw'⟩; obtain rfl := hw'.symm)
               | (go_at_call 59; (with_reducible refine (operand_is _ hy).mono ?_); rintro e w' ⟨rfl, hw'⟩; obtain rfl := hw'.symm)
               | (go_at_call 60; (with_reducible refine (outside_is _ hw0).mono ?_); rintro e w' ⟨rfl, hw'⟩; obtain rfl := hw'.symm)
               | (go_at_call 60; (with_reducible refine (outside_is _ hw1).mono ?_); rintro e w' ⟨rfl, hw'⟩; obtain rfl := hw'.symm)
               | (go_at_call 60; (with_reducible refine (outside_no _ _ _ _).mono ?_); rintro e w' ⟨rfl, hw'⟩; obtain rfl := hw'.symm))
  go_ret
  exact ⟨rfl, (Kn.trans K2 fun _ _ h => h).alloc _⟩
theorem ne_event_ok (op i e g x y k : Int) (ux uy : Bool) (fr : Int) (HU : Hid (∀ w, Calls Try.prog 38 #[.int .i64 op] w fun e w' => e = .returned (.tuple #[.agg #[.bool ux, .bool uy, .bool false, .bool false, .bool false, .bool true, .int .i64 fr], .bool true]) ∧ Keep NoF w w')) (hx : operandB ux x k = true) (hy : operandB uy y k = true) (hzg : (g != 0) = false) (hw0 : within true i 0 7 = true) (hw1 : within true e 0 7 = true) : Calls Try.prog 39 #[.agg #[.int .i64 op, .int .i64 i, .int .i64 e, .int .i64 g, .int .i64 x, .int .i64 y], .int .i64 k] w fun e w' => e = .returned (.int .i64 0) ∧ Keep NoF w w' := by
  have Bn := Bk.new w 53 #[.int .i64 op, .int .i64 i, .int .i64 e, .int .i64 g, .int .i64 x, .int .i64 y]
  have Kn : Keep NoF w (w.alloc (.cells #[.int .i64 op, .int .i64 i, .int .i64 e, .int .i64 g, .int .i64 x, .int .i64 y] 53)) := (Keep.refl _ _).alloc _
  go_enter Try.func39, Try.ntmps39
  go_wp2_with (first
               | (go_at_call 38; (with_reducible refine (HU.out _).mono ?_); rintro e w2 ⟨rfl, K2⟩
                  have Bn2 := Bn.keep K2 fun h => h
                  have ln2 := Bn2.lt
                  have n0 := Bn2.cell 0
                  have n1 := Bn2.cell 1
                  have n2 := Bn2.cell 2
                  have n3 := Bn2.cell 3
                  have n4 := Bn2.cell 4
                  have n5 := Bn2.cell 5)
               | (go_at_call 59; (with_reducible refine (operand_is _ hx).mono ?_); rintro e w' ⟨rfl, hw'⟩; obtain rfl := hw'.symm)
               | (go_at_call 59; (with_reducible refine (operand_is _ hy).mono ?_); rintro e w' ⟨rfl, hw'⟩; obtain rfl := hw'.symm)
               | (go_at_call 60; (with_reducible refine (outside_is _ hw0).mono ?_); rintro e w' ⟨rfl, hw'⟩; obtain rfl := hw'.symm)
               | (go_at_call 60; (with_reducible refine (outside_is _ hw1).mono ?_); rintro e w' ⟨rfl, hw'⟩; obtain rfl := hw'.symm)
               | (go_at_call 60; (with_reducible refine (outside_no _ _ _ _).mono ?_); rintro e w' ⟨rfl, hw'⟩; obtain rfl := hw'.symm))
  go_ret
  exact ⟨rfl, (Kn.trans K2 fun _ _ h => h).alloc _⟩
theorem ne_none_i (op i e g x y k : Int) (ux uy : Bool) (fr : Int) (HU : Hid (∀ w, Calls Try.prog 38 #[.int .i64 op] w fun e w' => e = .returned (.tuple #[.agg #[.bool ux, .bool uy, .bool false, .bool false, .bool false, .bool false, .int .i64 fr], .bool true]) ∧ Keep NoF w w')) (hx : operandB ux x k = true) (hy : operandB uy y k = true) (hzi : (i != 0) = true) : Calls Try.prog 39 #[.agg #[.int .i64 op, .int .i64 i, .int .i64 e, .int .i64 g, .int .i64 x, .int .i64 y], .int .i64 k] w fun e w' => e = .returned (.int .i64 3) ∧ Keep NoF w w' := by
  have Bn := Bk.new w 53 #[.int .i64 op, .int .i64 i, .int .i64 e, .int .i64 g, .int .i64 x, .int .i64 y]
  have Kn : Keep NoF w (w.alloc (.cells #[.int .i64 op, .int .i64 i, .int .i64 e, .int .i64 g, .int .i64 x, .int .i64 y] 53)) := (Keep.refl _ _).alloc _
  go_enter Try.func39, Try.ntmps39
  go_wp2_with (first
               | (go_at_call 38; (with_reducible refine (HU.out _).mono ?_); rintro e w2 ⟨rfl, K2⟩
                  have Bn2 := Bn.keep K2 fun h => h
                  have ln2 := Bn2.lt
                  have n0 := Bn2.cell 0
                  have n1 := Bn2.cell 1
                  have n2 := Bn2.cell 2
                  have n3 := Bn2.cell 3
                  have n4 := Bn2.cell 4
                  have n5 := Bn2.cell 5)
               | (go_at_call 59; (with_reducible refine (operand_is _ hx).mono ?_); rintro e w' ⟨rfl, hw'⟩; obtain rfl := hw'.symm)
               | (go_at_call 59; (with_reducible refine (operand_is _ hy).mono ?_); rintro e w' ⟨rfl, hw'⟩; obtain rfl := hw'.symm)
               | (go_at_call 60; (with_reducible refine (outside_no _ _ _ _).mono ?_); rintro e w' ⟨rfl, hw'⟩; obtain rfl := hw'.symm))
  go_ret
  exact ⟨rfl, (Kn.trans K2 fun _ _ h => h).alloc _⟩
theorem ne_none_e (op i e g x y k : Int) (ux uy : Bool) (fr : Int) (HU : Hid (∀ w, Calls Try.prog 38 #[.int .i64 op] w fun e w' => e = .returned (.tuple #[.agg #[.bool ux, .bool uy, .bool false, .bool false, .bool false, .bool false, .int .i64 fr], .bool true]) ∧ Keep NoF w w')) (hx : operandB ux x k = true) (hy : operandB uy y k = true) (hzi : (i != 0) = false) (hze : (e != 0) = true) : Calls Try.prog 39 #[.agg #[.int .i64 op, .int .i64 i, .int .i64 e, .int .i64 g, .int .i64 x, .int .i64 y], .int .i64 k] w fun e w' => e = .returned (.int .i64 3) ∧ Keep NoF w w' := by
  have Bn := Bk.new w 53 #[.int .i64 op, .int .i64 i, .int .i64 e, .int .i64 g, .int .i64 x, .int .i64 y]
  have Kn : Keep NoF w (w.alloc (.cells #[.int .i64 op, .int .i64 i, .int .i64 e, .int .i64 g, .int .i64 x, .int .i64 y] 53)) := (Keep.refl _ _).alloc _
  go_enter Try.func39, Try.ntmps39
  go_wp2_with (first
               | (go_at_call 38; (with_reducible refine (HU.out _).mono ?_); rintro e w2 ⟨rfl, K2⟩
                  have Bn2 := Bn.keep K2 fun h => h
                  have ln2 := Bn2.lt
                  have n0 := Bn2.cell 0
                  have n1 := Bn2.cell 1
                  have n2 := Bn2.cell 2
                  have n3 := Bn2.cell 3
                  have n4 := Bn2.cell 4
                  have n5 := Bn2.cell 5)
               | (go_at_call 59; (with_reducible refine (operand_is _ hx).mono ?_); rintro e w' ⟨rfl, hw'⟩; obtain rfl := hw'.symm)
               | (go_at_call 59; (with_reducible refine (operand_is _ hy).mono ?_); rintro e w' ⟨rfl, hw'⟩; obtain rfl := hw'.symm)
               | (go_at_call 60; (with_reducible refine (outside_no _ _ _ _).mono ?_); rintro e w' ⟨rfl, hw'⟩; obtain rfl := hw'.symm))
  go_ret
  exact ⟨rfl, (Kn.trans K2 fun _ _ h => h).alloc _⟩
theorem ne_none_g (op i e g x y k : Int) (ux uy : Bool) (fr : Int) (HU : Hid (∀ w, Calls Try.prog 38 #[.int .i64 op] w fun e w' => e = .returned (.tuple #[.agg #[.bool ux, .bool uy, .bool false, .bool false, .bool false, .bool false, .int .i64 fr], .bool true]) ∧ Keep NoF w w')) (hx : operandB ux x k = true) (hy : operandB uy y k = true) (hzi : (i != 0) = false) (hze : (e != 0) = false) (hzg : (g != 0) = true) : Calls Try.prog 39 #[.agg #[.int .i64 op, .int .i64 i, .int .i64 e, .int .i64 g, .int .i64 x, .int .i64 y], .int .i64 k] w fun e w' => e = .returned (.int .i64 3) ∧ Keep NoF w w' := by
  have Bn := Bk.new w 53 #[.int .i64 op, .int .i64 i, .int .i64 e, .int .i64 g, .int .i64 x, .int .i64 y]
  have Kn : Keep NoF w (w.alloc (.cells #[.int .i64 op, .int .i64 i, .int .i64 e, .int .i64 g, .int .i64 x, .int .i64 y] 53)) := (Keep.refl _ _).alloc _
  go_enter Try.func39, Try.ntmps39
  go_wp2_with (first
               | (go_at_call 38; (with_reducible refine (HU.out _).mono ?_); rintro e w2 ⟨rfl, K2⟩
                  have Bn2 := Bn.keep K2 fun h => h
                  have ln2 := Bn2.lt
                  have n0 := Bn2.cell 0
                  have n1 := Bn2.cell 1
                  have n2 := Bn2.cell 2
                  have n3 := Bn2.cell 3
                  have n4 := Bn2.cell 4
                  have n5 := Bn2.cell 5)
               | (go_at_call 59; (with_reducible refine (operand_is _ hx).mono ?_); rintro e w' ⟨rfl, hw'⟩; obtain rfl := hw'.symm)
               | (go_at_call 59; (with_reducible refine (operand_is _ hy).mono ?_); rintro e w' ⟨rfl, hw'⟩; obtain rfl := hw'.symm)
               | (go_at_call 60; (with_reducible refine (outside_no _ _ _ _).mono ?_); rintro e w' ⟨rfl, hw'⟩; obtain rfl := hw'.symm))
  go_ret
  exact ⟨rfl, (Kn.trans K2 fun _ _ h => h).alloc _⟩
theorem ne_none_ok (op i e g x y k : Int) (ux uy : Bool) (fr : Int) (HU : Hid (∀ w, Calls Try.prog 38 #[.int .i64 op] w fun e w' => e = .returned (.tuple #[.agg #[.bool ux, .bool uy, .bool false, .bool false, .bool false, .bool false, .int .i64 fr], .bool true]) ∧ Keep NoF w w')) (hx : operandB ux x k = true) (hy : operandB uy y k = true) (hzi : (i != 0) = false) (hze : (e != 0) = false) (hzg : (g != 0) = false) : Calls Try.prog 39 #[.agg #[.int .i64 op, .int .i64 i, .int .i64 e, .int .i64 g, .int .i64 x, .int .i64 y], .int .i64 k] w fun e w' => e = .returned (.int .i64 0) ∧ Keep NoF w w' := by
  have Bn := Bk.new w 53 #[.int .i64 op, .int .i64 i, .int .i64 e, .int .i64 g, .int .i64 x, .int .i64 y]
  have Kn : Keep NoF w (w.alloc (.cells #[.int .i64 op, .int .i64 i, .int .i64 e, .int .i64 g, .int .i64 x, .int .i64 y] 53)) := (Keep.refl _ _).alloc _
  go_enter Try.func39, Try.ntmps39
  go_wp2_with (first
               | (go_at_call 38; (with_reducible refine (HU.out _).mono ?_); rintro e w2 ⟨rfl, K2⟩
                  have Bn2 := Bn.keep K2 fun h => h
                  have ln2 := Bn2.lt
                  have n0 := Bn2.cell 0
                  have n1 := Bn2.cell 1
                  have n2 := Bn2.cell 2
                  have n3 := Bn2.cell 3
                  have n4 := Bn2.cell 4
                  have n5 := Bn2.cell 5)
               | (go_at_call 59; (with_reducible refine (operand_is _ hx).mono ?_); rintro e w' ⟨rfl, hw'⟩; obtain rfl := hw'.symm)
               | (go_at_call 59; (with_reducible refine (operand_is _ hy).mono ?_); rintro e w' ⟨rfl, hw'⟩; obtain rfl := hw'.symm)
               | (go_at_call 60; (with_reducible refine (outside_no _ _ _ _).mono ?_); rintro e w' ⟨rfl, hw'⟩; obtain rfl := hw'.symm))
  go_ret
  exact ⟨rfl, (Kn.trans K2 fun _ _ h => h).alloc _⟩
end
end Go.Proofs.Ytmjdbbfoihadoaa
