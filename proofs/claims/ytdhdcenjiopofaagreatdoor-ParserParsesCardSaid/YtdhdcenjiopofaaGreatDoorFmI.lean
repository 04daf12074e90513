/- Package formula: what build does. Conditions: at most two operands. -/
import Derived.Test.YtdhdcenjiopofaaGreatDoorFmH
set_option linter.unusedVariables false
set_option linter.unusedSimpArgs false
namespace Fm
open Form
/-- The operands' lists, one behind the other. -/
def accF (acc : List Nd) (os : List (List Nd)) : List Nd := os.foldl (fun acc o => acc ++ shiftL acc.length (compactL o)) acc
def accL (os : List (List Nd)) : List Nd := accF [] os
theorem accL_snoc (os : List (List Nd)) (o : List Nd) : accL (os ++ [o]) = accL os ++ shiftL (accL os).length (compactL o) := by unfold accL accF; rw [List.foldl_append]; rfl
theorem shift_own {m : Nat} {o : List Nd} (h : OwnAll o) : OwnAll (shiftL m o) := fun k n hk => by
  rw [shiftL, List.getElem?_map] at hk
  obtain ⟨a, ha, rfl⟩ := Option.map_eq_some_iff.1 hk
  exact h k a ha
theorem own_append {p o : List Nd} (hp : OwnAll p) (ho : OwnAll o) : OwnAll (p ++ o) := fun k n hk => by
  by_cases hlt : k < p.length
  · rw [List.getElem?_append_left hlt] at hk
    exact hp k n hk
  · rw [List.getElem?_append_right (by omega)] at hk
    exact ho _ n hk
theorem compactL_own {f : List Nd} (h : checkE f = 0) : OwnAll (compactL f) := by
  rw [compactL_ok h]
  exact ins_own (tr_good h) fun k n hk => by simp at hk
theorem compactL_ord {f : List Nd} (h : checkE f = 0) : Ord (compactL f) := by
  rw [compactL_ok h]
  exact cl_ord (tr_good h).fit
theorem compactL_len {f : List Nd} (h : checkE f = 0) : (compactL f).length ≤ 200 ∧ 0 < (compactL f).length := by
  rw [compactL_ok h]
  have := cl_tr_le h
  have := (checkE_zero.1 h).2.1
  exact ⟨by omega, cl_pos _⟩
theorem accF_ok : ∀ (os : List (List Nd)) (acc : List Nd), (∀ o ∈ os, checkE o = 0) → Ord acc → OwnAll acc → Ord (accF acc os) ∧ OwnAll (accF acc os) ∧ (accF acc os).length ≤ acc.length + 200 * os.length
  | [], acc, _, h1, h2 => ⟨h1, h2, by simp [accF]⟩
  | o :: os, acc, h, h1, h2 => by
    have ho := h o (by simp)
    have hl := (compactL_len ho).1
    obtain ⟨a, b, c⟩ := accF_ok os (acc ++ shiftL acc.length (compactL o)) (fun p hp => h p (by simp [hp])) (ord_append h1 (compactL_ord ho)) (own_append h2 (shift_own (compactL_own ho)))
    refine ⟨a, b, ?_⟩
    simp only [List.length_append, shiftL, List.length_map] at c
    have e : accF acc (o :: os) = accF (acc ++ shiftL acc.length (compactL o)) os := rfl
    rw [e]
    simp only [shiftL, List.length_cons] at c ⊢
    omega
theorem accL_ok {os : List (List Nd)} (h : ∀ o ∈ os, checkE o = 0) : Ord (accL os) ∧ OwnAll (accL os) ∧ (accL os).length ≤ 200 * os.length := by
  have := accF_ok os [] h ord_nil (fun k n hk => by simp at hk)
  rw [List.length_nil, Nat.zero_add] at this
  exact this
/-- The operands' fields behind k operands. -/
def bldX (os : List (List Nd)) (k : Nat) : Int := if k = 0 then 0 else ((accL (os.take 1)).length : Int) - 1
def bldY (os : List (List Nd)) (k : Nat) : Int := if k ≤ 1 then 0 else ((accL (os.take k)).length : Int) - 1
/-- What is built. -/
def bldR (op i e g : Int) (os : List (List Nd)) : List Nd :=
  if os.any (fun o => decide (checkE o ≠ 0)) = true then [] else if nodeE ⟨op, i, e, g, bldX os os.length, bldY os os.length⟩ (accL os).length ≠ 0 then []
  else capped (cl (tree (accL os ++ [⟨op, i, e, g, bldX os os.length, bldY os os.length⟩]) (accL os).length))
theorem bld_okf {op i e g : Int} {os : List (List Nd)} (h : ∀ o ∈ os, checkE o = 0) (hl : os.length ≤ 2) (hn : nodeE ⟨op, i, e, g, bldX os os.length, bldY os os.length⟩ (accL os).length = 0) :
    Okf (accL os ++ [⟨op, i, e, g, bldX os os.length, bldY os os.length⟩]) := by
  obtain ⟨a, b, c⟩ := accL_ok h
  obtain ⟨n1, n2, n3⟩ := nodeE_zero.1 hn
  refine ⟨ord_snoc a n2 n3, own_append b fun k n hk => ?_, by simp; omega⟩
  have := List.mem_of_getElem? hk
  simp at this
  subst this
  exact n1
theorem own_node {op i e g : Int} {k : Int} {x y : Int} (h : own op i e g = false) : nodeE ⟨op, i, e, g, x, y⟩ k ≠ 0 := fun h0 => by
  have := (nodeE_zero.1 h0).1
  simp only at this
  rw [h] at this
  cases this
/-- With the operands that the operator has. -/
theorem bld0 {op i e g : Int} (hx : usesX op = false) : bldR op i e g [] = mk0 op i e g := by
  unfold bldR mk0
  simp only [List.any_nil, Bool.false_eq_true, if_false, List.length_nil, bldX, bldY, if_true, Nat.zero_le]
  cases ho : own op i e g with
  | false => rw [if_pos (own_node ho), if_pos rfl]
  | true =>
    have hn : nodeE ⟨op, i, e, g, 0, 0⟩ ((accL []).length : Int) = 0 := nodeE_zero.2 ⟨ho, by simp [hx, operandB], by simp [usesX_Y hx, operandB]⟩
    rw [if_neg (by simpa using hn), if_neg (by simp)]
    rw [show accL [] = [] from rfl, List.nil_append, List.length_nil, build0 hx]
theorem accL_one (o : List Nd) : accL [o] = shiftL 0 (compactL o) := by
  simp [accL, accF]
theorem bld1 {op i e g : Int} {a : List Nd} (hx : usesX op = true) (hy : usesY op = false) : bldR op i e g [a] = mk1 op i e g a := by
  unfold bldR mk1
  by_cases hc : checkE a = 0
  · have e1 : accL [a] = cl (tr a) := by rw [accL_one, shift_zero, compactL_ok hc]
    have hp := cl_pos (tr a)
    simp only [List.any_cons, List.any_nil, hc, ne_eq, not_true, decide_false, Bool.or_false, Bool.false_eq_true, if_false, List.length_singleton, bldX, bldY, Nat.le_refl, if_true, List.take, Nat.one_ne_zero, e1, false_or]
    cases ho : own op i e g with
    | false => rw [if_pos (own_node ho), if_pos rfl]
    | true =>
      have hn : nodeE ⟨op, i, e, g, ((cl (tr a)).length : Int) - 1, 0⟩ ((cl (tr a)).length : Int) = 0 := nodeE_zero.2 ⟨ho, by simp only [hx, operandB]; simp; omega, by simp [hy, operandB]⟩
      rw [if_neg (by simpa using hn), if_neg (by simp), build1 (tr_good hc).fit hx hy rfl]
  · rw [if_pos (by simp [hc]), if_pos (.inl hc)]
theorem bld2 {op i e g : Int} {a b : List Nd} (hy : usesY op = true) : bldR op i e g [a, b] = mk2 op i e g a b := by
  unfold bldR mk2
  by_cases hc : checkE a = 0
  · by_cases hd : checkE b = 0
    · have e1 : accL [a] = cl (tr a) := by rw [accL_one, shift_zero, compactL_ok hc]
      have e2 : accL [a, b] = cl (tr a) ++ shiftL (cl (tr a)).length (cl (tr b)) := by
        have := accL_snoc [a] b
        rw [e1, compactL_ok hd] at this
        exact this
      have hp := cl_pos (tr a)
      have hq := cl_pos (tr b)
      have hl : (cl (tr a) ++ shiftL (cl (tr a)).length (cl (tr b))).length = (cl (tr a)).length + (cl (tr b)).length := by simp [shiftL]
      simp only [List.any_cons, List.any_nil, hc, hd, ne_eq, not_true, decide_false, Bool.or_false, Bool.false_eq_true, if_false, List.length_cons, List.length_nil, bldX, bldY, List.take, e1, e2, false_or]
      rw [if_neg (show ¬ (0 + 1 + 1 ≤ 1) by omega)]
      cases ho : own op i e g with
      | false => rw [if_pos (own_node ho), if_pos rfl]
      | true =>
        have hn : nodeE ⟨op, i, e, g, ((cl (tr a)).length : Int) - 1, ((cl (tr a) ++ shiftL (cl (tr a)).length (cl (tr b))).length : Int) - 1⟩ ((cl (tr a) ++ shiftL (cl (tr a)).length (cl (tr b))).length : Int) = 0 :=
          nodeE_zero.2 ⟨ho, by simp only [usesY_X hy, operandB, hl]; simp; omega, by simp only [hy, operandB, hl]; simp; omega⟩
        rw [if_neg (by simpa using hn), if_neg (by simp), build2 (tr_good hc).fit (tr_good hd).fit hy rfl rfl, if_neg (by simp)]
    · rw [if_pos (by simp [hd]), if_pos (.inr (.inl hd))]
  · rw [if_pos (by simp [hc]), if_pos (.inl hc)]
end Fm
