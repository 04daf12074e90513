/- Formulas: the error of a list of nodes; what is built from operands. Plain facts. No condition. -/
import Derived.Test.YtbidfbojealmlaaGreatDoorFmA
set_option linter.unusedVariables false
set_option linter.unusedSimpArgs false
namespace Fm
open Form

/-- Whether the fields beside the operands are right for an operator. -/
def zeroed (n : Nd) : Bool := (usesFact n.op || usesAgent n.op || usesEvent n.op || decide (n.i = 0)) && (usesEvent n.op || decide (n.e = 0)) && (usesGroup n.op || decide (n.g = 0))
def within (u : Bool) (v a b : Int) : Bool := !u || (decide (a ≤ v) && decide (v ≤ b))
def ranged (n : Nd) : Bool := within (usesFact n.op) n.i 0 7 && within (usesAgent n.op) n.i 0 3 && within (usesEvent n.op) n.i 0 7 && within (usesEvent n.op) n.e 0 7 && within (usesGroup n.op) n.g 1 15
def operandB (u : Bool) (v k : Int) : Bool := if u then decide (0 ≤ v) && decide (v < k) else decide (v = 0)
/-- The error of a node at a place. -/
def nodeE (n : Nd) (k : Int) : Int :=
  if isOp n.op = false then 10 else if (operandB (usesX n.op) n.x k && operandB (usesY n.op) n.y k) = false then 3 else if zeroed n = false then 3 else if ranged n = false then 2 else 0
def nodesE : List Nd → Nat → Int
  | [], _ => 0
  | n :: l, k => if nodeE n k ≠ 0 then nodeE n k else nodesE l (k + 1)
def checkE (f : List Nd) : Int := if f.length = 0 then 3 else if 200 < f.length then 8 else nodesE f 0

theorem nodesE_zero : ∀ {l : List Nd} {k : Nat}, nodesE l k = 0 ↔ ∀ j n, l[j]? = some n → nodeE n ((k + j : Nat) : Int) = 0
  | [], k => by simp [nodesE]
  | n :: l, k => by
    unfold nodesE
    by_cases h : nodeE n k = 0
    · rw [if_neg (by simp [h]), nodesE_zero]
      constructor
      · intro g j m hj
        cases j with
        | zero => simp at hj; subst hj; simpa using h
        | succ j => have := g j m (by simpa using hj); rwa [show k + 1 + j = k + (j + 1) by omega] at this
      · intro g j m hj
        have := g (j + 1) m (by simpa using hj)
        rwa [show k + (j + 1) = k + 1 + j by omega] at this
    · rw [if_pos h]
      constructor
      · intro g; exact absurd g h
      · intro g
        have := g 0 n (by simp)
        exact absurd (by simpa using this) h
theorem checkE_zero {f : List Nd} : checkE f = 0 ↔ 0 < f.length ∧ f.length ≤ 200 ∧ ∀ j n, f[j]? = some n → nodeE n ((j : Nat) : Int) = 0 := by
  unfold checkE
  by_cases h0 : f.length = 0
  · rw [if_pos h0]; constructor
    · intro h; cases h
    · intro h; omega
  · rw [if_neg h0]
    by_cases h1 : 200 < f.length
    · rw [if_pos h1]; constructor
      · intro h; cases h
      · intro h; omega
    · rw [if_neg h1, nodesE_zero]
      constructor
      · intro h; exact ⟨by omega, by omega, fun j n hj => by have := h j n hj; rwa [Nat.zero_add] at this⟩
      · intro h j n hj; rw [Nat.zero_add]; exact h.2.2 j n hj
/-- Whether a node's own fields are right. -/
def own (op i e g : Int) : Bool := isOp op && zeroed ⟨op, i, e, g, 0, 0⟩ && ranged ⟨op, i, e, g, 0, 0⟩
theorem nodeE_zero {n : Nd} {k : Int} : nodeE n k = 0 ↔ own n.op n.i n.e n.g = true ∧ operandB (usesX n.op) n.x k = true ∧ operandB (usesY n.op) n.y k = true := by
  unfold nodeE own
  have e1 : zeroed ⟨n.op, n.i, n.e, n.g, 0, 0⟩ = zeroed n := rfl
  have e2 : ranged ⟨n.op, n.i, n.e, n.g, 0, 0⟩ = ranged n := rfl
  rw [e1, e2]
  cases isOp n.op <;> cases operandB (usesX n.op) n.x k <;> cases operandB (usesY n.op) n.y k <;> cases zeroed n <;> cases ranged n <;> simp
theorem operandB_ord {u : Bool} {v k : Int} : operandB u v k = true ↔ (u = true → 0 ≤ v ∧ v < k) ∧ (u = false → v = 0) := by
  unfold operandB
  cases u <;> simp
theorem check_ord {f : List Nd} (h : checkE f = 0) : Ord f := fun k n hk => by
  have := (nodeE_zero.1 ((checkE_zero.1 h).2.2 k n hk)).2
  have h1 := operandB_ord.1 this.1
  have h2 := operandB_ord.1 this.2
  exact ⟨h1.1, h1.2, h2.1, h2.2⟩
/-- A tree all of whose nodes are right. -/
def Good : Form → Prop
  | leaf op i e g => usesX op = false ∧ own op i e g = true
  | un op i e g x => usesX op = true ∧ usesY op = false ∧ own op i e g = true ∧ Good x
  | bin op i e g x y => usesY op = true ∧ own op i e g = true ∧ Good x ∧ Good y
theorem Good.fit : ∀ {t : Form}, Good t → Fit t
  | leaf .., h => h.1
  | un .., h => ⟨h.1, h.2.1, Good.fit h.2.2.2⟩
  | bin .., h => ⟨h.1, Good.fit h.2.2.1, Good.fit h.2.2.2⟩
def OwnAll (o : List Nd) : Prop := ∀ (k : Nat) (n : Nd), o[k]? = some n → own n.op n.i n.e n.g = true
theorem put_own {n : Nd} {o : List Nd} (h : OwnAll o) (hn : own n.op n.i n.e n.g = true) : OwnAll (put n o).2 := by
  unfold put
  split
  · exact h
  · intro k m hk
    by_cases hlt : k < o.length
    · rw [List.getElem?_append_left hlt] at hk
      exact h k m hk
    · rw [List.getElem?_append_right (by omega)] at hk
      have := List.mem_of_getElem? hk
      simp at this
      subst this
      exact hn
theorem ins_own : ∀ {t : Form} {o : List Nd}, Good t → OwnAll o → OwnAll (ins t o).2
  | leaf .., _, h, ho => put_own ho h.2
  | un .., _, h, ho => put_own (ins_own h.2.2.2 ho) h.2.2.1
  | bin .., _, h, ho => put_own (ins_own h.2.2.2 (ins_own h.2.2.1 ho)) h.2.1
theorem good_check {o : List Nd} (h1 : Ord o) (h2 : OwnAll o) (h0 : 0 < o.length) (hl : o.length ≤ 200) : checkE o = 0 :=
  checkE_zero.2 ⟨h0, hl, fun k n hk => by
    obtain ⟨a, b, c, d⟩ := h1 k n hk
    exact nodeE_zero.2 ⟨h2 k n hk, operandB_ord.2 ⟨a, b⟩, operandB_ord.2 ⟨c, d⟩⟩⟩
theorem cl_check {t : Form} (h : Good t) (hl : (cl t).length ≤ 200) : checkE (cl t) = 0 :=
  good_check (cl_ord h.fit) (ins_own h fun k n hk => by simp at hk) (cl_pos t) hl
theorem cl_check_long {t : Form} (hl : 200 < (cl t).length) : checkE (cl t) = 8 := by
  unfold checkE
  have := cl_pos t
  rw [if_neg (by omega), if_pos hl]
theorem tree_good {o : List Nd} (h1 : Ord o) (h2 : OwnAll o) : ∀ k, k < o.length → Good (tree o k) := by
  intro k
  induction k using Nat.strongRecOn with
  | _ k ih =>
    intro hk
    have hn := List.getElem?_eq_getElem hk
    obtain ⟨a1, a2, a3, a4⟩ := h1 k _ hn
    have ho := h2 k _ hn
    generalize o[k] = n at *
    cases hy : usesY n.op
    · cases hx : usesX n.op
      · rw [tree_leaf hn hx]
        exact ⟨hx, ho⟩
      · have := a1 hx
        rw [tree_un hn hy hx (by omega)]
        exact ⟨hx, hy, ho, ih _ (by omega) (by omega)⟩
    · have a := a1 (usesY_X hy)
      have b := a3 hy
      rw [tree_bin hn hy (by omega) (by omega)]
      exact ⟨hy, ho, ih _ (by omega) (by omega), ih _ (by omega) (by omega)⟩
theorem check_own {f : List Nd} (h : checkE f = 0) : OwnAll f := fun k n hk => (nodeE_zero.1 ((checkE_zero.1 h).2.2 k n hk)).1
/-- A list of right nodes, operands ahead of their nodes, not too long for a walk. -/
structure Okf (f : List Nd) : Prop where
  ord : Ord f
  own : OwnAll f
  len : f.length ≤ 1000
theorem Okf.of_check {f : List Nd} (h : checkE f = 0) : Okf f := ⟨check_ord h, check_own h, by have := (checkE_zero.1 h).2.1; omega⟩
/-- The tree of a list. -/
def tr (f : List Nd) : Form := tree f (f.length - 1)
theorem tr_good {f : List Nd} (h : checkE f = 0) : Good (tr f) := tree_good (check_ord h) (check_own h) _ (by have := (checkE_zero.1 h).1; omega)
theorem tr_cl {t : Form} (h : Fit t) : tr (cl t) = t := cl_tree h
/-- The canonical list of a part of a list. -/
def subL (f : List Nd) (k : Int) : List Nd := if checkE f ≠ 0 ∨ k < 0 ∨ (f.length : Int) ≤ k then [] else cl (tree f k.toNat)
def compactL (f : List Nd) : List Nd := subL f ((f.length : Int) - 1)
theorem compactL_ok {f : List Nd} (h : checkE f = 0) : compactL f = cl (tr f) := by
  have := (checkE_zero.1 h).1
  unfold compactL subL tr
  rw [if_neg (by omega), show ((f.length : Int) - 1).toNat = f.length - 1 by omega]
theorem compactL_bad {f : List Nd} (h : checkE f ≠ 0) : compactL f = [] := by
  unfold compactL subL
  rw [if_pos (.inl h)]
theorem cl_tr_le {f : List Nd} (h : checkE f = 0) : (cl (tr f)).length ≤ f.length :=
  cl_le_of_rep (tr_good h).fit (rep_tree (check_ord h) _ (by have := (checkE_zero.1 h).1; omega))

/-- A list behind another. -/
def shiftN (m : Nat) (n : Nd) : Nd := ⟨n.op, n.i, n.e, n.g, if usesX n.op then n.x + m else n.x, if usesY n.op then n.y + m else n.y⟩
def shiftL (m : Nat) (o : List Nd) : List Nd := o.map (shiftN m)
theorem shift_zero (o : List Nd) : shiftL 0 o = o := by
  unfold shiftL
  conv => rhs; rw [← List.map_id o]
  refine List.map_congr_left fun n _ => ?_
  obtain ⟨op, i, e, g, x, y⟩ := n
  simp [shiftN]
theorem rep_shift : ∀ {t : Form} {p o : List Nd} {k : Nat}, Fit t → Rep t o k → Rep t (p ++ shiftL p.length o) (p.length + k)
  | leaf op i e g, p, o, k, hf, h => by
    show (p ++ shiftL p.length o)[p.length + k]? = _
    rw [List.getElem?_append_right (by omega), Nat.add_sub_cancel_left, shiftL, List.getElem?_map, show o[k]? = _ from h]
    have hf1 : usesX op = false := hf
    simp [shiftN, hf1, usesX_Y hf1]
  | un op i e g x, p, o, k, hf, ⟨a, ha, h⟩ => by
    refine ⟨p.length + a, rep_shift hf.2.2 ha, ?_⟩
    rw [List.getElem?_append_right (by omega), Nat.add_sub_cancel_left, shiftL, List.getElem?_map, h]
    simp [shiftN, hf.1, hf.2.1, Int.add_comm]
  | bin op i e g x y, p, o, k, hf, ⟨a, b, ha, hb, h⟩ => by
    refine ⟨p.length + a, p.length + b, rep_shift hf.2.1 ha, rep_shift hf.2.2 hb, ?_⟩
    rw [List.getElem?_append_right (by omega), Nat.add_sub_cancel_left, shiftL, List.getElem?_map, h]
    simp [shiftN, hf.1, usesY_X hf.1, Int.add_comm]
theorem ord_append {p o : List Nd} (hp : Ord p) (ho : Ord o) : Ord (p ++ shiftL p.length o) := by
  intro k n hk
  by_cases hlt : k < p.length
  · rw [List.getElem?_append_left hlt] at hk
    exact hp k n hk
  · rw [List.getElem?_append_right (by omega), shiftL, List.getElem?_map] at hk
    obtain ⟨m, hm, rfl⟩ := Option.map_eq_some_iff.1 hk
    obtain ⟨h1, h2, h3, h4⟩ := ho _ m hm
    refine ⟨fun hx => ?_, fun hx => ?_, fun hy => ?_, fun hy => ?_⟩
    · have hx' : usesX m.op = true := hx
      have := h1 hx'
      simp only [shiftN, hx', if_true]
      omega
    · have hx' : usesX m.op = false := hx
      simp only [shiftN, hx']
      exact h2 hx'
    · have hy' : usesY m.op = true := hy
      have := h3 hy'
      simp only [shiftN, hy', if_true]
      omega
    · have hy' : usesY m.op = false := hy
      simp only [shiftN, hy']
      exact h4 hy'
theorem ord_snoc {f : List Nd} (h : Ord f) {n : Nd} (hx : operandB (usesX n.op) n.x f.length = true) (hy : operandB (usesY n.op) n.y f.length = true) : Ord (f ++ [n]) := by
  intro k m hk
  by_cases hlt : k < f.length
  · rw [List.getElem?_append_left hlt] at hk
    exact h k m hk
  · rw [List.getElem?_append_right (by omega)] at hk
    have hk0 : k = f.length := by
      have := (List.getElem?_eq_some_iff.1 hk).1
      simp at this
      omega
    subst hk0
    simp at hk
    subst hk
    have h1 := operandB_ord.1 hx
    have h2 := operandB_ord.1 hy
    exact ⟨h1.1, h1.2, h2.1, h2.2⟩
/-- What is built: from nothing, from one formula, from two. -/
def capped (c : List Nd) : List Nd := if 200 < c.length then [] else c
def mk0 (op i e g : Int) : List Nd := if own op i e g = false then [] else capped (cl (leaf op i e g))
def mk1 (op i e g : Int) (a : List Nd) : List Nd := if checkE a ≠ 0 ∨ own op i e g = false then [] else capped (cl (un op i e g (tr a)))
def mk2 (op i e g : Int) (a b : List Nd) : List Nd := if checkE a ≠ 0 ∨ checkE b ≠ 0 ∨ own op i e g = false then [] else capped (cl (bin op i e g (tr a) (tr b)))
theorem build0 {op i e g : Int} (h : usesX op = false) : tree [⟨op, i, e, g, 0, 0⟩] 0 = leaf op i e g := tree_leaf (n := ⟨op, i, e, g, 0, 0⟩) rfl h
theorem at_snoc (f : List Nd) (n : Nd) : (f ++ [n])[f.length]? = some n := by simp
theorem build1 {t : Form} (ht : Fit t) {op i e g : Int} (hx : usesX op = true) (hy : usesY op = false) {x : Int} (hxe : x = ((cl t).length : Int) - 1) : tree (cl t ++ [⟨op, i, e, g, x, 0⟩]) (cl t).length = un op i e g t := by
  have h0 := cl_pos t
  have e : x = (((cl t).length - 1 : Nat) : Int) := by omega
  subst e
  refine tree_of_rep (ord_snoc (cl_ord ht) ?_ ?_) ⟨hx, hy, ht⟩ ⟨_, (cl_rep ht).mono (List.prefix_append _ _), at_snoc _ _⟩
  · simp only [hx]
    unfold operandB
    simp
    omega
  · simp only [hy]
    unfold operandB
    simp
theorem build2 {t s : Form} (ht : Fit t) (hs : Fit s) {op i e g : Int} (hy : usesY op = true) {x y : Int} (hxe : x = ((cl t).length : Int) - 1) (hye : y = ((cl t ++ shiftL (cl t).length (cl s)).length : Int) - 1) :
    tree ((cl t ++ shiftL (cl t).length (cl s)) ++ [⟨op, i, e, g, x, y⟩]) (cl t ++ shiftL (cl t).length (cl s)).length = bin op i e g t s := by
  have h0 := cl_pos t
  have h1 := cl_pos s
  have hl : (cl t ++ shiftL (cl t).length (cl s)).length = (cl t).length + (cl s).length := by simp [shiftL]
  have e1 : x = (((cl t).length - 1 : Nat) : Int) := by omega
  have e2 : y = (((cl t).length + ((cl s).length - 1) : Nat) : Int) := by omega
  subst e1 e2
  refine tree_of_rep (ord_snoc (ord_append (cl_ord ht) (cl_ord hs)) ?_ ?_) ⟨hy, ht, hs⟩ ⟨_, _, ((cl_rep ht).mono (List.prefix_append _ _)).mono (List.prefix_append _ _), (rep_shift hs (cl_rep hs)).mono (List.prefix_append _ _), at_snoc _ _⟩
  · simp only [usesY_X hy, hl]
    unfold operandB
    simp
    omega
  · simp only [hy, hl]
    unfold operandB
    simp
    omega
end Fm
