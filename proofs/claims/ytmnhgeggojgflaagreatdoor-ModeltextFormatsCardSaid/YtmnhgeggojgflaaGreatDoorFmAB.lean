/- Formulas as lists of nodes and as trees: the canonical list of a tree, plain facts. Formulas: the error of a list of nodes; what is built from operands. Plain facts. No condition. -/
namespace Fm

structure Nd where
  op : Int
  i : Int
  e : Int
  g : Int
  x : Int
  y : Int
deriving DecidableEq

instance : Inhabited Nd := ⟨⟨0, 0, 0, 0, 0, 0⟩⟩
/-- Which fields an operator uses. -/
def isOp (o : Int) : Bool := decide (1 ≤ o) && decide (o ≤ 21)
def usesX (o : Int) : Bool := decide (4 ≤ o) && decide (o ≤ 21)
def usesY (o : Int) : Bool := (decide (5 ≤ o) && decide (o ≤ 8)) || decide (o = 13) || decide (o = 14) || decide (o = 16) || decide (o = 19) || decide (o = 21)
def usesFact (o : Int) : Bool := decide (o = 3)
def usesAgent (o : Int) : Bool := decide (o = 9) || decide (o = 10) || decide (o = 14) || decide (o = 15)
def usesGroup (o : Int) : Bool := decide (o = 11) || decide (o = 12) || decide (o = 13)
def usesEvent (o : Int) : Bool := decide (o = 17)
theorem usesY_X {o : Int} (h : usesY o = true) : usesX o = true := by
  simp only [usesX, usesY, Bool.or_eq_true, Bool.and_eq_true, decide_eq_true_eq] at *
  omega

/-- A formula: an operator with its fact or agent, event and group, and operands. -/
inductive Form where
  | leaf (op i e g : Int)
  | un (op i e g : Int) (x : Form)
  | bin (op i e g : Int) (x y : Form)
deriving DecidableEq
namespace Form
def size : Form → Nat
  | leaf .. => 1
  | un _ _ _ _ x => x.size + 1
  | bin _ _ _ _ x y => x.size + y.size + 1
theorem size_pos : ∀ t : Form, 0 < t.size
  | leaf .. => by simp [size]
  | un .. => by simp [size]
  | bin .. => by simp [size]
end Form
open Form

/-- A node is put at the end of a list, if it is not there. -/
def put (n : Nd) (o : List Nd) : Nat × List Nd := if n ∈ o then (o.idxOf n, o) else (o.length, o ++ [n])
def ins : Form → List Nd → Nat × List Nd
  | leaf op i e g, o => put ⟨op, i, e, g, 0, 0⟩ o
  | un op i e g x, o => put ⟨op, i, e, g, ((ins x o).1 : Nat), 0⟩ (ins x o).2
  | bin op i e g x y, o => put ⟨op, i, e, g, ((ins x o).1 : Nat), ((ins y (ins x o).2).1 : Nat)⟩ (ins y (ins x o).2).2
/-- The canonical list. -/
def cl (t : Form) : List Nd := (ins t []).2
/-- A place of a list stands for a tree. -/
def Rep : Form → List Nd → Nat → Prop
  | leaf op i e g, o, k => o[k]? = some ⟨op, i, e, g, 0, 0⟩
  | un op i e g x, o, k => ∃ a : Nat, Rep x o a ∧ o[k]? = some ⟨op, i, e, g, a, 0⟩
  | bin op i e g x y, o, k => ∃ a b : Nat, Rep x o a ∧ Rep y o b ∧ o[k]? = some ⟨op, i, e, g, a, b⟩

theorem put_prefix (n : Nd) (o : List Nd) : o <+: (put n o).2 := by
  unfold put
  split
  · exact List.prefix_rfl
  · exact List.prefix_append o [n]
theorem put_at (n : Nd) (o : List Nd) : (put n o).2[(put n o).1]? = some n := by
  unfold put
  split
  · next h => 
    have := List.idxOf_lt_length_of_mem h
    simp [List.getElem?_eq_getElem this, List.getElem_idxOf]
  · simp
theorem put_nodup {n : Nd} {o : List Nd} (h : o.Nodup) : (put n o).2.Nodup := by
  unfold put
  split
  · exact h
  · next hn =>
    rw [List.nodup_append]
    exact ⟨h, by simp, fun a ha b hb => by rw [List.mem_singleton] at hb; subst hb; rintro rfl; exact hn ha⟩
theorem put_len (n : Nd) (o : List Nd) : (put n o).2.length ≤ o.length + 1 := by
  unfold put
  split <;> simp
theorem idx_of_nodup {o : List Nd} (h : o.Nodup) {k : Nat} {n : Nd} (hk : o[k]? = some n) : o.idxOf n = k := by
  obtain ⟨hlt, rfl⟩ := List.getElem?_eq_some_iff.1 hk
  exact h.idxOf_getElem k hlt
theorem put_mem {o : List Nd} (h : o.Nodup) {k : Nat} {n : Nd} (hk : o[k]? = some n) : put n o = (k, o) := by
  unfold put
  rw [if_pos (List.mem_of_getElem? hk), idx_of_nodup h hk]
theorem ins_prefix : ∀ (t : Form) (o : List Nd), o <+: (ins t o).2
  | leaf .., o => put_prefix _ o
  | un _ _ _ _ x, o => (ins_prefix x o).trans (put_prefix _ _)
  | bin _ _ _ _ x y, o => ((ins_prefix x o).trans (ins_prefix y _)).trans (put_prefix _ _)
theorem ins_nodup : ∀ (t : Form) {o : List Nd}, o.Nodup → (ins t o).2.Nodup
  | leaf .., _, h => put_nodup h
  | un _ _ _ _ x, _, h => put_nodup (ins_nodup x h)
  | bin _ _ _ _ x y, _, h => put_nodup (ins_nodup y (ins_nodup x h))
theorem at_prefix {o o' : List Nd} (h : o <+: o') {k : Nat} {n : Nd} (hk : o[k]? = some n) : o'[k]? = some n := by
  obtain ⟨s, rfl⟩ := h
  rw [List.getElem?_append_left (List.getElem?_eq_some_iff.1 hk).1]
  exact hk
theorem Rep.mono : ∀ {t : Form} {o o' : List Nd} {k : Nat}, Rep t o k → o <+: o' → Rep t o' k
  | leaf .., _, _, _, h, p => at_prefix p h
  | un .., _, _, _, ⟨a, h1, h2⟩, p => ⟨a, h1.mono p, at_prefix p h2⟩
  | bin .., _, _, _, ⟨a, b, h1, h2, h3⟩, p => ⟨a, b, h1.mono p, h2.mono p, at_prefix p h3⟩
theorem rep_ins : ∀ (t : Form) (o : List Nd), Rep t (ins t o).2 (ins t o).1
  | leaf .., o => put_at _ o
  | un _ _ _ _ x, o => ⟨_, (rep_ins x o).mono (put_prefix _ _), put_at _ _⟩
  | bin _ _ _ _ x y, o => ⟨_, _, ((rep_ins x o).mono (ins_prefix y _)).mono (put_prefix _ _), (rep_ins y _).mono (put_prefix _ _), put_at _ _⟩
theorem ins_rep : ∀ {t : Form} {o : List Nd} {k : Nat}, o.Nodup → Rep t o k → ins t o = (k, o)
  | leaf .., o, k, hn, h => put_mem hn h
  | un op i e g x, o, k, hn, ⟨a, h1, h2⟩ => by
    unfold ins
    rw [ins_rep hn h1]
    exact put_mem hn h2
  | bin op i e g x y, o, k, hn, ⟨a, b, h1, h2, h3⟩ => by
    unfold ins
    rw [ins_rep hn h1]
    simp only
    rw [ins_rep hn h2]
    exact put_mem hn h3
theorem Rep.lt : ∀ {t : Form} {o : List Nd} {k : Nat}, Rep t o k → k < o.length
  | leaf .., _, _, h => (List.getElem?_eq_some_iff.1 h).1
  | un .., _, _, ⟨_, _, h⟩ => (List.getElem?_eq_some_iff.1 h).1
  | bin .., _, _, ⟨_, _, _, _, h⟩ => (List.getElem?_eq_some_iff.1 h).1

/-- Each operand stands before its node, and what is not used is zero. -/
def Ord (o : List Nd) : Prop := ∀ (k : Nat) (n : Nd), o[k]? = some n → (usesX n.op = true → 0 ≤ n.x ∧ n.x < k) ∧ (usesX n.op = false → n.x = 0) ∧ (usesY n.op = true → 0 ≤ n.y ∧ n.y < k) ∧ (usesY n.op = false → n.y = 0)
/-- The operators of a tree have the operands that they use. -/
def Fit : Form → Prop
  | leaf op .. => usesX op = false
  | un op _ _ _ x => usesX op = true ∧ usesY op = false ∧ Fit x
  | bin op _ _ _ x y => usesY op = true ∧ Fit x ∧ Fit y
theorem usesX_Y {o : Int} (h : usesX o = false) : usesY o = false := by
  cases hy : usesY o
  · rfl
  · rw [usesY_X hy] at h; cases h
theorem put_ord {n : Nd} {o : List Nd} (h : Ord o) (hn : (usesX n.op = true → 0 ≤ n.x ∧ n.x < o.length) ∧ (usesX n.op = false → n.x = 0) ∧ (usesY n.op = true → 0 ≤ n.y ∧ n.y < o.length) ∧ (usesY n.op = false → n.y = 0)) : Ord (put n o).2 := by
  unfold put
  split
  · exact h
  · intro k m hk
    by_cases hlt : k < o.length
    · rw [List.getElem?_append_left hlt] at hk
      exact h k m hk
    · rw [List.getElem?_append_right (by omega)] at hk
      have : k = o.length := by
        have := (List.getElem?_eq_some_iff.1 hk).1
        simp at this
        omega
      subst this
      simp at hk
      subst hk
      exact hn
theorem prefix_len {o o' : List Nd} (h : o <+: o') : o.length ≤ o'.length := h.length_le
theorem ft {b : Bool} {P : Prop} (h : b = false) (h' : b = true) : P := by rw [h] at h'; cases h'
theorem ins_ord : ∀ {t : Form} {o : List Nd}, Fit t → Ord o → Ord (ins t o).2
  | leaf op .., o, hf, h => put_ord h ⟨fun hx => ft hf hx, fun _ => rfl, fun hy => ft (usesX_Y hf) hy, fun _ => rfl⟩
  | un op _ _ _ x, o, ⟨h1, h2, h3⟩, h => by
    have hx := (rep_ins x o).lt
    exact put_ord (ins_ord h3 h) ⟨fun _ => ⟨by simp, by simp only; omega⟩, fun hx => ft hx h1, fun hy => ft h2 hy, fun _ => rfl⟩
  | bin op _ _ _ x y, o, ⟨h1, h2, h3⟩, h => by
    have hx := (rep_ins x o).lt
    have hy := (rep_ins y (ins x o).2).lt
    have hp := prefix_len (ins_prefix y (ins x o).2)
    exact put_ord (ins_ord h3 (ins_ord h2 h)) ⟨fun _ => ⟨by simp, by simp only; omega⟩, fun hx => ft hx (usesY_X h1), fun _ => ⟨by simp, by simp only; omega⟩, fun hy => ft hy h1⟩
theorem ord_nil : Ord [] := fun k n h => by simp at h

/-- The tree at a place of a list. -/
def tree (o : List Nd) (k : Nat) : Form :=
  let n := o.getD k default
  let X := if _h : n.x.toNat < k then tree o n.x.toNat else leaf 0 0 0 0
  let Y := if _h : n.y.toNat < k then tree o n.y.toNat else leaf 0 0 0 0
  if usesY n.op then bin n.op n.i n.e n.g X Y else if usesX n.op then un n.op n.i n.e n.g X else leaf n.op n.i n.e n.g
termination_by k
theorem tree_eq (o : List Nd) (k : Nat) : tree o k =
    if usesY (o.getD k default).op then bin (o.getD k default).op (o.getD k default).i (o.getD k default).e (o.getD k default).g (if (o.getD k default).x.toNat < k then tree o (o.getD k default).x.toNat else leaf 0 0 0 0) (if (o.getD k default).y.toNat < k then tree o (o.getD k default).y.toNat else leaf 0 0 0 0)
    else if usesX (o.getD k default).op then un (o.getD k default).op (o.getD k default).i (o.getD k default).e (o.getD k default).g (if (o.getD k default).x.toNat < k then tree o (o.getD k default).x.toNat else leaf 0 0 0 0)
    else leaf (o.getD k default).op (o.getD k default).i (o.getD k default).e (o.getD k default).g := by
  rw [tree]
  simp only [dite_eq_ite]
theorem tree_bin {o : List Nd} {k : Nat} {n : Nd} (h : o[k]? = some n) (hy : usesY n.op = true) (hx : n.x.toNat < k) (hyk : n.y.toNat < k) : tree o k = bin n.op n.i n.e n.g (tree o n.x.toNat) (tree o n.y.toNat) := by
  have e : o.getD k default = n := by rw [List.getD_eq_getElem?_getD, h]; rfl
  rw [tree_eq, e, if_pos hy, if_pos hx, if_pos hyk]
theorem tree_un {o : List Nd} {k : Nat} {n : Nd} (h : o[k]? = some n) (hy : usesY n.op = false) (hx : usesX n.op = true) (hxk : n.x.toNat < k) : tree o k = un n.op n.i n.e n.g (tree o n.x.toNat) := by
  have e : o.getD k default = n := by rw [List.getD_eq_getElem?_getD, h]; rfl
  rw [tree_eq, e, if_neg (by rw [hy]; simp), if_pos hx, if_pos hxk]
theorem tree_leaf {o : List Nd} {k : Nat} {n : Nd} (h : o[k]? = some n) (hx : usesX n.op = false) : tree o k = leaf n.op n.i n.e n.g := by
  have e : o.getD k default = n := by rw [List.getD_eq_getElem?_getD, h]; rfl
  rw [tree_eq, e, if_neg (by rw [usesX_Y hx]; simp), if_neg (by rw [hx]; simp)]
theorem tree_fit {o : List Nd} (h : Ord o) : ∀ k, k < o.length → Fit (tree o k) := by
  intro k
  induction k using Nat.strongRecOn with
  | _ k ih =>
    intro hk
    have hn := List.getElem?_eq_getElem hk
    obtain ⟨h1, h2, h3, h4⟩ := h k _ hn
    generalize o[k] = n at *
    cases hy : usesY n.op
    · cases hx : usesX n.op
      · rw [tree_leaf hn hx]
        exact hx
      · have := h1 hx
        rw [tree_un hn hy hx (by omega)]
        exact ⟨hx, hy, ih _ (by omega) (by omega)⟩
    · have a := h1 (usesY_X hy)
      have b := h3 hy
      rw [tree_bin hn hy (by omega) (by omega)]
      exact ⟨hy, ih _ (by omega) (by omega), ih _ (by omega) (by omega)⟩
/-- The tree at a place is what the place stands for. -/
theorem rep_tree {o : List Nd} (h : Ord o) : ∀ k, k < o.length → Rep (tree o k) o k := by
  intro k
  induction k using Nat.strongRecOn with
  | _ k ih =>
    intro hk
    have hn := List.getElem?_eq_getElem hk
    obtain ⟨h1, h2, h3, h4⟩ := h k _ hn
    generalize o[k] = n at *
    cases hy : usesY n.op
    · cases hx : usesX n.op
      · rw [tree_leaf hn hx]
        show o[k]? = some _
        rw [hn]
        obtain ⟨op, i, e, g, x, y⟩ := n
        have e1 := h2 hx
        have e2 := h4 hy
        simp only at e1 e2
        rw [e1, e2]
      · have a := h1 hx
        rw [tree_un hn hy hx (by omega)]
        refine ⟨_, ih _ (by omega) (by omega), ?_⟩
        rw [hn]
        obtain ⟨op, i, e, g, x, y⟩ := n
        have e2 := h4 hy
        simp only at e2 a ⊢
        rw [e2, Int.toNat_of_nonneg a.1]
    · have a := h1 (usesY_X hy)
      have b := h3 hy
      rw [tree_bin hn hy (by omega) (by omega)]
      refine ⟨_, _, ih _ (by omega) (by omega), ih _ (by omega) (by omega), ?_⟩
      rw [hn]
      obtain ⟨op, i, e, g, x, y⟩ := n
      simp only at a b ⊢
      rw [Int.toNat_of_nonneg a.1, Int.toNat_of_nonneg b.1]
theorem tree_of_rep {o : List Nd} (h : Ord o) : ∀ {t : Form} {k : Nat}, Fit t → Rep t o k → tree o k = t
  | leaf op i e g, k, hf, hr => tree_leaf hr hf
  | un op i e g x, k, ⟨h1, h2, h3⟩, ⟨a, ha, hk⟩ => by
    have hx := (h k _ hk).1 h1
    simp only at hx
    rw [tree_un hk h2 h1 (by simp only; omega)]
    simp only [Int.toNat_natCast]
    rw [tree_of_rep h h3 ha]
  | bin op i e g x y, k, ⟨h1, h2, h3⟩, ⟨a, b, ha, hb, hk⟩ => by
    have hx := (h k _ hk).1 (usesY_X h1)
    have hy := (h k _ hk).2.2.1 h1
    simp only at hx hy
    rw [tree_bin hk h1 (by simp only; omega) (by simp only; omega)]
    simp only [Int.toNat_natCast]
    rw [tree_of_rep h h2 ha, tree_of_rep h h3 hb]
theorem tree_ins {t : Form} (hf : Fit t) {o : List Nd} (h : Ord o) : tree (ins t o).2 (ins t o).1 = t := tree_of_rep (ins_ord hf h) hf (rep_ins t o)

/-- Every place of the list that a tree makes from nothing stands for a part of it. -/
theorem ins_parts : ∀ (t : Form) (o : List Nd) (k : Nat), k < (ins t o).2.length → k < o.length ∨ ∃ s : Form, Rep s (ins t o).2 k ∧ s.size ≤ t.size ∧ (k ≠ (ins t o).1 → s.size < t.size) ∧ (Fit t → Fit s)
  | t, o, k, hk => by
    by_cases hko : k < o.length
    · exact .inl hko
    by_cases hkr : k = (ins t o).1
    · subst hkr
      exact .inr ⟨t, rep_ins t o, Nat.le_refl _, fun h => absurd rfl h, id⟩
    right
    have hput : ∀ (n : Nd) (p : List Nd), k < (put n p).2.length → k ≠ (put n p).1 → k < p.length := fun n p => by
      unfold put
      split
      · exact fun h _ => h
      · intro h1 h2
        simp at h1 h2
        omega
    cases t with
    | leaf op i e g => exact absurd (hput _ _ hk hkr) hko
    | un op i e g x =>
      have h1 := hput _ _ hk hkr
      rcases ins_parts x o k h1 with h | ⟨s, hs, hl, _, hf⟩
      · exact absurd h hko
      · exact ⟨s, hs.mono (put_prefix _ _), by simp only [size]; omega, fun _ => by simp only [size]; omega, fun h => hf h.2.2⟩
    | bin op i e g x y =>
      have h1 := hput _ _ hk hkr
      rcases ins_parts y _ k h1 with h | ⟨s, hs, hl, _, hf⟩
      · rcases ins_parts x o k h with h | ⟨s, hs, hl, _, hf⟩
        · exact absurd h hko
        · exact ⟨s, (hs.mono (ins_prefix y _)).mono (put_prefix _ _), by simp only [size]; omega, fun _ => by simp only [size]; omega, fun h => hf h.2.1⟩
      · exact ⟨s, hs.mono (put_prefix _ _), by simp only [size]; omega, fun _ => by simp only [size]; omega, fun h => hf h.2.2⟩
/-- A place stands for one tree at most. -/
theorem Rep.unique : ∀ {t s : Form} {o : List Nd} {k : Nat}, Fit t → Fit s → Rep t o k → Rep s o k → t = s
  | leaf .., s, o, k, ft, fs, ht, hs => by
    cases s with
    | leaf => have := ht.symm.trans hs; simp_all
    | un => obtain ⟨a, _, h⟩ := hs; have := ht.symm.trans h; simp only [Fit] at ft fs; simp_all
    | bin => obtain ⟨a, b, _, _, h⟩ := hs; have := ht.symm.trans h; simp only [Fit] at ft fs; have := usesY_X fs.1; simp_all
  | un op i e g x, s, o, k, ft, fs, ⟨a, ha, ht⟩, hs => by
    cases s with
    | leaf => have := ht.symm.trans hs; simp only [Fit] at ft fs; simp_all
    | un op' i' e' g' x' =>
      obtain ⟨b, hb, h⟩ := hs
      have e := ht.symm.trans h
      simp only [Option.some.injEq, Nd.mk.injEq] at e
      obtain ⟨rfl, rfl, rfl, rfl, e5, _⟩ := e
      obtain rfl : a = b := by omega
      rw [Rep.unique ft.2.2 fs.2.2 ha hb]
    | bin => obtain ⟨b, c, _, _, h⟩ := hs; have := ht.symm.trans h; simp only [Fit] at ft fs; simp_all
  | bin op i e g x y, s, o, k, ft, fs, ⟨a, b, ha, hb, ht⟩, hs => by
    cases s with
    | leaf => have := ht.symm.trans hs; simp only [Fit] at ft fs; have := usesY_X ft.1; simp_all
    | un => obtain ⟨c, _, h⟩ := hs; have := ht.symm.trans h; simp only [Fit] at ft fs; simp_all
    | bin op' i' e' g' x' y' =>
      obtain ⟨c, d, hc, hd, h⟩ := hs
      have e := ht.symm.trans h
      simp only [Option.some.injEq, Nd.mk.injEq] at e
      obtain ⟨rfl, rfl, rfl, rfl, e5, e6⟩ := e
      obtain rfl : a = c := by omega
      obtain rfl : b = d := by omega
      rw [Rep.unique ft.2.1 fs.2.1 ha hc, Rep.unique ft.2.2 fs.2.2 hb hd]

/-- The root of a canonical list is its last place. -/
theorem cl_root {t : Form} (hf : Fit t) : (ins t []).1 + 1 = (cl t).length := by
  have key : ∀ (n : Nd) (p : List Nd), put n p = ins t [] → (∀ k, k < p.length → ∃ s : Form, Rep s p k ∧ s.size < t.size ∧ Fit s) → (ins t []).1 + 1 = (ins t []).2.length := by
    intro n p e hp
    rw [← e]
    have e1 : (put n p).1 = (ins t []).1 := by rw [e]
    have e2 : (put n p).2 = (ins t []).2 := by rw [e]
    have hr := rep_ins t []
    rw [← e1, ← e2] at hr
    unfold put at hr ⊢
    split
    · next h =>
      rw [if_pos h] at hr
      obtain ⟨s, hs, hl, hfs⟩ := hp _ (List.idxOf_lt_length_of_mem h)
      rw [Rep.unique hfs hf hs hr] at hl
      omega
    · simp
  cases t with
  | leaf op i e g => exact key ⟨op, i, e, g, 0, 0⟩ [] rfl fun k h => by simp at h
  | un op i e g x =>
    refine key ⟨op, i, e, g, ((ins x []).1 : Nat), 0⟩ (ins x []).2 rfl fun k h => ?_
    rcases ins_parts x [] k h with h | ⟨s, hs, hl, _, hfs⟩
    · simp at h
    · exact ⟨s, hs, by simp only [size]; omega, hfs hf.2.2⟩
  | bin op i e g x y =>
    refine key ⟨op, i, e, g, ((ins x []).1 : Nat), ((ins y (ins x []).2).1 : Nat)⟩ (ins y (ins x []).2).2 rfl fun k h => ?_
    rcases ins_parts y _ k h with h | ⟨s, hs, hl, _, hfs⟩
    · rcases ins_parts x [] k h with h | ⟨s, hs, hl, _, hfs⟩
      · simp at h
      · exact ⟨s, hs.mono (ins_prefix y _), by simp only [size]; omega, hfs hf.2.1⟩
    · exact ⟨s, hs, by simp only [size]; omega, hfs hf.2.2⟩
theorem cl_pos (t : Form) : 0 < (cl t).length := by
  have := (rep_ins t []).lt
  unfold cl
  omega
theorem cl_ord {t : Form} (hf : Fit t) : Ord (cl t) := ins_ord hf ord_nil
theorem cl_nodup (t : Form) : (cl t).Nodup := ins_nodup t List.nodup_nil
theorem cl_rep {t : Form} (hf : Fit t) : Rep t (cl t) ((cl t).length - 1) := by
  have := cl_root hf
  have e : (ins t []).1 = (cl t).length - 1 := by omega
  rw [← e]
  exact rep_ins t []
theorem cl_tree {t : Form} (hf : Fit t) : tree (cl t) ((cl t).length - 1) = t := tree_of_rep (cl_ord hf) hf (cl_rep hf)
theorem cl_inj {t s : Form} (ht : Fit t) (hs : Fit s) (h : cl t = cl s) : t = s := by
  rw [← cl_tree ht, ← cl_tree hs, h]
theorem cl_prefix_un (op i e g : Int) (x : Form) : (cl x).length ≤ (cl (un op i e g x)).length := (put_prefix _ _).length_le
theorem cl_prefix_bin (op i e g : Int) (x y : Form) : (cl x).length ≤ (cl (bin op i e g x y)).length := ((ins_prefix y _).trans (put_prefix _ _)).length_le

theorem len_sub {α : Type} [DecidableEq α] : ∀ (a b : List α), a.Nodup → (∀ x ∈ a, x ∈ b) → a.length ≤ b.length
  | [], b, _, _ => by simp
  | x :: a, b, hn, h => by
    obtain ⟨h1, h2⟩ := List.nodup_cons.1 hn
    have hx := h x (by simp)
    have := len_sub a (b.erase x) h2 fun y hy => (List.mem_erase_of_ne (by rintro rfl; exact h1 hy)).2 (h y (by simp [hy]))
    rw [List.length_erase_of_mem hx] at this
    have := List.length_pos_of_mem hx
    simp only [List.length_cons]
    omega
/-- The parts of a tree. -/
def parts : Form → List Form
  | leaf op i e g => [leaf op i e g]
  | un op i e g x => un op i e g x :: parts x
  | bin op i e g x y => bin op i e g x y :: (parts x ++ parts y)
theorem parts_self : ∀ t, t ∈ parts t
  | leaf .. => by simp [parts]
  | un .. => by simp [parts]
  | bin .. => by simp [parts]
theorem parts_rep : ∀ {t : Form} {o : List Nd} {k : Nat}, Rep t o k → ∀ s ∈ parts t, ∃ j, Rep s o j
  | leaf .., o, k, h, s, hs => by
    simp only [parts, List.mem_singleton] at hs
    subst hs
    exact ⟨k, h⟩
  | un .., o, k, h, s, hs => by
    simp only [parts, List.mem_cons] at hs
    rcases hs with rfl | hs
    · exact ⟨k, h⟩
    · obtain ⟨a, h1, _⟩ := h
      exact parts_rep h1 s hs
  | bin .., o, k, h, s, hs => by
    simp only [parts, List.mem_cons, List.mem_append] at hs
    rcases hs with rfl | hs | hs
    · exact ⟨k, h⟩
    · obtain ⟨a, b, h1, _, _⟩ := h
      exact parts_rep h1 s hs
    · obtain ⟨a, b, _, h1, _⟩ := h
      exact parts_rep h1 s hs
theorem ins_place : ∀ (t : Form) (o : List Nd) (k : Nat), k < (ins t o).2.length → k < o.length ∨ ∃ s ∈ parts t, Rep s (ins t o).2 k
  | t, o, k, hk => by
    by_cases hko : k < o.length
    · exact .inl hko
    by_cases hkr : k = (ins t o).1
    · subst hkr
      exact .inr ⟨t, parts_self t, rep_ins t o⟩
    right
    have hput : ∀ (n : Nd) (p : List Nd), k < (put n p).2.length → k ≠ (put n p).1 → k < p.length := fun n p => by
      unfold put
      split
      · exact fun h _ => h
      · intro h1 h2
        simp at h1 h2
        omega
    cases t with
    | leaf op i e g => exact absurd (hput _ _ hk hkr) hko
    | un op i e g x =>
      rcases ins_place x o k (hput _ _ hk hkr) with h | ⟨s, hm, hs⟩
      · exact absurd h hko
      · exact ⟨s, by simp [parts, hm], hs.mono (put_prefix _ _)⟩
    | bin op i e g x y =>
      rcases ins_place y _ k (hput _ _ hk hkr) with h | ⟨s, hm, hs⟩
      · rcases ins_place x o k h with h | ⟨s, hm, hs⟩
        · exact absurd h hko
        · exact ⟨s, by simp [parts, hm], (hs.mono (ins_prefix y _)).mono (put_prefix _ _)⟩
      · exact ⟨s, by simp [parts, hm], hs.mono (put_prefix _ _)⟩
theorem parts_fit : ∀ {t : Form}, Fit t → ∀ s ∈ parts t, Fit s
  | leaf .., h, s, hs => by
    simp only [parts, List.mem_singleton] at hs
    subst hs
    exact h
  | un .., h, s, hs => by
    simp only [parts, List.mem_cons] at hs
    rcases hs with rfl | hs
    · exact h
    · exact parts_fit h.2.2 s hs
  | bin .., h, s, hs => by
    simp only [parts, List.mem_cons, List.mem_append] at hs
    rcases hs with rfl | hs | hs
    · exact h
    · exact parts_fit h.2.1 s hs
    · exact parts_fit h.2.2 s hs
/-- A part has no longer list than the whole: wherever all places of the one are known. -/
theorem cl_le_of_rep {t : Form} (ft : Fit t) {o : List Nd} {k : Nat} (h : Rep t o k) : (cl t).length ≤ o.length := by
  have hq : ∀ j, ∃ a, j < (cl t).length → ∃ s ∈ parts t, Rep s (cl t) j ∧ Rep s o a := fun j => by
    by_cases hj : j < (cl t).length
    · rcases ins_place t [] j hj with h' | ⟨s, hm, hs⟩
      · simp at h'
      · obtain ⟨a, ha⟩ := parts_rep h s hm
        exact ⟨a, fun _ => ⟨s, hm, hs, ha⟩⟩
    · exact ⟨0, fun h => absurd h hj⟩
  let φ : Nat → Nat := fun j => (hq j).choose
  have hφ : ∀ j, j < (cl t).length → ∃ s ∈ parts t, Rep s (cl t) j ∧ Rep s o (φ j) := fun j hj => (hq j).choose_spec hj
  have hinj : ∀ i j, i < (cl t).length → j < (cl t).length → φ i = φ j → i = j := fun i j hi hj e => by
    obtain ⟨s, m1, h1, h2⟩ := hφ i hi
    obtain ⟨s', m2, h3, h4⟩ := hφ j hj
    rw [e] at h2
    obtain rfl : s = s' := Rep.unique (parts_fit ft s m1) (parts_fit ft s' m2) h2 h4
    have e3 := (ins_rep (cl_nodup t) h1).symm.trans (ins_rep (cl_nodup t) h3)
    exact (Prod.mk.inj e3).1
  have hnd : ((List.range (cl t).length).map φ).Nodup := by
    rw [List.Nodup, List.pairwise_map]
    refine List.Pairwise.imp_of_mem ?_ List.nodup_range
    intro a b ha hb hab e
    exact hab (hinj a b (List.mem_range.1 ha) (List.mem_range.1 hb) e)
  have := len_sub _ (List.range o.length) hnd fun x hx => by
    obtain ⟨j, hj, rfl⟩ := List.mem_map.1 hx
    obtain ⟨s, _, _, h2⟩ := hφ j (List.mem_range.1 hj)
    exact List.mem_range.2 h2.lt
  simpa using this
theorem cl_le_bin (op i e g : Int) (x y : Form) (fy : Fit y) : (cl y).length ≤ (cl (bin op i e g x y)).length := by
  refine cl_le_of_rep fy (k := (ins y (ins x []).2).1) ?_
  exact (rep_ins y (ins x []).2).mono (put_prefix _ _)
end Fm
namespace Fm
open Form

/-- Whether the fields beside the operands are right for an operator. -/
def zeroed (n : Nd) : Bool := (usesFact n.op || usesAgent n.op || usesEvent n.op || decide (n.i = 0)) && (usesEvent n.op || decide (n.e = 0)) && (usesGroup n.op || decide (n.g = 0))
def within (u : Bool) (v a b : Int) : Bool := !u || (decide (a ≤ v) && decide (v ≤ b))
def ranged (n : Nd) : Bool := within (usesFact n.op) n.i 0 7 && within (usesAgent n.op) n.i 0 3 && within (usesEvent n.op) n.i 0 7 && within (usesEvent n.op) n.e 0 7 && within (usesGroup n.op) n.g 1 15
def operandB (u : Bool) (v k : Int) : Bool := if u then decide (0 ≤ v) && decide (v < k) else decide (v = 0)
/-- The error of a node at a place. -/
def nodeE (n : Nd) (k : Int) : Int :=
  if isOp n.op = false then 10 else if (operandB (usesX n.op) n.x k && operandB (usesY n.op) n.y k) = false then 3 else if zeroed n = false then 3 else if ranged n = false then 2 else 0
def nodesE : List Nd → Nat → Int
  | [], _ => 0
  | n :: l, k => if nodeE n k ≠ 0 then nodeE n k else nodesE l (k + 1)
def checkE (f : List Nd) : Int := if f.length = 0 then 3 else if 200 < f.length then 8 else nodesE f 0

theorem nodesE_zero : ∀ {l : List Nd} {k : Nat}, nodesE l k = 0 ↔ ∀ j n, l[j]? = some n → nodeE n ((k + j : Nat) : Int) = 0
  | [], k => by simp [nodesE]
  | n :: l, k => by
    unfold nodesE
    by_cases h : nodeE n k = 0
    · rw [if_neg (by simp [h]), nodesE_zero]
      constructor
      · intro g j m hj
        cases j with
        | zero => simp at hj; subst hj; simpa using h
        | succ j => have := g j m (by simpa using hj); rwa [show k + 1 + j = k + (j + 1) by omega] at this
      · intro g j m hj
        have := g (j + 1) m (by simpa using hj)
        rwa [show k + (j + 1) = k + 1 + j by omega] at this
    · rw [if_pos h]
      constructor
      · intro g; exact absurd g h
      · intro g
        have := g 0 n (by simp)
        exact absurd (by simpa using this) h
theorem checkE_zero {f : List Nd} : checkE f = 0 ↔ 0 < f.length ∧ f.length ≤ 200 ∧ ∀ j n, f[j]? = some n → nodeE n ((j : Nat) : Int) = 0 := by
  unfold checkE
  by_cases h0 : f.length = 0
  · rw [if_pos h0]; constructor
    · intro h; cases h
    · intro h; omega
  · rw [if_neg h0]
    by_cases h1 : 200 < f.length
    · rw [if_pos h1]; constructor
      · intro h; cases h
      · intro h; omega
    · rw [if_neg h1, nodesE_zero]
      constructor
      · intro h; exact ⟨by omega, by omega, fun j n hj => by have := h j n hj; rwa [Nat.zero_add] at this⟩
      · intro h j n hj; rw [Nat.zero_add]; exact h.2.2 j n hj
/-- Whether a node's own fields are right. -/
def own (op i e g : Int) : Bool := isOp op && zeroed ⟨op, i, e, g, 0, 0⟩ && ranged ⟨op, i, e, g, 0, 0⟩
theorem nodeE_zero {n : Nd} {k : Int} : nodeE n k = 0 ↔ own n.op n.i n.e n.g = true ∧ operandB (usesX n.op) n.x k = true ∧ operandB (usesY n.op) n.y k = true := by
  unfold nodeE own
  have e1 : zeroed ⟨n.op, n.i, n.e, n.g, 0, 0⟩ = zeroed n := rfl
  have e2 : ranged ⟨n.op, n.i, n.e, n.g, 0, 0⟩ = ranged n := rfl
  rw [e1, e2]
  cases isOp n.op <;> cases operandB (usesX n.op) n.x k <;> cases operandB (usesY n.op) n.y k <;> cases zeroed n <;> cases ranged n <;> simp
theorem operandB_ord {u : Bool} {v k : Int} : operandB u v k = true ↔ (u = true → 0 ≤ v ∧ v < k) ∧ (u = false → v = 0) := by
  unfold operandB
  cases u <;> simp
theorem check_ord {f : List Nd} (h : checkE f = 0) : Ord f := fun k n hk => by
  have := (nodeE_zero.1 ((checkE_zero.1 h).2.2 k n hk)).2
  have h1 := operandB_ord.1 this.1
  have h2 := operandB_ord.1 this.2
  exact ⟨h1.1, h1.2, h2.1, h2.2⟩
/-- A tree all of whose nodes are right. -/
def Good : Form → Prop
  | leaf op i e g => usesX op = false ∧ own op i e g = true
  | un op i e g x => usesX op = true ∧ usesY op = false ∧ own op i e g = true ∧ Good x
  | bin op i e g x y => usesY op = true ∧ own op i e g = true ∧ Good x ∧ Good y
theorem Good.fit : ∀ {t : Form}, Good t → Fit t
  | leaf .., h => h.1
  | un .., h => ⟨h.1, h.2.1, Good.fit h.2.2.2⟩
  | bin .., h => ⟨h.1, Good.fit h.2.2.1, Good.fit h.2.2.2⟩
def OwnAll (o : List Nd) : Prop := ∀ (k : Nat) (n : Nd), o[k]? = some n → own n.op n.i n.e n.g = true
theorem put_own {n : Nd} {o : List Nd} (h : OwnAll o) (hn : own n.op n.i n.e n.g = true) : OwnAll (put n o).2 := by
  unfold put
  split
  · exact h
  · intro k m hk
    by_cases hlt : k < o.length
    · rw [List.getElem?_append_left hlt] at hk
      exact h k m hk
    · rw [List.getElem?_append_right (by omega)] at hk
      have := List.mem_of_getElem? hk
      simp at this
      subst this
      exact hn
theorem ins_own : ∀ {t : Form} {o : List Nd}, Good t → OwnAll o → OwnAll (ins t o).2
  | leaf .., _, h, ho => put_own ho h.2
  | un .., _, h, ho => put_own (ins_own h.2.2.2 ho) h.2.2.1
  | bin .., _, h, ho => put_own (ins_own h.2.2.2 (ins_own h.2.2.1 ho)) h.2.1
theorem good_check {o : List Nd} (h1 : Ord o) (h2 : OwnAll o) (h0 : 0 < o.length) (hl : o.length ≤ 200) : checkE o = 0 :=
  checkE_zero.2 ⟨h0, hl, fun k n hk => by
    obtain ⟨a, b, c, d⟩ := h1 k n hk
    exact nodeE_zero.2 ⟨h2 k n hk, operandB_ord.2 ⟨a, b⟩, operandB_ord.2 ⟨c, d⟩⟩⟩
theorem cl_check {t : Form} (h : Good t) (hl : (cl t).length ≤ 200) : checkE (cl t) = 0 :=
  good_check (cl_ord h.fit) (ins_own h fun k n hk => by simp at hk) (cl_pos t) hl
theorem cl_check_long {t : Form} (hl : 200 < (cl t).length) : checkE (cl t) = 8 := by
  unfold checkE
  have := cl_pos t
  rw [if_neg (by omega), if_pos hl]
theorem tree_good {o : List Nd} (h1 : Ord o) (h2 : OwnAll o) : ∀ k, k < o.length → Good (tree o k) := by
  intro k
  induction k using Nat.strongRecOn with
  | _ k ih =>
    intro hk
    have hn := List.getElem?_eq_getElem hk
    obtain ⟨a1, a2, a3, a4⟩ := h1 k _ hn
    have ho := h2 k _ hn
    generalize o[k] = n at *
    cases hy : usesY n.op
    · cases hx : usesX n.op
      · rw [tree_leaf hn hx]
        exact ⟨hx, ho⟩
      · have := a1 hx
        rw [tree_un hn hy hx (by omega)]
        exact ⟨hx, hy, ho, ih _ (by omega) (by omega)⟩
    · have a := a1 (usesY_X hy)
      have b := a3 hy
      rw [tree_bin hn hy (by omega) (by omega)]
      exact ⟨hy, ho, ih _ (by omega) (by omega), ih _ (by omega) (by omega)⟩
theorem check_own {f : List Nd} (h : checkE f = 0) : OwnAll f := fun k n hk => (nodeE_zero.1 ((checkE_zero.1 h).2.2 k n hk)).1
/-- A list of right nodes, operands ahead of their nodes, not too long for a walk. -/
structure Okf (f : List Nd) : Prop where
  ord : Ord f
  own : OwnAll f
  len : f.length ≤ 1000
theorem Okf.of_check {f : List Nd} (h : checkE f = 0) : Okf f := ⟨check_ord h, check_own h, by have := (checkE_zero.1 h).2.1; omega⟩
/-- The tree of a list. -/
def tr (f : List Nd) : Form := tree f (f.length - 1)
theorem tr_good {f : List Nd} (h : checkE f = 0) : Good (tr f) := tree_good (check_ord h) (check_own h) _ (by have := (checkE_zero.1 h).1; omega)
theorem tr_cl {t : Form} (h : Fit t) : tr (cl t) = t := cl_tree h
/-- The canonical list of a part of a list. -/
def subL (f : List Nd) (k : Int) : List Nd := if checkE f ≠ 0 ∨ k < 0 ∨ (f.length : Int) ≤ k then [] else cl (tree f k.toNat)
def compactL (f : List Nd) : List Nd := subL f ((f.length : Int) - 1)
theorem compactL_ok {f : List Nd} (h : checkE f = 0) : compactL f = cl (tr f) := by
  have := (checkE_zero.1 h).1
  unfold compactL subL tr
  rw [if_neg (by omega), show ((f.length : Int) - 1).toNat = f.length - 1 by omega]
theorem compactL_bad {f : List Nd} (h : checkE f ≠ 0) : compactL f = [] := by
  unfold compactL subL
  rw [if_pos (.inl h)]
theorem cl_tr_le {f : List Nd} (h : checkE f = 0) : (cl (tr f)).length ≤ f.length :=
  cl_le_of_rep (tr_good h).fit (rep_tree (check_ord h) _ (by have := (checkE_zero.1 h).1; omega))

/-- A list behind another. -/
def shiftN (m : Nat) (n : Nd) : Nd := ⟨n.op, n.i, n.e, n.g, if usesX n.op then n.x + m else n.x, if usesY n.op then n.y + m else n.y⟩
def shiftL (m : Nat) (o : List Nd) : List Nd := o.map (shiftN m)
theorem shift_zero (o : List Nd) : shiftL 0 o = o := by
  unfold shiftL
  conv => rhs; rw [← List.map_id o]
  refine List.map_congr_left fun n _ => ?_
  obtain ⟨op, i, e, g, x, y⟩ := n
  simp [shiftN]
theorem rep_shift : ∀ {t : Form} {p o : List Nd} {k : Nat}, Fit t → Rep t o k → Rep t (p ++ shiftL p.length o) (p.length + k)
  | leaf op i e g, p, o, k, hf, h => by
    show (p ++ shiftL p.length o)[p.length + k]? = _
    rw [List.getElem?_append_right (by omega), Nat.add_sub_cancel_left, shiftL, List.getElem?_map, show o[k]? = _ from h]
    have hf1 : usesX op = false := hf
    simp [shiftN, hf1, usesX_Y hf1]
  | un op i e g x, p, o, k, hf, ⟨a, ha, h⟩ => by
    refine ⟨p.length + a, rep_shift hf.2.2 ha, ?_⟩
    rw [List.getElem?_append_right (by omega), Nat.add_sub_cancel_left, shiftL, List.getElem?_map, h]
    simp [shiftN, hf.1, hf.2.1, Int.add_comm]
  | bin op i e g x y, p, o, k, hf, ⟨a, b, ha, hb, h⟩ => by
    refine ⟨p.length + a, p.length + b, rep_shift hf.2.1 ha, rep_shift hf.2.2 hb, ?_⟩
    rw [List.getElem?_append_right (by omega), Nat.add_sub_cancel_left, shiftL, List.getElem?_map, h]
    simp [shiftN, hf.1, usesY_X hf.1, Int.add_comm]
theorem ord_append {p o : List Nd} (hp : Ord p) (ho : Ord o) : Ord (p ++ shiftL p.length o) := by
  intro k n hk
  by_cases hlt : k < p.length
  · rw [List.getElem?_append_left hlt] at hk
    exact hp k n hk
  · rw [List.getElem?_append_right (by omega), shiftL, List.getElem?_map] at hk
    obtain ⟨m, hm, rfl⟩ := Option.map_eq_some_iff.1 hk
    obtain ⟨h1, h2, h3, h4⟩ := ho _ m hm
    refine ⟨fun hx => ?_, fun hx => ?_, fun hy => ?_, fun hy => ?_⟩
    · have hx' : usesX m.op = true := hx
      have := h1 hx'
      simp only [shiftN, hx', if_true]
      omega
    · have hx' : usesX m.op = false := hx
      simp only [shiftN, hx']
      exact h2 hx'
    · have hy' : usesY m.op = true := hy
      have := h3 hy'
      simp only [shiftN, hy', if_true]
      omega
    · have hy' : usesY m.op = false := hy
      simp only [shiftN, hy']
      exact h4 hy'
theorem ord_snoc {f : List Nd} (h : Ord f) {n : Nd} (hx : operandB (usesX n.op) n.x f.length = true) (hy : operandB (usesY n.op) n.y f.length = true) : Ord (f ++ [n]) := by
  intro k m hk
  by_cases hlt : k < f.length
  · rw [List.getElem?_append_left hlt] at hk
    exact h k m hk
  · rw [List.getElem?_append_right (by omega)] at hk
    have hk0 : k = f.length := by
      have := (List.getElem?_eq_some_iff.1 hk).1
      simp at this
      omega
    subst hk0
    simp at hk
    subst hk
    have h1 := operandB_ord.1 hx
    have h2 := operandB_ord.1 hy
    exact ⟨h1.1, h1.2, h2.1, h2.2⟩
/-- What is built: from nothing, from one formula, from two. -/
def capped (c : List Nd) : List Nd := if 200 < c.length then [] else c
def mk0 (op i e g : Int) : List Nd := if own op i e g = false then [] else capped (cl (leaf op i e g))
def mk1 (op i e g : Int) (a : List Nd) : List Nd := if checkE a ≠ 0 ∨ own op i e g = false then [] else capped (cl (un op i e g (tr a)))
def mk2 (op i e g : Int) (a b : List Nd) : List Nd := if checkE a ≠ 0 ∨ checkE b ≠ 0 ∨ own op i e g = false then [] else capped (cl (bin op i e g (tr a) (tr b)))
theorem build0 {op i e g : Int} (h : usesX op = false) : tree [⟨op, i, e, g, 0, 0⟩] 0 = leaf op i e g := tree_leaf (n := ⟨op, i, e, g, 0, 0⟩) rfl h
theorem at_snoc (f : List Nd) (n : Nd) : (f ++ [n])[f.length]? = some n := by simp
theorem build1 {t : Form} (ht : Fit t) {op i e g : Int} (hx : usesX op = true) (hy : usesY op = false) {x : Int} (hxe : x = ((cl t).length : Int) - 1) : tree (cl t ++ [⟨op, i, e, g, x, 0⟩]) (cl t).length = un op i e g t := by
  have h0 := cl_pos t
  have e : x = (((cl t).length - 1 : Nat) : Int) := by omega
  subst e
  refine tree_of_rep (ord_snoc (cl_ord ht) ?_ ?_) ⟨hx, hy, ht⟩ ⟨_, (cl_rep ht).mono (List.prefix_append _ _), at_snoc _ _⟩
  · simp only [hx]
    unfold operandB
    simp
    omega
  · simp only [hy]
    unfold operandB
    simp
theorem build2 {t s : Form} (ht : Fit t) (hs : Fit s) {op i e g : Int} (hy : usesY op = true) {x y : Int} (hxe : x = ((cl t).length : Int) - 1) (hye : y = ((cl t ++ shiftL (cl t).length (cl s)).length : Int) - 1) :
    tree ((cl t ++ shiftL (cl t).length (cl s)) ++ [⟨op, i, e, g, x, y⟩]) (cl t ++ shiftL (cl t).length (cl s)).length = bin op i e g t s := by
  have h0 := cl_pos t
  have h1 := cl_pos s
  have hl : (cl t ++ shiftL (cl t).length (cl s)).length = (cl t).length + (cl s).length := by simp [shiftL]
  have e1 : x = (((cl t).length - 1 : Nat) : Int) := by omega
  have e2 : y = (((cl t).length + ((cl s).length - 1) : Nat) : Int) := by omega
  subst e1 e2
  refine tree_of_rep (ord_snoc (ord_append (cl_ord ht) (cl_ord hs)) ?_ ?_) ⟨hy, ht, hs⟩ ⟨_, _, ((cl_rep ht).mono (List.prefix_append _ _)).mono (List.prefix_append _ _), (rep_shift hs (cl_rep hs)).mono (List.prefix_append _ _), at_snoc _ _⟩
  · simp only [usesY_X hy, hl]
    unfold operandB
    simp
    omega
  · simp only [hy, hl]
    unfold operandB
    simp
    omega
end Fm
