/- Plain theory of reduced ordered decision diagrams: what a node list denotes; equal functions have one number; the canonical list of a function. No program in sight. Plain theory of decision diagrams, continued: lists that grow; the canonical list is good and means the same. Plain theory of decision diagrams, continued: a node that is made or found; if-then-else; a list that is loaded. Plain theory of decision diagrams, continued: the canonical list is not longer than the list it comes from. Plain theory of decision diagrams, continued: the error of a diagram as it comes in, and what is known of one without an error. Plain theory of decision diagrams, continued: a transformation that is pushed down through the nodes with a memory of results; restricting and quantifying. Plain theory of decision diagrams, continued: support, the first assignment, and the number of assignments. Plain theory of decision diagrams, continued: the canonical list of a function of V variables: its variables, its length; it is a valid diagram. Plain theory of decision diagrams, continued: what is counted, and the first assignment. Plain theory of decision diagrams, continued: an operation that is applied to two diagrams. Plain theory of decision diagrams, continued: how long a canonical list of at most 24 variables can be. Plain theory of decision diagrams, continued: a diagram that is restricted into another list. No condition. -/
import Derived.Below
set_option linter.unusedVariables false
set_option linter.unusedSimpArgs false
namespace Go.Proofs.YtgdmcidcappkpaaDoor.Dd

abbrev Nd := Nat × Nat × Nat

/-- The variable that a number tests; 24 for the constants. -/
def var (N : List Nd) (i : Nat) : Nat := if i < 2 then 24 else (N.getD (i - 2) (0, 0, 0)).1
def lo (N : List Nd) (i : Nat) : Nat := (N.getD (i - 2) (0, 0, 0)).2.1
def hi (N : List Nd) (i : Nat) : Nat := (N.getD (i - 2) (0, 0, 0)).2.2

def denF (N : List Nd) (ρ : Nat → Bool) : Nat → Nat → Bool
  | 0, _ => false
  | _ + 1, 0 => false
  | _ + 1, 1 => true
  | f + 1, i + 2 => if ρ (var N (i + 2)) then denF N ρ f (hi N (i + 2)) else denF N ρ f (lo N (i + 2))
/-- What number i means. -/
def den (N : List Nd) (i : Nat) (ρ : Nat → Bool) : Bool := denF N ρ (i + 1) i

/-- Ordered, reduced, without equal nodes. -/
structure Good (N : List Nd) : Prop where
  bound : ∀ i, 2 ≤ i → i < N.length + 2 → var N i < 24
  lo_lt : ∀ i, 2 ≤ i → i < N.length + 2 → lo N i < i
  hi_lt : ∀ i, 2 ≤ i → i < N.length + 2 → hi N i < i
  ne : ∀ i, 2 ≤ i → i < N.length + 2 → lo N i ≠ hi N i
  lo_var : ∀ i, 2 ≤ i → i < N.length + 2 → var N i < var N (lo N i)
  hi_var : ∀ i, 2 ≤ i → i < N.length + 2 → var N i < var N (hi N i)
  nodup : N.Nodup

theorem Good.nil : Good [] := by
  constructor <;> (try (intro i h1 h2; simp at h2; omega))
  exact List.nodup_nil

section
variable {N M : List Nd}

theorem denF_stable (G : Good N) (ρ : Nat → Bool) : ∀ f i, i < N.length + 2 → i < f → denF N ρ f i = denF N ρ (i + 1) i := by
  intro f
  induction f using Nat.strongRecOn with
  | _ f ih =>
    intro i hi0 hif
    match f, i with
    | f + 1, 0 => rfl
    | f + 1, 1 => rfl
    | f + 1, i + 2 =>
      have h1 := G.lo_lt (i + 2) (by omega) hi0
      have h2 := G.hi_lt (i + 2) (by omega) hi0
      simp only [denF]
      by_cases hfi : f = i + 2
      · rw [hfi]
      · rw [ih f (by omega) (hi N (i + 2)) (by omega) (by omega), ih f (by omega) (lo N (i + 2)) (by omega) (by omega),
          ih (i + 2) (by omega) (hi N (i + 2)) (by omega) (by omega), ih (i + 2) (by omega) (lo N (i + 2)) (by omega) (by omega)]

@[simp] theorem den_zero (N : List Nd) (ρ : Nat → Bool) : den N 0 ρ = false := rfl
@[simp] theorem den_one (N : List Nd) (ρ : Nat → Bool) : den N 1 ρ = true := rfl
theorem den_node (G : Good N) {i : Nat} (h2 : 2 ≤ i) (hl : i < N.length + 2) (ρ : Nat → Bool) : den N i ρ = if ρ (var N i) then den N (hi N i) ρ else den N (lo N i) ρ := by
  obtain ⟨j, rfl⟩ : ∃ j, i = j + 2 := ⟨i - 2, by omega⟩
  have h1 := G.lo_lt (j + 2) (by omega) hl
  have h3 := G.hi_lt (j + 2) (by omega) hl
  show denF N ρ (j + 2 + 1) (j + 2) = _
  simp only [denF]
  rw [denF_stable G ρ (j + 2) (hi N (j + 2)) (by omega) (by omega), denF_stable G ρ (j + 2) (lo N (j + 2)) (by omega) (by omega)]
  rfl

/-- An assignment with one variable set. -/
def upd (ρ : Nat → Bool) (v : Nat) (b : Bool) : Nat → Bool := fun x => if x = v then b else ρ x
@[simp] theorem upd_same (ρ : Nat → Bool) (v : Nat) (b : Bool) : upd ρ v b v = b := by simp [upd]
theorem upd_ne (ρ : Nat → Bool) {v x : Nat} (b : Bool) (h : x ≠ v) : upd ρ v b x = ρ x := by simp [upd, h]
theorem upd_self (ρ : Nat → Bool) (v : Nat) : upd ρ v (ρ v) = ρ := by
  funext x; by_cases h : x = v <;> simp [upd, h]

theorem var_le (G : Good N) {i : Nat} (hl : i < N.length + 2) : var N i ≤ 24 := by
  by_cases h : i < 2
  · simp [var, h]
  · have := G.bound i (by omega) hl; omega

/-- A number does not depend on variables below its own. -/
theorem indep (G : Good N) : ∀ i, i < N.length + 2 → ∀ v, v < var N i → ∀ ρ b, den N i (upd ρ v b) = den N i ρ := by
  intro i
  induction i using Nat.strongRecOn with
  | _ i ih =>
    intro hl v hv ρ b
    match i with
    | 0 => rfl
    | 1 => rfl
    | i + 2 =>
      have h1 := G.lo_lt (i + 2) (by omega) hl
      have h2 := G.hi_lt (i + 2) (by omega) hl
      have h3 := G.lo_var (i + 2) (by omega) hl
      have h4 := G.hi_var (i + 2) (by omega) hl
      rw [den_node G (by omega) hl, den_node G (by omega) hl, upd_ne ρ b (by omega : var N (i + 2) ≠ v),
        ih (hi N (i + 2)) (by omega) (by omega) v (by omega), ih (lo N (i + 2)) (by omega) (by omega) v (by omega)]

theorem cof_lo (G : Good N) {i : Nat} (h2 : 2 ≤ i) (hl : i < N.length + 2) (ρ : Nat → Bool) : den N i (upd ρ (var N i) false) = den N (lo N i) ρ := by
  rw [den_node G h2 hl, upd_same]
  simp only [Bool.false_eq_true, if_false]
  exact indep G _ (by have := G.lo_lt i h2 hl; omega) _ (G.lo_var i h2 hl) _ _
theorem cof_hi (G : Good N) {i : Nat} (h2 : 2 ≤ i) (hl : i < N.length + 2) (ρ : Nat → Bool) : den N i (upd ρ (var N i) true) = den N (hi N i) ρ := by
  rw [den_node G h2 hl, upd_same]
  simp only [if_true]
  exact indep G _ (by have := G.hi_lt i h2 hl; omega) _ (G.hi_var i h2 hl) _ _

theorem node_at {i : Nat} (h2 : 2 ≤ i) (hl : i < N.length + 2) : N[i - 2]? = some (var N i, lo N i, hi N i) := by
  have hlt : i - 2 < N.length := by omega
  rw [List.getElem?_eq_getElem hlt]
  simp [var, lo, hi, show ¬ i < 2 by omega, hlt]

/-- Equal functions have one number. -/
theorem inj_lt (G : Good N) : ∀ m a b, a < m → b < m → a < N.length + 2 → b < N.length + 2 → (∀ ρ, den N a ρ = den N b ρ) → a = b := by
  intro m
  induction m with
  | zero => intro a b h _ _ _; omega
  | succ m ih =>
    -- a node is no function that does not depend on its variable
    have key : ∀ a b, a < m + 1 → a < N.length + 2 → b < N.length + 2 → 2 ≤ a → var N a < var N b → (∀ ρ, den N a ρ = den N b ρ) → False := by
      intro a b hm ha hb h2 hv hd
      have l1 := G.lo_lt a h2 ha
      have l2 := G.hi_lt a h2 ha
      refine G.ne a h2 ha (ih (lo N a) (hi N a) (by omega) (by omega) (by omega) (by omega) fun ρ => ?_)
      rw [← cof_lo G h2 ha, ← cof_hi G h2 ha, hd, hd, indep G b hb _ hv, indep G b hb _ hv]
    intro a b hma hmb ha hb hd
    by_cases h : var N a < var N b
    · have h2 : 2 ≤ a := by
        by_cases h2 : a < 2
        · have h3 : var N a = 24 := by simp [var, h2]
          have := var_le G hb
          omega
        · omega
      exact (key a b hma ha hb h2 h hd).elim
    by_cases h' : var N b < var N a
    · have h2 : 2 ≤ b := by
        by_cases h2 : b < 2
        · have h3 : var N b = 24 := by simp [var, h2]
          have := var_le G ha
          omega
        · omega
      exact (key b a hmb hb ha h2 h' fun ρ => (hd ρ).symm).elim
    have hv : var N a = var N b := by omega
    by_cases ha2 : 2 ≤ a
    · by_cases hb2 : 2 ≤ b
      · have a1 := G.lo_lt a ha2 ha
        have a2 := G.hi_lt a ha2 ha
        have b1 := G.lo_lt b hb2 hb
        have b2 := G.hi_lt b hb2 hb
        have e1 : lo N a = lo N b := ih _ _ (by omega) (by omega) (by omega) (by omega) fun ρ => by rw [← cof_lo G ha2 ha, ← cof_lo G hb2 hb, hd, hv]
        have e2 : hi N a = hi N b := ih _ _ (by omega) (by omega) (by omega) (by omega) fun ρ => by rw [← cof_hi G ha2 ha, ← cof_hi G hb2 hb, hd, hv]
        have n1 := node_at ha2 ha
        have n2 := node_at hb2 hb
        rw [e1, e2, hv, ← n2] at n1
        have := (List.getElem?_inj (by omega) G.nodup).1 n1
        omega
      · have := G.bound a ha2 ha
        have h3 : var N b = 24 := by simp [var, show b < 2 by omega]
        omega
    · by_cases hb2 : 2 ≤ b
      · have := G.bound b hb2 hb
        have h3 : var N a = 24 := by simp [var, show a < 2 by omega]
        omega
      · have h0 := hd (fun _ => false)
        have ha' : a = 0 ∨ a = 1 := by omega
        have hb' : b = 0 ∨ b = 1 := by omega
        rcases ha' with rfl | rfl <;> rcases hb' with rfl | rfl <;> simp at h0 <;> rfl

theorem inj (G : Good N) {a b : Nat} (ha : a < N.length + 2) (hb : b < N.length + 2) (hd : ∀ ρ, den N a ρ = den N b ρ) : a = b :=
  inj_lt G (a + b + 1) a b (by omega) (by omega) ha hb hd

/-- Two numbers of two lists that mean the same test the same variable, and go on to numbers that mean the same. -/
theorem cross (G : Good N) (H : Good M) {a b : Nat} (ha : a < N.length + 2) (hb : b < M.length + 2) (hd : ∀ ρ, den N a ρ = den M b ρ) :
    (a < 2 ∧ a = b) ∨ (2 ≤ a ∧ 2 ≤ b ∧ var N a = var M b ∧ (∀ ρ, den N (lo N a) ρ = den M (lo M b) ρ) ∧ (∀ ρ, den N (hi N a) ρ = den M (hi M b) ρ)) := by
  have key : ∀ {N M : List Nd} (_ : Good N) (_ : Good M) {a b : Nat}, a < N.length + 2 → b < M.length + 2 → 2 ≤ a → var N a < var M b → (∀ ρ, den N a ρ = den M b ρ) → False := by
    intro N M G H a b ha hb h2 hv hd
    have l1 := G.lo_lt a h2 ha
    have l2 := G.hi_lt a h2 ha
    refine G.ne a h2 ha (inj G (by omega) (by omega) fun ρ => ?_)
    rw [← cof_lo G h2 ha, ← cof_hi G h2 ha, hd, hd, indep H b hb _ hv, indep H b hb _ hv]
  have c1 : a < 2 → var N a = 24 := fun h => by simp [var, h]
  have c2 : b < 2 → var M b = 24 := fun h => by simp [var, h]
  have v1 := var_le G ha
  have v2 := var_le H hb
  by_cases h : var N a < var M b
  · exact (key G H ha hb (by omega) h hd).elim
  by_cases h' : var M b < var N a
  · exact (key H G hb ha (by omega) h' fun ρ => (hd ρ).symm).elim
  have hv : var N a = var M b := by omega
  by_cases ha2 : 2 ≤ a
  · have hb2 : 2 ≤ b := by have := G.bound a ha2 ha; omega
    exact .inr ⟨ha2, hb2, hv, fun ρ => by rw [← cof_lo G ha2 ha, ← cof_lo H hb2 hb, hd, hv], fun ρ => by rw [← cof_hi G ha2 ha, ← cof_hi H hb2 hb, hd, hv]⟩
  · have hb2 : ¬ 2 ≤ b := fun hb2 => by have := H.bound b hb2 hb; omega
    have h0 := hd (fun _ => false)
    have ha' : a = 0 ∨ a = 1 := by omega
    have hb' : b = 0 ∨ b = 1 := by omega
    refine .inl ⟨by omega, ?_⟩
    rcases ha' with rfl | rfl <;> rcases hb' with rfl | rfl <;> simp at h0 <;> rfl

/-! ### the canonical list -/

/-- The state of a walk: what has been put out, and the new numbers of the old ones. -/
abbrev St := List Nd × (Nat → Option Nat)

def visit (N : List Nd) : Nat → Nat → St → Nat × St
  | 0, _, s => (0, s)
  | f + 1, i, s =>
    match s.2 i with
    | some k => (k, s)
    | none =>
      let r1 := visit N f (lo N i) s
      let r2 := visit N f (hi N i) r1.2
      let D := r2.2.1 ++ [(var N i, r1.1, r2.1)]
      (D.length + 1, (D, fun x => if x = i then some (D.length + 1) else r2.2.2 x))

def start : St := ([], fun x => if x = 0 then some 0 else if x = 1 then some 1 else none)
/-- The canonical list of a number, and the root. -/
def canon (N : List Nd) (i : Nat) : Nat × List Nd := let r := visit N (i + 1) i start; (r.1, r.2.1)

/-- Two walks over two lists that stand at the same place. -/
structure Alike (N M : List Nd) (s t : St) : Prop where
  out : s.1 = t.1
  to : ∀ x y, x < N.length + 2 → y < M.length + 2 → (∀ ρ, den N x ρ = den M y ρ) → s.2 x = t.2 y
  zero : s.2 0 = some 0
  one : s.2 1 = some 1
  zero' : t.2 0 = some 0
  one' : t.2 1 = some 1

theorem visit_alike (G : Good N) (H : Good M) : ∀ f a b s t g, a < f → b < g → a < N.length + 2 → b < M.length + 2 → (∀ ρ, den N a ρ = den M b ρ) → Alike N M s t →
    (visit N f a s).1 = (visit M g b t).1 ∧ Alike N M (visit N f a s).2 (visit M g b t).2 := by
  intro f
  induction f with
  | zero => intro a b s t g h; omega
  | succ f ih =>
    intro a b s t g haf hbg ha hb hd A
    obtain ⟨g, rfl⟩ : ∃ g', g = g' + 1 := ⟨g - 1, by omega⟩
    have hto := A.to a b ha hb hd
    rcases cross G H ha hb hd with ⟨h2, rfl⟩ | ⟨ha2, hb2, hv, hlo, hhi⟩
    · have hz : s.2 a = some a := by
        have : a = 0 ∨ a = 1 := by omega
        rcases this with rfl | rfl
        · exact A.zero
        · exact A.one
      have hz' : t.2 a = some a := by
        have : a = 0 ∨ a = 1 := by omega
        rcases this with rfl | rfl
        · exact A.zero'
        · exact A.one'
      simp only [visit, hz, hz']
      exact ⟨trivial, A⟩
    · cases hs : s.2 a with
      | some k =>
        have ht : t.2 b = some k := hto ▸ hs
        simp only [visit, hs, ht]
        exact ⟨trivial, A⟩
      | none =>
        have ht : t.2 b = none := hto ▸ hs
        have a1 := G.lo_lt a ha2 ha
        have a2 := G.hi_lt a ha2 ha
        have b1 := H.lo_lt b hb2 hb
        have b2 := H.hi_lt b hb2 hb
        simp only [visit, hs, ht]
        obtain ⟨e1, A1⟩ := ih (lo N a) (lo M b) s t g (by omega) (by omega) (by omega) (by omega) hlo A
        obtain ⟨e2, A2⟩ := ih (hi N a) (hi M b) _ _ g (by omega) (by omega) (by omega) (by omega) hhi A1
        refine ⟨by rw [A2.out, e1, e2, hv], ⟨by simp only [A2.out, e1, e2, hv], fun x y hx hy hxy => ?_, ?_, ?_, ?_, ?_⟩⟩
        · by_cases hxa : x = a
          · subst hxa
            have hyb : y = b := inj H hy hb fun ρ => by rw [← hxy, hd]
            subst hyb
            simp only [if_true, A2.out, List.length_append, List.length_singleton]
          · have hyb : y ≠ b := fun hyb => hxa (inj G hx ha fun ρ => by rw [hxy, hyb, hd])
            simp only [hxa, hyb, if_false]
            exact A2.to x y hx hy hxy
        · simp only [show (0 : Nat) ≠ a by omega, if_false]; exact A2.zero
        · simp only [show (1 : Nat) ≠ a by omega, if_false]; exact A2.one
        · simp only [show (0 : Nat) ≠ b by omega, if_false]; exact A2.zero'
        · simp only [show (1 : Nat) ≠ b by omega, if_false]; exact A2.one'

theorem start_alike (G : Good N) (H : Good M) : Alike N M start start := by
  refine ⟨rfl, fun x y hx hy hxy => ?_, rfl, rfl, rfl, rfl⟩
  rcases cross G H hx hy hxy with ⟨_, rfl⟩ | ⟨h1, h2, _⟩
  · rfl
  · simp [start, show x ≠ 0 by omega, show x ≠ 1 by omega, show y ≠ 0 by omega, show y ≠ 1 by omega]

/-- EQUAL FUNCTIONS HAVE EQUAL DIAGRAMS. -/
theorem canon_eq (G : Good N) (H : Good M) {a b : Nat} (ha : a < N.length + 2) (hb : b < M.length + 2) (hd : ∀ ρ, den N a ρ = den M b ρ) : canon N a = canon M b := by
  obtain ⟨h1, h2⟩ := visit_alike G H (a + 1) a b start start (b + 1) (by omega) (by omega) ha hb hd (start_alike G H)
  simp only [canon, h1, h2.out]
end
end Go.Proofs.YtgdmcidcappkpaaDoor.Dd
namespace Go.Proofs.YtgdmcidcappkpaaDoor.Dd

/-! ### lists that grow -/
section
variable {N M : List Nd}

theorem var_app {X : List Nd} {i : Nat} (hl : i < N.length + 2) : var (N ++ X) i = var N i := by
  by_cases h : i < 2
  · simp [var, h]
  · simp [var, h, List.getD_eq_getElem?_getD, List.getElem?_append_left (show i - 2 < N.length by omega)]
theorem lo_app {X : List Nd} {i : Nat} (h2 : 2 ≤ i) (hl : i < N.length + 2) : lo (N ++ X) i = lo N i := by
  simp [lo, List.getD_eq_getElem?_getD, List.getElem?_append_left (show i - 2 < N.length by omega)]
theorem hi_app {X : List Nd} {i : Nat} (h2 : 2 ≤ i) (hl : i < N.length + 2) : hi (N ++ X) i = hi N i := by
  simp [hi, List.getD_eq_getElem?_getD, List.getElem?_append_left (show i - 2 < N.length by omega)]

theorem den_app {X : List Nd} (G : Good N) (H : Good (N ++ X)) (ρ : Nat → Bool) : ∀ i, i < N.length + 2 → den (N ++ X) i ρ = den N i ρ := by
  intro i
  induction i using Nat.strongRecOn with
  | _ i ih =>
    intro hl
    by_cases h2 : 2 ≤ i
    · have a1 := G.lo_lt i h2 hl
      have a2 := G.hi_lt i h2 hl
      rw [den_node G h2 hl, den_node H h2 (by simp; omega), var_app hl, lo_app h2 hl, hi_app h2 hl, ih _ a1 (by omega), ih _ a2 (by omega)]
    · have : i = 0 ∨ i = 1 := by omega
      rcases this with rfl | rfl <;> rfl

theorem last_var (N : List Nd) (n : Nd) : var (N ++ [n]) (N.length + 2) = n.1 := by simp [var]; intro h; omega
theorem last_lo (N : List Nd) (n : Nd) : lo (N ++ [n]) (N.length + 2) = n.2.1 := by simp [lo]
theorem last_hi (N : List Nd) (n : Nd) : hi (N ++ [n]) (N.length + 2) = n.2.2 := by simp [hi]

/-- A new node. -/
theorem Good.snoc (G : Good N) {v l h : Nat} (hv : v < 24) (hl : l < N.length + 2) (hh : h < N.length + 2) (hne : l ≠ h) (hlv : v < var N l) (hhv : v < var N h) (hn : (v, l, h) ∉ N) : Good (N ++ [(v, l, h)]) := by
  have key : ∀ i, 2 ≤ i → i < (N ++ [(v, l, h)]).length + 2 → i < N.length + 2 ∨ i = N.length + 2 := fun i _ h2 => by simp at h2; omega
  constructor
  · intro i h2 hi'
    rcases key i h2 hi' with h' | rfl
    · rw [var_app h']; exact G.bound i h2 h'
    · rw [last_var]; exact hv
  · intro i h2 hi'
    rcases key i h2 hi' with h' | rfl
    · rw [lo_app h2 h']; exact G.lo_lt i h2 h'
    · rw [last_lo]; exact hl
  · intro i h2 hi'
    rcases key i h2 hi' with h' | rfl
    · rw [hi_app h2 h']; exact G.hi_lt i h2 h'
    · rw [last_hi]; exact hh
  · intro i h2 hi'
    rcases key i h2 hi' with h' | rfl
    · rw [hi_app h2 h', lo_app h2 h']; exact G.ne i h2 h'
    · rw [last_hi, last_lo]; exact hne
  · intro i h2 hi'
    rcases key i h2 hi' with h' | rfl
    · have := G.lo_lt i h2 h'
      rw [lo_app h2 h', var_app h', var_app (by omega)]; exact G.lo_var i h2 h'
    · rw [last_lo, last_var, var_app hl]; exact hlv
  · intro i h2 hi'
    rcases key i h2 hi' with h' | rfl
    · have := G.hi_lt i h2 h'
      rw [hi_app h2 h', var_app h', var_app (by omega)]; exact G.hi_var i h2 h'
    · rw [last_hi, last_var, var_app hh]; exact hhv
  · refine List.nodup_append.2 ⟨G.nodup, by simp, fun x hx y hy => ?_⟩
    simp at hy
    subst hy
    exact fun e => hn (e ▸ hx)

/-- What a number means, put together of a variable and two numbers. -/
theorem den_snoc (G : Good N) {v l h : Nat} (H : Good (N ++ [(v, l, h)])) (hl : l < N.length + 2) (hh : h < N.length + 2) (ρ : Nat → Bool) :
    den (N ++ [(v, l, h)]) (N.length + 2) ρ = if ρ v then den N h ρ else den N l ρ := by
  rw [den_node H (by omega) (by simp), last_var, last_lo, last_hi, den_app G H ρ h hh, den_app G H ρ l hl]

/-! ### the canonical list is good -/
structure Walk (N : List Nd) (s : St) : Prop where
  good : Good s.1
  to : ∀ x k, s.2 x = some k → x < N.length + 2 ∧ k < s.1.length + 2 ∧ (∀ ρ, den s.1 k ρ = den N x ρ) ∧ var s.1 k = var N x
  onto : ∀ k, 2 ≤ k → k < s.1.length + 2 → ∃ x, s.2 x = some k
  zero : s.2 0 = some 0
  one : s.2 1 = some 1

theorem start_walk (N : List Nd) : Walk N start := by
  refine ⟨Good.nil, fun x k hx => ?_, fun k h1 h2 => by simp [start] at h2; omega, rfl, rfl⟩
  by_cases h0 : x = 0
  · subst h0
    have : k = 0 := by simpa [start] using hx.symm
    subst this
    exact ⟨by omega, by simp, fun _ => rfl, by simp [var]⟩
  · by_cases h1 : x = 1
    · subst h1
      have : k = 1 := by simpa [start] using hx.symm
      subst this
      exact ⟨by omega, by simp, fun _ => rfl, by simp [var]⟩
    · simp [start, h0, h1] at hx

theorem visit_walk (G : Good N) : ∀ f i s, i < f → i < N.length + 2 → Walk N s →
    Walk N (visit N f i s).2 ∧ (visit N f i s).2.2 i = some (visit N f i s).1 ∧ (∀ x k, s.2 x = some k → (visit N f i s).2.2 x = some k) ∧ (∀ x, i < x → (visit N f i s).2.2 x = s.2 x) := by
  intro f
  induction f with
  | zero => intro i s h; omega
  | succ f ih =>
    intro i s hif hil W
    cases hs : s.2 i with
    | some k =>
      simp only [visit, hs]
      exact ⟨W, trivial, fun _ _ h => h, fun _ _ => trivial⟩
    | none =>
      have h2 : 2 ≤ i := by
        by_cases h : i = 0
        · subst h; rw [W.zero] at hs; cases hs
        · by_cases h' : i = 1
          · subst h'; rw [W.one] at hs; cases hs
          · omega
      have a1 := G.lo_lt i h2 hil
      have a2 := G.hi_lt i h2 hil
      obtain ⟨W1, t1, p1, q1⟩ := ih (lo N i) s (by omega) (by omega) W
      obtain ⟨W2, t2, p2, q2⟩ := ih (hi N i) (visit N f (lo N i) s).2 (by omega) (by omega) W1
      have t1' := p2 _ _ t1
      obtain ⟨_, l1, d1, v1⟩ := W2.to _ _ t1'
      obtain ⟨_, l2, d2, v2⟩ := W2.to _ _ t2
      simp only [visit, hs]
      generalize hr1 : (visit N f (lo N i) s).1 = r1 at *
      generalize hr2 : (visit N f (hi N i) (visit N f (lo N i) s).2) = r2 at *
      have hden : ∀ ρ, (if ρ (var N i) then den r2.2.1 r2.1 ρ else den r2.2.1 r1 ρ) = den N i ρ := fun ρ => by rw [den_node G h2 hil, d1, d2]
      have hnew : r2.2.2 i = none → (var N i, r1, r2.1) ∉ r2.2.1 := fun hnone hmem => by
        obtain ⟨j, hj, hje⟩ := List.getElem_of_mem hmem
        obtain ⟨x, hx⟩ := W2.onto (j + 2) (by omega) (by omega)
        obtain ⟨hxl, _, dx, vx⟩ := W2.to _ _ hx
        have hxi : x = i := inj G hxl hil fun ρ => by
          rw [← dx, ← hden, den_node W2.good (by omega) (by omega)]
          have e : r2.2.1[j + 2 - 2]? = some (var N i, r1, r2.1) := by
            rw [show j + 2 - 2 = j by omega, List.getElem?_eq_getElem hj, hje]
          have := (node_at (N := r2.2.1) (i := j + 2) (by omega) (by omega)).symm.trans e
          simp only [Option.some.injEq, Prod.mk.injEq] at this
          rw [this.1, this.2.1, this.2.2]
        rw [hxi, hnone] at hx
        cases hx
      -- number i itself has got no number meanwhile
      have hnone : r2.2.2 i = none := by rw [q2 i a2, q1 i a1, hs]
      have Gs : Good (r2.2.1 ++ [(var N i, r1, r2.1)]) := by
        refine W2.good.snoc (G.bound i h2 hil) l1 l2 ?_ ?_ ?_ (hnew hnone)
        · intro e
          refine G.ne i h2 hil (inj G (by omega) (by omega) fun ρ => ?_)
          rw [← d1, ← d2, e]
        · rw [v1]; exact G.lo_var i h2 hil
        · rw [v2]; exact G.hi_var i h2 hil
      refine ⟨⟨Gs, fun x k hx => ?_, fun k hk1 hk2 => ?_, ?_, ?_⟩, by simp, fun x k hx => ?_, fun x hx => ?_⟩
      · by_cases hxi : x = i
        · subst hxi
          simp only [if_true, Option.some.injEq] at hx
          subst hx
          refine ⟨hil, by simp, fun ρ => ?_, ?_⟩
          · rw [List.length_append, List.length_singleton, den_snoc W2.good Gs l1 l2, hden]
          · rw [List.length_append, List.length_singleton, last_var]
        · simp only [hxi, if_false] at hx
          obtain ⟨m1, m2, m3, m4⟩ := W2.to x k hx
          exact ⟨m1, by simp; omega, fun ρ => by rw [den_app W2.good Gs ρ k m2, m3], by rw [var_app m2, m4]⟩
      · by_cases hke : k = r2.2.1.length + 2
        · exact ⟨i, by simp [hke]⟩
        · obtain ⟨x, hx⟩ := W2.onto k hk1 (by simp at hk2; omega)
          refine ⟨x, ?_⟩
          have hxi : x ≠ i := fun e => by rw [e, hnone] at hx; cases hx
          simp [hxi, hx]
      · simp only [show (0 : Nat) ≠ i by omega, if_false]; exact W2.zero
      · simp only [show (1 : Nat) ≠ i by omega, if_false]; exact W2.one
      · have hxi : x ≠ i := fun e => by rw [e, hs] at hx; cases hx
        simp only [hxi, if_false]
        exact p2 _ _ (p1 _ _ hx)
      · simp only [show x ≠ i by omega, if_false]
        rw [q2 x (by omega), q1 x (by omega)]

/-- THE CANONICAL LIST IS GOOD, MEANS THE SAME, AND IS ITS OWN. -/
theorem canon_good (G : Good N) {i : Nat} (hil : i < N.length + 2) : Good (canon N i).2 ∧ (canon N i).1 < (canon N i).2.length + 2 ∧ (∀ ρ, den (canon N i).2 (canon N i).1 ρ = den N i ρ) ∧ canon (canon N i).2 (canon N i).1 = canon N i := by
  obtain ⟨W, t, _, _⟩ := visit_walk G (i + 1) i start (by omega) hil (start_walk N)
  obtain ⟨_, h2, h3, _⟩ := W.to _ _ t
  exact ⟨W.good, h2, h3, canon_eq W.good G h2 hil h3⟩

/-- The canonical list is no longer than what it is made of. -/
theorem visit_len (N : List Nd) (f i : Nat) (s : St) : s.1.length ≤ (visit N f i s).2.1.length := by
  induction f generalizing i s with
  | zero => simp [visit]
  | succ f ih =>
    simp only [visit]
    split
    · simp
    · have h1 := ih (lo N i) s
      have h2 := ih (hi N i) (visit N f (lo N i) s).2
      simp only [List.length_append, List.length_singleton]
      omega
end
end Go.Proofs.YtgdmcidcappkpaaDoor.Dd
namespace Go.Proofs.YtgdmcidcappkpaaDoor.Dd

def mk (N : List Nd) (v l h : Nat) : Nat × List Nd :=
  if l = h then (l, N) else if (v, l, h) ∈ N then (N.idxOf (v, l, h) + 2, N) else (N.length + 2, N ++ [(v, l, h)])

section
variable {N N1 N2 M : List Nd}

theorem den_pre (G : Good N) (H : Good N1) (hp : N <+: N1) {i : Nat} (hl : i < N.length + 2) (ρ : Nat → Bool) : den N1 i ρ = den N i ρ := by
  obtain ⟨X, rfl⟩ := hp
  exact den_app G H ρ i hl
theorem var_pre (hp : N <+: N1) {i : Nat} (hl : i < N.length + 2) : var N1 i = var N i := by
  obtain ⟨X, rfl⟩ := hp
  exact var_app hl
theorem len_pre (hp : N <+: N1) : N.length ≤ N1.length := hp.length_le
theorem var_eq (G : Good N) (H : Good M) {a b : Nat} (ha : a < N.length + 2) (hb : b < M.length + 2) (hd : ∀ ρ, den N a ρ = den M b ρ) : var N a = var M b := by
  rcases cross G H ha hb hd with ⟨h2, rfl⟩ | ⟨_, _, h, _⟩
  · simp [var, h2]
  · exact h

theorem mk_spec (G : Good N) {v l h : Nat} (hv : v < 24) (hl : l < N.length + 2) (hh : h < N.length + 2) (hlv : v < var N l) (hhv : v < var N h) :
    N <+: (mk N v l h).2 ∧ Good (mk N v l h).2 ∧ (mk N v l h).1 < (mk N v l h).2.length + 2 ∧ (∀ ρ, den (mk N v l h).2 (mk N v l h).1 ρ = if ρ v then den N h ρ else den N l ρ) ∧
      v ≤ var (mk N v l h).2 (mk N v l h).1 ∧ (mk N v l h).2.length ≤ N.length + 1 := by
  unfold mk
  by_cases hlh : l = h
  · subst hlh
    simp only [if_true]
    exact ⟨List.prefix_refl _, G, hl, fun ρ => by simp, by omega, by omega⟩
  · by_cases hin : (v, l, h) ∈ N
    · simp only [hlh, hin, if_false, if_true]
      have hi := List.idxOf_lt_length_of_mem hin
      have e : N[N.idxOf (v, l, h)]? = some (v, l, h) := by rw [List.getElem?_eq_getElem hi, List.getElem_idxOf hi]
      have e2 := node_at (N := N) (i := N.idxOf (v, l, h) + 2) (by omega) (by omega)
      rw [Nat.add_sub_cancel, e] at e2
      simp only [Option.some.injEq, Prod.mk.injEq] at e2
      refine ⟨List.prefix_refl _, G, by omega, fun ρ => ?_, by omega, by omega⟩
      rw [den_node G (by omega) (by omega), ← e2.1, ← e2.2.1, ← e2.2.2]
    · simp only [hlh, hin, if_false]
      have H := G.snoc hv hl hh hlh hlv hhv hin
      exact ⟨List.prefix_append _ _, H, by simp, fun ρ => den_snoc G H hl hh ρ, by rw [last_var]; omega, by simp⟩

theorem mk_len (N : List Nd) (v l h : Nat) : (mk N v l h).2.length ≤ N.length + 1 := by
  unfold mk; split
  · simp
  · split <;> simp

/-! ### if-then-else -/
def MemoOk (N : List Nd) (G : Nd → Option Nat) : Prop :=
  ∀ a b c r, G (a, b, c) = some r → a < N.length + 2 ∧ b < N.length + 2 ∧ c < N.length + 2 ∧ r < N.length + 2 ∧ (∀ ρ, den N r ρ = if den N a ρ then den N b ρ else den N c ρ) ∧
    min (var N a) (min (var N b) (var N c)) ≤ var N r

theorem MemoOk.pre {G : Nd → Option Nat} (h : MemoOk N G) (A : Good N) (B : Good N1) (hp : N <+: N1) : MemoOk N1 G := by
  intro a b c r hg
  obtain ⟨h1, h2, h3, h4, h5, h6⟩ := h a b c r hg
  have := len_pre hp
  refine ⟨by omega, by omega, by omega, by omega, fun ρ => ?_, ?_⟩
  · rw [den_pre A B hp h4, den_pre A B hp h1, den_pre A B hp h2, den_pre A B hp h3, h5]
  · rw [var_pre hp h1, var_pre hp h2, var_pre hp h3, var_pre hp h4]; exact h6

theorem MemoOk.none (N : List Nd) : MemoOk N (fun _ => none) := by intro a b c r h; cases h

/-- Where a number goes on for a value of a variable. -/
def atP (N : List Nd) (i v : Nat) (b : Bool) : Nat := if var N i ≠ v then i else if b then hi N i else lo N i

theorem at_spec (G : Good N) {i v : Nat} (hl : i < N.length + 2) (hv : v ≤ var N i) (hv24 : v < 24) (b : Bool) :
    atP N i v b < N.length + 2 ∧ v < var N (atP N i v b) ∧ (∀ ρ, den N (atP N i v b) ρ = den N i (upd ρ v b)) ∧ var N i ≤ var N (atP N i v b) := by
  unfold atP
  by_cases h : var N i = v
  · subst h
    have h2 : 2 ≤ i := by
      by_cases h2 : i < 2
      · simp [var, h2] at hv24
      · omega
    have a1 := G.lo_lt i h2 hl
    have a2 := G.hi_lt i h2 hl
    have b1 := G.lo_var i h2 hl
    have b2 := G.hi_var i h2 hl
    cases b
    · simp only [ne_eq, not_true_eq_false, if_false, Bool.false_eq_true]
      exact ⟨by omega, b1, fun ρ => (cof_lo G h2 hl ρ).symm, by omega⟩
    · simp only [ne_eq, not_true_eq_false, if_false, if_true]
      exact ⟨by omega, b2, fun ρ => (cof_hi G h2 hl ρ).symm, by omega⟩
  · simp only [ne_eq, h, not_false_eq_true, if_true]
    exact ⟨hl, by omega, fun ρ => (indep G i hl v (by omega) ρ b).symm, by omega⟩

/-- What a call of ite does to the store. -/
structure IteRel (N : List Nd) (a b c r : Nat) (N' : List Nd) (G' : Nd → Option Nat) : Prop where
  pre : N <+: N'
  good : Good N'
  memo : MemoOk N' G'
  lt : r < N'.length + 2
  den : ∀ ρ, den N' r ρ = if den N a ρ then den N b ρ else den N c ρ
  var : min (var N a) (min (var N b) (var N c)) ≤ var N' r
  len : N'.length + 1 ≤ N.length + 2 ^ (24 - min (Dd.var N a) (min (Dd.var N b) (Dd.var N c)))

theorem len_one (n m : Nat) : n + 1 ≤ n + 2 ^ m := by have := Nat.one_le_two_pow (n := m); omega

theorem ite_then {G : Nd → Option Nat} (A : Good N) (B : MemoOk N G) {a b c : Nat} (hb : b < N.length + 2) (h : a = 1 ∨ b = c) : IteRel N a b c b N G := by
  refine ⟨List.prefix_refl _, A, B, hb, fun ρ => ?_, by omega, len_one _ _⟩
  rcases h with rfl | rfl
  · simp
  · simp
theorem ite_else {G : Nd → Option Nat} (A : Good N) (B : MemoOk N G) {b c : Nat} (hc : c < N.length + 2) : IteRel N 0 b c c N G :=
  ⟨List.prefix_refl _, A, B, hc, fun ρ => by simp, by omega, len_one _ _⟩
theorem ite_hit {G : Nd → Option Nat} (A : Good N) (B : MemoOk N G) {a b c r : Nat} (h : G (a, b, c) = some r) : IteRel N a b c r N G := by
  obtain ⟨_, _, _, h4, h5, h6⟩ := B a b c r h
  exact ⟨List.prefix_refl _, A, B, h4, h5, h6, len_one _ _⟩

theorem var_const {i : Nat} (h : i < 2) : Dd.var N i = 24 := by simp [Dd.var, h]

theorem ite_step {a b c r1 r2 : Nat} {G1 G2 : Nd → Option Nat} {v : Nat} (A : Good N) (ha : a < N.length + 2) (hb : b < N.length + 2) (hc : c < N.length + 2) (h2 : 2 ≤ a)
    (hv : v = min (var N a) (min (var N b) (var N c)))
    (R1 : IteRel N (atP N a v false) (atP N b v false) (atP N c v false) r1 N1 G1)
    (R2 : IteRel N1 (atP N a v true) (atP N b v true) (atP N c v true) r2 N2 G2)
    (G' : Nd → Option Nat) (hG' : ∀ x y, G' x = some y → (x = (a, b, c) ∧ y = (mk N2 v r1 r2).1) ∨ G2 x = some y) :
    IteRel N a b c (mk N2 v r1 r2).1 (mk N2 v r1 r2).2 G' := by
  have hv24 : v < 24 := by have := A.bound a h2 ha; omega
  obtain ⟨a1, a2, a3, a4⟩ := at_spec A ha (by omega : v ≤ var N a) hv24 false
  obtain ⟨b1, b2, b3, b4⟩ := at_spec A hb (by omega : v ≤ var N b) hv24 false
  obtain ⟨c1, c2, c3, c4⟩ := at_spec A hc (by omega : v ≤ var N c) hv24 false
  obtain ⟨d1, d2, d3, d4⟩ := at_spec A ha (by omega : v ≤ var N a) hv24 true
  obtain ⟨e1, e2, e3, e4⟩ := at_spec A hb (by omega : v ≤ var N b) hv24 true
  obtain ⟨f1, f2, f3, f4⟩ := at_spec A hc (by omega : v ≤ var N c) hv24 true
  have l1 := len_pre R1.pre
  have l2 := len_pre R2.pre
  have p2 : N <+: N2 := R1.pre.trans R2.pre
  have v1 := R1.var
  have v2 := R2.var
  rw [var_pre R1.pre d1, var_pre R1.pre e1, var_pre R1.pre f1] at v2
  have hr1 : r1 < N2.length + 2 := by have := R1.lt; omega
  have w1 : v < var N2 r1 := by rw [var_pre R2.pre R1.lt]; omega
  have w2 : v < var N2 r2 := by omega
  obtain ⟨m1, m2, m3, m4, m5, m6⟩ := mk_spec R2.good hv24 hr1 R2.lt w1 w2
  have p3 : N <+: (mk N2 v r1 r2).2 := p2.trans m1
  have hden : ∀ ρ, den (mk N2 v r1 r2).2 (mk N2 v r1 r2).1 ρ = if den N a ρ then den N b ρ else den N c ρ := fun ρ => by
    rw [m4, den_pre R1.good R2.good R2.pre R1.lt, R1.den, R2.den, den_pre A R1.good R1.pre d1, den_pre A R1.good R1.pre e1, den_pre A R1.good R1.pre f1, a3, b3, c3, d3, e3, f3]
    have hs := upd_self ρ v
    cases hρ : ρ v <;> rw [hρ] at hs <;> simp [hs]
  have hlen := len_pre m1
  refine ⟨p3, m2, fun x y z s hs => ?_, m3, hden, by omega, ?_⟩
  · rcases hG' _ _ hs with ⟨he, rfl⟩ | h
    · simp only [Prod.mk.injEq] at he
      obtain ⟨rfl, rfl, rfl⟩ := he
      refine ⟨by omega, by omega, by omega, m3, fun ρ => ?_, ?_⟩
      · rw [hden, den_pre A m2 p3 ha, den_pre A m2 p3 hb, den_pre A m2 p3 hc]
      · rw [var_pre p3 ha, var_pre p3 hb, var_pre p3 hc]; omega
    · exact (R2.memo.pre R2.good m2 m1) x y z s h
  · have k1 := R1.len
    have k2 := R2.len
    rw [var_pre R1.pre d1, var_pre R1.pre e1, var_pre R1.pre f1] at k2
    have q1 : 2 ^ (24 - min (var N (atP N a v false)) (min (var N (atP N b v false)) (var N (atP N c v false)))) ≤ 2 ^ (23 - v) := Nat.pow_le_pow_right (by omega) (by omega)
    have q2 : 2 ^ (24 - min (var N (atP N a v true)) (min (var N (atP N b v true)) (var N (atP N c v true)))) ≤ 2 ^ (23 - v) := Nat.pow_le_pow_right (by omega) (by omega)
    have q3 : 2 ^ (24 - v) = 2 * 2 ^ (23 - v) := by rw [show 24 - v = (23 - v) + 1 by omega, Nat.pow_succ]; omega
    rw [← hv, q3]
    omega

/-! ### a list that is loaded -/
def ldStep (s : List Nat × List Nd) (n : Nd) : List Nat × List Nd :=
  let r := mk s.2 n.1 (s.1.getD n.2.1 0) (s.1.getD n.2.2 0)
  (s.1 ++ [r.1], r.2)
def ld (N : List Nd) (M : List Nd) : List Nat × List Nd := M.foldl ldStep ([0, 1], N)

structure LdInv (N M : List Nd) (k : Nat) (s : List Nat × List Nd) : Prop where
  pre : N <+: s.2
  good : Good s.2
  size : s.1.length = k + 2
  to : ∀ j, j < k + 2 → s.1.getD j 0 < s.2.length + 2 ∧ ∀ ρ, den s.2 (s.1.getD j 0) ρ = den M j ρ
  len : s.2.length ≤ N.length + k

theorem ld_inv (G : Good N) (H : Good M) : ∀ k, k ≤ M.length → LdInv N M k ((M.take k).foldl ldStep ([0, 1], N)) := by
  intro k
  induction k with
  | zero =>
    intro _
    refine ⟨List.prefix_refl _, G, rfl, fun j hj => ?_, Nat.le_refl _⟩
    have : j = 0 ∨ j = 1 := by omega
    rcases this with rfl | rfl <;> simp
  | succ k ih =>
    intro hk
    have I := ih (by omega)
    rw [List.take_succ_eq_append_getElem (by omega), List.foldl_append]
    simp only [List.foldl_cons, List.foldl_nil]
    generalize (M.take k).foldl ldStep ([0, 1], N) = s at *
    obtain ⟨to, N'⟩ := s
    have hn : M[k]? = some M[k] := List.getElem?_eq_getElem (by omega)
    have hat := node_at (N := M) (i := k + 2) (by omega) (by omega)
    rw [Nat.add_sub_cancel, hn] at hat
    have hat' : M[k] = (var M (k + 2), lo M (k + 2), hi M (k + 2)) := Option.some.inj hat
    have b0 := H.bound (k + 2) (by omega) (by omega)
    have b1 := H.lo_lt (k + 2) (by omega) (by omega)
    have b2 := H.hi_lt (k + 2) (by omega) (by omega)
    have b3 := H.lo_var (k + 2) (by omega) (by omega)
    have b4 := H.hi_var (k + 2) (by omega) (by omega)
    obtain ⟨t1, d1⟩ := I.to (lo M (k + 2)) (by omega)
    obtain ⟨t2, d2⟩ := I.to (hi M (k + 2)) (by omega)
    simp only at t1 d1 t2 d2
    have v1 := var_eq I.good H t1 (by omega) d1
    have v2 := var_eq I.good H t2 (by omega) d2
    simp only at v1 v2
    obtain ⟨m1, m2, m3, m4, m5, m6⟩ := mk_spec (N := N') I.good b0 t1 t2 (by omega) (by omega)
    have hs := I.size
    simp only at hs
    have hlen := len_pre m1
    refine ⟨?_, ?_, ?_, fun j hj => ?_, ?_⟩
    · simp only [ldStep, hat']; exact I.pre.trans m1
    · simp only [ldStep, hat']; exact m2
    · simp only [ldStep, List.length_append, List.length_singleton, hs]
    · simp only [ldStep, hat']
      by_cases hjk : j < k + 2
      · obtain ⟨t3, d3⟩ := I.to j hjk
        simp only at t3 d3
        have e : (to ++ [(mk N' (var M (k + 2)) (to.getD (lo M (k + 2)) 0) (to.getD (hi M (k + 2)) 0)).1]).getD j 0 = to.getD j 0 := by
          simp [List.getD_eq_getElem?_getD, List.getElem?_append_left (show j < to.length by omega)]
        rw [e]
        exact ⟨by omega, fun ρ => by rw [den_pre I.good m2 m1 t3, d3]⟩
      · have hj' : j = k + 2 := by omega
        subst hj'
        have e : (to ++ [(mk N' (var M (k + 2)) (to.getD (lo M (k + 2)) 0) (to.getD (hi M (k + 2)) 0)).1]).getD (k + 2) 0 = (mk N' (var M (k + 2)) (to.getD (lo M (k + 2)) 0) (to.getD (hi M (k + 2)) 0)).1 := by
          simp [List.getD_eq_getElem?_getD, ← hs]
        rw [e]
        exact ⟨m3, fun ρ => by rw [m4, d1, d2, den_node H (i := k + 2) (by omega) (by omega)]⟩
    · simp only [ldStep, hat']
      have := I.len
      simp only at this
      omega

theorem ld_spec (G : Good N) (H : Good M) {i : Nat} (hi : i < M.length + 2) : N <+: (ld N M).2 ∧ Good (ld N M).2 ∧ (ld N M).1.getD i 0 < (ld N M).2.length + 2 ∧
    (∀ ρ, den (ld N M).2 ((ld N M).1.getD i 0) ρ = den M i ρ) ∧ (ld N M).2.length ≤ N.length + M.length := by
  have I := ld_inv G H M.length (Nat.le_refl _)
  rw [List.take_length] at I
  obtain ⟨h1, h2⟩ := I.to i hi
  exact ⟨I.pre, I.good, h1, h2, I.len⟩
end
end Go.Proofs.YtgdmcidcappkpaaDoor.Dd
namespace Go.Proofs.YtgdmcidcappkpaaDoor.Dd

/-- What has been put out, and what may still be. -/
def pot (s : St) (m : Nat) : Nat := s.1.length + ((List.range m).filter fun x => (s.2 x).isNone).length

theorem filter_less (p q : Nat → Bool) (i : Nat) (hp : p i = true) (hq : q i = false) (h : ∀ x, x ≠ i → q x = p x) : ∀ m, i < m → ((List.range m).filter q).length + 1 = ((List.range m).filter p).length := by
  have same : ∀ m, m ≤ i → ((List.range m).filter q).length = ((List.range m).filter p).length := by
    intro m hm
    congr 1
    apply List.filter_congr
    intro x hx
    exact h x (by have := List.mem_range.1 hx; omega)
  intro m
  induction m with
  | zero => intro h; omega
  | succ m ih =>
    intro hm
    rw [List.range_succ, List.filter_append, List.filter_append, List.length_append, List.length_append]
    by_cases hi : i = m
    · subst hi
      rw [same i (Nat.le_refl _)]
      simp [hp, hq]
    · have := ih (by omega)
      have e : List.filter q [m] = List.filter p [m] := by simp [List.filter_cons, h m (fun e => hi e.symm)]
      rw [e]
      omega

theorem visit_pot {N : List Nd} (G : Good N) : ∀ f i s m, i < f → i < N.length + 2 → i < m → Walk N s → pot (visit N f i s).2 m ≤ pot s m := by
  intro f
  induction f with
  | zero => intro i s m h; omega
  | succ f ih =>
    intro i s m hif hil him W
    have V := visit_walk G (f + 1) i s hif hil W
    cases hs : s.2 i with
    | some k =>
      simp only [visit, hs]
      exact Nat.le_refl _
    | none =>
      have h2 : 2 ≤ i := by
        by_cases h : i = 0
        · subst h; rw [W.zero] at hs; cases hs
        · by_cases h' : i = 1
          · subst h'; rw [W.one] at hs; cases hs
          · omega
      have a1 := G.lo_lt i h2 hil
      have a2 := G.hi_lt i h2 hil
      obtain ⟨W1, _, _, q1⟩ := visit_walk G f (lo N i) s (by omega) (by omega) W
      obtain ⟨W2, _, _, q2⟩ := visit_walk G f (hi N i) (visit N f (lo N i) s).2 (by omega) (by omega) W1
      have p1 := ih (lo N i) s m (by omega) (by omega) (by omega) W
      have p2 := ih (hi N i) (visit N f (lo N i) s).2 m (by omega) (by omega) (by omega) W1
      have hnone : (visit N f (hi N i) (visit N f (lo N i) s).2).2.2 i = none := by rw [q2 i a2, q1 i a1, hs]
      simp only [visit, hs]
      generalize visit N f (hi N i) (visit N f (lo N i) s).2 = r2 at *
      unfold pot at *
      have := filter_less (fun x => (r2.2.2 x).isNone) (fun x => ((if x = i then some ((r2.2.1 ++ [(var N i, (visit N f (lo N i) s).1, r2.1)]).length + 1) else r2.2.2 x)).isNone) i (by simp [hnone]) (by simp) (fun x hx => by simp [hx]) m him
      simp only [List.length_append, List.length_singleton] at this ⊢
      omega

theorem pot_start (m : Nat) : pot start (m + 2) ≤ m := by
  unfold pot
  have e : (List.range (m + 2)).filter (fun x => (start.2 x).isNone) = (List.range' 2 m).filter (fun x => (start.2 x).isNone) := by
    rw [show List.range (m + 2) = [0, 1] ++ List.range' 2 m by
      rw [List.range_eq_range', show m + 2 = 2 + m by omega, ← List.range'_append_1]; rfl]
    rw [List.filter_append]
    rfl
  have := List.length_filter_le (fun x => (start.2 x).isNone) (List.range' 2 m)
  rw [e]
  simp [start] at *
  omega

theorem visit_bound {N : List Nd} (G : Good N) {i : Nat} (hi : i < N.length + 2) : (canon N i).2.length ≤ N.length := by
  have h := visit_pot G (i + 1) i start (N.length + 2) (by omega) hi hi (start_walk N)
  have h2 := pot_start N.length
  unfold canon
  unfold pot at h h2
  simp only
  omega
end Go.Proofs.YtgdmcidcappkpaaDoor.Dd
namespace Go.Proofs.YtgdmcidcappkpaaDoor.Dd

abbrev Rn := Int × Int × Int
def rat (R : List Rn) (i : Nat) : Rn := R.getD i (0, 0, 0)
/-- Number k may not follow node n. -/
def badNext (R : List Rn) (n : Rn) (k : Int) : Prop := 1 < k ∧ (rat R (k - 2).toNat).1 ≤ n.1
instance (R : List Rn) (n : Rn) (k : Int) : Decidable (badNext R n k) := by unfold badNext; infer_instance
def badRange (n : Rn) (V : Int) : Prop := n.1 < 0 ∨ V ≤ n.1
instance (n : Rn) (V : Int) : Decidable (badRange n V) := by unfold badRange; infer_instance
def badForm (n : Rn) (i : Nat) : Prop := n.2.1 < 0 ∨ (i : Int) + 1 < n.2.1 ∨ n.2.2 < 0 ∨ (i : Int) + 1 < n.2.2 ∨ n.2.1 = n.2.2
instance (n : Rn) (i : Nat) : Decidable (badForm n i) := by unfold badForm; infer_instance
def nodeErr (V : Int) (R : List Rn) (i : Nat) : Int :=
  let n := rat R i
  if badRange n V then 2 else if badForm n i then 3 else if badNext R n n.2.1 ∨ badNext R n n.2.2 then 9 else 0
/-- The first error among the first k nodes; 0 if there is none. -/
def firstErr (V : Int) (R : List Rn) : Nat → Int
  | 0 => 0
  | k + 1 => if firstErr V R k ≠ 0 then firstErr V R k else nodeErr V R k
def toN (R : List Rn) : List Nd := R.map fun n => (n.1.toNat, n.2.1.toNat, n.2.2.toNat)
def ofN (N : List Nd) : List Rn := N.map fun n => ((n.1 : Int), (n.2.1 : Int), (n.2.2 : Int))
def checkErr (V : Int) (R : List Rn) (root : Int) : Int :=
  if V < 0 ∨ 24 < V then 2 else if 4096 < R.length then 8 else if firstErr V R R.length ≠ 0 then firstErr V R R.length else if ¬ R.Nodup then 7
  else if root < 0 ∨ (R.length : Int) + 1 < root then 3 else if canon (toN R) root.toNat ≠ (root.toNat, toN R) then 16 else 0

/-- A diagram without an error, as naturals. -/
structure Valid (V : Nat) (M : List Nd) (r : Nat) : Prop where
  vars : V ≤ 24
  len : M.length ≤ 4096
  good : Good M
  bound : ∀ i, 2 ≤ i → i < M.length + 2 → var M i < V
  root : r < M.length + 2
  own : canon M r = (r, M)

theorem firstErr_zero {V : Int} {R : List Rn} : ∀ k, firstErr V R k = 0 → ∀ i, i < k → nodeErr V R i = 0 := by
  intro k
  induction k with
  | zero => intro _ i hi; omega
  | succ k ih =>
    intro h i hi
    simp only [firstErr] at h
    by_cases hk : firstErr V R k = 0
    · rw [if_neg (by simp [hk])] at h
      by_cases hik : i = k
      · rw [hik]; exact h
      · exact ih hk i (by omega)
    · rw [if_pos (by simp [hk])] at h
      exact (hk h).elim
theorem firstErr_stop {V : Int} {R : List Rn} {k : Nat} (h0 : firstErr V R k = 0) (h : nodeErr V R k ≠ 0) : ∀ m, k < m → firstErr V R m = nodeErr V R k := by
  intro m
  induction m with
  | zero => intro h; omega
  | succ m ih =>
    intro hk
    simp only [firstErr]
    by_cases hm : k = m
    · subst hm
      rw [if_neg (by simp [h0])]
    · rw [ih (by omega), if_pos h]

theorem nodeErr_zero {V : Int} {R : List Rn} {i : Nat} (h : nodeErr V R i = 0) : ¬ badRange (rat R i) V ∧ ¬ badForm (rat R i) i ∧ ¬ badNext R (rat R i) (rat R i).2.1 ∧ ¬ badNext R (rat R i) (rat R i).2.2 := by
  unfold nodeErr at h
  simp only at h
  split at h
  · cases h
  split at h
  · cases h
  split at h
  · cases h
  rename_i h1 h2 h3
  exact ⟨h1, h2, fun h => h3 (.inl h), fun h => h3 (.inr h)⟩

theorem toN_len (R : List Rn) : (toN R).length = R.length := by simp [toN]
theorem toN_at (R : List Rn) (i : Nat) : (toN R).getD i (0, 0, 0) = ((rat R i).1.toNat, (rat R i).2.1.toNat, (rat R i).2.2.toNat) := by
  simp only [toN, rat, List.getD_eq_getElem?_getD, List.getElem?_map]
  cases R[i]? <;> rfl

/-- Nodes without an error are naturals, and small. -/
theorem nat_of {V : Int} {R : List Rn} (hV : 0 ≤ V ∧ V ≤ 24) (he : firstErr V R R.length = 0) : R = ofN (toN R) ∧ ∀ n ∈ toN R, n.1 < 24 ∧ n.2.1 ≤ R.length ∧ n.2.2 ≤ R.length := by
  have ok : ∀ i, i < R.length → ¬ badRange (rat R i) V ∧ ¬ badForm (rat R i) i := fun i hi => let h := nodeErr_zero (firstErr_zero _ he i hi); ⟨h.1, h.2.1⟩
  have key : ∀ n ∈ R, 0 ≤ n.1 ∧ n.1 < 24 ∧ 0 ≤ n.2.1 ∧ n.2.1 ≤ R.length ∧ 0 ≤ n.2.2 ∧ n.2.2 ≤ R.length := fun n hn => by
    obtain ⟨i, hi, rfl⟩ := List.getElem_of_mem hn
    obtain ⟨h1, h2⟩ := ok i hi
    have hr : rat R i = R[i] := by simp [rat, List.getD_eq_getElem?_getD, List.getElem?_eq_getElem hi]
    rw [hr] at h1 h2
    unfold badRange at h1
    unfold badForm at h2
    omega
  refine ⟨?_, fun n hn => ?_⟩
  · unfold ofN toN
    rw [List.map_map]
    refine (List.map_id R).symm.trans (List.map_congr_left fun n hn => ?_)
    have := key n hn
    simp only [id, Function.comp]
    refine Prod.ext ?_ (Prod.ext ?_ ?_) <;> simp <;> omega
  · unfold toN at hn
    obtain ⟨m, hm, rfl⟩ := List.mem_map.1 hn
    have := key m hm
    simp only
    omega

theorem nodup_iff {R : List Rn} (h : R = ofN (toN R)) : R.Nodup ↔ (toN R).Nodup := by
  constructor
  · intro hn
    rw [h] at hn
    unfold ofN at hn
    exact (List.pairwise_map.1 hn).imp fun h e => h (by rw [e])
  · intro hn
    rw [h]
    unfold ofN
    refine List.pairwise_map.2 (hn.imp fun hne h => hne ?_)
    simp only [Prod.mk.injEq, Int.natCast_inj] at h
    exact Prod.ext h.1 (Prod.ext h.2.1 h.2.2)

theorem good_of {V : Int} {R : List Rn} (hV : 0 ≤ V ∧ V ≤ 24) (he : firstErr V R R.length = 0) (hn : R.Nodup) : Good (toN R) ∧ R = ofN (toN R) ∧ ∀ i, 2 ≤ i → i < (toN R).length + 2 → var (toN R) i < V.toNat := by
  have ok : ∀ i, i < R.length → ¬ badRange (rat R i) V ∧ ¬ badForm (rat R i) i ∧ ¬ badNext R (rat R i) (rat R i).2.1 ∧ ¬ badNext R (rat R i) (rat R i).2.2 := fun i hi => nodeErr_zero (firstErr_zero _ he i hi)
  have hback : R = ofN (toN R) := by
    unfold ofN toN
    rw [List.map_map]
    refine (List.map_id R).symm.trans (List.map_congr_left fun n hn => ?_)
    obtain ⟨i, hi, rfl⟩ := List.getElem_of_mem hn
    obtain ⟨h1, h2, _⟩ := ok i hi
    have hr : rat R i = R[i] := by simp [rat, List.getD_eq_getElem?_getD, List.getElem?_eq_getElem hi]
    rw [hr] at h1 h2
    unfold badRange at h1
    unfold badForm at h2
    simp only [id, Function.comp]
    refine Prod.ext ?_ (Prod.ext ?_ ?_) <;> simp <;> omega
  have hv : ∀ i, 2 ≤ i → var (toN R) i = (rat R (i - 2)).1.toNat := fun i h2 => by
    unfold var
    rw [if_neg (by omega), toN_at]
  have hl : ∀ i, lo (toN R) i = (rat R (i - 2)).2.1.toNat := fun i => by unfold lo; rw [toN_at]
  have hh : ∀ i, hi (toN R) i = (rat R (i - 2)).2.2.toNat := fun i => by unfold hi; rw [toN_at]
  have hb : ∀ i, 2 ≤ i → i < (toN R).length + 2 → var (toN R) i < V.toNat := fun i h2 hi => by
    obtain ⟨h1, _⟩ := ok (i - 2) (by rw [toN_len] at hi; omega)
    rw [hv i h2]
    unfold badRange at h1
    omega
  refine ⟨⟨fun i h2 hi => by have := hb i h2 hi; omega, fun i h2 hi => ?_, fun i h2 hi => ?_, fun i h2 hi => ?_, fun i h2 hi => ?_, fun i h2 hi => ?_, ?_⟩, hback, hb⟩
  · obtain ⟨_, h1, _⟩ := ok (i - 2) (by rw [toN_len] at hi; omega)
    unfold badForm at h1
    rw [hl]; omega
  · obtain ⟨_, h1, _⟩ := ok (i - 2) (by rw [toN_len] at hi; omega)
    unfold badForm at h1
    rw [hh]; omega
  · obtain ⟨_, h1, _⟩ := ok (i - 2) (by rw [toN_len] at hi; omega)
    unfold badForm at h1
    rw [hl, hh]; omega
  · obtain ⟨h0, h1, h3, _⟩ := ok (i - 2) (by rw [toN_len] at hi; omega)
    have hbi := hb i h2 hi
    unfold badForm at h1
    unfold badRange at h0
    unfold badNext at h3
    rw [hl]
    by_cases hk : (rat R (i - 2)).2.1.toNat < 2
    · have e : var (toN R) (rat R (i - 2)).2.1.toNat = 24 := by simp [var, hk]
      omega
    · rw [hv i h2, hv _ (by omega)]
      have e : ((rat R (i - 2)).2.1 - 2).toNat = (rat R (i - 2)).2.1.toNat - 2 := by omega
      rw [e] at h3
      omega
  · obtain ⟨h0, h1, _, h3⟩ := ok (i - 2) (by rw [toN_len] at hi; omega)
    have hbi := hb i h2 hi
    unfold badForm at h1
    unfold badRange at h0
    unfold badNext at h3
    rw [hh]
    by_cases hk : (rat R (i - 2)).2.2.toNat < 2
    · have e : var (toN R) (rat R (i - 2)).2.2.toNat = 24 := by simp [var, hk]
      omega
    · rw [hv i h2, hv _ (by omega)]
      have e : ((rat R (i - 2)).2.2 - 2).toNat = (rat R (i - 2)).2.2.toNat - 2 := by omega
      rw [e] at h3
      omega
  · rw [hback] at hn
    unfold ofN at hn
    exact (List.pairwise_map.1 hn).imp fun h e => h (by rw [e])

/-- No error: a valid diagram. -/
theorem valid_of {V : Int} {R : List Rn} {root : Int} (h : checkErr V R root = 0) : ∃ (v : Nat) (M : List Nd) (r : Nat), V = v ∧ R = ofN M ∧ root = r ∧ Valid v M r := by
  unfold checkErr at h
  split at h
  · cases h
  split at h
  · cases h
  split at h
  · rename_i h1; exact (h1 h).elim
  split at h
  · cases h
  split at h
  · cases h
  split at h
  · cases h
  rename_i h1 h2 h3 h4 h5 h6
  have he : firstErr V R R.length = 0 := Classical.byContradiction h3
  have hn : R.Nodup := Classical.byContradiction h4
  obtain ⟨g1, g2, g3⟩ := good_of ⟨by omega, by omega⟩ he hn
  exact ⟨V.toNat, toN R, root.toNat, by omega, g2, by omega, ⟨by omega, by rw [toN_len]; omega, g1, g3, by rw [toN_len]; omega, Classical.byContradiction h6⟩⟩

theorem toN_ofN (M : List Nd) : toN (ofN M) = M := by
  unfold toN ofN
  rw [List.map_map]
  exact (List.map_congr_left fun n _ => by simp).trans (List.map_id M)
theorem ofN_len (M : List Nd) : (ofN M).length = M.length := by simp [ofN]
theorem ofN_at (M : List Nd) (i : Nat) : rat (ofN M) i = (((M.getD i (0, 0, 0)).1 : Int), ((M.getD i (0, 0, 0)).2.1 : Int), ((M.getD i (0, 0, 0)).2.2 : Int)) := by
  simp only [ofN, rat, List.getD_eq_getElem?_getD, List.getElem?_map]
  cases M[i]? <;> rfl

/-- A valid diagram has no error. -/
theorem check_valid {v : Nat} {M : List Nd} {r : Nat} (H : Valid v M r) : checkErr v (ofN M) r = 0 := by
  have hne : ∀ i, i < M.length → nodeErr v (ofN M) i = 0 := fun i hi => by
    have b0 := H.bound (i + 2) (by omega) (by omega)
    have b1 := H.good.lo_lt (i + 2) (by omega) (by omega)
    have b2 := H.good.hi_lt (i + 2) (by omega) (by omega)
    have b3 := H.good.lo_var (i + 2) (by omega) (by omega)
    have b4 := H.good.hi_var (i + 2) (by omega) (by omega)
    have b5 := H.good.ne (i + 2) (by omega) (by omega)
    simp only [var, lo, Dd.hi, show ¬ i + 2 < 2 by omega, if_false, Nat.add_sub_cancel] at b0 b1 b2 b3 b4 b5
    unfold nodeErr
    simp only
    have e0 : ¬ badRange (rat (ofN M) i) v := by rw [ofN_at]; unfold badRange; simp only; omega
    have e1 : ¬ badForm (rat (ofN M) i) i := by
      rw [ofN_at]; unfold badForm
      generalize M.getD i (0, 0, 0) = n at *
      obtain ⟨x, y, z⟩ := n
      simp only at *
      omega
    have key : ∀ k : Nat, k < i + 2 → (M.getD i (0, 0, 0)).1 < (if k < 2 then 24 else (M.getD (k - 2) (0, 0, 0)).1) → ¬ badNext (ofN M) (rat (ofN M) i) k := fun k hk hlt hb => by
      unfold badNext at hb
      rw [ofN_at, ofN_at] at hb
      simp only at hb
      have e : ((k : Int) - 2).toNat = k - 2 := by omega
      rw [e] at hb
      rw [if_neg (by omega)] at hlt
      omega
    have e2 : ¬ (badNext (ofN M) (rat (ofN M) i) (rat (ofN M) i).2.1 ∨ badNext (ofN M) (rat (ofN M) i) (rat (ofN M) i).2.2) := by
      have k1 := key _ b1 b3
      have k2 := key _ b2 b4
      rw [ofN_at] at *
      rintro (h | h)
      · exact k1 h
      · exact k2 h
    rw [if_neg e0, if_neg e1, if_neg e2]
  have hf : ∀ k, k ≤ M.length → firstErr v (ofN M) k = 0 := by
    intro k
    induction k with
    | zero => intro _; rfl
    | succ k ih =>
      intro hk
      simp only [firstErr]
      rw [ih (by omega), if_neg (by simp)]
      exact hne k (by omega)
  have hnd : (ofN M).Nodup := by
    unfold ofN
    refine List.pairwise_map.2 (H.good.nodup.imp fun hne h => hne ?_)
    simp only [Prod.mk.injEq, Int.natCast_inj] at h
    exact Prod.ext h.1 (Prod.ext h.2.1 h.2.2)
  have hr := H.root
  have hv := H.vars
  have hl := H.len
  unfold checkErr
  rw [if_neg (by omega), if_neg (by rw [ofN_len]; omega), ofN_len, hf _ (Nat.le_refl _), if_neg (by simp), if_neg (by simp [hnd]), if_neg (by omega), toN_ofN, Int.toNat_natCast, H.own, if_neg (by simp)]
end Go.Proofs.YtgdmcidcappkpaaDoor.Dd
namespace Go.Proofs.YtgdmcidcappkpaaDoor.Dd

abbrev BFn := (Nat → Bool) → Bool

/-- What is remembered: the number of i's transform. -/
def PMemo (Φ : BFn → BFn) (N : List Nd) (M : Nat → Option Nat) : Prop :=
  ∀ i r, M i = some r → i < N.length + 2 ∧ r < N.length + 2 ∧ (∀ ρ, den N r ρ = Φ (den N i) ρ) ∧ var N i ≤ var N r

structure PhRel (Φ : BFn → BFn) (N : List Nd) (i r : Nat) (N' : List Nd) (G' : Nd → Option Nat) (M' : Nat → Option Nat) : Prop where
  pre : N <+: N'
  good : Good N'
  memo : MemoOk N' G'
  pm : PMemo Φ N' M'
  lt : r < N'.length + 2
  den : ∀ ρ, den N' r ρ = Φ (den N i) ρ
  var : var N i ≤ var N' r
  len : N'.length + 1 ≤ N.length + (25 - Dd.var N i) * 2 ^ (24 - Dd.var N i)

section
variable {Φ : BFn → BFn} {N N1 N2 N3 : List Nd} {M M1 M2 : Nat → Option Nat} {G G1 G2 : Nd → Option Nat}

theorem den_pre' (A : Good N) (B : Good N1) (hp : N <+: N1) {i : Nat} (hl : i < N.length + 2) : den N1 i = den N i := funext fun ρ => den_pre A B hp hl ρ

theorem PMemo.pre (h : PMemo Φ N M) (A : Good N) (B : Good N1) (hp : N <+: N1) : PMemo Φ N1 M := by
  intro i r hm
  obtain ⟨h1, h2, h3, h4⟩ := h i r hm
  have := len_pre hp
  refine ⟨by omega, by omega, fun ρ => ?_, ?_⟩
  · rw [den_pre A B hp h2, den_pre' A B hp h1, h3]
  · rw [var_pre hp h1, var_pre hp h2]; exact h4
theorem PMemo.none (Φ : BFn → BFn) (N : List Nd) : PMemo Φ N (fun _ => none) := by intro i r h; cases h

theorem pow_pos (N : List Nd) (A : Good N) {i : Nat} (hi : i < N.length + 2) : 1 ≤ (25 - var N i) * 2 ^ (24 - var N i) := by
  have h1 := var_le A hi
  have h2 := Nat.two_pow_pos (24 - var N i)
  exact Nat.mul_pos (by omega) h2

theorem ph_ret (A : Good N) (B : MemoOk N G) (C : PMemo Φ N M) {i r : Nat} (hi : i < N.length + 2) (hr : r < N.length + 2) (hd : ∀ ρ, den N r ρ = Φ (den N i) ρ) (hv : var N i ≤ var N r) : PhRel Φ N i r N G M :=
  ⟨List.prefix_refl _, A, B, C, hr, hd, hv, by have := pow_pos N A hi; omega⟩
theorem ph_hit (A : Good N) (B : MemoOk N G) (C : PMemo Φ N M) {i r : Nat} (h : M i = some r) : PhRel Φ N i r N G M := by
  obtain ⟨h1, h2, h3, h4⟩ := C i r h
  exact ph_ret A B C h1 h2 h3 h4

theorem pow_two (v : Nat) (hv : v < 24) (x y : Nat) (hx : v < x) (hy : v < y) (hx2 : x ≤ 24) (hy2 : y ≤ 24) : (25 - x) * 2 ^ (24 - x) + (25 - y) * 2 ^ (24 - y) + 2 ^ (24 - v) ≤ (25 - v) * 2 ^ (24 - v) := by
  have h1 : 2 ^ (24 - x) ≤ 2 ^ (23 - v) := Nat.pow_le_pow_right (by omega) (by omega)
  have h2 : 2 ^ (24 - y) ≤ 2 ^ (23 - v) := Nat.pow_le_pow_right (by omega) (by omega)
  have q : 2 ^ (24 - v) = 2 * 2 ^ (23 - v) := by rw [show 24 - v = (23 - v) + 1 by omega, Nat.pow_succ]; omega
  have k1 : (25 - x) * 2 ^ (24 - x) ≤ (24 - v) * 2 ^ (23 - v) := Nat.mul_le_mul (by omega) h1
  have k2 : (25 - y) * 2 ^ (24 - y) ≤ (24 - v) * 2 ^ (23 - v) := Nat.mul_le_mul (by omega) h2
  have e : (25 - v) * 2 ^ (24 - v) = (24 - v) * 2 ^ (24 - v) + 2 ^ (24 - v) := by
    rw [show 25 - v = (24 - v) + 1 by omega, Nat.add_mul, Nat.one_mul]
  have e2 : (24 - v) * 2 ^ (24 - v) = (24 - v) * 2 ^ (23 - v) + (24 - v) * 2 ^ (23 - v) := by
    rw [q, ← Nat.mul_assoc, Nat.mul_comm (24 - v) 2, Nat.mul_assoc]; omega
  omega

/-- Two numbers are done and joined: the third step of a visit. -/
theorem ph_join {i r1 r2 r : Nat} (A : Good N) (h2 : 2 ≤ i) (hi : i < N.length + 2) (P1 : PhRel Φ N (lo N i) r1 N1 G1 M1) (P2 : PhRel Φ N1 (Dd.hi N i) r2 N2 G2 M2) {G3 : Nd → Option Nat} (p : N2 <+: N3) (g : Good N3) (m : MemoOk N3 G3)
    (hr : r < N3.length + 2) (hd : ∀ ρ, den N3 r ρ = Φ (den N i) ρ) (hv : var N i ≤ var N3 r) (hl : N3.length + 1 ≤ N2.length + 2 ^ (24 - var N i) + 1) :
    PhRel Φ N i r N3 G3 (fun y => if y = i then some r else M2 y) := by
  have a1 := A.lo_lt i h2 hi
  have a2 := A.hi_lt i h2 hi
  have b1 := A.lo_var i h2 hi
  have b2 := A.hi_var i h2 hi
  have b0 := A.bound i h2 hi
  have hp : N <+: N3 := (P1.pre.trans P2.pre).trans p
  have hll := len_pre hp
  refine ⟨hp, g, m, fun x y hxy => ?_, hr, hd, hv, ?_⟩
  · by_cases hx : x = i
    · subst hx
      simp only [if_true, Option.some.injEq] at hxy
      subst hxy
      exact ⟨by omega, hr, fun ρ => by rw [hd, den_pre' A g hp hi], by rw [var_pre hp hi]; exact hv⟩
    · simp only [hx, if_false] at hxy
      exact (P2.pm.pre P2.good g p) x y hxy
  · have l1 := P1.len
    have l2 := P2.len
    rw [var_pre P1.pre (by omega)] at l2
    have := pow_two (var N i) b0 (var N (lo N i)) (var N (Dd.hi N i)) b1 b2 (var_le A (by omega)) (var_le A (by omega))
    omega

theorem ph_node {i r1 r2 : Nat} (A : Good N) (h2 : 2 ≤ i) (hi : i < N.length + 2) (P1 : PhRel Φ N (lo N i) r1 N1 G1 M1) (P2 : PhRel Φ N1 (Dd.hi N i) r2 N2 G2 M2)
    (hΦ : ∀ ρ, (if ρ (var N i) then Φ (den N (Dd.hi N i)) ρ else Φ (den N (lo N i)) ρ) = Φ (den N i) ρ) :
    PhRel Φ N i (mk N2 (var N i) r1 r2).1 (mk N2 (var N i) r1 r2).2 G2 (fun y => if y = i then some (mk N2 (var N i) r1 r2).1 else M2 y) := by
  have a1 := A.lo_lt i h2 hi
  have a2 := A.hi_lt i h2 hi
  have b1 := A.lo_var i h2 hi
  have b2 := A.hi_var i h2 hi
  have b0 := A.bound i h2 hi
  have l1 := len_pre P1.pre
  have l2 := len_pre P2.pre
  have hr1 : r1 < N2.length + 2 := by have := P1.lt; omega
  have w1 : var N i < var N2 r1 := by rw [var_pre P2.pre P1.lt]; have := P1.var; omega
  have w2 : var N i < var N2 r2 := by have := P2.var; rw [var_pre P1.pre (by omega)] at this; omega
  obtain ⟨m1, m2, m3, m4, m5, m6⟩ := mk_spec P2.good b0 hr1 P2.lt w1 w2
  refine ph_join A h2 hi P1 P2 m1 m2 (P2.memo.pre P2.good m2 m1) m3 (fun ρ => ?_) m5 (by have := Nat.two_pow_pos (24 - var N i); omega)
  rw [m4, P2.den, den_pre' A P1.good P1.pre (by omega), den_pre P1.good P2.good P2.pre P1.lt, P1.den, hΦ]

theorem ph_ite {i r1 r2 r a b c : Nat} {G3 : Nd → Option Nat} (A : Good N) (h2 : 2 ≤ i) (hi : i < N.length + 2) (P1 : PhRel Φ N (lo N i) r1 N1 G1 M1) (P2 : PhRel Φ N1 (Dd.hi N i) r2 N2 G2 M2) (I : IteRel N2 a b c r N3 G3)
    (hmin : var N i ≤ min (var N2 a) (min (var N2 b) (var N2 c))) (hΦ : ∀ ρ, (if den N2 a ρ then den N2 b ρ else den N2 c ρ) = Φ (den N i) ρ) :
    PhRel Φ N i r N3 G3 (fun y => if y = i then some r else M2 y) := by
  have b0 := A.bound i h2 hi
  refine ph_join A h2 hi P1 P2 I.pre I.good I.memo I.lt (fun ρ => by rw [I.den, hΦ]) (by have := I.var; omega) ?_
  have := I.len
  have : 2 ^ (24 - min (Dd.var N2 a) (min (Dd.var N2 b) (Dd.var N2 c))) ≤ 2 ^ (24 - var N i) := Nat.pow_le_pow_right (by omega) (by omega)
  omega
end

/-! ### restricting -/
def rf (v : Nat) (t : Bool) : BFn → BFn := fun φ ρ => φ (upd ρ v t)

theorem rf_node {N : List Nd} (A : Good N) {i v : Nat} {t : Bool} (h2 : 2 ≤ i) (hi : i < N.length + 2) (hv : var N i ≠ v) (ρ : Nat → Bool) :
    (if ρ (var N i) then rf v t (den N (Dd.hi N i)) ρ else rf v t (den N (lo N i)) ρ) = rf v t (den N i) ρ := by
  unfold rf
  rw [den_node A h2 hi (upd ρ v t), upd_ne ρ t hv]

theorem rf_past {N : List Nd} (A : Good N) {i v : Nat} (t : Bool) (hi : i < N.length + 2) (hv : v < var N i) (ρ : Nat → Bool) : den N i ρ = rf v t (den N i) ρ := (indep A i hi v hv ρ t).symm

/-! ### quantifying -/
open Classical in
/-- For a set S of variables: any: there are values of S with which φ is true; else: φ is true with all values. -/
noncomputable def qf (any : Bool) (S : Nat → Bool) : BFn → BFn := fun φ ρ =>
  if any then decide (∃ σ, (∀ x, S x = false → σ x = ρ x) ∧ φ σ = true) else decide (∀ σ, (∀ x, S x = false → σ x = ρ x) → φ σ = true)

theorem qf_const (any : Bool) (S : Nat → Bool) (b : Bool) (ρ : Nat → Bool) : qf any S (fun _ => b) ρ = b := by
  unfold qf
  cases any
  · cases b
    · simp; exact ⟨ρ, fun _ _ => rfl⟩
    · simp
  · cases b
    · simp
    · simp; exact ⟨ρ, fun _ _ => rfl⟩

theorem qf_out (any : Bool) (S : Nat → Bool) (v : Nat) (hS : S v = false) (φ0 φ1 : BFn) (ρ : Nat → Bool) :
    qf any S (fun σ => if σ v then φ1 σ else φ0 σ) ρ = if ρ v then qf any S φ1 ρ else qf any S φ0 ρ := by
  have key : ∀ σ : Nat → Bool, (∀ x, S x = false → σ x = ρ x) → σ v = ρ v := fun σ h => h v hS
  unfold qf
  cases any
  · cases hρ : ρ v
    · simp only [if_false, Bool.false_eq_true]
      congr 1
      refine propext ⟨fun h σ hσ => ?_, fun h σ hσ => ?_⟩
      · have := h σ hσ; rw [key σ hσ, hρ] at this; simpa using this
      · rw [key σ hσ, hρ]; simpa using h σ hσ
    · simp only [if_true, if_false, Bool.false_eq_true]
      congr 1
      refine propext ⟨fun h σ hσ => ?_, fun h σ hσ => ?_⟩
      · have := h σ hσ; rw [key σ hσ, hρ] at this; simpa using this
      · rw [key σ hσ, hρ]; simpa using h σ hσ
  · cases hρ : ρ v
    · simp only [if_true, if_false, Bool.false_eq_true]
      congr 1
      refine propext ⟨fun ⟨σ, hσ, h⟩ => ⟨σ, hσ, ?_⟩, fun ⟨σ, hσ, h⟩ => ⟨σ, hσ, ?_⟩⟩
      · rw [key σ hσ, hρ] at h; simpa using h
      · rw [key σ hσ, hρ]; simpa using h
    · simp only [if_true]
      congr 1
      refine propext ⟨fun ⟨σ, hσ, h⟩ => ⟨σ, hσ, ?_⟩, fun ⟨σ, hσ, h⟩ => ⟨σ, hσ, ?_⟩⟩
      · rw [key σ hσ, hρ] at h; simpa using h
      · rw [key σ hσ, hρ]; simpa using h

open Classical in
theorem qf_in (any : Bool) (S : Nat → Bool) (v : Nat) (hS : S v = true) (φ0 φ1 : BFn) (h0 : ∀ ρ b, φ0 (upd ρ v b) = φ0 ρ) (h1 : ∀ ρ b, φ1 (upd ρ v b) = φ1 ρ) (ρ : Nat → Bool) :
    qf any S (fun σ => if σ v then φ1 σ else φ0 σ) ρ = if any then qf any S φ0 ρ || qf any S φ1 ρ else qf any S φ0 ρ && qf any S φ1 ρ := by
  have ups : ∀ (σ : Nat → Bool) b, (∀ x, S x = false → σ x = ρ x) → ∀ x, S x = false → upd σ v b x = ρ x := fun σ b h x hx => by
    have : x ≠ v := by rintro rfl; rw [hS] at hx; cases hx
    rw [upd_ne σ b this]; exact h x hx
  have sv : ∀ (σ : Nat → Bool) b, upd σ v b v = b := fun σ b => by simp [upd]
  unfold qf
  cases any
  · simp only [if_false, Bool.false_eq_true]
    rw [← Bool.decide_and]
    congr 1
    refine propext ⟨fun h => ⟨fun σ hσ => ?_, fun σ hσ => ?_⟩, fun ⟨k0, k1⟩ σ hσ => ?_⟩
    · have := h (upd σ v false) (ups σ _ hσ); rw [sv, h0] at this; simpa using this
    · have := h (upd σ v true) (ups σ _ hσ); rw [sv, h1] at this; simpa using this
    · cases σ v
      · simpa using k0 σ hσ
      · simpa using k1 σ hσ
  · simp only [if_true]
    rw [← Bool.decide_or]
    congr 1
    refine propext ⟨fun ⟨σ, hσ, h⟩ => ?_, fun h => ?_⟩
    · cases hv : σ v
      · rw [hv] at h; exact .inl ⟨σ, hσ, by simpa using h⟩
      · rw [hv] at h; exact .inr ⟨σ, hσ, by simpa using h⟩
    · rcases h with ⟨σ, hσ, h⟩ | ⟨σ, hσ, h⟩
      · exact ⟨upd σ v false, ups σ _ hσ, by rw [sv, h0]; simpa using h⟩
      · exact ⟨upd σ v true, ups σ _ hσ, by rw [sv, h1]; simpa using h⟩

theorem den_split {N : List Nd} (A : Good N) {i : Nat} (h2 : 2 ≤ i) (hi : i < N.length + 2) : den N i = fun σ => if σ (var N i) then den N (Dd.hi N i) σ else den N (lo N i) σ := funext fun σ => den_node A h2 hi σ

theorem qf_node_out {N : List Nd} (A : Good N) {i : Nat} (any : Bool) (S : Nat → Bool) (h2 : 2 ≤ i) (hi : i < N.length + 2) (hS : S (var N i) = false) (ρ : Nat → Bool) :
    (if ρ (var N i) then qf any S (den N (Dd.hi N i)) ρ else qf any S (den N (lo N i)) ρ) = qf any S (den N i) ρ := by
  rw [den_split A h2 hi, qf_out any S _ hS]
theorem qf_node_in {N : List Nd} (A : Good N) {i : Nat} (any : Bool) (S : Nat → Bool) (h2 : 2 ≤ i) (hi : i < N.length + 2) (hS : S (var N i) = true) (ρ : Nat → Bool) :
    qf any S (den N i) ρ = if any then qf any S (den N (lo N i)) ρ || qf any S (den N (Dd.hi N i)) ρ else qf any S (den N (lo N i)) ρ && qf any S (den N (Dd.hi N i)) ρ := by
  have a1 := A.lo_lt i h2 hi
  have a2 := A.hi_lt i h2 hi
  rw [den_split A h2 hi, qf_in any S _ hS]
  · exact fun ρ b => indep A _ (by omega) _ (A.lo_var i h2 hi) ρ b
  · exact fun ρ b => indep A _ (by omega) _ (A.hi_var i h2 hi) ρ b
end Go.Proofs.YtgdmcidcappkpaaDoor.Dd
namespace Go.Proofs.YtgdmcidcappkpaaDoor.Dd

/-! ### support -/
def supp (M : List Nd) : Nat := M.foldl (fun (s : Nat) (n : Nd) => s ||| 2 ^ n.1) 0
theorem supp_snoc (M : List Nd) (n : Nd) : supp (M ++ [n]) = supp M ||| 2 ^ n.1 := by simp [supp]
theorem supp_lt (M : List Nd) (h : ∀ n ∈ M, n.1 < 24) : supp M < 16777216 := by
  unfold supp
  have key : ∀ (l : List Nd) s, (∀ n ∈ l, n.1 < 24) → s < 2 ^ 24 → l.foldl (fun (s : Nat) (n : Nd) => s ||| 2 ^ n.1) s < 2 ^ 24 := by
    intro l
    induction l with
    | nil => intro s _ hs; exact hs
    | cons n l ih =>
      intro s hl hs
      simp only [List.foldl_cons]
      refine ih _ (fun m hm => hl m (by simp [hm])) (Nat.or_lt_two_pow hs ?_)
      exact Nat.pow_lt_pow_right (by omega) (hl n (by simp))
  exact key M 0 h (by decide)
theorem supp_bit (M : List Nd) (v : Nat) : (supp M).testBit v = true ↔ ∃ n ∈ M, n.1 = v := by
  unfold supp
  have key : ∀ (l : List Nd) (s : Nat), (l.foldl (fun (s : Nat) (n : Nd) => s ||| 2 ^ n.1) s).testBit v = true ↔ s.testBit v = true ∨ ∃ n ∈ l, n.1 = v := by
    intro l
    induction l with
    | nil => intro s; simp
    | cons n l ih =>
      intro s
      simp only [List.foldl_cons]
      rw [ih, Nat.testBit_or, Bool.or_eq_true, Nat.testBit_two_pow]
      simp only [decide_eq_true_eq, List.mem_cons, exists_eq_or_imp]
      rw [or_assoc]
  rw [key]
  simp

/-! ### the first assignment -/
def anyF (M : List Nd) : Nat → Nat → Nat → Nat
  | 0, _, s => s
  | f + 1, k, s => if k < 2 then s else if lo M k ≠ 0 then anyF M f (lo M k) s else anyF M f (hi M k) (s + 2 ^ var M k)
def anyP (M : List Nd) (r : Nat) : Nat := anyF M (r + 1) r 0

section
variable {M : List Nd}
theorem anyF_stable (G : Good M) : ∀ f k s, k < M.length + 2 → k < f → anyF M f k s = anyF M (k + 1) k s := by
  intro f
  induction f using Nat.strongRecOn with
  | _ f ih =>
    intro k s hk hf
    obtain ⟨f, rfl⟩ : ∃ g, f = g + 1 := ⟨f - 1, by omega⟩
    simp only [anyF]
    by_cases h2 : k < 2
    · simp [h2]
    · have a1 := G.lo_lt k (by omega) hk
      have a2 := G.hi_lt k (by omega) hk
      simp only [h2, if_false]
      by_cases hfk : f = k
      · rw [hfk]
      · rw [ih f (by omega) (lo M k) s (by omega) (by omega), ih f (by omega) (hi M k) _ (by omega) (by omega),
          ih k (by omega) (lo M k) s (by omega) (by omega), ih k (by omega) (hi M k) _ (by omega) (by omega)]
theorem anyF_end {k : Nat} (s : Nat) (h : k < 2) : anyF M (k + 1) k s = s := by simp [anyF, h]
theorem anyF_lo (G : Good M) {k : Nat} (s : Nat) (h2 : 2 ≤ k) (hk : k < M.length + 2) (hl : lo M k ≠ 0) : anyF M (k + 1) k s = anyF M (lo M k + 1) (lo M k) s := by
  have a1 := G.lo_lt k h2 hk
  conv => lhs; unfold anyF
  rw [if_neg (by omega), if_pos hl, anyF_stable G k _ s (by omega) a1]
theorem anyF_hi (G : Good M) {k : Nat} (s : Nat) (h2 : 2 ≤ k) (hk : k < M.length + 2) (hl : lo M k = 0) : anyF M (k + 1) k s = anyF M (hi M k + 1) (hi M k) (s + 2 ^ var M k) := by
  have a1 := G.hi_lt k h2 hk
  conv => lhs; unfold anyF
  rw [if_neg (by omega), if_neg (by simp [hl]), anyF_stable G k _ _ (by omega) a1]

/-! ### the number of assignments -/
def vr (V : Nat) (M : List Nd) (k : Nat) : Nat := if k < 2 then V else var M k
def cnStep (V : Nat) (M : List Nd) (s : List Nat) (n : Nd) : List Nat :=
  s ++ [s.getD n.2.1 0 * 2 ^ (vr V M n.2.1 - n.1 - 1) + s.getD n.2.2 0 * 2 ^ (vr V M n.2.2 - n.1 - 1)]
def cns (V : Nat) (M : List Nd) (k : Nat) : List Nat := (M.take k).foldl (cnStep V M) [0, 1]
def cn (V : Nat) (M : List Nd) (r : Nat) : Nat := (cns V M M.length).getD r 0 * 2 ^ vr V M r

theorem cns_len (V : Nat) (M : List Nd) : ∀ k, k ≤ M.length → (cns V M k).length = k + 2 := by
  intro k
  induction k with
  | zero => intro _; rfl
  | succ k ih =>
    intro hk
    unfold cns at *
    rw [List.take_succ_eq_append_getElem (by omega), List.foldl_append]
    simp only [List.foldl_cons, List.foldl_nil, cnStep, List.length_append, List.length_singleton]
    rw [ih (by omega)]
theorem cns_succ (V : Nat) (M : List Nd) {k : Nat} (hk : k < M.length) : cns V M (k + 1) = cnStep V M (cns V M k) M[k] := by
  unfold cns
  rw [List.take_succ_eq_append_getElem hk, List.foldl_append]
  rfl
theorem vr_le {V : Nat} (H : ∀ i, 2 ≤ i → i < M.length + 2 → var M i < V) {k : Nat} (hk : k < M.length + 2) : vr V M k ≤ V := by
  unfold vr
  by_cases h : k < 2
  · simp [h]
  · simp only [h, if_false]; exact Nat.le_of_lt (H k (by omega) hk)
theorem vr_lt {V : Nat} (H : ∀ i, 2 ≤ i → i < M.length + 2 → var M i < V) {u k : Nat} (hu : u < var M k) (huV : u < V) (hk : k < M.length + 2) : u < vr V M k := by
  unfold vr
  by_cases h : k < 2
  · simp [h, huV]
  · simp only [h, if_false]; exact hu
/-- Each count fits. -/
theorem cns_le {V : Nat} (G : Good M) (H : ∀ i, 2 ≤ i → i < M.length + 2 → var M i < V) : ∀ k, k ≤ M.length → ∀ j, j < k + 2 → (cns V M k).getD j 0 ≤ 2 ^ (V - vr V M j) := by
  intro k
  induction k with
  | zero =>
    intro _ j hj
    have : j = 0 ∨ j = 1 := by omega
    rcases this with rfl | rfl <;> simp [cns, vr]
  | succ k ih =>
    intro hk j hj
    rw [cns_succ V M (by omega)]
    have hl := cns_len V M k (by omega)
    by_cases hjk : j < k + 2
    · have e : (cnStep V M (cns V M k) M[k]).getD j 0 = (cns V M k).getD j 0 := by
        simp [cnStep, List.getD_eq_getElem?_getD, List.getElem?_append_left (show j < (cns V M k).length by omega)]
      rw [e]
      exact ih (by omega) j hjk
    · have hj' : j = k + 2 := by omega
      subst hj'
      have e : (cnStep V M (cns V M k) M[k]).getD (k + 2) 0 = (cns V M k).getD M[k].2.1 0 * 2 ^ (vr V M M[k].2.1 - M[k].1 - 1) + (cns V M k).getD M[k].2.2 0 * 2 ^ (vr V M M[k].2.2 - M[k].1 - 1) := by
        simp [cnStep, List.getD_eq_getElem?_getD, ← hl]
      have hn : M[k]? = some M[k] := List.getElem?_eq_getElem (by omega)
      have hat := node_at (N := M) (i := k + 2) (by omega) (by omega)
      rw [Nat.add_sub_cancel, hn] at hat
      have hat' : M[k] = (var M (k + 2), lo M (k + 2), hi M (k + 2)) := Option.some.inj hat
      have b0 := H (k + 2) (by omega) (by omega)
      have b1 := G.lo_lt (k + 2) (by omega) (by omega)
      have b2 := G.hi_lt (k + 2) (by omega) (by omega)
      have b3 := G.lo_var (k + 2) (by omega) (by omega)
      have b4 := G.hi_var (k + 2) (by omega) (by omega)
      rw [e, hat']
      simp only
      have c1 := vr_lt H b3 b0 (by omega)
      have c2 := vr_lt H b4 b0 (by omega)
      have c3 := vr_le H (k := lo M (k + 2)) (by omega)
      have c4 := vr_le H (k := hi M (k + 2)) (by omega)
      have i1 := ih (by omega) (lo M (k + 2)) b1
      have i2 := ih (by omega) (hi M (k + 2)) b2
      have key : ∀ x y, var M (k + 2) < y → y ≤ V → x ≤ 2 ^ (V - y) → x * 2 ^ (y - var M (k + 2) - 1) ≤ 2 ^ (V - var M (k + 2) - 1) := fun x y h1 h2 h3 => by
        refine Nat.le_trans (Nat.mul_le_mul_right _ h3) ?_
        rw [← Nat.pow_add]
        exact Nat.pow_le_pow_right (by omega) (by omega)
      have k1 := key _ _ c1 c3 i1
      have k2 := key _ _ c2 c4 i2
      have hv : vr V M (k + 2) = var M (k + 2) := by unfold vr; rw [if_neg (by omega)]
      rw [hv, show V - var M (k + 2) = (V - var M (k + 2) - 1) + 1 by omega, Nat.pow_succ]
      omega
end
end Go.Proofs.YtgdmcidcappkpaaDoor.Dd
namespace Go.Proofs.YtgdmcidcappkpaaDoor.Dd

/-- A function does not depend on variables from V on. -/
def Within (V : Nat) (f : (Nat → Bool) → Bool) : Prop := ∀ v, V ≤ v → ∀ ρ b, f (upd ρ v b) = f ρ

section
variable {N : List Nd}
theorem upd_comm (ρ : Nat → Bool) {u v : Nat} (a b : Bool) (h : u ≠ v) : upd (upd ρ u a) v b = upd (upd ρ v b) u a := by
  funext x
  unfold upd
  by_cases h1 : x = v
  · subst h1; simp [Ne.symm h]
  · by_cases h2 : x = u
    · subst h2; simp [h]
    · simp [h1, h2]

theorem within_var (G : Good N) {V i : Nat} (h2 : 2 ≤ i) (hi : i < N.length + 2) (hw : Within V (den N i)) : var N i < V := by
  by_cases h : var N i < V
  · exact h
  · exfalso
    have a1 := G.lo_lt i h2 hi
    have a2 := G.hi_lt i h2 hi
    refine G.ne i h2 hi (inj G (by omega) (by omega) fun ρ => ?_)
    rw [← cof_lo G h2 hi, ← cof_hi G h2 hi, hw _ (by omega), hw _ (by omega)]
theorem within_lo (G : Good N) {V i : Nat} (h2 : 2 ≤ i) (hi : i < N.length + 2) (hw : Within V (den N i)) : Within V (den N (lo N i)) := by
  intro v hv ρ b
  have hlt := within_var G h2 hi hw
  rw [← cof_lo G h2 hi, ← cof_lo G h2 hi, upd_comm ρ b false (by omega : v ≠ var N i), hw v hv]
theorem within_hi (G : Good N) {V i : Nat} (h2 : 2 ≤ i) (hi : i < N.length + 2) (hw : Within V (den N i)) : Within V (den N (Dd.hi N i)) := by
  intro v hv ρ b
  have hlt := within_var G h2 hi hw
  rw [← cof_hi G h2 hi, ← cof_hi G h2 hi, upd_comm ρ b true (by omega : v ≠ var N i), hw v hv]

theorem vr_within (G : Good N) {V i : Nat} (hi : i < N.length + 2) (hw : Within V (den N i)) : vr V N i ≤ V := by
  unfold vr
  by_cases h : i < 2
  · simp [h]
  · simp only [h, if_false]; exact Nat.le_of_lt (within_var G (by omega) hi hw)

theorem visit_within (G : Good N) (V : Nat) : ∀ f i s, i < f → i < N.length + 2 → Within V (den N i) → s.2 0 = some 0 → s.2 1 = some 1 → (∀ n ∈ s.1, n.1 < V) →
    (∀ n ∈ (visit N f i s).2.1, n.1 < V) ∧ (visit N f i s).2.1.length + 1 ≤ s.1.length + 2 ^ (V - vr V N i) ∧ (visit N f i s).2.2 0 = some 0 ∧ (visit N f i s).2.2 1 = some 1 := by
  intro f
  induction f with
  | zero => intro i s h; omega
  | succ f ih =>
    intro i s hif hil hw z0 z1 hs
    have hpos : 1 ≤ 2 ^ (V - vr V N i) := Nat.one_le_two_pow
    cases hsi : s.2 i with
    | some k =>
      simp only [visit, hsi]
      exact ⟨hs, by omega, z0, z1⟩
    | none =>
      have h2 : 2 ≤ i := by
        by_cases h : i = 0
        · subst h; rw [z0] at hsi; cases hsi
        · by_cases h' : i = 1
          · subst h'; rw [z1] at hsi; cases hsi
          · omega
      have a1 := G.lo_lt i h2 hil
      have a2 := G.hi_lt i h2 hil
      have b1 := G.lo_var i h2 hil
      have b2 := G.hi_var i h2 hil
      have hv := within_var G h2 hil hw
      have wl := within_lo G h2 hil hw
      have wh := within_hi G h2 hil hw
      obtain ⟨p1, p2, p3, p4⟩ := ih (lo N i) s (by omega) (by omega) wl z0 z1 hs
      obtain ⟨q1, q2, q3, q4⟩ := ih (Dd.hi N i) (visit N f (lo N i) s).2 (by omega) (by omega) wh p3 p4 p1
      have v1 := vr_within G (by omega) wl
      have v2 := vr_within G (by omega) wh
      have c1 : var N i < vr V N (lo N i) := by
        unfold vr; by_cases h : lo N i < 2
        · simp [h, hv]
        · simp only [h, if_false]; exact b1
      have c2 : var N i < vr V N (Dd.hi N i) := by
        unfold vr; by_cases h : Dd.hi N i < 2
        · simp [h, hv]
        · simp only [h, if_false]; exact b2
      have hvr : vr V N i = var N i := by unfold vr; rw [if_neg (by omega)]
      have e1 : 2 ^ (V - vr V N (lo N i)) ≤ 2 ^ (V - var N i - 1) := Nat.pow_le_pow_right (by omega) (by omega)
      have e2 : 2 ^ (V - vr V N (Dd.hi N i)) ≤ 2 ^ (V - var N i - 1) := Nat.pow_le_pow_right (by omega) (by omega)
      have e3 : 2 ^ (V - var N i) = 2 * 2 ^ (V - var N i - 1) := by rw [show V - var N i = (V - var N i - 1) + 1 by omega, Nat.pow_succ]; simp; omega
      simp only [visit, hsi]
      refine ⟨fun n hn => ?_, ?_, ?_, ?_⟩
      · rcases List.mem_append.1 hn with h | h
        · exact q1 n h
        · have : n = _ := List.mem_singleton.1 h
          rw [this]; exact hv
      · rw [hvr, List.length_append, List.length_singleton]; omega
      · simp only [show (0 : Nat) ≠ i by omega, if_false]; exact q3
      · simp only [show (1 : Nat) ≠ i by omega, if_false]; exact q4

theorem canon_within (G : Good N) {V i : Nat} (hi : i < N.length + 2) (hw : Within V (den N i)) : (∀ n ∈ (canon N i).2, n.1 < V) ∧ (canon N i).2.length + 1 ≤ 2 ^ V := by
  obtain ⟨h1, h2, _, _⟩ := visit_within G V (i + 1) i start (by omega) hi hw rfl rfl (by simp [start])
  refine ⟨h1, ?_⟩
  have : 2 ^ (V - vr V N i) ≤ 2 ^ V := Nat.pow_le_pow_right (by omega) (by omega)
  have e : start.1.length = 0 := rfl
  rw [e] at h2
  unfold canon
  simp only
  omega

theorem valid_canon (G : Good N) {V i : Nat} (hV : V ≤ 24) (hi : i < N.length + 2) (hw : Within V (den N i)) (hl : (canon N i).2.length ≤ 4096) : Valid V (canon N i).2 (canon N i).1 := by
  obtain ⟨g1, g2, g3, g4⟩ := canon_good G hi
  refine ⟨hV, hl, g1, fun j h2 hj => ?_, g2, g4⟩
  have hat := node_at h2 hj
  have := (canon_within G hi hw).1 _ (List.mem_of_getElem? hat)
  exact this
theorem canon_short (G : Good N) {V i : Nat} (hV : V ≤ 12) (hi : i < N.length + 2) (hw : Within V (den N i)) : (canon N i).2.length ≤ 4096 := by
  have h1 := (canon_within G hi hw).2
  have h2 : 2 ^ V ≤ 2 ^ 12 := Nat.pow_le_pow_right (by omega) hV
  omega
theorem canon_den (G : Good N) {i : Nat} (hi : i < N.length + 2) : den (canon N i).2 (canon N i).1 = den N i := funext (canon_good G hi).2.2.1

theorem valid_within {V : Nat} {M : List Nd} {r : Nat} (H : Valid V M r) : ∀ i, i < M.length + 2 → Within V (den M i) := by
  intro i
  induction i using Nat.strongRecOn with
  | _ i ih =>
    intro hi v hv ρ b
    by_cases h2 : 2 ≤ i
    · have a1 := H.good.lo_lt i h2 hi
      have a2 := H.good.hi_lt i h2 hi
      have a3 := H.bound i h2 hi
      rw [den_node H.good h2 hi, den_node H.good h2 hi, upd_ne ρ b (by omega : var M i ≠ v), ih _ a1 (by omega) v hv, ih _ a2 (by omega) v hv]
    · have : i = 0 ∨ i = 1 := by omega
      rcases this with rfl | rfl <;> rfl

/-- Valid diagrams of one function are equal. -/
theorem valid_eq {V : Nat} {M M' : List Nd} {r r' : Nat} (H : Valid V M r) (H' : Valid V M' r') (hd : ∀ ρ, den M r ρ = den M' r' ρ) : r = r' ∧ M = M' := by
  have h := canon_eq H.good H'.good H.root H'.root hd
  rw [H.own, H'.own] at h
  exact ⟨congrArg Prod.fst h, congrArg Prod.snd h⟩
end

/-! ### functions that stay within V variables -/
section
variable {V : Nat} {f g h : (Nat → Bool) → Bool}
theorem Within.const (V : Nat) (b : Bool) : Within V (fun _ => b) := fun _ _ _ _ => rfl
theorem Within.proj {V i : Nat} (hi : i < V) : Within V (fun ρ => ρ i) := fun v hv ρ b => upd_ne ρ b (by omega)
theorem Within.ite (hf : Within V f) (hg : Within V g) (hh : Within V h) : Within V (fun ρ => if f ρ then g ρ else h ρ) := fun v hv ρ b => by simp only [hf v hv, hg v hv, hh v hv]
theorem Within.rf {i : Nat} {t : Bool} (hf : Within V f) : Within V (Dd.rf i t f) := fun v hv ρ b => by
  unfold Dd.rf
  by_cases e : v = i
  · subst e
    congr 1
    funext x
    unfold upd
    by_cases hx : x = v <;> simp [hx]
  · rw [upd_comm ρ b t e, hf v hv]
theorem Within.congr (hf : Within V f) (h : ∀ ρ, g ρ = f ρ) : Within V g := fun v hv ρ b => by rw [h, h, hf v hv]
theorem Within.qf {any : Bool} {S : Nat → Bool} (hf : Within V f) : Within V (Dd.qf any S f) := fun v hv ρ b => by
  have key : ∀ (ρ : Nat → Bool) (b : Bool) (σ : Nat → Bool), (∀ x, S x = false → σ x = ρ x) → ∃ τ, (∀ x, S x = false → τ x = upd ρ v b x) ∧ f τ = f σ := fun ρ b σ hσ => by
    by_cases hS : S v = false
    · refine ⟨upd σ v b, fun x hx => ?_, hf v hv σ b⟩
      unfold upd
      by_cases hxv : x = v
      · simp [hxv]
      · simp [hxv, hσ x hx]
    · refine ⟨σ, fun x hx => ?_, rfl⟩
      have : x ≠ v := by rintro rfl; exact hS hx
      rw [upd_ne ρ b this]; exact hσ x hx
  have back : upd (upd ρ v b) v (ρ v) = ρ := by funext x; unfold upd; by_cases hx : x = v <;> simp [hx]
  unfold Dd.qf
  cases any
  · simp only [Bool.false_eq_true, if_false]
    congr 1
    refine propext ⟨fun h σ hσ => ?_, fun h σ hσ => ?_⟩
    · obtain ⟨τ, h1, h2⟩ := key ρ b σ hσ; rw [← h2]; exact h τ h1
    · obtain ⟨τ, h1, h2⟩ := key (upd ρ v b) (ρ v) σ hσ; rw [back] at h1; rw [← h2]; exact h τ h1
  · simp only [if_true]
    congr 1
    refine propext ⟨fun ⟨σ, hσ, h⟩ => ?_, fun ⟨σ, hσ, h⟩ => ?_⟩
    · obtain ⟨τ, h1, h2⟩ := key (upd ρ v b) (ρ v) σ hσ; rw [back] at h1; exact ⟨τ, h1, h2 ▸ h⟩
    · obtain ⟨τ, h1, h2⟩ := key ρ b σ hσ; exact ⟨τ, h1, h2 ▸ h⟩
end
end Go.Proofs.YtgdmcidcappkpaaDoor.Dd
namespace Go.Proofs.YtgdmcidcappkpaaDoor.Dd

/-! ### the number of assignments -/
def cnt : Nat → BFn → Nat
  | 0, f => if f (fun _ => false) then 1 else 0
  | V + 1, f => cnt V (rf V false f) + cnt V (rf V true f)

theorem cnt_congr {f g : BFn} : ∀ V, (∀ ρ, (∀ v, V ≤ v → ρ v = false) → f ρ = g ρ) → cnt V f = cnt V g := by
  intro V
  induction V generalizing f g with
  | zero => intro h; simp only [cnt]; rw [h _ (fun _ _ => rfl)]
  | succ V ih =>
    intro h
    simp only [cnt]
    have key : ∀ b, cnt V (rf V b f) = cnt V (rf V b g) := fun b => ih fun ρ hρ => by
      unfold rf
      refine h _ fun v hv => ?_
      rw [upd_ne ρ b (by omega)]
      exact hρ v (by omega)
    rw [key, key]

theorem rf_rf_comm {u v : Nat} (a b : Bool) (f : BFn) (h : u ≠ v) : rf u a (rf v b f) = rf v b (rf u a f) := by
  funext ρ
  unfold rf
  rw [upd_comm ρ a b h]

theorem cnt_half : ∀ V v, v < V → ∀ g0 g1 : BFn, (∀ b, rf v b g0 = g0) → (∀ b, rf v b g1 = g1) → 2 * cnt V (fun ρ => if ρ v then g1 ρ else g0 ρ) = cnt V g0 + cnt V g1 := by
  intro V
  induction V with
  | zero => intro v h; omega
  | succ V ih =>
    intro v hv g0 g1 h0 h1
    simp only [cnt]
    by_cases hvV : v = V
    · subst hvV
      have e0 : rf v false (fun ρ => if ρ v then g1 ρ else g0 ρ) = g0 := by
        refine Eq.trans ?_ (h0 false)
        funext ρ
        simp [rf, upd]
      have e1 : rf v true (fun ρ => if ρ v then g1 ρ else g0 ρ) = g1 := by
        refine Eq.trans ?_ (h1 true)
        funext ρ
        simp [rf, upd]
      rw [e0, e1, h0, h0, h1, h1]
      omega
    · have key : ∀ b, rf V b (fun ρ => if ρ v then g1 ρ else g0 ρ) = fun ρ => if ρ v then rf V b g1 ρ else rf V b g0 ρ := fun b => by
        funext ρ
        simp only [rf]
        rw [upd_ne ρ b hvV]
      rw [key, key]
      have i1 := ih v (by omega) (rf V false g0) (rf V false g1) (fun b => by rw [rf_rf_comm _ _ _ hvV, h0]) (fun b => by rw [rf_rf_comm _ _ _ hvV, h1])
      have i2 := ih v (by omega) (rf V true g0) (rf V true g1) (fun b => by rw [rf_rf_comm _ _ _ hvV, h0]) (fun b => by rw [rf_rf_comm _ _ _ hvV, h1])
      omega

theorem cnt_false : ∀ V, cnt V (fun _ => false) = 0 := by
  intro V
  induction V with
  | zero => rfl
  | succ V ih => simp only [cnt]; have : ∀ b, rf V b (fun _ => false) = fun _ => false := fun b => rfl; rw [this, this, ih]
theorem cnt_true : ∀ V, cnt V (fun _ => true) = 2 ^ V := by
  intro V
  induction V with
  | zero => rfl
  | succ V ih => simp only [cnt]; have : ∀ b, rf V b (fun _ => true) = fun _ => true := fun b => rfl; rw [this, this, ih, Nat.pow_succ]; omega

theorem cns_pre {V : Nat} {M : List Nd} {k m j : Nat} (hkm : k ≤ m) (hm : m ≤ M.length) (hj : j < k + 2) : (cns V M m).getD j 0 = (cns V M k).getD j 0 := by
  induction m with
  | zero => have : k = 0 := by omega
            rw [this]
  | succ m ih =>
    by_cases h : k = m + 1
    · rw [h]
    · rw [← ih (by omega) (by omega), cns_succ V M (by omega)]
      have hl := cns_len V M m (by omega)
      simp [cnStep, List.getD_eq_getElem?_getD, List.getElem?_append_left (show j < (cns V M m).length by omega)]

/-- Count counts. -/
theorem cn_cnt {V : Nat} {M : List Nd} {r : Nat} (H : Valid V M r) : ∀ k, k < M.length + 2 → (cns V M M.length).getD k 0 * 2 ^ vr V M k = cnt V (den M k) := by
  intro k
  induction k using Nat.strongRecOn with
  | _ k ih =>
    intro hk
    by_cases h2 : 2 ≤ k
    · have a1 := H.good.lo_lt k h2 hk
      have a2 := H.good.hi_lt k h2 hk
      have b0 := H.bound k h2 hk
      have b1 := vr_lt H.bound (H.good.lo_var k h2 hk) b0 (by omega)
      have b2 := vr_lt H.bound (H.good.hi_var k h2 hk) b0 (by omega)
      have i1 := ih _ a1 (by omega)
      have i2 := ih _ a2 (by omega)
      have hh := cnt_half V (var M k) b0 (den M (lo M k)) (den M (Dd.hi M k)) (fun b => funext fun ρ => indep H.good _ (by omega) _ (H.good.lo_var k h2 hk) ρ b) (fun b => funext fun ρ => indep H.good _ (by omega) _ (H.good.hi_var k h2 hk) ρ b)
      rw [← den_split H.good h2 hk] at hh
      have hv : vr V M k = var M k := by unfold vr; rw [if_neg (by omega)]
      obtain ⟨j, rfl⟩ : ∃ j, k = j + 2 := ⟨k - 2, by omega⟩
      have hn : M[j]? = some M[j] := List.getElem?_eq_getElem (by omega)
      have hat := node_at (N := M) (i := j + 2) (by omega) (by omega)
      rw [Nat.add_sub_cancel, hn] at hat
      have hat' : M[j] = (var M (j + 2), lo M (j + 2), Dd.hi M (j + 2)) := Option.some.inj hat
      have hl := cns_len V M j (by omega)
      have e : (cns V M M.length).getD (j + 2) 0 = (cns V M M.length).getD (lo M (j + 2)) 0 * 2 ^ (vr V M (lo M (j + 2)) - var M (j + 2) - 1) + (cns V M M.length).getD (Dd.hi M (j + 2)) 0 * 2 ^ (vr V M (Dd.hi M (j + 2)) - var M (j + 2) - 1) := by
        rw [cns_pre (k := j + 1) (by omega) (Nat.le_refl _) (by omega), cns_pre (k := j) (by omega) (Nat.le_refl _) a1, cns_pre (k := j) (by omega) (Nat.le_refl _) a2, cns_succ V M (by omega), hat']
        simp [cnStep, List.getD_eq_getElem?_getD, ← hl]
      rw [e, hv]
      have key : ∀ x y : Nat, var M (j + 2) < y → x * 2 ^ (y - var M (j + 2) - 1) * 2 ^ var M (j + 2) * 2 = x * 2 ^ y := fun x y h => by
        rw [Nat.mul_assoc, Nat.mul_assoc, ← Nat.pow_succ, ← Nat.pow_add]
        congr 2
        omega
      have k1 := key ((cns V M M.length).getD (lo M (j + 2)) 0) _ b1
      have k2 := key ((cns V M M.length).getD (Dd.hi M (j + 2)) 0) _ b2
      rw [i1] at k1
      rw [i2] at k2
      rw [Nat.add_mul]
      omega
    · have : k = 0 ∨ k = 1 := by omega
      rcases this with rfl | rfl
      · rw [cns_pre (k := 0) (by omega) (Nat.le_refl _) (by omega)]
        show 0 * _ = _
        rw [Nat.zero_mul]
        exact (cnt_false V).symm
      · rw [cns_pre (k := 0) (by omega) (Nat.le_refl _) (by omega)]
        show 1 * 2 ^ vr V M 1 = _
        rw [Nat.one_mul]
        exact (cnt_true V).symm

/-- Counting by numbers. -/
theorem cnt_range : ∀ V (f : BFn), ((List.range (2 ^ V)).filter fun x => f x.testBit).length = cnt V f := by
  intro V
  induction V with
  | zero =>
    intro f
    simp only [Nat.pow_zero, cnt]
    have e : (0 : Nat).testBit = fun _ => false := by funext x; simp
    rw [show List.range 1 = [0] from rfl]
    simp only [List.filter_cons, List.filter_nil, e]
    split <;> rfl
  | succ V ih =>
    intro f
    rw [show 2 ^ (V + 1) = 2 ^ V + 2 ^ V by rw [Nat.pow_succ]; omega, List.range_add, List.filter_append, List.length_append]
    simp only [cnt]
    rw [← ih, ← ih]
    congr 1
    · congr 1
      refine List.filter_congr fun x hx => ?_
      have hlt := List.mem_range.1 hx
      unfold rf
      congr 1
      funext v
      unfold upd
      by_cases hv : v = V
      · simp only [hv, if_true]; exact Nat.testBit_lt_two_pow hlt
      · simp [hv]
    · rw [List.filter_map, List.length_map]
      congr 1
      refine List.filter_congr fun x hx => ?_
      have hlt := List.mem_range.1 hx
      unfold rf
      simp only [Function.comp]
      congr 1
      funext v
      unfold upd
      by_cases hv : v = V
      · simp only [hv, if_true]
        rw [Nat.testBit_two_pow_add_eq, Nat.testBit_lt_two_pow hlt]; rfl
      · simp only [hv, if_false]
        by_cases hvl : v < V
        · exact Nat.testBit_two_pow_add_gt hvl x
        · have h1 : x < 2 ^ v := Nat.lt_of_lt_of_le hlt (Nat.pow_le_pow_right (by omega) (by omega))
          have h2 : 2 ^ V + x < 2 ^ v := by
            have : 2 ^ (V + 1) ≤ 2 ^ v := Nat.pow_le_pow_right (by omega) (by omega)
            rw [Nat.pow_succ] at this; omega
          rw [Nat.testBit_lt_two_pow h1, Nat.testBit_lt_two_pow h2]

/-! ### the first assignment -/
/-- At the first variable from v on at which a is above ρ, it has been below before. -/
def Before (V v : Nat) (a ρ : Nat → Bool) : Prop := (∀ i, v ≤ i → i < V → a i = true → ρ i = true) ∨ ∃ i, v ≤ i ∧ i < V ∧ a i = false ∧ ρ i = true ∧ ∀ j, v ≤ j → j < i → a j = true → ρ j = true

theorem any_first {V : Nat} {M : List Nd} {r : Nat} (H : Valid V M r) : ∀ k s, k < M.length + 2 → k ≠ 0 → s < 2 ^ vr V M k →
    (∀ j, j < vr V M k → (anyF M (k + 1) k s).testBit j = s.testBit j) ∧ den M k (anyF M (k + 1) k s).testBit = true ∧ anyF M (k + 1) k s < 2 ^ V ∧ ∀ ρ, den M k ρ = true → Before V (vr V M k) (anyF M (k + 1) k s).testBit ρ := by
  intro k
  induction k using Nat.strongRecOn with
  | _ k ih =>
    intro s hk h0 hs
    by_cases h2 : 2 ≤ k
    · have a1 := H.good.lo_lt k h2 hk
      have a2 := H.good.hi_lt k h2 hk
      have b0 := H.bound k h2 hk
      have b1 := vr_lt H.bound (H.good.lo_var k h2 hk) b0 (by omega)
      have b2 := vr_lt H.bound (H.good.hi_var k h2 hk) b0 (by omega)
      have hv : vr V M k = var M k := by unfold vr; rw [if_neg (by omega)]
      rw [hv] at hs ⊢
      by_cases hl : lo M k = 0
      · rw [anyF_hi H.good s h2 hk hl]
        have hlt2 : s + 2 ^ var M k < 2 ^ vr V M (Dd.hi M k) := by
          have : 2 ^ (var M k + 1) ≤ 2 ^ vr V M (Dd.hi M k) := Nat.pow_le_pow_right (by omega) b2
          rw [Nat.pow_succ] at this; omega
        obtain ⟨i1, i2, i3, i4⟩ := ih _ a2 (s + 2 ^ var M k) (by omega) (fun e => H.good.ne k h2 hk (by rw [hl, e])) hlt2
        generalize anyF M (Dd.hi M k + 1) (Dd.hi M k) (s + 2 ^ var M k) = a at *
        have hbit : a.testBit (var M k) = true := by
          rw [i1 _ b2, Nat.add_comm, Nat.testBit_two_pow_add_eq, Nat.testBit_lt_two_pow hs]; rfl
        have hlow : ∀ j, var M k < j → j < vr V M (Dd.hi M k) → a.testBit j = false := fun j h1 h3 => by
          rw [i1 j h3]
          refine Nat.testBit_lt_two_pow ?_
          have : 2 ^ (var M k + 1) ≤ 2 ^ j := Nat.pow_le_pow_right (by omega) h1
          rw [Nat.pow_succ] at this; omega
        refine ⟨fun j hj => ?_, ?_, i3, fun ρ hρ => ?_⟩
        · rw [i1 j (by omega), Nat.add_comm, Nat.testBit_two_pow_add_gt hj]
        · rw [den_node H.good h2 hk, hbit, if_pos rfl]; exact i2
        · rw [den_node H.good h2 hk, hl] at hρ
          have hρv : ρ (var M k) = true := by cases h : ρ (var M k) with | true => rfl | false => simp [h] at hρ
          rw [hρv, if_pos rfl] at hρ
          rcases i4 ρ hρ with h | ⟨i, h1, h3, h4, h5, h6⟩
          · refine .inl fun i hi hiV ha => ?_
            by_cases e : i = var M k
            · rw [e]; exact hρv
            · by_cases hb : vr V M (Dd.hi M k) ≤ i
              · exact h i hb hiV ha
              · rw [hlow i (by omega) (by omega)] at ha; cases ha
          · refine .inr ⟨i, by omega, h3, h4, h5, fun j hj hji ha => ?_⟩
            by_cases e : j = var M k
            · rw [e]; exact hρv
            · by_cases hb : vr V M (Dd.hi M k) ≤ j
              · exact h6 j hb hji ha
              · rw [hlow j (by omega) (by omega)] at ha; cases ha
      · rw [anyF_lo H.good s h2 hk hl]
        have hlt2 : s < 2 ^ vr V M (lo M k) := Nat.lt_of_lt_of_le hs (Nat.pow_le_pow_right (by omega) (by omega))
        obtain ⟨i1, i2, i3, i4⟩ := ih _ a1 s (by omega) hl hlt2
        generalize anyF M (lo M k + 1) (lo M k) s = a at *
        have hlow : ∀ j, var M k ≤ j → j < vr V M (lo M k) → a.testBit j = false := fun j h1 h3 => by
          rw [i1 j h3]
          exact Nat.testBit_lt_two_pow (Nat.lt_of_lt_of_le hs (Nat.pow_le_pow_right (by omega) h1))
        have hbit := hlow (var M k) (Nat.le_refl _) b1
        refine ⟨fun j hj => i1 j (by omega), ?_, i3, fun ρ hρ => ?_⟩
        · rw [den_node H.good h2 hk, hbit, if_neg (by simp)]; exact i2
        · cases hρv : ρ (var M k) with
          | true => exact .inr ⟨var M k, Nat.le_refl _, b0, hbit, hρv, fun j h1 h3 => by omega⟩
          | false =>
            rw [den_node H.good h2 hk, hρv, if_neg (by simp)] at hρ
            rcases i4 ρ hρ with h | ⟨i, h1, h3, h4, h5, h6⟩
            · refine .inl fun i hi hiV ha => ?_
              by_cases hb : vr V M (lo M k) ≤ i
              · exact h i hb hiV ha
              · rw [hlow i hi (by omega)] at ha; cases ha
            · refine .inr ⟨i, by omega, h3, h4, h5, fun j hj hji ha => ?_⟩
              by_cases hb : vr V M (lo M k) ≤ j
              · exact h6 j hb hji ha
              · rw [hlow j hj (by omega)] at ha; cases ha
    · have h1 : k = 1 := by omega
      subst h1
      have hv : vr V M 1 = V := by unfold vr; rw [if_pos (by omega)]
      rw [hv] at hs ⊢
      rw [anyF_end s (by omega)]
      exact ⟨fun _ _ => rfl, rfl, hs, fun ρ _ => .inl fun i h1 h2 => by omega⟩
end Go.Proofs.YtgdmcidcappkpaaDoor.Dd
namespace Go.Proofs.YtgdmcidcappkpaaDoor.Dd

abbrev BOp := Bool → Bool → Bool
/-- What is remembered of pairs. -/
def ApMemo (o : BOp) (A B N : List Nd) (G : Nat × Nat → Option Nat) : Prop :=
  ∀ x y r, G (x, y) = some r → x < A.length + 2 ∧ y < B.length + 2 ∧ r < N.length + 2 ∧ (∀ ρ, den N r ρ = o (den A x ρ) (den B y ρ)) ∧ min (var A x) (var B y) ≤ var N r

structure ApRel (o : BOp) (A B N : List Nd) (x y r : Nat) (N' : List Nd) (G' : Nat × Nat → Option Nat) : Prop where
  pre : N <+: N'
  good : Good N'
  memo : ApMemo o A B N' G'
  lt : r < N'.length + 2
  den : ∀ ρ, den N' r ρ = o (Dd.den A x ρ) (Dd.den B y ρ)
  var : min (Dd.var A x) (Dd.var B y) ≤ Dd.var N' r
  len : N'.length + 1 ≤ N.length + 2 ^ (24 - min (Dd.var A x) (Dd.var B y))

section
variable {o : BOp} {A B N N1 N2 : List Nd} {G G1 G2 : Nat × Nat → Option Nat}
theorem ApMemo.none (o : BOp) (A B N : List Nd) : ApMemo o A B N (fun _ => none) := by intro x y r h; cases h
theorem ApMemo.pre (h : ApMemo o A B N G) (g : Good N) (g1 : Good N1) (hp : N <+: N1) : ApMemo o A B N1 G := by
  intro x y r hg
  obtain ⟨h1, h2, h3, h4, h5⟩ := h x y r hg
  have := len_pre hp
  refine ⟨h1, h2, by omega, fun ρ => ?_, ?_⟩
  · rw [den_pre g g1 hp h3, h4]
  · rw [var_pre hp h3]; exact h5

theorem ap_hit (g : Good N) (m : ApMemo o A B N G) {x y r : Nat} (h : G (x, y) = some r) : ApRel o A B N x y r N G := by
  obtain ⟨h1, h2, h3, h4, h5⟩ := m x y r h
  exact ⟨List.prefix_refl _, g, m, h3, h4, h5, len_one _ _⟩
theorem ap_const (g : Good N) (m : ApMemo o A B N G) {x y : Nat} (hx : x < 2) (hy : y < 2) : ApRel o A B N x y (if o (decide (x = 1)) (decide (y = 1)) then 1 else 0) N G := by
  have hden : ∀ {M : List Nd} {z : Nat}, z < 2 → ∀ ρ, den M z ρ = decide (z = 1) := fun hz ρ => by
    rename_i M z
    have : z = 0 ∨ z = 1 := by omega
    rcases this with rfl | rfl <;> rfl
  have hr : (if o (decide (x = 1)) (decide (y = 1)) then 1 else 0) < 2 := by split <;> omega
  refine ⟨List.prefix_refl _, g, m, by omega, fun ρ => ?_, ?_, len_one _ _⟩
  · rw [hden hr, hden hx, hden hy]
    cases o (decide (x = 1)) (decide (y = 1)) <;> simp
  · rw [var_const hr, var_const hx, var_const hy]; omega

theorem ap_step {x y r1 r2 v : Nat} (gA : Good A) (gB : Good B) (hx : x < A.length + 2) (hy : y < B.length + 2) (h2 : 2 ≤ x ∨ 2 ≤ y) (hv : v = min (var A x) (var B y))
    (R1 : ApRel o A B N (atP A x v false) (atP B y v false) r1 N1 G1) (R2 : ApRel o A B N1 (atP A x v true) (atP B y v true) r2 N2 G2)
    (G' : Nat × Nat → Option Nat) (hG' : ∀ p z, G' p = some z → (p = (x, y) ∧ z = (mk N2 v r1 r2).1) ∨ G2 p = some z) :
    ApRel o A B N x y (mk N2 v r1 r2).1 (mk N2 v r1 r2).2 G' := by
  have hv24 : v < 24 := by
    rcases h2 with h | h
    · have := gA.bound x h hx; omega
    · have := gB.bound y h hy; omega
  obtain ⟨a1, a2, a3, a4⟩ := at_spec gA hx (by omega : v ≤ var A x) hv24 false
  obtain ⟨b1, b2, b3, b4⟩ := at_spec gB hy (by omega : v ≤ var B y) hv24 false
  obtain ⟨d1, d2, d3, d4⟩ := at_spec gA hx (by omega : v ≤ var A x) hv24 true
  obtain ⟨e1, e2, e3, e4⟩ := at_spec gB hy (by omega : v ≤ var B y) hv24 true
  have p2 : N <+: N2 := R1.pre.trans R2.pre
  have v1 := R1.var
  have v2 := R2.var
  have l1 := len_pre R1.pre
  have l2 := len_pre R2.pre
  have hr1 : r1 < N2.length + 2 := by have := R1.lt; omega
  have w1 : v < var N2 r1 := by rw [var_pre R2.pre R1.lt]; omega
  have w2 : v < var N2 r2 := by omega
  obtain ⟨m1, m2, m3, m4, m5, m6⟩ := mk_spec R2.good hv24 hr1 R2.lt w1 w2
  have hden : ∀ ρ, den (mk N2 v r1 r2).2 (mk N2 v r1 r2).1 ρ = o (den A x ρ) (den B y ρ) := fun ρ => by
    rw [m4, den_pre R1.good R2.good R2.pre R1.lt, R1.den, R2.den, a3, b3, d3, e3]
    have hs := upd_self ρ v
    cases hρ : ρ v <;> rw [hρ] at hs <;> simp [hs]
  refine ⟨p2.trans m1, m2, fun x' y' s hs => ?_, m3, hden, by omega, ?_⟩
  · rcases hG' _ _ hs with ⟨he, rfl⟩ | h
    · simp only [Prod.mk.injEq] at he
      obtain ⟨rfl, rfl⟩ := he
      exact ⟨hx, hy, m3, hden, by omega⟩
    · exact (R2.memo.pre R2.good m2 m1) x' y' s h
  · have k1 := R1.len
    have k2 := R2.len
    have q1 : 2 ^ (24 - min (var A (atP A x v false)) (var B (atP B y v false))) ≤ 2 ^ (23 - v) := Nat.pow_le_pow_right (by omega) (by omega)
    have q2 : 2 ^ (24 - min (var A (atP A x v true)) (var B (atP B y v true))) ≤ 2 ^ (23 - v) := Nat.pow_le_pow_right (by omega) (by omega)
    have q3 : 2 ^ (24 - v) = 2 * 2 ^ (23 - v) := by rw [show 24 - v = (23 - v) + 1 by omega, Nat.pow_succ]; omega
    rw [← hv, q3]
    omega

theorem ApRel.within {V : Nat} {x y r : Nat} {N' : List Nd} {G' : Nat × Nat → Option Nat} (h : ApRel o A B N x y r N' G') (hA : Within V (Dd.den A x)) (hB : Within V (Dd.den B y)) : Within V (Dd.den N' r) := fun v hv ρ b => by
  rw [h.den, h.den, hA v hv, hB v hv]
end
end Go.Proofs.YtgdmcidcappkpaaDoor.Dd
namespace Go.Proofs.YtgdmcidcappkpaaDoor.Dd

theorem len_le_of_lt : ∀ (n : Nat) (l : List Nat), l.Nodup → (∀ x ∈ l, x < n) → l.length ≤ n := by
  intro n
  induction n with
  | zero =>
    intro l _ h
    cases l with
    | nil => simp
    | cons a t => have := h a (by simp); omega
  | succ n ih =>
    intro l hn h
    have h1 := ih (l.erase n) (hn.erase n) (fun x hx => by
      obtain ⟨h2, h3⟩ := hn.mem_erase_iff.1 hx
      have := h x h3
      omega)
    rw [List.length_erase] at h1
    split at h1 <;> omega

/-- A row of bits as a number. -/
def enc : Nat → (Nat → Bool) → Nat
  | 0, _ => 0
  | n + 1, b => 2 * enc n (fun i => b (i + 1)) + (b 0).toNat
theorem enc_lt : ∀ n b, enc n b < 2 ^ n := by
  intro n
  induction n with
  | zero => intro b; simp [enc]
  | succ n ih =>
    intro b
    have h := ih fun i => b (i + 1)
    have h2 : (b 0).toNat ≤ 1 := by cases b 0 <;> simp
    simp only [enc, Nat.pow_succ]
    omega
theorem enc_inj : ∀ n b b', enc n b = enc n b' → ∀ i, i < n → b i = b' i := by
  intro n
  induction n with
  | zero => intro b b' _ i hi; omega
  | succ n ih =>
    intro b b' h i hi
    simp only [enc] at h
    have h1 : (b 0).toNat ≤ 1 := by cases b 0 <;> simp
    have h2 : (b' 0).toNat ≤ 1 := by cases b' 0 <;> simp
    have e1 : enc n (fun i => b (i + 1)) = enc n (fun i => b' (i + 1)) := by omega
    have e2 : (b 0).toNat = (b' 0).toNat := by omega
    cases i with
    | zero => revert e2; cases b 0 <;> cases b' 0 <;> simp
    | succ i => exact ih _ _ e1 i (by omega)

section
variable {N : List Nd}
theorem den_local (G : Good N) {ρ ρ' : Nat → Bool} : ∀ m i, i < m → i < N.length + 2 → (∀ v, var N i ≤ v → v < 24 → ρ v = ρ' v) → den N i ρ = den N i ρ' := by
  intro m
  induction m with
  | zero => intro i h; omega
  | succ m ih =>
    intro i hi0 hl h
    by_cases h2 : i < 2
    · have : i = 0 ∨ i = 1 := by omega
      rcases this with rfl | rfl <;> rfl
    · have h2 : 2 ≤ i := by omega
      have a1 := G.lo_lt i h2 hl
      have a2 := G.hi_lt i h2 hl
      have b1 := G.lo_var i h2 hl
      have b2 := G.hi_var i h2 hl
      rw [den_node G h2 hl, den_node G h2 hl, h _ (Nat.le_refl _) (G.bound i h2 hl), ih (lo N i) (by omega) (by omega) fun v hv => h v (by omega), ih (Dd.hi N i) (by omega) (by omega) fun v hv => h v (by omega)]

/-- The k-th of the sixteen settings of the last four variables. -/
def set16 (k : Nat) : Nat → Bool := fun v => decide (k / 2 ^ (v - 20) % 2 = 1)
theorem set16_of (ρ : Nat → Bool) : ∃ k, k < 16 ∧ ∀ v, 20 ≤ v → v < 24 → set16 k v = ρ v := by
  have t : ∀ b : Bool, b.toNat ≤ 1 ∧ (b.toNat = 1 ↔ b = true) := fun b => by cases b <;> simp
  obtain ⟨a1, a2⟩ := t (ρ 20)
  obtain ⟨b1, b2⟩ := t (ρ 21)
  obtain ⟨c1, c2⟩ := t (ρ 22)
  obtain ⟨d1, d2⟩ := t (ρ 23)
  refine ⟨(ρ 20).toNat + 2 * (ρ 21).toNat + 4 * (ρ 22).toNat + 8 * (ρ 23).toNat, by omega, fun v h1 h2 => ?_⟩
  have hv : v = 20 ∨ v = 21 ∨ v = 22 ∨ v = 23 := by omega
  unfold set16
  rcases hv with rfl | rfl | rfl | rfl
  · rw [Bool.eq_iff_iff, decide_eq_true_iff, ← a2]; simp only [Nat.sub_self, Nat.pow_zero, Nat.div_one]; omega
  · rw [Bool.eq_iff_iff, decide_eq_true_iff, ← b2]; simp only [show 21 - 20 = 1 from rfl, Nat.pow_one]; omega
  · rw [Bool.eq_iff_iff, decide_eq_true_iff, ← c2]; simp only [show 22 - 20 = 2 from rfl, show 2 ^ 2 = 4 from rfl]; omega
  · rw [Bool.eq_iff_iff, decide_eq_true_iff, ← d2]; simp only [show 23 - 20 = 3 from rfl, show 2 ^ 3 = 8 from rfl]; omega

def code (N : List Nd) (i : Nat) : Nat := enc 16 fun k => den N i (set16 k)
theorem code_inj (G : Good N) {i j : Nat} (hi : i < N.length + 2) (hj : j < N.length + 2) (h1 : 20 ≤ var N i) (h2 : 20 ≤ var N j) (h : code N i = code N j) : i = j := by
  refine inj G hi hj fun ρ => ?_
  obtain ⟨k, hk, hs⟩ := set16_of ρ
  have e : den N i (set16 k) = den N j (set16 k) := enc_inj 16 _ _ h k hk
  rw [den_local G (ρ' := ρ) (i + 1) i (by omega) hi fun v hv hv2 => hs v (by omega) hv2, den_local G (ρ' := ρ) (j + 1) j (by omega) hj fun v hv hv2 => hs v (by omega) hv2] at e
  exact e

theorem high_le (G : Good N) : N.countP (fun n => decide ¬ decide (n.1 < 20) = true) ≤ 65536 := by
  let I := (List.range N.length).filter fun j => decide (20 ≤ var N (j + 2))
  have hI : N.countP (fun n => decide ¬ decide (n.1 < 20) = true) = I.length := by
    have e : N = (List.range N.length).map fun j => N.getD j (0, 0, 0) := by
      apply List.ext_getElem
      · simp
      · intro j h1 h2
        simp [List.getD_eq_getElem?_getD, h1]
    conv => lhs; rw [e]
    rw [List.countP_map, List.countP_eq_length_filter]
    congr 1
    apply List.filter_congr
    intro j hj
    have hj := List.mem_range.1 hj
    have hv : var N (j + 2) = (N.getD j (0, 0, 0)).1 := by
      have := node_at (N := N) (i := j + 2) (by omega) (by omega)
      rw [Nat.add_sub_cancel] at this
      rw [List.getD_eq_getElem?_getD, this]
      rfl
    show (decide ¬ decide ((N.getD j (0, 0, 0)).1 < 20) = true) = decide (20 ≤ var N (j + 2))
    rw [hv]
    by_cases h : (N.getD j (0, 0, 0)).1 < 20
    · simp [h]
    · simp [h]
  rw [hI]
  have hmem : ∀ j ∈ I, j < N.length ∧ 20 ≤ var N (j + 2) := fun j hj => by
    obtain ⟨h1, h2⟩ := List.mem_filter.1 hj
    exact ⟨List.mem_range.1 h1, of_decide_eq_true h2⟩
  have hnd : I.Nodup := List.Pairwise.filter _ List.nodup_range
  have hc : (I.map fun j => code N (j + 2)).Nodup := by
    unfold List.Nodup
    rw [List.pairwise_map]
    refine List.Pairwise.imp_of_mem (fun ha hb hab h => ?_) hnd
    have p1 := hmem _ ha
    have p2 := hmem _ hb
    have := code_inj G (by omega) (by omega) p1.2 p2.2 h
    exact hab (by omega)
  have := len_le_of_lt 65536 _ hc (fun x hx => by
    obtain ⟨j, _, rfl⟩ := List.mem_map.1 hx
    exact enc_lt 16 _)
  simpa using this

theorem visit_low (G : Good N) : ∀ f i s, i < f → i < N.length + 2 → s.2 0 = some 0 → s.2 1 = some 1 →
    (visit N f i s).2.1.countP (fun n => decide (n.1 < 20)) + 1 ≤ s.1.countP (fun n => decide (n.1 < 20)) + 2 ^ (20 - min (var N i) 20) ∧ (visit N f i s).2.2 0 = some 0 ∧ (visit N f i s).2.2 1 = some 1 := by
  intro f
  induction f with
  | zero => intro i s h; omega
  | succ f ih =>
    intro i s hif hil z0 z1
    have hpos : 1 ≤ 2 ^ (20 - min (var N i) 20) := Nat.one_le_two_pow
    cases hsi : s.2 i with
    | some k =>
      simp only [visit, hsi]
      exact ⟨by omega, z0, z1⟩
    | none =>
      have h2 : 2 ≤ i := by
        by_cases h : i = 0
        · subst h; rw [z0] at hsi; cases hsi
        · by_cases h' : i = 1
          · subst h'; rw [z1] at hsi; cases hsi
          · omega
      have a1 := G.lo_lt i h2 hil
      have a2 := G.hi_lt i h2 hil
      have b1 := G.lo_var i h2 hil
      have b2 := G.hi_var i h2 hil
      obtain ⟨p1, p2, p3⟩ := ih (lo N i) s (by omega) (by omega) z0 z1
      obtain ⟨q1, q2, q3⟩ := ih (Dd.hi N i) (visit N f (lo N i) s).2 (by omega) (by omega) p2 p3
      simp only [visit, hsi]
      refine ⟨?_, ?_, ?_⟩
      · rw [List.countP_append]
        by_cases hlow : var N i < 20
        · have e1 : 2 ^ (20 - min (var N (lo N i)) 20) ≤ 2 ^ (19 - var N i) := Nat.pow_le_pow_right (by omega) (by omega)
          have e2 : 2 ^ (20 - min (var N (Dd.hi N i)) 20) ≤ 2 ^ (19 - var N i) := Nat.pow_le_pow_right (by omega) (by omega)
          have e3 : 2 ^ (20 - min (var N i) 20) = 2 * 2 ^ (19 - var N i) := by rw [show 20 - min (var N i) 20 = (19 - var N i) + 1 by omega, Nat.pow_succ]; omega
          have e4 : List.countP (fun n : Nd => decide (n.1 < 20)) [(var N i, (visit N f (lo N i) s).1, (visit N f (Dd.hi N i) (visit N f (lo N i) s).2).1)] = 1 := by simp [hlow]
          rw [e4, e3]
          omega
        · have e1 : 2 ^ (20 - min (var N (lo N i)) 20) = 1 := by rw [show 20 - min (var N (lo N i)) 20 = 0 by omega]
          have e2 : 2 ^ (20 - min (var N (Dd.hi N i)) 20) = 1 := by rw [show 20 - min (var N (Dd.hi N i)) 20 = 0 by omega]
          have e4 : List.countP (fun n : Nd => decide (n.1 < 20)) [(var N i, (visit N f (lo N i) s).1, (visit N f (Dd.hi N i) (visit N f (lo N i) s).2).1)] = 0 := by simp [hlow]
          rw [e4]
          omega
      · simp only [show (0 : Nat) ≠ i by omega, if_false]; exact q2
      · simp only [show (1 : Nat) ≠ i by omega, if_false]; exact q3

/-- No canonical list is longer than this. -/
theorem canon_len (G : Good N) {i : Nat} (hi : i < N.length + 2) : (canon N i).2.length ≤ 1200000 := by
  obtain ⟨h1, _, _⟩ := visit_low G (i + 1) i start (by omega) hi rfl rfl
  have h2 := high_le (canon_good G hi).1
  have h3 := List.length_eq_countP_add_countP (fun n : Nd => decide (n.1 < 20)) (l := (canon N i).2)
  have h4 : 2 ^ (20 - min (var N i) 20) ≤ 2 ^ 20 := Nat.pow_le_pow_right (by omega) (by omega)
  have e : start.1.countP (fun n : Nd => decide (n.1 < 20)) = 0 := rfl
  rw [e] at h1
  have e2 : (visit N (i + 1) i start).2.1 = (canon N i).2 := rfl
  rw [e2] at h1
  omega
end
end Go.Proofs.YtgdmcidcappkpaaDoor.Dd
namespace Go.Proofs.YtgdmcidcappkpaaDoor.Dd

/-- What is remembered of the numbers of A. -/
def FxMemo (Φ : BFn → BFn) (A N : List Nd) (G : Nat → Option Nat) : Prop :=
  ∀ x r, G x = some r → x < A.length + 2 ∧ r < N.length + 2 ∧ (∀ ρ, den N r ρ = Φ (den A x) ρ) ∧ var A x ≤ var N r

structure FxRel (Φ : BFn → BFn) (A N : List Nd) (x r : Nat) (N' : List Nd) (G' : Nat → Option Nat) : Prop where
  pre : N <+: N'
  good : Good N'
  memo : FxMemo Φ A N' G'
  lt : r < N'.length + 2
  den : ∀ ρ, den N' r ρ = Φ (Dd.den A x) ρ
  var : Dd.var A x ≤ Dd.var N' r
  len : N'.length + 1 ≤ N.length + 2 ^ (24 - Dd.var A x)

section
variable {Φ : BFn → BFn} {A N N1 N2 : List Nd} {G G1 G2 : Nat → Option Nat}
theorem FxMemo.none (Φ : BFn → BFn) (A N : List Nd) : FxMemo Φ A N (fun _ => none) := by intro x r h; cases h
theorem FxMemo.pre (h : FxMemo Φ A N G) (g : Good N) (g1 : Good N1) (hp : N <+: N1) : FxMemo Φ A N1 G := by
  intro x r hg
  obtain ⟨h1, h3, h4, h5⟩ := h x r hg
  have := len_pre hp
  refine ⟨h1, by omega, fun ρ => ?_, ?_⟩
  · rw [den_pre g g1 hp h3, h4]
  · rw [var_pre hp h3]; exact h5
theorem FxMemo.add (h : FxMemo Φ A N G) {x r : Nat} (hx : x < A.length + 2) (hr : r < N.length + 2) (hd : ∀ ρ, Dd.den N r ρ = Φ (Dd.den A x) ρ) (hv : Dd.var A x ≤ Dd.var N r) : FxMemo Φ A N (fun y => if y = x then some r else G y) := by
  intro y s hs
  by_cases he : y = x
  · subst he
    simp only [if_true, Option.some.injEq] at hs
    subst hs
    exact ⟨hx, hr, hd, hv⟩
  · simp only [he, if_false] at hs
    exact h y s hs
theorem fx_hit (g : Good N) (m : FxMemo Φ A N G) {x r : Nat} (h : G x = some r) : FxRel Φ A N x r N G := by
  obtain ⟨h1, h3, h4, h5⟩ := m x r h
  exact ⟨List.prefix_refl _, g, m, h3, h4, h5, len_one _ _⟩
theorem fx_const (v : Nat) (t : Bool) (g : Good N) (m : FxMemo (rf v t) A N G) {x : Nat} (hx : x < 2) : FxRel (rf v t) A N x x N G := by
  refine ⟨List.prefix_refl _, g, m, by omega, fun ρ => ?_, ?_, len_one _ _⟩
  · have : x = 0 ∨ x = 1 := by omega
    rcases this with rfl | rfl <;> rfl
  · rw [var_const hx, var_const hx]; omega

theorem fx_rise {v : Nat} {u : Nat} (h : v < u) (hu : u ≤ 24) : 2 ^ (24 - u) + 2 ^ (24 - u) ≤ 2 ^ (24 - v) := by
  have q1 : 2 ^ (24 - u) ≤ 2 ^ (23 - v) := Nat.pow_le_pow_right (by omega) (by omega)
  have q3 : 2 ^ (24 - v) = 2 * 2 ^ (23 - v) := by rw [show 24 - v = (23 - v) + 1 by omega, Nat.pow_succ]; omega
  omega
theorem fx_at0 {x r v : Nat} (gA : Good A) (h2 : 2 ≤ x) (hx : x < A.length + 2) (hv : Dd.var A x = v) (R1 : FxRel (rf v false) A N (lo A x) r N1 G1) :
    FxRel (rf v false) A N x r N1 (fun y => if y = x then some r else G1 y) := by
  have a1 := gA.lo_lt x h2 hx
  have b1 := gA.lo_var x h2 hx
  have hd : ∀ ρ, Dd.den N1 r ρ = rf v false (Dd.den A x) ρ := fun ρ => by
    rw [R1.den]
    unfold rf
    rw [den_node gA h2 hx (upd ρ v false), hv]
    simp [upd]
  have hvr : Dd.var A x ≤ Dd.var N1 r := by have := R1.var; omega
  refine ⟨R1.pre, R1.good, R1.memo.add hx R1.lt hd hvr, R1.lt, hd, hvr, ?_⟩
  have := R1.len
  have := fx_rise b1 (var_le gA (by omega))
  have := Nat.two_pow_pos (24 - Dd.var A (lo A x))
  omega
theorem fx_at1 {x r1 r v : Nat} (gA : Good A) (h2 : 2 ≤ x) (hx : x < A.length + 2) (hv : Dd.var A x = v) (R1 : FxRel (rf v true) A N (lo A x) r1 N1 G1) (R2 : FxRel (rf v true) A N1 (Dd.hi A x) r N2 G2) :
    FxRel (rf v true) A N x r N2 (fun y => if y = x then some r else G2 y) := by
  have a1 := gA.lo_lt x h2 hx
  have a2 := gA.hi_lt x h2 hx
  have b1 := gA.lo_var x h2 hx
  have b2 := gA.hi_var x h2 hx
  have hd : ∀ ρ, Dd.den N2 r ρ = rf v true (Dd.den A x) ρ := fun ρ => by
    rw [R2.den]
    unfold rf
    rw [den_node gA h2 hx (upd ρ v true), hv]
    simp [upd]
  have hvr : Dd.var A x ≤ Dd.var N2 r := by have := R2.var; omega
  refine ⟨R1.pre.trans R2.pre, R2.good, R2.memo.add hx R2.lt hd hvr, R2.lt, hd, hvr, ?_⟩
  have k1 := R1.len
  have k2 := R2.len
  have c0 := gA.bound x h2 hx
  have q1 : 2 ^ (24 - Dd.var A (lo A x)) ≤ 2 ^ (23 - Dd.var A x) := Nat.pow_le_pow_right (by omega) (by omega)
  have q2 : 2 ^ (24 - Dd.var A (Dd.hi A x)) ≤ 2 ^ (23 - Dd.var A x) := Nat.pow_le_pow_right (by omega) (by omega)
  have q3 : 2 ^ (24 - Dd.var A x) = 2 * 2 ^ (23 - Dd.var A x) := by rw [show 24 - Dd.var A x = (23 - Dd.var A x) + 1 by omega, Nat.pow_succ]; omega
  omega
theorem fx_step {x r1 r2 v : Nat} {t : Bool} (gA : Good A) (h2 : 2 ≤ x) (hx : x < A.length + 2) (hv : Dd.var A x ≠ v) (R1 : FxRel (rf v t) A N (lo A x) r1 N1 G1) (R2 : FxRel (rf v t) A N1 (Dd.hi A x) r2 N2 G2) :
    FxRel (rf v t) A N x (mk N2 (Dd.var A x) r1 r2).1 (mk N2 (Dd.var A x) r1 r2).2 (fun y => if y = x then some (mk N2 (Dd.var A x) r1 r2).1 else G2 y) := by
  have a1 := gA.lo_lt x h2 hx
  have a2 := gA.hi_lt x h2 hx
  have b1 := gA.lo_var x h2 hx
  have b2 := gA.hi_var x h2 hx
  have c0 := gA.bound x h2 hx
  have v1 := R1.var
  have v2 := R2.var
  have l2 := len_pre R2.pre
  have hr1 : r1 < N2.length + 2 := by have := R1.lt; omega
  have w1 : Dd.var A x < Dd.var N2 r1 := by rw [var_pre R2.pre R1.lt]; omega
  have w2 : Dd.var A x < Dd.var N2 r2 := by omega
  obtain ⟨m1, m2, m3, m4, m5, m6⟩ := mk_spec R2.good c0 hr1 R2.lt w1 w2
  have hd : ∀ ρ, Dd.den (mk N2 (Dd.var A x) r1 r2).2 (mk N2 (Dd.var A x) r1 r2).1 ρ = rf v t (Dd.den A x) ρ := fun ρ => by
    rw [m4, den_pre R1.good R2.good R2.pre R1.lt, R1.den, R2.den, ← rf_node gA h2 hx hv]
  refine ⟨(R1.pre.trans R2.pre).trans m1, m2, (R2.memo.pre R2.good m2 m1).add hx m3 hd (by omega), m3, hd, by omega, ?_⟩
  have k1 := R1.len
  have k2 := R2.len
  have q1 : 2 ^ (24 - Dd.var A (lo A x)) ≤ 2 ^ (23 - Dd.var A x) := Nat.pow_le_pow_right (by omega) (by omega)
  have q2 : 2 ^ (24 - Dd.var A (Dd.hi A x)) ≤ 2 ^ (23 - Dd.var A x) := Nat.pow_le_pow_right (by omega) (by omega)
  have q3 : 2 ^ (24 - Dd.var A x) = 2 * 2 ^ (23 - Dd.var A x) := by rw [show 24 - Dd.var A x = (23 - Dd.var A x) + 1 by omega, Nat.pow_succ]; omega
  omega
end
end Go.Proofs.YtgdmcidcappkpaaDoor.Dd
