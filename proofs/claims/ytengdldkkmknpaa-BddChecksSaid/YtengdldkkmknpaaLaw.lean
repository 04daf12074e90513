/- Plain theory of reduced ordered decision diagrams: what a node list denotes; equal functions have one number; the canonical list of a function. No program in sight. No condition. -/
import Derived.Below
set_option linter.unusedVariables false
set_option linter.unusedSimpArgs false
namespace Go.Proofs.Ytengdldkkmknpaa.Dd

abbrev Nd := Nat × Nat × Nat

/-- The variable that a number tests; 24 for the constants. -/
def var (N : List Nd) (i : Nat) : Nat := if i < 2 then 24 else (N.getD (i - 2) (0, 0, 0)).1
def lo (N : List Nd) (i : Nat) : Nat := (N.getD (i - 2) (0, 0, 0)).2.1
def hi (N : List Nd) (i : Nat) : Nat := (N.getD (i - 2) (0, 0, 0)).2.2

def denF (N : List Nd) (ρ : Nat → Bool) : Nat → Nat → Bool
  | 0, _ => false
  | _ + 1, 0 => false
  | _ + 1, 1 => true
  | f + 1, i + 2 => if ρ (var N (i + 2)) then denF N ρ f (hi N (i + 2)) else denF N ρ f (lo N (i + 2))
/-- What number i means. -/
def den (N : List Nd) (i : Nat) (ρ : Nat → Bool) : Bool := denF N ρ (i + 1) i

/-- Ordered, reduced, without equal nodes. -/
structure Good (N : List Nd) : Prop where
  bound : ∀ i, 2 ≤ i → i < N.length + 2 → var N i < 24
  lo_lt : ∀ i, 2 ≤ i → i < N.length + 2 → lo N i < i
  hi_lt : ∀ i, 2 ≤ i → i < N.length + 2 → hi N i < i
  ne : ∀ i, 2 ≤ i → i < N.length + 2 → lo N i ≠ hi N i
  lo_var : ∀ i, 2 ≤ i → i < N.length + 2 → var N i < var N (lo N i)
  hi_var : ∀ i, 2 ≤ i → i < N.length + 2 → var N i < var N (hi N i)
  nodup : N.Nodup

theorem Good.nil : Good [] := by
  constructor <;> (try (intro i h1 h2; simp at h2; omega))
  exact List.nodup_nil

section
variable {N M : List Nd}

theorem denF_stable (G : Good N) (ρ : Nat → Bool) : ∀ f i, i < N.length + 2 → i < f → denF N ρ f i = denF N ρ (i + 1) i := by
  intro f
  induction f using Nat.strongRecOn with
  | _ f ih =>
    intro i hi0 hif
    match f, i with
    | f + 1, 0 => rfl
    | f + 1, 1 => rfl
    | f + 1, i + 2 =>
      have h1 := G.lo_lt (i + 2) (by omega) hi0
      have h2 := G.hi_lt (i + 2) (by omega) hi0
      simp only [denF]
      by_cases hfi : f = i + 2
      · rw [hfi]
      · rw [ih f (by omega) (hi N (i + 2)) (by omega) (by omega), ih f (by omega) (lo N (i + 2)) (by omega) (by omega),
          ih (i + 2) (by omega) (hi N (i + 2)) (by omega) (by omega), ih (i + 2) (by omega) (lo N (i + 2)) (by omega) (by omega)]

@[simp] theorem den_zero (N : List Nd) (ρ : Nat → Bool) : den N 0 ρ = false := rfl
@[simp] theorem den_one (N : List Nd) (ρ : Nat → Bool) : den N 1 ρ = true := rfl
theorem den_node (G : Good N) {i : Nat} (h2 : 2 ≤ i) (hl : i < N.length + 2) (ρ : Nat → Bool) : den N i ρ = if ρ (var N i) then den N (hi N i) ρ else den N (lo N i) ρ := by
  obtain ⟨j, rfl⟩ : ∃ j, i = j + 2 := ⟨i - 2, by omega⟩
  have h1 := G.lo_lt (j + 2) (by omega) hl
  have h3 := G.hi_lt (j + 2) (by omega) hl
  show denF N ρ (j + 2 + 1) (j + 2) = _
  simp only [denF]
  rw [denF_stable G ρ (j + 2) (hi N (j + 2)) (by omega) (by omega), denF_stable G ρ (j + 2) (lo N (j + 2)) (by omega) (by omega)]
  rfl

/-- An assignment with one variable set. -/
def upd (ρ : Nat → Bool) (v : Nat) (b : Bool) : Nat → Bool := fun x => if x = v then b else ρ x
@[simp] theorem upd_same (ρ : Nat → Bool) (v : Nat) (b : Bool) : upd ρ v b v = b := by simp [upd]
theorem upd_ne (ρ : Nat → Bool) {v x : Nat} (b : Bool) (h : x ≠ v) : upd ρ v b x = ρ x := by simp [upd, h]
theorem upd_self (ρ : Nat → Bool) (v : Nat) : upd ρ v (ρ v) = ρ := by
  funext x; by_cases h : x = v <;> simp [upd, h]

theorem var_le (G : Good N) {i : Nat} (hl : i < N.length + 2) : var N i ≤ 24 := by
  by_cases h : i < 2
  · simp [var, h]
  · have := G.bound i (by omega) hl; omega

/-- A number does not depend on variables below its own. -/
theorem indep (G : Good N) : ∀ i, i < N.length + 2 → ∀ v, v < var N i → ∀ ρ b, den N i (upd ρ v b) = den N i ρ := by
  intro i
  induction i using Nat.strongRecOn with
  | _ i ih =>
    intro hl v hv ρ b
    match i with
    | 0 => rfl
    | 1 => rfl
    | i + 2 =>
      have h1 := G.lo_lt (i + 2) (by omega) hl
      have h2 := G.hi_lt (i + 2) (by omega) hl
      have h3 := G.lo_var (i + 2) (by omega) hl
      have h4 := G.hi_var (i + 2) (by omega) hl
      rw [den_node G (by omega) hl, den_node G (by omega) hl, upd_ne ρ b (by omega : var N (i + 2) ≠ v),
        ih (hi N (i + 2)) (by omega) (by omega) v (by omega), ih (lo N (i + 2)) (by omega) (by omega) v (by omega)]

theorem cof_lo (G : Good N) {i : Nat} (h2 : 2 ≤ i) (hl : i < N.length + 2) (ρ : Nat → Bool) : den N i (upd ρ (var N i) false) = den N (lo N i) ρ := by
  rw [den_node G h2 hl, upd_same]
  simp only [Bool.false_eq_true, if_false]
  exact indep G _ (by have := G.lo_lt i h2 hl; omega) _ (G.lo_var i h2 hl) _ _
theorem cof_hi (G : Good N) {i : Nat} (h2 : 2 ≤ i) (hl : i < N.length + 2) (ρ : Nat → Bool) : den N i (upd ρ (var N i) true) = den N (hi N i) ρ := by
  rw [den_node G h2 hl, upd_same]
  simp only [if_true]
  exact indep G _ (by have := G.hi_lt i h2 hl; omega) _ (G.hi_var i h2 hl) _ _

theorem node_at {i : Nat} (h2 : 2 ≤ i) (hl : i < N.length + 2) : N[i - 2]? = some (var N i, lo N i, hi N i) := by
  have hlt : i - 2 < N.length := by omega
  rw [List.getElem?_eq_getElem hlt]
  simp [var, lo, hi, show ¬ i < 2 by omega, hlt]

/-- Equal functions have one number. -/
theorem inj_lt (G : Good N) : ∀ m a b, a < m → b < m → a < N.length + 2 → b < N.length + 2 → (∀ ρ, den N a ρ = den N b ρ) → a = b := by
  intro m
  induction m with
  | zero => intro a b h _ _ _; omega
  | succ m ih =>
    -- a node is no function that does not depend on its variable
    have key : ∀ a b, a < m + 1 → a < N.length + 2 → b < N.length + 2 → 2 ≤ a → var N a < var N b → (∀ ρ, den N a ρ = den N b ρ) → False := by
      intro a b hm ha hb h2 hv hd
      have l1 := G.lo_lt a h2 ha
      have l2 := G.hi_lt a h2 ha
      refine G.ne a h2 ha (ih (lo N a) (hi N a) (by omega) (by omega) (by omega) (by omega) fun ρ => ?_)
      rw [← cof_lo G h2 ha, ← cof_hi G h2 ha, hd, hd, indep G b hb _ hv, indep G b hb _ hv]
    intro a b hma hmb ha hb hd
    by_cases h : var N a < var N b
    · have h2 : 2 ≤ a := by
        by_cases h2 : a < 2
        · have h3 : var N a = 24 := by simp [var, h2]
          have := var_le G hb
          omega
        · omega
      exact (key a b hma ha hb h2 h hd).elim
    by_cases h' : var N b < var N a
    · have h2 : 2 ≤ b := by
        by_cases h2 : b < 2
        · have h3 : var N b = 24 := by simp [var, h2]
          have := var_le G ha
          omega
        · omega
      exact (key b a hmb hb ha h2 h' fun ρ => (hd ρ).symm).elim
    have hv : var N a = var N b := by omega
    by_cases ha2 : 2 ≤ a
    · by_cases hb2 : 2 ≤ b
      · have a1 := G.lo_lt a ha2 ha
        have a2 := G.hi_lt a ha2 ha
        have b1 := G.lo_lt b hb2 hb
        have b2 := G.hi_lt b hb2 hb
        have e1 : lo N a = lo N b := ih _ _ (by omega) (by omega) (by omega) (by omega) fun ρ => by rw [← cof_lo G ha2 ha, ← cof_lo G hb2 hb, hd, hv]
        have e2 : hi N a = hi N b := ih _ _ (by omega) (by omega) (by omega) (by omega) fun ρ => by rw [← cof_hi G ha2 ha, ← cof_hi G hb2 hb, hd, hv]
        have n1 := node_at ha2 ha
        have n2 := node_at hb2 hb
        rw [e1, e2, hv, ← n2] at n1
        have := (List.getElem?_inj (by omega) G.nodup).1 n1
        omega
      · have := G.bound a ha2 ha
        have h3 : var N b = 24 := by simp [var, show b < 2 by omega]
        omega
    · by_cases hb2 : 2 ≤ b
      · have := G.bound b hb2 hb
        have h3 : var N a = 24 := by simp [var, show a < 2 by omega]
        omega
      · have h0 := hd (fun _ => false)
        have ha' : a = 0 ∨ a = 1 := by omega
        have hb' : b = 0 ∨ b = 1 := by omega
        rcases ha' with rfl | rfl <;> rcases hb' with rfl | rfl <;> simp at h0 <;> rfl

theorem inj (G : Good N) {a b : Nat} (ha : a < N.length + 2) (hb : b < N.length + 2) (hd : ∀ ρ, den N a ρ = den N b ρ) : a = b :=
  inj_lt G (a + b + 1) a b (by omega) (by omega) ha hb hd

/-- Two numbers of two lists that mean the same test the same variable, and go on to numbers that mean the same. -/
theorem cross (G : Good N) (H : Good M) {a b : Nat} (ha : a < N.length + 2) (hb : b < M.length + 2) (hd : ∀ ρ, den N a ρ = den M b ρ) :
    (a < 2 ∧ a = b) ∨ (2 ≤ a ∧ 2 ≤ b ∧ var N a = var M b ∧ (∀ ρ, den N (lo N a) ρ = den M (lo M b) ρ) ∧ (∀ ρ, den N (hi N a) ρ = den M (hi M b) ρ)) := by
  have key : ∀ {N M : List Nd} (_ : Good N) (_ : Good M) {a b : Nat}, a < N.length + 2 → b < M.length + 2 → 2 ≤ a → var N a < var M b → (∀ ρ, den N a ρ = den M b ρ) → False := by
    intro N M G H a b ha hb h2 hv hd
    have l1 := G.lo_lt a h2 ha
    have l2 := G.hi_lt a h2 ha
    refine G.ne a h2 ha (inj G (by omega) (by omega) fun ρ => ?_)
    rw [← cof_lo G h2 ha, ← cof_hi G h2 ha, hd, hd, indep H b hb _ hv, indep H b hb _ hv]
  have c1 : a < 2 → var N a = 24 := fun h => by simp [var, h]
  have c2 : b < 2 → var M b = 24 := fun h => by simp [var, h]
  have v1 := var_le G ha
  have v2 := var_le H hb
  by_cases h : var N a < var M b
  · exact (key G H ha hb (by omega) h hd).elim
  by_cases h' : var M b < var N a
  · exact (key H G hb ha (by omega) h' fun ρ => (hd ρ).symm).elim
  have hv : var N a = var M b := by omega
  by_cases ha2 : 2 ≤ a
  · have hb2 : 2 ≤ b := by have := G.bound a ha2 ha; omega
    exact .inr ⟨ha2, hb2, hv, fun ρ => by rw [← cof_lo G ha2 ha, ← cof_lo H hb2 hb, hd, hv], fun ρ => by rw [← cof_hi G ha2 ha, ← cof_hi H hb2 hb, hd, hv]⟩
  · have hb2 : ¬ 2 ≤ b := fun hb2 => by have := H.bound b hb2 hb; omega
    have h0 := hd (fun _ => false)
    have ha' : a = 0 ∨ a = 1 := by omega
    have hb' : b = 0 ∨ b = 1 := by omega
    refine .inl ⟨by omega, ?_⟩
    rcases ha' with rfl | rfl <;> rcases hb' with rfl | rfl <;> simp at h0 <;> rfl

/-! ### the canonical list -/

/-- The state of a walk: what has been put out, and the new numbers of the old ones. -/
abbrev St := List Nd × (Nat → Option Nat)

def visit (N : List Nd) : Nat → Nat → St → Nat × St
  | 0, _, s => (0, s)
  | f + 1, i, s =>
    match s.2 i with
    | some k => (k, s)
    | none =>
      let r1 := visit N f (lo N i) s
      let r2 := visit N f (hi N i) r1.2
      let D := r2.2.1 ++ [(var N i, r1.1, r2.1)]
      (D.length + 1, (D, fun x => if x = i then some (D.length + 1) else r2.2.2 x))

def start : St := ([], fun x => if x = 0 then some 0 else if x = 1 then some 1 else none)
/-- The canonical list of a number, and the root. -/
def canon (N : List Nd) (i : Nat) : Nat × List Nd := let r := visit N (i + 1) i start; (r.1, r.2.1)

/-- Two walks over two lists that stand at the same place. -/
structure Alike (N M : List Nd) (s t : St) : Prop where
  out : s.1 = t.1
  to : ∀ x y, x < N.length + 2 → y < M.length + 2 → (∀ ρ, den N x ρ = den M y ρ) → s.2 x = t.2 y
  zero : s.2 0 = some 0
  one : s.2 1 = some 1
  zero' : t.2 0 = some 0
  one' : t.2 1 = some 1

theorem visit_alike (G : Good N) (H : Good M) : ∀ f a b s t g, a < f → b < g → a < N.length + 2 → b < M.length + 2 → (∀ ρ, den N a ρ = den M b ρ) → Alike N M s t →
    (visit N f a s).1 = (visit M g b t).1 ∧ Alike N M (visit N f a s).2 (visit M g b t).2 := by
  intro f
  induction f with
  | zero => intro a b s t g h; omega
  | succ f ih =>
    intro a b s t g haf hbg ha hb hd A
    obtain ⟨g, rfl⟩ : ∃ g', g = g' + 1 := ⟨g - 1, by omega⟩
    have hto := A.to a b ha hb hd
    rcases cross G H ha hb hd with ⟨h2, rfl⟩ | ⟨ha2, hb2, hv, hlo, hhi⟩
    · have hz : s.2 a = some a := by
        have : a = 0 ∨ a = 1 := by omega
        rcases this with rfl | rfl
        · exact A.zero
        · exact A.one
      have hz' : t.2 a = some a := by
        have : a = 0 ∨ a = 1 := by omega
        rcases this with rfl | rfl
        · exact A.zero'
        · exact A.one'
      simp only [visit, hz, hz']
      exact ⟨trivial, A⟩
    · cases hs : s.2 a with
      | some k =>
        have ht : t.2 b = some k := hto ▸ hs
        simp only [visit, hs, ht]
        exact ⟨trivial, A⟩
      | none =>
        have ht : t.2 b = none := hto ▸ hs
        have a1 := G.lo_lt a ha2 ha
        have a2 := G.hi_lt a ha2 ha
        have b1 := H.lo_lt b hb2 hb
        have b2 := H.hi_lt b hb2 hb
        simp only [visit, hs, ht]
        obtain ⟨e1, A1⟩ := ih (lo N a) (lo M b) s t g (by omega) (by omega) (by omega) (by omega) hlo A
        obtain ⟨e2, A2⟩ := ih (hi N a) (hi M b) _ _ g (by omega) (by omega) (by omega) (by omega) hhi A1
        refine ⟨by rw [A2.out, e1, e2, hv], ⟨by simp only [A2.out, e1, e2, hv], fun x y hx hy hxy => ?_, ?_, ?_, ?_, ?_⟩⟩
        · by_cases hxa : x = a
          · subst hxa
            have hyb : y = b := inj H hy hb fun ρ => by rw [← hxy, hd]
            subst hyb
            simp only [if_true, A2.out, List.length_append, List.length_singleton]
          · have hyb : y ≠ b := fun hyb => hxa (inj G hx ha fun ρ => by rw [hxy, hyb, hd])
            simp only [hxa, hyb, if_false]
            exact A2.to x y hx hy hxy
        · simp only [show (0 : Nat) ≠ a by omega, if_false]; exact A2.zero
        · simp only [show (1 : Nat) ≠ a by omega, if_false]; exact A2.one
        · simp only [show (0 : Nat) ≠ b by omega, if_false]; exact A2.zero'
        · simp only [show (1 : Nat) ≠ b by omega, if_false]; exact A2.one'

theorem start_alike (G : Good N) (H : Good M) : Alike N M start start := by
  refine ⟨rfl, fun x y hx hy hxy => ?_, rfl, rfl, rfl, rfl⟩
  rcases cross G H hx hy hxy with ⟨_, rfl⟩ | ⟨h1, h2, _⟩
  · rfl
  · simp [start, show x ≠ 0 by omega, show x ≠ 1 by omega, show y ≠ 0 by omega, show y ≠ 1 by omega]

/-- EQUAL FUNCTIONS HAVE EQUAL DIAGRAMS. -/
theorem canon_eq (G : Good N) (H : Good M) {a b : Nat} (ha : a < N.length + 2) (hb : b < M.length + 2) (hd : ∀ ρ, den N a ρ = den M b ρ) : canon N a = canon M b := by
  obtain ⟨h1, h2⟩ := visit_alike G H (a + 1) a b start start (b + 1) (by omega) (by omega) ha hb hd (start_alike G H)
  simp only [canon, h1, h2.out]
end
end Go.Proofs.Ytengdldkkmknpaa.Dd
