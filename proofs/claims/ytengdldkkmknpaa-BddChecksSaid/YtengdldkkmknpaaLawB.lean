/- Plain theory of decision diagrams, continued: lists that grow; the canonical list is good and means the same. No condition. -/
import Derived.Test.YtengdldkkmknpaaLaw
set_option linter.unusedVariables false
set_option linter.unusedSimpArgs false
namespace Go.Proofs.Ytengdldkkmknpaa.Dd

/-! ### lists that grow -/
section
variable {N M : List Nd}

theorem var_app {X : List Nd} {i : Nat} (hl : i < N.length + 2) : var (N ++ X) i = var N i := by
  by_cases h : i < 2
  · simp [var, h]
  · simp [var, h, List.getD_eq_getElem?_getD, List.getElem?_append_left (show i - 2 < N.length by omega)]
theorem lo_app {X : List Nd} {i : Nat} (h2 : 2 ≤ i) (hl : i < N.length + 2) : lo (N ++ X) i = lo N i := by
  simp [lo, List.getD_eq_getElem?_getD, List.getElem?_append_left (show i - 2 < N.length by omega)]
theorem hi_app {X : List Nd} {i : Nat} (h2 : 2 ≤ i) (hl : i < N.length + 2) : hi (N ++ X) i = hi N i := by
  simp [hi, List.getD_eq_getElem?_getD, List.getElem?_append_left (show i - 2 < N.length by omega)]

theorem den_app {X : List Nd} (G : Good N) (H : Good (N ++ X)) (ρ : Nat → Bool) : ∀ i, i < N.length + 2 → den (N ++ X) i ρ = den N i ρ := by
  intro i
  induction i using Nat.strongRecOn with
  | _ i ih =>
    intro hl
    by_cases h2 : 2 ≤ i
    · have a1 := G.lo_lt i h2 hl
      have a2 := G.hi_lt i h2 hl
      rw [den_node G h2 hl, den_node H h2 (by simp; omega), var_app hl, lo_app h2 hl, hi_app h2 hl, ih _ a1 (by omega), ih _ a2 (by omega)]
    · have : i = 0 ∨ i = 1 := by omega
      rcases this with rfl | rfl <;> rfl

theorem last_var (N : List Nd) (n : Nd) : var (N ++ [n]) (N.length + 2) = n.1 := by simp [var]; intro h; omega
theorem last_lo (N : List Nd) (n : Nd) : lo (N ++ [n]) (N.length + 2) = n.2.1 := by simp [lo]
theorem last_hi (N : List Nd) (n : Nd) : hi (N ++ [n]) (N.length + 2) = n.2.2 := by simp [hi]

/-- A new node. -/
theorem Good.snoc (G : Good N) {v l h : Nat} (hv : v < 24) (hl : l < N.length + 2) (hh : h < N.length + 2) (hne : l ≠ h) (hlv : v < var N l) (hhv : v < var N h) (hn : (v, l, h) ∉ N) : Good (N ++ [(v, l, h)]) := by
  have key : ∀ i, 2 ≤ i → i < (N ++ [(v, l, h)]).length + 2 → i < N.length + 2 ∨ i = N.length + 2 := fun i _ h2 => by simp at h2; omega
  constructor
  · intro i h2 hi'
    rcases key i h2 hi' with h' | rfl
    · rw [var_app h']; exact G.bound i h2 h'
    · rw [last_var]; exact hv
  · intro i h2 hi'
    rcases key i h2 hi' with h' | rfl
    · rw [lo_app h2 h']; exact G.lo_lt i h2 h'
    · rw [last_lo]; exact hl
  · intro i h2 hi'
    rcases key i h2 hi' with h' | rfl
    · rw [hi_app h2 h']; exact G.hi_lt i h2 h'
    · rw [last_hi]; exact hh
  · intro i h2 hi'
    rcases key i h2 hi' with h' | rfl
    · rw [hi_app h2 h', lo_app h2 h']; exact G.ne i h2 h'
    · rw [last_hi, last_lo]; exact hne
  · intro i h2 hi'
    rcases key i h2 hi' with h' | rfl
    · have := G.lo_lt i h2 h'
      rw [lo_app h2 h', var_app h', var_app (by omega)]; exact G.lo_var i h2 h'
    · rw [last_lo, last_var, var_app hl]; exact hlv
  · intro i h2 hi'
    rcases key i h2 hi' with h' | rfl
    · have := G.hi_lt i h2 h'
      rw [hi_app h2 h', var_app h', var_app (by omega)]; exact G.hi_var i h2 h'
    · rw [last_hi, last_var, var_app hh]; exact hhv
  · refine List.nodup_append.2 ⟨G.nodup, by simp, fun x hx y hy => ?_⟩
    simp at hy
    subst hy
    exact fun e => hn (e ▸ hx)

/-- What a number means, put together of a variable and two numbers. -/
theorem den_snoc (G : Good N) {v l h : Nat} (H : Good (N ++ [(v, l, h)])) (hl : l < N.length + 2) (hh : h < N.length + 2) (ρ : Nat → Bool) :
    den (N ++ [(v, l, h)]) (N.length + 2) ρ = if ρ v then den N h ρ else den N l ρ := by
  rw [den_node H (by omega) (by simp), last_var, last_lo, last_hi, den_app G H ρ h hh, den_app G H ρ l hl]

/-! ### the canonical list is good -/
structure Walk (N : List Nd) (s : St) : Prop where
  good : Good s.1
  to : ∀ x k, s.2 x = some k → x < N.length + 2 ∧ k < s.1.length + 2 ∧ (∀ ρ, den s.1 k ρ = den N x ρ) ∧ var s.1 k = var N x
  onto : ∀ k, 2 ≤ k → k < s.1.length + 2 → ∃ x, s.2 x = some k
  zero : s.2 0 = some 0
  one : s.2 1 = some 1

theorem start_walk (N : List Nd) : Walk N start := by
  refine ⟨Good.nil, fun x k hx => ?_, fun k h1 h2 => by simp [start] at h2; omega, rfl, rfl⟩
  by_cases h0 : x = 0
  · subst h0
    have : k = 0 := by simpa [start] using hx.symm
    subst this
    exact ⟨by omega, by simp, fun _ => rfl, by simp [var]⟩
  · by_cases h1 : x = 1
    · subst h1
      have : k = 1 := by simpa [start] using hx.symm
      subst this
      exact ⟨by omega, by simp, fun _ => rfl, by simp [var]⟩
    · simp [start, h0, h1] at hx

theorem visit_walk (G : Good N) : ∀ f i s, i < f → i < N.length + 2 → Walk N s →
    Walk N (visit N f i s).2 ∧ (visit N f i s).2.2 i = some (visit N f i s).1 ∧ (∀ x k, s.2 x = some k → (visit N f i s).2.2 x = some k) ∧ (∀ x, i < x → (visit N f i s).2.2 x = s.2 x) := by
  intro f
  induction f with
  | zero => intro i s h; omega
  | succ f ih =>
    intro i s hif hil W
    cases hs : s.2 i with
    | some k =>
      simp only [visit, hs]
      exact ⟨W, trivial, fun _ _ h => h, fun _ _ => trivial⟩
    | none =>
      have h2 : 2 ≤ i := by
        by_cases h : i = 0
        · subst h; rw [W.zero] at hs; cases hs
        · by_cases h' : i = 1
          · subst h'; rw [W.one] at hs; cases hs
          · omega
      have a1 := G.lo_lt i h2 hil
      have a2 := G.hi_lt i h2 hil
      obtain ⟨W1, t1, p1, q1⟩ := ih (lo N i) s (by omega) (by omega) W
      obtain ⟨W2, t2, p2, q2⟩ := ih (hi N i) (visit N f (lo N i) s).2 (by omega) (by omega) W1
      have t1' := p2 _ _ t1
      obtain ⟨_, l1, d1, v1⟩ := W2.to _ _ t1'
      obtain ⟨_, l2, d2, v2⟩ := W2.to _ _ t2
      simp only [visit, hs]
      generalize hr1 : (visit N f (lo N i) s).1 = r1 at *
      generalize hr2 : (visit N f (hi N i) (visit N f (lo N i) s).2) = r2 at *
      have hden : ∀ ρ, (if ρ (var N i) then den r2.2.1 r2.1 ρ else den r2.2.1 r1 ρ) = den N i ρ := fun ρ => by rw [den_node G h2 hil, d1, d2]
      have hnew : r2.2.2 i = none → (var N i, r1, r2.1) ∉ r2.2.1 := fun hnone hmem => by
        obtain ⟨j, hj, hje⟩ := List.getElem_of_mem hmem
        obtain ⟨x, hx⟩ := W2.onto (j + 2) (by omega) (by omega)
        obtain ⟨hxl, _, dx, vx⟩ := W2.to _ _ hx
        have hxi : x = i := inj G hxl hil fun ρ => by
          rw [← dx, ← hden, den_node W2.good (by omega) (by omega)]
          have e : r2.2.1[j + 2 - 2]? = some (var N i, r1, r2.1) := by
            rw [show j + 2 - 2 = j by omega, List.getElem?_eq_getElem hj, hje]
          have := (node_at (N := r2.2.1) (i := j + 2) (by omega) (by omega)).symm.trans e
          simp only [Option.some.injEq, Prod.mk.injEq] at this
          rw [this.1, this.2.1, this.2.2]
        rw [hxi, hnone] at hx
        cases hx
      -- number i itself has got no number meanwhile
      have hnone : r2.2.2 i = none := by rw [q2 i a2, q1 i a1, hs]
      have Gs : Good (r2.2.1 ++ [(var N i, r1, r2.1)]) := by
        refine W2.good.snoc (G.bound i h2 hil) l1 l2 ?_ ?_ ?_ (hnew hnone)
        · intro e
          refine G.ne i h2 hil (inj G (by omega) (by omega) fun ρ => ?_)
          rw [← d1, ← d2, e]
        · rw [v1]; exact G.lo_var i h2 hil
        · rw [v2]; exact G.hi_var i h2 hil
      refine ⟨⟨Gs, fun x k hx => ?_, fun k hk1 hk2 => ?_, ?_, ?_⟩, by simp, fun x k hx => ?_, fun x hx => ?_⟩
      · by_cases hxi : x = i
        · subst hxi
          simp only [if_true, Option.some.injEq] at hx
          subst hx
          refine ⟨hil, by simp, fun ρ => ?_, ?_⟩
          · rw [List.length_append, List.length_singleton, den_snoc W2.good Gs l1 l2, hden]
          · rw [List.length_append, List.length_singleton, last_var]
        · simp only [hxi, if_false] at hx
          obtain ⟨m1, m2, m3, m4⟩ := W2.to x k hx
          exact ⟨m1, by simp; omega, fun ρ => by rw [den_app W2.good Gs ρ k m2, m3], by rw [var_app m2, m4]⟩
      · by_cases hke : k = r2.2.1.length + 2
        · exact ⟨i, by simp [hke]⟩
        · obtain ⟨x, hx⟩ := W2.onto k hk1 (by simp at hk2; omega)
          refine ⟨x, ?_⟩
          have hxi : x ≠ i := fun e => by rw [e, hnone] at hx; cases hx
          simp [hxi, hx]
      · simp only [show (0 : Nat) ≠ i by omega, if_false]; exact W2.zero
      · simp only [show (1 : Nat) ≠ i by omega, if_false]; exact W2.one
      · have hxi : x ≠ i := fun e => by rw [e, hs] at hx; cases hx
        simp only [hxi, if_false]
        exact p2 _ _ (p1 _ _ hx)
      · simp only [show x ≠ i by omega, if_false]
        rw [q2 x (by omega), q1 x (by omega)]

/-- THE CANONICAL LIST IS GOOD, MEANS THE SAME, AND IS ITS OWN. -/
theorem canon_good (G : Good N) {i : Nat} (hil : i < N.length + 2) : Good (canon N i).2 ∧ (canon N i).1 < (canon N i).2.length + 2 ∧ (∀ ρ, den (canon N i).2 (canon N i).1 ρ = den N i ρ) ∧ canon (canon N i).2 (canon N i).1 = canon N i := by
  obtain ⟨W, t, _, _⟩ := visit_walk G (i + 1) i start (by omega) hil (start_walk N)
  obtain ⟨_, h2, h3, _⟩ := W.to _ _ t
  exact ⟨W.good, h2, h3, canon_eq W.good G h2 hil h3⟩

/-- The canonical list is no longer than what it is made of. -/
theorem visit_len (N : List Nd) (f i : Nat) (s : St) : s.1.length ≤ (visit N f i s).2.1.length := by
  induction f generalizing i s with
  | zero => simp [visit]
  | succ f ih =>
    simp only [visit]
    split
    · simp
    · have h1 := ih (lo N i) s
      have h2 := ih (hi N i) (visit N f (lo N i) s).2
      simp only [List.length_append, List.length_singleton]
      omega
end
end Go.Proofs.Ytengdldkkmknpaa.Dd
