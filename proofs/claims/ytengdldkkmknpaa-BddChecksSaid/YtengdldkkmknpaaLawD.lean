/- Plain theory of decision diagrams, continued: the canonical list is not longer than the list it comes from. No condition. -/
import Derived.Test.YtengdldkkmknpaaLawC
set_option linter.unusedVariables false
set_option linter.unusedSimpArgs false
namespace Go.Proofs.Ytengdldkkmknpaa.Dd

/-- What has been put out, and what may still be. -/
def pot (s : St) (m : Nat) : Nat := s.1.length + ((List.range m).filter fun x => (s.2 x).isNone).length

theorem filter_less (p q : Nat → Bool) (i : Nat) (hp : p i = true) (hq : q i = false) (h : ∀ x, x ≠ i → q x = p x) : ∀ m, i < m → ((List.range m).filter q).length + 1 = ((List.range m).filter p).length := by
  have same : ∀ m, m ≤ i → ((List.range m).filter q).length = ((List.range m).filter p).length := by
    intro m hm
    congr 1
    apply List.filter_congr
    intro x hx
    exact h x (by have := List.mem_range.1 hx; omega)
  intro m
  induction m with
  | zero => intro h; omega
  | succ m ih =>
    intro hm
    rw [List.range_succ, List.filter_append, List.filter_append, List.length_append, List.length_append]
    by_cases hi : i = m
    · subst hi
      rw [same i (Nat.le_refl _)]
      simp [hp, hq]
    · have := ih (by omega)
      have e : List.filter q [m] = List.filter p [m] := by simp [List.filter_cons, h m (fun e => hi e.symm)]
      rw [e]
      omega

theorem visit_pot {N : List Nd} (G : Good N) : ∀ f i s m, i < f → i < N.length + 2 → i < m → Walk N s → pot (visit N f i s).2 m ≤ pot s m := by
  intro f
  induction f with
  | zero => intro i s m h; omega
  | succ f ih =>
    intro i s m hif hil him W
    have V := visit_walk G (f + 1) i s hif hil W
    cases hs : s.2 i with
    | some k =>
      simp only [visit, hs]
      exact Nat.le_refl _
    | none =>
      have h2 : 2 ≤ i := by
        by_cases h : i = 0
        · subst h; rw [W.zero] at hs; cases hs
        · by_cases h' : i = 1
          · subst h'; rw [W.one] at hs; cases hs
          · omega
      have a1 := G.lo_lt i h2 hil
      have a2 := G.hi_lt i h2 hil
      obtain ⟨W1, _, _, q1⟩ := visit_walk G f (lo N i) s (by omega) (by omega) W
      obtain ⟨W2, _, _, q2⟩ := visit_walk G f (hi N i) (visit N f (lo N i) s).2 (by omega) (by omega) W1
      have p1 := ih (lo N i) s m (by omega) (by omega) (by omega) W
      have p2 := ih (hi N i) (visit N f (lo N i) s).2 m (by omega) (by omega) (by omega) W1
      have hnone : (visit N f (hi N i) (visit N f (lo N i) s).2).2.2 i = none := by rw [q2 i a2, q1 i a1, hs]
      simp only [visit, hs]
      generalize visit N f (hi N i) (visit N f (lo N i) s).2 = r2 at *
      unfold pot at *
      have := filter_less (fun x => (r2.2.2 x).isNone) (fun x => ((if x = i then some ((r2.2.1 ++ [(var N i, (visit N f (lo N i) s).1, r2.1)]).length + 1) else r2.2.2 x)).isNone) i (by simp [hnone]) (by simp) (fun x hx => by simp [hx]) m him
      simp only [List.length_append, List.length_singleton] at this ⊢
      omega

theorem pot_start (m : Nat) : pot start (m + 2) ≤ m := by
  unfold pot
  have e : (List.range (m + 2)).filter (fun x => (start.2 x).isNone) = (List.range' 2 m).filter (fun x => (start.2 x).isNone) := by
    rw [show List.range (m + 2) = [0, 1] ++ List.range' 2 m by
      rw [List.range_eq_range', show m + 2 = 2 + m by omega, ← List.range'_append_1]; rfl]
    rw [List.filter_append]
    rfl
  have := List.length_filter_le (fun x => (start.2 x).isNone) (List.range' 2 m)
  rw [e]
  simp [start] at *
  omega

theorem visit_bound {N : List Nd} (G : Good N) {i : Nat} (hi : i < N.length + 2) : (canon N i).2.length ≤ N.length := by
  have h := visit_pot G (i + 1) i start (N.length + 2) (by omega) hi hi (start_walk N)
  have h2 := pot_start N.length
  unfold canon
  unfold pot at h h2
  simp only
  omega
end Go.Proofs.Ytengdldkkmknpaa.Dd
