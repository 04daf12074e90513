/- Diagrams whose variables have other numbers; variables that a function does not depend on. No program. No condition. -/
import Derived.Test.YtgdmcidcappkpaaDoorSyA
set_option linter.unusedVariables false
set_option linter.unusedSimpArgs false
namespace Go.Proofs.YtgdmcidcappkpaaDoor.Dd

def mapV (g : Nat → Nat) (M : List Nd) : List Nd := M.map fun n => (g n.1, n.2)
section
variable {M : List Nd} {g : Nat → Nat}
theorem mapV_len : (mapV g M).length = M.length := by simp [mapV]
theorem mapV_getD (j : Nat) : ((mapV g M).getD j (0, 0, 0)).2 = (M.getD j (0, 0, 0)).2 := by
  unfold mapV
  rw [List.getD_eq_getElem?_getD, List.getD_eq_getElem?_getD, List.getElem?_map]
  cases M[j]? <;> rfl
theorem lo_mapV (i : Nat) : lo (mapV g M) i = lo M i := by unfold lo; rw [mapV_getD]
theorem hi_mapV (i : Nat) : hi (mapV g M) i = hi M i := by unfold hi; rw [mapV_getD]
theorem var_mapV {i : Nat} (h2 : 2 ≤ i) (hi : i < M.length + 2) : var (mapV g M) i = g (var M i) := by
  unfold var mapV
  rw [if_neg (by omega), if_neg (by omega), List.getD_eq_getElem?_getD, List.getD_eq_getElem?_getD, List.getElem?_map, List.getElem?_eq_getElem (by omega)]
  rfl
theorem var_low {i : Nat} (h : i < 2) : var M i = 24 := by unfold var; rw [if_pos h]

theorem visit_mapV (G : Good M) : ∀ f i (s : St), i < f → i < M.length + 2 → s.2 0 = some 0 → s.2 1 = some 1 →
    visit (mapV g M) f i (mapV g s.1, s.2) = ((visit M f i s).1, (mapV g (visit M f i s).2.1, (visit M f i s).2.2)) ∧ (visit M f i s).2.2 0 = some 0 ∧ (visit M f i s).2.2 1 = some 1 := by
  intro f
  induction f with
  | zero => intro i s h; omega
  | succ f ih =>
    intro i s hif hil z0 z1
    cases hsi : s.2 i with
    | some k =>
      simp only [visit, hsi]
      exact ⟨trivial, z0, z1⟩
    | none =>
      have h2 : 2 ≤ i := by
        by_cases h : i = 0
        · subst h; rw [z0] at hsi; cases hsi
        · by_cases h' : i = 1
          · subst h'; rw [z1] at hsi; cases hsi
          · omega
      have a1 := G.lo_lt i h2 hil
      have a2 := G.hi_lt i h2 hil
      obtain ⟨p1, p2, p3⟩ := ih (lo M i) s (by omega) (by omega) z0 z1
      obtain ⟨q1, q2, q3⟩ := ih (Dd.hi M i) (visit M f (lo M i) s).2 (by omega) (by omega) p2 p3
      simp only [visit, hsi, lo_mapV, hi_mapV, var_mapV h2 hil, p1]
      have q1' : visit (mapV g M) f (Dd.hi M i) (mapV g (visit M f (lo M i) s).2.1, (visit M f (lo M i) s).2.2) = _ := q1
      rw [q1']
      simp only [show (0 : Nat) ≠ i by omega, show (1 : Nat) ≠ i by omega, if_false]
      refine ⟨?_, q2, q3⟩
      simp only [mapV, List.map_append, List.map_cons, List.map_nil, List.length_append, List.length_map, List.length_cons, List.length_nil]
theorem canon_mapV (G : Good M) {r : Nat} (hr : r < M.length + 2) : canon (mapV g M) r = ((canon M r).1, mapV g (canon M r).2) := by
  obtain ⟨h, _, _⟩ := visit_mapV (g := g) G (r + 1) r start (by omega) hr rfl rfl
  unfold canon
  have hs : (mapV g start.1, start.2) = start := rfl
  rw [hs] at h
  simp only [h]

/-- What is asked of the new numbers. -/
structure Mono (g : Nat → Nat) (V : Nat) (Q : Nat → Prop) : Prop where
  lt : ∀ a b, Q a → Q b → a < b → g a < g b
  bound : ∀ a, Q a → g a < V

theorem node_var {n : Nd} (h : n ∈ M) : ∃ i, 2 ≤ i ∧ i < M.length + 2 ∧ var M i = n.1 := by
  obtain ⟨j, hj⟩ := List.mem_iff_getElem?.1 h
  have hl := (List.getElem?_eq_some_iff.1 hj).1
  refine ⟨j + 2, by omega, by omega, ?_⟩
  unfold var
  rw [if_neg (by omega), show j + 2 - 2 = j by omega, List.getD_eq_getElem?_getD, hj]
  rfl
theorem good_mapV (G : Good M) {V : Nat} {Q : Nat → Prop} (hV : V ≤ 24) (hg : Mono g V Q) (hQ : ∀ i, 2 ≤ i → i < M.length + 2 → Q (var M i)) : Good (mapV g M) := by
  have hstep : ∀ i j, 2 ≤ i → i < M.length + 2 → j < M.length + 2 → var M i < var M j → var (mapV g M) i < var (mapV g M) j := by
    intro i j h2 hi hj hv
    rw [var_mapV h2 hi]
    by_cases hj2 : j < 2
    · rw [var_low hj2]
      have := hg.bound _ (hQ i h2 hi)
      omega
    · rw [var_mapV (by omega) hj]
      exact hg.lt _ _ (hQ i h2 hi) (hQ j (by omega) hj) hv
  refine ⟨fun i h2 hi => ?_, fun i h2 hi => ?_, fun i h2 hi => ?_, fun i h2 hi => ?_, fun i h2 hi => ?_, fun i h2 hi => ?_, ?_⟩
  · rw [mapV_len] at hi
    rw [var_mapV h2 hi]
    have := hg.bound _ (hQ i h2 hi)
    omega
  · rw [mapV_len] at hi
    rw [lo_mapV]
    exact G.lo_lt i h2 hi
  · rw [mapV_len] at hi
    rw [hi_mapV]
    exact G.hi_lt i h2 hi
  · rw [mapV_len] at hi
    rw [lo_mapV, hi_mapV]
    exact G.ne i h2 hi
  · rw [mapV_len] at hi
    rw [lo_mapV]
    have := G.lo_lt i h2 hi
    exact hstep i _ h2 hi (by omega) (G.lo_var i h2 hi)
  · rw [mapV_len] at hi
    rw [hi_mapV]
    have := G.hi_lt i h2 hi
    exact hstep i _ h2 hi (by omega) (G.hi_var i h2 hi)
  · unfold mapV List.Nodup
    rw [List.pairwise_map]
    refine List.Pairwise.imp_of_mem (fun {a b} ha hb hne => ?_) G.nodup
    intro e
    obtain ⟨i, i1, i2, i3⟩ := node_var ha
    obtain ⟨j, j1, j2, j3⟩ := node_var hb
    have qa := hQ i i1 i2
    have qb := hQ j j1 j2
    rw [i3] at qa
    rw [j3] at qb
    obtain ⟨a1, a2⟩ := a
    obtain ⟨b1, b2⟩ := b
    simp only [Prod.mk.injEq] at e
    obtain ⟨e1, e2⟩ := e
    have hab : a1 = b1 := by
      rcases Nat.lt_trichotomy a1 b1 with h | h | h
      · have := hg.lt _ _ qa qb h
        simp only at this
        omega
      · exact h
      · have := hg.lt _ _ qb qa h
        simp only at this
        omega
    subst hab e2
    exact hne rfl
theorem den_mapV (G : Good M) (G' : Good (mapV g M)) (ρ : Nat → Bool) : ∀ i, i < M.length + 2 → den (mapV g M) i ρ = den M i fun x => ρ (g x) := by
  intro i
  induction i using Nat.strongRecOn with
  | _ i ih =>
    intro hi
    by_cases h2 : 2 ≤ i
    · have a1 := G.lo_lt i h2 hi
      have a2 := G.hi_lt i h2 hi
      rw [den_node G' h2 (by rw [mapV_len]; exact hi), den_node G h2 hi, lo_mapV, hi_mapV, var_mapV h2 hi, ih _ a1 (by omega), ih _ a2 (by omega)]
    · have : i = 0 ∨ i = 1 := by omega
      rcases this with rfl | rfl <;> rfl
theorem valid_mapV {V r : Nat} (H : Valid V M r) {Q : Nat → Prop} (hg : Mono g V Q) (hQ : ∀ i, 2 ≤ i → i < M.length + 2 → Q (var M i)) : Valid V (mapV g M) r ∧ ∀ ρ, den (mapV g M) r ρ = den M r fun x => ρ (g x) := by
  have G' := good_mapV H.good H.vars hg hQ
  refine ⟨⟨H.vars, by rw [mapV_len]; exact H.len, G', fun i h2 hi => ?_, by rw [mapV_len]; exact H.root, ?_⟩, fun ρ => den_mapV H.good G' ρ r H.root⟩
  · rw [mapV_len] at hi
    rw [var_mapV h2 hi]
    exact hg.bound _ (hQ i h2 hi)
  · rw [canon_mapV H.good H.root, H.own]

/-! ### what a function does not depend on -/
theorem visit_free (G : Good M) (v : Nat) : ∀ f i (s : St), i < f → i < M.length + 2 → (∀ ρ b, den M i (upd ρ v b) = den M i ρ) → s.2 0 = some 0 → s.2 1 = some 1 → (∀ n ∈ s.1, n.1 ≠ v) →
    (∀ n ∈ (visit M f i s).2.1, n.1 ≠ v) ∧ (visit M f i s).2.2 0 = some 0 ∧ (visit M f i s).2.2 1 = some 1 := by
  intro f
  induction f with
  | zero => intro i s h; omega
  | succ f ih =>
    intro i s hif hil hw z0 z1 hs
    cases hsi : s.2 i with
    | some k =>
      simp only [visit, hsi]
      exact ⟨hs, z0, z1⟩
    | none =>
      have h2 : 2 ≤ i := by
        by_cases h : i = 0
        · subst h; rw [z0] at hsi; cases hsi
        · by_cases h' : i = 1
          · subst h'; rw [z1] at hsi; cases hsi
          · omega
      have a1 := G.lo_lt i h2 hil
      have a2 := G.hi_lt i h2 hil
      have hne : var M i ≠ v := by
        intro e
        refine G.ne i h2 hil (inj G (by omega) (by omega) fun ρ => ?_)
        rw [← cof_lo G h2 hil, ← cof_hi G h2 hil, e, hw, hw]
      have wl : ∀ ρ b, den M (lo M i) (upd ρ v b) = den M (lo M i) ρ := fun ρ b => by
        rw [← cof_lo G h2 hil, ← cof_lo G h2 hil, upd_comm _ _ _ (Ne.symm hne), hw]
      have wh : ∀ ρ b, den M (Dd.hi M i) (upd ρ v b) = den M (Dd.hi M i) ρ := fun ρ b => by
        rw [← cof_hi G h2 hil, ← cof_hi G h2 hil, upd_comm _ _ _ (Ne.symm hne), hw]
      obtain ⟨p1, p2, p3⟩ := ih (lo M i) s (by omega) (by omega) wl z0 z1 hs
      obtain ⟨q1, q2, q3⟩ := ih (Dd.hi M i) (visit M f (lo M i) s).2 (by omega) (by omega) wh p2 p3 p1
      simp only [visit, hsi]
      refine ⟨fun n hn => ?_, ?_, ?_⟩
      · rcases List.mem_append.1 hn with h | h
        · exact q1 n h
        · have : n = _ := List.mem_singleton.1 h
          rw [this]; exact hne
      · simp only [show (0 : Nat) ≠ i by omega, if_false]; exact q2
      · simp only [show (1 : Nat) ≠ i by omega, if_false]; exact q3
theorem valid_free {V r v : Nat} (H : Valid V M r) (hw : ∀ ρ b, den M r (upd ρ v b) = den M r ρ) : ∀ i, 2 ≤ i → i < M.length + 2 → var M i ≠ v := by
  intro i h2 hi
  obtain ⟨h, _, _⟩ := visit_free H.good v (r + 1) r start (by omega) H.root hw rfl rfl (by simp [start])
  have ho : (visit M (r + 1) r start).2.1 = M := congrArg Prod.snd H.own
  rw [ho] at h
  unfold var
  rw [if_neg (by omega), List.getD_eq_getElem?_getD, List.getElem?_eq_getElem (show i - 2 < M.length by omega)]
  exact h _ (List.getElem_mem _)
/-- A function of the variables with Q alone. -/
def LocQ (Q : Nat → Prop) (f : BFn) : Prop := ∀ ρ ρ', (∀ x, Q x → ρ x = ρ' x) → f ρ = f ρ'
theorem valid_locQ {V r : Nat} (H : Valid V M r) {Q : Nat → Prop} (hQ : ∀ i, 2 ≤ i → i < M.length + 2 → Q (var M i)) : LocQ Q (den M r) := by
  have key : ∀ i, i < M.length + 2 → LocQ Q (den M i) := by
    intro i
    induction i using Nat.strongRecOn with
    | _ i ih =>
      intro hi ρ ρ' h
      by_cases h2 : 2 ≤ i
      · have a1 := H.good.lo_lt i h2 hi
        have a2 := H.good.hi_lt i h2 hi
        rw [den_node H.good h2 hi, den_node H.good h2 hi, h _ (hQ i h2 hi), ih _ a1 (by omega) ρ ρ' h, ih _ a2 (by omega) ρ ρ' h]
      · have : i = 0 ∨ i = 1 := by omega
        rcases this with rfl | rfl <;> rfl
  exact key r H.root
/-- A set: a diagram of the variables of the current states. -/
theorem set_vars {V r : Nat} (H : Valid V M r) (h : supp M &&& odN V = 0) : ∀ i, 2 ≤ i → i < M.length + 2 → var M i < V ∧ var M i % 2 = 0 := by
  intro i h2 hi
  have hb := H.bound i h2 hi
  refine ⟨hb, ?_⟩
  by_cases he : var M i % 2 = 0
  · exact he
  · exfalso
    have h1 : (supp M).testBit (var M i) = true := by
      rw [supp_bit]
      refine ⟨M[i - 2], List.getElem_mem _, ?_⟩
      unfold var
      rw [if_neg (by omega), List.getD_eq_getElem?_getD, List.getElem?_eq_getElem (show i - 2 < M.length by omega)]
      rfl
    have h3 : (odN V).testBit (var M i) = true := by rw [odN_bit]; simp; omega
    have h4 : (supp M &&& odN V).testBit (var M i) = true := by rw [Nat.testBit_and, h1, h3]; rfl
    rw [h] at h4
    simp at h4
theorem mono_up {V : Nat} (hV : V % 2 = 0) : Mono (· + 1) V fun x => x < V ∧ x % 2 = 0 := ⟨fun a b _ _ h => by omega, fun a h => by omega⟩
theorem mono_dn {V : Nat} : Mono (· - 1) V fun x => x < V ∧ x % 2 = 1 := ⟨fun a b h1 h2 h => by omega, fun a h => by omega⟩
theorem up_law {V r : Nat} (H : Valid V M r) (hV : V % 2 = 0) (h : supp M &&& odN V = 0) : Valid V (mapV (· + 1) M) r ∧ ∀ ρ, den (mapV (· + 1) M) r ρ = upF V (den M r) ρ := by
  have hs := set_vars H h
  obtain ⟨h1, h2⟩ := valid_mapV H (mono_up hV) hs
  refine ⟨h1, fun ρ => ?_⟩
  rw [h2]
  refine valid_locQ H (Q := fun x => x < V ∧ x % 2 = 0) hs _ _ fun x hx => ?_
  rw [if_pos (by omega)]
theorem qf_free {V v : Nat} {S : Nat → Bool} (f : BFn) (hv : S v = true) (ρ : Nat → Bool) (b : Bool) : qf true S f (upd ρ v b) = qf true S f ρ := by
  unfold qf
  simp only [if_true]
  refine decide_eq_decide.2 (exists_congr fun σ => and_congr_left fun _ => forall_congr' fun x => imp_congr_right fun hx => ?_)
  rw [upd_ne]
  rintro rfl
  rw [hv] at hx
  cases hx
theorem dn_law {V r : Nat} {f : BFn} (H : Valid V M r) (hd : ∀ ρ, den M r ρ = qf true (evN V).testBit f ρ) : Valid V (mapV (· - 1) M) r ∧ ∀ ρ, den (mapV (· - 1) M) r ρ = dnF V (den M r) ρ := by
  have hs : ∀ i, 2 ≤ i → i < M.length + 2 → var M i < V ∧ var M i % 2 = 1 := by
    intro i h2 hi
    have hb := H.bound i h2 hi
    refine ⟨hb, ?_⟩
    by_cases he : var M i % 2 = 1
    · exact he
    · exfalso
      refine valid_free H (v := var M i) (fun ρ b => ?_) i h2 hi rfl
      rw [hd, hd, qf_free (V := V) f (by rw [evN_bit]; simp; omega)]
  obtain ⟨h1, h2⟩ := valid_mapV H mono_dn hs
  refine ⟨h1, fun ρ => ?_⟩
  rw [h2]
  refine valid_locQ H (Q := fun x => x < V ∧ x % 2 = 1) hs _ _ fun x hx => ?_
  rw [if_pos (by omega)]
end
end Go.Proofs.YtgdmcidcappkpaaDoor.Dd
