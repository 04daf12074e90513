/- Plain theory of decision diagrams, continued: the error of a diagram as it comes in, and what is known of one without an error. No condition. -/
import Derived.Test.YtengdldkkmknpaaLawD
set_option linter.unusedVariables false
set_option linter.unusedSimpArgs false
namespace Go.Proofs.Ytengdldkkmknpaa.Dd

abbrev Rn := Int × Int × Int
def rat (R : List Rn) (i : Nat) : Rn := R.getD i (0, 0, 0)
/-- Number k may not follow node n. -/
def badNext (R : List Rn) (n : Rn) (k : Int) : Prop := 1 < k ∧ (rat R (k - 2).toNat).1 ≤ n.1
instance (R : List Rn) (n : Rn) (k : Int) : Decidable (badNext R n k) := by unfold badNext; infer_instance
def badRange (n : Rn) (V : Int) : Prop := n.1 < 0 ∨ V ≤ n.1
instance (n : Rn) (V : Int) : Decidable (badRange n V) := by unfold badRange; infer_instance
def badForm (n : Rn) (i : Nat) : Prop := n.2.1 < 0 ∨ (i : Int) + 1 < n.2.1 ∨ n.2.2 < 0 ∨ (i : Int) + 1 < n.2.2 ∨ n.2.1 = n.2.2
instance (n : Rn) (i : Nat) : Decidable (badForm n i) := by unfold badForm; infer_instance
def nodeErr (V : Int) (R : List Rn) (i : Nat) : Int :=
  let n := rat R i
  if badRange n V then 2 else if badForm n i then 3 else if badNext R n n.2.1 ∨ badNext R n n.2.2 then 9 else 0
/-- The first error among the first k nodes; 0 if there is none. -/
def firstErr (V : Int) (R : List Rn) : Nat → Int
  | 0 => 0
  | k + 1 => if firstErr V R k ≠ 0 then firstErr V R k else nodeErr V R k
def toN (R : List Rn) : List Nd := R.map fun n => (n.1.toNat, n.2.1.toNat, n.2.2.toNat)
def ofN (N : List Nd) : List Rn := N.map fun n => ((n.1 : Int), (n.2.1 : Int), (n.2.2 : Int))
def checkErr (V : Int) (R : List Rn) (root : Int) : Int :=
  if V < 0 ∨ 24 < V then 2 else if 4096 < R.length then 8 else if firstErr V R R.length ≠ 0 then firstErr V R R.length else if ¬ R.Nodup then 7
  else if root < 0 ∨ (R.length : Int) + 1 < root then 3 else if canon (toN R) root.toNat ≠ (root.toNat, toN R) then 16 else 0

/-- A diagram without an error, as naturals. -/
structure Valid (V : Nat) (M : List Nd) (r : Nat) : Prop where
  vars : V ≤ 24
  len : M.length ≤ 4096
  good : Good M
  bound : ∀ i, 2 ≤ i → i < M.length + 2 → var M i < V
  root : r < M.length + 2
  own : canon M r = (r, M)

theorem firstErr_zero {V : Int} {R : List Rn} : ∀ k, firstErr V R k = 0 → ∀ i, i < k → nodeErr V R i = 0 := by
  intro k
  induction k with
  | zero => intro _ i hi; omega
  | succ k ih =>
    intro h i hi
    simp only [firstErr] at h
    by_cases hk : firstErr V R k = 0
    · rw [if_neg (by simp [hk])] at h
      by_cases hik : i = k
      · rw [hik]; exact h
      · exact ih hk i (by omega)
    · rw [if_pos (by simp [hk])] at h
      exact (hk h).elim
theorem firstErr_stop {V : Int} {R : List Rn} {k : Nat} (h0 : firstErr V R k = 0) (h : nodeErr V R k ≠ 0) : ∀ m, k < m → firstErr V R m = nodeErr V R k := by
  intro m
  induction m with
  | zero => intro h; omega
  | succ m ih =>
    intro hk
    simp only [firstErr]
    by_cases hm : k = m
    · subst hm
      rw [if_neg (by simp [h0])]
    · rw [ih (by omega), if_pos h]

theorem nodeErr_zero {V : Int} {R : List Rn} {i : Nat} (h : nodeErr V R i = 0) : ¬ badRange (rat R i) V ∧ ¬ badForm (rat R i) i ∧ ¬ badNext R (rat R i) (rat R i).2.1 ∧ ¬ badNext R (rat R i) (rat R i).2.2 := by
  unfold nodeErr at h
  simp only at h
  split at h
  · cases h
  split at h
  · cases h
  split at h
  · cases h
  rename_i h1 h2 h3
  exact ⟨h1, h2, fun h => h3 (.inl h), fun h => h3 (.inr h)⟩

theorem toN_len (R : List Rn) : (toN R).length = R.length := by simp [toN]
theorem toN_at (R : List Rn) (i : Nat) : (toN R).getD i (0, 0, 0) = ((rat R i).1.toNat, (rat R i).2.1.toNat, (rat R i).2.2.toNat) := by
  simp only [toN, rat, List.getD_eq_getElem?_getD, List.getElem?_map]
  cases R[i]? <;> rfl

/-- Nodes without an error are naturals, and small. -/
theorem nat_of {V : Int} {R : List Rn} (hV : 0 ≤ V ∧ V ≤ 24) (he : firstErr V R R.length = 0) : R = ofN (toN R) ∧ ∀ n ∈ toN R, n.1 < 24 ∧ n.2.1 ≤ R.length ∧ n.2.2 ≤ R.length := by
  have ok : ∀ i, i < R.length → ¬ badRange (rat R i) V ∧ ¬ badForm (rat R i) i := fun i hi => let h := nodeErr_zero (firstErr_zero _ he i hi); ⟨h.1, h.2.1⟩
  have key : ∀ n ∈ R, 0 ≤ n.1 ∧ n.1 < 24 ∧ 0 ≤ n.2.1 ∧ n.2.1 ≤ R.length ∧ 0 ≤ n.2.2 ∧ n.2.2 ≤ R.length := fun n hn => by
    obtain ⟨i, hi, rfl⟩ := List.getElem_of_mem hn
    obtain ⟨h1, h2⟩ := ok i hi
    have hr : rat R i = R[i] := by simp [rat, List.getD_eq_getElem?_getD, List.getElem?_eq_getElem hi]
    rw [hr] at h1 h2
    unfold badRange at h1
    unfold badForm at h2
    omega
  refine ⟨?_, fun n hn => ?_⟩
  · unfold ofN toN
    rw [List.map_map]
    refine (List.map_id R).symm.trans (List.map_congr_left fun n hn => ?_)
    have := key n hn
    simp only [id, Function.comp]
    refine Prod.ext ?_ (Prod.ext ?_ ?_) <;> simp <;> omega
  · unfold toN at hn
    obtain ⟨m, hm, rfl⟩ := List.mem_map.1 hn
    have := key m hm
    simp only
    omega

theorem nodup_iff {R : List Rn} (h : R = ofN (toN R)) : R.Nodup ↔ (toN R).Nodup := by
  constructor
  · intro hn
    rw [h] at hn
    unfold ofN at hn
    exact (List.pairwise_map.1 hn).imp fun h e => h (by rw [e])
  · intro hn
    rw [h]
    unfold ofN
    refine List.pairwise_map.2 (hn.imp fun hne h => hne ?_)
    simp only [Prod.mk.injEq, Int.natCast_inj] at h
    exact Prod.ext h.1 (Prod.ext h.2.1 h.2.2)

theorem good_of {V : Int} {R : List Rn} (hV : 0 ≤ V ∧ V ≤ 24) (he : firstErr V R R.length = 0) (hn : R.Nodup) : Good (toN R) ∧ R = ofN (toN R) ∧ ∀ i, 2 ≤ i → i < (toN R).length + 2 → var (toN R) i < V.toNat := by
  have ok : ∀ i, i < R.length → ¬ badRange (rat R i) V ∧ ¬ badForm (rat R i) i ∧ ¬ badNext R (rat R i) (rat R i).2.1 ∧ ¬ badNext R (rat R i) (rat R i).2.2 := fun i hi => nodeErr_zero (firstErr_zero _ he i hi)
  have hback : R = ofN (toN R) := by
    unfold ofN toN
    rw [List.map_map]
    refine (List.map_id R).symm.trans (List.map_congr_left fun n hn => ?_)
    obtain ⟨i, hi, rfl⟩ := List.getElem_of_mem hn
    obtain ⟨h1, h2, _⟩ := ok i hi
    have hr : rat R i = R[i] := by simp [rat, List.getD_eq_getElem?_getD, List.getElem?_eq_getElem hi]
    rw [hr] at h1 h2
    unfold badRange at h1
    unfold badForm at h2
    simp only [id, Function.comp]
    refine Prod.ext ?_ (Prod.ext ?_ ?_) <;> simp <;> omega
  have hv : ∀ i, 2 ≤ i → var (toN R) i = (rat R (i - 2)).1.toNat := fun i h2 => by
    unfold var
    rw [if_neg (by omega), toN_at]
  have hl : ∀ i, lo (toN R) i = (rat R (i - 2)).2.1.toNat := fun i => by unfold lo; rw [toN_at]
  have hh : ∀ i, hi (toN R) i = (rat R (i - 2)).2.2.toNat := fun i => by unfold hi; rw [toN_at]
  have hb : ∀ i, 2 ≤ i → i < (toN R).length + 2 → var (toN R) i < V.toNat := fun i h2 hi => by
    obtain ⟨h1, _⟩ := ok (i - 2) (by rw [toN_len] at hi; omega)
    rw [hv i h2]
    unfold badRange at h1
    omega
  refine ⟨⟨fun i h2 hi => by have := hb i h2 hi; omega, fun i h2 hi => ?_, fun i h2 hi => ?_, fun i h2 hi => ?_, fun i h2 hi => ?_, fun i h2 hi => ?_, ?_⟩, hback, hb⟩
  · obtain ⟨_, h1, _⟩ := ok (i - 2) (by rw [toN_len] at hi; omega)
    unfold badForm at h1
    rw [hl]; omega
  · obtain ⟨_, h1, _⟩ := ok (i - 2) (by rw [toN_len] at hi; omega)
    unfold badForm at h1
    rw [hh]; omega
  · obtain ⟨_, h1, _⟩ := ok (i - 2) (by rw [toN_len] at hi; omega)
    unfold badForm at h1
    rw [hl, hh]; omega
  · obtain ⟨h0, h1, h3, _⟩ := ok (i - 2) (by rw [toN_len] at hi; omega)
    have hbi := hb i h2 hi
    unfold badForm at h1
    unfold badRange at h0
    unfold badNext at h3
    rw [hl]
    by_cases hk : (rat R (i - 2)).2.1.toNat < 2
    · have e : var (toN R) (rat R (i - 2)).2.1.toNat = 24 := by simp [var, hk]
      omega
    · rw [hv i h2, hv _ (by omega)]
      have e : ((rat R (i - 2)).2.1 - 2).toNat = (rat R (i - 2)).2.1.toNat - 2 := by omega
      rw [e] at h3
      omega
  · obtain ⟨h0, h1, _, h3⟩ := ok (i - 2) (by rw [toN_len] at hi; omega)
    have hbi := hb i h2 hi
    unfold badForm at h1
    unfold badRange at h0
    unfold badNext at h3
    rw [hh]
    by_cases hk : (rat R (i - 2)).2.2.toNat < 2
    · have e : var (toN R) (rat R (i - 2)).2.2.toNat = 24 := by simp [var, hk]
      omega
    · rw [hv i h2, hv _ (by omega)]
      have e : ((rat R (i - 2)).2.2 - 2).toNat = (rat R (i - 2)).2.2.toNat - 2 := by omega
      rw [e] at h3
      omega
  · rw [hback] at hn
    unfold ofN at hn
    exact (List.pairwise_map.1 hn).imp fun h e => h (by rw [e])

/-- No error: a valid diagram. -/
theorem valid_of {V : Int} {R : List Rn} {root : Int} (h : checkErr V R root = 0) : ∃ (v : Nat) (M : List Nd) (r : Nat), V = v ∧ R = ofN M ∧ root = r ∧ Valid v M r := by
  unfold checkErr at h
  split at h
  · cases h
  split at h
  · cases h
  split at h
  · rename_i h1; exact (h1 h).elim
  split at h
  · cases h
  split at h
  · cases h
  split at h
  · cases h
  rename_i h1 h2 h3 h4 h5 h6
  have he : firstErr V R R.length = 0 := Classical.byContradiction h3
  have hn : R.Nodup := Classical.byContradiction h4
  obtain ⟨g1, g2, g3⟩ := good_of ⟨by omega, by omega⟩ he hn
  exact ⟨V.toNat, toN R, root.toNat, by omega, g2, by omega, ⟨by omega, by rw [toN_len]; omega, g1, g3, by rw [toN_len]; omega, Classical.byContradiction h6⟩⟩

theorem toN_ofN (M : List Nd) : toN (ofN M) = M := by
  unfold toN ofN
  rw [List.map_map]
  exact (List.map_congr_left fun n _ => by simp).trans (List.map_id M)
theorem ofN_len (M : List Nd) : (ofN M).length = M.length := by simp [ofN]
theorem ofN_at (M : List Nd) (i : Nat) : rat (ofN M) i = (((M.getD i (0, 0, 0)).1 : Int), ((M.getD i (0, 0, 0)).2.1 : Int), ((M.getD i (0, 0, 0)).2.2 : Int)) := by
  simp only [ofN, rat, List.getD_eq_getElem?_getD, List.getElem?_map]
  cases M[i]? <;> rfl

/-- A valid diagram has no error. -/
theorem check_valid {v : Nat} {M : List Nd} {r : Nat} (H : Valid v M r) : checkErr v (ofN M) r = 0 := by
  have hne : ∀ i, i < M.length → nodeErr v (ofN M) i = 0 := fun i hi => by
    have b0 := H.bound (i + 2) (by omega) (by omega)
    have b1 := H.good.lo_lt (i + 2) (by omega) (by omega)
    have b2 := H.good.hi_lt (i + 2) (by omega) (by omega)
    have b3 := H.good.lo_var (i + 2) (by omega) (by omega)
    have b4 := H.good.hi_var (i + 2) (by omega) (by omega)
    have b5 := H.good.ne (i + 2) (by omega) (by omega)
    simp only [var, lo, Dd.hi, show ¬ i + 2 < 2 by omega, if_false, Nat.add_sub_cancel] at b0 b1 b2 b3 b4 b5
    unfold nodeErr
    simp only
    have e0 : ¬ badRange (rat (ofN M) i) v := by rw [ofN_at]; unfold badRange; simp only; omega
    have e1 : ¬ badForm (rat (ofN M) i) i := by
      rw [ofN_at]; unfold badForm
      generalize M.getD i (0, 0, 0) = n at *
      obtain ⟨x, y, z⟩ := n
      simp only at *
      omega
    have key : ∀ k : Nat, k < i + 2 → (M.getD i (0, 0, 0)).1 < (if k < 2 then 24 else (M.getD (k - 2) (0, 0, 0)).1) → ¬ badNext (ofN M) (rat (ofN M) i) k := fun k hk hlt hb => by
      unfold badNext at hb
      rw [ofN_at, ofN_at] at hb
      simp only at hb
      have e : ((k : Int) - 2).toNat = k - 2 := by omega
      rw [e] at hb
      rw [if_neg (by omega)] at hlt
      omega
    have e2 : ¬ (badNext (ofN M) (rat (ofN M) i) (rat (ofN M) i).2.1 ∨ badNext (ofN M) (rat (ofN M) i) (rat (ofN M) i).2.2) := by
      have k1 := key _ b1 b3
      have k2 := key _ b2 b4
      rw [ofN_at] at *
      rintro (h | h)
      · exact k1 h
      · exact k2 h
    rw [if_neg e0, if_neg e1, if_neg e2]
  have hf : ∀ k, k ≤ M.length → firstErr v (ofN M) k = 0 := by
    intro k
    induction k with
    | zero => intro _; rfl
    | succ k ih =>
      intro hk
      simp only [firstErr]
      rw [ih (by omega), if_neg (by simp)]
      exact hne k (by omega)
  have hnd : (ofN M).Nodup := by
    unfold ofN
    refine List.pairwise_map.2 (H.good.nodup.imp fun hne h => hne ?_)
    simp only [Prod.mk.injEq, Int.natCast_inj] at h
    exact Prod.ext h.1 (Prod.ext h.2.1 h.2.2)
  have hr := H.root
  have hv := H.vars
  have hl := H.len
  unfold checkErr
  rw [if_neg (by omega), if_neg (by rw [ofN_len]; omega), ofN_len, hf _ (Nat.le_refl _), if_neg (by simp), if_neg (by simp [hnd]), if_neg (by omega), toN_ofN, Int.toNat_natCast, H.own, if_neg (by simp)]
end Go.Proofs.Ytengdldkkmknpaa.Dd
