/- Plain theory of decision diagrams, continued: the canonical list of a function of V variables: its variables, its length; it is a valid diagram. No condition. -/
import Derived.Test.YtengdldkkmknpaaLawG
import Derived.Test.YtengdldkkmknpaaLawF
set_option linter.unusedVariables false
set_option linter.unusedSimpArgs false
namespace Go.Proofs.Ytengdldkkmknpaa.Dd

/-- A function does not depend on variables from V on. -/
def Within (V : Nat) (f : (Nat → Bool) → Bool) : Prop := ∀ v, V ≤ v → ∀ ρ b, f (upd ρ v b) = f ρ

section
variable {N : List Nd}
theorem upd_comm (ρ : Nat → Bool) {u v : Nat} (a b : Bool) (h : u ≠ v) : upd (upd ρ u a) v b = upd (upd ρ v b) u a := by
  funext x
  unfold upd
  by_cases h1 : x = v
  · subst h1; simp [Ne.symm h]
  · by_cases h2 : x = u
    · subst h2; simp [h]
    · simp [h1, h2]

theorem within_var (G : Good N) {V i : Nat} (h2 : 2 ≤ i) (hi : i < N.length + 2) (hw : Within V (den N i)) : var N i < V := by
  by_cases h : var N i < V
  · exact h
  · exfalso
    have a1 := G.lo_lt i h2 hi
    have a2 := G.hi_lt i h2 hi
    refine G.ne i h2 hi (inj G (by omega) (by omega) fun ρ => ?_)
    rw [← cof_lo G h2 hi, ← cof_hi G h2 hi, hw _ (by omega), hw _ (by omega)]
theorem within_lo (G : Good N) {V i : Nat} (h2 : 2 ≤ i) (hi : i < N.length + 2) (hw : Within V (den N i)) : Within V (den N (lo N i)) := by
  intro v hv ρ b
  have hlt := within_var G h2 hi hw
  rw [← cof_lo G h2 hi, ← cof_lo G h2 hi, upd_comm ρ b false (by omega : v ≠ var N i), hw v hv]
theorem within_hi (G : Good N) {V i : Nat} (h2 : 2 ≤ i) (hi : i < N.length + 2) (hw : Within V (den N i)) : Within V (den N (Dd.hi N i)) := by
  intro v hv ρ b
  have hlt := within_var G h2 hi hw
  rw [← cof_hi G h2 hi, ← cof_hi G h2 hi, upd_comm ρ b true (by omega : v ≠ var N i), hw v hv]

theorem vr_within (G : Good N) {V i : Nat} (hi : i < N.length + 2) (hw : Within V (den N i)) : vr V N i ≤ V := by
  unfold vr
  by_cases h : i < 2
  · simp [h]
  · simp only [h, if_false]; exact Nat.le_of_lt (within_var G (by omega) hi hw)

theorem visit_within (G : Good N) (V : Nat) : ∀ f i s, i < f → i < N.length + 2 → Within V (den N i) → s.2 0 = some 0 → s.2 1 = some 1 → (∀ n ∈ s.1, n.1 < V) →
    (∀ n ∈ (visit N f i s).2.1, n.1 < V) ∧ (visit N f i s).2.1.length + 1 ≤ s.1.length + 2 ^ (V - vr V N i) ∧ (visit N f i s).2.2 0 = some 0 ∧ (visit N f i s).2.2 1 = some 1 := by
  intro f
  induction f with
  | zero => intro i s h; omega
  | succ f ih =>
    intro i s hif hil hw z0 z1 hs
    have hpos : 1 ≤ 2 ^ (V - vr V N i) := Nat.one_le_two_pow
    cases hsi : s.2 i with
    | some k =>
      simp only [visit, hsi]
      exact ⟨hs, by omega, z0, z1⟩
    | none =>
      have h2 : 2 ≤ i := by
        by_cases h : i = 0
        · subst h; rw [z0] at hsi; cases hsi
        · by_cases h' : i = 1
          · subst h'; rw [z1] at hsi; cases hsi
          · omega
      have a1 := G.lo_lt i h2 hil
      have a2 := G.hi_lt i h2 hil
      have b1 := G.lo_var i h2 hil
      have b2 := G.hi_var i h2 hil
      have hv := within_var G h2 hil hw
      have wl := within_lo G h2 hil hw
      have wh := within_hi G h2 hil hw
      obtain ⟨p1, p2, p3, p4⟩ := ih (lo N i) s (by omega) (by omega) wl z0 z1 hs
      obtain ⟨q1, q2, q3, q4⟩ := ih (Dd.hi N i) (visit N f (lo N i) s).2 (by omega) (by omega) wh p3 p4 p1
      have v1 := vr_within G (by omega) wl
      have v2 := vr_within G (by omega) wh
      have c1 : var N i < vr V N (lo N i) := by
        unfold vr; by_cases h : lo N i < 2
        · simp [h, hv]
        · simp only [h, if_false]; exact b1
      have c2 : var N i < vr V N (Dd.hi N i) := by
        unfold vr; by_cases h : Dd.hi N i < 2
        · simp [h, hv]
        · simp only [h, if_false]; exact b2
      have hvr : vr V N i = var N i := by unfold vr; rw [if_neg (by omega)]
      have e1 : 2 ^ (V - vr V N (lo N i)) ≤ 2 ^ (V - var N i - 1) := Nat.pow_le_pow_right (by omega) (by omega)
      have e2 : 2 ^ (V - vr V N (Dd.hi N i)) ≤ 2 ^ (V - var N i - 1) := Nat.pow_le_pow_right (by omega) (by omega)
      have e3 : 2 ^ (V - var N i) = 2 * 2 ^ (V - var N i - 1) := by rw [show V - var N i = (V - var N i - 1) + 1 by omega, Nat.pow_succ]; simp; omega
      simp only [visit, hsi]
      refine ⟨fun n hn => ?_, ?_, ?_, ?_⟩
      · rcases List.mem_append.1 hn with h | h
        · exact q1 n h
        · have : n = _ := List.mem_singleton.1 h
          rw [this]; exact hv
      · rw [hvr, List.length_append, List.length_singleton]; omega
      · simp only [show (0 : Nat) ≠ i by omega, if_false]; exact q3
      · simp only [show (1 : Nat) ≠ i by omega, if_false]; exact q4

theorem canon_within (G : Good N) {V i : Nat} (hi : i < N.length + 2) (hw : Within V (den N i)) : (∀ n ∈ (canon N i).2, n.1 < V) ∧ (canon N i).2.length + 1 ≤ 2 ^ V := by
  obtain ⟨h1, h2, _, _⟩ := visit_within G V (i + 1) i start (by omega) hi hw rfl rfl (by simp [start])
  refine ⟨h1, ?_⟩
  have : 2 ^ (V - vr V N i) ≤ 2 ^ V := Nat.pow_le_pow_right (by omega) (by omega)
  have e : start.1.length = 0 := rfl
  rw [e] at h2
  unfold canon
  simp only
  omega

theorem valid_canon (G : Good N) {V i : Nat} (hV : V ≤ 24) (hi : i < N.length + 2) (hw : Within V (den N i)) (hl : (canon N i).2.length ≤ 4096) : Valid V (canon N i).2 (canon N i).1 := by
  obtain ⟨g1, g2, g3, g4⟩ := canon_good G hi
  refine ⟨hV, hl, g1, fun j h2 hj => ?_, g2, g4⟩
  have hat := node_at h2 hj
  have := (canon_within G hi hw).1 _ (List.mem_of_getElem? hat)
  exact this
theorem canon_short (G : Good N) {V i : Nat} (hV : V ≤ 12) (hi : i < N.length + 2) (hw : Within V (den N i)) : (canon N i).2.length ≤ 4096 := by
  have h1 := (canon_within G hi hw).2
  have h2 : 2 ^ V ≤ 2 ^ 12 := Nat.pow_le_pow_right (by omega) hV
  omega
theorem canon_den (G : Good N) {i : Nat} (hi : i < N.length + 2) : den (canon N i).2 (canon N i).1 = den N i := funext (canon_good G hi).2.2.1

theorem valid_within {V : Nat} {M : List Nd} {r : Nat} (H : Valid V M r) : ∀ i, i < M.length + 2 → Within V (den M i) := by
  intro i
  induction i using Nat.strongRecOn with
  | _ i ih =>
    intro hi v hv ρ b
    by_cases h2 : 2 ≤ i
    · have a1 := H.good.lo_lt i h2 hi
      have a2 := H.good.hi_lt i h2 hi
      have a3 := H.bound i h2 hi
      rw [den_node H.good h2 hi, den_node H.good h2 hi, upd_ne ρ b (by omega : var M i ≠ v), ih _ a1 (by omega) v hv, ih _ a2 (by omega) v hv]
    · have : i = 0 ∨ i = 1 := by omega
      rcases this with rfl | rfl <;> rfl

/-- Valid diagrams of one function are equal. -/
theorem valid_eq {V : Nat} {M M' : List Nd} {r r' : Nat} (H : Valid V M r) (H' : Valid V M' r') (hd : ∀ ρ, den M r ρ = den M' r' ρ) : r = r' ∧ M = M' := by
  have h := canon_eq H.good H'.good H.root H'.root hd
  rw [H.own, H'.own] at h
  exact ⟨congrArg Prod.fst h, congrArg Prod.snd h⟩
end

/-! ### functions that stay within V variables -/
section
variable {V : Nat} {f g h : (Nat → Bool) → Bool}
theorem Within.const (V : Nat) (b : Bool) : Within V (fun _ => b) := fun _ _ _ _ => rfl
theorem Within.proj {V i : Nat} (hi : i < V) : Within V (fun ρ => ρ i) := fun v hv ρ b => upd_ne ρ b (by omega)
theorem Within.ite (hf : Within V f) (hg : Within V g) (hh : Within V h) : Within V (fun ρ => if f ρ then g ρ else h ρ) := fun v hv ρ b => by simp only [hf v hv, hg v hv, hh v hv]
theorem Within.rf {i : Nat} {t : Bool} (hf : Within V f) : Within V (Dd.rf i t f) := fun v hv ρ b => by
  unfold Dd.rf
  by_cases e : v = i
  · subst e
    congr 1
    funext x
    unfold upd
    by_cases hx : x = v <;> simp [hx]
  · rw [upd_comm ρ b t e, hf v hv]
theorem Within.congr (hf : Within V f) (h : ∀ ρ, g ρ = f ρ) : Within V g := fun v hv ρ b => by rw [h, h, hf v hv]
theorem Within.qf {any : Bool} {S : Nat → Bool} (hf : Within V f) : Within V (Dd.qf any S f) := fun v hv ρ b => by
  have key : ∀ (ρ : Nat → Bool) (b : Bool) (σ : Nat → Bool), (∀ x, S x = false → σ x = ρ x) → ∃ τ, (∀ x, S x = false → τ x = upd ρ v b x) ∧ f τ = f σ := fun ρ b σ hσ => by
    by_cases hS : S v = false
    · refine ⟨upd σ v b, fun x hx => ?_, hf v hv σ b⟩
      unfold upd
      by_cases hxv : x = v
      · simp [hxv]
      · simp [hxv, hσ x hx]
    · refine ⟨σ, fun x hx => ?_, rfl⟩
      have : x ≠ v := by rintro rfl; exact hS hx
      rw [upd_ne ρ b this]; exact hσ x hx
  have back : upd (upd ρ v b) v (ρ v) = ρ := by funext x; unfold upd; by_cases hx : x = v <;> simp [hx]
  unfold Dd.qf
  cases any
  · simp only [Bool.false_eq_true, if_false]
    congr 1
    refine propext ⟨fun h σ hσ => ?_, fun h σ hσ => ?_⟩
    · obtain ⟨τ, h1, h2⟩ := key ρ b σ hσ; rw [← h2]; exact h τ h1
    · obtain ⟨τ, h1, h2⟩ := key (upd ρ v b) (ρ v) σ hσ; rw [back] at h1; rw [← h2]; exact h τ h1
  · simp only [if_true]
    congr 1
    refine propext ⟨fun ⟨σ, hσ, h⟩ => ?_, fun ⟨σ, hσ, h⟩ => ?_⟩
    · obtain ⟨τ, h1, h2⟩ := key (upd ρ v b) (ρ v) σ hσ; rw [back] at h1; exact ⟨τ, h1, h2 ▸ h⟩
    · obtain ⟨τ, h1, h2⟩ := key ρ b σ hσ; exact ⟨τ, h1, h2 ▸ h⟩
end
end Go.Proofs.Ytengdldkkmknpaa.Dd
