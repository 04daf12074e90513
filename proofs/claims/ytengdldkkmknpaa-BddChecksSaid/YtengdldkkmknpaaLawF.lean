/- Plain theory of decision diagrams, continued: a transformation that is pushed down through the nodes with a memory of results; restricting and quantifying. No condition. -/
import Derived.Test.YtengdldkkmknpaaLawC
set_option linter.unusedVariables false
set_option linter.unusedSimpArgs false
namespace Go.Proofs.Ytengdldkkmknpaa.Dd

abbrev BFn := (Nat → Bool) → Bool

/-- What is remembered: the number of i's transform. -/
def PMemo (Φ : BFn → BFn) (N : List Nd) (M : Nat → Option Nat) : Prop :=
  ∀ i r, M i = some r → i < N.length + 2 ∧ r < N.length + 2 ∧ (∀ ρ, den N r ρ = Φ (den N i) ρ) ∧ var N i ≤ var N r

structure PhRel (Φ : BFn → BFn) (N : List Nd) (i r : Nat) (N' : List Nd) (G' : Nd → Option Nat) (M' : Nat → Option Nat) : Prop where
  pre : N <+: N'
  good : Good N'
  memo : MemoOk N' G'
  pm : PMemo Φ N' M'
  lt : r < N'.length + 2
  den : ∀ ρ, den N' r ρ = Φ (den N i) ρ
  var : var N i ≤ var N' r
  len : N'.length + 1 ≤ N.length + (25 - Dd.var N i) * 2 ^ (24 - Dd.var N i)

section
variable {Φ : BFn → BFn} {N N1 N2 N3 : List Nd} {M M1 M2 : Nat → Option Nat} {G G1 G2 : Nd → Option Nat}

theorem den_pre' (A : Good N) (B : Good N1) (hp : N <+: N1) {i : Nat} (hl : i < N.length + 2) : den N1 i = den N i := funext fun ρ => den_pre A B hp hl ρ

theorem PMemo.pre (h : PMemo Φ N M) (A : Good N) (B : Good N1) (hp : N <+: N1) : PMemo Φ N1 M := by
  intro i r hm
  obtain ⟨h1, h2, h3, h4⟩ := h i r hm
  have := len_pre hp
  refine ⟨by omega, by omega, fun ρ => ?_, ?_⟩
  · rw [den_pre A B hp h2, den_pre' A B hp h1, h3]
  · rw [var_pre hp h1, var_pre hp h2]; exact h4
theorem PMemo.none (Φ : BFn → BFn) (N : List Nd) : PMemo Φ N (fun _ => none) := by intro i r h; cases h

theorem pow_pos (N : List Nd) (A : Good N) {i : Nat} (hi : i < N.length + 2) : 1 ≤ (25 - var N i) * 2 ^ (24 - var N i) := by
  have h1 := var_le A hi
  have h2 := Nat.two_pow_pos (24 - var N i)
  exact Nat.mul_pos (by omega) h2

theorem ph_ret (A : Good N) (B : MemoOk N G) (C : PMemo Φ N M) {i r : Nat} (hi : i < N.length + 2) (hr : r < N.length + 2) (hd : ∀ ρ, den N r ρ = Φ (den N i) ρ) (hv : var N i ≤ var N r) : PhRel Φ N i r N G M :=
  ⟨List.prefix_refl _, A, B, C, hr, hd, hv, by have := pow_pos N A hi; omega⟩
theorem ph_hit (A : Good N) (B : MemoOk N G) (C : PMemo Φ N M) {i r : Nat} (h : M i = some r) : PhRel Φ N i r N G M := by
  obtain ⟨h1, h2, h3, h4⟩ := C i r h
  exact ph_ret A B C h1 h2 h3 h4

theorem pow_two (v : Nat) (hv : v < 24) (x y : Nat) (hx : v < x) (hy : v < y) (hx2 : x ≤ 24) (hy2 : y ≤ 24) : (25 - x) * 2 ^ (24 - x) + (25 - y) * 2 ^ (24 - y) + 2 ^ (24 - v) ≤ (25 - v) * 2 ^ (24 - v) := by
  have h1 : 2 ^ (24 - x) ≤ 2 ^ (23 - v) := Nat.pow_le_pow_right (by omega) (by omega)
  have h2 : 2 ^ (24 - y) ≤ 2 ^ (23 - v) := Nat.pow_le_pow_right (by omega) (by omega)
  have q : 2 ^ (24 - v) = 2 * 2 ^ (23 - v) := by rw [show 24 - v = (23 - v) + 1 by omega, Nat.pow_succ]; omega
  have k1 : (25 - x) * 2 ^ (24 - x) ≤ (24 - v) * 2 ^ (23 - v) := Nat.mul_le_mul (by omega) h1
  have k2 : (25 - y) * 2 ^ (24 - y) ≤ (24 - v) * 2 ^ (23 - v) := Nat.mul_le_mul (by omega) h2
  have e : (25 - v) * 2 ^ (24 - v) = (24 - v) * 2 ^ (24 - v) + 2 ^ (24 - v) := by
    rw [show 25 - v = (24 - v) + 1 by omega, Nat.add_mul, Nat.one_mul]
  have e2 : (24 - v) * 2 ^ (24 - v) = (24 - v) * 2 ^ (23 - v) + (24 - v) * 2 ^ (23 - v) := by
    rw [q, ← Nat.mul_assoc, Nat.mul_comm (24 - v) 2, Nat.mul_assoc]; omega
  omega

/-- Two numbers are done and joined: the third step of a visit. -/
theorem ph_join {i r1 r2 r : Nat} (A : Good N) (h2 : 2 ≤ i) (hi : i < N.length + 2) (P1 : PhRel Φ N (lo N i) r1 N1 G1 M1) (P2 : PhRel Φ N1 (Dd.hi N i) r2 N2 G2 M2) {G3 : Nd → Option Nat} (p : N2 <+: N3) (g : Good N3) (m : MemoOk N3 G3)
    (hr : r < N3.length + 2) (hd : ∀ ρ, den N3 r ρ = Φ (den N i) ρ) (hv : var N i ≤ var N3 r) (hl : N3.length + 1 ≤ N2.length + 2 ^ (24 - var N i) + 1) :
    PhRel Φ N i r N3 G3 (fun y => if y = i then some r else M2 y) := by
  have a1 := A.lo_lt i h2 hi
  have a2 := A.hi_lt i h2 hi
  have b1 := A.lo_var i h2 hi
  have b2 := A.hi_var i h2 hi
  have b0 := A.bound i h2 hi
  have hp : N <+: N3 := (P1.pre.trans P2.pre).trans p
  have hll := len_pre hp
  refine ⟨hp, g, m, fun x y hxy => ?_, hr, hd, hv, ?_⟩
  · by_cases hx : x = i
    · subst hx
      simp only [if_true, Option.some.injEq] at hxy
      subst hxy
      exact ⟨by omega, hr, fun ρ => by rw [hd, den_pre' A g hp hi], by rw [var_pre hp hi]; exact hv⟩
    · simp only [hx, if_false] at hxy
      exact (P2.pm.pre P2.good g p) x y hxy
  · have l1 := P1.len
    have l2 := P2.len
    rw [var_pre P1.pre (by omega)] at l2
    have := pow_two (var N i) b0 (var N (lo N i)) (var N (Dd.hi N i)) b1 b2 (var_le A (by omega)) (var_le A (by omega))
    omega

theorem ph_node {i r1 r2 : Nat} (A : Good N) (h2 : 2 ≤ i) (hi : i < N.length + 2) (P1 : PhRel Φ N (lo N i) r1 N1 G1 M1) (P2 : PhRel Φ N1 (Dd.hi N i) r2 N2 G2 M2)
    (hΦ : ∀ ρ, (if ρ (var N i) then Φ (den N (Dd.hi N i)) ρ else Φ (den N (lo N i)) ρ) = Φ (den N i) ρ) :
    PhRel Φ N i (mk N2 (var N i) r1 r2).1 (mk N2 (var N i) r1 r2).2 G2 (fun y => if y = i then some (mk N2 (var N i) r1 r2).1 else M2 y) := by
  have a1 := A.lo_lt i h2 hi
  have a2 := A.hi_lt i h2 hi
  have b1 := A.lo_var i h2 hi
  have b2 := A.hi_var i h2 hi
  have b0 := A.bound i h2 hi
  have l1 := len_pre P1.pre
  have l2 := len_pre P2.pre
  have hr1 : r1 < N2.length + 2 := by have := P1.lt; omega
  have w1 : var N i < var N2 r1 := by rw [var_pre P2.pre P1.lt]; have := P1.var; omega
  have w2 : var N i < var N2 r2 := by have := P2.var; rw [var_pre P1.pre (by omega)] at this; omega
  obtain ⟨m1, m2, m3, m4, m5, m6⟩ := mk_spec P2.good b0 hr1 P2.lt w1 w2
  refine ph_join A h2 hi P1 P2 m1 m2 (P2.memo.pre P2.good m2 m1) m3 (fun ρ => ?_) m5 (by have := Nat.two_pow_pos (24 - var N i); omega)
  rw [m4, P2.den, den_pre' A P1.good P1.pre (by omega), den_pre P1.good P2.good P2.pre P1.lt, P1.den, hΦ]

theorem ph_ite {i r1 r2 r a b c : Nat} {G3 : Nd → Option Nat} (A : Good N) (h2 : 2 ≤ i) (hi : i < N.length + 2) (P1 : PhRel Φ N (lo N i) r1 N1 G1 M1) (P2 : PhRel Φ N1 (Dd.hi N i) r2 N2 G2 M2) (I : IteRel N2 a b c r N3 G3)
    (hmin : var N i ≤ min (var N2 a) (min (var N2 b) (var N2 c))) (hΦ : ∀ ρ, (if den N2 a ρ then den N2 b ρ else den N2 c ρ) = Φ (den N i) ρ) :
    PhRel Φ N i r N3 G3 (fun y => if y = i then some r else M2 y) := by
  have b0 := A.bound i h2 hi
  refine ph_join A h2 hi P1 P2 I.pre I.good I.memo I.lt (fun ρ => by rw [I.den, hΦ]) (by have := I.var; omega) ?_
  have := I.len
  have : 2 ^ (24 - min (Dd.var N2 a) (min (Dd.var N2 b) (Dd.var N2 c))) ≤ 2 ^ (24 - var N i) := Nat.pow_le_pow_right (by omega) (by omega)
  omega
end

/-! ### restricting -/
def rf (v : Nat) (t : Bool) : BFn → BFn := fun φ ρ => φ (upd ρ v t)

theorem rf_node {N : List Nd} (A : Good N) {i v : Nat} {t : Bool} (h2 : 2 ≤ i) (hi : i < N.length + 2) (hv : var N i ≠ v) (ρ : Nat → Bool) :
    (if ρ (var N i) then rf v t (den N (Dd.hi N i)) ρ else rf v t (den N (lo N i)) ρ) = rf v t (den N i) ρ := by
  unfold rf
  rw [den_node A h2 hi (upd ρ v t), upd_ne ρ t hv]

theorem rf_past {N : List Nd} (A : Good N) {i v : Nat} (t : Bool) (hi : i < N.length + 2) (hv : v < var N i) (ρ : Nat → Bool) : den N i ρ = rf v t (den N i) ρ := (indep A i hi v hv ρ t).symm

/-! ### quantifying -/
open Classical in
/-- For a set S of variables: any: there are values of S with which φ is true; else: φ is true with all values. -/
noncomputable def qf (any : Bool) (S : Nat → Bool) : BFn → BFn := fun φ ρ =>
  if any then decide (∃ σ, (∀ x, S x = false → σ x = ρ x) ∧ φ σ = true) else decide (∀ σ, (∀ x, S x = false → σ x = ρ x) → φ σ = true)

theorem qf_const (any : Bool) (S : Nat → Bool) (b : Bool) (ρ : Nat → Bool) : qf any S (fun _ => b) ρ = b := by
  unfold qf
  cases any
  · cases b
    · simp; exact ⟨ρ, fun _ _ => rfl⟩
    · simp
  · cases b
    · simp
    · simp; exact ⟨ρ, fun _ _ => rfl⟩

theorem qf_out (any : Bool) (S : Nat → Bool) (v : Nat) (hS : S v = false) (φ0 φ1 : BFn) (ρ : Nat → Bool) :
    qf any S (fun σ => if σ v then φ1 σ else φ0 σ) ρ = if ρ v then qf any S φ1 ρ else qf any S φ0 ρ := by
  have key : ∀ σ : Nat → Bool, (∀ x, S x = false → σ x = ρ x) → σ v = ρ v := fun σ h => h v hS
  unfold qf
  cases any
  · cases hρ : ρ v
    · simp only [if_false, Bool.false_eq_true]
      congr 1
      refine propext ⟨fun h σ hσ => ?_, fun h σ hσ => ?_⟩
      · have := h σ hσ; rw [key σ hσ, hρ] at this; simpa using this
      · rw [key σ hσ, hρ]; simpa using h σ hσ
    · simp only [if_true, if_false, Bool.false_eq_true]
      congr 1
      refine propext ⟨fun h σ hσ => ?_, fun h σ hσ => ?_⟩
      · have := h σ hσ; rw [key σ hσ, hρ] at this; simpa using this
      · rw [key σ hσ, hρ]; simpa using h σ hσ
  · cases hρ : ρ v
    · simp only [if_true, if_false, Bool.false_eq_true]
      congr 1
      refine propext ⟨fun ⟨σ, hσ, h⟩ => ⟨σ, hσ, ?_⟩, fun ⟨σ, hσ, h⟩ => ⟨σ, hσ, ?_⟩⟩
      · rw [key σ hσ, hρ] at h; simpa using h
      · rw [key σ hσ, hρ]; simpa using h
    · simp only [if_true]
      congr 1
      refine propext ⟨fun ⟨σ, hσ, h⟩ => ⟨σ, hσ, ?_⟩, fun ⟨σ, hσ, h⟩ => ⟨σ, hσ, ?_⟩⟩
      · rw [key σ hσ, hρ] at h; simpa using h
      · rw [key σ hσ, hρ]; simpa using h

open Classical in
theorem qf_in (any : Bool) (S : Nat → Bool) (v : Nat) (hS : S v = true) (φ0 φ1 : BFn) (h0 : ∀ ρ b, φ0 (upd ρ v b) = φ0 ρ) (h1 : ∀ ρ b, φ1 (upd ρ v b) = φ1 ρ) (ρ : Nat → Bool) :
    qf any S (fun σ => if σ v then φ1 σ else φ0 σ) ρ = if any then qf any S φ0 ρ || qf any S φ1 ρ else qf any S φ0 ρ && qf any S φ1 ρ := by
  have ups : ∀ (σ : Nat → Bool) b, (∀ x, S x = false → σ x = ρ x) → ∀ x, S x = false → upd σ v b x = ρ x := fun σ b h x hx => by
    have : x ≠ v := by rintro rfl; rw [hS] at hx; cases hx
    rw [upd_ne σ b this]; exact h x hx
  have sv : ∀ (σ : Nat → Bool) b, upd σ v b v = b := fun σ b => by simp [upd]
  unfold qf
  cases any
  · simp only [if_false, Bool.false_eq_true]
    rw [← Bool.decide_and]
    congr 1
    refine propext ⟨fun h => ⟨fun σ hσ => ?_, fun σ hσ => ?_⟩, fun ⟨k0, k1⟩ σ hσ => ?_⟩
    · have := h (upd σ v false) (ups σ _ hσ); rw [sv, h0] at this; simpa using this
    · have := h (upd σ v true) (ups σ _ hσ); rw [sv, h1] at this; simpa using this
    · cases σ v
      · simpa using k0 σ hσ
      · simpa using k1 σ hσ
  · simp only [if_true]
    rw [← Bool.decide_or]
    congr 1
    refine propext ⟨fun ⟨σ, hσ, h⟩ => ?_, fun h => ?_⟩
    · cases hv : σ v
      · rw [hv] at h; exact .inl ⟨σ, hσ, by simpa using h⟩
      · rw [hv] at h; exact .inr ⟨σ, hσ, by simpa using h⟩
    · rcases h with ⟨σ, hσ, h⟩ | ⟨σ, hσ, h⟩
      · exact ⟨upd σ v false, ups σ _ hσ, by rw [sv, h0]; simpa using h⟩
      · exact ⟨upd σ v true, ups σ _ hσ, by rw [sv, h1]; simpa using h⟩

theorem den_split {N : List Nd} (A : Good N) {i : Nat} (h2 : 2 ≤ i) (hi : i < N.length + 2) : den N i = fun σ => if σ (var N i) then den N (Dd.hi N i) σ else den N (lo N i) σ := funext fun σ => den_node A h2 hi σ

theorem qf_node_out {N : List Nd} (A : Good N) {i : Nat} (any : Bool) (S : Nat → Bool) (h2 : 2 ≤ i) (hi : i < N.length + 2) (hS : S (var N i) = false) (ρ : Nat → Bool) :
    (if ρ (var N i) then qf any S (den N (Dd.hi N i)) ρ else qf any S (den N (lo N i)) ρ) = qf any S (den N i) ρ := by
  rw [den_split A h2 hi, qf_out any S _ hS]
theorem qf_node_in {N : List Nd} (A : Good N) {i : Nat} (any : Bool) (S : Nat → Bool) (h2 : 2 ≤ i) (hi : i < N.length + 2) (hS : S (var N i) = true) (ρ : Nat → Bool) :
    qf any S (den N i) ρ = if any then qf any S (den N (lo N i)) ρ || qf any S (den N (Dd.hi N i)) ρ else qf any S (den N (lo N i)) ρ && qf any S (den N (Dd.hi N i)) ρ := by
  have a1 := A.lo_lt i h2 hi
  have a2 := A.hi_lt i h2 hi
  rw [den_split A h2 hi, qf_in any S _ hS]
  · exact fun ρ b => indep A _ (by omega) _ (A.lo_var i h2 hi) ρ b
  · exact fun ρ b => indep A _ (by omega) _ (A.hi_var i h2 hi) ρ b
end Go.Proofs.Ytengdldkkmknpaa.Dd
