/- Plain theory of decision diagrams, continued: support, the first assignment, and the number of assignments. No condition. -/
import Derived.Test.YtengdldkkmknpaaLawE
set_option linter.unusedVariables false
set_option linter.unusedSimpArgs false
namespace Go.Proofs.Ytengdldkkmknpaa.Dd

/-! ### support -/
def supp (M : List Nd) : Nat := M.foldl (fun (s : Nat) (n : Nd) => s ||| 2 ^ n.1) 0
theorem supp_snoc (M : List Nd) (n : Nd) : supp (M ++ [n]) = supp M ||| 2 ^ n.1 := by simp [supp]
theorem supp_lt (M : List Nd) (h : ∀ n ∈ M, n.1 < 24) : supp M < 16777216 := by
  unfold supp
  have key : ∀ (l : List Nd) s, (∀ n ∈ l, n.1 < 24) → s < 2 ^ 24 → l.foldl (fun (s : Nat) (n : Nd) => s ||| 2 ^ n.1) s < 2 ^ 24 := by
    intro l
    induction l with
    | nil => intro s _ hs; exact hs
    | cons n l ih =>
      intro s hl hs
      simp only [List.foldl_cons]
      refine ih _ (fun m hm => hl m (by simp [hm])) (Nat.or_lt_two_pow hs ?_)
      exact Nat.pow_lt_pow_right (by omega) (hl n (by simp))
  exact key M 0 h (by decide)
theorem supp_bit (M : List Nd) (v : Nat) : (supp M).testBit v = true ↔ ∃ n ∈ M, n.1 = v := by
  unfold supp
  have key : ∀ (l : List Nd) (s : Nat), (l.foldl (fun (s : Nat) (n : Nd) => s ||| 2 ^ n.1) s).testBit v = true ↔ s.testBit v = true ∨ ∃ n ∈ l, n.1 = v := by
    intro l
    induction l with
    | nil => intro s; simp
    | cons n l ih =>
      intro s
      simp only [List.foldl_cons]
      rw [ih, Nat.testBit_or, Bool.or_eq_true, Nat.testBit_two_pow]
      simp only [decide_eq_true_eq, List.mem_cons, exists_eq_or_imp]
      rw [or_assoc]
  rw [key]
  simp

/-! ### the first assignment -/
def anyF (M : List Nd) : Nat → Nat → Nat → Nat
  | 0, _, s => s
  | f + 1, k, s => if k < 2 then s else if lo M k ≠ 0 then anyF M f (lo M k) s else anyF M f (hi M k) (s + 2 ^ var M k)
def anyP (M : List Nd) (r : Nat) : Nat := anyF M (r + 1) r 0

section
variable {M : List Nd}
theorem anyF_stable (G : Good M) : ∀ f k s, k < M.length + 2 → k < f → anyF M f k s = anyF M (k + 1) k s := by
  intro f
  induction f using Nat.strongRecOn with
  | _ f ih =>
    intro k s hk hf
    obtain ⟨f, rfl⟩ : ∃ g, f = g + 1 := ⟨f - 1, by omega⟩
    simp only [anyF]
    by_cases h2 : k < 2
    · simp [h2]
    · have a1 := G.lo_lt k (by omega) hk
      have a2 := G.hi_lt k (by omega) hk
      simp only [h2, if_false]
      by_cases hfk : f = k
      · rw [hfk]
      · rw [ih f (by omega) (lo M k) s (by omega) (by omega), ih f (by omega) (hi M k) _ (by omega) (by omega),
          ih k (by omega) (lo M k) s (by omega) (by omega), ih k (by omega) (hi M k) _ (by omega) (by omega)]
theorem anyF_end {k : Nat} (s : Nat) (h : k < 2) : anyF M (k + 1) k s = s := by simp [anyF, h]
theorem anyF_lo (G : Good M) {k : Nat} (s : Nat) (h2 : 2 ≤ k) (hk : k < M.length + 2) (hl : lo M k ≠ 0) : anyF M (k + 1) k s = anyF M (lo M k + 1) (lo M k) s := by
  have a1 := G.lo_lt k h2 hk
  conv => lhs; unfold anyF
  rw [if_neg (by omega), if_pos hl, anyF_stable G k _ s (by omega) a1]
theorem anyF_hi (G : Good M) {k : Nat} (s : Nat) (h2 : 2 ≤ k) (hk : k < M.length + 2) (hl : lo M k = 0) : anyF M (k + 1) k s = anyF M (hi M k + 1) (hi M k) (s + 2 ^ var M k) := by
  have a1 := G.hi_lt k h2 hk
  conv => lhs; unfold anyF
  rw [if_neg (by omega), if_neg (by simp [hl]), anyF_stable G k _ _ (by omega) a1]

/-! ### the number of assignments -/
def vr (V : Nat) (M : List Nd) (k : Nat) : Nat := if k < 2 then V else var M k
def cnStep (V : Nat) (M : List Nd) (s : List Nat) (n : Nd) : List Nat :=
  s ++ [s.getD n.2.1 0 * 2 ^ (vr V M n.2.1 - n.1 - 1) + s.getD n.2.2 0 * 2 ^ (vr V M n.2.2 - n.1 - 1)]
def cns (V : Nat) (M : List Nd) (k : Nat) : List Nat := (M.take k).foldl (cnStep V M) [0, 1]
def cn (V : Nat) (M : List Nd) (r : Nat) : Nat := (cns V M M.length).getD r 0 * 2 ^ vr V M r

theorem cns_len (V : Nat) (M : List Nd) : ∀ k, k ≤ M.length → (cns V M k).length = k + 2 := by
  intro k
  induction k with
  | zero => intro _; rfl
  | succ k ih =>
    intro hk
    unfold cns at *
    rw [List.take_succ_eq_append_getElem (by omega), List.foldl_append]
    simp only [List.foldl_cons, List.foldl_nil, cnStep, List.length_append, List.length_singleton]
    rw [ih (by omega)]
theorem cns_succ (V : Nat) (M : List Nd) {k : Nat} (hk : k < M.length) : cns V M (k + 1) = cnStep V M (cns V M k) M[k] := by
  unfold cns
  rw [List.take_succ_eq_append_getElem hk, List.foldl_append]
  rfl
theorem vr_le {V : Nat} (H : ∀ i, 2 ≤ i → i < M.length + 2 → var M i < V) {k : Nat} (hk : k < M.length + 2) : vr V M k ≤ V := by
  unfold vr
  by_cases h : k < 2
  · simp [h]
  · simp only [h, if_false]; exact Nat.le_of_lt (H k (by omega) hk)
theorem vr_lt {V : Nat} (H : ∀ i, 2 ≤ i → i < M.length + 2 → var M i < V) {u k : Nat} (hu : u < var M k) (huV : u < V) (hk : k < M.length + 2) : u < vr V M k := by
  unfold vr
  by_cases h : k < 2
  · simp [h, huV]
  · simp only [h, if_false]; exact hu
/-- Each count fits. -/
theorem cns_le {V : Nat} (G : Good M) (H : ∀ i, 2 ≤ i → i < M.length + 2 → var M i < V) : ∀ k, k ≤ M.length → ∀ j, j < k + 2 → (cns V M k).getD j 0 ≤ 2 ^ (V - vr V M j) := by
  intro k
  induction k with
  | zero =>
    intro _ j hj
    have : j = 0 ∨ j = 1 := by omega
    rcases this with rfl | rfl <;> simp [cns, vr]
  | succ k ih =>
    intro hk j hj
    rw [cns_succ V M (by omega)]
    have hl := cns_len V M k (by omega)
    by_cases hjk : j < k + 2
    · have e : (cnStep V M (cns V M k) M[k]).getD j 0 = (cns V M k).getD j 0 := by
        simp [cnStep, List.getD_eq_getElem?_getD, List.getElem?_append_left (show j < (cns V M k).length by omega)]
      rw [e]
      exact ih (by omega) j hjk
    · have hj' : j = k + 2 := by omega
      subst hj'
      have e : (cnStep V M (cns V M k) M[k]).getD (k + 2) 0 = (cns V M k).getD M[k].2.1 0 * 2 ^ (vr V M M[k].2.1 - M[k].1 - 1) + (cns V M k).getD M[k].2.2 0 * 2 ^ (vr V M M[k].2.2 - M[k].1 - 1) := by
        simp [cnStep, List.getD_eq_getElem?_getD, ← hl]
      have hn : M[k]? = some M[k] := List.getElem?_eq_getElem (by omega)
      have hat := node_at (N := M) (i := k + 2) (by omega) (by omega)
      rw [Nat.add_sub_cancel, hn] at hat
      have hat' : M[k] = (var M (k + 2), lo M (k + 2), hi M (k + 2)) := Option.some.inj hat
      have b0 := H (k + 2) (by omega) (by omega)
      have b1 := G.lo_lt (k + 2) (by omega) (by omega)
      have b2 := G.hi_lt (k + 2) (by omega) (by omega)
      have b3 := G.lo_var (k + 2) (by omega) (by omega)
      have b4 := G.hi_var (k + 2) (by omega) (by omega)
      rw [e, hat']
      simp only
      have c1 := vr_lt H b3 b0 (by omega)
      have c2 := vr_lt H b4 b0 (by omega)
      have c3 := vr_le H (k := lo M (k + 2)) (by omega)
      have c4 := vr_le H (k := hi M (k + 2)) (by omega)
      have i1 := ih (by omega) (lo M (k + 2)) b1
      have i2 := ih (by omega) (hi M (k + 2)) b2
      have key : ∀ x y, var M (k + 2) < y → y ≤ V → x ≤ 2 ^ (V - y) → x * 2 ^ (y - var M (k + 2) - 1) ≤ 2 ^ (V - var M (k + 2) - 1) := fun x y h1 h2 h3 => by
        refine Nat.le_trans (Nat.mul_le_mul_right _ h3) ?_
        rw [← Nat.pow_add]
        exact Nat.pow_le_pow_right (by omega) (by omega)
      have k1 := key _ _ c1 c3 i1
      have k2 := key _ _ c2 c4 i2
      have hv : vr V M (k + 2) = var M (k + 2) := by unfold vr; rw [if_neg (by omega)]
      rw [hv, show V - var M (k + 2) = (V - var M (k + 2) - 1) + 1 by omega, Nat.pow_succ]
      omega
end
end Go.Proofs.Ytengdldkkmknpaa.Dd
