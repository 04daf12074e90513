/- Plain theory of decision diagrams, continued: what is counted, and the first assignment. No condition. -/
import Derived.Test.YtengdldkkmknpaaLawH
set_option linter.unusedVariables false
set_option linter.unusedSimpArgs false
namespace Go.Proofs.Ytengdldkkmknpaa.Dd

/-! ### the number of assignments -/
def cnt : Nat → BFn → Nat
  | 0, f => if f (fun _ => false) then 1 else 0
  | V + 1, f => cnt V (rf V false f) + cnt V (rf V true f)

theorem cnt_congr {f g : BFn} : ∀ V, (∀ ρ, (∀ v, V ≤ v → ρ v = false) → f ρ = g ρ) → cnt V f = cnt V g := by
  intro V
  induction V generalizing f g with
  | zero => intro h; simp only [cnt]; rw [h _ (fun _ _ => rfl)]
  | succ V ih =>
    intro h
    simp only [cnt]
    have key : ∀ b, cnt V (rf V b f) = cnt V (rf V b g) := fun b => ih fun ρ hρ => by
      unfold rf
      refine h _ fun v hv => ?_
      rw [upd_ne ρ b (by omega)]
      exact hρ v (by omega)
    rw [key, key]

theorem rf_rf_comm {u v : Nat} (a b : Bool) (f : BFn) (h : u ≠ v) : rf u a (rf v b f) = rf v b (rf u a f) := by
  funext ρ
  unfold rf
  rw [upd_comm ρ a b h]

theorem cnt_half : ∀ V v, v < V → ∀ g0 g1 : BFn, (∀ b, rf v b g0 = g0) → (∀ b, rf v b g1 = g1) → 2 * cnt V (fun ρ => if ρ v then g1 ρ else g0 ρ) = cnt V g0 + cnt V g1 := by
  intro V
  induction V with
  | zero => intro v h; omega
  | succ V ih =>
    intro v hv g0 g1 h0 h1
    simp only [cnt]
    by_cases hvV : v = V
    · subst hvV
      have e0 : rf v false (fun ρ => if ρ v then g1 ρ else g0 ρ) = g0 := by
        refine Eq.trans ?_ (h0 false)
        funext ρ
        simp [rf, upd]
      have e1 : rf v true (fun ρ => if ρ v then g1 ρ else g0 ρ) = g1 := by
        refine Eq.trans ?_ (h1 true)
        funext ρ
        simp [rf, upd]
      rw [e0, e1, h0, h0, h1, h1]
      omega
    · have key : ∀ b, rf V b (fun ρ => if ρ v then g1 ρ else g0 ρ) = fun ρ => if ρ v then rf V b g1 ρ else rf V b g0 ρ := fun b => by
        funext ρ
        simp only [rf]
        rw [upd_ne ρ b hvV]
      rw [key, key]
      have i1 := ih v (by omega) (rf V false g0) (rf V false g1) (fun b => by rw [rf_rf_comm _ _ _ hvV, h0]) (fun b => by rw [rf_rf_comm _ _ _ hvV, h1])
      have i2 := ih v (by omega) (rf V true g0) (rf V true g1) (fun b => by rw [rf_rf_comm _ _ _ hvV, h0]) (fun b => by rw [rf_rf_comm _ _ _ hvV, h1])
      omega

theorem cnt_false : ∀ V, cnt V (fun _ => false) = 0 := by
  intro V
  induction V with
  | zero => rfl
  | succ V ih => simp only [cnt]; have : ∀ b, rf V b (fun _ => false) = fun _ => false := fun b => rfl; rw [this, this, ih]
theorem cnt_true : ∀ V, cnt V (fun _ => true) = 2 ^ V := by
  intro V
  induction V with
  | zero => rfl
  | succ V ih => simp only [cnt]; have : ∀ b, rf V b (fun _ => true) = fun _ => true := fun b => rfl; rw [this, this, ih, Nat.pow_succ]; omega

theorem cns_pre {V : Nat} {M : List Nd} {k m j : Nat} (hkm : k ≤ m) (hm : m ≤ M.length) (hj : j < k + 2) : (cns V M m).getD j 0 = (cns V M k).getD j 0 := by
  induction m with
  | zero => have : k = 0 := by omega
            rw [this]
  | succ m ih =>
    by_cases h : k = m + 1
    · rw [h]
    · rw [← ih (by omega) (by omega), cns_succ V M (by omega)]
      have hl := cns_len V M m (by omega)
      simp [cnStep, List.getD_eq_getElem?_getD, List.getElem?_append_left (show j < (cns V M m).length by omega)]

/-- Count counts. -/
theorem cn_cnt {V : Nat} {M : List Nd} {r : Nat} (H : Valid V M r) : ∀ k, k < M.length + 2 → (cns V M M.length).getD k 0 * 2 ^ vr V M k = cnt V (den M k) := by
  intro k
  induction k using Nat.strongRecOn with
  | _ k ih =>
    intro hk
    by_cases h2 : 2 ≤ k
    · have a1 := H.good.lo_lt k h2 hk
      have a2 := H.good.hi_lt k h2 hk
      have b0 := H.bound k h2 hk
      have b1 := vr_lt H.bound (H.good.lo_var k h2 hk) b0 (by omega)
      have b2 := vr_lt H.bound (H.good.hi_var k h2 hk) b0 (by omega)
      have i1 := ih _ a1 (by omega)
      have i2 := ih _ a2 (by omega)
      have hh := cnt_half V (var M k) b0 (den M (lo M k)) (den M (Dd.hi M k)) (fun b => funext fun ρ => indep H.good _ (by omega) _ (H.good.lo_var k h2 hk) ρ b) (fun b => funext fun ρ => indep H.good _ (by omega) _ (H.good.hi_var k h2 hk) ρ b)
      rw [← den_split H.good h2 hk] at hh
      have hv : vr V M k = var M k := by unfold vr; rw [if_neg (by omega)]
      obtain ⟨j, rfl⟩ : ∃ j, k = j + 2 := ⟨k - 2, by omega⟩
      have hn : M[j]? = some M[j] := List.getElem?_eq_getElem (by omega)
      have hat := node_at (N := M) (i := j + 2) (by omega) (by omega)
      rw [Nat.add_sub_cancel, hn] at hat
      have hat' : M[j] = (var M (j + 2), lo M (j + 2), Dd.hi M (j + 2)) := Option.some.inj hat
      have hl := cns_len V M j (by omega)
      have e : (cns V M M.length).getD (j + 2) 0 = (cns V M M.length).getD (lo M (j + 2)) 0 * 2 ^ (vr V M (lo M (j + 2)) - var M (j + 2) - 1) + (cns V M M.length).getD (Dd.hi M (j + 2)) 0 * 2 ^ (vr V M (Dd.hi M (j + 2)) - var M (j + 2) - 1) := by
        rw [cns_pre (k := j + 1) (by omega) (Nat.le_refl _) (by omega), cns_pre (k := j) (by omega) (Nat.le_refl _) a1, cns_pre (k := j) (by omega) (Nat.le_refl _) a2, cns_succ V M (by omega), hat']
        simp [cnStep, List.getD_eq_getElem?_getD, ← hl]
      rw [e, hv]
      have key : ∀ x y : Nat, var M (j + 2) < y → x * 2 ^ (y - var M (j + 2) - 1) * 2 ^ var M (j + 2) * 2 = x * 2 ^ y := fun x y h => by
        rw [Nat.mul_assoc, Nat.mul_assoc, ← Nat.pow_succ, ← Nat.pow_add]
        congr 2
        omega
      have k1 := key ((cns V M M.length).getD (lo M (j + 2)) 0) _ b1
      have k2 := key ((cns V M M.length).getD (Dd.hi M (j + 2)) 0) _ b2
      rw [i1] at k1
      rw [i2] at k2
      rw [Nat.add_mul]
      omega
    · have : k = 0 ∨ k = 1 := by omega
      rcases this with rfl | rfl
      · rw [cns_pre (k := 0) (by omega) (Nat.le_refl _) (by omega)]
        show 0 * _ = _
        rw [Nat.zero_mul]
        exact (cnt_false V).symm
      · rw [cns_pre (k := 0) (by omega) (Nat.le_refl _) (by omega)]
        show 1 * 2 ^ vr V M 1 = _
        rw [Nat.one_mul]
        exact (cnt_true V).symm

/-- Counting by numbers. -/
theorem cnt_range : ∀ V (f : BFn), ((List.range (2 ^ V)).filter fun x => f x.testBit).length = cnt V f := by
  intro V
  induction V with
  | zero =>
    intro f
    simp only [Nat.pow_zero, cnt]
    have e : (0 : Nat).testBit = fun _ => false := by funext x; simp
    rw [show List.range 1 = [0] from rfl]
    simp only [List.filter_cons, List.filter_nil, e]
    split <;> rfl
  | succ V ih =>
    intro f
    rw [show 2 ^ (V + 1) = 2 ^ V + 2 ^ V by rw [Nat.pow_succ]; omega, List.range_add, List.filter_append, List.length_append]
    simp only [cnt]
    rw [← ih, ← ih]
    congr 1
    · congr 1
      refine List.filter_congr fun x hx => ?_
      have hlt := List.mem_range.1 hx
      unfold rf
      congr 1
      funext v
      unfold upd
      by_cases hv : v = V
      · simp only [hv, if_true]; exact Nat.testBit_lt_two_pow hlt
      · simp [hv]
    · rw [List.filter_map, List.length_map]
      congr 1
      refine List.filter_congr fun x hx => ?_
      have hlt := List.mem_range.1 hx
      unfold rf
      simp only [Function.comp]
      congr 1
      funext v
      unfold upd
      by_cases hv : v = V
      · simp only [hv, if_true]
        rw [Nat.testBit_two_pow_add_eq, Nat.testBit_lt_two_pow hlt]; rfl
      · simp only [hv, if_false]
        by_cases hvl : v < V
        · exact Nat.testBit_two_pow_add_gt hvl x
        · have h1 : x < 2 ^ v := Nat.lt_of_lt_of_le hlt (Nat.pow_le_pow_right (by omega) (by omega))
          have h2 : 2 ^ V + x < 2 ^ v := by
            have : 2 ^ (V + 1) ≤ 2 ^ v := Nat.pow_le_pow_right (by omega) (by omega)
            rw [Nat.pow_succ] at this; omega
          rw [Nat.testBit_lt_two_pow h1, Nat.testBit_lt_two_pow h2]

/-! ### the first assignment -/
/-- At the first variable from v on at which a is above ρ, it has been below before. -/
def Before (V v : Nat) (a ρ : Nat → Bool) : Prop := (∀ i, v ≤ i → i < V → a i = true → ρ i = true) ∨ ∃ i, v ≤ i ∧ i < V ∧ a i = false ∧ ρ i = true ∧ ∀ j, v ≤ j → j < i → a j = true → ρ j = true

theorem any_first {V : Nat} {M : List Nd} {r : Nat} (H : Valid V M r) : ∀ k s, k < M.length + 2 → k ≠ 0 → s < 2 ^ vr V M k →
    (∀ j, j < vr V M k → (anyF M (k + 1) k s).testBit j = s.testBit j) ∧ den M k (anyF M (k + 1) k s).testBit = true ∧ anyF M (k + 1) k s < 2 ^ V ∧ ∀ ρ, den M k ρ = true → Before V (vr V M k) (anyF M (k + 1) k s).testBit ρ := by
  intro k
  induction k using Nat.strongRecOn with
  | _ k ih =>
    intro s hk h0 hs
    by_cases h2 : 2 ≤ k
    · have a1 := H.good.lo_lt k h2 hk
      have a2 := H.good.hi_lt k h2 hk
      have b0 := H.bound k h2 hk
      have b1 := vr_lt H.bound (H.good.lo_var k h2 hk) b0 (by omega)
      have b2 := vr_lt H.bound (H.good.hi_var k h2 hk) b0 (by omega)
      have hv : vr V M k = var M k := by unfold vr; rw [if_neg (by omega)]
      rw [hv] at hs ⊢
      by_cases hl : lo M k = 0
      · rw [anyF_hi H.good s h2 hk hl]
        have hlt2 : s + 2 ^ var M k < 2 ^ vr V M (Dd.hi M k) := by
          have : 2 ^ (var M k + 1) ≤ 2 ^ vr V M (Dd.hi M k) := Nat.pow_le_pow_right (by omega) b2
          rw [Nat.pow_succ] at this; omega
        obtain ⟨i1, i2, i3, i4⟩ := ih _ a2 (s + 2 ^ var M k) (by omega) (fun e => H.good.ne k h2 hk (by rw [hl, e])) hlt2
        generalize anyF M (Dd.hi M k + 1) (Dd.hi M k) (s + 2 ^ var M k) = a at *
        have hbit : a.testBit (var M k) = true := by
          rw [i1 _ b2, Nat.add_comm, Nat.testBit_two_pow_add_eq, Nat.testBit_lt_two_pow hs]; rfl
        have hlow : ∀ j, var M k < j → j < vr V M (Dd.hi M k) → a.testBit j = false := fun j h1 h3 => by
          rw [i1 j h3]
          refine Nat.testBit_lt_two_pow ?_
          have : 2 ^ (var M k + 1) ≤ 2 ^ j := Nat.pow_le_pow_right (by omega) h1
          rw [Nat.pow_succ] at this; omega
        refine ⟨fun j hj => ?_, ?_, i3, fun ρ hρ => ?_⟩
        · rw [i1 j (by omega), Nat.add_comm, Nat.testBit_two_pow_add_gt hj]
        · rw [den_node H.good h2 hk, hbit, if_pos rfl]; exact i2
        · rw [den_node H.good h2 hk, hl] at hρ
          have hρv : ρ (var M k) = true := by cases h : ρ (var M k) with | true => rfl | false => simp [h] at hρ
          rw [hρv, if_pos rfl] at hρ
          rcases i4 ρ hρ with h | ⟨i, h1, h3, h4, h5, h6⟩
          · refine .inl fun i hi hiV ha => ?_
            by_cases e : i = var M k
            · rw [e]; exact hρv
            · by_cases hb : vr V M (Dd.hi M k) ≤ i
              · exact h i hb hiV ha
              · rw [hlow i (by omega) (by omega)] at ha; cases ha
          · refine .inr ⟨i, by omega, h3, h4, h5, fun j hj hji ha => ?_⟩
            by_cases e : j = var M k
            · rw [e]; exact hρv
            · by_cases hb : vr V M (Dd.hi M k) ≤ j
              · exact h6 j hb hji ha
              · rw [hlow j (by omega) (by omega)] at ha; cases ha
      · rw [anyF_lo H.good s h2 hk hl]
        have hlt2 : s < 2 ^ vr V M (lo M k) := Nat.lt_of_lt_of_le hs (Nat.pow_le_pow_right (by omega) (by omega))
        obtain ⟨i1, i2, i3, i4⟩ := ih _ a1 s (by omega) hl hlt2
        generalize anyF M (lo M k + 1) (lo M k) s = a at *
        have hlow : ∀ j, var M k ≤ j → j < vr V M (lo M k) → a.testBit j = false := fun j h1 h3 => by
          rw [i1 j h3]
          exact Nat.testBit_lt_two_pow (Nat.lt_of_lt_of_le hs (Nat.pow_le_pow_right (by omega) h1))
        have hbit := hlow (var M k) (Nat.le_refl _) b1
        refine ⟨fun j hj => i1 j (by omega), ?_, i3, fun ρ hρ => ?_⟩
        · rw [den_node H.good h2 hk, hbit, if_neg (by simp)]; exact i2
        · cases hρv : ρ (var M k) with
          | true => exact .inr ⟨var M k, Nat.le_refl _, b0, hbit, hρv, fun j h1 h3 => by omega⟩
          | false =>
            rw [den_node H.good h2 hk, hρv, if_neg (by simp)] at hρ
            rcases i4 ρ hρ with h | ⟨i, h1, h3, h4, h5, h6⟩
            · refine .inl fun i hi hiV ha => ?_
              by_cases hb : vr V M (lo M k) ≤ i
              · exact h i hb hiV ha
              · rw [hlow i hi (by omega)] at ha; cases ha
            · refine .inr ⟨i, by omega, h3, h4, h5, fun j hj hji ha => ?_⟩
              by_cases hb : vr V M (lo M k) ≤ j
              · exact h6 j hb hji ha
              · rw [hlow j hj (by omega)] at ha; cases ha
    · have h1 : k = 1 := by omega
      subst h1
      have hv : vr V M 1 = V := by unfold vr; rw [if_pos (by omega)]
      rw [hv] at hs ⊢
      rw [anyF_end s (by omega)]
      exact ⟨fun _ _ => rfl, rfl, hs, fun ρ _ => .inl fun i h1 h2 => by omega⟩
end Go.Proofs.Ytengdldkkmknpaa.Dd
