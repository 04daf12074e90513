/- Tables of values and diagrams: plain facts, and the contracts of Count, Support and Any at a valid diagram. No condition. -/
import Derived.Test.YtengdldkkmknpaaBuildC
import Derived.Test.YtengdldkkmknpaaAwake
import Derived.Test.YtengdldkkmknpaaLawI
set_option linter.unusedVariables false
set_option linter.unusedSimpArgs false
namespace Go.Proofs.Ytengdldkkmknpaa
open Go.RowKit
open Dd (Rn rat ofN toN checkErr den lo var Within Valid cn supp anyP cnt)

/-- The place in the table that an assignment picks. -/
def tfi : Nat → Nat → Nat → (Nat → Bool) → Nat
  | 0, _, a, _ => a
  | d + 1, lv, a, ρ => if ρ lv then tfi d (lv + 1) (a + 2 ^ lv) ρ else tfi d (lv + 1) a ρ
theorem tf_tfi (t : Nat) (ρ : Nat → Bool) : ∀ d lv a, tf t d lv a ρ = t.testBit (tfi d lv a ρ) := by
  intro d
  induction d with
  | zero => intro lv a; rfl
  | succ d ih =>
    intro lv a
    simp only [tf, tfi]
    cases ρ lv <;> simp [ih]
theorem tfi_lt (ρ : Nat → Bool) : ∀ d lv a, a < 2 ^ lv → tfi d lv a ρ < 2 ^ (lv + d) := by
  intro d
  induction d with
  | zero => intro lv a h; exact h
  | succ d ih =>
    intro lv a h
    simp only [tfi]
    have e : 2 ^ (lv + 1) = 2 ^ lv + 2 ^ lv := by rw [Nat.pow_succ]; omega
    rw [show lv + (d + 1) = lv + 1 + d by omega]
    cases ρ lv
    · exact ih (lv + 1) a (by omega)
    · exact ih (lv + 1) (a + 2 ^ lv) (by omega)
theorem tab_eq (V t u : Nat) : (∀ ρ, tf t V 0 0 ρ = tf u V 0 0 ρ) ↔ ∀ x, x < 2 ^ V → t.testBit x = u.testBit x := by
  constructor
  · intro h x hx
    have := h x.testBit
    rwa [tf_zero t V x hx, tf_zero u V x hx] at this
  · intro h ρ
    rw [tf_tfi, tf_tfi]
    exact h _ (by have := tfi_lt ρ V 0 0 (by simp); simpa using this)

section
variable {w : World} {V : Nat} {f : BF} {A : Option Addr} {n c r : Nat}
theorem d_count (ha : IsD w V f A n c r) : Calls Try.prog 19 #[.agg #[.int .i64 V, .slice A n c, .int .i64 r]] w fun e w' => e = .returned (.int .i64 (cnt V f : Nat)) ∧ Keep NoF w w' := by
  obtain ⟨d, e1, e2, e3, e4, e5, M, rfl, hv, hd⟩ := ha.dg
  have h := Count_any _ w e2
  rw [e1] at h
  refine h.mono fun e w' ⟨he, hk⟩ => ⟨?_, hk⟩
  rw [he]
  have : countD ⟨V, ofN M, r, .slice A n c⟩ = cnt V f := by
    unfold countD
    rw [if_pos e3]
    simp only [Dd.toN_ofN, Int.toNat_natCast]
    have := Dd.cn_cnt hv r hv.root
    unfold cn
    rw [this]
    exact congrArg (cnt V) (funext hd)
  rw [this]
/-- Any: an assignment at which f is true, none before it. -/
theorem d_any (ha : IsD w V f A n c r) : Calls Try.prog 13 #[.agg #[.int .i64 V, .slice A n c, .int .i64 r]] w fun e w' => ∃ (s : Nat) (b : Bool), e = .returned (.tuple #[.int .u64 s, .bool b]) ∧ Keep NoF w w' ∧ s < 2 ^ V ∧
    (b = false → s = 0 ∧ ∀ ρ, f ρ = false) ∧ (b = true → f s.testBit = true ∧ ∀ ρ, f ρ = true → Dd.Before V 0 s.testBit ρ) := by
  obtain ⟨d, e1, e2, e3, e4, e5, M, rfl, hv, hd⟩ := ha.dg
  have h := Any_any _ w e2
  rw [e1] at h
  refine h.mono fun e w' ⟨he, hk⟩ => ?_
  by_cases h0 : r = 0
  · have : anyD ⟨V, ofN M, r, .slice A n c⟩ = (0, false) := by
      unfold anyD
      rw [if_neg (by simp [h0])]
    rw [this] at he
    refine ⟨0, false, he, hk, Nat.two_pow_pos _, fun _ => ⟨rfl, fun ρ => ?_⟩, fun h => by cases h⟩
    rw [← hd, h0]; rfl
  · have : anyD ⟨V, ofN M, r, .slice A n c⟩ = (anyP M r, true) := by
      unfold anyD
      rw [if_pos ⟨e3, by simpa using h0⟩]
      simp only [Dd.toN_ofN, Int.toNat_natCast]
    rw [this] at he
    obtain ⟨h1, h2, h3, h4⟩ := Dd.any_first hv r 0 hv.root h0 (Nat.two_pow_pos _)
    refine ⟨anyP M r, true, he, hk, h3, (fun h => by cases h), fun _ => ⟨by rw [← hd]; exact h2, fun ρ hρ => ?_⟩⟩
    rw [← hd] at hρ
    have hb := h4 ρ hρ
    have hz : ∀ j, j < Dd.vr V M r → (anyP M r).testBit j = false := fun j hj => by
      have := h1 j hj
      simpa [anyP] using this
    rcases hb with h | ⟨i, a1, a2, a3, a4, a5⟩
    · refine .inl fun i _ hi hb => ?_
      by_cases hiv : Dd.vr V M r ≤ i
      · exact h i hiv hi hb
      · rw [hz i (by omega)] at hb; cases hb
    · refine .inr ⟨i, by omega, a2, a3, a4, fun j _ hj hb => ?_⟩
      by_cases hiv : Dd.vr V M r ≤ j
      · exact a5 j hiv hj hb
      · rw [hz j (by omega)] at hb; cases hb
end
end Go.Proofs.Ytengdldkkmknpaa
