/- Names and reserved words: what the reference's functions do. No condition. -/
import Derived.Test.YtdhdcenjiopofaaDoorSgB
set_option linter.unusedVariables false
set_option linter.unusedSimpArgs false
namespace Go.Proofs.YtdhdcenjiopofaaDoor
open Go.RowKit

theorem idx_go {l : List ByteArray} {k : Nat} {x y : ByteArray} (hy : l[k]? = some y) (hb : ∀ j, j < k → l[j]? ≠ some x) : (y = x → Lib.idxOfS l x = k) ∧ (y ≠ x → ∀ j, j < k + 1 → l[j]? ≠ some x) := by
  constructor
  · rintro rfl
    rcases idx_cases l y with ⟨_, h⟩ | ⟨i, h1, _, h2, h3⟩
    · exact absurd (List.mem_of_getElem? hy) h
    · have h4 : ¬ i < k := fun h => hb i h h2
      have h5 : ¬ k < i := fun h => h3 k h hy
      rw [h1]
      congr 1
      omega
  · intro hne j hj
    by_cases h : j = k
    · subst h
      rw [hy]
      intro e
      exact hne (Option.some.inj e)
    · exact hb j (by omega)
theorem idx_end {l : List ByteArray} {x : ByteArray} (hb : ∀ j, j < l.length → l[j]? ≠ some x) : Lib.idxOfS l x = -1 := by
  refine idx_none fun h => ?_
  obtain ⟨i, hi⟩ := List.mem_iff_getElem?.1 h
  exact hb i (List.getElem?_eq_some_iff.1 hi).1 hi
section
set_option maxRecDepth 100000
set_option maxHeartbeats 1000000
theorem all_step {t : ByteArray} {k : Nat} {b : UInt8} (hd : t.data.toList.drop k = b :: t.data.toList.drop (k + 1)) : (t.data.toList.drop k).all isNC = (isNC b && (t.data.toList.drop (k + 1)).all isNC) := by rw [hd]; rfl
theorem nc_no {b : UInt8} (h : ¬ ((97 ≤ b.toNat ∧ b.toNat ≤ 122) ∨ (48 ≤ b.toNat ∧ b.toNat ≤ 57) ∨ b.toNat = 95)) : isNC b = false := decide_eq_false h
theorem nc_yes {b : UInt8} (h : (97 ≤ b.toNat ∧ b.toNat ≤ 122) ∨ (48 ≤ b.toNat ∧ b.toNat ≤ 57) ∨ b.toNat = 95) : isNC b = true := decide_eq_true h
end
end Go.Proofs.YtdhdcenjiopofaaDoor
