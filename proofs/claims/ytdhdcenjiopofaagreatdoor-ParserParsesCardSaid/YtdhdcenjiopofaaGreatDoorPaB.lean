/- Tokens: the length of the token at a text's beginning, plain. No condition. -/
import Derived.Test.YtdhdcenjiopofaaGreatDoorPaA
import Derived.Lib.Strings
import Derived.Lib.IndexLaws
set_option linter.unusedVariables false
set_option linter.unusedSimpArgs false
namespace Go.Proofs.YtdhdcenjiopofaaGreatDoor
open Go.RowKit

def signs : List UInt8 := [126, 38, 124, 40, 41, 91, 93, 44, 46, 33]
def wordB (b : UInt8) : Bool := letN b.toNat || digN b.toNat
def digB (b : UInt8) : Bool := digN b.toNat
/-- The length of the token at the beginning of a text, 0 if there is none. -/
def lenT (l : List UInt8) : Nat :=
  if Lib.hasPrefix l [60, 45, 62] = true then 3 else if Lib.hasPrefix l [45, 62] = true then 2 else
  match l with
  | [] => 0
  | b :: _ => if b ∈ signs then 1 else if letN b.toNat = true then (l.takeWhile wordB).length else (l.takeWhile digB).length
theorem tw_len {p : UInt8 → Bool} : ∀ {l : List UInt8} {k : Nat}, (∀ j, j < k → ∃ b, l[j]? = some b ∧ p b = true) → (l.length ≤ k ∨ ∃ b, l[k]? = some b ∧ p b = false) → (l.takeWhile p).length = k
  | [], k, h1, h2 => by
    cases k with
    | zero => rfl
    | succ k =>
      obtain ⟨b, hb, _⟩ := h1 0 (by omega)
      simp at hb
  | a :: l, 0, h1, h2 => by
    rcases h2 with h | ⟨b, hb, hp⟩
    · simp at h
    · simp at hb
      subst hb
      simp [hp]
  | a :: l, k + 1, h1, h2 => by
    obtain ⟨b, hb, hp⟩ := h1 0 (by omega)
    simp at hb
    subst hb
    rw [List.takeWhile_cons, if_pos hp, List.length_cons]
    congr 1
    refine tw_len (fun j hj => ?_) ?_
    · obtain ⟨c, hc, hpc⟩ := h1 (j + 1) (by omega)
      exact ⟨c, by simpa using hc, hpc⟩
    · rcases h2 with h | ⟨c, hc, hpc⟩
      · exact .inl (by simpa using h)
      · exact .inr ⟨c, by simpa using hc, hpc⟩
theorem lenT_le (l : List UInt8) : lenT l ≤ l.length := by
  unfold lenT
  split
  · next h => 
    have := (List.isPrefixOf_iff_prefix.1 (show List.isPrefixOf _ _ = true from h)).length_le
    simpa using this
  · split
    · next h =>
      have := (List.isPrefixOf_iff_prefix.1 (show List.isPrefixOf _ _ = true from h)).length_le
      simpa using this
    · cases l with
      | nil => simp
      | cons b r =>
        simp only
        split
        · simp
        · split
          · exact (List.takeWhile_prefix _).length_le
          · exact (List.takeWhile_prefix _).length_le
theorem sign_iff (b : UInt8) : 0 ≤ Lib.indexByte signs b ↔ b ∈ signs := by
  constructor
  · intro h
    obtain ⟨o, ho⟩ : ∃ o : Nat, Lib.indexByte signs b = o := ⟨(Lib.indexByte signs b).toNat, by omega⟩
    exact List.mem_of_getElem? (Lib.indexByte_some ho).1
  · intro h
    have := Lib.indexByte_ge signs b
    by_cases h1 : Lib.indexByte signs b = -1
    · obtain ⟨k, hk⟩ := List.getElem?_of_mem h
      exact absurd hk (Lib.indexByte_none h1 k)
    · omega
end Go.Proofs.YtdhdcenjiopofaaGreatDoor
