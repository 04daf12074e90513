/- Words that are never names, as a text that has them between spaces. Plain. Condition: the word has no space and is not empty. -/
import Derived.Test.YtbidfbojealmlaaGreatDoorPaE
import Derived.Lib.IndexMore
import Derived.Test.YtbidfbojealmlaaGreatDoorSgA
set_option linter.unusedVariables false
set_option linter.unusedSimpArgs false
namespace Go.Proofs.YtbidfbojealmlaaGreatDoor
open Ps

def spL : List UInt8 := [32, 116, 114, 117, 101, 32, 102, 97, 108, 115, 101, 32, 110, 101, 120, 116, 32, 112, 114, 101, 118, 32, 117, 110, 116, 105, 108, 32, 115, 105, 110, 99, 101, 32, 75, 32, 77, 32, 83, 32, 66, 32, 69, 32, 68, 32, 67, 32]
theorem sp_words : ∀ i : Nat, i < 49 → ((spL.drop (i + 1)).takeWhile fun b => !(b == 32)) = [] ∨ spL[i]? ≠ some 32 ∨ ((spL.drop (i + 1)).takeWhile fun b => !(b == 32)) ∈ specials.map (·.data.toList) := by
  decide +kernel
theorem sp_have : ∀ t ∈ specials, Lib.contains spL (32 :: t.data.toList ++ [32]) = true := by decide +kernel
theorem tw_sep {t l : List UInt8} (ht : (32 : UInt8) ∉ t) (h : t ++ [32] <+: l) : (l.takeWhile fun b => !(b == 32)) = t := by
  obtain ⟨s, rfl⟩ := h
  rw [List.append_assoc, List.takeWhile_append_of_pos (fun b hb => by simp; rintro rfl; exact ht hb)]
  simp
theorem special_iff (t : ByteArray) (h0 : t.data.toList ≠ []) (hs : (32 : UInt8) ∉ t.data.toList) : Lib.contains spL (32 :: t.data.toList ++ [32]) = decide (t ∈ specials) := by
  by_cases hm : t ∈ specials
  · rw [sp_have t hm, decide_eq_true hm]
  · rw [decide_eq_false hm]
    unfold Lib.contains
    refine decide_eq_false fun h => ?_
    rcases Lib.index_spec spL (32 :: t.data.toList ++ [32]) with ⟨h1, _⟩ | ⟨i, h1, hi, ho, _⟩
    · omega
    · have hp : 32 :: t.data.toList ++ [32] <+: spL.drop i := List.isPrefixOf_iff_prefix.1 ho
      have hil : i < 49 := by have : spL.length = 48 := rfl; omega
      have h32 : spL[i]? = some 32 := Lib.occAt_head (s := spL) (sub := 32 :: t.data.toList ++ [32]) rfl ho
      have hd : spL.drop i = 32 :: spL.drop (i + 1) := by
        obtain ⟨hlt, he⟩ := List.getElem?_eq_some_iff.1 h32
        rw [List.drop_eq_getElem_cons hlt, he]
      rw [hd, List.cons_append] at hp
      have hw := tw_sep hs (List.cons_prefix_cons.1 hp).2
      rcases sp_words i hil with h | h | h
      · rw [hw] at h; exact h0 h
      · exact h h32
      · rw [hw] at h
        obtain ⟨x, hx, he⟩ := List.mem_map.1 h
        exact hm (ba_ext he ▸ hx)
end Go.Proofs.YtbidfbojealmlaaGreatDoor
