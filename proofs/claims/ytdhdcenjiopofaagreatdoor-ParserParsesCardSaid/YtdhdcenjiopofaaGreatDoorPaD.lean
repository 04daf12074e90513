/- Tokens: a text divided into its tokens, plain. No condition. -/
import Derived.Test.YtdhdcenjiopofaaGreatDoorPaB
set_option linter.unusedVariables false
set_option linter.unusedSimpArgs false
namespace Go.Proofs.YtdhdcenjiopofaaGreatDoor
open Go.RowKit

def spaceB (b : UInt8) : Bool := b == 32 || b == 9 || b == 10
/-- The tokens from a place on, each with its place; or the place of what is none. -/
def toks (l : List UInt8) : Nat → Nat → Except Nat (List (Nat × List UInt8))
  | 0, _ => .ok []
  | f + 1, i =>
    match l.drop i with
    | [] => .ok []
    | b :: r => if spaceB b = true then toks l f (i + 1) else if lenT (b :: r) = 0 then .error i else
      match toks l f (i + lenT (b :: r)) with
      | .ok ts => .ok ((i, (b :: r).take (lenT (b :: r))) :: ts)
      | .error p => .error p
theorem toks_fuel (l : List UInt8) : ∀ (f g i : Nat), l.length - i ≤ f → l.length - i ≤ g → toks l f i = toks l g i
  | 0, 0, i, _, _ => rfl
  | 0, g + 1, i, h, _ => by
    have : l.drop i = [] := List.drop_eq_nil_of_le (by omega)
    simp only [toks, this]
  | f + 1, 0, i, _, h => by
    have : l.drop i = [] := List.drop_eq_nil_of_le (by omega)
    simp only [toks, this]
  | f + 1, g + 1, i, h1, h2 => by
    unfold toks
    cases hd : l.drop i with
    | nil => rfl
    | cons b r =>
      have hlt : i < l.length := by
        false_or_by_contra
        rw [List.drop_eq_nil_of_le (by omega)] at hd
        cases hd
      simp only
      by_cases hs : spaceB b = true
      · rw [if_pos hs, if_pos hs, toks_fuel l f g (i + 1) (by omega) (by omega)]
      · rw [if_neg hs, if_neg hs]
        by_cases hn : lenT (b :: r) = 0
        · rw [if_pos hn, if_pos hn]
        · rw [if_neg hn, if_neg hn, toks_fuel l f g (i + lenT (b :: r)) (by omega) (by omega)]
/-- The tokens of a text. -/
def tokens (l : List UInt8) (i : Nat) : Except Nat (List (Nat × List UInt8)) := toks l (l.length - i) i
theorem tokens_end {l : List UInt8} {i : Nat} (h : l.length ≤ i) : tokens l i = .ok [] := by
  unfold tokens
  rw [show l.length - i = 0 by omega]
  rfl
theorem tokens_space {l : List UInt8} {i : Nat} {b : UInt8} (h : l[i]? = some b) (hs : spaceB b = true) : tokens l i = tokens l (i + 1) := by
  obtain ⟨hlt, rfl⟩ := List.getElem?_eq_some_iff.1 h
  unfold tokens
  rw [toks_fuel l (l.length - i) (l.length - (i + 1) + 1) i (by omega) (by omega)]
  conv => lhs; unfold toks
  rw [List.drop_eq_getElem_cons hlt]
  simp only [if_pos hs]
theorem tokens_bad {l : List UInt8} {i : Nat} {b : UInt8} (h : l[i]? = some b) (hs : spaceB b = false) (hn : lenT (l.drop i) = 0) : tokens l i = .error i := by
  obtain ⟨hlt, rfl⟩ := List.getElem?_eq_some_iff.1 h
  unfold tokens
  rw [toks_fuel l (l.length - i) (l.length - (i + 1) + 1) i (by omega) (by omega)]
  conv => lhs; unfold toks
  rw [List.drop_eq_getElem_cons hlt] at hn ⊢
  simp only [hs, Bool.false_eq_true, if_false, if_pos hn]
theorem tokens_word {l : List UInt8} {i : Nat} {b : UInt8} (h : l[i]? = some b) (hs : spaceB b = false) (hn : lenT (l.drop i) ≠ 0) :
    tokens l i = match tokens l (i + lenT (l.drop i)) with | .ok ts => .ok ((i, (l.drop i).take (lenT (l.drop i))) :: ts) | .error p => .error p := by
  obtain ⟨hlt, rfl⟩ := List.getElem?_eq_some_iff.1 h
  unfold tokens
  rw [toks_fuel l (l.length - i) (l.length - (i + 1) + 1) i (by omega) (by omega), toks_fuel l (l.length - (i + lenT (l.drop i))) (l.length - (i + 1)) _ (by omega) (by omega)]
  conv => lhs; unfold toks
  rw [List.drop_eq_getElem_cons hlt] at hn ⊢
  simp only [hs, Bool.false_eq_true, if_false, if_neg hn]
end Go.Proofs.YtdhdcenjiopofaaGreatDoor
