/- Letters and digits: what both functions of either package answer. Tokens: the length of the token at a text's beginning, plain. Tokens: a text divided into its tokens, plain. No condition. -/
import Derived.Test.YtmjdbbfoihadoaaBase
import Derived.Lib.Hide
import Derived.OpenShut
import Derived.Test.YtmjdbbfoihadoaaChecked
import Derived.Lib.Strings
import Derived.Lib.IndexLaws
set_option linter.unusedVariables false
set_option linter.unusedSimpArgs false
namespace Go.Proofs.Ytmjdbbfoihadoaa
open Go.RowKit

def letN (n : Nat) : Bool := (decide (97 ≤ n) && decide (n ≤ 122)) || (decide (65 ≤ n) && decide (n ≤ 90)) || decide (n = 95)
def digN (n : Nat) : Bool := decide (48 ≤ n) && decide (n ≤ 57)
section
variable (n : Nat) (w : World)
set_option maxRecDepth 100000
end
end Go.Proofs.Ytmjdbbfoihadoaa
namespace Go.Proofs.Ytmjdbbfoihadoaa
open Go.RowKit

def signs : List UInt8 := [126, 38, 124, 40, 41, 91, 93, 44, 46, 33]
def wordB (b : UInt8) : Bool := letN b.toNat || digN b.toNat
def digB (b : UInt8) : Bool := digN b.toNat
/-- The length of the token at the beginning of a text, 0 if there is none. -/
def lenT (l : List UInt8) : Nat :=
  if Lib.hasPrefix l [60, 45, 62] = true then 3 else if Lib.hasPrefix l [45, 62] = true then 2 else
  match l with
  | [] => 0
  | b :: _ => if b ∈ signs then 1 else if letN b.toNat = true then (l.takeWhile wordB).length else (l.takeWhile digB).length
theorem tw_len {p : UInt8 → Bool} : ∀ {l : List UInt8} {k : Nat}, (∀ j, j < k → ∃ b, l[j]? = some b ∧ p b = true) → (l.length ≤ k ∨ ∃ b, l[k]? = some b ∧ p b = false) → (l.takeWhile p).length = k
  | [], k, h1, h2 => by
    cases k with
    | zero => rfl
    | succ k =>
      obtain ⟨b, hb, _⟩ := h1 0 (by omega)
      simp at hb
  | a :: l, 0, h1, h2 => by
    rcases h2 with h | ⟨b, hb, hp⟩
    · simp at h
    · simp at hb
      subst hb
      simp [hp]
  | a :: l, k + 1, h1, h2 => by
    obtain ⟨b, hb, hp⟩ := h1 0 (by omega)
    simp at hb
    subst hb
    rw [List.takeWhile_cons, if_pos hp, List.length_cons]
    congr 1
    refine tw_len (fun j hj => ?_) ?_
    · obtain ⟨c, hc, hpc⟩ := h1 (j + 1) (by omega)
      exact ⟨c, by simpa using hc, hpc⟩
    · rcases h2 with h | ⟨c, hc, hpc⟩
      · exact .inl (by simpa using h)
      · exact .inr ⟨c, by simpa using hc, hpc⟩
theorem lenT_le (l : List UInt8) : lenT l ≤ l.length := by
  unfold lenT
  split
  · next h => 
    have := (List.isPrefixOf_iff_prefix.1 (show List.isPrefixOf _ _ = true from h)).length_le
    simpa using this
  · split
    · next h =>
      have := (List.isPrefixOf_iff_prefix.1 (show List.isPrefixOf _ _ = true from h)).length_le
      simpa using this
    · cases l with
      | nil => simp
      | cons b r =>
        simp only
        split
        · simp
        · split
          · exact (List.takeWhile_prefix _).length_le
          · exact (List.takeWhile_prefix _).length_le
theorem sign_iff (b : UInt8) : 0 ≤ Lib.indexByte signs b ↔ b ∈ signs := by
  constructor
  · intro h
    obtain ⟨o, ho⟩ : ∃ o : Nat, Lib.indexByte signs b = o := ⟨(Lib.indexByte signs b).toNat, by omega⟩
    exact List.mem_of_getElem? (Lib.indexByte_some ho).1
  · intro h
    have := Lib.indexByte_ge signs b
    by_cases h1 : Lib.indexByte signs b = -1
    · obtain ⟨k, hk⟩ := List.getElem?_of_mem h
      exact absurd hk (Lib.indexByte_none h1 k)
    · omega
end Go.Proofs.Ytmjdbbfoihadoaa
namespace Go.Proofs.Ytmjdbbfoihadoaa
open Go.RowKit

def spaceB (b : UInt8) : Bool := b == 32 || b == 9 || b == 10
/-- The tokens from a place on, each with its place; or the place of what is none. -/
def toks (l : List UInt8) : Nat → Nat → Except Nat (List (Nat × List UInt8))
  | 0, _ => .ok []
  | f + 1, i =>
    match l.drop i with
    | [] => .ok []
    | b :: r => if spaceB b = true then toks l f (i + 1) else if lenT (b :: r) = 0 then .error i else
      match toks l f (i + lenT (b :: r)) with
      | .ok ts => .ok ((i, (b :: r).take (lenT (b :: r))) :: ts)
      | .error p => .error p
theorem toks_fuel (l : List UInt8) : ∀ (f g i : Nat), l.length - i ≤ f → l.length - i ≤ g → toks l f i = toks l g i
  | 0, 0, i, _, _ => rfl
  | 0, g + 1, i, h, _ => by
    have : l.drop i = [] := List.drop_eq_nil_of_le (by omega)
    simp only [toks, this]
  | f + 1, 0, i, _, h => by
    have : l.drop i = [] := List.drop_eq_nil_of_le (by omega)
    simp only [toks, this]
  | f + 1, g + 1, i, h1, h2 => by
    unfold toks
    cases hd : l.drop i with
    | nil => rfl
    | cons b r =>
      have hlt : i < l.length := by
        false_or_by_contra
        rw [List.drop_eq_nil_of_le (by omega)] at hd
        cases hd
      simp only
      by_cases hs : spaceB b = true
      · rw [if_pos hs, if_pos hs, toks_fuel l f g (i + 1) (by omega) (by omega)]
      · rw [if_neg hs, if_neg hs]
        by_cases hn : lenT (b :: r) = 0
        · rw [if_pos hn, if_pos hn]
        · rw [if_neg hn, if_neg hn, toks_fuel l f g (i + lenT (b :: r)) (by omega) (by omega)]
/-- The tokens of a text. -/
def tokens (l : List UInt8) (i : Nat) : Except Nat (List (Nat × List UInt8)) := toks l (l.length - i) i
theorem tokens_end {l : List UInt8} {i : Nat} (h : l.length ≤ i) : tokens l i = .ok [] := by
  unfold tokens
  rw [show l.length - i = 0 by omega]
  rfl
theorem tokens_space {l : List UInt8} {i : Nat} {b : UInt8} (h : l[i]? = some b) (hs : spaceB b = true) : tokens l i = tokens l (i + 1) := by
  obtain ⟨hlt, rfl⟩ := List.getElem?_eq_some_iff.1 h
  unfold tokens
  rw [toks_fuel l (l.length - i) (l.length - (i + 1) + 1) i (by omega) (by omega)]
  conv => lhs; unfold toks
  rw [List.drop_eq_getElem_cons hlt]
  simp only [if_pos hs]
theorem tokens_bad {l : List UInt8} {i : Nat} {b : UInt8} (h : l[i]? = some b) (hs : spaceB b = false) (hn : lenT (l.drop i) = 0) : tokens l i = .error i := by
  obtain ⟨hlt, rfl⟩ := List.getElem?_eq_some_iff.1 h
  unfold tokens
  rw [toks_fuel l (l.length - i) (l.length - (i + 1) + 1) i (by omega) (by omega)]
  conv => lhs; unfold toks
  rw [List.drop_eq_getElem_cons hlt] at hn ⊢
  simp only [hs, Bool.false_eq_true, if_false, if_pos hn]
theorem tokens_word {l : List UInt8} {i : Nat} {b : UInt8} (h : l[i]? = some b) (hs : spaceB b = false) (hn : lenT (l.drop i) ≠ 0) :
    tokens l i = match tokens l (i + lenT (l.drop i)) with | .ok ts => .ok ((i, (l.drop i).take (lenT (l.drop i))) :: ts) | .error p => .error p := by
  obtain ⟨hlt, rfl⟩ := List.getElem?_eq_some_iff.1 h
  unfold tokens
  rw [toks_fuel l (l.length - i) (l.length - (i + 1) + 1) i (by omega) (by omega), toks_fuel l (l.length - (i + lenT (l.drop i))) (l.length - (i + 1)) _ (by omega) (by omega)]
  conv => lhs; unfold toks
  rw [List.drop_eq_getElem_cons hlt] at hn ⊢
  simp only [hs, Bool.false_eq_true, if_false, if_neg hn]
end Go.Proofs.Ytmjdbbfoihadoaa
