/- The grammar as a parser of tokens: what is read is right and in the signature. Plain. -/
import Derived.Test.YtbidfbojealmlaaGreatDoorPaE
set_option linter.unusedVariables false
set_option linter.unusedSimpArgs false
namespace Ps
open Fm
open Fm.Form

/-- A node's own fields are right, and in the signature. -/
def Q (nA nF : Nat) (op i e g : Int) : Prop := own op i e g = true ∧ (usesAgent op = true → i < nA) ∧ (usesFact op = true → i < nF) ∧ (usesGroup op = true → g < 2 ^ nA)
/-- The bounds of what finds names. -/
structure Bd (S : Sig) (nA nF : Nat) : Prop where
  la : nA ≤ 4
  lf : nF ≤ 8
  ag : ∀ t, S.ag t < nA
  fa : ∀ t, S.fa t < nF
  ac : ∀ t, S.ac t < 8
section
variable {α β : Type}
def Val (p : P α) (R : α → Prop) : Prop := ∀ ts a r, p ts = .ok a r → R a
theorem val_ret {a : α} {R : α → Prop} (h : R a) : Val (ret a) R := fun ts b r e => by cases e; exact h
theorem val_out {R : α → Prop} : Val out R := fun ts b r e => by cases e
theorem val_bind {p : P α} {f : α → P β} {R : α → Prop} {R' : β → Prop} (h : Val p R) (hf : ∀ a, R a → Val (f a) R') : Val (bind p f) R' := fun ts b r e => by
  unfold bind at e
  cases h1 : p ts with
  | ok a r1 => rw [h1] at e; exact hf a (h ts a r1 h1) r1 b r e
  | bad r1 x => rw [h1] at e; cases e
theorem val_any (p : P α) : Val p fun _ => True := fun _ _ _ _ => trivial
theorem val_tok {g : W → Except Nat α} {R : α → Prop} (h : ∀ t i, g t = .ok i → R i) : Val (tok g) R := fun ts a r e => by
  cases ts with
  | nil => cases e
  | cons t r1 =>
    cases hg : g t with
    | ok i => rw [tok_ok hg] at e; cases e; exact h t _ hg
    | error x => rw [tok_err hg] at e; cases e
theorem val_if {b : Bool} {p q : P α} {R : α → Prop} (hp : Val p R) (hq : Val q R) : Val (if b = true then p else q) R := by split <;> assumption
end
theorem nameE_lt {find : W → Int} {m : Nat} (h : ∀ t, find t < m) {t : W} {i : Nat} (e : nameE find t = .ok i) : i < m := by
  unfold nameE at e
  split at e
  · cases e
  · split at e
    · cases e
    · have := h t
      cases e
      omega
theorem memE_lt {find : W → Int} {m : Nat} (h : ∀ t, find t < m) {g : Nat} {t : W} {i : Nat} (e : memE find g t = .ok i) : i < m := by
  unfold memE at e
  cases hn : nameE find t with
  | ok a =>
    rw [hn] at e
    simp only at e
    split at e
    · cases e
    · cases e; exact nameE_lt h hn
  | error x => rw [hn] at e; cases e
theorem numE_lt {t : W} {i : Nat} (e : numE t = .ok i) : i < 8 := by
  unfold numE at e
  split at e
  · cases e
  · split at e
    · cases e
    · cases e; omega
section
variable {S : Sig} {nA nF : Nat}
theorem val_name {find : W → Int} {m : Nat} (h : ∀ t, find t < m) : Val (name find) (· < m) := val_tok fun t i e => nameE_lt h e
theorem val_group {find : W → Int} {m : Nat} (h : ∀ t, find t < m) : ∀ (n g : Nat), g < 2 ^ m → Val (groupP find n g) fun g => 0 < g ∧ g < 2 ^ m
  | 0, g, _ => val_out
  | n + 1, g, hg => val_bind (val_tok fun t i e => memE_lt h e) fun a ha => by
    have h1 : g ||| 2 ^ a < 2 ^ m := Nat.or_lt_two_pow hg (Nat.pow_lt_pow_right (by omega) ha)
    have h2 : 0 < g ||| 2 ^ a := Nat.lt_of_lt_of_le (Nat.two_pow_pos a) Nat.right_le_or
    exact val_bind (val_any _) fun b _ => val_if (val_group h n _ h1) (val_ret ⟨h2, h1⟩)
theorem q_act {i e : Nat} (h : i < 8) (h' : e < 8) : Q nA nF 17 i e 0 := by
  refine ⟨?_, by simp [usesAgent], by simp [usesFact], by simp [usesGroup]⟩
  simp [own, isOp, zeroed, ranged, within, usesFact, usesAgent, usesEvent, usesGroup]
  omega
end
end Ps
