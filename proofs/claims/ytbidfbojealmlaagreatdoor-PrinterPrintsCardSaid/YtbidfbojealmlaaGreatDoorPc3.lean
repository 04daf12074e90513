/- What texts that are put together are read as, plain. No condition. -/
import Derived.Test.YtbidfbojealmlaaGreatDoorPaU
set_option linter.unusedVariables false
set_option linter.unusedSimpArgs false
namespace Ps
open Fm (Form cl Good)
open Fm.Form

section
variable {S : Sig}
section
variable {p q : P Form} {ts r : List W} {t : Form} {n : Nat}
theorem take_not' {s : W} {r : List W} (hw : ∀ r', r ≠ s :: r') : take s r = .ok false r := by
  cases r with
  | nil => rfl
  | cons y r => exact take_no (fun e => hw r (by rw [e])) r
theorem time_pass (h : p ts = .ok t r) (h1 : ∀ r', r ≠ wUntil :: r') (h2 : ∀ r', r ≠ wSince :: r') : timeP p (n + 1) ts = .ok t r := by
  simp only [timeP, bind, h, take_not' h1, take_not' h2, Bool.false_eq_true, if_false, ret]
theorem imp_pass (h : p ts = .ok t r) (h1 : ∀ r', r ≠ wImp :: r') : impP p (n + 1) ts = .ok t r := by
  simp only [impP, bind, h, take_not' h1, Bool.false_eq_true, if_false, ret]
/-- No operator behind it. -/
def stopR (r : List W) : Prop := ∀ t r', r = t :: r' → t ∉ [wAnd, wOr, wUntil, wSince, wImp, wIff]
theorem stop_ne {s : W} (h : stopR r) (hs : s ∈ [wAnd, wOr, wUntil, wSince, wImp, wIff]) : ∀ r', r ≠ s :: r' := fun r' e => h s r' e hs
end
section
variable {α β : Type}
end
end
end Ps
