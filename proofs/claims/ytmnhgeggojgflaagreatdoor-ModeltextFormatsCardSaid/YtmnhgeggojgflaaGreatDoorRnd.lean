/- A region in the round of a range over a function: the laws on its order outside of rounds serve, where the post bars outgrowing. No condition. -/
import Derived.Deep.RegionHeld3
import Derived.RangeFuncCalls
import Derived.RangeFuncLeaves
import Derived.Stop.RegionWithIn
set_option linter.unusedVariables false
set_option linter.unusedSimpArgs false
namespace Go.Proofs.YtmnhgeggojgflaaGreatDoor
open Go.RowKit

section
variable {P : Program} {md : Region.Mode} {ops : Array Oper} {Q : Exit → Act → World → Prop} {l n : Nat}
theorem rows_round {row : String} {args : Array Value} {w : World} {R : Value → World → Prop} (h : Rows P row args w R) : RowsIn (Fence.wide.inRound l) n P row args w R :=
  fun c cs _ => let ⟨v, w', r, s⟩ := h c cs; ⟨v, w', r, stepsIn_wide.2 s⟩
theorem op_round (hQ : ∀ a w, ¬ Q .outgrown a w) {i : Nat} (hd : ∀ (o : Oper) (c : Call), ops[i]? = some o → o.op ≠ .defer c) {K K' : Act → World → Prop} (hK : ∀ a w, K a w → K' a w) {a : Act} {w : World} (h : wpOp P ops Q i K a w) : wpOpIn (Fence.wide.inRound l) n P ops Q i K' a w := by
  unfold wpOp at h
  unfold wpOpIn
  cases ho : ops[i]? with
  | none => rw [ho] at h; exact hK _ _ h
  | some o =>
    rw [ho] at h
    simp only at h ⊢
    by_cases hw : Region.wanted o (yielded ops a.tmps) = true
    · rw [if_pos hw] at h ⊢
      rcases h with h | ⟨-, a', w', hl⟩
      · refine ⟨fun f _ => trivial, ?_⟩
        rw [Oper.semAt_eq _ _ _ fun c => hd o c ho]
        unfold Oper.wp at h
        generalize (execOp a.eval o).run P w = r at *
        cases r with
        | halt x w' => cases x <;> first | exact h | exact h.elim
        | ok x w' =>
          cases x with
          | value v => exact hK _ _ h
          | skip => exact hK _ _ h
          | defer d => exact hK _ _ h
          | enter f args =>
            refine ⟨fun h => absurd (show (false : Bool) = true from h) (by decide), CallsIn.inRound l (callsIn_wide.2 (Calls.mono h fun e w'' he => ?_))⟩
            cases e with
            | returned v => exact hK _ _ he
            | panicked c => exact he
            | outgrown => exact he
          | row r args => exact ⟨fun h => absurd (show (false : Bool) = true from h) (by decide), rows_round (Rows.mono h fun v w'' he => hK _ _ he)⟩
          | _ => exact h.elim
      · exact absurd hl (hQ _ _)
    · rw [if_neg hw] at h ⊢
      exact ⟨fun f _ => trivial, hK _ _ h⟩
theorem any_round (hQ : ∀ a w, ¬ Q .outgrown a w) (hd : ∀ (i : Nat) (o : Oper) (c : Call), ops[i]? = some o → o.op ≠ .defer c) : ∀ (fuel : Nat) (listed : Array Bool) (a : Act) (w : World), wpAny P md ops Q fuel listed a w → wpAnyIn (Fence.wide.inRound l) n P md ops Q fuel listed a w
  | 0, _, _, _, h => h
  | fuel + 1, listed, a, w, h => ⟨h.1, fun i hi => op_round hQ (hd i) (fun a w hk => any_round hQ hd fuel _ a w hk) (h.2 i hi)⟩
def noDefer (ops : Array Oper) : Bool := ops.all fun o => match o.op with
  | .defer _ => false
  | _ => true
theorem noDefer_spec (h : noDefer ops = true) : ∀ (i : Nat) (o : Oper) (c : Call), ops[i]? = some o → o.op ≠ .defer c := fun i o c hi he => by
  unfold noDefer at h
  rw [Array.all_eq_true] at h
  obtain ⟨hlt, rfl⟩ := Array.getElem?_eq_some_iff.1 hi
  have := h i hlt
  rw [he] at this
  cases this
/-- The beginning: a region that draws, in a round, with a condition on the world. -/
theorem region_round {id : Nat} {a : Act} {w : World} (S : World → Prop) (hm : P.follows .mixedOrders = true) (hd : noDefer ops = true) (hQ : ∀ a w, ¬ Q .outgrown a w) (hS : S w.drew)
    (h : S w.drew → wpAnyH P .any ops Q S ops.size (Array.replicate ops.size false) a w.drew) : (Code.region id ops true).wpIn (Fence.wide.inRound l) n P Q a w :=
  wpIn_region_any hm (any_round hQ (noDefer_spec hd) _ _ _ _ (wpAny_of_held _ _ _ _ (h hS)))
end
end Go.Proofs.YtmnhgeggojgflaaGreatDoor
