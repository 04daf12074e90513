/- The signature with the usual names: what the program's Default does. No condition. -/
import Derived.Test.YtcmoocemfnjkiaaDoorSgI
set_option linter.unusedVariables false
set_option linter.unusedSimpArgs false
namespace Go.Proofs.YtcmoocemfnjkiaaDoor
open Go.RowKit

/-- A new signature. -/
def SigNew (w : World) (S : Sg) (v : Value) (w' : World) : Prop := ∃ (a : Option Addr) (ca : Nat) (f : Option Addr) (cf : Nat) (c : Option Addr) (cc : Nat), v = .agg #[.slice a S.A.length ca, .slice f S.F.length cf, .slice c S.C.length cc] ∧ SigR w' S a ca f cf c cc ∧ Keep NoF w w'
theorem sig_def {w W : World} {na nf nc : Nat} (A0 : Option Addr) (q0 : Nat) (A1 : Option Addr) (q1 : Nat) (A2 : Option Addr) (q2 : Nat) (la : na ≤ 4) (lf : nf ≤ 8) (lc : nc ≤ 8)
    (h0 : Rd W (.slice A0 na q0) 1 na (strs (agN.take na))) (h1 : Rd W (.slice A1 nf q1) 1 nf (strs (faN.take nf))) (h2 : Rd W (.slice A2 nc q2) 1 nc (strs (acN.take nc))) (hk : Keep NoF w W) :
    SigNew w ⟨agN.take na, faN.take nf, acN.take nc⟩ (.agg #[.slice A0 na q0, .slice A1 nf q1, .slice A2 nc q2]) W := by
  have e0 : (agN.take na).length = na := by rw [List.length_take, show agN.length = 4 from rfl]; omega
  have e1 : (faN.take nf).length = nf := by rw [List.length_take, show faN.length = 8 from rfl]; omega
  have e2 : (acN.take nc).length = nc := by rw [List.length_take, show acN.length = 8 from rfl]; omega
  refine ⟨A0, q0, A1, q1, A2, q2, by simp only [e0, e1, e2], ⟨?_, ?_, ?_, ?_, ?_, ?_, ?_⟩, hk⟩
  · simpa only [e0] using h0
  · simpa only [e1] using h1
  · simpa only [e2] using h2
  · intro x hx
    have hall : ∀ x ∈ agN ++ faN ++ acN, x.size ≤ 9223372036854775807 := by decide +kernel
    refine hall x ?_
    simp only [Sg.all, List.mem_append] at hx ⊢
    rcases hx with (hx | hx) | hx
    · exact .inl (.inl (List.mem_of_mem_take hx))
    · exact .inl (.inr (List.mem_of_mem_take hx))
    · exact .inr (List.mem_of_mem_take hx)
  · show (agN.take na).length ≤ _; omega
  · show (faN.take nf).length ≤ _; omega
  · show (acN.take nc).length ≤ _; omega
theorem put3 (w : World) (b : Nat) (x y z : Value) : Keep (fun k => k = b) w (((w.setCell ⟨b, 0, none⟩ x).setCell ⟨b, 1, none⟩ y).setCell ⟨b, 2, none⟩ z) := by
  have h0 : Keep (fun k => k = b) w (w.setCell ⟨b, 0, none⟩ x) := (Keep.refl (fun k => k = b) w).setCell (p := ⟨b, 0, none⟩) (.inl rfl) x
  have h1 : Keep (fun k => k = b) w ((w.setCell ⟨b, 0, none⟩ x).setCell ⟨b, 1, none⟩ y) := h0.setCell (p := ⟨b, 1, none⟩) (.inl rfl) y
  exact h1.setCell (p := ⟨b, 2, none⟩) (.inl rfl) z
section
set_option maxRecDepth 100000
set_option maxHeartbeats 2000000
theorem Default_no (a f c : Int) (w : World) (h : ¬ okD a f c) : Calls Tryd.prog 18 #[.int .i64 a, .int .i64 f, .int .i64 c] w fun e w' => e = .returned (.tuple #[.agg #[.slice none 0 0, .slice none 0 0, .slice none 0 0], .int .i64 2]) ∧ Keep NoF w w' := by
  have hc : a < 0 ∨ (0 ≤ a ∧ 4 < a) ∨ (0 ≤ a ∧ a ≤ 4 ∧ f < 0) ∨ (0 ≤ a ∧ a ≤ 4 ∧ 0 ≤ f ∧ 8 < f) ∨ (0 ≤ a ∧ a ≤ 4 ∧ 0 ≤ f ∧ f ≤ 8 ∧ c < 0) ∨ (0 ≤ a ∧ a ≤ 4 ∧ 0 ≤ f ∧ f ≤ 8 ∧ 0 ≤ c ∧ 8 < c) := by unfold okD at h; omega
  clear h
  rcases hc with h1 | ⟨h1, h2⟩ | ⟨h1, h2, h3⟩ | ⟨h1, h2, h3, h4⟩ | ⟨h1, h2, h3, h4, h5⟩ | ⟨h1, h2, h3, h4, h5, h6⟩
  all_goals
    go_enter Tryd.func18, Tryd.ntmps18
    go_wp2
    refine bodyPost_ret (v := .tuple #[.agg #[.slice none 0 0, .slice none 0 0, .slice none 0 0], .int .i64 2]) (by simp [results, Tryd.results18, go_sem]) rfl ?_
    exact ⟨rfl, (Keep.refl _ _).alloc _⟩
end
end Go.Proofs.YtcmoocemfnjkiaaDoor
