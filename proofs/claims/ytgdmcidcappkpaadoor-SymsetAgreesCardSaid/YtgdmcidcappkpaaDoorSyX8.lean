/- An array of eight bytes as an argument. No condition. -/
import Derived.Test.YtgdmcidcappkpaaDoorSyX
import Derived.ChangeMaps5
set_option linter.unusedVariables false
set_option linter.unusedSimpArgs false
namespace Go.Proofs.YtgdmcidcappkpaaDoor
open Go.ChangeShapes Go.WideShapes Go.ChangeAt Go.Deep Go.Joins Go.RowKit Go.ChangeMaps
set_option maxRecDepth 100000

theorem row_b8 : 22 < Tryd.prog.types.size := by
  have : decide (22 < Tryd.prog.types.size) = true := by kernel_rfl
  exact of_decide_eq_true this
theorem readable_b8 : Tryd.prog.readableRec 22 = true := by kernel_rfl
theorem array8 {cs : Array Value} (h : cs.size = 8) : ∃ c0 c1 c2 c3 c4 c5 c6 c7, cs = #[c0, c1, c2, c3, c4, c5, c6, c7] := by
  obtain ⟨l⟩ := cs
  match l, h with
  | [c0, c1, c2, c3, c4, c5, c6, c7], _ => exact ⟨c0, c1, c2, c3, c4, c5, c6, c7, rfl⟩
section
variable {H : Type} {enc : TypeId × Value → H} {w : World} {base : Nat} {spare : Nat → Bool} {held : Bool}
theorem open_b8 {r : Reach} {b0 : Nat} {v : Value} {d : DataW H} {p : List MemPlace} (hv : Value.okWide Tryd.prog w r b0 22 v) (h : DataW.Trod enc Tryd.prog w base spare held 22 v d p) :
    ∃ x0 x1 x2 x3 x4 x5 x6 x7 : Nat, v = .agg #[.int .u8 x0, .int .u8 x1, .int .u8 x2, .int .u8 x3, .int .u8 x4, .int .u8 x5, .int .u8 x6, .int .u8 x7] ∧ x0 < 256 ∧ x1 < 256 ∧ x2 < 256 ∧ x3 < 256 ∧ x4 < 256 ∧ x5 < 256 ∧ x6 < 256 ∧ x7 < 256 := by
  obtain ⟨cs, rfl, hsz⟩ : ∃ cs, v = .agg cs ∧ cs.size = 8 := by
    obtain ⟨fuel, hf⟩ := h
    obtain ⟨xs, m, _, _, hlen, _⟩ := DataW.trod_array Tryd.underlying22 hf
    simp only [Value.okWide, Tryd.underlying22, Cell.okWide] at hv
    cases v <;> simp_all [Cell.ok]
    exact (show Tryd.prog.cellsOf 22 = 8 by kernel_rfl)
  obtain ⟨c0, c1, c2, c3, c4, c5, c6, c7, rfl⟩ := array8 hsz
  obtain ⟨fuel, hf⟩ := h
  obtain ⟨xs, m, _, _, _, hxl, hel⟩ := DataW.trod_array Tryd.underlying22 hf
  rw [show Tryd.prog.cellsOf 5 = 1 by kernel_rfl] at hel
  have g : ∀ i, i < 8 → ∃ n : Nat, ((#[c0, c1, c2, c3, c4, c5, c6, c7] : Array Value).toList.drop i).take 1 = [.int .u8 n] ∧ n < 256 := fun i hi => by
    have e := hel i hi
    rw [Nat.mul_one, List.getElem?_eq_getElem (by omega)] at e
    obtain ⟨z, e1, e2, e3⟩ := DataW.trod_int Tryd.underlying5 e
    obtain ⟨n, rfl, hn⟩ := nat_u8 e3
    exact ⟨n, by simpa [Value.cells] using e1, hn⟩
  obtain ⟨n0, e0, b0⟩ := g 0 (by omega)
  obtain ⟨n1, e1, b1⟩ := g 1 (by omega)
  obtain ⟨n2, e2, b2⟩ := g 2 (by omega)
  obtain ⟨n3, e3, b3⟩ := g 3 (by omega)
  obtain ⟨n4, e4, b4⟩ := g 4 (by omega)
  obtain ⟨n5, e5, b5⟩ := g 5 (by omega)
  obtain ⟨n6, e6, b6⟩ := g 6 (by omega)
  obtain ⟨n7, e7, b7⟩ := g 7 (by omega)
  simp at e0 e1 e2 e3 e4 e5 e6 e7
  exact ⟨n0, n1, n2, n3, n4, n5, n6, n7, by rw [e0, e1, e2, e3, e4, e5, e6, e7], b0, b1, b2, b3, b4, b5, b6, b7⟩
end
end Go.Proofs.YtgdmcidcappkpaaDoor
