/- The arguments of the laws about signatures, opened to their cells; what the listed variables of the rows hold. No condition. -/
import Derived.Test.YtbidfbojealmlaaGreatDoorRows
import Derived.Test.YtbidfbojealmlaaGreatDoorPaX
import Derived.Test.YtbidfbojealmlaaGreatDoorDoor
set_option linter.unusedVariables false
set_option linter.unusedSimpArgs false
namespace Go.Proofs.YtbidfbojealmlaaGreatDoor
open Go.ChangeShapes Go.WideShapes Go.ChangeAt Go.Deep Go.Joins Go.RowKit Go.ChangeMaps

theorem row_Sig : 24 < Tryz.prog.types.size := by
  have : decide (24 < Tryz.prog.types.size) = true := by kernel_rfl
  exact of_decide_eq_true this
theorem readable_Sig : Tryz.prog.readableRec 24 = true := by kernel_rfl
section
set_option maxRecDepth 100000
variable {H : Type} {enc : TypeId × Value → H} {w : World} {base : Nat} {spare : Nat → Bool} {held : Bool}
theorem open_names {fuel : Nat} {v : Value} {x : DataW H × List MemPlace} (h : DataW.trod enc Tryz.prog w base spare held fuel 22 [v] = some x) :
    ∃ (l : List ByteArray) (A : Option Addr) (c : Nat), v = .slice A l.length c ∧ Rd w (.slice A l.length c) 1 l.length (strs l) ∧ l.length ≤ 9223372036854775807 ∧ ∀ s ∈ l, s.size ≤ 9223372036854775807 := by
  rcases open_strs Tryz.underlying22 Tryz.underlying9 (by kernel_rfl) h with ⟨hcs, _⟩ | ⟨a, len, cap, m, Sx, hcs, _, hl, hm, hmm, _, hcell⟩
  · obtain rfl := (List.cons.inj hcs).1
    exact ⟨[], none, 0, rfl, Rd.nil _ _, by simp, by simp⟩
  · obtain rfl := (List.cons.inj hcs).1
    have hlm : len ≤ m := by rw [hmm]; split <;> omega
    refine ⟨(List.range len).map Sx, some a, cap, by simp, ⟨by simp, some a, cap, by simp, by simpa using hl, fun h0 => ?_⟩, by simp; unfold maxLen at hm; omega, fun s hs => ?_⟩
    · have h0 : 0 < len := by simpa using h0
      have h00 := (hcell 0 (by omega)).1
      have ha : a = ⟨a.block, a.off, none⟩ := by
        have e := spot_none h00
        have : a.add 0 = a := by simp [Addr.add]
        rwa [this] at e
      refine ⟨a.block, a.off, congrArg some ha, fun j u hu => ?_⟩
      have hj : j < len := by
        have := (List.getElem?_eq_some_iff.1 hu).1
        simpa using this
      rw [List.getElem?_map, List.getElem?_map, List.getElem?_range hj] at hu
      obtain rfl := Option.some.inj hu
      have hc1 := (hcell j (by omega)).1
      rw [ha, Addr.add_lit] at hc1
      exact hc1
    · obtain ⟨i, hi, rfl⟩ := List.mem_map.1 hs
      have := (hcell i (by have := List.mem_range.1 hi; omega)).2
      unfold maxLen at this
      exact this
theorem open_sig {r : Reach} {b0 : Nat} {v : Value} {d : DataW H} {p : List MemPlace} (hv : Value.okWide Tryz.prog w r b0 24 v) (h : DataW.Trod enc Tryz.prog w base spare held 24 v d p) :
    ∃ (S : Sg) (a f c : Option Addr) (ca cf cc : Nat), v = .agg #[.slice a S.A.length ca, .slice f S.F.length cf, .slice c S.C.length cc] ∧ SigR w S a ca f cf c cc := by
  obtain ⟨v0, v1, v2, y0, y1, y2, n, rfl, -, -, h0, h1, h2⟩ := open_agg3 Tryz.underlying24 (by kernel_rfl) (by kernel_rfl) hv h
  obtain ⟨l0, a, ca, rfl, r0, n0, s0⟩ := open_names h0
  obtain ⟨l1, f, cf, rfl, r1, n1, s1⟩ := open_names h1
  obtain ⟨l2, c, cc, rfl, r2, n2, s2⟩ := open_names h2
  refine ⟨⟨l0, l1, l2⟩, a, f, c, ca, cf, cc, rfl, ⟨r0, r1, r2, fun x hx => ?_, n0, n1, n2⟩⟩
  simp only [Sg.all, List.mem_append] at hx
  rcases hx with (hx | hx) | hx
  · exact s0 x hx
  · exact s1 x hx
  · exact s2 x hx
end

end Go.Proofs.YtbidfbojealmlaaGreatDoor
