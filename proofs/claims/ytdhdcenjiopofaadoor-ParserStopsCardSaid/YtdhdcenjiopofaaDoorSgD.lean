/- A signature as an argument; what both functions Check do. Conditions: the variables lie as they are read. -/
import Derived.Test.YtdhdcenjiopofaaDoorSgC
set_option linter.unusedVariables false
set_option linter.unusedSimpArgs false
namespace Go.Proofs.YtdhdcenjiopofaaDoor
open Go.RowKit

/-- The signature S lies at the three slices. -/
structure SigR (w : World) (S : Sg) (a : Option Addr) (ca : Nat) (f : Option Addr) (cf : Nat) (c : Option Addr) (cc : Nat) : Prop where
  A : Rd w (.slice a S.A.length ca) 1 S.A.length (strs S.A)
  F : Rd w (.slice f S.F.length cf) 1 S.F.length (strs S.F)
  C : Rd w (.slice c S.C.length cc) 1 S.C.length (strs S.C)
  sz : ∀ x ∈ S.all, x.size ≤ 9223372036854775807
  lA : S.A.length ≤ 9223372036854775807
  lF : S.F.length ≤ 9223372036854775807
  lC : S.C.length ≤ 9223372036854775807
theorem SigR.keep {w w' : World} {S : Sg} {a f c : Option Addr} {ca cf cc : Nat} (h : SigR w S a ca f cf c cc) (hk : Keep NoF w w') : SigR w' S a ca f cf c cc :=
  ⟨h.A.kept hk fun _ _ h => h, h.F.kept hk fun _ _ h => h, h.C.kept hk fun _ _ h => h, h.sz, h.lA, h.lF, h.lC⟩
/-- The cells of a signature in a variable of the callee. -/
def boxS (S : Sg) (a : Option Addr) (ca : Nat) (f : Option Addr) (cf : Nat) (c : Option Addr) (cc : Nat) : Array Value := #[.slice a S.A.length ca, .slice f S.F.length cf, .slice c S.C.length cc]
theorem box_cells {w w' : World} {S : Sg} {a f c : Option Addr} {ca cf cc : Nat} {t : TypeId} (hk : Keep NoF (w.alloc (.cells (boxS S a ca f cf c cc) t)) w') :
    w'.cell? ⟨w.heap.size, 0, none⟩ = some (.slice a S.A.length ca) ∧ w'.cell? ⟨w.heap.size, 1, none⟩ = some (.slice f S.F.length cf) ∧ w'.cell? ⟨w.heap.size, 2, none⟩ = some (.slice c S.C.length cc) ∧ w.heap.size + 1 ≤ w'.heap.size := by
  have hb := Bk.new w t (boxS S a ca f cf c cc)
  refine ⟨hk.cellv ((hb.cell 0).trans rfl) fun h => h, hk.cellv ((hb.cell 1).trans rfl) fun h => h, hk.cellv ((hb.cell 2).trans rfl) fun h => h, ?_⟩
  have := hk.size
  rwa [World.size_alloc] at this
theorem strs_snoc (l : List ByteArray) (x : ByteArray) : strs l ++ [Value.string x] = strs (l ++ [x]) := by simp [strs]
theorem take_snoc {l : List ByteArray} {k : Nat} {x : ByteArray} (h : l[k]? = some x) : l.take (k + 1) = l.take k ++ [x] := by
  rw [List.take_add_one, h]
  rfl

section
set_option maxRecDepth 100000
set_option maxHeartbeats 2000000
end
end Go.Proofs.YtdhdcenjiopofaaDoor
