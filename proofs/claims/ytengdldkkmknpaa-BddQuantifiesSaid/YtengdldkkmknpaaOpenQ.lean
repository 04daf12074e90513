/- The argument of BddQuantifies that says what is asked, opened to its cells. No condition. -/
import Derived.Test.YtengdldkkmknpaaOpen
set_option linter.unusedVariables false
set_option linter.unusedSimpArgs false
namespace Go.Proofs.Ytengdldkkmknpaa
open Go.ChangeShapes Go.WideShapes Go.Deep Go.Joins
open Go.RowKit

theorem readable_Ask : Try.prog.readableRec 53 = true := by kernel_rfl
theorem row_Ask : 53 < Try.prog.types.size := by
  have : decide (53 < Try.prog.types.size) = true := by kernel_rfl
  exact of_decide_eq_true this
theorem open_ask {H : Type} {enc : TypeId × Value → H} {w : World} {base : Nat} {spare : Nat → Bool} {held : Bool} {r : Reach} {b0 : Nat} {v : Value} {d : DataW H} {p : List MemPlace} (hv : Value.okWide Try.prog w r b0 53 v) (h : DataW.Trod enc Try.prog w base spare held 53 v d p) :
    ∃ (qv : Int) (qb : Bool) (qs : Nat), v = .agg #[.int .i64 qv, .bool qb, .int .u64 qs] ∧ qs < 18446744073709551616 := by
  obtain ⟨v0, v1, v2, y0, y1, y2, n, rfl, _, _, t0, t1, t2⟩ := open_agg3 Try.underlying53 (by kernel_rfl) (by kernel_rfl) hv h
  obtain ⟨n0, e0, _, _⟩ := DataW.trod_int Try.underlying3 t0
  obtain ⟨n1, e1, _⟩ := DataW.trod_bool Try.underlying4 t1
  obtain ⟨n2, e2, _, hw⟩ := DataW.trod_int Try.underlying25 t2
  obtain rfl : v0 = .int .i64 n0 := by simpa using e0
  obtain rfl : v1 = .bool n1 := by simpa using e1
  obtain rfl : v2 = .int .u64 n2 := by simpa using e2
  have hb := bounds_u64 hw
  obtain ⟨m, rfl⟩ : ∃ m : Nat, n2 = m := ⟨n2.toNat, by omega⟩
  exact ⟨n0, n1, m, rfl, by omega⟩
theorem shut_ask {H : Type} {enc : TypeId × Value → H} {W W' : World} {base : Nat} {sp : Nat → Bool} {v : Value} {d : DataW H} {ps : List MemPlace} (h : DataW.Trod enc Try.prog W base (fun _ => true) true 53 v d ps) (hb : Below W.heap.size W W') (hlt : ∀ p ∈ ps, p.block < W.heap.size) (hs : ∀ p ∈ ps, sp p.block = true) :
    DataW.Trod enc Try.prog W' base sp true 53 v d ps :=
  WideElems.Trod_stays laid_prog readable_Ask row_Ask h (fun p hp => hb.same (hlt p hp)) hs
end Go.Proofs.Ytengdldkkmknpaa
