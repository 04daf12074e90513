/- The arguments of the laws about sets of states, opened to their cells. No condition. -/
import Derived.Test.YtgdmcidcappkpaaDoorOpen
import Derived.Test.YtgdmcidcappkpaaDoorSyJ
import Derived.OpenShut
import Derived.ProofKit
set_option linter.unusedVariables false
set_option linter.unusedSimpArgs false
namespace Go.Proofs.YtgdmcidcappkpaaDoor
open Go.ChangeShapes Go.WideShapes Go.ChangeAt Go.Deep Go.Joins Go.RowKit
set_option maxRecDepth 100000

theorem nat_u64 {a : Int} (h : (Lit.int .u64 a).wf = true) : ∃ n : Nat, a = n ∧ n < 18446744073709551616 := by
  simp [Lit.wf, IntKind.min, IntKind.max, IntKind.signed, IntKind.bits] at h
  exact ⟨a.toNat, by omega, by omega⟩
theorem nat_u8 {a : Int} (h : (Lit.int .u8 a).wf = true) : ∃ n : Nat, a = n ∧ n < 256 := by
  simp [Lit.wf, IntKind.min, IntKind.max, IntKind.signed, IntKind.bits] at h
  exact ⟨a.toNat, by omega, by omega⟩
theorem row_u64s : 23 < Tryd.prog.types.size := by
  have : decide (23 < Tryd.prog.types.size) = true := by kernel_rfl
  exact of_decide_eq_true this
theorem readable_u64s : Tryd.prog.readableRec 23 = true := by kernel_rfl
theorem shut_read {H : Type} {enc : TypeId × Value → H} {t : TypeId} (hr : Tryd.prog.readableRec t = true) (ht : t < Tryd.prog.types.size) {W W' : World} {base : Nat} {sp : Nat → Bool} {v : Value} {d : DataW H} {ps : List MemPlace} (h : DataW.Trod enc Tryd.prog W base (fun _ => true) true t v d ps) (hb : Below W.heap.size W W') (hlt : ∀ p ∈ ps, p.block < W.heap.size) (hs : ∀ p ∈ ps, sp p.block = true) :
    DataW.Trod enc Tryd.prog W' base sp true t v d ps :=
  WideElems.Trod_stays laid_prog hr ht h (fun p hp => hb.same (hlt p hp)) hs
section
variable {H : Type} {enc : TypeId × Value → H} {w : World} {base : Nat} {spare : Nat → Bool} {held : Bool}
theorem open_nums {t e : TypeId} {k : IntKind} (ht : Tryd.prog.underlying t = some (.slice e)) (he : Tryd.prog.underlying e = some (.int k)) (hc : Tryd.prog.cellsOf e = 1) {r : Reach} {b0 : Nat} {v : Value} {d : DataW H} {p : List MemPlace}
    (hv : Value.okWide Tryd.prog w r b0 t v) (h : DataW.Trod enc Tryd.prog w base spare held t v d p) :
    ∃ (l : List Int) (A : Option Addr) (c : Nat), v = .slice A l.length c ∧ Rd w (.slice A l.length c) 1 l.length (l.map (.int k)) ∧ l.length ≤ 9223372036854775807 ∧ ∀ n ∈ l, (Lit.int k n).wf = true := by
  obtain ⟨fuel, hf⟩ := h
  obtain ⟨A, len, cap, rfl⟩ := okWide_slice ht hv
  rcases open_ints ht he hc hf with ⟨hcs, _⟩ | ⟨a, len', cap', zs, hcs, _, hl, hm, hz, _, hcell, hw⟩
  · obtain ⟨rfl, rfl, rfl⟩ : A = none ∧ len = 0 ∧ cap = 0 := by simpa [Value.cells] using hcs
    exact ⟨[], none, 0, rfl, Rd.nil _ _, by simp, by simp⟩
  · obtain ⟨rfl, rfl, rfl⟩ : A = some a ∧ len = len' ∧ cap = cap' := by simpa [Value.cells] using hcs
    have hlz : len ≤ zs.length := by rw [hz]; split <;> omega
    have hlen : (zs.take len).length = len := by rw [List.length_take]; omega
    refine ⟨zs.take len, some a, cap, by rw [hlen], ⟨by simp, some a, cap, rfl, by rw [hlen]; exact hl, fun h0 => ?_⟩, by rw [hlen]; unfold maxLen at hm; omega, fun n hn => hw n (List.mem_of_mem_take hn)⟩
    rw [hlen] at h0
    have h00 := hcell 0 (by omega)
    have ha : a = ⟨a.block, a.off, none⟩ := by
      have e := spot_none h00
      have : a.add 0 = a := by simp [Addr.add]
      rwa [this] at e
    refine ⟨a.block, a.off, congrArg some ha, fun j u hu => ?_⟩
    rw [List.getElem?_map] at hu
    obtain ⟨z, hz1, rfl⟩ := Option.map_eq_some_iff.1 hu
    have hj : j < len := by
      have := (List.getElem?_eq_some_iff.1 hz1).1
      rwa [hlen] at this
    have hc1 := hcell j (by omega)
    rw [ha, Addr.add_lit] at hc1
    rw [List.getElem?_take_of_lt hj] at hz1
    rw [hc1, List.getD_eq_getElem?_getD, hz1]
    rfl
theorem open_u64s {r : Reach} {b0 : Nat} {v : Value} {d : DataW H} {p : List MemPlace} (hv : Value.okWide Tryd.prog w r b0 23 v) (h : DataW.Trod enc Tryd.prog w base spare held 23 v d p) :
    ∃ (l : List Nat) (A : Option Addr) (c : Nat), v = .slice A l.length c ∧ Rd w (.slice A l.length c) 1 l.length (n64 l) ∧ l.length ≤ 9223372036854775807 ∧ ∀ n ∈ l, n < 18446744073709551616 := by
  obtain ⟨l, A, c, rfl, hr, hl, hw⟩ := open_nums Tryd.underlying23 Tryd.underlying31 (by kernel_rfl) hv h
  have hn : ∀ n ∈ l, ∃ m : Nat, n = m ∧ m < 18446744073709551616 := fun n hn => nat_u64 (hw n hn)
  have hll : (l.map Int.toNat).length = l.length := by simp
  have hml : n64 (l.map Int.toNat) = l.map (.int .u64) := by
    unfold n64
    rw [List.map_map]
    refine List.map_congr_left fun n hn' => ?_
    obtain ⟨m, rfl, _⟩ := hn n hn'
    simp
  refine ⟨l.map Int.toNat, A, c, by rw [hll], by rw [hll, hml]; exact hr, by rw [hll]; exact hl, fun n hn' => ?_⟩
  obtain ⟨z, hz, rfl⟩ := List.mem_map.1 hn'
  obtain ⟨m, rfl, hm⟩ := hn z hz
  simpa using hm
end
end Go.Proofs.YtgdmcidcappkpaaDoor
