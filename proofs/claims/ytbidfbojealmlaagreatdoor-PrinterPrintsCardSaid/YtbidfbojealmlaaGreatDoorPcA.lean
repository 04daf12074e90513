/- Package formula: the masks of the agents and of the facts of right nodes; Fits. Package formula: what union, Agents, Facts and Fits do at right nodes. No condition. -/
import Derived.Test.YtbidfbojealmlaaGreatDoorPaF
import Derived.Test.YtbidfbojealmlaaGreatDoorFmH
import Derived.Laws.Bits64b
import Derived.Deep.RegionHeld3
set_option linter.unusedVariables false
set_option linter.unusedSimpArgs false
namespace Go.Proofs.YtbidfbojealmlaaGreatDoor
open Go.RowKit
open Fm (Nd checkE compactL cl usesX usesY usesAgent usesFact usesGroup usesEvent put ins)

def mA (n : Nd) : Nat := if usesAgent n.op = true then 2 ^ n.i.toNat else n.g.toNat
def mF (n : Nd) : Nat := if usesFact n.op = true then 2 ^ n.i.toNat else 0
theorem own_ranges {op i e g : Int} (h : Fm.own op i e g = true) : (usesAgent op = true → 0 ≤ i ∧ i ≤ 3) ∧ (usesFact op = true → 0 ≤ i ∧ i ≤ 7) ∧ 0 ≤ g ∧ g ≤ 15 ∧ (usesGroup op = false → g = 0) := by
  simp only [Fm.own, Fm.zeroed, Fm.ranged, Fm.within] at h
  revert h
  cases usesAgent op <;> cases usesFact op <;> cases usesEvent op <;> cases usesGroup op <;> simp <;> omega
theorem or_small {a b : Nat} (ha : a < 256) (hb : b < 256) : bits .or .i64 (a : Int) (b : Int) = ((a ||| b : Nat) : Int) := by
  have hx : a ||| b < 2 ^ 8 := Nat.or_lt_two_pow (by omega) (by omega)
  have h1 : (BitVec.ofInt 64 (a : Int)).toNat = a := by
    rw [BitVec.ofInt_natCast, BitVec.toNat_ofNat]; exact Nat.mod_eq_of_lt (by omega)
  have h2 : (BitVec.ofInt 64 (b : Int)).toNat = b := by
    rw [BitVec.ofInt_natCast, BitVec.toNat_ofNat]; exact Nat.mod_eq_of_lt (by omega)
  show IntKind.i64.wrap ((BitVec.ofInt 64 (a : Int) ||| BitVec.ofInt 64 (b : Int)).toNat : Int) = _
  rw [BitVec.toNat_or, h1, h2, IntKind.wrap_i64]
  omega
section
set_option maxRecDepth 100000
set_option maxHeartbeats 4000000
theorem agents1_any (n : Nd) (w : World) (h : Fm.own n.op n.i n.e n.g = true) : Calls Tryz.prog 43 #[ndV n, useV n.op] w fun e w' => e = .returned (.int .i64 (mA n : Int)) ∧ Keep NoF w w' := by
  obtain ⟨op, i, e, g, x, y⟩ := n
  obtain ⟨r1, r2, r3, r5, r4⟩ := own_ranges h
  simp only [useV, useC, mA] at *
  generalize usesX op = u0 at *
  generalize usesY op = u1 at *
  generalize usesFact op = u2 at *
  generalize usesGroup op = u4 at *
  generalize usesEvent op = u5 at *
  generalize fragN op = fr at *
  cases ha : usesAgent op with
  | true =>
    obtain ⟨i0, i1⟩ := r1 ha
    have hi : i = 0 ∨ i = 1 ∨ i = 2 ∨ i = 3 := by omega
    clear h r1 r2 r4
    rcases hi with rfl | rfl | rfl | rfl
    all_goals
      go_enter Tryz.func43, Tryz.ntmps43
      go_wp2
      go_ret
      exact ⟨rfl, ((Keep.refl _ _).alloc _).alloc _⟩
  | false =>
    have hg : ((g.toNat : Nat) : Int) = g := by omega
    clear h r1 r2 r4
    rw [if_neg (by simp), hg]
    go_enter Tryz.func43, Tryz.ntmps43
    go_wp2
    go_ret
    exact ⟨rfl, ((Keep.refl _ _).alloc _).alloc _⟩
theorem facts1_any (n : Nd) (w : World) (h : Fm.own n.op n.i n.e n.g = true) : Calls Tryz.prog 42 #[ndV n, useV n.op] w fun e w' => e = .returned (.int .i64 (mF n : Int)) ∧ Keep NoF w w' := by
  obtain ⟨op, i, e, g, x, y⟩ := n
  obtain ⟨r1, r2, r3, r5, r4⟩ := own_ranges h
  simp only [useV, useC, mF] at *
  generalize usesX op = u0 at *
  generalize usesY op = u1 at *
  generalize usesAgent op = u3 at *
  generalize usesGroup op = u4 at *
  generalize usesEvent op = u5 at *
  generalize fragN op = fr at *
  cases ha : usesFact op with
  | true =>
    obtain ⟨i0, i1⟩ := r2 ha
    have hi : i = 0 ∨ i = 1 ∨ i = 2 ∨ i = 3 ∨ i = 4 ∨ i = 5 ∨ i = 6 ∨ i = 7 := by omega
    clear h r1 r2 r4
    rcases hi with rfl | rfl | rfl | rfl | rfl | rfl | rfl | rfl
    all_goals
      go_enter Tryz.func42, Tryz.ntmps42
      go_wp2
      go_ret
      exact ⟨rfl, ((Keep.refl _ _).alloc _).alloc _⟩
  | false =>
    clear h r1 r2 r4
    rw [if_neg (by simp)]
    go_enter Tryz.func42, Tryz.ntmps42
    go_wp2
    go_ret
    exact ⟨rfl, ((Keep.refl _ _).alloc _).alloc _⟩
end
end Go.Proofs.YtbidfbojealmlaaGreatDoor
namespace Go.Proofs.YtbidfbojealmlaaGreatDoor
open Go.RowKit
open Fm (Nd checkE compactL cl usesX usesY usesAgent usesFact usesGroup usesEvent put ins Form)
theorem box6 {w w' : World} {a b c d e f : Int} {t : TypeId} (hk : Keep NoF (w.alloc (.cells #[.int .i64 a, .int .i64 b, .int .i64 c, .int .i64 d, .int .i64 e, .int .i64 f] t)) w') :
    w'.cell? ⟨w.heap.size, 0, none⟩ = some (.int .i64 a) ∧ w'.cell? ⟨w.heap.size, 1, none⟩ = some (.int .i64 b) ∧ w'.cell? ⟨w.heap.size, 2, none⟩ = some (.int .i64 c) ∧ w'.cell? ⟨w.heap.size, 3, none⟩ = some (.int .i64 d) ∧ w'.cell? ⟨w.heap.size, 4, none⟩ = some (.int .i64 e) ∧ w'.cell? ⟨w.heap.size, 5, none⟩ = some (.int .i64 f) ∧ w.heap.size + 1 ≤ w'.heap.size := by
  have hb := Bk.new w t #[.int .i64 a, .int .i64 b, .int .i64 c, .int .i64 d, .int .i64 e, .int .i64 f]
  refine ⟨hk.cellv ((hb.cell 0).trans rfl) fun h => h, hk.cellv ((hb.cell 1).trans rfl) fun h => h, hk.cellv ((hb.cell 2).trans rfl) fun h => h, hk.cellv ((hb.cell 3).trans rfl) fun h => h, hk.cellv ((hb.cell 4).trans rfl) fun h => h, hk.cellv ((hb.cell 5).trans rfl) fun h => h, ?_⟩
  have := hk.size
  rwa [World.size_alloc] at this
section
set_option maxRecDepth 100000
set_option maxHeartbeats 4000000
end
end Go.Proofs.YtbidfbojealmlaaGreatDoor
