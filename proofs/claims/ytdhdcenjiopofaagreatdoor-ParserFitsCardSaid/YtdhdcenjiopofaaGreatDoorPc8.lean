/- Package formula: the masks of the agents and of the facts of right nodes; Fits. No condition. -/
import Derived.Test.YtdhdcenjiopofaaGreatDoorPaF
import Derived.Test.YtdhdcenjiopofaaGreatDoorFmH
import Derived.Test.YtdhdcenjiopofaaGreatDoorFmI
import Derived.Laws.Bits64b
set_option linter.unusedVariables false
set_option linter.unusedSimpArgs false
namespace Go.Proofs.YtdhdcenjiopofaaGreatDoor
open Go.RowKit
open Fm (Nd checkE compactL cl usesX usesY usesAgent usesFact usesGroup usesEvent put ins)

def mA (n : Nd) : Nat := if usesAgent n.op = true then 2 ^ n.i.toNat else n.g.toNat
def mF (n : Nd) : Nat := if usesFact n.op = true then 2 ^ n.i.toNat else 0
def QAll (nA nF : Nat) (o : List Nd) : Prop := ∀ n ∈ o, Ps.Q nA nF n.op n.i n.e n.g
theorem put_q {nA nF : Nat} {n : Nd} {o : List Nd} (h : QAll nA nF o) (hn : Ps.Q nA nF n.op n.i n.e n.g) : QAll nA nF (put n o).2 := by
  unfold put
  split
  · exact h
  · intro m hm
    rcases List.mem_append.1 hm with hm | hm
    · exact h m hm
    · rw [List.mem_singleton.1 hm]; exact hn
theorem ins_q {nA nF : Nat} : ∀ {t : Fm.Form} {o : List Nd}, Ps.TG nA nF t → QAll nA nF o → QAll nA nF (ins t o).2
  | .leaf .., _, h, ho => put_q ho h.2
  | .un .., _, h, ho => put_q (ins_q h.2.2.2 ho) h.2.2.1
  | .bin .., _, h, ho => put_q (ins_q h.2.2.2 (ins_q h.2.2.1 ho)) h.2.1
theorem cl_q {nA nF : Nat} {t : Fm.Form} (h : Ps.TG nA nF t) : QAll nA nF (cl t) := ins_q h fun n hn => by simp at hn
theorem own_ranges {op i e g : Int} (h : Fm.own op i e g = true) : (usesAgent op = true → 0 ≤ i ∧ i ≤ 3) ∧ (usesFact op = true → 0 ≤ i ∧ i ≤ 7) ∧ 0 ≤ g ∧ g ≤ 15 ∧ (usesGroup op = false → g = 0) := by
  simp only [Fm.own, Fm.zeroed, Fm.ranged, Fm.within] at h
  revert h
  cases usesAgent op <;> cases usesFact op <;> cases usesEvent op <;> cases usesGroup op <;> simp <;> omega
theorem q_masks {nA nF : Nat} {op i e g x y : Int} (h : Ps.Q nA nF op i e g) : mA ⟨op, i, e, g, x, y⟩ < 2 ^ nA ∧ mF ⟨op, i, e, g, x, y⟩ < 2 ^ nF := by
  obtain ⟨ho, h1, h2, h3⟩ := h
  obtain ⟨r1, r2, r3, _, r4⟩ := own_ranges ho
  have hp1 := Nat.two_pow_pos nA
  have hp2 := Nat.two_pow_pos nF
  unfold mA mF
  constructor
  · split
    · rename_i ha
      have := h1 ha
      have := r1 ha
      exact Nat.pow_lt_pow_right (by omega) (by simp only; omega)
    · cases hg : usesGroup op with
      | true => have : g < ((2 ^ nA : Nat) : Int) := by exact_mod_cast h3 hg
                simp only; omega
      | false => rw [r4 hg]; exact hp1
  · split
    · rename_i hf
      have := h2 hf
      have := r2 hf
      exact Nat.pow_lt_pow_right (by omega) (by simp only; omega)
    · exact hp2
theorem or_small {a b : Nat} (ha : a < 256) (hb : b < 256) : bits .or .i64 (a : Int) (b : Int) = ((a ||| b : Nat) : Int) := by
  have hx : a ||| b < 2 ^ 8 := Nat.or_lt_two_pow (by omega) (by omega)
  have h1 : (BitVec.ofInt 64 (a : Int)).toNat = a := by
    rw [BitVec.ofInt_natCast, BitVec.toNat_ofNat]; exact Nat.mod_eq_of_lt (by omega)
  have h2 : (BitVec.ofInt 64 (b : Int)).toNat = b := by
    rw [BitVec.ofInt_natCast, BitVec.toNat_ofNat]; exact Nat.mod_eq_of_lt (by omega)
  show IntKind.i64.wrap ((BitVec.ofInt 64 (a : Int) ||| BitVec.ofInt 64 (b : Int)).toNat : Int) = _
  rw [BitVec.toNat_or, h1, h2, IntKind.wrap_i64]
  omega
section
set_option maxRecDepth 100000
set_option maxHeartbeats 4000000
theorem agents1_any (n : Nd) (w : World) (h : Fm.own n.op n.i n.e n.g = true) : Calls Tryz.prog 50 #[ndV n, useV n.op] w fun e w' => e = .returned (.int .i64 (mA n : Int)) ∧ Keep NoF w w' := by
  obtain ⟨op, i, e, g, x, y⟩ := n
  obtain ⟨r1, r2, r3, r5, r4⟩ := own_ranges h
  simp only [useV, useC, mA] at *
  generalize usesX op = u0 at *
  generalize usesY op = u1 at *
  generalize usesFact op = u2 at *
  generalize usesGroup op = u4 at *
  generalize usesEvent op = u5 at *
  generalize fragN op = fr at *
  cases ha : usesAgent op with
  | true =>
    obtain ⟨i0, i1⟩ := r1 ha
    have hi : i = 0 ∨ i = 1 ∨ i = 2 ∨ i = 3 := by omega
    clear h r1 r2 r4
    rcases hi with rfl | rfl | rfl | rfl
    all_goals
      go_enter Tryz.func50, Tryz.ntmps50
      go_wp2
      go_ret
      exact ⟨rfl, ((Keep.refl _ _).alloc _).alloc _⟩
  | false =>
    have hg : ((g.toNat : Nat) : Int) = g := by omega
    clear h r1 r2 r4
    rw [if_neg (by simp), hg]
    go_enter Tryz.func50, Tryz.ntmps50
    go_wp2
    go_ret
    exact ⟨rfl, ((Keep.refl _ _).alloc _).alloc _⟩
theorem facts1_any (n : Nd) (w : World) (h : Fm.own n.op n.i n.e n.g = true) : Calls Tryz.prog 51 #[ndV n, useV n.op] w fun e w' => e = .returned (.int .i64 (mF n : Int)) ∧ Keep NoF w w' := by
  obtain ⟨op, i, e, g, x, y⟩ := n
  obtain ⟨r1, r2, r3, r5, r4⟩ := own_ranges h
  simp only [useV, useC, mF] at *
  generalize usesX op = u0 at *
  generalize usesY op = u1 at *
  generalize usesAgent op = u3 at *
  generalize usesGroup op = u4 at *
  generalize usesEvent op = u5 at *
  generalize fragN op = fr at *
  cases ha : usesFact op with
  | true =>
    obtain ⟨i0, i1⟩ := r2 ha
    have hi : i = 0 ∨ i = 1 ∨ i = 2 ∨ i = 3 ∨ i = 4 ∨ i = 5 ∨ i = 6 ∨ i = 7 := by omega
    clear h r1 r2 r4
    rcases hi with rfl | rfl | rfl | rfl | rfl | rfl | rfl | rfl
    all_goals
      go_enter Tryz.func51, Tryz.ntmps51
      go_wp2
      go_ret
      exact ⟨rfl, ((Keep.refl _ _).alloc _).alloc _⟩
  | false =>
    clear h r1 r2 r4
    rw [if_neg (by simp)]
    go_enter Tryz.func51, Tryz.ntmps51
    go_wp2
    go_ret
    exact ⟨rfl, ((Keep.refl _ _).alloc _).alloc _⟩
end
end Go.Proofs.YtdhdcenjiopofaaGreatDoor
