/- An argument that is a diagram, opened to its cells. No condition. -/
import Derived.Deep.Slices
import Derived.Deep.Fields
import Derived.ChangeSame
import Derived.WideKeyArgs
import Derived.Lib.SmallJoins
import Derived.Test.YtgdmcidcappkpaaDoorSame
set_option linter.unusedVariables false
set_option linter.unusedSimpArgs false
namespace Go.Proofs.YtgdmcidcappkpaaDoor
open Go.ChangeShapes Go.WideShapes Go.Deep Go.Joins
set_option maxRecDepth 100000

section
variable {H : Type} {enc : TypeId × Value → H} {P : Program} {w : World} {base : Nat} {spare : Nat → Bool} {held : Bool}
theorem open_slice_fields {t e : TypeId} {fs : Array Field} {fuel : Nat} {cs : List Value} {x : DataW H × List MemPlace} (ht : P.underlying t = some (.slice e)) (he : P.underlying e = some (.struct fs))
    (hone : oneCellFields P fs = true) (hC : P.cellsOf e = fs.size) (h : DataW.trod enc P w base spare held fuel t cs = some x) :
    (cs = [.slice none 0 0] ∧ x = (.nil, [])) ∨
    ∃ (a : Addr) (len cap m : Nat) (D : Nat → DataW H) (Pl : Nat → List MemPlace), cs = [.slice (some a) len cap] ∧ base ≤ a.block ∧ len ≤ cap ∧ cap ≤ maxLen ∧ m = (if spare a.block then cap else len) ∧
      x = (.slice ((List.range len).map D) ((List.range (m - len)).map fun j => D (len + j)), MemPlace.row a (m * fs.size) ++ (List.range m).flatMap Pl) ∧
      ∀ i, i < m → ∃ (ys : List (DataW H × List MemPlace)) (n : Nat), D i = .agg (ys.map (·.1)) ∧ Pl i = ys.flatMap (·.2) ∧ ys.length = fs.size ∧
        ∀ (j : Nat) (f : Field), fs[j]? = some f → ∃ (v : Value) (y : DataW H × List MemPlace), w.cell? (a.add (i * fs.size + j)) = some v ∧ ys[j]? = some y ∧ DataW.trod enc P w base spare held n f.type [v] = some y := by
  rcases open_slice ht h with h0 | ⟨a, len, cap, m, n, D, Pl, hcs, hb, hl, hm, hmm, hx, hi⟩
  · exact .inl h0
  · refine .inr ⟨a, len, cap, m, D, Pl, hcs, hb, hl, hm, hmm, by rw [hC] at hx; exact hx, fun i him => ?_⟩
    obtain ⟨cs', hc, ht'⟩ := hi i him
    rw [hC] at hc
    obtain ⟨ys, n', hn', hy, hlen, hyl, hf⟩ := DataW.trod_struct he ht'
    obtain ⟨_, hcl, hat⟩ := World.cells?_some hc
    simp only [Prod.mk.injEq] at hy
    refine ⟨ys, n', hy.1, hy.2, hyl, fun j f hj => ?_⟩
    obtain ⟨ho, hk⟩ := hone_of hone j f hj
    have hjl : j < fs.size := (Array.getElem?_eq_some_iff.1 hj).1
    have hcell := hat j hjl
    have hv : cs'[j]? = some (cs'[j]'(by omega)) := List.getElem?_eq_getElem (by omega)
    have h1 := hf j f hj
    rw [ho, hk] at h1
    have hone' : (cs'.drop j).take 1 = [cs'[j]'(by omega)] := by
      rw [List.drop_eq_getElem_cons (by omega)]
      rfl
    rw [hone'] at h1
    have hys : ys[j]? = some (ys[j]'(by omega)) := List.getElem?_eq_getElem (by omega)
    refine ⟨_, _, ?_, hys, h1.trans hys⟩
    rw [← Go.Deep.add_add, hcell, hv]
end

open Go.RowKit
open Dd (Rn rat)

theorem spot_none {w : World} {a : Addr} {v : Value} (h : w.cell? a = some v) : a = ⟨a.block, a.off, none⟩ := by
  obtain ⟨b, o, s⟩ := a
  cases s with
  | none => rfl
  | some s =>
    exfalso
    unfold World.cell? at h
    split at h
    · simp at h
    · cases h

theorem laid_prog : laidOutB Tryd.prog = true := by kernel_rfl
theorem readable_Diagram : Tryd.prog.readableRec 26 = true := by kernel_rfl
theorem row_Diagram : 26 < Tryd.prog.types.size := by
  have : decide (26 < Tryd.prog.types.size) = true := by kernel_rfl
  exact of_decide_eq_true this

theorem rnsC_range (f : Nat → Rn) : ∀ (n i : Nat), i < n * 3 → (rnsC ((List.range n).map f))[i]? = some (match i % 3 with | 0 => .int .i64 (f (i / 3)).1 | 1 => .int .i64 (f (i / 3)).2.1 | _ => .int .i64 (f (i / 3)).2.2) := by
  intro n i hi
  have hk : i / 3 < n := by omega
  have hat : ((List.range n).map f)[i / 3]? = some (f (i / 3)) := by simp [hk]
  obtain ⟨h0, h1, h2⟩ := rnsC_at _ _ _ hat
  have : i % 3 = 0 ∨ i % 3 = 1 ∨ i % 3 = 2 := by omega
  rcases this with h | h | h
  · rw [h, show i = i / 3 * 3 by omega]
    have e : i / 3 * 3 / 3 = i / 3 := by omega
    rw [e]; exact h0
  · rw [h, show i = i / 3 * 3 + 1 by omega]
    have e : (i / 3 * 3 + 1) / 3 = i / 3 := by omega
    rw [e]; exact h1
  · rw [h, show i = i / 3 * 3 + 2 by omega]
    have e : (i / 3 * 3 + 2) / 3 = i / 3 := by omega
    rw [e]; exact h2
theorem rnsC_len (R : List Rn) : (rnsC R).length = R.length * 3 := by
  induction R with
  | nil => rfl
  | cons n R ih => simp [rnsC, rnC] at *; omega

/-- A diagram that comes in, of whatever length. -/
def Dg.Has (d : Dg) (w : World) : Prop := Rd w d.sl 3 d.R.length (rnsC d.R) ∧ d.R.length ≤ 9223372036854775807

section
variable {H : Type} {enc : TypeId × Value → H} {w : World} {base : Nat} {spare : Nat → Bool} {held : Bool}
theorem open_nodes {fuel : Nat} {v : Value} {x : DataW H × List MemPlace} (h : DataW.trod enc Tryd.prog w base spare held fuel 24 [v] = some x) :
    ∃ R : List Rn, Rd w v 3 R.length (rnsC R) ∧ R.length ≤ 9223372036854775807 := by
  rcases open_slice_fields Tryd.underlying24 Tryd.underlying74 (by kernel_rfl) (by kernel_rfl) h with ⟨h0, _⟩ | ⟨a, len, cap, m, D, Pl, hcs, _, hl, hm, hmm, _, hi⟩
  · refine ⟨[], ?_, by simp⟩
    obtain rfl : v = .slice none 0 0 := by simpa using h0
    exact Rd.nil _ _
  · obtain rfl : v = .slice (some a) len cap := by simpa using hcs
    have hlm : len ≤ m := by rw [hmm]; split <;> omega
    have key : ∀ i, ∃ q : Rn, i < len → w.cell? (a.add (i * 3 + 0)) = some (.int .i64 q.1) ∧ w.cell? (a.add (i * 3 + 1)) = some (.int .i64 q.2.1) ∧ w.cell? (a.add (i * 3 + 2)) = some (.int .i64 q.2.2) := fun i => by
      by_cases hil : i < len
      · obtain ⟨ys, n, _, _, _, hf⟩ := hi i (by omega)
        obtain ⟨v0, y0, c0, _, t0⟩ := hf 0 _ rfl
        obtain ⟨v1, y1, c1, _, t1⟩ := hf 1 _ rfl
        obtain ⟨v2, y2, c2, _, t2⟩ := hf 2 _ rfl
        obtain ⟨n0, e0, _, _⟩ := DataW.trod_int Tryd.underlying3 t0
        obtain ⟨n1, e1, _, _⟩ := DataW.trod_int Tryd.underlying3 t1
        obtain ⟨n2, e2, _, _⟩ := DataW.trod_int Tryd.underlying3 t2
        obtain rfl : v0 = .int .i64 n0 := by simpa using e0
        obtain rfl : v1 = .int .i64 n1 := by simpa using e1
        obtain rfl : v2 = .int .i64 n2 := by simpa using e2
        exact ⟨(n0, n1, n2), fun _ => ⟨c0, c1, c2⟩⟩
      · exact ⟨(0, 0, 0), fun h => absurd h hil⟩
    obtain ⟨f, hf⟩ := Classical.axiomOfChoice key
    have hlen : ((List.range len).map f).length = len := by simp
    refine ⟨(List.range len).map f, ⟨rnsC_len _, some a, cap, by rw [hlen], by rw [hlen]; exact hl, fun h0 => ?_⟩, by rw [hlen]; unfold maxLen at hm; omega⟩
    rw [hlen] at h0
    have hsp := spot_none (hf 0 h0).1
    have ha : a = ⟨a.block, a.off, none⟩ := by
      have : a.add (0 * 3 + 0) = a := by simp [Addr.add]
      rwa [this] at hsp
    refine ⟨a.block, a.off, congrArg some ha, fun j u hu => ?_⟩
    have hj : j < len * 3 := by
      have := (List.getElem?_eq_some_iff.1 hu).1
      rw [rnsC_len, hlen] at this
      exact this
    rw [rnsC_range f len j hj] at hu
    obtain ⟨c0, c1, c2⟩ := hf (j / 3) (by omega)
    rw [ha] at c0 c1 c2
    rw [Addr.add_lit] at c0 c1 c2
    have : j % 3 = 0 ∨ j % 3 = 1 ∨ j % 3 = 2 := by omega
    rcases this with h | h | h <;> rw [h] at hu <;> simp only [Option.some.injEq] at hu <;> subst hu
    · rwa [show j / 3 * 3 + 0 = j by omega] at c0
    · rwa [show j / 3 * 3 + 1 = j by omega] at c1
    · rwa [show j / 3 * 3 + 2 = j by omega] at c2

theorem open_dg {r : Reach} {b0 : Nat} {v : Value} {d : DataW H} {p : List MemPlace} (hv : Value.okWide Tryd.prog w r b0 26 v) (h : DataW.Trod enc Tryd.prog w base spare held 26 v d p) : ∃ D : Dg, v = D.val ∧ D.Has w := by
  obtain ⟨v0, v1, v2, y0, y1, y2, n, rfl, _, _, t0, t1, t2⟩ := open_agg3 Tryd.underlying26 (by kernel_rfl) (by kernel_rfl) hv h
  obtain ⟨n0, e0, _, _⟩ := DataW.trod_int Tryd.underlying3 t0
  obtain ⟨n2, e2, _, _⟩ := DataW.trod_int Tryd.underlying3 t2
  obtain rfl : v0 = .int .i64 n0 := by simpa using e0
  obtain rfl : v2 = .int .i64 n2 := by simpa using e2
  obtain ⟨R, hR, hl⟩ := open_nodes t1
  exact ⟨⟨n0, R, n2, v1⟩, rfl, hR, hl⟩
end
theorem shut_dg {H : Type} {enc : TypeId × Value → H} {W W' : World} {base : Nat} {sp : Nat → Bool} {v : Value} {d : DataW H} {ps : List MemPlace} (h : DataW.Trod enc Tryd.prog W base (fun _ => true) true 26 v d ps) (hb : Below W.heap.size W W') (hlt : ∀ p ∈ ps, p.block < W.heap.size) (hs : ∀ p ∈ ps, sp p.block = true) :
    DataW.Trod enc Tryd.prog W' base sp true 26 v d ps :=
  WideElems.Trod_stays laid_prog readable_Diagram row_Diagram h (fun p hp => hb.same (hlt p hp)) hs
end Go.Proofs.YtgdmcidcappkpaaDoor
