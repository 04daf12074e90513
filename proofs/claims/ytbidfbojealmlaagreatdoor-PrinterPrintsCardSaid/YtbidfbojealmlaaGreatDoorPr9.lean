/- The arguments of the laws about the printer, opened to their cells; what the listed variables of the rows hold. No condition. -/
import Derived.Test.YtbidfbojealmlaaGreatDoorPb8
import Derived.Test.YtbidfbojealmlaaGreatDoorPrX
set_option linter.unusedVariables false
set_option linter.unusedSimpArgs false
namespace Go.Proofs.YtbidfbojealmlaaGreatDoor
open Go.ChangeShapes Go.WideShapes Go.ChangeAt Go.Deep Go.Joins Go.RowKit Go.ChangeMaps
open Fm (Nd)

theorem readable_nodes : Tryz.prog.readableRec 25 = true := by kernel_rfl
theorem row_nodes : 25 < Tryz.prog.types.size := by
  have : decide (25 < Tryz.prog.types.size) = true := by kernel_rfl
  exact of_decide_eq_true this
section
variable {H : Type} {enc : TypeId × Value → H} {P : Program} {w : World} {base : Nat} {spare : Nat → Bool} {held : Bool}
theorem open_slice_fields {t e : TypeId} {fs : Array Field} {fuel : Nat} {cs : List Value} {x : DataW H × List MemPlace} (ht : P.underlying t = some (.slice e)) (he : P.underlying e = some (.struct fs))
    (hone : oneCellFields P fs = true) (hC : P.cellsOf e = fs.size) (h : DataW.trod enc P w base spare held fuel t cs = some x) :
    (cs = [.slice none 0 0] ∧ x = (.nil, [])) ∨
    ∃ (a : Addr) (len cap m : Nat) (D : Nat → DataW H) (Pl : Nat → List MemPlace), cs = [.slice (some a) len cap] ∧ base ≤ a.block ∧ len ≤ cap ∧ cap ≤ maxLen ∧ m = (if spare a.block then cap else len) ∧
      x = (.slice ((List.range len).map D) ((List.range (m - len)).map fun j => D (len + j)), MemPlace.row a (m * fs.size) ++ (List.range m).flatMap Pl) ∧
      ∀ i, i < m → ∃ (ys : List (DataW H × List MemPlace)) (n : Nat), D i = .agg (ys.map (·.1)) ∧ Pl i = ys.flatMap (·.2) ∧ ys.length = fs.size ∧
        ∀ (j : Nat) (f : Field), fs[j]? = some f → ∃ (v : Value) (y : DataW H × List MemPlace), w.cell? (a.add (i * fs.size + j)) = some v ∧ ys[j]? = some y ∧ DataW.trod enc P w base spare held n f.type [v] = some y := by
  rcases open_slice ht h with h0 | ⟨a, len, cap, m, n, D, Pl, hcs, hb, hl, hm, hmm, hx, hi⟩
  · exact .inl h0
  · refine .inr ⟨a, len, cap, m, D, Pl, hcs, hb, hl, hm, hmm, by rw [hC] at hx; exact hx, fun i him => ?_⟩
    obtain ⟨cs', hc, ht'⟩ := hi i him
    rw [hC] at hc
    obtain ⟨ys, n', hn', hy, hlen, hyl, hf⟩ := DataW.trod_struct he ht'
    obtain ⟨_, hcl, hat⟩ := World.cells?_some hc
    simp only [Prod.mk.injEq] at hy
    refine ⟨ys, n', hy.1, hy.2, hyl, fun j f hj => ?_⟩
    obtain ⟨ho, hk⟩ := hone_of hone j f hj
    have hjl : j < fs.size := (Array.getElem?_eq_some_iff.1 hj).1
    have hcell := hat j hjl
    have hv : cs'[j]? = some (cs'[j]'(by omega)) := List.getElem?_eq_getElem (by omega)
    have h1 := hf j f hj
    rw [ho, hk] at h1
    have hone' : (cs'.drop j).take 1 = [cs'[j]'(by omega)] := by
      rw [List.drop_eq_getElem_cons (by omega)]
      rfl
    rw [hone'] at h1
    have hys : ys[j]? = some (ys[j]'(by omega)) := List.getElem?_eq_getElem (by omega)
    refine ⟨_, _, ?_, hys, h1.trans hys⟩
    rw [← Go.Deep.add_add, hcell, hv]
end
theorem fmC_range (f : Nat → Nd) : ∀ (n i : Nat), i < n * 6 → (fmC ((List.range n).map f))[i]? = (ndC (f (i / 6)))[i % 6]? := by
  intro n i hi
  have hk : i / 6 < n := by omega
  have hat : ((List.range n).map f)[i / 6]? = some (f (i / 6)) := by simp [hk]
  have := fmC_at _ _ _ hat (i % 6) (by omega)
  rwa [show i / 6 * 6 + i % 6 = i by omega] at this
section
set_option maxRecDepth 100000
variable {H : Type} {enc : TypeId × Value → H} {w : World} {base : Nat} {spare : Nat → Bool} {held : Bool}
theorem open_fnodes {r : Reach} {b0 : Nat} {v : Value} {d : DataW H} {p : List MemPlace} (hv : Value.okWide Tryz.prog w r b0 25 v) (h0 : DataW.Trod enc Tryz.prog w base spare held 25 v d p) :
    ∃ (R : List Nd) (A : Option Addr) (c : Nat), v = .slice A R.length c ∧ Rd w (.slice A R.length c) 6 R.length (fmC R) ∧ R.length ≤ 9223372036854775807 := by
  obtain ⟨fuel, h⟩ := h0
  obtain ⟨A0, len0, cap0, rfl⟩ := okWide_slice Tryz.underlying25 hv
  rcases open_slice_fields Tryz.underlying25 Tryz.underlying49 (by kernel_rfl) (by kernel_rfl) h with ⟨h0, _⟩ | ⟨a, len, cap, m, D, Pl, hcs, _, hl, hm, hmm, _, hi⟩
  · have e0 := (List.cons.inj h0).1
    exact ⟨[], none, 0, e0, Rd.nil _ _, by simp⟩
  · have e0 := (List.cons.inj hcs).1
    rw [e0]
    have hlm : len ≤ m := by rw [hmm]; split <;> omega
    have key : ∀ i, ∃ q : Nd, i < len → ∀ j u, (ndC q)[j]? = some u → w.cell? (a.add (i * 6 + j)) = some u := fun i => by
      by_cases hil : i < len
      · obtain ⟨ys, n, _, _, _, hf⟩ := hi i (by omega)
        obtain ⟨v0, y0, c0, _, t0⟩ := hf 0 _ rfl
        obtain ⟨v1, y1, c1, _, t1⟩ := hf 1 _ rfl
        obtain ⟨v2, y2, c2, _, t2⟩ := hf 2 _ rfl
        obtain ⟨v3, y3, c3, _, t3⟩ := hf 3 _ rfl
        obtain ⟨v4, y4, c4, _, t4⟩ := hf 4 _ rfl
        obtain ⟨v5, y5, c5, _, t5⟩ := hf 5 _ rfl
        obtain ⟨n0, e0, _, _⟩ := DataW.trod_int Tryz.underlying3 t0
        obtain ⟨n1, e1, _, _⟩ := DataW.trod_int Tryz.underlying3 t1
        obtain ⟨n2, e2, _, _⟩ := DataW.trod_int Tryz.underlying3 t2
        obtain ⟨n3, e3, _, _⟩ := DataW.trod_int Tryz.underlying3 t3
        obtain ⟨n4, e4, _, _⟩ := DataW.trod_int Tryz.underlying3 t4
        obtain ⟨n5, e5, _, _⟩ := DataW.trod_int Tryz.underlying3 t5
        obtain rfl : v0 = .int .i64 n0 := by simpa using e0
        obtain rfl : v1 = .int .i64 n1 := by simpa using e1
        obtain rfl : v2 = .int .i64 n2 := by simpa using e2
        obtain rfl : v3 = .int .i64 n3 := by simpa using e3
        obtain rfl : v4 = .int .i64 n4 := by simpa using e4
        obtain rfl : v5 = .int .i64 n5 := by simpa using e5
        refine ⟨⟨n0, n1, n2, n3, n4, n5⟩, fun _ j u hu => ?_⟩
        have hj : j < 6 := (List.getElem?_eq_some_iff.1 hu).1
        have h6 : j = 0 ∨ j = 1 ∨ j = 2 ∨ j = 3 ∨ j = 4 ∨ j = 5 := by omega
        rcases h6 with rfl | rfl | rfl | rfl | rfl | rfl <;> obtain rfl := Option.some.inj hu
        · exact c0
        · exact c1
        · exact c2
        · exact c3
        · exact c4
        · exact c5
      · exact ⟨⟨0, 0, 0, 0, 0, 0⟩, fun h => absurd h hil⟩
    obtain ⟨f, hf⟩ := Classical.axiomOfChoice key
    have hlen : ((List.range len).map f).length = len := by simp
    refine ⟨(List.range len).map f, some a, cap, by rw [hlen], ⟨by rw [fmC_len], some a, cap, by rw [hlen], by rw [hlen]; exact hl, fun h0 => ?_⟩, by rw [hlen]; unfold maxLen at hm; omega⟩
    rw [hlen] at h0
    have hsp := spot_none (hf 0 h0 0 _ rfl)
    have ha : a = ⟨a.block, a.off, none⟩ := by
      have : a.add (0 * 6 + 0) = a := by simp [Addr.add]
      rwa [this] at hsp
    refine ⟨a.block, a.off, congrArg some ha, fun j u hu => ?_⟩
    have hj : j < len * 6 := by
      have := (List.getElem?_eq_some_iff.1 hu).1
      rw [fmC_len, hlen] at this
      exact this
    rw [fmC_range f len j hj] at hu
    have := hf (j / 6) (by omega) (j % 6) u hu
    rw [ha, Addr.add_lit, show j / 6 * 6 + j % 6 = j by omega] at this
    exact this
end
theorem laid_row {H : Type} {enc : TypeId × Value → H} {P : Program} {w : World} {base : Nat} {spare : Nat → Bool} {held : Bool} {t e : TypeId} {fs : Array Field} {n fuel : Nat} {cs : List Value} {x : DataW H × List MemPlace} (ht : P.underlying t = some (.array n e)) (he : P.underlying e = some (.struct fs))
    (hone : oneCellFields P fs = true) (hC : P.cellsOf e = fs.size) (h : DataW.trod enc P w base spare held fuel t cs = some x) :
    ∃ D : List (DataW H), x.1 = .agg D ∧ ∀ i, i < n → ∃ ys : List (DataW H × List MemPlace), D[i]? = some (.agg (ys.map (·.1))) ∧ ∀ (j : Nat) (f : Field), fs[j]? = some f → ∃ (v : Value) (y : DataW H × List MemPlace) (m : Nat), cs[i * fs.size + j]? = some v ∧ ys[j]? = some y ∧ DataW.trod enc P w base spare held m f.type [v] = some y := by
  obtain ⟨xs, m, _, ex, _, hl, hel⟩ := DataW.trod_array ht h
  refine ⟨xs.map (·.1), by rw [ex], fun i hi => ?_⟩
  have hE := hel i hi
  rw [hC, List.getElem?_eq_getElem (by omega)] at hE
  obtain ⟨ys, n', hn', hy, hlen, hyl, hf⟩ := DataW.trod_struct he hE
  refine ⟨ys, by rw [List.getElem?_map, List.getElem?_eq_getElem (by omega)]; exact congrArg (fun z => some z.1) hy, fun j f hj => ?_⟩
  obtain ⟨ho, hk⟩ := hone_of hone j f hj
  have hjl : j < fs.size := (Array.getElem?_eq_some_iff.1 hj).1
  have h1 := hf j f hj
  rw [ho, hk] at h1
  have hlt : j < ((cs.drop (i * fs.size)).take fs.size).length := by
    rw [hlen, hC]; exact hjl
  have hone' : (((cs.drop (i * fs.size)).take fs.size).drop j).take 1 = [((cs.drop (i * fs.size)).take fs.size)[j]] := by
    rw [List.drop_eq_getElem_cons hlt]
    rfl
  rw [hone'] at h1
  refine ⟨_, ys[j]'(by omega), n', ?_, List.getElem?_eq_getElem (by omega), h1.trans (List.getElem?_eq_getElem (by omega))⟩
  rw [← List.getElem?_eq_getElem hlt, List.getElem?_take_of_lt hjl, List.getElem?_drop]
theorem laid_int {H : Type} {enc : TypeId × Value → H} {w : World} {base : Nat} {spare : Nat → Bool} {held : Bool} {m : Nat} {v : Value} {y : DataW H × List MemPlace} {n : Int} (h : DataW.trod enc Tryz.prog w base spare held m 3 [v] = some y) (hy : y.1 = .lit (.int .i64 n)) : v = .int .i64 n := by
  obtain ⟨k, e, e2, _⟩ := DataW.trod_int Tryz.underlying3 h
  obtain rfl := (List.cons.inj e).1
  rw [e2] at hy
  simp only [DataW.lit.injEq, Lit.int.injEq, true_and] at hy
  rw [hy]
theorem laid_str {H : Type} {enc : TypeId × Value → H} {w : World} {base : Nat} {spare : Nat → Bool} {held : Bool} {m : Nat} {v : Value} {y : DataW H × List MemPlace} {l : List UInt8} (h : DataW.trod enc Tryz.prog w base spare held m 9 [v] = some y) (hy : y.1 = .lit (.string l)) : v = .string (txt l) := by
  obtain ⟨k, e, e2, _⟩ := DataW.trod_string Tryz.underlying9 h
  obtain rfl := (List.cons.inj e).1
  rw [e2] at hy
  simp only [DataW.lit.injEq, Lit.string.injEq] at hy
  rw [← hy, txt_data]
def laidL : List (String × DataW Unit) := Rows.printerBackRow.laid
theorem tabs_of_laid {W : World} (h : laidMetH Tryz.prog laidL W) (hsh : W.ShapedOpen Tryz.prog) : Tab W ∧ FTab W := by
  rw [MakeChecks.laidMetH_plain _ _ _ (by kernel_rfl)] at h
  obtain ⟨ps, ⟨g0, t0, cs0, fuel0, p0, q0, hg0, ht0, hv0, hd0, ⟨g1, t1, cs1, fuel1, p1, q1, hg1, ht1, hv1, hd1, ⟨g2, t2, cs2, fuel2, p2, q2, hg2, ht2, hv2, hd2, ⟨g3, t3, cs3, fuel3, p3, q3, hg3, ht3, hv3, hd3, ⟨g, t, cs, fuel, p, q, hg, ht, hv, hd, ⟨g6, t6, cs6, fuel6, p6, q6, hg6, ht6, hv6, hd6, _, _⟩, _⟩, _⟩, _⟩, _⟩, _⟩, _, _⟩ := h
  constructor
  · refine ⟨?_, Tryz.laysM144.s1_3 W hsh⟩
    obtain rfl : g = 0 := Option.some.inj (hg.symm.trans (by kernel_rfl))
    obtain rfl := Option.some.inj ((show (Tryz.prog.globals[0]?).map (·.type) = some 101 by kernel_rfl).symm.trans ht)
    obtain ⟨xs, m, _, ex, _, hl, hel⟩ := DataW.trod_array Tryz.underlying101 hd
    have c5 : Tryz.prog.cellsOf 9 = 1 := by kernel_rfl
    intro r x hr
    have hr7 : r < 7 := (List.getElem?_eq_some_iff.1 hr).1
    have hE := hel r hr7
    rw [c5, Nat.mul_one, List.getElem?_eq_getElem (by omega)] at hE
    obtain ⟨z, e1, e2, _⟩ := DataW.trod_string Tryz.underlying9 hE
    have e3 : (xs.map (·.1)) = resW.map fun n : ByteArray => (DataW.lit (.string n.data.toList) : DataW Unit) := (DataW.agg.inj (Prod.mk.inj ex).1).symm.trans (by kernel_rfl)
    have e4 : (xs.map (·.1))[r]? = (resW.map fun n : ByteArray => (DataW.lit (.string n.data.toList) : DataW Unit))[r]? := by rw [e3]
    rw [List.getElem?_map, List.getElem?_map, List.getElem?_eq_getElem (by omega : r < xs.length), hr, e2] at e4
    have hz : z = x := by
      simp only [Option.map_some, Option.some.injEq, DataW.lit.injEq, Lit.string.injEq] at e4
      exact ba_ext e4
    rw [World.var?_cell hg hv r, ← hz]
    have : cs.toList[r]? = some (.string z) := by
      have h0 : ((cs.toList.drop r).take 1)[0]? = some (.string z) := by rw [e1]; rfl
      simpa using h0
    simpa using this
  · obtain rfl : g6 = 1 := Option.some.inj (hg6.symm.trans (by kernel_rfl))
    obtain rfl := Option.some.inj ((show (Tryz.prog.globals[1]?).map (·.type) = some 102 by kernel_rfl).symm.trans ht6)
    obtain ⟨D, hD, hrow⟩ := laid_row Tryz.underlying102 Tryz.underlying80 (by kernel_rfl) (by kernel_rfl) hd6
    have hD2 : D = [.agg [.lit (.int .i64 5), .lit (.string [32, 38, 32]), .lit (.int .i64 4), .lit (.int .i64 4), .lit (.int .i64 5)], .agg [.lit (.int .i64 6), .lit (.string [32, 124, 32]), .lit (.int .i64 3), .lit (.int .i64 3), .lit (.int .i64 4)], .agg [.lit (.int .i64 19), .lit (.string [32, 117, 110, 116, 105, 108, 32]), .lit (.int .i64 2), .lit (.int .i64 3), .lit (.int .i64 2)], .agg [.lit (.int .i64 21), .lit (.string [32, 115, 105, 110, 99, 101, 32]), .lit (.int .i64 2), .lit (.int .i64 3), .lit (.int .i64 2)], .agg [.lit (.int .i64 7), .lit (.string [32, 45, 62, 32]), .lit (.int .i64 1), .lit (.int .i64 2), .lit (.int .i64 1)], .agg [.lit (.int .i64 8), .lit (.string [32, 60, 45, 62, 32]), .lit (.int .i64 0), .lit (.int .i64 0), .lit (.int .i64 1)]] := (DataW.agg.inj hD).symm
    clear hD
    subst hD2
    obtain ⟨ys0, hd0, hf0⟩ := hrow 0 (by omega)
    have hy0 : ys0.map (·.1) = [.lit (.int .i64 5), .lit (.string [32, 38, 32]), .lit (.int .i64 4), .lit (.int .i64 4), .lit (.int .i64 5)] := (DataW.agg.inj (Option.some.inj hd0)).symm
    obtain ⟨v0, y0, m0, a0, b0, c0⟩ := hf0 0 _ rfl
    have e0 : (ys0.map (·.1))[0]? = some y0.1 := by rw [List.getElem?_map, b0]; rfl
    rw [hy0] at e0
    obtain rfl := laid_int c0 (Option.some.inj e0).symm
    obtain ⟨v1, y1, m1, a1, b1, c1⟩ := hf0 1 _ rfl
    have e1 : (ys0.map (·.1))[1]? = some y1.1 := by rw [List.getElem?_map, b1]; rfl
    rw [hy0] at e1
    obtain rfl := laid_str c1 (Option.some.inj e1).symm
    obtain ⟨v2, y2, m2, a2, b2, c2⟩ := hf0 2 _ rfl
    have e2 : (ys0.map (·.1))[2]? = some y2.1 := by rw [List.getElem?_map, b2]; rfl
    rw [hy0] at e2
    obtain rfl := laid_int c2 (Option.some.inj e2).symm
    obtain ⟨v3, y3, m3, a3, b3, c3⟩ := hf0 3 _ rfl
    have e3 : (ys0.map (·.1))[3]? = some y3.1 := by rw [List.getElem?_map, b3]; rfl
    rw [hy0] at e3
    obtain rfl := laid_int c3 (Option.some.inj e3).symm
    obtain ⟨v4, y4, m4, a4, b4, c4⟩ := hf0 4 _ rfl
    have e4 : (ys0.map (·.1))[4]? = some y4.1 := by rw [List.getElem?_map, b4]; rfl
    rw [hy0] at e4
    obtain rfl := laid_int c4 (Option.some.inj e4).symm
    obtain ⟨ys1, hd1, hf1⟩ := hrow 1 (by omega)
    have hy1 : ys1.map (·.1) = [.lit (.int .i64 6), .lit (.string [32, 124, 32]), .lit (.int .i64 3), .lit (.int .i64 3), .lit (.int .i64 4)] := (DataW.agg.inj (Option.some.inj hd1)).symm
    obtain ⟨v5, y5, m5, a5, b5, c5⟩ := hf1 0 _ rfl
    have e5 : (ys1.map (·.1))[0]? = some y5.1 := by rw [List.getElem?_map, b5]; rfl
    rw [hy1] at e5
    obtain rfl := laid_int c5 (Option.some.inj e5).symm
    obtain ⟨v6, y6, m6, a6, b6, c6⟩ := hf1 1 _ rfl
    have e6 : (ys1.map (·.1))[1]? = some y6.1 := by rw [List.getElem?_map, b6]; rfl
    rw [hy1] at e6
    obtain rfl := laid_str c6 (Option.some.inj e6).symm
    obtain ⟨v7, y7, m7, a7, b7, c7⟩ := hf1 2 _ rfl
    have e7 : (ys1.map (·.1))[2]? = some y7.1 := by rw [List.getElem?_map, b7]; rfl
    rw [hy1] at e7
    obtain rfl := laid_int c7 (Option.some.inj e7).symm
    obtain ⟨v8, y8, m8, a8, b8, c8⟩ := hf1 3 _ rfl
    have e8 : (ys1.map (·.1))[3]? = some y8.1 := by rw [List.getElem?_map, b8]; rfl
    rw [hy1] at e8
    obtain rfl := laid_int c8 (Option.some.inj e8).symm
    obtain ⟨v9, y9, m9, a9, b9, c9⟩ := hf1 4 _ rfl
    have e9 : (ys1.map (·.1))[4]? = some y9.1 := by rw [List.getElem?_map, b9]; rfl
    rw [hy1] at e9
    obtain rfl := laid_int c9 (Option.some.inj e9).symm
    obtain ⟨ys2, hd2, hf2⟩ := hrow 2 (by omega)
    have hy2 : ys2.map (·.1) = [.lit (.int .i64 19), .lit (.string [32, 117, 110, 116, 105, 108, 32]), .lit (.int .i64 2), .lit (.int .i64 3), .lit (.int .i64 2)] := (DataW.agg.inj (Option.some.inj hd2)).symm
    obtain ⟨v10, y10, m10, a10, b10, c10⟩ := hf2 0 _ rfl
    have e10 : (ys2.map (·.1))[0]? = some y10.1 := by rw [List.getElem?_map, b10]; rfl
    rw [hy2] at e10
    obtain rfl := laid_int c10 (Option.some.inj e10).symm
    obtain ⟨v11, y11, m11, a11, b11, c11⟩ := hf2 1 _ rfl
    have e11 : (ys2.map (·.1))[1]? = some y11.1 := by rw [List.getElem?_map, b11]; rfl
    rw [hy2] at e11
    obtain rfl := laid_str c11 (Option.some.inj e11).symm
    obtain ⟨v12, y12, m12, a12, b12, c12⟩ := hf2 2 _ rfl
    have e12 : (ys2.map (·.1))[2]? = some y12.1 := by rw [List.getElem?_map, b12]; rfl
    rw [hy2] at e12
    obtain rfl := laid_int c12 (Option.some.inj e12).symm
    obtain ⟨v13, y13, m13, a13, b13, c13⟩ := hf2 3 _ rfl
    have e13 : (ys2.map (·.1))[3]? = some y13.1 := by rw [List.getElem?_map, b13]; rfl
    rw [hy2] at e13
    obtain rfl := laid_int c13 (Option.some.inj e13).symm
    obtain ⟨v14, y14, m14, a14, b14, c14⟩ := hf2 4 _ rfl
    have e14 : (ys2.map (·.1))[4]? = some y14.1 := by rw [List.getElem?_map, b14]; rfl
    rw [hy2] at e14
    obtain rfl := laid_int c14 (Option.some.inj e14).symm
    obtain ⟨ys3, hd3, hf3⟩ := hrow 3 (by omega)
    have hy3 : ys3.map (·.1) = [.lit (.int .i64 21), .lit (.string [32, 115, 105, 110, 99, 101, 32]), .lit (.int .i64 2), .lit (.int .i64 3), .lit (.int .i64 2)] := (DataW.agg.inj (Option.some.inj hd3)).symm
    obtain ⟨v15, y15, m15, a15, b15, c15⟩ := hf3 0 _ rfl
    have e15 : (ys3.map (·.1))[0]? = some y15.1 := by rw [List.getElem?_map, b15]; rfl
    rw [hy3] at e15
    obtain rfl := laid_int c15 (Option.some.inj e15).symm
    obtain ⟨v16, y16, m16, a16, b16, c16⟩ := hf3 1 _ rfl
    have e16 : (ys3.map (·.1))[1]? = some y16.1 := by rw [List.getElem?_map, b16]; rfl
    rw [hy3] at e16
    obtain rfl := laid_str c16 (Option.some.inj e16).symm
    obtain ⟨v17, y17, m17, a17, b17, c17⟩ := hf3 2 _ rfl
    have e17 : (ys3.map (·.1))[2]? = some y17.1 := by rw [List.getElem?_map, b17]; rfl
    rw [hy3] at e17
    obtain rfl := laid_int c17 (Option.some.inj e17).symm
    obtain ⟨v18, y18, m18, a18, b18, c18⟩ := hf3 3 _ rfl
    have e18 : (ys3.map (·.1))[3]? = some y18.1 := by rw [List.getElem?_map, b18]; rfl
    rw [hy3] at e18
    obtain rfl := laid_int c18 (Option.some.inj e18).symm
    obtain ⟨v19, y19, m19, a19, b19, c19⟩ := hf3 4 _ rfl
    have e19 : (ys3.map (·.1))[4]? = some y19.1 := by rw [List.getElem?_map, b19]; rfl
    rw [hy3] at e19
    obtain rfl := laid_int c19 (Option.some.inj e19).symm
    obtain ⟨ys4, hd4, hf4⟩ := hrow 4 (by omega)
    have hy4 : ys4.map (·.1) = [.lit (.int .i64 7), .lit (.string [32, 45, 62, 32]), .lit (.int .i64 1), .lit (.int .i64 2), .lit (.int .i64 1)] := (DataW.agg.inj (Option.some.inj hd4)).symm
    obtain ⟨v20, y20, m20, a20, b20, c20⟩ := hf4 0 _ rfl
    have e20 : (ys4.map (·.1))[0]? = some y20.1 := by rw [List.getElem?_map, b20]; rfl
    rw [hy4] at e20
    obtain rfl := laid_int c20 (Option.some.inj e20).symm
    obtain ⟨v21, y21, m21, a21, b21, c21⟩ := hf4 1 _ rfl
    have e21 : (ys4.map (·.1))[1]? = some y21.1 := by rw [List.getElem?_map, b21]; rfl
    rw [hy4] at e21
    obtain rfl := laid_str c21 (Option.some.inj e21).symm
    obtain ⟨v22, y22, m22, a22, b22, c22⟩ := hf4 2 _ rfl
    have e22 : (ys4.map (·.1))[2]? = some y22.1 := by rw [List.getElem?_map, b22]; rfl
    rw [hy4] at e22
    obtain rfl := laid_int c22 (Option.some.inj e22).symm
    obtain ⟨v23, y23, m23, a23, b23, c23⟩ := hf4 3 _ rfl
    have e23 : (ys4.map (·.1))[3]? = some y23.1 := by rw [List.getElem?_map, b23]; rfl
    rw [hy4] at e23
    obtain rfl := laid_int c23 (Option.some.inj e23).symm
    obtain ⟨v24, y24, m24, a24, b24, c24⟩ := hf4 4 _ rfl
    have e24 : (ys4.map (·.1))[4]? = some y24.1 := by rw [List.getElem?_map, b24]; rfl
    rw [hy4] at e24
    obtain rfl := laid_int c24 (Option.some.inj e24).symm
    obtain ⟨ys5, hd5, hf5⟩ := hrow 5 (by omega)
    have hy5 : ys5.map (·.1) = [.lit (.int .i64 8), .lit (.string [32, 60, 45, 62, 32]), .lit (.int .i64 0), .lit (.int .i64 0), .lit (.int .i64 1)] := (DataW.agg.inj (Option.some.inj hd5)).symm
    obtain ⟨v25, y25, m25, a25, b25, c25⟩ := hf5 0 _ rfl
    have e25 : (ys5.map (·.1))[0]? = some y25.1 := by rw [List.getElem?_map, b25]; rfl
    rw [hy5] at e25
    obtain rfl := laid_int c25 (Option.some.inj e25).symm
    obtain ⟨v26, y26, m26, a26, b26, c26⟩ := hf5 1 _ rfl
    have e26 : (ys5.map (·.1))[1]? = some y26.1 := by rw [List.getElem?_map, b26]; rfl
    rw [hy5] at e26
    obtain rfl := laid_str c26 (Option.some.inj e26).symm
    obtain ⟨v27, y27, m27, a27, b27, c27⟩ := hf5 2 _ rfl
    have e27 : (ys5.map (·.1))[2]? = some y27.1 := by rw [List.getElem?_map, b27]; rfl
    rw [hy5] at e27
    obtain rfl := laid_int c27 (Option.some.inj e27).symm
    obtain ⟨v28, y28, m28, a28, b28, c28⟩ := hf5 3 _ rfl
    have e28 : (ys5.map (·.1))[3]? = some y28.1 := by rw [List.getElem?_map, b28]; rfl
    rw [hy5] at e28
    obtain rfl := laid_int c28 (Option.some.inj e28).symm
    obtain ⟨v29, y29, m29, a29, b29, c29⟩ := hf5 4 _ rfl
    have e29 : (ys5.map (·.1))[4]? = some y29.1 := by rw [List.getElem?_map, b29]; rfl
    rw [hy5] at e29
    obtain rfl := laid_int c29 (Option.some.inj e29).symm
    intro k v hk
    rw [World.var?_cell hg6 hv6 k, ← Array.getElem?_toList]
    have h30 : k < 30 := (List.getElem?_eq_some_iff.1 hk).1
    match k, h30 with
    | 0, _ => exact a0.trans hk
    | 1, _ => exact a1.trans hk
    | 2, _ => exact a2.trans hk
    | 3, _ => exact a3.trans hk
    | 4, _ => exact a4.trans hk
    | 5, _ => exact a5.trans hk
    | 6, _ => exact a6.trans hk
    | 7, _ => exact a7.trans hk
    | 8, _ => exact a8.trans hk
    | 9, _ => exact a9.trans hk
    | 10, _ => exact a10.trans hk
    | 11, _ => exact a11.trans hk
    | 12, _ => exact a12.trans hk
    | 13, _ => exact a13.trans hk
    | 14, _ => exact a14.trans hk
    | 15, _ => exact a15.trans hk
    | 16, _ => exact a16.trans hk
    | 17, _ => exact a17.trans hk
    | 18, _ => exact a18.trans hk
    | 19, _ => exact a19.trans hk
    | 20, _ => exact a20.trans hk
    | 21, _ => exact a21.trans hk
    | 22, _ => exact a22.trans hk
    | 23, _ => exact a23.trans hk
    | 24, _ => exact a24.trans hk
    | 25, _ => exact a25.trans hk
    | 26, _ => exact a26.trans hk
    | 27, _ => exact a27.trans hk
    | 28, _ => exact a28.trans hk
    | 29, _ => exact a29.trans hk
end Go.Proofs.YtbidfbojealmlaaGreatDoor
