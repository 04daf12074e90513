/- The arguments of the laws about models as text, opened to their cells; what the listed variables hold. No condition. -/
import Derived.Test.YtmnhgeggojgflaaGreatDoorRows
import Derived.Test.YtmnhgeggojgflaaGreatDoorSgN
import Derived.Test.YtmnhgeggojgflaaGreatDoorDoor
import Derived.Test.YtmnhgeggojgflaaGreatDoorEvF
import Derived.Test.YtmnhgeggojgflaaGreatDoorWtB
set_option linter.unusedVariables false
set_option linter.unusedSimpArgs false
namespace Go.Proofs.YtmnhgeggojgflaaGreatDoor
open Go.ChangeShapes Go.WideShapes Go.ChangeAt Go.Deep Go.Joins Go.RowKit Go.ChangeMaps
open Ev (Md)
set_option maxRecDepth 100000

theorem row_Sig : 24 < Tryz.prog.types.size := by
  have : decide (24 < Tryz.prog.types.size) = true := by kernel_rfl
  exact of_decide_eq_true this
theorem readable_Sig : Tryz.prog.readableRec 24 = true := by kernel_rfl
theorem row_strs : 22 < Tryz.prog.types.size := by
  have : decide (22 < Tryz.prog.types.size) = true := by kernel_rfl
  exact of_decide_eq_true this
theorem readable_strs : Tryz.prog.readableRec 22 = true := by kernel_rfl
section
variable {H : Type} {enc : TypeId × Value → H} {w : World} {base : Nat} {spare : Nat → Bool} {held : Bool}
theorem open_names {fuel : Nat} {v : Value} {x : DataW H × List MemPlace} (h : DataW.trod enc Tryz.prog w base spare held fuel 22 [v] = some x) :
    ∃ (l : List ByteArray) (A : Option Addr) (c : Nat), v = .slice A l.length c ∧ Rd w (.slice A l.length c) 1 l.length (strs l) ∧ l.length ≤ 9223372036854775807 ∧ ∀ s ∈ l, s.size ≤ 9223372036854775807 := by
  rcases open_strs Tryz.underlying22 Tryz.underlying9 (by kernel_rfl) h with ⟨hcs, _⟩ | ⟨a, len, cap, m, Sx, hcs, _, hl, hm, hmm, _, hcell⟩
  · obtain rfl := (List.cons.inj hcs).1
    exact ⟨[], none, 0, rfl, Rd.nil _ _, by simp, by simp⟩
  · obtain rfl := (List.cons.inj hcs).1
    have hlm : len ≤ m := by rw [hmm]; split <;> omega
    refine ⟨(List.range len).map Sx, some a, cap, by simp, ⟨by simp, some a, cap, by simp, by simpa using hl, fun h0 => ?_⟩, by simp; unfold maxLen at hm; omega, fun s hs => ?_⟩
    · have h0 : 0 < len := by simpa using h0
      have h00 := (hcell 0 (by omega)).1
      have ha : a = ⟨a.block, a.off, none⟩ := by
        have e := spot_none h00
        have : a.add 0 = a := by simp [Addr.add]
        rwa [this] at e
      refine ⟨a.block, a.off, congrArg some ha, fun j u hu => ?_⟩
      have hj : j < len := by
        have := (List.getElem?_eq_some_iff.1 hu).1
        simpa using this
      rw [List.getElem?_map, List.getElem?_map, List.getElem?_range hj] at hu
      obtain rfl := Option.some.inj hu
      have hc1 := (hcell j (by omega)).1
      rw [ha, Addr.add_lit] at hc1
      exact hc1
    · obtain ⟨i, hi, rfl⟩ := List.mem_map.1 hs
      have := (hcell i (by have := List.mem_range.1 hi; omega)).2
      unfold maxLen at this
      exact this
theorem open_namesT {r : Reach} {b0 : Nat} {v : Value} {d : DataW H} {p : List MemPlace} (hv : Value.okWide Tryz.prog w r b0 22 v) (h : DataW.Trod enc Tryz.prog w base spare held 22 v d p) :
    ∃ (l : List ByteArray) (A : Option Addr) (c : Nat), v = .slice A l.length c ∧ Rd w (.slice A l.length c) 1 l.length (strs l) ∧ l.length ≤ 9223372036854775807 ∧ ∀ s ∈ l, s.size ≤ 9223372036854775807 := by
  obtain ⟨fuel, hf⟩ := h
  obtain ⟨A, len, cap, rfl⟩ := okWide_slice Tryz.underlying22 hv
  exact open_names hf
theorem open_sig {r : Reach} {b0 : Nat} {v : Value} {d : DataW H} {p : List MemPlace} (hv : Value.okWide Tryz.prog w r b0 24 v) (h : DataW.Trod enc Tryz.prog w base spare held 24 v d p) :
    ∃ (S : Sg) (a f c : Option Addr) (ca cf cc : Nat), v = .agg #[.slice a S.A.length ca, .slice f S.F.length cf, .slice c S.C.length cc] ∧ SigR w S a ca f cf c cc := by
  obtain ⟨v0, v1, v2, y0, y1, y2, n, rfl, -, -, h0, h1, h2⟩ := open_agg3 Tryz.underlying24 (by kernel_rfl) (by kernel_rfl) hv h
  obtain ⟨l0, a, ca, rfl, r0, n0, s0⟩ := open_names h0
  obtain ⟨l1, f, cf, rfl, r1, n1, s1⟩ := open_names h1
  obtain ⟨l2, c, cc, rfl, r2, n2, s2⟩ := open_names h2
  refine ⟨⟨l0, l1, l2⟩, a, f, c, ca, cf, cc, rfl, ⟨r0, r1, r2, fun x hx => ?_, n0, n1, n2⟩⟩
  simp only [Sg.all, List.mem_append] at hx
  rcases hx with (hx | hx) | hx
  · exact s0 x hx
  · exact s1 x hx
  · exact s2 x hx
end
theorem readable_Model : Tryz.prog.readableRec 28 = true := by kernel_rfl
theorem row_Model : 28 < Tryz.prog.types.size := by
  have : decide (28 < Tryz.prog.types.size) = true := by kernel_rfl
  exact of_decide_eq_true this
theorem readable_bytes : Tryz.prog.readableRec 41 = true := by kernel_rfl
theorem row_bytes : 41 < Tryz.prog.types.size := by
  have : decide (41 < Tryz.prog.types.size) = true := by kernel_rfl
  exact of_decide_eq_true this

theorem nat_u64 {a : Int} (h : (Lit.int .u64 a).wf = true) : ∃ n : Nat, a = n ∧ n < 18446744073709551616 := by
  simp [Lit.wf, IntKind.min, IntKind.max, IntKind.signed, IntKind.bits] at h
  exact ⟨a.toNat, by omega, by omega⟩
section
variable {H : Type} {enc : TypeId × Value → H} {P : Program} {w : World} {base : Nat} {spare : Nat → Bool} {held : Bool}
theorem opn_nums {t e : TypeId} {k : IntKind} (ht : P.underlying t = some (.slice e)) (he : P.underlying e = some (.int k)) (hc : P.cellsOf e = 1) {fuel : Nat} {v : Value} {x : DataW H × List MemPlace}
    (h : DataW.trod enc P w base spare held fuel t [v] = some x) :
    ∃ (l : List Int) (A : Option Addr) (c : Nat), v = .slice A l.length c ∧ Rd w (.slice A l.length c) 1 l.length (l.map (.int k)) ∧ l.length ≤ 9223372036854775807 ∧ ∀ n ∈ l, (Lit.int k n).wf = true := by
  rcases open_ints ht he hc h with ⟨hcs, _⟩ | ⟨a, len, cap, zs, hcs, _, hl, hm, hz, _, hcell, hw⟩
  · obtain rfl := (List.cons.inj hcs).1
    exact ⟨[], none, 0, rfl, Rd.nil _ _, by simp, by simp⟩
  · obtain rfl := (List.cons.inj hcs).1
    have hlz : len ≤ zs.length := by rw [hz]; split <;> omega
    have hlen : (zs.take len).length = len := by rw [List.length_take]; omega
    refine ⟨zs.take len, some a, cap, by rw [hlen], ⟨by simp, some a, cap, rfl, by rw [hlen]; exact hl, fun h0 => ?_⟩, by rw [hlen]; unfold maxLen at hm; omega, fun n hn => hw n (List.mem_of_mem_take hn)⟩
    rw [hlen] at h0
    have h00 := hcell 0 (by omega)
    have ha : a = ⟨a.block, a.off, none⟩ := by
      have e := spot_none h00
      have : a.add 0 = a := by simp [Addr.add]
      rwa [this] at e
    refine ⟨a.block, a.off, congrArg some ha, fun j u hu => ?_⟩
    rw [List.getElem?_map] at hu
    obtain ⟨z, hz1, rfl⟩ := Option.map_eq_some_iff.1 hu
    have hj : j < len := by
      have := (List.getElem?_eq_some_iff.1 hz1).1
      rwa [hlen] at this
    have hc1 := hcell j (by omega)
    rw [ha, Addr.add_lit] at hc1
    rw [List.getElem?_take_of_lt hj] at hz1
    rw [hc1, List.getD_eq_getElem?_getD, hz1]
    rfl
end
section
set_option maxRecDepth 100000
variable {H : Type} {enc : TypeId × Value → H} {w : World} {base : Nat} {spare : Nat → Bool} {held : Bool}
theorem opn_u64s {fuel : Nat} {v : Value} {x : DataW H × List MemPlace} (h : DataW.trod enc Tryz.prog w base spare held fuel 25 [v] = some x) :
    ∃ (l : List Nat) (A : Option Addr) (c : Nat), v = .slice A l.length c ∧ Rd w (.slice A l.length c) 1 l.length (u6 l) ∧ l.length ≤ 9223372036854775807 ∧ ∀ n ∈ l, n < 18446744073709551616 := by
  obtain ⟨l, A, c, rfl, hr, hl, hw⟩ := opn_nums Tryz.underlying25 Tryz.underlying45 (by kernel_rfl) h
  have hn : ∀ n ∈ l, ∃ m : Nat, n = m ∧ m < 18446744073709551616 := fun n hn => nat_u64 (hw n hn)
  have hll : (l.map Int.toNat).length = l.length := by simp
  have hml : u6 (l.map Int.toNat) = l.map (.int .u64) := by
    unfold u6
    rw [List.map_map]
    refine List.map_congr_left fun n hn' => ?_
    obtain ⟨m, rfl, _⟩ := hn n hn'
    simp
  refine ⟨l.map Int.toNat, A, c, by rw [hll], by rw [hll, hml]; exact hr, by rw [hll]; exact hl, fun n hn' => ?_⟩
  obtain ⟨z, hz, rfl⟩ := List.mem_map.1 hn'
  obtain ⟨m, rfl, hm⟩ := hn z hz
  simpa using hm
theorem range_cells {n : Nat} (V : Nat → Value) {j : Nat} {u : Value} (h : ((List.range n).map V)[j]? = some u) : j < n ∧ u = V j := by
  have hj : j < n := by have := (List.getElem?_eq_some_iff.1 h).1; simpa using this
  rw [List.getElem?_map, List.getElem?_range hj] at h
  exact ⟨hj, (Option.some.inj h).symm⟩
theorem rd_cells {a : Addr} {len cap size : Nat} (hl : len ≤ cap) (hs : 0 < size) (xs : List Value) (hx : xs.length = len * size) (hc : ∀ j u, xs[j]? = some u → w.cell? (a.add j) = some u) : Rd w (.slice (some a) len cap) size len xs := by
  refine ⟨hx, some a, cap, rfl, hl, fun h0 => ?_⟩
  have hx0 : 0 < xs.length := by rw [hx]; exact Nat.mul_pos h0 hs
  have h00 := hc 0 _ (List.getElem?_eq_getElem hx0)
  have ha : a = ⟨a.block, a.off, none⟩ := by
    have e := spot_none h00
    have : a.add 0 = a := by simp [Addr.add]
    rwa [this] at e
  refine ⟨a.block, a.off, congrArg some ha, fun j u hu => ?_⟩
  have := hc j u hu
  rwa [ha, Addr.add_lit] at this
theorem opn_rows {fuel : Nat} {v : Value} {x : DataW H × List MemPlace} (h : DataW.trod enc Tryz.prog w base spare held fuel 26 [v] = some x) :
    ∃ (R : List (List Nat)) (rs : List (Option Addr × Nat)) (A : Option Addr) (c : Nat), v = .slice A R.length c ∧ Rd w (.slice A R.length c) 1 R.length (rowsV R rs) ∧ rs.length = R.length ∧ R.length ≤ 9223372036854775807 ∧ (∀ r ∈ R, r.length ≤ 9223372036854775807) ∧ (∀ r ∈ R, ∀ n ∈ r, n < 18446744073709551616) ∧
      ∀ (k : Nat) (r : List Nat) (p : Option Addr × Nat), R[k]? = some r → rs[k]? = some p → Rd w (.slice p.1 r.length p.2) 1 r.length (u6 r) := by
  rcases open_slice1 Tryz.underlying26 (by kernel_rfl) h with ⟨hcs, _⟩ | ⟨a, len, cap, m, n, V, D, Pl, hcs, _, hl, hm, hmm, _, hi⟩
  · obtain rfl := (List.cons.inj hcs).1
    exact ⟨[], [], none, 0, rfl, Rd.nil _ _, rfl, by simp, by simp, by simp, by simp⟩
  · obtain rfl := (List.cons.inj hcs).1
    have hlm : len ≤ m := by rw [hmm]; split <;> omega
    have key : ∀ i, ∃ q : List Nat × (Option Addr × Nat), i < len → V i = .slice q.2.1 q.1.length q.2.2 ∧ Rd w (.slice q.2.1 q.1.length q.2.2) 1 q.1.length (u6 q.1) ∧ q.1.length ≤ 9223372036854775807 ∧ ∀ n ∈ q.1, n < 18446744073709551616 := fun i => by
      by_cases hil : i < len
      · obtain ⟨l, A, c, h1, h2, h3, h4⟩ := opn_u64s (hi i (by omega)).2
        exact ⟨(l, (A, c)), fun _ => ⟨h1, h2, h3, h4⟩⟩
      · exact ⟨([], (none, 0)), fun h => absurd h hil⟩
    obtain ⟨f, hf⟩ := Classical.axiomOfChoice key
    have hlen : ((List.range len).map fun i => (f i).1).length = len := by simp
    have hat : ∀ {α : Type} (g : Nat → α) (k : Nat) (r : α), ((List.range len).map g)[k]? = some r → k < len ∧ r = g k := fun g k r hk => by
      have hj : k < len := by have := (List.getElem?_eq_some_iff.1 hk).1; simpa using this
      rw [List.getElem?_map, List.getElem?_range hj] at hk
      exact ⟨hj, (Option.some.inj hk).symm⟩
    have hrow : rowsV ((List.range len).map fun i => (f i).1) ((List.range len).map fun i => (f i).2) = (List.range len).map fun i => (.slice (f i).2.1 (f i).1.length (f i).2.2 : Value) := by
      unfold rowsV
      rw [List.zipWith_map]
      simp [rowV]
    refine ⟨(List.range len).map fun i => (f i).1, (List.range len).map fun i => (f i).2, some a, cap, by rw [hlen], ?_, by simp, by rw [hlen]; unfold maxLen at hm; omega, fun r hr => ?_, fun r hr => ?_, fun k r p hk hp => ?_⟩
    · rw [hlen]
      refine rd_cells hl (by omega) _ (by rw [hrow]; simp) fun j u hu => ?_
      rw [hrow] at hu
      obtain ⟨hj, rfl⟩ := hat _ _ _ hu
      rw [(hi j (by omega)).1, (hf j hj).1]
    · obtain ⟨i, hi', rfl⟩ := List.mem_map.1 hr
      exact (hf i (List.mem_range.1 hi')).2.2.1
    · obtain ⟨i, hi', rfl⟩ := List.mem_map.1 hr
      exact (hf i (List.mem_range.1 hi')).2.2.2
    · obtain ⟨hk', rfl⟩ := hat _ _ _ hk
      obtain ⟨_, rfl⟩ := hat _ _ _ hp
      exact (hf k hk').2.1
theorem open_model {r : Reach} {b0 : Nat} {v : Value} {d : DataW H} {p : List MemPlace} (hv : Value.okWide Tryz.prog w r b0 28 v) (h : DataW.Trod enc Tryz.prog w base spare held 28 v d p) :
    ∃ (M : Md) (va : Option Addr) (cv : Nat) (ra : Option Addr) (cr : Nat) (rs : List (Option Addr × Nat)), v = .agg #[.int .i64 M.W, .slice va M.V.length cv, .slice ra M.R.length cr] ∧ MdR w M va cv ra cr rs ∧ -9223372036854775808 ≤ M.W ∧ M.W ≤ 9223372036854775807 := by
  obtain ⟨v0, v1, v2, y0, y1, y2, n, rfl, -, -, h0, h1, h2⟩ := open_agg3 Tryz.underlying28 (by kernel_rfl) (by kernel_rfl) hv h
  obtain ⟨W, e0, _, hw0⟩ := DataW.trod_int Tryz.underlying3 h0
  obtain rfl : v0 = .int .i64 W := by simpa using e0
  obtain ⟨V, va, cv, rfl, r1, n1, b1⟩ := opn_u64s h1
  obtain ⟨R, rs, ra, cr, rfl, r2, l2, n2, n3, b2, w2⟩ := opn_rows h2
  simp [Lit.wf, IntKind.min, IntKind.max, IntKind.signed, IntKind.bits] at hw0
  exact ⟨⟨W, V, R⟩, va, cv, ra, cr, rs, rfl, ⟨r1, r2, l2, w2, ⟨b1, b2⟩, n1, n2, n3⟩, by simp only; omega, by simp only; omega⟩
theorem open_bytes {r : Reach} {b0 : Nat} {v : Value} {d : DataW H} {p : List MemPlace} (hv : Value.okWide Tryz.prog w r b0 41 v) (h : DataW.Trod enc Tryz.prog w base spare held 41 v d p) :
    ∃ (l : List Int) (A : Option Addr) (c : Nat), v = .slice A l.length c ∧ Rd w (.slice A l.length c) 1 l.length (l.map (.int .u8)) ∧ l.length ≤ 9223372036854775807 ∧ ∀ n ∈ l, (Lit.int .u8 n).wf = true := by
  obtain ⟨fuel, hf⟩ := h
  obtain ⟨A, len, cap, rfl⟩ := okWide_slice Tryz.underlying41 hv
  exact opn_nums Tryz.underlying41 Tryz.underlying5 (by kernel_rfl) hf
end
def laidL : List (String × DataW Unit) := Rows.modeltextValidRow.laid
theorem tabs_of_laid {W : World} (h : laidMetH Tryz.prog laidL W) (hsh : W.ShapedOpen Tryz.prog) : Tab W ∧ Ws.Tab W := by
  rw [MakeChecks.laidMetH_plain _ _ _ (by kernel_rfl)] at h
  obtain ⟨ps, ⟨g0, t0, cs0, fuel0, p0, q0, hg0, ht0, hv0, hd0, ⟨g1, t1, cs1, fuel1, p1, q1, hg1, ht1, hv1, hd1, ⟨g2, t2, cs2, fuel2, p2, q2, hg2, ht2, hv2, hd2, ⟨g3, t3, cs3, fuel3, p3, q3, hg3, ht3, hv3, hd3, ⟨g4, t4, cs4, fuel4, p4, q4, hg4, ht4, hv4, hd4, ⟨g5, t5, cs5, fuel5, p5, q5, hg5, ht5, hv5, hd5, ⟨g, t, cs, fuel, p, q, hg, ht, hv, hd, _⟩, _⟩, _⟩, _⟩, _⟩, _⟩, _⟩, _, _⟩ := h
  constructor
  · refine ⟨?_, Tryz.laysM146.s1_3 W hsh⟩
    obtain rfl : g = 1 := Option.some.inj (hg.symm.trans (by kernel_rfl))
    obtain rfl := Option.some.inj ((show (Tryz.prog.globals[1]?).map (·.type) = some 117 by kernel_rfl).symm.trans ht)
    obtain ⟨xs, m, _, ex, _, hl, hel⟩ := DataW.trod_array Tryz.underlying117 hd
    have c5 : Tryz.prog.cellsOf 9 = 1 := by kernel_rfl
    intro r x hr
    have hr7 : r < 7 := (List.getElem?_eq_some_iff.1 hr).1
    have hE := hel r hr7
    rw [c5, Nat.mul_one, List.getElem?_eq_getElem (by omega)] at hE
    obtain ⟨z, e1, e2, _⟩ := DataW.trod_string Tryz.underlying9 hE
    have e3 : (xs.map (·.1)) = resW.map fun n : ByteArray => (DataW.lit (.string n.data.toList) : DataW Unit) := (DataW.agg.inj (Prod.mk.inj ex).1).symm.trans (by kernel_rfl)
    have e4 : (xs.map (·.1))[r]? = (resW.map fun n : ByteArray => (DataW.lit (.string n.data.toList) : DataW Unit))[r]? := by rw [e3]
    rw [List.getElem?_map, List.getElem?_map, List.getElem?_eq_getElem (by omega : r < xs.length), hr, e2] at e4
    have hz : z = x := by
      simp only [Option.map_some, Option.some.injEq, DataW.lit.injEq, Lit.string.injEq] at e4
      exact ba_ext e4
    rw [World.var?_cell hg hv r, ← hz]
    have : cs.toList[r]? = some (.string z) := by
      have h0 : ((cs.toList.drop r).take 1)[0]? = some (.string z) := by rw [e1]; rfl
      simpa using h0
    simpa using this
  · refine ⟨?_, Tryz.laysM146.s1_3 W hsh⟩
    obtain rfl : g1 = 2 := Option.some.inj (hg1.symm.trans (by kernel_rfl))
    obtain rfl := Option.some.inj ((show (Tryz.prog.globals[2]?).map (·.type) = some 140 by kernel_rfl).symm.trans ht1)
    obtain ⟨xs, m, _, ex, _, hl, hel⟩ := DataW.trod_array Tryz.underlying140 hd1
    have c5 : Tryz.prog.cellsOf 5 = 1 := by kernel_rfl
    intro r hr
    have hlen : Lib.deBruijn64tab.length = 64 := by kernel_rfl
    rw [hlen] at hr
    have hE := hel r hr
    rw [c5, Nat.mul_one, List.getElem?_eq_getElem (by omega)] at hE
    obtain ⟨z, e1, e2, _⟩ := DataW.trod_int Tryz.underlying5 hE
    have e3 : (xs.map (·.1)) = Lib.deBruijn64tab.map fun n : Nat => (DataW.lit (.int .u8 (n : Int)) : DataW Unit) := (DataW.agg.inj (Prod.mk.inj ex).1).symm.trans (by kernel_rfl)
    have e4 : (xs.map (·.1))[r]? = (Lib.deBruijn64tab.map fun n : Nat => (DataW.lit (.int .u8 (n : Int)) : DataW Unit))[r]? := by rw [e3]
    rw [List.getElem?_map, List.getElem?_map, List.getElem?_eq_getElem (by omega : r < xs.length), List.getElem?_eq_getElem (by omega : r < Lib.deBruijn64tab.length), e2] at e4
    have hz : z = ((Lib.deBruijn64tab.getD r 0 : Nat) : Int) := by
      simp only [Option.map_some, Option.some.injEq, DataW.lit.injEq, Lit.int.injEq, true_and] at e4
      rw [e4, List.getD, List.getElem?_eq_getElem (by omega : r < Lib.deBruijn64tab.length)]
      rfl
    rw [World.var?_cell hg1 hv1 r, ← hz]
    have : cs1.toList[r]? = some (.int .u8 z) := by
      have h0 : ((cs1.toList.drop r).take 1)[0]? = some (.int .u8 z) := by rw [e1]; rfl
      simpa using h0
    simpa using this
end Go.Proofs.YtmnhgeggojgflaaGreatDoor
