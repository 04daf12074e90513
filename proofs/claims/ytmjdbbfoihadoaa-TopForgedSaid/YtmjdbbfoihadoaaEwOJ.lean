/- Arguments that are models, formulas and evidence, opened to their cells. What the references ask of the sizes of models and of evidence. No condition. -/
import Derived.Deep.Slices
import Derived.Deep.Fields
import Derived.ChangeSame
import Derived.WideKeyArgs
import Derived.Lib.SmallJoins
import Derived.ChangeSlices
import Derived.Test.YtmjdbbfoihadoaaEvZ
set_option linter.unusedVariables false
set_option linter.unusedSimpArgs false
namespace Go.Proofs.Ytmjdbbfoihadoaa
open Go.ChangeShapes Go.WideShapes Go.ChangeAt Go.Deep Go.Joins Go.RowKit Go.ChangeMaps
open Fm (Nd)
open Ev

theorem laid_prog : laidOutB Try.prog = true := by kernel_rfl
theorem readable_nodes : Try.prog.readableRec 26 = true := by kernel_rfl
theorem row_nodes : 26 < Try.prog.types.size := by
  have : decide (26 < Try.prog.types.size) = true := by kernel_rfl
  exact of_decide_eq_true this
theorem readable_Model : Try.prog.readableRec 25 = true := by kernel_rfl
theorem row_Model : 25 < Try.prog.types.size := by
  have : decide (25 < Try.prog.types.size) = true := by kernel_rfl
  exact of_decide_eq_true this
theorem readable_Evidence : Try.prog.readableRec 29 = true := by kernel_rfl
theorem row_Evidence : 29 < Try.prog.types.size := by
  have : decide (29 < Try.prog.types.size) = true := by kernel_rfl
  exact of_decide_eq_true this
theorem shut_read {H : Type} {enc : TypeId × Value → H} {t : TypeId} (hr : Try.prog.readableRec t = true) (ht : t < Try.prog.types.size) {W W' : World} {base : Nat} {sp : Nat → Bool} {v : Value} {d : DataW H} {ps : List MemPlace} (h : DataW.Trod enc Try.prog W base (fun _ => true) true t v d ps) (hb : Below W.heap.size W W') (hlt : ∀ p ∈ ps, p.block < W.heap.size) (hs : ∀ p ∈ ps, sp p.block = true) :
    DataW.Trod enc Try.prog W' base sp true t v d ps :=
  WideElems.Trod_stays laid_prog hr ht h (fun p hp => hb.same (hlt p hp)) hs
theorem spot_none {w : World} {a : Addr} {v : Value} (h : w.cell? a = some v) : a = ⟨a.block, a.off, none⟩ := by
  obtain ⟨b, o, s⟩ := a
  cases s with
  | none => rfl
  | some s =>
    exfalso
    unfold World.cell? at h
    split at h
    · simp at h
    · cases h
theorem nat_u64 {a : Int} (h : (Lit.int .u64 a).wf = true) : ∃ n : Nat, a = n ∧ n < 18446744073709551616 := by
  simp [Lit.wf, IntKind.min, IntKind.max, IntKind.signed, IntKind.bits] at h
  exact ⟨a.toNat, by omega, by omega⟩
section
variable {H : Type} {enc : TypeId × Value → H} {P : Program} {w : World} {base : Nat} {spare : Nat → Bool} {held : Bool}
theorem open_slice_fields {t e : TypeId} {fs : Array Field} {fuel : Nat} {cs : List Value} {x : DataW H × List MemPlace} (ht : P.underlying t = some (.slice e)) (he : P.underlying e = some (.struct fs))
    (hone : oneCellFields P fs = true) (hC : P.cellsOf e = fs.size) (h : DataW.trod enc P w base spare held fuel t cs = some x) :
    (cs = [.slice none 0 0] ∧ x = (.nil, [])) ∨
    ∃ (a : Addr) (len cap m : Nat) (D : Nat → DataW H) (Pl : Nat → List MemPlace), cs = [.slice (some a) len cap] ∧ base ≤ a.block ∧ len ≤ cap ∧ cap ≤ maxLen ∧ m = (if spare a.block then cap else len) ∧
      x = (.slice ((List.range len).map D) ((List.range (m - len)).map fun j => D (len + j)), MemPlace.row a (m * fs.size) ++ (List.range m).flatMap Pl) ∧
      ∀ i, i < m → ∃ (ys : List (DataW H × List MemPlace)) (n : Nat), D i = .agg (ys.map (·.1)) ∧ Pl i = ys.flatMap (·.2) ∧ ys.length = fs.size ∧
        ∀ (j : Nat) (f : Field), fs[j]? = some f → ∃ (v : Value) (y : DataW H × List MemPlace), w.cell? (a.add (i * fs.size + j)) = some v ∧ ys[j]? = some y ∧ DataW.trod enc P w base spare held n f.type [v] = some y := by
  rcases open_slice ht h with h0 | ⟨a, len, cap, m, n, D, Pl, hcs, hb, hl, hm, hmm, hx, hi⟩
  · exact .inl h0
  · refine .inr ⟨a, len, cap, m, D, Pl, hcs, hb, hl, hm, hmm, by rw [hC] at hx; exact hx, fun i him => ?_⟩
    obtain ⟨cs', hc, ht'⟩ := hi i him
    rw [hC] at hc
    obtain ⟨ys, n', hn', hy, hlen, hyl, hf⟩ := DataW.trod_struct he ht'
    obtain ⟨_, hcl, hat⟩ := World.cells?_some hc
    simp only [Prod.mk.injEq] at hy
    refine ⟨ys, n', hy.1, hy.2, hyl, fun j f hj => ?_⟩
    obtain ⟨ho, hk⟩ := hone_of hone j f hj
    have hjl : j < fs.size := (Array.getElem?_eq_some_iff.1 hj).1
    have hcell := hat j hjl
    have hv : cs'[j]? = some (cs'[j]'(by omega)) := List.getElem?_eq_getElem (by omega)
    have h1 := hf j f hj
    rw [ho, hk] at h1
    have hone' : (cs'.drop j).take 1 = [cs'[j]'(by omega)] := by
      rw [List.drop_eq_getElem_cons (by omega)]
      rfl
    rw [hone'] at h1
    have hys : ys[j]? = some (ys[j]'(by omega)) := List.getElem?_eq_getElem (by omega)
    refine ⟨_, _, ?_, hys, h1.trans hys⟩
    rw [← Go.Deep.add_add, hcell, hv]
theorem opn_nums {t e : TypeId} {k : IntKind} (ht : P.underlying t = some (.slice e)) (he : P.underlying e = some (.int k)) (hc : P.cellsOf e = 1) {fuel : Nat} {v : Value} {x : DataW H × List MemPlace}
    (h : DataW.trod enc P w base spare held fuel t [v] = some x) :
    ∃ (l : List Int) (A : Option Addr) (c : Nat), v = .slice A l.length c ∧ Rd w (.slice A l.length c) 1 l.length (l.map (.int k)) ∧ l.length ≤ 9223372036854775807 ∧ ∀ n ∈ l, (Lit.int k n).wf = true := by
  rcases open_ints ht he hc h with ⟨hcs, _⟩ | ⟨a, len, cap, zs, hcs, _, hl, hm, hz, _, hcell, hw⟩
  · obtain rfl := (List.cons.inj hcs).1
    exact ⟨[], none, 0, rfl, Rd.nil _ _, by simp, by simp⟩
  · obtain rfl := (List.cons.inj hcs).1
    have hlz : len ≤ zs.length := by rw [hz]; split <;> omega
    have hlen : (zs.take len).length = len := by rw [List.length_take]; omega
    refine ⟨zs.take len, some a, cap, by rw [hlen], ⟨by simp, some a, cap, rfl, by rw [hlen]; exact hl, fun h0 => ?_⟩, by rw [hlen]; unfold maxLen at hm; omega, fun n hn => hw n (List.mem_of_mem_take hn)⟩
    rw [hlen] at h0
    have h00 := hcell 0 (by omega)
    have ha : a = ⟨a.block, a.off, none⟩ := by
      have e := spot_none h00
      have : a.add 0 = a := by simp [Addr.add]
      rwa [this] at e
    refine ⟨a.block, a.off, congrArg some ha, fun j u hu => ?_⟩
    rw [List.getElem?_map] at hu
    obtain ⟨z, hz1, rfl⟩ := Option.map_eq_some_iff.1 hu
    have hj : j < len := by
      have := (List.getElem?_eq_some_iff.1 hz1).1
      rwa [hlen] at this
    have hc1 := hcell j (by omega)
    rw [ha, Addr.add_lit] at hc1
    rw [List.getElem?_take_of_lt hj] at hz1
    rw [hc1, List.getD_eq_getElem?_getD, hz1]
    rfl
end
theorem fmC_range (f : Nat → Nd) : ∀ (n i : Nat), i < n * 6 → (fmC ((List.range n).map f))[i]? = (ndC (f (i / 6)))[i % 6]? := by
  intro n i hi
  have hk : i / 6 < n := by omega
  have hat : ((List.range n).map f)[i / 6]? = some (f (i / 6)) := by simp [hk]
  have := fmC_at _ _ _ hat (i % 6) (by omega)
  rwa [show i / 6 * 6 + i % 6 = i by omega] at this
section
set_option maxRecDepth 100000
variable {H : Type} {enc : TypeId × Value → H} {w : World} {base : Nat} {spare : Nat → Bool} {held : Bool}
theorem open_fnodes {r : Reach} {b0 : Nat} {v : Value} {d : DataW H} {p : List MemPlace} (hv : Value.okWide Try.prog w r b0 26 v) (h0 : DataW.Trod enc Try.prog w base spare held 26 v d p) :
    ∃ (R : List Nd) (A : Option Addr) (c : Nat), v = .slice A R.length c ∧ Rd w (.slice A R.length c) 6 R.length (fmC R) ∧ R.length ≤ 9223372036854775807 := by
  obtain ⟨fuel, h⟩ := h0
  obtain ⟨A0, len0, cap0, rfl⟩ := okWide_slice Try.underlying26 hv
  rcases open_slice_fields Try.underlying26 Try.underlying53 (by kernel_rfl) (by kernel_rfl) h with ⟨h0, _⟩ | ⟨a, len, cap, m, D, Pl, hcs, _, hl, hm, hmm, _, hi⟩
  · have e0 := (List.cons.inj h0).1
    exact ⟨[], none, 0, e0, Rd.nil _ _, by simp⟩
  · have e0 := (List.cons.inj hcs).1
    rw [e0]
    have hlm : len ≤ m := by rw [hmm]; split <;> omega
    have key : ∀ i, ∃ q : Nd, i < len → ∀ j u, (ndC q)[j]? = some u → w.cell? (a.add (i * 6 + j)) = some u := fun i => by
      by_cases hil : i < len
      · obtain ⟨ys, n, _, _, _, hf⟩ := hi i (by omega)
        obtain ⟨v0, y0, c0, _, t0⟩ := hf 0 _ rfl
        obtain ⟨v1, y1, c1, _, t1⟩ := hf 1 _ rfl
        obtain ⟨v2, y2, c2, _, t2⟩ := hf 2 _ rfl
        obtain ⟨v3, y3, c3, _, t3⟩ := hf 3 _ rfl
        obtain ⟨v4, y4, c4, _, t4⟩ := hf 4 _ rfl
        obtain ⟨v5, y5, c5, _, t5⟩ := hf 5 _ rfl
        obtain ⟨n0, e0, _, _⟩ := DataW.trod_int Try.underlying3 t0
        obtain ⟨n1, e1, _, _⟩ := DataW.trod_int Try.underlying3 t1
        obtain ⟨n2, e2, _, _⟩ := DataW.trod_int Try.underlying3 t2
        obtain ⟨n3, e3, _, _⟩ := DataW.trod_int Try.underlying3 t3
        obtain ⟨n4, e4, _, _⟩ := DataW.trod_int Try.underlying3 t4
        obtain ⟨n5, e5, _, _⟩ := DataW.trod_int Try.underlying3 t5
        obtain rfl : v0 = .int .i64 n0 := by simpa using e0
        obtain rfl : v1 = .int .i64 n1 := by simpa using e1
        obtain rfl : v2 = .int .i64 n2 := by simpa using e2
        obtain rfl : v3 = .int .i64 n3 := by simpa using e3
        obtain rfl : v4 = .int .i64 n4 := by simpa using e4
        obtain rfl : v5 = .int .i64 n5 := by simpa using e5
        refine ⟨⟨n0, n1, n2, n3, n4, n5⟩, fun _ j u hu => ?_⟩
        have hj : j < 6 := (List.getElem?_eq_some_iff.1 hu).1
        have h6 : j = 0 ∨ j = 1 ∨ j = 2 ∨ j = 3 ∨ j = 4 ∨ j = 5 := by omega
        rcases h6 with rfl | rfl | rfl | rfl | rfl | rfl <;> obtain rfl := Option.some.inj hu
        · exact c0
        · exact c1
        · exact c2
        · exact c3
        · exact c4
        · exact c5
      · exact ⟨⟨0, 0, 0, 0, 0, 0⟩, fun h => absurd h hil⟩
    obtain ⟨f, hf⟩ := Classical.axiomOfChoice key
    have hlen : ((List.range len).map f).length = len := by simp
    refine ⟨(List.range len).map f, some a, cap, by rw [hlen], ⟨by rw [fmC_len], some a, cap, by rw [hlen], by rw [hlen]; exact hl, fun h0 => ?_⟩, by rw [hlen]; unfold maxLen at hm; omega⟩
    rw [hlen] at h0
    have hsp := spot_none (hf 0 h0 0 _ rfl)
    have ha : a = ⟨a.block, a.off, none⟩ := by
      have : a.add (0 * 6 + 0) = a := by simp [Addr.add]
      rwa [this] at hsp
    refine ⟨a.block, a.off, congrArg some ha, fun j u hu => ?_⟩
    have hj : j < len * 6 := by
      have := (List.getElem?_eq_some_iff.1 hu).1
      rw [fmC_len, hlen] at this
      exact this
    rw [fmC_range f len j hj] at hu
    have := hf (j / 6) (by omega) (j % 6) u hu
    rw [ha, Addr.add_lit, show j / 6 * 6 + j % 6 = j by omega] at this
    exact this
end
section
set_option maxRecDepth 100000
variable {H : Type} {enc : TypeId × Value → H} {w : World} {base : Nat} {spare : Nat → Bool} {held : Bool}
theorem opn_u64s {fuel : Nat} {v : Value} {x : DataW H × List MemPlace} (h : DataW.trod enc Try.prog w base spare held fuel 22 [v] = some x) :
    ∃ (l : List Nat) (A : Option Addr) (c : Nat), v = .slice A l.length c ∧ Rd w (.slice A l.length c) 1 l.length (u6 l) ∧ l.length ≤ 9223372036854775807 ∧ ∀ n ∈ l, n < 18446744073709551616 := by
  obtain ⟨l, A, c, rfl, hr, hl, hw⟩ := opn_nums Try.underlying22 Try.underlying38 (by kernel_rfl) h
  have hn : ∀ n ∈ l, ∃ m : Nat, n = m ∧ m < 18446744073709551616 := fun n hn => nat_u64 (hw n hn)
  have hll : (l.map Int.toNat).length = l.length := by simp
  have hml : u6 (l.map Int.toNat) = l.map (.int .u64) := by
    unfold u6
    rw [List.map_map]
    refine List.map_congr_left fun n hn' => ?_
    obtain ⟨m, rfl, _⟩ := hn n hn'
    simp
  refine ⟨l.map Int.toNat, A, c, by rw [hll], by rw [hll, hml]; exact hr, by rw [hll]; exact hl, fun n hn' => ?_⟩
  obtain ⟨z, hz, rfl⟩ := List.mem_map.1 hn'
  obtain ⟨m, rfl, hm⟩ := hn z hz
  simpa using hm
theorem range_cells {n : Nat} (V : Nat → Value) {j : Nat} {u : Value} (h : ((List.range n).map V)[j]? = some u) : j < n ∧ u = V j := by
  have hj : j < n := by have := (List.getElem?_eq_some_iff.1 h).1; simpa using this
  rw [List.getElem?_map, List.getElem?_range hj] at h
  exact ⟨hj, (Option.some.inj h).symm⟩
theorem rd_cells {a : Addr} {len cap size : Nat} (hl : len ≤ cap) (hs : 0 < size) (xs : List Value) (hx : xs.length = len * size) (hc : ∀ j u, xs[j]? = some u → w.cell? (a.add j) = some u) : Rd w (.slice (some a) len cap) size len xs := by
  refine ⟨hx, some a, cap, rfl, hl, fun h0 => ?_⟩
  have hx0 : 0 < xs.length := by rw [hx]; exact Nat.mul_pos h0 hs
  have h00 := hc 0 _ (List.getElem?_eq_getElem hx0)
  have ha : a = ⟨a.block, a.off, none⟩ := by
    have e := spot_none h00
    have : a.add 0 = a := by simp [Addr.add]
    rwa [this] at e
  refine ⟨a.block, a.off, congrArg some ha, fun j u hu => ?_⟩
  have := hc j u hu
  rwa [ha, Addr.add_lit] at this
theorem opn_rows {fuel : Nat} {v : Value} {x : DataW H × List MemPlace} (h : DataW.trod enc Try.prog w base spare held fuel 23 [v] = some x) :
    ∃ (R : List (List Nat)) (rs : List (Option Addr × Nat)) (A : Option Addr) (c : Nat), v = .slice A R.length c ∧ Rd w (.slice A R.length c) 1 R.length (rowsV R rs) ∧ rs.length = R.length ∧ R.length ≤ 9223372036854775807 ∧ (∀ r ∈ R, r.length ≤ 9223372036854775807) ∧ (∀ r ∈ R, ∀ n ∈ r, n < 18446744073709551616) ∧
      ∀ (k : Nat) (r : List Nat) (p : Option Addr × Nat), R[k]? = some r → rs[k]? = some p → Rd w (.slice p.1 r.length p.2) 1 r.length (u6 r) := by
  rcases open_slice1 Try.underlying23 (by kernel_rfl) h with ⟨hcs, _⟩ | ⟨a, len, cap, m, n, V, D, Pl, hcs, _, hl, hm, hmm, _, hi⟩
  · obtain rfl := (List.cons.inj hcs).1
    exact ⟨[], [], none, 0, rfl, Rd.nil _ _, rfl, by simp, by simp, by simp, by simp⟩
  · obtain rfl := (List.cons.inj hcs).1
    have hlm : len ≤ m := by rw [hmm]; split <;> omega
    have key : ∀ i, ∃ q : List Nat × (Option Addr × Nat), i < len → V i = .slice q.2.1 q.1.length q.2.2 ∧ Rd w (.slice q.2.1 q.1.length q.2.2) 1 q.1.length (u6 q.1) ∧ q.1.length ≤ 9223372036854775807 ∧ ∀ n ∈ q.1, n < 18446744073709551616 := fun i => by
      by_cases hil : i < len
      · obtain ⟨l, A, c, h1, h2, h3, h4⟩ := opn_u64s (hi i (by omega)).2
        exact ⟨(l, (A, c)), fun _ => ⟨h1, h2, h3, h4⟩⟩
      · exact ⟨([], (none, 0)), fun h => absurd h hil⟩
    obtain ⟨f, hf⟩ := Classical.axiomOfChoice key
    have hlen : ((List.range len).map fun i => (f i).1).length = len := by simp
    have hat : ∀ {α : Type} (g : Nat → α) (k : Nat) (r : α), ((List.range len).map g)[k]? = some r → k < len ∧ r = g k := fun g k r hk => by
      have hj : k < len := by have := (List.getElem?_eq_some_iff.1 hk).1; simpa using this
      rw [List.getElem?_map, List.getElem?_range hj] at hk
      exact ⟨hj, (Option.some.inj hk).symm⟩
    have hrow : rowsV ((List.range len).map fun i => (f i).1) ((List.range len).map fun i => (f i).2) = (List.range len).map fun i => (.slice (f i).2.1 (f i).1.length (f i).2.2 : Value) := by
      unfold rowsV
      rw [List.zipWith_map]
      simp [rowV]
    refine ⟨(List.range len).map fun i => (f i).1, (List.range len).map fun i => (f i).2, some a, cap, by rw [hlen], ?_, by simp, by rw [hlen]; unfold maxLen at hm; omega, fun r hr => ?_, fun r hr => ?_, fun k r p hk hp => ?_⟩
    · rw [hlen]
      refine rd_cells hl (by omega) _ (by rw [hrow]; simp) fun j u hu => ?_
      rw [hrow] at hu
      obtain ⟨hj, rfl⟩ := hat _ _ _ hu
      rw [(hi j (by omega)).1, (hf j hj).1]
    · obtain ⟨i, hi', rfl⟩ := List.mem_map.1 hr
      exact (hf i (List.mem_range.1 hi')).2.2.1
    · obtain ⟨i, hi', rfl⟩ := List.mem_map.1 hr
      exact (hf i (List.mem_range.1 hi')).2.2.2
    · obtain ⟨hk', rfl⟩ := hat _ _ _ hk
      obtain ⟨_, rfl⟩ := hat _ _ _ hp
      exact (hf k hk').2.1
theorem open_model {r : Reach} {b0 : Nat} {v : Value} {d : DataW H} {p : List MemPlace} (hv : Value.okWide Try.prog w r b0 25 v) (h : DataW.Trod enc Try.prog w base spare held 25 v d p) :
    ∃ (M : Md) (va : Option Addr) (cv : Nat) (ra : Option Addr) (cr : Nat) (rs : List (Option Addr × Nat)), v = .agg #[.int .i64 M.W, .slice va M.V.length cv, .slice ra M.R.length cr] ∧ MdR w M va cv ra cr rs ∧ -9223372036854775808 ≤ M.W ∧ M.W ≤ 9223372036854775807 := by
  obtain ⟨v0, v1, v2, y0, y1, y2, n, rfl, -, -, h0, h1, h2⟩ := open_agg3 Try.underlying25 (by kernel_rfl) (by kernel_rfl) hv h
  obtain ⟨W, e0, _, hw0⟩ := DataW.trod_int Try.underlying3 h0
  obtain rfl : v0 = .int .i64 W := by simpa using e0
  obtain ⟨V, va, cv, rfl, r1, n1, b1⟩ := opn_u64s h1
  obtain ⟨R, rs, ra, cr, rfl, r2, l2, n2, n3, b2, w2⟩ := opn_rows h2
  simp [Lit.wf, IntKind.min, IntKind.max, IntKind.signed, IntKind.bits] at hw0
  exact ⟨⟨W, V, R⟩, va, cv, ra, cr, rs, rfl, ⟨r1, r2, l2, w2, ⟨b1, b2⟩, n1, n2, n3⟩, by simp only; omega, by simp only; omega⟩
/-- Evidence as it is handed over. -/
structure EvO (w : World) (E : List Rs) (sA : Option Addr) (sc : Nat) (ps : List (Option Addr × Nat)) : Prop where
  S : Rd w (.slice sA E.length sc) 5 E.length (rssC E ps)
  pl : ps.length = E.length
  fr : ∀ (k : Nat) (r : Rs) (p : Option Addr × Nat), E[k]? = some r → ps[k]? = some p → Rd w (.slice p.1 r.fr.length p.2) 1 r.fr.length (inZ r.fr)
  st : ∀ r ∈ E, r.st < 18446744073709551616
  lw : ∀ r ∈ E, -9223372036854775808 ≤ r.w ∧ r.w ≤ 9223372036854775807 ∧ -9223372036854775808 ≤ r.k ∧ r.k ≤ 9223372036854775807
  le : E.length ≤ 9223372036854775807
  lf : ∀ r ∈ E, r.fr.length ≤ 9223372036854775807
theorem rssC_range (f : Nat → Rs) (g : Nat → Option Addr × Nat) : ∀ (n i : Nat), i < n * 5 → (rssC ((List.range n).map f) ((List.range n).map g))[i]? = (rsC (f (i / 5)) (g (i / 5)))[i % 5]? := by
  intro n i hi
  have hk : i / 5 < n := by omega
  have := rssC_at ((List.range n).map f) ((List.range n).map g) (i / 5) (f (i / 5)) (g (i / 5)) (by simp [hk]) (by simp [hk]) (i % 5) (by omega)
  rwa [show i / 5 * 5 + i % 5 = i by omega] at this
theorem opn_reasons {fuel : Nat} {v : Value} {x : DataW H × List MemPlace} (h : DataW.trod enc Try.prog w base spare held fuel 27 [v] = some x) :
    ∃ (E : List Rs) (sA : Option Addr) (sc : Nat) (ps : List (Option Addr × Nat)), v = .slice sA E.length sc ∧ EvO w E sA sc ps := by
  rcases open_slice_fields Try.underlying27 Try.underlying40 (by kernel_rfl) (by kernel_rfl) h with ⟨hcs, _⟩ | ⟨a, len, cap, m, D, Pl, hcs, _, hl, hm, hmm, _, hi⟩
  · obtain rfl := (List.cons.inj hcs).1
    exact ⟨[], none, 0, [], rfl, ⟨Rd.nil _ _, rfl, by simp, by simp, by simp, by simp, by simp⟩⟩
  · obtain rfl := (List.cons.inj hcs).1
    have hlm : len ≤ m := by rw [hmm]; split <;> omega
    have key : ∀ i, ∃ q : Rs × (Option Addr × Nat), i < len → (∀ j u, (rsC q.1 q.2)[j]? = some u → w.cell? (a.add (i * 5 + j)) = some u) ∧ Rd w (.slice q.2.1 q.1.fr.length q.2.2) 1 q.1.fr.length (inZ q.1.fr) ∧ q.1.st < 18446744073709551616 ∧ q.1.fr.length ≤ 9223372036854775807 ∧
        -9223372036854775808 ≤ q.1.w ∧ q.1.w ≤ 9223372036854775807 ∧ -9223372036854775808 ≤ q.1.k ∧ q.1.k ≤ 9223372036854775807 := fun i => by
      by_cases hil : i < len
      · obtain ⟨ys, n, _, _, _, hf⟩ := hi i (by omega)
        obtain ⟨v0, y0, c0, _, t0⟩ := hf 0 _ rfl
        obtain ⟨v1, y1, c1, _, t1⟩ := hf 1 _ rfl
        obtain ⟨v2, y2, c2, _, t2⟩ := hf 2 _ rfl
        obtain ⟨v3, y3, c3, _, t3⟩ := hf 3 _ rfl
        obtain ⟨v4, y4, c4, _, t4⟩ := hf 4 _ rfl
        obtain ⟨n0, e0, _, w0⟩ := DataW.trod_int Try.underlying3 t0
        obtain ⟨n1, e1, _, w1⟩ := DataW.trod_int Try.underlying3 t1
        obtain ⟨b2, e2, _⟩ := DataW.trod_bool Try.underlying4 t2
        obtain ⟨l3, A3, c3', rfl, r3, ln3, _⟩ := opn_nums Try.underlying37 Try.underlying3 (by kernel_rfl) t3
        obtain ⟨n4, e4, _, w4⟩ := DataW.trod_int Try.underlying38 t4
        obtain ⟨m4, rfl, hm4⟩ := nat_u64 w4
        obtain rfl : v0 = .int .i64 n0 := by simpa using e0
        obtain rfl : v1 = .int .i64 n1 := by simpa using e1
        obtain rfl : v2 = .bool b2 := by simpa using e2
        obtain rfl : v4 = .int .u64 (m4 : Int) := by simpa using e4
        simp [Lit.wf, IntKind.min, IntKind.max, IntKind.signed, IntKind.bits] at w0 w1
        refine ⟨(⟨n0, n1, b2, l3, m4⟩, (A3, c3')), fun _ => ⟨fun j u hu => ?_, r3, hm4, ln3, by simp only; omega, by simp only; omega, by simp only; omega, by simp only; omega⟩⟩
        have hj : j < 5 := (List.getElem?_eq_some_iff.1 hu).1
        have h5 : j = 0 ∨ j = 1 ∨ j = 2 ∨ j = 3 ∨ j = 4 := by omega
        rcases h5 with rfl | rfl | rfl | rfl | rfl <;> obtain rfl := Option.some.inj hu
        · exact c0
        · exact c1
        · exact c2
        · exact c3
        · exact c4
      · exact ⟨(⟨0, 0, false, [], 0⟩, (none, 0)), fun h => absurd h hil⟩
    obtain ⟨f, hf⟩ := Classical.axiomOfChoice key
    have hlen : ((List.range len).map fun i => (f i).1).length = len := by simp
    have hat : ∀ {α : Type} (g : Nat → α) (k : Nat) (r : α), ((List.range len).map g)[k]? = some r → k < len ∧ r = g k := fun g k r hk => by
      have hj : k < len := by have := (List.getElem?_eq_some_iff.1 hk).1; simpa using this
      rw [List.getElem?_map, List.getElem?_range hj] at hk
      exact ⟨hj, (Option.some.inj hk).symm⟩
    refine ⟨(List.range len).map fun i => (f i).1, some a, cap, (List.range len).map fun i => (f i).2, by rw [hlen], ⟨?_, by simp, fun k r p hk hp => ?_, fun r hr => ?_, fun r hr => ?_, by rw [hlen]; unfold maxLen at hm; omega, fun r hr => ?_⟩⟩
    · have hl5 : (rssC ((List.range len).map fun i => (f i).1) ((List.range len).map fun i => (f i).2)).length = len * 5 := by rw [rssC_len _ _ (by simp), hlen]
      rw [hlen]
      refine rd_cells hl (by omega) _ hl5 fun j u hu => ?_
      have hj : j < len * 5 := by rw [← hl5]; exact (List.getElem?_eq_some_iff.1 hu).1
      rw [rssC_range _ _ _ _ hj] at hu
      have := (hf (j / 5) (by omega)).1 (j % 5) u hu
      rwa [show j / 5 * 5 + j % 5 = j by omega] at this
    · obtain ⟨hk', rfl⟩ := hat _ _ _ hk
      obtain ⟨_, rfl⟩ := hat _ _ _ hp
      exact (hf k hk').2.1
    · obtain ⟨i, hi', rfl⟩ := List.mem_map.1 hr
      exact (hf i (List.mem_range.1 hi')).2.2.1
    · obtain ⟨i, hi', rfl⟩ := List.mem_map.1 hr
      exact (hf i (List.mem_range.1 hi')).2.2.2.2
    · obtain ⟨i, hi', rfl⟩ := List.mem_map.1 hr
      exact (hf i (List.mem_range.1 hi')).2.2.2.1
theorem open_evidence {r : Reach} {b0 : Nat} {v : Value} {d : DataW H} {p : List MemPlace} (hv : Value.okWide Try.prog w r b0 29 v) (h : DataW.Trod enc Try.prog w base spare held 29 v d p) :
    ∃ (E : List Rs) (sA : Option Addr) (sc : Nat) (ps : List (Option Addr × Nat)), v = .agg #[.slice sA E.length sc] ∧ EvO w E sA sc ps := by
  obtain ⟨cs, rfl, hsz⟩ := okWide_struct Try.underlying29 hv
  have h1 : cs.size = 1 := hsz.trans (by kernel_rfl)
  obtain ⟨c0, rfl⟩ : ∃ c0, cs = #[c0] := by
    obtain ⟨l⟩ := cs
    match l, h1 with
    | [c0], _ => exact ⟨c0, rfl⟩
  obtain ⟨fuel, hf⟩ := h
  obtain ⟨ys, n, _, _, _, hyl, hg⟩ := DataW.trod_struct Try.underlying29 hf
  have h0 := hg 0 _ rfl
  have hy : ∃ x, DataW.trod enc Try.prog w base spare held n 27 [c0] = some x := by
    cases hq : ys[0]? with
    | some x => exact ⟨x, by rw [hq] at h0; exact h0⟩
    | none => exact absurd (List.getElem?_eq_none_iff.1 hq) (by rw [hyl]; decide)
  obtain ⟨x, hx⟩ := hy
  obtain ⟨E, sA, sc, ps, rfl, hE⟩ := opn_reasons hx
  exact ⟨E, sA, sc, ps, rfl, hE⟩
end
end Go.Proofs.Ytmjdbbfoihadoaa
namespace Go.Proofs.Ytmjdbbfoihadoaa
open Go.RowKit
open Ev
open Fm (Nd)
attribute [local go_sem] Oper.semAt_some

/-- What a model has if it is small. -/
def FewM (M : Md) (n : Nat) : Prop := (M.W ≤ n ∨ 64 < M.W) ∧ M.V.length ≤ 20 ∧ M.R.length ≤ 10 ∧ ∀ r ∈ M.R, r.length ≤ 70
def FewPost (w : World) (p : Prop) (e : Ending) (w' : World) : Prop := ∃ d, e = .returned (.bool d) ∧ (d = true → p) ∧ Keep NoF w w'
section
set_option maxRecDepth 100000
set_option maxHeartbeats 2000000
variable {w : World} {M : Md} {va ra : Option Addr} {cv cr : Nat} {rs : List (Option Addr × Nat)}
theorem moFew_any (hM : MdR w M va cv ra cr rs) (n : Nat) (hn : n ≤ 64) : Calls Try.prog 5 #[.agg #[.int .i64 M.W, .slice va M.V.length cv, .slice ra M.R.length cr], .int .i64 (n : Int)] w (FewPost w (FewM M n)) := by
  have k0 : Keep NoF w (w.alloc (.cells #[.int .i64 M.W, .slice va M.V.length cv, .slice ra M.R.length cr] 25)) := (Keep.refl _ _).alloc _
  have HB := Lib.hid (Bk.new w 25 #[.int .i64 M.W, .slice va M.V.length cv, .slice ra M.R.length cr])
  have HM := Lib.hid hM
  have HK := Lib.hid k0
  have hlv := hM.lv
  have hlr := hM.lr
  have HLW := Lib.hid hM.lw
  clear hM
  go_enter Try.func5, Try.ntmps5
  go_upto_region 1 with (fail)
  generalize w.alloc (.cells #[.int .i64 M.W, .slice va M.V.length cv, .slice ra M.R.length cr] 25) = w1 at *
  have m0 : w1.cell? ⟨w.heap.size, 0, none⟩ = some (.int .i64 M.W) := HB.out.cell 0
  have m1 : w1.cell? ⟨w.heap.size, 1, none⟩ = some (.slice va M.V.length cv) := HB.out.cell 1
  have m2 : w1.cell? ⟨w.heap.size, 2, none⟩ = some (.slice ra M.R.length cr) := HB.out.cell 2
  have hNO : Hid (FewPost w (FewM M n) (.returned (.bool false)) w1) := Lib.hid ⟨false, rfl, (fun h => by cases h), HK.out⟩
  have hW3 : (n : Int) < M.W ∧ M.W ≤ 64 ∨ (M.W ≤ n ∨ ((n : Int) < M.W ∧ 64 < M.W)) := by omega
  rcases hW3 with ⟨g1, g2⟩ | hWW
  · go_wp2
    go_ret
    exact hNO.out
  have HWW : Hid (M.W ≤ n ∨ 64 < M.W) := Lib.hid (by omega)
  by_cases g3 : 20 < (M.V.length : Int)
  · rcases hWW with g1 | ⟨g1, g2⟩
    · go_wp2
      go_ret
      exact hNO.out
    · go_wp2
      go_ret
      exact hNO.out
  by_cases g4 : 10 < (M.R.length : Int)
  · rcases hWW with g1 | ⟨g1, g2⟩
    · go_wp2
      go_ret
      exact hNO.out
    · go_wp2
      go_ret
      exact hNO.out
  go_cut [26] from 6 to 27 (fun v26 wc => v26 = .bool false ∧ wc = w1)
  case first =>
    rcases hWW with g1 | ⟨g1, g2⟩
    · go_wp2
      go_meet
      exact ⟨rfl, rfl⟩
    · have g2' : ¬ M.W ≤ 64 := by omega
      go_wp2
      go_meet
      exact ⟨by simp [g2'], rfl⟩
  case rest =>
    obtain ⟨rfl, hwc⟩ := hcut
    obtain rfl : wc = w1 := hwc
    clear hWW hNO m0 m1
    go_wp2
    go_loopw [5] (fun t wr => ∃ k : Nat, t = .int .i64 (k : Int) ∧ k ≤ M.R.length ∧ Hid (∀ j, j < k → (M.R.getD j []).length ≤ 70) ∧ Keep NoF wc wr) (fun t _ => M.R.length - (intOf t).toNat)
    case atStart => exact ⟨0, rfl, by omega, Lib.hid fun j hj => absurd hj (by omega), Keep.refl _ _⟩
    case round =>
      obtain ⟨k, rfl, hk, HJ, hkr⟩ := hrel
      have m2' := hkr.cellv m2 fun h => h
      have HKR := Lib.hid (HK.out.trans hkr fun _ _ h => h)
      by_cases hlt : k < M.R.length
      · obtain ⟨bl, off, A, c, rfl, hcr, hc, -, -⟩ := (HM.out.keep HKR.out).at_ hlt
        have l1 : (k : Int) < (M.R.length : Int) := by omega
        have l0 : (0 : Int) ≤ (k : Int) := by omega
        have hll := HLW.out _ (show M.R.getD k [] ∈ M.R by rw [List.getD_eq_getElem?_getD, List.getElem?_eq_getElem hlt]; exact List.getElem_mem hlt)
        obtain ⟨q, hq⟩ : ∃ q, (M.R.getD k []).length = q := ⟨_, rfl⟩
        rw [hq] at hc hll
        have HQ := Lib.hid hq
        clear hq
        by_cases g5 : 70 < (q : Int)
        · go_wp2
          go_ret
          exact ⟨false, rfl, (fun h => by cases h), HKR.out⟩
        · go_wp2
          refine ⟨⟨k + 1, by simp, by omega, Lib.hid fun j hj => ?_, hkr⟩, by show M.R.length - ((k : Int) + 1).toNat < M.R.length - ((k : Int)).toNat; omega⟩
          by_cases hjk : j = k
          · subst hjk; have := HQ.out; omega
          · exact HJ.out j (by omega)
      · obtain rfl : k = M.R.length := by omega
        go_wp2
        go_ret
        refine ⟨true, rfl, fun _ => ⟨HWW.out, by omega, by omega, fun r hr => ?_⟩, HKR.out⟩
        obtain ⟨j, hj, rfl⟩ := List.getElem_of_mem hr
        have := HJ.out j hj
        rwa [List.getD_eq_getElem?_getD, List.getElem?_eq_getElem hj] at this
/-- Evidence of which the sizes are known. -/
theorem EvO.evd {E : List Rs} {sA : Option Addr} {sc : Nat} {ps : List (Option Addr × Nat)} (h : EvO w E sA sc ps) (h1 : E.length ≤ 1000000) (h2 : ∀ r ∈ E, r.fr.length ≤ 1000000) : EvdR w E sA sc ps :=
  ⟨h.S, h.pl, h.fr, h.st, h1, h2⟩
theorem EvO.keep {w' : World} {E : List Rs} {sA : Option Addr} {sc : Nat} {ps : List (Option Addr × Nat)} (h : EvO w E sA sc ps) (hk : Keep NoF w w') : EvO w' E sA sc ps :=
  ⟨h.S.kept hk fun _ _ h => h, h.pl, fun k r p h1 h2 => (h.fr k r p h1 h2).kept hk fun _ _ h => h, h.st, h.lw, h.le, h.lf⟩
theorem EvO.at_ {E : List Rs} {sA : Option Addr} {sc : Nat} {ps : List (Option Addr × Nat)} (h : EvO w E sA sc ps) {k : Nat} (hk : k < E.length) :
    ∃ bl off, sA = some ⟨bl, off, none⟩ ∧ E.length ≤ sc ∧ ∃ pA pc, (rsAt E k).fr.length ≤ 9223372036854775807 ∧
      w.cell? ⟨bl, off + k * 5, none⟩ = some (.int .i64 (rsAt E k).w) ∧ w.cell? ⟨bl, off + k * 5 + 1, none⟩ = some (.int .i64 (rsAt E k).k) ∧ w.cell? ⟨bl, off + k * 5 + 2, none⟩ = some (.bool (rsAt E k).h) ∧ w.cell? ⟨bl, off + k * 5 + 3, none⟩ = some (.slice pA (rsAt E k).fr.length pc) ∧ w.cell? ⟨bl, off + k * 5 + 4, none⟩ = some (.int .u64 (rsAt E k).st) := by
  obtain ⟨_, hc', bl, off, rfl, hc⟩ := h.S.at_ (by omega)
  obtain ⟨⟨pA, pc⟩, hp⟩ : ∃ p, ps[k]? = some p := ⟨_, List.getElem?_eq_getElem (show k < ps.length by rw [h.pl]; exact hk)⟩
  have hr := rsAt_eq hk
  have g : ∀ j v, j < 5 → (rsC (rsAt E k) (pA, pc))[j]? = some v → w.cell? ⟨bl, off + k * 5 + j, none⟩ = some v := fun j v hj hv => by
    have := hc (k * 5 + j) v (by rw [rssC_at E ps k _ _ hr hp j hj]; exact hv)
    rwa [← Nat.add_assoc] at this
  exact ⟨bl, off, rfl, hc', pA, pc, h.lf _ (List.mem_of_getElem? hr), g 0 _ (by omega) rfl, g 1 _ (by omega) rfl, g 2 _ (by omega) rfl, g 3 _ (by omega) rfl, g 4 _ (by omega) rfl⟩
def FewE (E : List Rs) (n : Nat) : Prop := E.length ≤ n ∧ ∀ r ∈ E, r.fr.length ≤ 100
theorem evFew_any (n : Nat) (hn : n ≤ 1000) {E : List Rs} {sA : Option Addr} {sc : Nat} {ps : List (Option Addr × Nat)} (hE : EvO w E sA sc ps) : Calls Try.prog 6 #[.agg #[.slice sA E.length sc], .int .i64 (n : Int)] w (FewPost w (FewE E n)) := by
  have k0 : Keep NoF w (w.alloc (.cells #[.slice sA E.length sc] 29)) := (Keep.refl _ _).alloc _
  have HB := Lib.hid (Bk.new w 29 #[.slice sA E.length sc])
  have HE := Lib.hid hE
  have HK := Lib.hid k0
  have hle := hE.le
  clear hE
  go_enter Try.func6, Try.ntmps6
  go_upto_region 1 with (fail)
  generalize w.alloc (.cells #[.slice sA E.length sc] 29) = w1 at *
  have m0 : w1.cell? ⟨w.heap.size, 0, none⟩ = some (.slice sA E.length sc) := HB.out.cell 0
  by_cases g1 : (n : Int) < (E.length : Int)
  · go_wp2
    go_ret
    exact ⟨false, rfl, (fun h => by cases h), HK.out⟩
  go_wp2
  go_loopw [5] (fun t wr => ∃ k : Nat, t = .int .i64 (k : Int) ∧ k ≤ E.length ∧ Hid (∀ j, j < k → (rsAt E j).fr.length ≤ 100) ∧ Keep NoF w1 wr) (fun t _ => E.length - (intOf t).toNat)
  case atStart => exact ⟨0, rfl, by omega, Lib.hid fun j hj => absurd hj (by omega), Keep.refl _ _⟩
  case round =>
    obtain ⟨k, rfl, hk, HJ, hkr⟩ := hrel
    have m0' := hkr.cellv m0 fun h => h
    have HKR := Lib.hid (HK.out.trans hkr fun _ _ h => h)
    by_cases hlt : k < E.length
    · obtain ⟨bl, off, rfl, hcr, pA, pc, hfl, -, -, -, c3, -⟩ := (HE.out.keep HKR.out).at_ hlt
      have l1 : (k : Int) < (E.length : Int) := by omega
      have l0 : (0 : Int) ≤ (k : Int) := by omega
      obtain ⟨q, hq⟩ : ∃ q, (rsAt E k).fr.length = q := ⟨_, rfl⟩
      rw [hq] at c3 hfl
      have HQ := Lib.hid hq
      clear hq
      by_cases g5 : 100 < (q : Int)
      · go_wp2
        go_ret
        exact ⟨false, rfl, (fun h => by cases h), HKR.out⟩
      · go_wp2
        refine ⟨⟨k + 1, by simp, by omega, Lib.hid fun j hj => ?_, hkr⟩, by show E.length - ((k : Int) + 1).toNat < E.length - ((k : Int)).toNat; omega⟩
        by_cases hjk : j = k
        · subst hjk; have := HQ.out; omega
        · exact HJ.out j (by omega)
    · obtain rfl : k = E.length := by omega
      go_wp2
      go_ret
      refine ⟨true, rfl, fun _ => ⟨by omega, fun r hr => ?_⟩, HKR.out⟩
      obtain ⟨j, hj, rfl⟩ := List.getElem_of_mem hr
      have := HJ.out j hj
      unfold rsAt at this
      rwa [List.getD_eq_getElem?_getD, List.getElem?_eq_getElem hj] at this
end
end Go.Proofs.Ytmjdbbfoihadoaa
