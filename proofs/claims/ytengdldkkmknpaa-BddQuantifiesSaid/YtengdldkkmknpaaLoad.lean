/- What the store's methods variable, at and load do. No condition. -/
import Derived.Test.YtengdldkkmknpaaNode
import Derived.Test.YtengdldkkmknpaaBase
set_option linter.unusedVariables false
set_option linter.unusedSimpArgs false
namespace Go.Proofs.Ytengdldkkmknpaa
open Go.RowKit
open Dd (mk var lo hi atP ldStep)

theorem Rd.kept0 {F : Nat → Prop} {w w' : World} {v : Value} {size n : Nat} {xs : List Value} (h : Rd w v size n xs) (hk : Keep F w w') (hf : 0 < n → ∀ k, v.ownBlock = some k → ¬ F k) : Rd w' v size n xs := by
  by_cases h0 : 0 < n
  · exact h.kept hk (hf h0)
  · obtain ⟨h1, A, c, hv, hc, h2⟩ := h
    exact ⟨h1, A, c, hv, hc, fun h => absurd h h0⟩
theorem ndsC_len (N : List Nd) : (ndsC N).length = N.length * 3 := by
  induction N with
  | nil => rfl
  | cons n N ih => simp only [ndsC, List.flatMap_cons, List.length_append, List.length_cons] at ih ⊢; rw [ih]; simp [ndC]; omega
theorem ndsC_at (N : List Nd) (i : Nat) (n : Nd) (h : N[i]? = some n) : (ndsC N)[i * 3]? = some (.int .i64 n.1) ∧ (ndsC N)[i * 3 + 1]? = some (.int .i64 n.2.1) ∧ (ndsC N)[i * 3 + 2]? = some (.int .i64 n.2.2) := by
  induction N generalizing i with
  | nil => simp at h
  | cons m N ih =>
    cases i with
    | zero =>
      simp at h
      subst h
      simp [ndsC, ndC]
    | succ i =>
      have := ih i (by simpa using h)
      have e : ∀ j, (ndsC (m :: N))[(i + 1) * 3 + j]? = (ndsC N)[i * 3 + j]? := fun j => by
        simp only [ndsC, List.flatMap_cons]
        rw [List.getElem?_append_right (by simp [ndC]; omega)]
        congr 1
        simp [ndC]; omega
      have e0 := e 0
      simp only [Nat.add_zero] at e0
      rw [e0, e, e]
      exact this
/-- The cells of a node of the store. -/
theorem Sto.node {b : Nat} {N : List Nd} {G : Nd → Option Nat} {F : Nat → Prop} {w : World} (hs : Sto w b N G F) {i : Nat} (h2 : 2 ≤ i) (hi : i < N.length + 2) :
    ∃ g c, w.cell? ⟨b, 0, none⟩ = some (.slice (some ⟨g, 0, none⟩) N.length c) ∧ N.length ≤ c ∧ w.cell? ⟨g, (i - 2) * 3, none⟩ = some (.int .i64 (var N i)) ∧ w.cell? ⟨g, (i - 2) * 3 + 1, none⟩ = some (.int .i64 (lo N i)) ∧
      w.cell? ⟨g, (i - 2) * 3 + 2, none⟩ = some (.int .i64 (Dd.hi N i)) := by
  obtain ⟨sv, m1, m2, hb, hown, hm1, hm2, hne, hF⟩ := hs
  have hat := Dd.node_at h2 hi
  obtain ⟨c1, c2, c3⟩ := ndsC_at N (i - 2) _ hat
  rcases hown.2 with ⟨_, h0⟩ | ⟨g, cap, cur, rfl, hbg, hg, hnc, hcm, hcs, htake⟩
  · omega
  · have hc := hown.cells (g := g) rfl
    have e := fun j => Addr.add_lit g 0 j
    refine ⟨g, cap, by rw [hb.cell]; rfl, hnc, ?_, ?_, ?_⟩
    · have := hc _ _ c1; rw [Addr.add_lit] at this; simpa using this
    · have := hc _ _ c2; rw [Addr.add_lit] at this; simpa using this
    · have := hc _ _ c3; rw [Addr.add_lit] at this; simpa using this

set_option maxHeartbeats 400000 in
theorem variable_any {b : Nat} {N : List Nd} {G : Nd → Option Nat} {F : Nat → Prop} {w : World} (hs : Sto w b N G F) (i : Nat) (hi : i < N.length + 2) (hlen : N.length ≤ 1099511627776) :
    Calls Try.prog 86 #[.pointer (some ⟨b, 0, none⟩), .int .i64 i] w fun e w' => e = .returned (.int .i64 (var N i)) ∧ w = w' := by
  by_cases h2 : i < 2
  · rw [show var N i = 24 by simp [var, h2]]
    go_enter Try.func86, Try.ntmps86
    go_wp2
    go_ret
    exact ⟨rfl, rfl⟩
  · obtain ⟨g, c, h0, hc, h1, _, _⟩ := hs.node (by omega) hi
    generalize var N i = v at *
    obtain ⟨j, rfl⟩ : ∃ j, i = j + 2 := ⟨i - 2, by omega⟩
    simp only [Nat.add_sub_cancel] at h1
    clear hs
    generalize hn : N.length = n at *
    have hj : j < n := by omega
    clear hn hi h2
    go_enter Try.func86, Try.ntmps86
    go_wp2
    go_ret
    exact ⟨rfl, rfl⟩

theorem at_any {b : Nat} {N : List Nd} {G : Nd → Option Nat} {F : Nat → Prop} {w : World} (hs : Sto w b N G F) (i v : Nat) (t : Bool) (hi : i < N.length + 2) (hv : v < 24) (hlen : N.length ≤ 1099511627776) :
    Calls Try.prog 87 #[.pointer (some ⟨b, 0, none⟩), .int .i64 i, .int .i64 v, .bool t] w fun e w' => e = .returned (.int .i64 (atP N i v t)) ∧ w = w' := by
  have hvar := variable_any hs i hi hlen
  have HV := Lib.hid hvar
  clear hvar
  by_cases h : var N i = v
  · have h2 : ¬ i < 2 := fun h2 => by rw [show var N i = 24 by simp [var, h2]] at h; omega
    obtain ⟨g, c, h0, hc, _, h1, h3⟩ := hs.node (by omega) hi
    have e1 : ((var N i : Int) != (v : Int)) = false := by rw [h]; simp
    obtain ⟨j, rfl⟩ : ∃ j, i = j + 2 := ⟨i - 2, by omega⟩
    simp only [Nat.add_sub_cancel] at h1 h3
    have ea : atP N (j + 2) v t = if t then Dd.hi N (j + 2) else lo N (j + 2) := by simp [atP, h]
    rw [ea]
    clear ea h h2 hs
    generalize var N (j + 2) = vv at *
    generalize lo N (j + 2) = l at *
    generalize Dd.hi N (j + 2) = r at *
    generalize hn : N.length = n at *
    have hj : j < n := by omega
    clear hn hi
    cases t
    all_goals
      go_enter Try.func87, Try.ntmps87
      go_wp2_with (go_at_call 86; refine HV.out.mono ?_; rintro e w' ⟨rfl, rfl⟩)
      go_ret
      exact ⟨rfl, rfl⟩
  · have e1 : ((var N i : Int) != (v : Int)) = true := by simp; omega
    have ea : atP N i v t = i := by simp [atP, h]
    rw [ea]
    clear ea h hs
    generalize var N i = vv at *
    go_enter Try.func87, Try.ntmps87
    go_wp2_with (go_at_call 86; refine HV.out.mono ?_; rintro e w' ⟨rfl, rfl⟩)
    go_ret
    exact ⟨rfl, rfl⟩

theorem infoInt : (Try.prog.info? 3).map (fun i => (i.zero, i.size, i.bytes)) = some (some (.int .i64 0), 1, 8) := by kernel_rfl

/-- A new, empty store. -/
theorem newStore_any (w : World) : Calls Try.prog 55 #[] w fun e w' => ∃ b F, e = .returned (.pointer (some ⟨b, 0, none⟩)) ∧ Sto w' b [] (fun _ => none) F ∧ Keep NoF w w' ∧ ∀ k, F k → w.heap.size ≤ k := by
  have hmm := @run_makeMap Try.prog
  go_enter Try.func55, Try.ntmps55
  go_wp2
  go_ret
  refine ⟨_, _, rfl, ⟨.slice none 0 0, w.heap.size, w.heap.size + 1, ?_, ?_, ?_, ?_, by omega, fun k => Iff.rfl⟩, ((((Keep.refl _ _).alloc _).alloc _).alloc _), ?_⟩
  · have h := Bk.new ((w.alloc (.map #[] 0)).alloc (.map #[] 0)) 87 #[.slice none 0 0, .map (some w.heap.size), .map (some (w.heap.size + 1))]
    have e : ((w.alloc (.map #[] 0)).alloc (.map #[] 0)).heap.size = w.heap.size + 1 + 1 := by simp
    rw [e] at h
    exact h
  · exact World.ownsRow_nil _ _ _ _
  · have h := MapT.new w Try.prog 63 ndV inV ndOk
    have h1 := h.block (w' := (w.alloc (.map #[] 0)).alloc (.map #[] 0)) (Below.heap_alloc _ _ _ h.lt)
    have h2 := h1.block (w' := ((w.alloc (.map #[] 0)).alloc (.map #[] 0)).alloc (.cells #[.slice none 0 0, .map (some w.heap.size), .map (some (w.heap.size + 1))] 87)) (Below.heap_alloc _ _ _ h1.lt)
    exact h2.congr fun x => by simp [num]
  · have h := MapT.new (w.alloc (.map #[] 0)) Try.prog 92 ndV inV ndOk
    have h2 := h.block (w' := ((w.alloc (.map #[] 0)).alloc (.map #[] 0)).alloc (.cells #[.slice none 0 0, .map (some w.heap.size), .map (some (w.heap.size + 1))] 87)) (Below.heap_alloc _ _ _ h.lt)
    have e : (w.alloc (.map #[] 0)).heap.size = w.heap.size + 1 := by simp
    rw [e] at h2
    exact h2
  · intro k hk
    rcases hk with h | h | h | h
    · omega
    · omega
    · omega
    · simp [Value.ownBlock] at h

theorem eNodes : ElemT Try.prog 22 63 (.agg #[.int .i64 0, .int .i64 0, .int .i64 0]) 3 24 := ⟨Try.underlying22, info_parts infoNode, rfl, by omega⟩
theorem eInts : ElemT Try.prog 69 3 (.int .i64 0) 1 8 := ⟨Try.underlying69, info_parts infoInt, rfl, by omega⟩

/-- The head of load's loop: to holds the new numbers of the first k. -/
def LdLoop (b : Nat) (N M : List Nd) (G : Nd → Option Nat) (F : Nat → Prop) (W0 : World) (k : Nat) (tv : Value) (wr : World) : Prop :=
  k ≤ M.length ∧ ∃ F' g cap, tv = .slice (some ⟨g, 0, none⟩) (k + 2) cap ∧ Sto wr b ((M.take k).foldl ldStep ([0, 1], N)).2 G F' ∧ wr.ownsRow W0.heap.size 3 1 tv (k + 2) (((M.take k).foldl ldStep ([0, 1], N)).1.map inV) ∧
    Keep F W0 wr ∧ (∀ x, F' x → F x ∨ W0.heap.size ≤ x) ∧ ¬ F' g

set_option maxRecDepth 100000 in
set_option maxHeartbeats 1000000 in
theorem load_any {b : Nat} {N : List Nd} {G : Nd → Option Nat} {F : Nat → Prop} {w : World} (hs : Sto w b N G F) (hg : Dd.Good N) (M : List Nd) (hm : Dd.Good M) (V : Int) (sl : Value) (r : Nat) (hr : r < M.length + 2)
    (hM : M.length ≤ 4096) (hlen : N.length ≤ 1099511000000) (hrd : Rd w sl 3 M.length (ndsC M)) (hf : 0 < M.length → ∀ k, sl.ownBlock = some k → ¬ F k) :
    Calls Try.prog 57 #[.pointer (some ⟨b, 0, none⟩), .agg #[.int .i64 V, sl, .int .i64 r]] w fun e w' => ∃ F', e = .returned (.int .i64 ((Dd.ld N M).1.getD r 0)) ∧ Sto w' b (Dd.ld N M).2 G F' ∧ Keep F w w' ∧
      ∀ k, F' k → F k ∨ w.heap.size ≤ k := by
  have hrd1 := hrd
  obtain ⟨hx, A, c, rfl, hc, _⟩ := hrd
  go_enter Try.func57, Try.ntmps57
  go_wp2
  have hFlt : ∀ x, F x → x < w.heap.size := hs.lt
  have hs0 : Sto (w.alloc (.cells #[.int .i64 V, .slice A M.length c, .int .i64 r] 24)) b N G F := hs.block fun k hk => Below.heap_alloc _ _ _ (hFlt k hk)
  have hd0 := Bk.new w 24 #[.int .i64 V, .slice A M.length c, .int .i64 r]
  have hk0 : Keep F w (w.alloc (.cells #[.int .i64 V, .slice A M.length c, .int .i64 r] 24)) := (Keep.refl _ _).alloc _
  have hrd0 : Rd (w.alloc (.cells #[.int .i64 V, .slice A M.length c, .int .i64 r] 24)) (.slice A M.length c) 3 M.length (ndsC M) := hrd1.kept0 hk0 hf
  have hsz : (w.alloc (.cells #[.int .i64 V, .slice A M.length c, .int .i64 r] 24)).heap.size = w.heap.size + 1 := by simp
  have HSZ := Lib.hid hsz
  have hlt0 : w.heap.size < (w.alloc (.cells #[.int .i64 V, .slice A M.length c, .int .i64 r] 24)).heap.size := by omega
  have e1 : ∀ o : Obj, ((w.alloc (.cells #[.int .i64 V, .slice A M.length c, .int .i64 r] 24)).alloc o) = ((w.alloc (.cells #[.int .i64 V, .slice A M.length c, .int .i64 r] 24)).alloc o) := fun _ => rfl
  rw [← hsz]
  clear hsz e1
  generalize (w.alloc (.cells #[.int .i64 V, .slice A M.length c, .int .i64 r] 24)) = W0 at *
  go_loopw [5, 12] (fun tv i wr => ∃ k : Nat, i = .int .i64 k ∧ LdLoop b N M G F W0 k tv wr) (fun _ i _ => M.length - (intOf i).toNat)
  case atStart =>
    refine ⟨0, rfl, by omega, F, W0.heap.size, 2, rfl, ?_, ?_, (Keep.refl _ _).alloc _, fun x hx => .inl hx, fun hx => ?_⟩
    · exact hs0.block fun x hx => Below.heap_alloc _ _ _ (hs0.lt x hx)
    · refine ⟨rfl, .inr ⟨W0.heap.size, 2, #[.int .i64 0, .int .i64 1], rfl, Nat.le_refl _, heap_alloc_new _ _, by omega, by unfold maxLen; omega, rfl, ?_⟩⟩
      simp [inV]
    · have := hs0.lt _ hx
      omega
  case round =>
    obtain ⟨k, rfl, hkM, F', g, cap, rfl, hsk, hown, hkk, hFF, hgF⟩ := hrel
    by_cases hlt : k < M.length
    · obtain ⟨_, _, bl, off, rfl, hcell⟩ := (hrd0.kept0 hkk hf).at_ (by omega)
      have hMk : M[k]? = some M[k] := List.getElem?_eq_getElem (by omega)
      obtain ⟨c1, c2, c3⟩ := ndsC_at M k _ hMk
      have d1 := hcell _ _ c1
      have d2 := hcell _ _ c2
      have d3 := hcell _ _ c3
      generalize M[k] = nk at *
      obtain ⟨v, l, h⟩ := nk
      simp only [← Nat.add_assoc] at d1 d2 d3 hMk
      clear hcell c1 c2 c3
      have hat := Dd.node_at (N := M) (i := k + 2) (by omega) (by omega)
      rw [Nat.add_sub_cancel, hMk] at hat
      simp only [Option.some.injEq, Prod.mk.injEq] at hat
      obtain ⟨ev, el, eh⟩ := hat
      have hl : l < k + 2 := by rw [el]; exact hm.lo_lt _ (by omega) (by omega)
      have hh : h < k + 2 := by rw [eh]; exact hm.hi_lt _ (by omega) (by omega)
      have hv : v < 24 := by rw [ev]; exact hm.bound _ (by omega) (by omega)
      have I := Dd.ld_inv hg hm k (by omega)
      have hst : (M.take (k + 1)).foldl ldStep ([0, 1], N) = ldStep ((M.take k).foldl ldStep ([0, 1], N)) (v, l, h) := by
        rw [List.take_add_one, hMk]; simp
      have HST := Lib.hid hst
      have HEV := Lib.hid (And.intro ev (And.intro el eh))
      clear hst hMk ev el eh
      generalize (M.take k).foldl ldStep ([0, 1], N) = st at *
      obtain ⟨tos, Ns⟩ := st
      have hts := I.size
      simp only at hts hsk hown
      obtain ⟨tl1, _⟩ := I.to l hl
      obtain ⟨th1, _⟩ := I.to h hh
      have hNs := I.len
      simp only at tl1 th1 hNs
      have r1 : (tos.map inV)[l]? = some (.int .i64 (tos.getD l 0)) := by simp [List.getD_eq_getElem?_getD, List.getElem?_eq_getElem (show l < tos.length by omega), inV]
      have r2 : (tos.map inV)[h]? = some (.int .i64 (tos.getD h 0)) := by simp [List.getD_eq_getElem?_getD, List.getElem?_eq_getElem (show h < tos.length by omega), inV]
      have q1 := hown.cells (g := g) rfl _ _ r1
      have q2 := hown.cells (g := g) rfl _ _ r2
      rw [Addr.add_lit] at q1 q2
      simp only [Nat.zero_add] at q1 q2
      have HTS := Lib.hid hts
      clear hts r1 r2 hrd0 hs0
      have hnd : ndOk (v, tos.getD l 0, tos.getD h 0) := ⟨(by unfold tiny; omega : tiny v), (by unfold tiny; omega : tiny (tos.getD l 0)), (by unfold tiny; omega : tiny (tos.getD h 0))⟩
      generalize hgtl : tos.getD l 0 = tl at *
      generalize hgth : tos.getD h 0 = th at *
      have HTL := Lib.hid (And.intro hgtl hgth)
      clear hgtl hgth
      go_wp2
      have hnW := Bk.new wr 63 #[.int .i64 v, .int .i64 l, .int .i64 h]
      have hkW : Keep NoF wr (wr.alloc (.cells #[.int .i64 v, .int .i64 l, .int .i64 h] 63)) := (Keep.refl _ _).alloc _
      have hsW : Sto (wr.alloc (.cells #[.int .i64 v, .int .i64 l, .int .i64 h] 63)).drew b Ns G F' := hsk.kept hkW.drew fun _ _ h => h
      have hownW : (wr.alloc (.cells #[.int .i64 v, .int .i64 l, .int .i64 h] 63)).ownsRow W0.heap.size 3 1 (.slice (some ⟨g, 0, none⟩) (k + 2) cap) (k + 2) (tos.map inV) := hown.alloc _
      have hFn : ¬ F' wr.heap.size := fun hx => by have := hsk.lt _ hx; omega
      have hgn : g ≠ wr.heap.size := by have := (hown.lt g rfl).2; omega
      have p1 := hkW.cellv q1 (fun h => h)
      have p2 := hkW.cellv q2 (fun h => h)
      have n0 := hnW.cell 0
      have n1 := hnW.cell 1
      have n2 := hnW.cell 2
      simp only [List.getElem?_toArray, List.getElem?_cons_zero, List.getElem?_cons_succ] at n0 n1 n2
      have hb0 : W0.heap.size ≤ g := (hown.lt g rfl).1
      clear q1 q2 d1 d2 d3 hsk hown
      have b1 : (0 : Int) ≤ (l : Int) := by omega
      have b2 : (l : Int) < (k : Int) + 2 := by omega
      have b3 : (0 : Int) ≤ (h : Int) := by omega
      have b4 : (h : Int) < (k : Int) + 2 := by omega
      generalize wr.alloc (.cells #[.int .i64 v, .int .i64 l, .int .i64 h] 63) = W1 at *
      go_region_held3 (fun w' => w'.cell? ⟨wr.heap.size, 0, none⟩ = some (.int .i64 v) ∧ w'.cell? ⟨wr.heap.size, 1, none⟩ = some (.int .i64 l) ∧ w'.cell? ⟨wr.heap.size, 2, none⟩ = some (.int .i64 h) ∧
          w'.cell? ⟨g, l, none⟩ = some (.int .i64 tl) ∧ w'.cell? ⟨g, h, none⟩ = some (.int .i64 th))
        (first
          | exact ⟨hA.keep s0 (by simp [Value.ownBlock, hgn]), hA.keep s1 (by simp [Value.ownBlock, hgn]), hA.keep s2 (by simp [Value.ownBlock, hgn]), hA.keep s3 (fun _ => by omega), hA.keep s4 (fun _ => by omega)⟩
          | exact ⟨((Keep.refl NoF _).alloc _).cellv t0 (fun h => h), ((Keep.refl NoF _).alloc _).cellv t1 (fun h => h), ((Keep.refl NoF _).alloc _).cellv t2 (fun h => h), ((Keep.refl NoF _).alloc _).cellv t3 (fun h => h), ((Keep.refl NoF _).alloc _).cellv t4 (fun h => h)⟩
          | exact ⟨t0, t1, t2, t3, t4⟩
          | exact ⟨n0, n1, n2, p1, p2⟩)
        (first
          | (go_at_call 83
             refine (node_any hsW v tl th hnd (by omega)).mono ?_
             rintro e w2 ⟨F2, rfl, hs2, hk2, hF2⟩
             have t0 : w2.cell? ⟨wr.heap.size, 0, none⟩ = some (.int .i64 v) := hk2.cellv (w := W1.drew) n0 hFn
             have t1 : w2.cell? ⟨wr.heap.size, 1, none⟩ = some (.int .i64 l) := hk2.cellv (w := W1.drew) n1 hFn
             have t2 : w2.cell? ⟨wr.heap.size, 2, none⟩ = some (.int .i64 h) := hk2.cellv (w := W1.drew) n2 hFn
             have t3 : w2.cell? ⟨g, l, none⟩ = some (.int .i64 tl) := hk2.cellv (w := W1.drew) p1 hgF
             have t4 : w2.cell? ⟨g, h, none⟩ = some (.int .i64 th) := hk2.cellv (w := W1.drew) p2 hgF
             have hown2 : w2.ownsRow W0.heap.size 3 1 (.slice (some ⟨g, 0, none⟩) (k + 2) cap) (k + 2) (tos.map inV) := own_keep (w := W1.drew) hownW fun x hx => by
               have : g = x := by simpa [Value.ownBlock] using hx
               subst this
               exact hk2.block _ (hownW.lt g rfl).2 hgF
             have hz2 : W0.heap.size ≤ w2.heap.size := Nat.le_of_lt (Nat.lt_of_le_of_lt (hown2.lt g rfl).1 (hown2.lt g rfl).2))
          | (refine step_app (by rfl) eInts (.tmp 16) (.tmp 31) (by rfl) (by rfl) (hown2.alloc _) ⟨w2.heap.size, 0, none⟩ 1 1 [.int .i64 ((mk Ns v tl th).1 : Nat)] (by rfl) (by rfl)
               (World.news_of_block (cs := #[.int .i64 ((mk Ns v tl th).1 : Nat)]) (t := 3) (fr := (0, 0)) (heap_alloc_new w2 _)) (by simp [Value.oneCell']) (by omega) (by omega) (by omega) (by simp; omega) ?_
             intro g2 cap2 w3 hown3 hA
             have s0 := ((Keep.refl NoF _).alloc (.cells #[.int .i64 ((mk Ns v tl th).1 : Nat)] 3)).cellv t0 (fun h => h)
             have s1 := ((Keep.refl NoF _).alloc (.cells #[.int .i64 ((mk Ns v tl th).1 : Nat)] 3)).cellv t1 (fun h => h)
             have s2 := ((Keep.refl NoF _).alloc (.cells #[.int .i64 ((mk Ns v tl th).1 : Nat)] 3)).cellv t2 (fun h => h)
             have s3 := ((Keep.refl NoF _).alloc (.cells #[.int .i64 ((mk Ns v tl th).1 : Nat)] 3)).cellv t3 (fun h => h)
             have s4 := ((Keep.refl NoF _).alloc (.cells #[.int .i64 ((mk Ns v tl th).1 : Nat)] 3)).cellv t4 (fun h => h)))
      go_wp2
      go_roundw
      case rel =>
        have hW1s : W0.heap.size ≤ W1.heap.size := Nat.le_trans hkk.size hkW.size
        have hF2g : ¬ F2 g := fun hx => by
          rcases hF2 g hx with h | h
          · exact hgF h
          · have h' : W1.heap.size ≤ g := h
            have := (hownW.lt g rfl).2
            omega
        have hst : (M.take (k + 1)).foldl ldStep ([0, 1], N) = (tos ++ [(mk Ns v tl th).1], (mk Ns v tl th).2) := by
          rw [HST.out, ← HTL.out.1, ← HTL.out.2]; rfl
        have hk3 : Keep F W0 w3 := by
          refine Keep.grown (((hkk.trans hkW (fun _ _ h => h.elim)).trans hk2.undrew fun x hx h => ?_).alloc _) hA.grown fun x hx => ?_
          · rcases hFF x h with h | h
            · exact h
            · omega
          · have : g = x := by simpa [Value.ownBlock] using hx
            subst this
            exact .inr hb0
        refine ⟨k + 1, by go_num, by omega, F2, g2, cap2, by rw [show k + 2 + 1 = k + 1 + 2 by omega], ?_, ?_, hk3, fun x hx => ?_, fun hx => ?_⟩
        · rw [hst]
          exact (hs2.block fun x hx => Below.heap_alloc _ _ _ (hs2.lt x hx)).block fun x hx => hA.grown.block x (by have := hs2.lt x hx; simp; omega) (by
            simp only [Value.ownBlock]
            intro e
            injection e with e
            exact hF2g (e ▸ hx))
        · rw [hst, show k + 1 + 2 = k + 2 + 1 by omega]
          simpa [inV] using hown3
        · rcases hF2 x hx with h | h
          · exact hFF x h
          · exact .inr (Nat.le_trans hW1s h)
        · rcases hA.at_ with h | h
          · have : g = g2 := by simpa [Value.ownBlock] using h
            exact hF2g (this ▸ hx)
          · have := hs2.lt g2 hx
            simp at h
            omega
      case measure => simp [intOf]; omega
    · have hkM' : k = M.length := by omega
      have hld : (M.take k).foldl ldStep ([0, 1], N) = Dd.ld N M := by rw [hkM', List.take_length]; rfl
      rw [hld] at hsk hown
      have I := Dd.ld_inv hg hm M.length (Nat.le_refl _)
      rw [List.take_length] at I
      have hts : (Dd.ld N M).1.length = M.length + 2 := I.size
      have r1 : ((Dd.ld N M).1.map inV)[r]? = some (.int .i64 ((Dd.ld N M).1.getD r 0)) := by simp [List.getD_eq_getElem?_getD, List.getElem?_eq_getElem (show r < (Dd.ld N M).1.length by omega), inV]
      have q1 := hown.cells (g := g) rfl _ _ r1
      rw [Addr.add_lit] at q1
      simp only [Nat.zero_add] at q1
      have b1 : (0 : Int) ≤ (r : Int) := by omega
      have b2 : (r : Int) < (k : Int) + 2 := by omega
      have hd2 : wr.cell? ⟨w.heap.size, 2, none⟩ = some (.int .i64 r) := hkk.cellv (p := ⟨w.heap.size, 2, none⟩) (hd0.cell 2) (fun (h : F w.heap.size) => absurd (hFlt _ h) (by omega))
      generalize hres : (Dd.ld N M).1.getD r 0 = res at *
      have HR := Lib.hid hres
      clear hres r1 hts I hld hrd0 hs0 hd0 hown
      have HKM := Lib.hid hkM'
      clear hkM'
      go_wp2
      go_ret
      refine ⟨F', by rw [HR.out]; rfl, hsk, (hk0.trans hkk fun x _ h => h), fun x hx => ?_⟩
      rcases hFF x hx with h | h
      · exact .inl h
      · exact .inr (by omega)
end Go.Proofs.Ytengdldkkmknpaa
