/- What the store's method export does. What the store's method export does, whole. What slices.Equal does at lists of nodes. What the function single does: the error of one node. No condition. -/
import Derived.Test.YtgdmcidcappkpaaDoorSto
import Derived.Test.YtgdmcidcappkpaaDoorLaw
import Derived.Laws.EntriesVeiled
set_option linter.unusedVariables false
set_option linter.unusedSimpArgs false
namespace Go.Proofs.YtgdmcidcappkpaaDoor
open Go.RowKit
open Dd (var lo visit St Walk pot)

theorem keyInt : Maps.Keyed Tryd.prog 3 := Maps.int_keyed Tryd.underlying3
theorem key_int (n : Nat) (h : tiny n) : ∃ l, keyOf Tryd.prog 3 (inV n) = some l := by
  refine ⟨.int .i64 n, ?_⟩
  unfold keyOf
  rw [Tryd.underlying3]
  simp [mapKey, Tryd.underlying3, inV, wf_tiny h]
theorem inV_inj (x y : Nat) (h : inV x = inV y) : x = y := by
  simp only [inV, Value.int.injEq, Int.natCast_inj, true_and] at h
  exact h
theorem encInt : KeyEnc Tryd.prog 3 inV tiny := ⟨keyInt, inV_inj, key_int⟩
abbrev MapInt (w : World) (b : Nat) (g : Nat → Option Nat) : Prop := MapT Tryd.prog 3 inV inV tiny w b g

/-- The variables of a walk that exports: the map's cell, the store's, the function's, the diagram's. -/
structure Vars (w : World) (b tb sb vb db mt : Nat) : Prop where
  tv : Bk w tb 99 #[.map (some mt)]
  sv : Bk w sb 68 #[.pointer (some ⟨b, 0, none⟩)]
  vv : Bk w vb 90 #[.func (.func 83) #[] #[.pointer (some ⟨tb, 0, none⟩), .pointer (some ⟨sb, 0, none⟩), .pointer (some ⟨vb, 0, none⟩), .pointer (some ⟨db, 0, none⟩)]]

/-- The state of a walk that exports: K are its own blocks. -/
def Vst (w : World) (db mt : Nat) (V : Int) (s : St) (K : Nat → Prop) : Prop :=
  ∃ dv, Bk w db 26 #[.int .i64 V, dv, .int .i64 0] ∧ w.ownsRow 0 74 3 dv s.1.length (ndsC s.1) ∧ MapInt w mt s.2 ∧ ∀ k, K k ↔ (k = db ∨ k = mt ∨ dv.ownBlock = some k)

theorem Vars.keep {w w' : World} {b tb sb vb db mt : Nat} {K : Nat → Prop} (h : Vars w b tb sb vb db mt) (hk : Keep K w w') (h1 : ¬ K tb) (h2 : ¬ K sb) (h3 : ¬ K vb) : Vars w' b tb sb vb db mt :=
  ⟨h.tv.keep hk h1, h.sv.keep hk h2, h.vv.keep hk h3⟩

/-- A call of the function is made where i's number is known. -/
def VisPost (b tb sb vb db mt : Nat) (V : Int) (K : Nat → Prop) (w : World) (r : Nat) (s : St) (e : Ending) (w' : World) : Prop :=
  ∃ K', e = .returned (.int .i64 (r : Nat)) ∧ Vst w' db mt V s K' ∧ Keep K w w' ∧ ∀ k, K' k → K k ∨ w.heap.size ≤ k

def visArgs (i tb sb vb db : Nat) : Array Value := #[.int .i64 i, .pointer (some ⟨tb, 0, none⟩), .pointer (some ⟨sb, 0, none⟩), .pointer (some ⟨vb, 0, none⟩), .pointer (some ⟨db, 0, none⟩)]

theorem Vst.lt {w : World} {db mt : Nat} {V : Int} {s : St} {K : Nat → Prop} (h : Vst w db mt V s K) : ∀ k, K k → k < w.heap.size := by
  obtain ⟨dv, hd, ho, hm, hK⟩ := h
  intro k hk
  rcases (hK k).1 hk with rfl | rfl | h
  · exact hd.lt
  · exact hm.lt
  · exact (ho.lt k h).2
theorem Vst.block {w w' : World} {db mt : Nat} {V : Int} {s : St} {K : Nat → Prop} (h : Vst w db mt V s K) (hb : ∀ k, K k → w'.heap[k]? = w.heap[k]?) : Vst w' db mt V s K := by
  obtain ⟨dv, hd, ho, hm, hK⟩ := h
  exact ⟨dv, hd.block (hb _ ((hK _).2 (.inl rfl))), own_keep ho fun k h => hb k ((hK _).2 (.inr (.inr h))), hm.block (hb _ ((hK _).2 (.inr (.inl rfl)))), hK⟩

section
variable {b tb sb vb db mt : Nat} {V : Int} {K F : Nat → Prop} {w : World} {N : List Nd} {G : Nd → Option Nat}

set_option maxRecDepth 100000 in
theorem vis_known (hv : Vars w b tb sb vb db mt) {s : St} (hs : Vst w db mt V s K) (i k : Nat) (hi : tiny i) (hk : s.2 i = some k) :
    Calls Tryd.prog 83 (visArgs i tb sb vb db) w (VisPost b tb sb vb db mt V K w k s) := by
  have hpost : ∀ e w', e = .returned (.int .i64 (k : Nat)) ∧ w = w' → VisPost b tb sb vb db mt V K w k s e w' := by
    rintro e w' ⟨rfl, rfl⟩
    exact ⟨K, rfl, hs, Keep.refl _ _, fun k hk => .inl hk⟩
  refine Calls.mono ?_ hpost
  clear hpost
  obtain ⟨dv, hd, ho, hm, hK⟩ := hs
  have hl : (Instr.lookup 99 (.map (some mt)) (.int .i64 i) true).run Tryd.prog w = .ok (.tuple #[.int .i64 k, .bool true]) w := by
    have := hm.look encInt Tryd.underlying99 (zeroInt _) (x := i) hi true
    simpa [hk, inV] using this
  have c1 : w.cell? ⟨tb, 0, none⟩ = some (.map (some mt)) := by rw [hv.tv.cell]; rfl
  clear hm hv hk
  unfold visArgs
  go_enter Tryd.func83, Tryd.ntmps83
  go_wp2
  go_ret
  exact ⟨rfl, rfl⟩

def VisIH (f : Nat) : Prop := ∀ (b tb sb vb db mt : Nat) (V : Int) (K F : Nat → Prop) (w : World) (N : List Nd) (G : Nd → Option Nat) (s : St) (i : Nat), i < f → i < N.length + 2 → Dd.Good N → Walk N s → pot s (N.length + 2) ≤ 1099511000000 → N.length ≤ 1099511000000 →
  Sto w b N G F → Vars w b tb sb vb db mt → Vst w db mt V s K → (∀ k, F k → ¬ K k) → ¬ K tb → ¬ K sb → ¬ K vb →
  Calls Tryd.prog 83 (visArgs i tb sb vb db) w (VisPost b tb sb vb db mt V K w (visit N f i s).1 (visit N f i s).2)

set_option maxRecDepth 100000 in
set_option maxHeartbeats 1000000 in
theorem vis_rec {f : Nat} (ih : VisIH f) (hsto : Sto w b N G F) (hg : Dd.Good N) (hN : N.length ≤ 1099511000000) (hv : Vars w b tb sb vb db mt) {s : St} (hs : Vst w db mt V s K) (W : Walk N s) (i : Nat) (hif : i < f + 1) (hi : i < N.length + 2)
    (hpot : pot s (N.length + 2) ≤ 1099511000000) (hFK : ∀ k, F k → ¬ K k) (ht1 : ¬ K tb) (ht2 : ¬ K sb) (ht3 : ¬ K vb) (hnone : s.2 i = none) (h2 : 2 ≤ i) :
    Calls Tryd.prog 83 (visArgs i tb sb vb db) w (VisPost b tb sb vb db mt V K w (visit N (f + 1) i s).1 (visit N (f + 1) i s).2) := by
  have IH := Lib.hid ih
  have HG := Lib.hid hg
  have HW := Lib.hid W
  have a1 := hg.lo_lt i h2 hi
  have a2 := hg.hi_lt i h2 hi
  have hvar := hg.bound i h2 hi
  clear ih hg W
  obtain ⟨j, rfl⟩ : ∃ j, i = j + 2 := ⟨i - 2, by omega⟩
  have hl : (Instr.lookup 99 (.map (some mt)) (.int .i64 ((j : Int) + 2)) true).run Tryd.prog w = .ok (.tuple #[.int .i64 0, .bool false]) w := by
    obtain ⟨dv, hd, ho, hm, hK⟩ := hs
    have := hm.look encInt Tryd.underlying99 (zeroInt _) (x := j + 2) (by unfold tiny; omega) true
    simpa [hnone, inV] using this
  have c1 : w.cell? ⟨tb, 0, none⟩ = some (.map (some mt)) := by rw [hv.tv.cell]; rfl
  have c2 : w.cell? ⟨sb, 0, none⟩ = some (.pointer (some ⟨b, 0, none⟩)) := by rw [hv.sv.cell]; rfl
  have c3 : w.cell? ⟨vb, 0, none⟩ = some (.func (.func 83) #[] #[.pointer (some ⟨tb, 0, none⟩), .pointer (some ⟨sb, 0, none⟩), .pointer (some ⟨vb, 0, none⟩), .pointer (some ⟨db, 0, none⟩)]) := hv.vv.cell 0
  have nn : vb < w.heap.size := hv.vv.lt
  obtain ⟨g, c, k0, hc, k1, k2, k3⟩ := hsto.node h2 hi
  have HNONE := Lib.hid hnone
  clear hnone
  simp only [Nat.add_sub_cancel] at k1 k2 k3
  have hjn : j < N.length := by omega
  generalize hvv : var N (j + 2) = v at *
  generalize hll : lo N (j + 2) = l at *
  generalize hhh : Dd.hi N (j + 2) = h at *
  have HE := Lib.hid (And.intro hvv (And.intro hll hhh))
  clear hvv hll hhh
  unfold visArgs
  go_enter Tryd.func83, Tryd.ntmps83
  go_wp2_with fail
  have hnW := Bk.new w 74 #[.int .i64 v, .int .i64 l, .int .i64 h]
  have hkW : Keep NoF w (w.alloc (.cells #[.int .i64 v, .int .i64 l, .int .i64 h] 74)) := (Keep.refl _ _).alloc _
  have hstoW := hsto.kept hkW fun _ _ h => h
  have hvW := hv.keep hkW (fun h => h) (fun h => h) (fun h => h)
  have hsW := hs.block (w' := w.alloc (.cells #[.int .i64 v, .int .i64 l, .int .i64 h] 74)) fun k hk => Below.heap_alloc _ _ _ (hs.lt k hk)
  have hnF : ¬ F w.heap.size := fun h => by have := hsto.lt _ h; omega
  have hnK : ¬ K w.heap.size := fun h => by have := hs.lt _ h; omega
  have hlW : w.heap.size < (w.alloc (.cells #[.int .i64 v, .int .i64 l, .int .i64 h] 74)).heap.size := hnW.lt
  clear c1 c2 c3 k0 k1 k2 k3 hsto hv hs hl
  generalize w.alloc (.cells #[.int .i64 v, .int .i64 l, .int .i64 h] 74) = W1 at *
  refine (IH.out b tb sb vb db mt V K F W1 N G s l (by omega) (by omega) HG.out HW.out hpot hN hstoW hvW hsW hFK ht1 ht2 ht3).mono ?_
  rintro e w2 ⟨K2, rfl, hs2, hk2, hK2⟩
  obtain ⟨W1k, _, _, hq1⟩ := Dd.visit_walk HG.out f l s (by omega) (by omega) HW.out
  have hpot2 := Dd.visit_pot HG.out f l s (N.length + 2) (by omega) (by omega) (by omega) HW.out
  have Hq1 := Lib.hid hq1
  clear hq1
  generalize hv1 : visit N f l s = vs1 at *
  obtain ⟨r1, s1⟩ := vs1
  have HV1 := Lib.hid hv1
  clear hv1
  simp only at hs2 W1k hpot2
  have hsto2 := hstoW.kept hk2 hFK
  have hv2 := hvW.keep hk2 ht1 ht2 ht3
  have hn2 := hnW.keep hk2 hnK
  have hF2 : ∀ k, F k → ¬ K2 k := fun k hk h => by
    rcases hK2 k h with h | h
    · exact hFK k hk h
    · have := hstoW.lt k hk; omega
  have hn2K : ¬ K2 w.heap.size := fun h => by
    rcases hK2 _ h with h | h
    · exact hnK h
    · omega
  have hold : ∀ x, x < W1.heap.size → ¬ K x → ¬ K2 x := fun x hx hx2 h => by
    rcases hK2 x h with h | h
    · exact hx2 h
    · omega
  have ht1' := hold tb hvW.tv.lt ht1
  have ht2' := hold sb hvW.sv.lt ht2
  have ht3' := hold vb hvW.vv.lt ht3
  have q1 : w2.cell? ⟨w.heap.size, 2, none⟩ = some (.int .i64 h) := hn2.cell 2
  have q2 : w2.cell? ⟨vb, 0, none⟩ = some (.func (.func 83) #[] #[.pointer (some ⟨tb, 0, none⟩), .pointer (some ⟨sb, 0, none⟩), .pointer (some ⟨vb, 0, none⟩), .pointer (some ⟨db, 0, none⟩)]) := hv2.vv.cell 0
  go_wp2_with fail
  refine (IH.out b tb sb vb db mt V K2 F w2 N G s1 h (by omega) (by omega) HG.out W1k (by omega) hN hsto2 hv2 hs2 hF2 ht1' ht2' ht3').mono ?_
  rintro e w3 ⟨K3, rfl, hs3, hk3, hK3⟩
  obtain ⟨W2k, _, _, hq2⟩ := Dd.visit_walk HG.out f h s1 (by omega) (by omega) W1k
  have hpot3 := Dd.visit_pot HG.out f h s1 (N.length + 2) (by omega) (by omega) (by omega) W1k
  have Hq2 := Lib.hid hq2
  clear hq2
  have HV2 : Hid (visit N (f + 1) (j + 2) s = ((((visit N f h s1).2.1 ++ [(v, r1, (visit N f h s1).1)]).length + 1, ((visit N f h s1).2.1 ++ [(v, r1, (visit N f h s1).1)], fun x => if x = j + 2 then some (((visit N f h s1).2.1 ++ [(v, r1, (visit N f h s1).1)]).length + 1) else (visit N f h s1).2.2 x)))) := by
    have h1 := HNONE.out
    obtain ⟨e1, e2, e3⟩ := HE.out
    refine Lib.hid ?_
    simp only [visit, h1, e1, e2, e3, HV1.out]
  generalize visit N f h s1 = vs2 at *
  obtain ⟨r2, D2, T2⟩ := vs2
  simp only at hs3 W2k hpot3 HV2
  have hn3 := hn2.keep hk3 hn2K
  have hv3 := hv2.keep hk3 ht1' ht2' ht3'
  have hn3K : ¬ K3 w.heap.size := fun h => by
    rcases hK3 _ h with h | h
    · exact hn2K h
    · have := hk2.size; omega
  have hold3 : ∀ x, x < W1.heap.size → ¬ K x → ¬ K3 x := fun x hx hx2 h => by
    rcases hK3 x h with h | h
    · exact hold x hx hx2 h
    · have := hk2.size; omega
  have p0 : w3.cell? ⟨w.heap.size, 0, none⟩ = some (.int .i64 v) := hn3.cell 0
  have hDlen : D2.length ≤ 1099511000000 := by unfold pot at hpot2 hpot3 hpot; simp only at hpot2 hpot3; omega
  obtain ⟨dv, hd3, ho3, hm3, hK3'⟩ := hs3
  simp only at ho3 hm3
  have p1 : w3.cell? ⟨db, 1, none⟩ = some dv := hd3.cell 1
  have hdne : dv.ownBlock ≠ some db := own_ne_bk ho3 hd3 (by decide)
  have ldb := hd3.lt
  go_upto_region 8 with (first
    | (at_builtin
       refine wpList_app (by rfl) eNodes (.tmp 37) (.tmp 43) (by rfl) (by rfl) (ho3.alloc _) ⟨w3.heap.size, 0, none⟩ 1 1 [.int .i64 v, .int .i64 (r1 : Nat), .int .i64 (r2 : Nat)] (by rfl) (by rfl)
         (World.news_of_block (cs := #[.int .i64 v, .int .i64 (r1 : Nat), .int .i64 (r2 : Nat)]) (t := 74) (fr := (0, 0)) (heap_alloc_new w3 _)) (by simp [Value.oneCell']) (by omega) (by omega) (by omega) (by omega) ?_
       intro g2 cap2 w4 hown4 hA
       have hd4 : Bk w4 db 26 #[.int .i64 V, dv, .int .i64 0] := (hd3.alloc _).grown hA.grown (Ne.symm hdne)
       have p3 : w4.cell? ⟨db, 1, none⟩ = some dv := hd4.cell 1
       have p4 : w4.frozen? ⟨db, 1, none⟩ = false := hd4.frozen 1))
  have hg2db : g2 ≠ db := fun e => own_ne_bk hown4 hd4 (by decide) (by rw [e]; rfl)
  have hdK : K3 db := (hK3' _).2 (.inl rfl)
  have hd3' := hd3
  have hmlt := hm3.lt
  have hdvlt : ∀ k, dv.ownBlock = some k → k < w3.heap.size := fun k hk => (ho3.lt k hk).2
  have hat2 := hA.at_
  have hmtdv : dv.ownBlock ≠ some mt := own_ne_map ho3 hm3
  have hmtdb : mt ≠ db := hm3.ne_bk hd3
  have k5 : Keep K3 w3 (w4.setCell ⟨db, 1, none⟩ (.slice (some ⟨g2, 0, none⟩) (D2.length + 1) cap2)) :=
    (((Keep.refl K3 w3).alloc _).grown hA.grown fun k hk => .inl ((hK3' k).2 (.inr (.inr hk)))).setCell (.inl hdK) _
  have hv5 := hv3.keep k5 (hold3 tb hvW.tv.lt ht1) (hold3 sb hvW.sv.lt ht2) (hold3 vb hvW.vv.lt ht3)
  have hd5 : Bk (w4.setCell ⟨db, 1, none⟩ (.slice (some ⟨g2, 0, none⟩) (D2.length + 1) cap2)) db 26 #[.int .i64 V, .slice (some ⟨g2, 0, none⟩) (D2.length + 1) cap2, .int .i64 0] := hd4.put 1 _
  have hown5 : (w4.setCell ⟨db, 1, none⟩ (.slice (some ⟨g2, 0, none⟩) (D2.length + 1) cap2)).ownsRow 0 74 3 (.slice (some ⟨g2, 0, none⟩) (D2.length + 1) cap2) (D2.length + 1) (ndsC D2 ++ [.int .i64 v, .int .i64 (r1 : Nat), .int .i64 (r2 : Nat)]) :=
    own_keep hown4 fun k hk => Below.heap_setCell _ _ _ _ (fun e => hg2db (by injection hk with hk; exact (show g2 = k from hk).trans e))
  have hm5 : MapInt (w4.setCell ⟨db, 1, none⟩ (.slice (some ⟨g2, 0, none⟩) (D2.length + 1) cap2)) mt T2 :=
    ((hm3.block (w' := w3.alloc _) (Below.heap_alloc _ _ _ hm3.lt)).block (hA.grown.block mt (by have := hm3.lt; simp; omega) (Ne.symm hmtdv))).block (Below.heap_setCell _ _ _ _ hmtdb)
  clear hd3 ho3 hm3 hown4 hd4 p3 p4 hn3 hn2 hv3 hv2 hsto2 hs2
  generalize w4.setCell ⟨db, 1, none⟩ (.slice (some ⟨g2, 0, none⟩) (D2.length + 1) cap2) = w5 at *
  have p1 : w5.cell? ⟨db, 1, none⟩ = some (.slice (some ⟨g2, 0, none⟩) (D2.length + 1) cap2) := hd5.cell 1
  have p2 : w5.cell? ⟨tb, 0, none⟩ = some (.map (some mt)) := hv5.tv.cell 0
  have htny : tiny (j + 2) := by unfold tiny; omega
  go_wp2_with (first
    | (at_mapUpdate
       refine wpList_mapT (by rfl) hm5 encInt Tryd.underlying99 (x := j + 2) htny (D2.length + 2) (.tmp 46) (.tmp 47) (.tmp 51) (by rfl) (by rfl) (by rfl) (by rfl) ?_
       intro w6 hm6 hg6 hsz6
       have hv6 : w6.cell? ⟨tb, 0, none⟩ = some (.map (some mt)) := hg6.cell (a := ⟨tb, 0, none⟩) p2 (by simpa using (hm5.ne_bk hv5.tv).symm)
       have hl6 : (Instr.lookup 99 (.map (some mt)) (.int .i64 ((j : Int) + 2)) false).run Tryd.prog w6 = .ok (.int .i64 ((D2.length : Int) + 2)) w6 := by
         have := hm6.look encInt Tryd.underlying99 (zeroInt _) (x := j + 2) htny false
         simpa [inV] using this))
  go_ret
  have hfin := HV2.out
  rw [hfin]
  have hstep : Keep K3 w3 w6 ∧ ∀ k, (k = db ∨ k = mt ∨ some g2 = some k) → K3 k ∨ w3.heap.size ≤ k := by
    refine ⟨k5.grown hg6 fun k hk => .inl ((hK3' k).2 (.inr (.inl (by simpa using hk.symm)))), fun k hk => ?_⟩
    rcases hk with rfl | rfl | hk
    · exact .inl hdK
    · exact .inl ((hK3' _).2 (.inr (.inl rfl)))
    · rcases hat2 with h | h
      · exact .inl ((hK3' k).2 (.inr (.inr (h.trans hk))))
      · refine .inr ?_
        have : g2 = k := by simpa using hk
        simp at h
        omega
  have hall := grow_trans (F1 := K) (F := K) (w := w) (w1 := W1) ⟨hkW.mono fun _ _ h => h.elim, fun k h => .inl h⟩ (grow_trans ⟨hk2, hK2⟩ (grow_trans ⟨hk3, hK3⟩ hstep))
  refine ⟨fun k => k = db ∨ k = mt ∨ some g2 = some k, congrArg Ending.returned (congrArg (Value.int .i64) (by simp; omega)), ⟨_, hd5.grown hg6 ?_, ?_, hm6.congr fun x => ?_, fun k => Iff.rfl⟩, ?_, ?_⟩
  · simpa using hmtdb.symm
  · have : w6.ownsRow 0 74 3 (.slice (some ⟨g2, 0, none⟩) (D2.length + 1) cap2) (D2.length + 1) (ndsC D2 ++ [.int .i64 v, .int .i64 (r1 : Nat), .int .i64 (r2 : Nat)]) :=
      own_keep hown5 fun k hk => hg6.block k (hown5.lt k hk).2 (fun e => own_ne_map hown5 hm5 (by rw [hk, e]))
    simpa [ndsC_snoc, ndC] using this
  · by_cases hx : x = j + 2
    · simp [hx]
    · simp [hx]
  · exact hall.1
  · exact hall.2

/-- The function visit, from whatever number. -/
theorem vis_fuel : ∀ f, VisIH f := by
  intro f
  induction f with
  | zero => intro b tb sb vb db mt V K F w N G s i hi; omega
  | succ f ih =>
    intro b tb sb vb db mt V K F w N G s i hif hi hg W hpot hN hsto hv hs hFK h1 h2 h3
    cases hk : s.2 i with
    | some k =>
      have e : visit N (f + 1) i s = (k, s) := by simp only [visit, hk]
      rw [e]
      exact vis_known hv hs i k (by unfold tiny; omega) hk
    | none =>
      have hi2 : 2 ≤ i := by
        by_cases h : i = 0
        · subst h; rw [W.zero] at hk; cases hk
        · by_cases h' : i = 1
          · subst h'; rw [W.one] at hk; cases hk
          · omega
      exact vis_rec ih hsto hg hN hv hs W i hif hi hpot hFK h1 h2 h3 hk hi2
end
end Go.Proofs.YtgdmcidcappkpaaDoor
namespace Go.Proofs.YtgdmcidcappkpaaDoor
open Go.RowKit
open Dd (var lo visit St Walk pot canon)

def dgZero : Value := .agg #[.int .i64 0, .slice none 0 0, .int .i64 0]
/-- A diagram that is handed back, or the error that it is too large. -/
def DgRes (H : Nat) (V : Int) (c : Nat × List Nd) (e : Ending) (w' : World) : Prop :=
  (4096 < c.2.length ∧ e = .returned (.tuple #[dgZero, .int .i64 8])) ∨
  (c.2.length ≤ 4096 ∧ ∃ sl, e = .returned (.tuple #[.agg #[.int .i64 V, sl, .int .i64 (c.1 : Nat)], .int .i64 0]) ∧ Rd w' sl 3 c.2.length (ndsC c.2) ∧ ∀ k, sl.ownBlock = some k → H ≤ k)

set_option maxRecDepth 100000 in
set_option maxHeartbeats 1000000 in
theorem export_any {b : Nat} {F : Nat → Prop} {w : World} {N : List Nd} {G : Nd → Option Nat} (hsto : Sto w b N G F) (hg : Dd.Good N) (hN : N.length ≤ 1099510000000) (V : Int) (i : Nat) (hi : i < N.length + 2) :
    Calls Tryd.prog 70 #[.pointer (some ⟨b, 0, none⟩), .int .i64 V, .int .i64 i] w fun e w' => DgRes w.heap.size V (canon N i) e w' ∧ Keep NoF w w' := by
  have hmm := @run_makeMap Tryd.prog
  have HG := Lib.hid hg
  clear hg
  go_enter Tryd.func70, Tryd.ntmps70
  go_upto_region 2 with (fail)
  have hk0 : Keep NoF w (((w.alloc (.cells #[.pointer (some ⟨b, 0, none⟩)] 68)).alloc (.cells #[.int .i64 0, .slice none 0 0, .int .i64 0] 26)).alloc (.cells #[.int .i64 V, .slice none 0 0, .int .i64 0] 26)) :=
    (((Keep.refl _ _).alloc _).alloc _).alloc _
  have hb1 := ((Bk.new w 68 #[.pointer (some ⟨b, 0, none⟩)]).alloc (.cells #[.int .i64 0, .slice none 0 0, .int .i64 0] 26)).alloc (.cells #[.int .i64 V, .slice none 0 0, .int .i64 0] 26)
  have hb2 := (Bk.new (w.alloc (.cells #[.pointer (some ⟨b, 0, none⟩)] 68)) 26 #[.int .i64 0, .slice none 0 0, .int .i64 0]).alloc (.cells #[.int .i64 V, .slice none 0 0, .int .i64 0] 26)
  have hb3 := Bk.new ((w.alloc (.cells #[.pointer (some ⟨b, 0, none⟩)] 68)).alloc (.cells #[.int .i64 0, .slice none 0 0, .int .i64 0] 26)) 26 #[.int .i64 V, .slice none 0 0, .int .i64 0]
  have e1 : (w.alloc (.cells #[.pointer (some ⟨b, 0, none⟩)] 68)).heap.size = w.heap.size + 1 := by simp
  have e2 : ((w.alloc (.cells #[.pointer (some ⟨b, 0, none⟩)] 68)).alloc (.cells #[.int .i64 0, .slice none 0 0, .int .i64 0] 26)).heap.size = w.heap.size + 1 + 1 := by simp
  rw [e1] at hb2
  rw [e2] at hb3
  clear e1 e2
  have hs0 := hsto.kept hk0 fun _ _ h => h
  have hFlt := hsto.lt
  have hWs : (((w.alloc (.cells #[.pointer (some ⟨b, 0, none⟩)] 68)).alloc (.cells #[.int .i64 0, .slice none 0 0, .int .i64 0] 26)).alloc (.cells #[.int .i64 V, .slice none 0 0, .int .i64 0] 26)).heap.size = w.heap.size + 3 := by simp
  have HWs := Lib.hid hWs
  clear hsto hWs
  generalize ((w.alloc (.cells #[.pointer (some ⟨b, 0, none⟩)] 68)).alloc (.cells #[.int .i64 0, .slice none 0 0, .int .i64 0] 26)).alloc (.cells #[.int .i64 V, .slice none 0 0, .int .i64 0] 26) = W at *
  have hm0 : MapInt (W.alloc (.map #[] 0)) W.heap.size (fun _ => none) := MapT.new _ _ _ _ _ _
  have tok : True := trivial
  go_upto_region 3 with (first
    | (refine wpList_insT (by rfl) hm0 encInt Tryd.underlying99 (x := 0) (by unfold tiny; omega) 0 (.tmp 13) (.const (.int .i64 0)) (.const (.int .i64 0)) (by rfl) (by rfl) (by rfl) (by rfl) ?_
       intro w1 hm1 hg1 hsz1)
    | (refine wpList_insT (by rfl) hm1 encInt Tryd.underlying99 (x := 1) (by unfold tiny; omega) 1 (.tmp 13) (.const (.int .i64 1)) (.const (.int .i64 1)) (by rfl) (by rfl) (by rfl) (by rfl) ?_
       intro w2 hm2 hg2 hsz2))
  go_wp2_with fail
  have hWs := HWs.out
  have z1 : w1.heap.size = W.heap.size + 1 := by rw [hsz1]; simp
  have z2 : w2.heap.size = W.heap.size + 1 := by rw [hsz2, z1]
  have kW2 : Keep NoF W w2 := (((Keep.refl _ W).alloc _).grown hg1 fun k hk => .inr (by injection hk with hk; omega)).grown hg2 fun k hk => .inr (by injection hk with hk; omega)
  have kW4 : Keep NoF W ((w2.alloc (.cells #[.map (some W.heap.size)] 99)).alloc (.cells #[.func (.func 83) #[] #[.pointer (some ⟨W.heap.size + 1, 0, none⟩), .pointer (some ⟨w.heap.size, 0, none⟩), .pointer (some ⟨W.heap.size + 1 + 1, 0, none⟩), .pointer (some ⟨w.heap.size + 1 + 1, 0, none⟩)]] 90)) := (kW2.alloc _).alloc _
  have t1 := (Bk.new w2 99 #[.map (some W.heap.size)]).alloc (.cells #[.func (.func 83) #[] #[.pointer (some ⟨W.heap.size + 1, 0, none⟩), .pointer (some ⟨w.heap.size, 0, none⟩), .pointer (some ⟨W.heap.size + 1 + 1, 0, none⟩), .pointer (some ⟨w.heap.size + 1 + 1, 0, none⟩)]] 90)
  have t2 := Bk.new (w2.alloc (.cells #[.map (some W.heap.size)] 99)) 90 #[.func (.func 83) #[] #[.pointer (some ⟨W.heap.size + 1, 0, none⟩), .pointer (some ⟨w.heap.size, 0, none⟩), .pointer (some ⟨W.heap.size + 1 + 1, 0, none⟩), .pointer (some ⟨w.heap.size + 1 + 1, 0, none⟩)]]
  have e3 : (w2.alloc (.cells #[.map (some W.heap.size)] 99)).heap.size = W.heap.size + 1 + 1 := by simp [z2]
  rw [e3] at t2
  rw [z2] at t1
  have hm3 := (hm2.block (w' := w2.alloc (.cells #[.map (some W.heap.size)] 99)) (Below.heap_alloc _ _ _ hm2.lt))
  have hm4 := hm3.block (w' := (w2.alloc (.cells #[.map (some W.heap.size)] 99)).alloc (.cells #[.func (.func 83) #[] #[.pointer (some ⟨W.heap.size + 1, 0, none⟩), .pointer (some ⟨w.heap.size, 0, none⟩), .pointer (some ⟨W.heap.size + 1 + 1, 0, none⟩), .pointer (some ⟨w.heap.size + 1 + 1, 0, none⟩)]] 90)) (Below.heap_alloc _ _ _ hm3.lt)
  clear hm0 hm1 hm2 hm3 hg1 hg2
  generalize (w2.alloc (.cells #[.map (some W.heap.size)] 99)).alloc (.cells #[.func (.func 83) #[] #[.pointer (some ⟨W.heap.size + 1, 0, none⟩), .pointer (some ⟨w.heap.size, 0, none⟩), .pointer (some ⟨W.heap.size + 1 + 1, 0, none⟩), .pointer (some ⟨w.heap.size + 1 + 1, 0, none⟩)]] 90) = W4 at *
  have hd4 := hb3.keep kW4 (fun h => h)
  have hr4 := hb2.keep kW4 (fun h => h)
  have hvars : Vars W4 b (W.heap.size + 1) w.heap.size (W.heap.size + 1 + 1) (w.heap.size + 1 + 1) W.heap.size := ⟨t1, hb1.keep kW4 (fun h => h), t2⟩
  have hvst : Vst W4 (w.heap.size + 1 + 1) W.heap.size V Dd.start (fun k => k = w.heap.size + 1 + 1 ∨ k = W.heap.size) :=
    ⟨.slice none 0 0, hd4, World.ownsRow_nil _ _ _ _, hm4.congr fun x => by
      by_cases h1 : x = 1
      · subst h1; simp [Dd.start]
      · by_cases h0 : x = 0 <;> simp [Dd.start, h0, h1], fun k => by simp [Value.ownBlock]⟩
  have hs4 := hs0.kept kW4 fun _ _ h => h
  refine (vis_fuel (i + 1) b (W.heap.size + 1) w.heap.size (W.heap.size + 1 + 1) (w.heap.size + 1 + 1) W.heap.size V _ F W4 N G Dd.start i (by omega) hi HG.out (Dd.start_walk N)
    (by have := Dd.pot_start N.length; omega) (by omega) hs4 hvars hvst (fun k hk h => by have := hFlt k hk; omega) (by omega) (by omega) (by omega)).mono ?_
  rintro e w5 ⟨K5, rfl, ⟨dv, hd5, ho5, hm5, hK5⟩, hk5, hKs⟩
  have hr5 := hr4.keep hk5 (by omega)
  have hcan : Dd.canon N i = ((visit N (i + 1) i Dd.start).1, (visit N (i + 1) i Dd.start).2.1) := rfl
  have hbnd := Dd.visit_bound HG.out hi
  rw [hcan] at hbnd
  have HCAN := Lib.hid hcan
  clear hcan hWs z1 z2 e3
  generalize visit N (i + 1) i Dd.start = vs at *
  obtain ⟨r, D, T⟩ := vs
  simp only at ho5 hm5 hbnd HCAN
  obtain ⟨A, c, rfl⟩ := own_form ho5
  have hd6 : Bk (w5.setCell ⟨w.heap.size + 1 + 1, 2, none⟩ (.int .i64 (r : Nat))) (w.heap.size + 1 + 1) 26 #[.int .i64 V, .slice A D.length c, .int .i64 (r : Nat)] := hd5.put 2 _
  have hr6 := hr5.far (p := ⟨w.heap.size + 1 + 1, 2, none⟩) (by simp) (.int .i64 (r : Nat))
  have hdv : (Value.slice A D.length c).ownBlock ≠ some (w.heap.size + 1 + 1) := own_ne_bk ho5 hd5 (by decide)
  have ho6 : (w5.setCell ⟨w.heap.size + 1 + 1, 2, none⟩ (.int .i64 (r : Nat))).ownsRow 0 74 3 (.slice A D.length c) D.length (ndsC D) := own_keep ho5 fun k hk => Below.heap_setCell _ _ _ _ (fun e => hdv (by rw [hk]; exact congrArg some e))
  have hk6 : Keep NoF w (w5.setCell ⟨w.heap.size + 1 + 1, 2, none⟩ (.int .i64 (r : Nat))) := by
    have hWs := HWs.out
    have h1 : Keep NoF w W4 := hk0.trans kW4 fun _ _ h => h
    exact (h1.trans hk5 fun k hk h => by rcases h with h | h <;> omega).setCell (.inr (by simp; omega)) _
  have hown : ∀ k, (Value.slice A D.length c).ownBlock = some k → w.heap.size ≤ k := fun k hk => by
    have hWs := HWs.out
    have := hk0.size
    have := kW4.size
    rcases hKs k ((hK5 k).2 (.inr (.inr hk))) with (h | h) | h <;> omega
  have c1 : w5.cell? ⟨w.heap.size + 1 + 1, 2, none⟩ = some (.int .i64 0) := hd5.cell 2
  have c2 : w5.frozen? ⟨w.heap.size + 1 + 1, 2, none⟩ = false := hd5.frozen 2
  go_upto_region 6 with (fail)
  clear hd5 hr5 ho5 c1 c2 hm5
  generalize w5.setCell ⟨w.heap.size + 1 + 1, 2, none⟩ (.int .i64 (r : Nat)) = W6 at *
  have d0 : W6.cell? ⟨w.heap.size + 1 + 1, 0, none⟩ = some (.int .i64 V) := hd6.cell 0
  have d1 : W6.cell? ⟨w.heap.size + 1 + 1, 1, none⟩ = some (.slice A D.length c) := hd6.cell 1
  have d2 : W6.cell? ⟨w.heap.size + 1 + 1, 2, none⟩ = some (.int .i64 (r : Nat)) := hd6.cell 2
  have r0 : W6.cell? ⟨w.heap.size + 1, 0, none⟩ = some (.int .i64 0) := hr6.cell 0
  have r1 : W6.cell? ⟨w.heap.size + 1, 1, none⟩ = some (.slice none 0 0) := hr6.cell 1
  have r2 : W6.cell? ⟨w.heap.size + 1, 2, none⟩ = some (.int .i64 0) := hr6.cell 2
  have f0 := hr6.frozen 0
  have f1 := hr6.frozen 1
  have f2 := hr6.frozen 2
  have hkr : ∀ (x y z : Value), Keep NoF w (((W6.setCell ⟨w.heap.size + 1, 0, none⟩ x).setCell ⟨w.heap.size + 1, 1, none⟩ y).setCell ⟨w.heap.size + 1, 2, none⟩ z) := fun x y z =>
    ((hk6.setCell (.inr (by simp)) x).setCell (.inr (by simp)) y).setCell (.inr (by simp)) z
  have hset : ∀ (x y z : Value) (k : Nat), k ≠ w.heap.size + 1 → (((W6.setCell ⟨w.heap.size + 1, 0, none⟩ x).setCell ⟨w.heap.size + 1, 1, none⟩ y).setCell ⟨w.heap.size + 1, 2, none⟩ z).heap[k]? = W6.heap[k]? := fun x y z k hk =>
    ((Below.heap_setCell _ _ _ k hk).trans (Below.heap_setCell _ _ _ k hk)).trans (Below.heap_setCell _ _ _ k hk)
  by_cases hgt : 4096 < D.length
  · go_wp2
    refine bodyPost_ret (v := .tuple #[dgZero, .int .i64 8]) (by simp [results, Tryd.results70, go_sem, dgZero, r0, r1, r2]) rfl ⟨?_, hkr _ _ _⟩
    exact .inl ⟨by rw [HCAN.out]; exact hgt, rfl⟩
  · go_wp2
    refine bodyPost_ret (v := .tuple #[.agg #[.int .i64 V, .slice A D.length c, .int .i64 (r : Nat)], .int .i64 0]) (by simp [results, Tryd.results70, go_sem, r0, r1, r2]) rfl ⟨?_, hkr _ _ _⟩
    refine .inr ⟨by rw [HCAN.out]; exact Nat.le_of_not_lt hgt, .slice A D.length c, by rw [HCAN.out], ?_, hown⟩
    rw [HCAN.out]
    exact Rd.of_own (own_keep ho6 fun k hk => hset _ _ _ k fun e => own_ne_bk ho6 hr6 (by decide) (e ▸ hk))
end Go.Proofs.YtgdmcidcappkpaaDoor
namespace Go.Proofs.YtgdmcidcappkpaaDoor
open Go.RowKit
open Dd (Rn rat ofN)

def rnC (n : Rn) : List Value := [.int .i64 n.1, .int .i64 n.2.1, .int .i64 n.2.2]
def rnsC (R : List Rn) : List Value := R.flatMap rnC
theorem rnsC_ofN (N : List Nd) : rnsC (ofN N) = ndsC N := by
  unfold rnsC ofN ndsC
  rw [List.flatMap_map]
  rfl
theorem rnsC_at (R : List Rn) (i : Nat) (n : Rn) (h : R[i]? = some n) : (rnsC R)[i * 3]? = some (.int .i64 n.1) ∧ (rnsC R)[i * 3 + 1]? = some (.int .i64 n.2.1) ∧ (rnsC R)[i * 3 + 2]? = some (.int .i64 n.2.2) := by
  induction R generalizing i with
  | nil => simp at h
  | cons m R ih =>
    cases i with
    | zero =>
      simp at h
      subst h
      simp [rnsC, rnC]
    | succ i =>
      have := ih i (by simpa using h)
      have e : ∀ j, (rnsC (m :: R))[(i + 1) * 3 + j]? = (rnsC R)[i * 3 + j]? := fun j => by
        simp only [rnsC, List.flatMap_cons]
        rw [List.getElem?_append_right (by simp [rnC]; omega)]
        congr 1
        simp [rnC]; omega
      have e0 := e 0
      simp only [Nat.add_zero] at e0
      rw [e0, e, e]
      exact this
/-- The cells of element k of a slice of nodes that came in. -/
theorem Rd.node {w : World} {A : Option Addr} {m c : Nat} {R : List Rn} (h : Rd w (.slice A m c) 3 R.length (rnsC R)) {k : Nat} (hk : k < R.length) :
    ∃ bl off, A = some ⟨bl, off, none⟩ ∧ w.cell? ⟨bl, off + k * 3, none⟩ = some (.int .i64 (rat R k).1) ∧ w.cell? ⟨bl, off + k * 3 + 1, none⟩ = some (.int .i64 (rat R k).2.1) ∧ w.cell? ⟨bl, off + k * 3 + 2, none⟩ = some (.int .i64 (rat R k).2.2) := by
  obtain ⟨_, _, bl, off, rfl, hc⟩ := h.at_ (by omega)
  have hat : R[k]? = some (rat R k) := by simp [rat, List.getD_eq_getElem?_getD, List.getElem?_eq_getElem hk]
  obtain ⟨c1, c2, c3⟩ := rnsC_at R k _ hat
  have d1 := hc _ _ c1
  have d2 := hc _ _ c2
  have d3 := hc _ _ c3
  simp only [← Nat.add_assoc] at d2 d3
  exact ⟨bl, off, rfl, d1, d2, d3⟩

theorem nd_stood : Tryd.prog.stoodInHeld 74 = false := by kernel_rfl
theorem nd_guard : Tryd.prog.eqGuardType Tryd.prog.depth 74 = false := by kernel_rfl

theorem run_nd_neq (a1 a2 a3 b1 b2 b3 : Int) (w : World) : (binOp .neq 74 (.agg #[.int .i64 a1, .int .i64 a2, .int .i64 a3]) (.agg #[.int .i64 b1, .int .i64 b2, .int .i64 b3])).run Tryd.prog w =
    .ok (.bool (!decide (((a1, a2, a3) : Rn) = (b1, b2, b3)))) w := by
  have hp := nd_stood
  cases e1 : a1 == b1 <;> cases e2 : a2 == b2 <;> cases e3 : a3 == b3 <;> simp [go_sem, hp, e1, e2, e3] <;> simp_all
theorem run_nd_eql (a1 a2 a3 b1 b2 b3 : Int) (w : World) : (binOp .eql 74 (.agg #[.int .i64 a1, .int .i64 a2, .int .i64 a3]) (.agg #[.int .i64 b1, .int .i64 b2, .int .i64 b3])).run Tryd.prog w =
    .ok (.bool (decide (((a1, a2, a3) : Rn) = (b1, b2, b3)))) w := by
  have hp := nd_stood
  cases e1 : a1 == b1 <;> cases e2 : a2 == b2 <;> cases e3 : a3 == b3 <;> simp [go_sem, hp, e1, e2, e3] <;> simp_all

theorem eq_prefix (R S : List Rn) (hl : R.length = S.length) (h : ∀ j, j < R.length → rat R j = rat S j) : R = S := by
  apply List.ext_getElem hl
  intro i h1 h2
  have := h i h1
  simpa [rat, List.getD_eq_getElem?_getD, List.getElem?_eq_getElem h1, List.getElem?_eq_getElem h2] using this

set_option maxRecDepth 100000 in
set_option maxHeartbeats 1000000 in
theorem slEq_any (R S : List Rn) (s1 s2 : Value) (w : World) (h1 : Rd w s1 3 R.length (rnsC R)) (h2 : Rd w s2 3 S.length (rnsC S)) (hR : R.length ≤ 1000000000000) (hS : S.length ≤ 1000000000000) :
    Calls Tryd.prog 74 #[s1, s2] w fun e w' => e = .returned (.bool (decide (R = S))) ∧ Keep NoF w w' := by
  have h1' := h1
  have h2' := h2
  obtain ⟨_, A, c, rfl, hc1, _⟩ := h1'
  obtain ⟨_, B, d, rfl, hc2, _⟩ := h2'
  by_cases hl : R.length = S.length
  · have e0 : ((R.length : Int) != (S.length : Int)) = false := by simp; omega
    have HL := Lib.hid hl
    have hle : R.length ≤ S.length := by omega
    clear hl
    go_enter Tryd.func74, Tryd.ntmps74
    go_wp2
    go_loopw [5, 13] (fun _ i wr => ∃ k : Nat, i = .int .i64 k ∧ k ≤ R.length ∧ (∀ j, j < k → rat R j = rat S j) ∧ Keep NoF w wr) (fun _ i _ => R.length - (intOf i).toNat)
    case atStart => exact ⟨0, rfl, by omega, fun j hj => by omega, Keep.refl _ _⟩
    case round =>
      obtain ⟨k, rfl, hk, hp, hkw⟩ := hrel
      by_cases hlt : k < R.length
      · obtain ⟨bl, off, rfl, x1, x2, x3⟩ := (h1.kept hkw fun _ _ h => h).node hlt
        obtain ⟨bm, ofg, rfl, y1, y2, y3⟩ := (h2.kept hkw fun _ _ h => h).node (k := k) (by omega)
        have b1 : (0 : Int) ≤ (k : Int) := by omega
        have b2 : (k : Int) < (R.length : Int) := by omega
        have b3 : (k : Int) < (S.length : Int) := by omega
        generalize hr : rat R k = r at *
        generalize hs : rat S k = s at *
        have HR := Lib.hid hr
        have HS := Lib.hid hs
        clear hr hs
        obtain ⟨r1, r2, r3⟩ := r
        obtain ⟨s1, s2, s3⟩ := s
        simp only at x1 x2 x3 y1 y2 y3
        have hsd := nd_guard
        have hneq := run_nd_neq r1 r2 r3 s1 s2 s3
        generalize hdd : decide (((r1, r2, r3) : Rn) = (s1, s2, s3)) = dd at *
        have HDD := Lib.hid hdd
        clear hdd
        go_wp2
        go_quiet (fail)
        cases dd
        · go_wp2
          go_ret
          have hne : decide (R = S) = false := by
            rw [decide_eq_false_iff_not]
            intro h
            have h1 := HDD.out
            rw [decide_eq_false_iff_not] at h1
            exact h1 (HR.out.symm.trans ((congrArg (rat · k) h).trans HS.out))
          rw [hne]
          exact ⟨rfl, hkw.drewN _⟩
        · go_wp2
          go_roundw
          case rel =>
            refine ⟨k + 1, by go_num, by omega, fun j hj => ?_, hkw.drewN _⟩
            by_cases hjk : j = k
            · rw [hjk, HR.out, HS.out]
              exact of_decide_eq_true HDD.out
            · exact hp j (by omega)
          case measure => simp [intOf]; omega
      · go_wp2
        go_ret
        have he : decide (R = S) = true := decide_eq_true (eq_prefix R S HL.out fun j hj => hp j (by omega))
        rw [he]
        exact ⟨rfl, hkw⟩
  · have e0 : ((R.length : Int) != (S.length : Int)) = true := by simp; omega
    have e1 : decide (R = S) = false := by simp; exact fun h => hl (by rw [h])
    rw [e1]
    go_enter Tryd.func74, Tryd.ntmps74
    go_wp2
    go_ret
    exact ⟨rfl, Keep.refl _ _⟩
end Go.Proofs.YtgdmcidcappkpaaDoor
namespace Go.Proofs.YtgdmcidcappkpaaDoor
open Go.RowKit
open Dd (Rn rat ofN nodeErr badRange badForm badNext)

set_option maxRecDepth 100000 in
set_option maxHeartbeats 1000000 in
theorem single_any (V : Int) (R : List Rn) (root : Int) (sl : Value) (i : Nat) (w : World) (hi : i < R.length) (hR : R.length ≤ 4096) (hrd : Rd w sl 3 R.length (rnsC R)) :
    Calls Tryd.prog 75 #[.agg #[.int .i64 V, sl, .int .i64 root], .int .i64 i] w fun e w' => e = .returned (.int .i64 (nodeErr V R i)) ∧ Keep NoF w w' := by
  have hrd' := hrd
  obtain ⟨_, A, c, rfl, hc, _⟩ := hrd'
  obtain ⟨bl, off, rfl, x1, x2, x3⟩ := hrd.node hi
  have b1 : (0 : Int) ≤ (i : Int) := by omega
  have b2 : (i : Int) < (R.length : Int) := by omega
  have lbl := World.block_lt_of_cell? w _ x1
  simp only at lbl
  have HN : Hid (nodeErr V R i = (let n := rat R i; if badRange n V then 2 else if badForm n i then 3 else if badNext R n n.2.1 ∨ badNext R n n.2.2 then 9 else 0)) := Lib.hid rfl
  generalize hr : rat R i = r at *
  obtain ⟨v, l, h⟩ := r
  simp only at x1 x2 x3 HN
  by_cases q1 : v < 0
  · have HV : Hid (nodeErr V R i = 2) := Lib.hid (by rw [HN.out]; exact if_pos (by unfold badRange; simp only; omega))
    go_enter Tryd.func75, Tryd.ntmps75
    go_wp2
    go_ret
    exact ⟨by rw [HV.out]; rfl, ((Keep.refl _ _).alloc _).alloc _⟩
  by_cases q2 : V ≤ v
  · have HV : Hid (nodeErr V R i = 2) := Lib.hid (by rw [HN.out]; exact if_pos (by unfold badRange; simp only; omega))
    go_enter Tryd.func75, Tryd.ntmps75
    go_wp2
    go_ret
    exact ⟨by rw [HV.out]; rfl, ((Keep.refl _ _).alloc _).alloc _⟩
  have hnr : ¬ badRange (v, l, h) V := by unfold badRange; simp only; omega
  by_cases q3 : badForm (v, l, h) i
  · have HV : Hid (nodeErr V R i = 3) := Lib.hid (by rw [HN.out]; simp only [if_neg hnr, if_pos q3])
    have q3' := q3
    unfold badForm at q3'
    simp only at q3'
    clear HN q3 hnr hr
    by_cases p1 : l < 0
    · go_enter Tryd.func75, Tryd.ntmps75
      go_wp2
      go_ret
      exact ⟨by rw [HV.out]; rfl, ((Keep.refl _ _).alloc _).alloc _⟩
    by_cases p2 : (i : Int) + 1 < l
    · go_enter Tryd.func75, Tryd.ntmps75
      go_wp2
      go_ret
      exact ⟨by rw [HV.out]; rfl, ((Keep.refl _ _).alloc _).alloc _⟩
    by_cases p3 : h < 0
    · go_enter Tryd.func75, Tryd.ntmps75
      go_wp2
      go_ret
      exact ⟨by rw [HV.out]; rfl, ((Keep.refl _ _).alloc _).alloc _⟩
    by_cases p4 : (i : Int) + 1 < h
    · go_enter Tryd.func75, Tryd.ntmps75
      go_wp2
      go_ret
      exact ⟨by rw [HV.out]; rfl, ((Keep.refl _ _).alloc _).alloc _⟩
    · obtain rfl : l = h := by omega
      clear q3'
      go_enter Tryd.func75, Tryd.ntmps75
      go_wp2
      go_ret
      exact ⟨by rw [HV.out]; rfl, ((Keep.refl _ _).alloc _).alloc _⟩
  · have HV : Hid (nodeErr V R i = if badNext R (v, l, h) l ∨ badNext R (v, l, h) h then 9 else 0) := Lib.hid (by rw [HN.out]; simp only [if_neg hnr, if_neg q3])
    unfold badForm at q3
    simp only at q3
    have p1 : 0 ≤ l := by omega
    have p2 : l ≤ (i : Int) + 1 := by omega
    have p3 : 0 ≤ h := by omega
    have p4 : h ≤ (i : Int) + 1 := by omega
    have p5 : (l == h) = false := by simp; omega
    clear HN hnr hr q3
    go_enter Tryd.func75, Tryd.ntmps75
    go_wp2
    have t1 := ((Bk.new w 26 #[.int .i64 V, .slice (some ⟨bl, off, none⟩) R.length c, .int .i64 root]).alloc (.cells #[.int .i64 v, .int .i64 l, .int .i64 h] 74)).alloc (.cells #[.int .i64 l, .int .i64 h] 3)
    have t2 := (Bk.new (w.alloc (.cells #[.int .i64 V, .slice (some ⟨bl, off, none⟩) R.length c, .int .i64 root] 26)) 74 #[.int .i64 v, .int .i64 l, .int .i64 h]).alloc (.cells #[.int .i64 l, .int .i64 h] 3)
    have t3 := Bk.new ((w.alloc (.cells #[.int .i64 V, .slice (some ⟨bl, off, none⟩) R.length c, .int .i64 root] 26)).alloc (.cells #[.int .i64 v, .int .i64 l, .int .i64 h] 74)) 3 #[.int .i64 l, .int .i64 h]
    have hk2 : Keep NoF w (((w.alloc (.cells #[.int .i64 V, .slice (some ⟨bl, off, none⟩) R.length c, .int .i64 root] 26)).alloc (.cells #[.int .i64 v, .int .i64 l, .int .i64 h] 74)).alloc (.cells #[.int .i64 l, .int .i64 h] 3)) := (((Keep.refl _ _).alloc _).alloc _).alloc _
    have e1 : (w.alloc (.cells #[.int .i64 V, .slice (some ⟨bl, off, none⟩) R.length c, .int .i64 root] 26)).heap.size = w.heap.size + 1 := by simp
    have e2 : ((w.alloc (.cells #[.int .i64 V, .slice (some ⟨bl, off, none⟩) R.length c, .int .i64 root] 26)).alloc (.cells #[.int .i64 v, .int .i64 l, .int .i64 h] 74)).heap.size = w.heap.size + 1 + 1 := by simp
    rw [e1] at t2
    rw [e2] at t3
    clear e1 e2
    generalize ((w.alloc (.cells #[.int .i64 V, .slice (some ⟨bl, off, none⟩) R.length c, .int .i64 root] 26)).alloc (.cells #[.int .i64 v, .int .i64 l, .int .i64 h] 74)).alloc (.cells #[.int .i64 l, .int .i64 h] 3) = W2 at *
    clear x1 x2 x3
    go_loopw [60] (fun i wr => ∃ k : Nat, i = .int .i64 k ∧ k ≤ 2 ∧ (1 ≤ k → ¬ badNext R (v, l, h) l) ∧ (2 ≤ k → ¬ badNext R (v, l, h) h) ∧ Keep NoF W2 wr) (fun i _ => 2 - (intOf i).toNat)
    case atStart => exact ⟨0, rfl, by omega, fun h => by omega, fun h => by omega, Keep.refl _ _⟩
    case round =>
      obtain ⟨k, rfl, hk, g1, g2, hkr⟩ := hrel
      by_cases hk2' : k < 2
      · obtain ⟨cur, hc1, hc2, hc3⟩ : ∃ cur : Int, #[Value.int .i64 l, .int .i64 h][k]? = some (.int .i64 cur) ∧ (0 ≤ cur ∧ cur ≤ (i : Int) + 1) ∧ ((k = 0 ∧ cur = l) ∨ (k = 1 ∧ cur = h)) := by
          have : k = 0 ∨ k = 1 := by omega
          rcases this with rfl | rfl
          · exact ⟨l, rfl, ⟨p1, p2⟩, .inl ⟨rfl, rfl⟩⟩
          · exact ⟨h, rfl, ⟨p3, p4⟩, .inr ⟨rfl, rfl⟩⟩
        have c1 : wr.cell? ⟨w.heap.size + 1 + 1, k, none⟩ = some (.int .i64 cur) := by rw [(t3.keep hkr (fun h => h)).cell]; exact hc1
        have c2 : wr.cell? ⟨w.heap.size, 1, none⟩ = some (.slice (some ⟨bl, off, none⟩) R.length c) := (t1.keep hkr (fun h => h)).cell 1
        have c3 : wr.cell? ⟨w.heap.size + 1, 0, none⟩ = some (.int .i64 v) := (t2.keep hkr (fun h => h)).cell 0
        have hkW : Keep NoF w wr := hk2.trans hkr fun _ _ h => h
        have k1 : (0 : Int) ≤ (k : Int) := by omega
        have k2 : (k : Int) < 2 := by omega
        obtain ⟨cu0, cu1⟩ := hc2
        have HC3 := Lib.hid hc3
        have HG1 := Lib.hid g1
        have HG2 := Lib.hid g2
        clear hc1 hc3 g1 g2
        by_cases hcu : 1 < cur
        · obtain ⟨j, rfl⟩ : ∃ j : Nat, cur = (j : Int) + 2 := ⟨(cur - 2).toNat, by omega⟩
          obtain ⟨_, _, hA, y1, _, _⟩ := (hrd.kept hkW fun _ _ h => h).node (k := j) (by omega)
          injection hA with hA
          injection hA with hA1 hA2
          subst hA1 hA2
          have j1 : (0 : Int) ≤ (j : Int) := by omega
          have j2 : (j : Int) < (R.length : Int) := by omega
          generalize hvj : (rat R j).1 = vj at *
          have HVJ := Lib.hid hvj
          clear hvj
          by_cases hbad : vj ≤ v
          · go_wp2
            go_quiet (fail)
            go_wp2
            go_ret
            have hb : badNext R (v, l, h) l ∨ badNext R (v, l, h) h := by
              have e : (((j : Int) + 2) - 2).toNat = j := by omega
              rcases HC3.out with ⟨_, hc⟩ | ⟨_, hc⟩
              · refine .inl ?_
                rw [← hc]
                exact ⟨hcu, by rw [e, HVJ.out]; exact hbad⟩
              · refine .inr ?_
                rw [← hc]
                exact ⟨hcu, by rw [e, HVJ.out]; exact hbad⟩
            exact ⟨by rw [HV.out, if_pos hb]; rfl, hkW.drewN _⟩
          · have hnb : ¬ badNext R (v, l, h) ((j : Int) + 2) := fun hb => by
              have e : (((j : Int) + 2) - 2).toNat = j := by omega
              have := hb.2
              rw [e, HVJ.out] at this
              exact hbad this
            have HNB := Lib.hid hnb
            clear hnb
            go_wp2
            go_quiet (fail)
            go_wp2
            go_roundw
            case rel =>
              refine ⟨k + 1, by go_num, by omega, fun _ => ?_, fun _ => ?_, hkr.drewN _⟩
              · rcases HC3.out with ⟨_, hc⟩ | ⟨hk, _⟩
                · rw [← hc]; exact HNB.out
                · exact HG1.out (by omega)
              · rcases HC3.out with ⟨hk, _⟩ | ⟨_, hc⟩
                · omega
                · rw [← hc]; exact HNB.out
            case measure => simp [intOf]; omega
        · have hd : decide (1 < cur) = false := by simpa using hcu
          have hnb : ¬ badNext R (v, l, h) cur := fun hb => hcu hb.1
          have HNB := Lib.hid hnb
          clear hnb
          go_wp2
          go_quiet (fail)
          go_wp2
          go_roundw
          case rel =>
            refine ⟨k + 1, by go_num, by omega, fun _ => ?_, fun _ => ?_, hkr.drewN _⟩
            · rcases HC3.out with ⟨_, hc⟩ | ⟨hk, _⟩
              · rw [← hc]; exact HNB.out
              · exact HG1.out (by omega)
            · rcases HC3.out with ⟨hk, _⟩ | ⟨_, hc⟩
              · omega
              · rw [← hc]; exact HNB.out
          case measure => simp [intOf]; omega
      · have HG1 := Lib.hid g1
        have HG2 := Lib.hid g2
        clear g1 g2
        have hkk : k = 2 := by omega
        have HKK := Lib.hid hkk
        clear hkk
        go_wp2
        go_ret
        have hkk := HKK.out
        exact ⟨by rw [HV.out, if_neg (fun h => h.elim (HG1.out (by omega)) (HG2.out (by omega)))]; rfl, hk2.trans hkr fun _ _ h => h⟩
end Go.Proofs.YtgdmcidcappkpaaDoor
