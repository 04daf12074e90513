/- What the store's method export does. No condition. -/
import Derived.Test.YtengdldkkmknpaaIte
import Derived.Test.YtengdldkkmknpaaLaw
set_option linter.unusedVariables false
set_option linter.unusedSimpArgs false
namespace Go.Proofs.Ytengdldkkmknpaa
open Go.RowKit
open Dd (var lo visit St Walk pot)

theorem keyInt : Maps.Keyed Try.prog 3 := Maps.int_keyed Try.underlying3
theorem key_int (n : Nat) (h : tiny n) : ∃ l, keyOf Try.prog 3 (inV n) = some l := by
  refine ⟨.int .i64 n, ?_⟩
  unfold keyOf
  rw [Try.underlying3]
  simp [mapKey, Try.underlying3, inV, wf_tiny h]
theorem inV_inj (x y : Nat) (h : inV x = inV y) : x = y := by
  simp only [inV, Value.int.injEq, Int.natCast_inj, true_and] at h
  exact h
theorem encInt : KeyEnc Try.prog 3 inV tiny := ⟨keyInt, inV_inj, key_int⟩
abbrev MapInt (w : World) (b : Nat) (g : Nat → Option Nat) : Prop := MapT Try.prog 3 inV inV tiny w b g

/-- The variables of a walk that exports: the map's cell, the store's, the function's, the diagram's. -/
structure Vars (w : World) (b tb sb vb db mt : Nat) : Prop where
  tv : Bk w tb 88 #[.map (some mt)]
  sv : Bk w sb 67 #[.pointer (some ⟨b, 0, none⟩)]
  vv : Bk w vb 64 #[.func (.func 82) #[] #[.pointer (some ⟨tb, 0, none⟩), .pointer (some ⟨sb, 0, none⟩), .pointer (some ⟨vb, 0, none⟩), .pointer (some ⟨db, 0, none⟩)]]

/-- The state of a walk that exports: K are its own blocks. -/
def Vst (w : World) (db mt : Nat) (V : Int) (s : St) (K : Nat → Prop) : Prop :=
  ∃ dv, Bk w db 24 #[.int .i64 V, dv, .int .i64 0] ∧ w.ownsRow 0 63 3 dv s.1.length (ndsC s.1) ∧ MapInt w mt s.2 ∧ ∀ k, K k ↔ (k = db ∨ k = mt ∨ dv.ownBlock = some k)

theorem Vars.keep {w w' : World} {b tb sb vb db mt : Nat} {K : Nat → Prop} (h : Vars w b tb sb vb db mt) (hk : Keep K w w') (h1 : ¬ K tb) (h2 : ¬ K sb) (h3 : ¬ K vb) : Vars w' b tb sb vb db mt :=
  ⟨h.tv.keep hk h1, h.sv.keep hk h2, h.vv.keep hk h3⟩

/-- A call of the function is made where i's number is known. -/
def VisPost (b tb sb vb db mt : Nat) (V : Int) (K : Nat → Prop) (w : World) (r : Nat) (s : St) (e : Ending) (w' : World) : Prop :=
  ∃ K', e = .returned (.int .i64 (r : Nat)) ∧ Vst w' db mt V s K' ∧ Keep K w w' ∧ ∀ k, K' k → K k ∨ w.heap.size ≤ k

def visArgs (i tb sb vb db : Nat) : Array Value := #[.int .i64 i, .pointer (some ⟨tb, 0, none⟩), .pointer (some ⟨sb, 0, none⟩), .pointer (some ⟨vb, 0, none⟩), .pointer (some ⟨db, 0, none⟩)]

theorem Vst.lt {w : World} {db mt : Nat} {V : Int} {s : St} {K : Nat → Prop} (h : Vst w db mt V s K) : ∀ k, K k → k < w.heap.size := by
  obtain ⟨dv, hd, ho, hm, hK⟩ := h
  intro k hk
  rcases (hK k).1 hk with rfl | rfl | h
  · exact hd.lt
  · exact hm.lt
  · exact (ho.lt k h).2
theorem Vst.block {w w' : World} {db mt : Nat} {V : Int} {s : St} {K : Nat → Prop} (h : Vst w db mt V s K) (hb : ∀ k, K k → w'.heap[k]? = w.heap[k]?) : Vst w' db mt V s K := by
  obtain ⟨dv, hd, ho, hm, hK⟩ := h
  exact ⟨dv, hd.block (hb _ ((hK _).2 (.inl rfl))), own_keep ho fun k h => hb k ((hK _).2 (.inr (.inr h))), hm.block (hb _ ((hK _).2 (.inr (.inl rfl)))), hK⟩

section
variable {b tb sb vb db mt : Nat} {V : Int} {K F : Nat → Prop} {w : World} {N : List Nd} {G : Nd → Option Nat}

set_option maxRecDepth 100000 in
theorem vis_known (hv : Vars w b tb sb vb db mt) {s : St} (hs : Vst w db mt V s K) (i k : Nat) (hi : tiny i) (hk : s.2 i = some k) :
    Calls Try.prog 82 (visArgs i tb sb vb db) w (VisPost b tb sb vb db mt V K w k s) := by
  have hpost : ∀ e w', e = .returned (.int .i64 (k : Nat)) ∧ w = w' → VisPost b tb sb vb db mt V K w k s e w' := by
    rintro e w' ⟨rfl, rfl⟩
    exact ⟨K, rfl, hs, Keep.refl _ _, fun k hk => .inl hk⟩
  refine Calls.mono ?_ hpost
  clear hpost
  obtain ⟨dv, hd, ho, hm, hK⟩ := hs
  have hl : (Instr.lookup 88 (.map (some mt)) (.int .i64 i) true).run Try.prog w = .ok (.tuple #[.int .i64 k, .bool true]) w := by
    have := hm.look encInt Try.underlying88 (zeroInt _) (x := i) hi true
    simpa [hk, inV] using this
  have c1 : w.cell? ⟨tb, 0, none⟩ = some (.map (some mt)) := by rw [hv.tv.cell]; rfl
  clear hm hv hk
  unfold visArgs
  go_enter Try.func82, Try.ntmps82
  go_wp2
  go_ret
  exact ⟨rfl, rfl⟩

def VisIH (f : Nat) : Prop := ∀ (b tb sb vb db mt : Nat) (V : Int) (K F : Nat → Prop) (w : World) (N : List Nd) (G : Nd → Option Nat) (s : St) (i : Nat), i < f → i < N.length + 2 → Dd.Good N → Walk N s → pot s (N.length + 2) ≤ 1099511000000 → N.length ≤ 1099511000000 →
  Sto w b N G F → Vars w b tb sb vb db mt → Vst w db mt V s K → (∀ k, F k → ¬ K k) → ¬ K tb → ¬ K sb → ¬ K vb →
  Calls Try.prog 82 (visArgs i tb sb vb db) w (VisPost b tb sb vb db mt V K w (visit N f i s).1 (visit N f i s).2)

set_option maxRecDepth 100000 in
set_option maxHeartbeats 1000000 in
theorem vis_rec {f : Nat} (ih : VisIH f) (hsto : Sto w b N G F) (hg : Dd.Good N) (hN : N.length ≤ 1099511000000) (hv : Vars w b tb sb vb db mt) {s : St} (hs : Vst w db mt V s K) (W : Walk N s) (i : Nat) (hif : i < f + 1) (hi : i < N.length + 2)
    (hpot : pot s (N.length + 2) ≤ 1099511000000) (hFK : ∀ k, F k → ¬ K k) (ht1 : ¬ K tb) (ht2 : ¬ K sb) (ht3 : ¬ K vb) (hnone : s.2 i = none) (h2 : 2 ≤ i) :
    Calls Try.prog 82 (visArgs i tb sb vb db) w (VisPost b tb sb vb db mt V K w (visit N (f + 1) i s).1 (visit N (f + 1) i s).2) := by
  have IH := Lib.hid ih
  have HG := Lib.hid hg
  have HW := Lib.hid W
  have a1 := hg.lo_lt i h2 hi
  have a2 := hg.hi_lt i h2 hi
  have hvar := hg.bound i h2 hi
  clear ih hg W
  obtain ⟨j, rfl⟩ : ∃ j, i = j + 2 := ⟨i - 2, by omega⟩
  have hl : (Instr.lookup 88 (.map (some mt)) (.int .i64 ((j : Int) + 2)) true).run Try.prog w = .ok (.tuple #[.int .i64 0, .bool false]) w := by
    obtain ⟨dv, hd, ho, hm, hK⟩ := hs
    have := hm.look encInt Try.underlying88 (zeroInt _) (x := j + 2) (by unfold tiny; omega) true
    simpa [hnone, inV] using this
  have c1 : w.cell? ⟨tb, 0, none⟩ = some (.map (some mt)) := by rw [hv.tv.cell]; rfl
  have c2 : w.cell? ⟨sb, 0, none⟩ = some (.pointer (some ⟨b, 0, none⟩)) := by rw [hv.sv.cell]; rfl
  have c3 : w.cell? ⟨vb, 0, none⟩ = some (.func (.func 82) #[] #[.pointer (some ⟨tb, 0, none⟩), .pointer (some ⟨sb, 0, none⟩), .pointer (some ⟨vb, 0, none⟩), .pointer (some ⟨db, 0, none⟩)]) := hv.vv.cell 0
  have nn : vb < w.heap.size := hv.vv.lt
  obtain ⟨g, c, k0, hc, k1, k2, k3⟩ := hsto.node h2 hi
  have HNONE := Lib.hid hnone
  clear hnone
  simp only [Nat.add_sub_cancel] at k1 k2 k3
  have hjn : j < N.length := by omega
  generalize hvv : var N (j + 2) = v at *
  generalize hll : lo N (j + 2) = l at *
  generalize hhh : Dd.hi N (j + 2) = h at *
  have HE := Lib.hid (And.intro hvv (And.intro hll hhh))
  clear hvv hll hhh
  unfold visArgs
  go_enter Try.func82, Try.ntmps82
  go_wp2_with fail
  have hnW := Bk.new w 63 #[.int .i64 v, .int .i64 l, .int .i64 h]
  have hkW : Keep NoF w (w.alloc (.cells #[.int .i64 v, .int .i64 l, .int .i64 h] 63)) := (Keep.refl _ _).alloc _
  have hstoW := hsto.kept hkW fun _ _ h => h
  have hvW := hv.keep hkW (fun h => h) (fun h => h) (fun h => h)
  have hsW := hs.block (w' := w.alloc (.cells #[.int .i64 v, .int .i64 l, .int .i64 h] 63)) fun k hk => Below.heap_alloc _ _ _ (hs.lt k hk)
  have hnF : ¬ F w.heap.size := fun h => by have := hsto.lt _ h; omega
  have hnK : ¬ K w.heap.size := fun h => by have := hs.lt _ h; omega
  have hlW : w.heap.size < (w.alloc (.cells #[.int .i64 v, .int .i64 l, .int .i64 h] 63)).heap.size := hnW.lt
  clear c1 c2 c3 k0 k1 k2 k3 hsto hv hs hl
  generalize w.alloc (.cells #[.int .i64 v, .int .i64 l, .int .i64 h] 63) = W1 at *
  refine (IH.out b tb sb vb db mt V K F W1 N G s l (by omega) (by omega) HG.out HW.out hpot hN hstoW hvW hsW hFK ht1 ht2 ht3).mono ?_
  rintro e w2 ⟨K2, rfl, hs2, hk2, hK2⟩
  obtain ⟨W1k, _, _, hq1⟩ := Dd.visit_walk HG.out f l s (by omega) (by omega) HW.out
  have hpot2 := Dd.visit_pot HG.out f l s (N.length + 2) (by omega) (by omega) (by omega) HW.out
  have Hq1 := Lib.hid hq1
  clear hq1
  generalize hv1 : visit N f l s = vs1 at *
  obtain ⟨r1, s1⟩ := vs1
  have HV1 := Lib.hid hv1
  clear hv1
  simp only at hs2 W1k hpot2
  have hsto2 := hstoW.kept hk2 hFK
  have hv2 := hvW.keep hk2 ht1 ht2 ht3
  have hn2 := hnW.keep hk2 hnK
  have hF2 : ∀ k, F k → ¬ K2 k := fun k hk h => by
    rcases hK2 k h with h | h
    · exact hFK k hk h
    · have := hstoW.lt k hk; omega
  have hn2K : ¬ K2 w.heap.size := fun h => by
    rcases hK2 _ h with h | h
    · exact hnK h
    · omega
  have hold : ∀ x, x < W1.heap.size → ¬ K x → ¬ K2 x := fun x hx hx2 h => by
    rcases hK2 x h with h | h
    · exact hx2 h
    · omega
  have ht1' := hold tb hvW.tv.lt ht1
  have ht2' := hold sb hvW.sv.lt ht2
  have ht3' := hold vb hvW.vv.lt ht3
  have q1 : w2.cell? ⟨w.heap.size, 2, none⟩ = some (.int .i64 h) := hn2.cell 2
  have q2 : w2.cell? ⟨vb, 0, none⟩ = some (.func (.func 82) #[] #[.pointer (some ⟨tb, 0, none⟩), .pointer (some ⟨sb, 0, none⟩), .pointer (some ⟨vb, 0, none⟩), .pointer (some ⟨db, 0, none⟩)]) := hv2.vv.cell 0
  go_wp2_with fail
  refine (IH.out b tb sb vb db mt V K2 F w2 N G s1 h (by omega) (by omega) HG.out W1k (by omega) hN hsto2 hv2 hs2 hF2 ht1' ht2' ht3').mono ?_
  rintro e w3 ⟨K3, rfl, hs3, hk3, hK3⟩
  obtain ⟨W2k, _, _, hq2⟩ := Dd.visit_walk HG.out f h s1 (by omega) (by omega) W1k
  have hpot3 := Dd.visit_pot HG.out f h s1 (N.length + 2) (by omega) (by omega) (by omega) W1k
  have Hq2 := Lib.hid hq2
  clear hq2
  have HV2 : Hid (visit N (f + 1) (j + 2) s = ((((visit N f h s1).2.1 ++ [(v, r1, (visit N f h s1).1)]).length + 1, ((visit N f h s1).2.1 ++ [(v, r1, (visit N f h s1).1)], fun x => if x = j + 2 then some (((visit N f h s1).2.1 ++ [(v, r1, (visit N f h s1).1)]).length + 1) else (visit N f h s1).2.2 x)))) := by
    have h1 := HNONE.out
    obtain ⟨e1, e2, e3⟩ := HE.out
    refine Lib.hid ?_
    simp only [visit, h1, e1, e2, e3, HV1.out]
  generalize visit N f h s1 = vs2 at *
  obtain ⟨r2, D2, T2⟩ := vs2
  simp only at hs3 W2k hpot3 HV2
  have hn3 := hn2.keep hk3 hn2K
  have hv3 := hv2.keep hk3 ht1' ht2' ht3'
  have hn3K : ¬ K3 w.heap.size := fun h => by
    rcases hK3 _ h with h | h
    · exact hn2K h
    · have := hk2.size; omega
  have hold3 : ∀ x, x < W1.heap.size → ¬ K x → ¬ K3 x := fun x hx hx2 h => by
    rcases hK3 x h with h | h
    · exact hold x hx hx2 h
    · have := hk2.size; omega
  have p0 : w3.cell? ⟨w.heap.size, 0, none⟩ = some (.int .i64 v) := hn3.cell 0
  have hDlen : D2.length ≤ 1099511000000 := by unfold pot at hpot2 hpot3 hpot; simp only at hpot2 hpot3; omega
  obtain ⟨dv, hd3, ho3, hm3, hK3'⟩ := hs3
  simp only at ho3 hm3
  have p1 : w3.cell? ⟨db, 1, none⟩ = some dv := hd3.cell 1
  have hdne : dv.ownBlock ≠ some db := own_ne_bk ho3 hd3 (by decide)
  have ldb := hd3.lt
  go_upto_region 8 with (first
    | (at_builtin
       refine wpList_app (by rfl) eNodes (.tmp 37) (.tmp 43) (by rfl) (by rfl) (ho3.alloc _) ⟨w3.heap.size, 0, none⟩ 1 1 [.int .i64 v, .int .i64 (r1 : Nat), .int .i64 (r2 : Nat)] (by rfl) (by rfl)
         (World.news_of_block (cs := #[.int .i64 v, .int .i64 (r1 : Nat), .int .i64 (r2 : Nat)]) (t := 63) (fr := (0, 0)) (heap_alloc_new w3 _)) (by simp [Value.oneCell']) (by omega) (by omega) (by omega) (by omega) ?_
       intro g2 cap2 w4 hown4 hA
       have hd4 : Bk w4 db 24 #[.int .i64 V, dv, .int .i64 0] := (hd3.alloc _).grown hA.grown (Ne.symm hdne)
       have p3 : w4.cell? ⟨db, 1, none⟩ = some dv := hd4.cell 1
       have p4 : w4.frozen? ⟨db, 1, none⟩ = false := hd4.frozen 1))
  have hg2db : g2 ≠ db := fun e => own_ne_bk hown4 hd4 (by decide) (by rw [e]; rfl)
  have hdK : K3 db := (hK3' _).2 (.inl rfl)
  have hd3' := hd3
  have hmlt := hm3.lt
  have hdvlt : ∀ k, dv.ownBlock = some k → k < w3.heap.size := fun k hk => (ho3.lt k hk).2
  have hat2 := hA.at_
  have hmtdv : dv.ownBlock ≠ some mt := own_ne_map ho3 hm3
  have hmtdb : mt ≠ db := hm3.ne_bk hd3
  have k5 : Keep K3 w3 (w4.setCell ⟨db, 1, none⟩ (.slice (some ⟨g2, 0, none⟩) (D2.length + 1) cap2)) :=
    (((Keep.refl K3 w3).alloc _).grown hA.grown fun k hk => .inl ((hK3' k).2 (.inr (.inr hk)))).setCell (.inl hdK) _
  have hv5 := hv3.keep k5 (hold3 tb hvW.tv.lt ht1) (hold3 sb hvW.sv.lt ht2) (hold3 vb hvW.vv.lt ht3)
  have hd5 : Bk (w4.setCell ⟨db, 1, none⟩ (.slice (some ⟨g2, 0, none⟩) (D2.length + 1) cap2)) db 24 #[.int .i64 V, .slice (some ⟨g2, 0, none⟩) (D2.length + 1) cap2, .int .i64 0] := hd4.put 1 _
  have hown5 : (w4.setCell ⟨db, 1, none⟩ (.slice (some ⟨g2, 0, none⟩) (D2.length + 1) cap2)).ownsRow 0 63 3 (.slice (some ⟨g2, 0, none⟩) (D2.length + 1) cap2) (D2.length + 1) (ndsC D2 ++ [.int .i64 v, .int .i64 (r1 : Nat), .int .i64 (r2 : Nat)]) :=
    own_keep hown4 fun k hk => Below.heap_setCell _ _ _ _ (fun e => hg2db (by injection hk with hk; exact (show g2 = k from hk).trans e))
  have hm5 : MapInt (w4.setCell ⟨db, 1, none⟩ (.slice (some ⟨g2, 0, none⟩) (D2.length + 1) cap2)) mt T2 :=
    ((hm3.block (w' := w3.alloc _) (Below.heap_alloc _ _ _ hm3.lt)).block (hA.grown.block mt (by have := hm3.lt; simp; omega) (Ne.symm hmtdv))).block (Below.heap_setCell _ _ _ _ hmtdb)
  clear hd3 ho3 hm3 hown4 hd4 p3 p4 hn3 hn2 hv3 hv2 hsto2 hs2
  generalize w4.setCell ⟨db, 1, none⟩ (.slice (some ⟨g2, 0, none⟩) (D2.length + 1) cap2) = w5 at *
  have p1 : w5.cell? ⟨db, 1, none⟩ = some (.slice (some ⟨g2, 0, none⟩) (D2.length + 1) cap2) := hd5.cell 1
  have p2 : w5.cell? ⟨tb, 0, none⟩ = some (.map (some mt)) := hv5.tv.cell 0
  have htny : tiny (j + 2) := by unfold tiny; omega
  go_wp2_with (first
    | (at_mapUpdate
       refine wpList_mapT (by rfl) hm5 encInt Try.underlying88 (x := j + 2) htny (D2.length + 2) (.tmp 46) (.tmp 47) (.tmp 51) (by rfl) (by rfl) (by rfl) (by rfl) ?_
       intro w6 hm6 hg6 hsz6
       have hv6 : w6.cell? ⟨tb, 0, none⟩ = some (.map (some mt)) := hg6.cell (a := ⟨tb, 0, none⟩) p2 (by simpa using (hm5.ne_bk hv5.tv).symm)
       have hl6 : (Instr.lookup 88 (.map (some mt)) (.int .i64 ((j : Int) + 2)) false).run Try.prog w6 = .ok (.int .i64 ((D2.length : Int) + 2)) w6 := by
         have := hm6.look encInt Try.underlying88 (zeroInt _) (x := j + 2) htny false
         simpa [inV] using this))
  go_ret
  have hfin := HV2.out
  rw [hfin]
  have hstep : Keep K3 w3 w6 ∧ ∀ k, (k = db ∨ k = mt ∨ some g2 = some k) → K3 k ∨ w3.heap.size ≤ k := by
    refine ⟨k5.grown hg6 fun k hk => .inl ((hK3' k).2 (.inr (.inl (by simpa using hk.symm)))), fun k hk => ?_⟩
    rcases hk with rfl | rfl | hk
    · exact .inl hdK
    · exact .inl ((hK3' _).2 (.inr (.inl rfl)))
    · rcases hat2 with h | h
      · exact .inl ((hK3' k).2 (.inr (.inr (h.trans hk))))
      · refine .inr ?_
        have : g2 = k := by simpa using hk
        simp at h
        omega
  have hall := grow_trans (F1 := K) (F := K) (w := w) (w1 := W1) ⟨hkW.mono fun _ _ h => h.elim, fun k h => .inl h⟩ (grow_trans ⟨hk2, hK2⟩ (grow_trans ⟨hk3, hK3⟩ hstep))
  refine ⟨fun k => k = db ∨ k = mt ∨ some g2 = some k, congrArg Ending.returned (congrArg (Value.int .i64) (by simp; omega)), ⟨_, hd5.grown hg6 ?_, ?_, hm6.congr fun x => ?_, fun k => Iff.rfl⟩, ?_, ?_⟩
  · simpa using hmtdb.symm
  · have : w6.ownsRow 0 63 3 (.slice (some ⟨g2, 0, none⟩) (D2.length + 1) cap2) (D2.length + 1) (ndsC D2 ++ [.int .i64 v, .int .i64 (r1 : Nat), .int .i64 (r2 : Nat)]) :=
      own_keep hown5 fun k hk => hg6.block k (hown5.lt k hk).2 (fun e => own_ne_map hown5 hm5 (by rw [hk, e]))
    simpa [ndsC_snoc, ndC] using this
  · by_cases hx : x = j + 2
    · simp [hx]
    · simp [hx]
  · exact hall.1
  · exact hall.2

/-- The function visit, from whatever number. -/
theorem vis_fuel : ∀ f, VisIH f := by
  intro f
  induction f with
  | zero => intro b tb sb vb db mt V K F w N G s i hi; omega
  | succ f ih =>
    intro b tb sb vb db mt V K F w N G s i hif hi hg W hpot hN hsto hv hs hFK h1 h2 h3
    cases hk : s.2 i with
    | some k =>
      have e : visit N (f + 1) i s = (k, s) := by simp only [visit, hk]
      rw [e]
      exact vis_known hv hs i k (by unfold tiny; omega) hk
    | none =>
      have hi2 : 2 ≤ i := by
        by_cases h : i = 0
        · subst h; rw [W.zero] at hk; cases hk
        · by_cases h' : i = 1
          · subst h'; rw [W.one] at hk; cases hk
          · omega
      exact vis_rec ih hsto hg hN hv hs W i hif hi hpot hFK h1 h2 h3 hk hi2
end
end Go.Proofs.Ytengdldkkmknpaa
