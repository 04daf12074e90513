/- What the reference's renumber does. No condition. -/
import Derived.Test.YtgdmcidcappkpaaGreatExp
set_option linter.unusedVariables false
set_option linter.unusedSimpArgs false
namespace Go.Proofs.YtgdmcidcappkpaaGreat
open Go.RowKit
open Dd (var lo visit St Walk pot)

/-- The new numbers that a list of places says; 0: none yet. -/
def PV (P : List Nat) (x : Nat) : Option Nat := if x = 0 then some 0 else if x = 1 then some 1 else if P.getD (x - 2) 0 = 0 then none else some (P.getD (x - 2) 0)

theorem PV_some {P : List Nat} {j k : Nat} (h : PV P (j + 2) = some k) : P.getD j 0 = k ∧ k ≠ 0 := by
  unfold PV at h
  rw [if_neg (by omega), if_neg (by omega), Nat.add_sub_cancel] at h
  generalize P.getD j 0 = q at *
  by_cases h0 : q = 0
  · rw [if_pos h0] at h; cases h
  · rw [if_neg h0] at h
    have e : q = k := Option.some.inj h
    exact ⟨e, e ▸ h0⟩
theorem PV_none {P : List Nat} {j : Nat} (h : PV P (j + 2) = none) : P.getD j 0 = 0 := by
  unfold PV at h
  rw [if_neg (by omega), if_neg (by omega), Nat.add_sub_cancel] at h
  generalize P.getD j 0 = q at *
  by_cases h0 : q = 0
  · exact h0
  · rw [if_neg h0] at h; cases h
theorem PV_set {P : List Nat} {j k x : Nat} (hj : j < P.length) (hk : k ≠ 0) : PV (P.set j k) x = if x = j + 2 then some k else PV P x := by
  unfold PV
  by_cases h0 : x = 0
  · subst h0; simp
  by_cases h1 : x = 1
  · subst h1; simp
  rw [if_neg h0, if_neg h1, if_neg h0, if_neg h1]
  by_cases hx : x = j + 2
  · subst hx
    have e : (P.set j k).getD (j + 2 - 2) 0 = k := by simp [List.getD_eq_getElem?_getD, hj]
    rw [e, if_neg hk, if_pos rfl]
  · have e : (P.set j k).getD (x - 2) 0 = P.getD (x - 2) 0 := by
      rw [List.getD_eq_getElem?_getD, List.getD_eq_getElem?_getD, List.getElem?_set_ne (by omega)]
    rw [e, if_neg hx]

/-- The state of a walk that renumbers: K are its own blocks. -/
def Rst (w : World) (ob pb : Nat) (V : Int) (n : Nat) (s : St) (K : Nat → Prop) : Prop :=
  ∃ dv P, Bk w ob 24 #[.int .i64 V, dv, .int .i64 0] ∧ w.ownsRow 0 47 3 dv s.1.length (ndsC s.1) ∧ Bk w pb 3 (P.map inV).toArray ∧ P.length = n ∧ (∀ x, x < n + 2 → s.2 x = PV P x) ∧ ∀ k, K k ↔ (k = ob ∨ k = pb ∨ dv.ownBlock = some k)
theorem Rst.lt {w : World} {ob pb n : Nat} {V : Int} {s : St} {K : Nat → Prop} (h : Rst w ob pb V n s K) : ∀ k, K k → k < w.heap.size := by
  obtain ⟨dv, P, hd, ho, hp, _, _, hK⟩ := h
  intro k hk
  rcases (hK k).1 hk with rfl | rfl | h
  · exact hd.lt
  · exact hp.lt
  · exact (ho.lt k h).2
theorem Rst.block {w w' : World} {ob pb n : Nat} {V : Int} {s : St} {K : Nat → Prop} (h : Rst w ob pb V n s K) (hb : ∀ k, K k → w'.heap[k]? = w.heap[k]?) : Rst w' ob pb V n s K := by
  obtain ⟨dv, P, hd, ho, hp, hl, hs, hK⟩ := h
  exact ⟨dv, P, hd.block (hb _ ((hK _).2 (.inl rfl))), own_keep ho fun k h => hb k ((hK _).2 (.inr (.inr h))), hp.block (hb _ ((hK _).2 (.inr (.inl rfl)))), hl, hs, hK⟩

def RPost (ob pb n : Nat) (V : Int) (K : Nat → Prop) (w : World) (r : Nat) (s : St) (e : Ending) (w' : World) : Prop :=
  ∃ K', e = .returned (.int .i64 (r : Nat)) ∧ Rst w' ob pb V n s K' ∧ Keep K w w' ∧ ∀ k, K' k → K k ∨ w.heap.size ≤ k
def renArgs (db i pb n c ob : Nat) : Array Value := #[.pointer (some ⟨db, 0, none⟩), .int .i64 i, .slice (some ⟨pb, 0, none⟩) n c, .pointer (some ⟨ob, 0, none⟩)]

section
variable {db ob pb c : Nat} {V root : Int} {sl : Value} {K : Nat → Prop} {w : World} {N : List Nd}

set_option maxRecDepth 100000 in
theorem ren_known {s : St} (hs : Rst w ob pb V N.length s K) (hN : N.length ≤ 1099511000000) (i k : Nat) (hi : i < N.length + 2) (hk : s.2 i = some k) :
    Calls Tryz.prog 109 (renArgs db i pb N.length c ob) w (RPost ob pb N.length V K w k s) := by
  have hpost : ∀ e w', e = .returned (.int .i64 (k : Nat)) ∧ w = w' → RPost ob pb N.length V K w k s e w' := by
    rintro e w' ⟨rfl, rfl⟩
    exact ⟨K, rfl, hs, Keep.refl _ _, fun k hk => .inl hk⟩
  refine Calls.mono ?_ hpost
  clear hpost
  obtain ⟨dv, P, hd, ho, hp, hl, hx, hK⟩ := hs
  have hpv := hx i hi
  rw [hk] at hpv
  unfold renArgs
  by_cases h2 : i < 2
  · have e : k = i := by
      have : i = 0 ∨ i = 1 := by omega
      rcases this with rfl | rfl <;> simpa [PV] using hpv
    subst e
    clear hk hpv hx
    go_enter Tryz.func109, Tryz.ntmps109
    go_wp2
    go_ret
    exact ⟨rfl, rfl⟩
  · obtain ⟨j, rfl⟩ : ∃ j, i = j + 2 := ⟨i - 2, by omega⟩
    have hP := PV_some hpv.symm
    have hc : w.cell? ⟨pb, j, none⟩ = some (.int .i64 k) := by
      rw [hp.cell]
      simp only [List.getElem?_toArray, List.getElem?_map]
      have hj : j < P.length := by omega
      rw [← hP.1, List.getD_eq_getElem?_getD, List.getElem?_eq_getElem hj]
      rfl
    have hkn : ((k : Int) != 0) = true := by simpa using hP.2
    have hj : j < N.length := by omega
    clear hP hk hpv hx hp hd ho hK hl
    go_enter Tryz.func109, Tryz.ntmps109
    go_wp2
    go_ret
    exact ⟨rfl, rfl⟩

def RenIH (f : Nat) : Prop := ∀ (db ob pb c : Nat) (V root : Int) (sl : Value) (K : Nat → Prop) (w : World) (N : List Nd) (s : St) (i : Nat), i < f → i < N.length + 2 → Dd.Good N → Walk N s → pot s (N.length + 2) ≤ 1099511000000 → N.length ≤ 1099511000000 →
  Bk w db 24 #[.int .i64 V, sl, .int .i64 root] → Rd w sl 3 N.length (ndsC N) → (0 < N.length → ∀ k, sl.ownBlock = some k → ¬ K k) → Rst w ob pb V N.length s K → ¬ K db →
  Calls Tryz.prog 109 (renArgs db i pb N.length c ob) w (RPost ob pb N.length V K w (visit N f i s).1 (visit N f i s).2)

set_option maxRecDepth 100000 in
set_option maxHeartbeats 2000000 in
theorem ren_rec {f : Nat} (ih : RenIH f) (hg : Dd.Good N) (hN : N.length ≤ 1099511000000) (hdb : Bk w db 24 #[.int .i64 V, sl, .int .i64 root]) (hrd : Rd w sl 3 N.length (ndsC N)) (hslK : 0 < N.length → ∀ k, sl.ownBlock = some k → ¬ K k) {s : St} (hs : Rst w ob pb V N.length s K) (W : Walk N s) (i : Nat) (hif : i < f + 1) (hi : i < N.length + 2)
    (hpot : pot s (N.length + 2) ≤ 1099511000000) (hdK : ¬ K db) (hnone : s.2 i = none) (h2 : 2 ≤ i) :
    Calls Tryz.prog 109 (renArgs db i pb N.length c ob) w (RPost ob pb N.length V K w (visit N (f + 1) i s).1 (visit N (f + 1) i s).2) := by
  have IH := Lib.hid ih
  have HG := Lib.hid hg
  have HW := Lib.hid W
  have a1 := hg.lo_lt i h2 hi
  have a2 := hg.hi_lt i h2 hi
  have hvar := hg.bound i h2 hi
  clear ih hg W
  obtain ⟨j, rfl⟩ : ∃ j, i = j + 2 := ⟨i - 2, by omega⟩
  have hjn : j < N.length := by omega
  have hc0 : w.cell? ⟨pb, j, none⟩ = some (.int .i64 0) := by
    obtain ⟨dv, P, hd, ho, hp, hl, hx, hK⟩ := hs
    have hpv := hx (j + 2) hi
    rw [hnone] at hpv
    rw [hp.cell]
    have hj : j < P.length := by omega
    simp only [List.getElem?_toArray, List.getElem?_map]
    have h0 := PV_none hpv.symm
    rw [List.getD_eq_getElem?_getD, List.getElem?_eq_getElem hj] at h0
    rw [List.getElem?_eq_getElem hj]
    simp only [Option.getD_some] at h0
    simp [inV, h0]
  have HNONE := Lib.hid hnone
  clear hnone
  have hrd2 := hrd
  obtain ⟨_, A, cc, rfl, _, _⟩ := hrd2
  obtain ⟨_, _, bl, off, rfl, hc⟩ := hrd.at_ (by omega)
  have hat := Dd.node_at (N := N) (i := j + 2) (by omega) hi
  obtain ⟨c1, c2, c3⟩ := ndsC_at N (j + 2 - 2) _ hat
  rw [Nat.add_sub_cancel] at c1 c2 c3
  have k1 := hc _ _ c1
  have k2 := hc _ _ c2
  have k3 := hc _ _ c3
  simp only [← Nat.add_assoc] at k2 k3
  have d1 : w.cell? ⟨db, 1, none⟩ = some (.slice (some ⟨bl, off, none⟩) N.length cc) := hdb.cell 1
  clear hc hat c1 c2 c3
  generalize hvv : var N (j + 2) = v at *
  generalize hll : lo N (j + 2) = l at *
  generalize hhh : Dd.hi N (j + 2) = h at *
  have HE := Lib.hid (And.intro hvv (And.intro hll hhh))
  clear hvv hll hhh
  unfold renArgs
  go_enter Tryz.func109, Tryz.ntmps109
  go_upto_region 6 with (fail)
  have hnW := Bk.new w 47 #[.int .i64 v, .int .i64 l, .int .i64 h]
  have hkW : Keep NoF w (w.alloc (.cells #[.int .i64 v, .int .i64 l, .int .i64 h] 47)) := (Keep.refl _ _).alloc _
  have hdW := hdb.keep hkW (fun h => h)
  have hrW := hrd.kept hkW fun _ _ h => h
  have hsW := hs.block (w' := w.alloc (.cells #[.int .i64 v, .int .i64 l, .int .i64 h] 47)) fun k hk => Below.heap_alloc _ _ _ (hs.lt k hk)
  have hnK : ¬ K w.heap.size := fun h => by have := hs.lt _ h; omega
  have hlW : w.heap.size < (w.alloc (.cells #[.int .i64 v, .int .i64 l, .int .i64 h] 47)).heap.size := hnW.lt
  have hblW : bl < w.heap.size := World.block_lt_of_cell? w _ k1
  have hdlW : db < w.heap.size := hdb.lt
  have n1 : (w.alloc (.cells #[.int .i64 v, .int .i64 l, .int .i64 h] 47)).cell? ⟨w.heap.size, 1, none⟩ = some (.int .i64 l) := hnW.cell 1
  clear hc0 k1 k2 k3 d1 hdb hrd hs
  generalize w.alloc (.cells #[.int .i64 v, .int .i64 l, .int .i64 h] 47) = W1 at *
  have HC1 := Lib.hid (IH.out db ob pb c V root (.slice (some ⟨bl, off, none⟩) N.length cc) K W1 N s l (by omega) (by omega) HG.out HW.out hpot hN hdW hrW hslK hsW hdK)
  unfold renArgs at HC1
  go_upto_region 7 with (go_at_call 109
                         (with_reducible refine HC1.out.mono ?_)
                         rintro e w2 ⟨K2, rfl, hs2, hk2, hK2⟩
                         have hn2 := hnW.keep hk2 hnK
                         have n2 : w2.cell? ⟨w.heap.size, 1, none⟩ = some (.int .i64 l) := hn2.cell 1
                         have f2 := hn2.frozen 1)
  obtain ⟨W1k, _, _, hq1⟩ := Dd.visit_walk HG.out f l s (by omega) (by omega) HW.out
  have hpot2 := Dd.visit_pot HG.out f l s (N.length + 2) (by omega) (by omega) (by omega) HW.out
  clear hq1
  generalize hv1 : visit N f l s = vs1 at *
  obtain ⟨r1, s1⟩ := vs1
  have HV1 := Lib.hid hv1
  clear hv1
  simp only at hs2 W1k hpot2
  have hn2K : ¬ K2 w.heap.size := fun h => by
    rcases hK2 _ h with h | h
    · exact hnK h
    · omega
  have hold : ∀ x, x < W1.heap.size → ¬ K x → ¬ K2 x := fun x hx hx2 h => by
    rcases hK2 x h with h | h
    · exact hx2 h
    · omega
  have hdK2 := hold db (by omega) hdK
  have hslK2 : 0 < N.length → ∀ k, (Value.slice (some ⟨bl, off, none⟩) N.length cc).ownBlock = some k → ¬ K2 k := fun h0 k hk => by
    have e : bl = k := by simpa [Value.ownBlock] using hk
    subst e
    exact hold bl (by omega) (hslK h0 bl rfl)
  have hd2 := hdW.keep hk2 hdK
  have hr2 := hrW.kept hk2 fun k hk => by
    have e : bl = k := by simpa [Value.ownBlock] using hk
    subst e
    exact hslK (by omega) bl rfl
  have hkN : Keep (fun k => k = w.heap.size) w2 (w2.setCell ⟨w.heap.size, 1, none⟩ (.int .i64 r1)) := (Keep.refl (fun k => k = w.heap.size) _).setCell (p := ⟨w.heap.size, 1, none⟩) (.inl rfl) _
  have hn3 := hn2.put 1 (.int .i64 (r1 : Nat))
  have hs3 := hs2.block (w' := w2.setCell ⟨w.heap.size, 1, none⟩ (.int .i64 r1)) fun k hk => hkN.block k (hs2.lt k hk) (fun e => hn2K (e ▸ hk))
  have hd3 := hd2.keep hkN (by omega)
  have hr3 := hr2.kept hkN fun k hk => by
    have e : bl = k := by simpa [Value.ownBlock] using hk
    omega
  have hz3 : (w2.setCell ⟨w.heap.size, 1, none⟩ (.int .i64 r1)).heap.size = w2.heap.size := by simp
  have hw12 := hk2.size
  clear n2 f2 hn2 hs2 hd2 hr2 n1 HC1 hnW hdW hrW hsW
  generalize w2.setCell ⟨w.heap.size, 1, none⟩ (.int .i64 r1) = W3 at *
  have HZ3 := Lib.hid hz3
  clear hz3
  have m2 : W3.cell? ⟨w.heap.size, 2, none⟩ = some (.int .i64 h) := hn3.cell 2
  have HC2 := Lib.hid (IH.out db ob pb c V root (.slice (some ⟨bl, off, none⟩) N.length cc) K2 W3 N s1 h (by omega) (by omega) HG.out W1k (by omega) hN hd3 hr3 hslK2 hs3 hdK2)
  unfold renArgs at HC2
  go_upto_region 8 with (go_at_call 109
                         (with_reducible refine HC2.out.mono ?_)
                         rintro e w4 ⟨K4, rfl, hs4, hk4, hK4⟩
                         have hn4 := hn3.keep hk4 hn2K
                         have n4 : w4.cell? ⟨w.heap.size, 2, none⟩ = some (.int .i64 h) := hn4.cell 2
                         have f4 := hn4.frozen 2)
  obtain ⟨W2k, _, _, hq2⟩ := Dd.visit_walk HG.out f h s1 (by omega) (by omega) W1k
  have hpot3 := Dd.visit_pot HG.out f h s1 (N.length + 2) (by omega) (by omega) (by omega) W1k
  clear hq2
  have HV2 : Hid (visit N (f + 1) (j + 2) s = ((((visit N f h s1).2.1 ++ [(v, r1, (visit N f h s1).1)]).length + 1, ((visit N f h s1).2.1 ++ [(v, r1, (visit N f h s1).1)], fun x => if x = j + 2 then some (((visit N f h s1).2.1 ++ [(v, r1, (visit N f h s1).1)]).length + 1) else (visit N f h s1).2.2 x)))) := by
    have h1 := HNONE.out
    obtain ⟨e1, e2, e3⟩ := HE.out
    refine Lib.hid ?_
    simp only [visit, h1, e1, e2, e3, HV1.out]
  generalize visit N f h s1 = vs2 at *
  obtain ⟨r2, D2, T2⟩ := vs2
  simp only at hs4 W2k hpot3 HV2
  have hn4K : ¬ K4 w.heap.size := fun h => by
    rcases hK4 _ h with h | h
    · exact hn2K h
    · have := HZ3.out; omega
  have hDlen : D2.length ≤ 1099511000000 := by unfold pot at hpot2 hpot3 hpot; simp only at hpot2 hpot3; omega
  have hkN4 : Keep (fun k => k = w.heap.size) w4 (w4.setCell ⟨w.heap.size, 2, none⟩ (.int .i64 r2)) := (Keep.refl (fun k => k = w.heap.size) _).setCell (p := ⟨w.heap.size, 2, none⟩) (.inl rfl) _
  have hn5 := hn4.put 2 (.int .i64 (r2 : Nat))
  have hs5 := hs4.block (w' := w4.setCell ⟨w.heap.size, 2, none⟩ (.int .i64 r2)) fun k hk => hkN4.block k (hs4.lt k hk) (fun e => hn4K (e ▸ hk))
  have hz5 : (w4.setCell ⟨w.heap.size, 2, none⟩ (.int .i64 r2)).heap.size = w4.heap.size := by simp
  have hw34 := hk4.size
  clear n4 f4 hn4 hs4 m2 HC2 hn3 hs3 hd3 hr3
  generalize w4.setCell ⟨w.heap.size, 2, none⟩ (.int .i64 r2) = W5 at *
  have HZ5 := Lib.hid hz5
  clear hz5
  obtain ⟨dv, P, od, oo, op, ol, ox, oK⟩ := hs5
  simp only at oo ox
  have hdne : dv.ownBlock ≠ some ob := own_ne_bk oo od (by decide)
  have hdnp : dv.ownBlock ≠ some pb := own_ne_bk oo op (by decide)
  have hdnn : dv.ownBlock ≠ some w.heap.size := fun e => hn4K ((oK _).2 (.inr (.inr e)))
  have hon : w.heap.size ≠ ob := fun e => hn4K ((oK _).2 (.inl e))
  have hpn : w.heap.size ≠ pb := fun e => hn4K ((oK _).2 (.inr (.inl e)))
  have hop : ob ≠ pb := od.ne_type op (by decide)
  have c0 : W5.cell? ⟨ob, 1, none⟩ = some dv := od.cell 1
  have f0 : W5.frozen? ⟨ob, 1, none⟩ = false := od.frozen 1
  have c1 : W5.cell? ⟨w.heap.size, 0, none⟩ = some (.int .i64 v) := hn5.cell 0
  have c2 : W5.cell? ⟨w.heap.size, 1, none⟩ = some (.int .i64 r1) := hn5.cell 1
  have c3 : W5.cell? ⟨w.heap.size, 2, none⟩ = some (.int .i64 r2) := hn5.cell 2
  have hobl : ob < W5.heap.size := od.lt
  have hnl : w.heap.size < W5.heap.size := hn5.lt
  obtain ⟨i0, hi0, hz0, hz1, hz2⟩ := info_parts infoNode
  go_cut [] (fun w' => ∃ gg cap, Bk w' ob 24 #[.int .i64 V, .slice (some ⟨gg, 0, none⟩) (D2.length + 1) cap, .int .i64 0] ∧
    w'.ownsRow 0 47 3 (.slice (some ⟨gg, 0, none⟩) (D2.length + 1) cap) (D2.length + 1) (ndsC D2 ++ ndC (v, r1, r2)) ∧ Bk w' pb 3 (P.map inV).toArray ∧
    Keep (fun k => k = ob ∨ dv.ownBlock = some k) W5 w' ∧ (dv.ownBlock = some gg ∨ W5.heap.size ≤ gg))
  case first =>
    go_region_law
      ((refine step_append_lies _ (by rfl) _ _ _ (by rfl) 0 47 i0 _ 3 24 Tryz.underlying22 hi0 hz0 hz1 hz2 rfl (by omega) dv D2.length (ndsC D2) (by rfl) ((oo.alloc _).drew)
          ⟨W5.heap.size, 0, none⟩ 1 1 [.int .i64 v, .int .i64 (r1 : Nat), .int .i64 (r2 : Nat)] (by rfl) (by rfl) (World.news_of_block (cs := #[.int .i64 v, .int .i64 (r1 : Nat), .int .i64 (r2 : Nat)]) (t := 47) (fr := (0, 0)) (heap_alloc_new W5 _)) (by simp [Value.oneCell'])
          (by omega) (by unfold maxLen; omega) (by omega) (by simp) (W5.heap.size + 1) (by simp) ?_; intro gg cap w1 hown1 hgrow hat hlt
        have hb3 : Bk w1 ob 24 #[.int .i64 V, dv, .int .i64 0] := Bk.grown (Bk.drew (Bk.alloc od _)) hgrow (Ne.symm hdne)
        have c4 : w1.cell? ⟨ob, 1, none⟩ = some dv := by rw [hb3.cell]; rfl
        have f4 : w1.frozen? ⟨ob, 1, none⟩ = false := hb3.frozen 1))
    all_goals
      go_wp2
      go_meet
      case rel =>
        have hp3 : Bk w1 pb 3 (P.map inV).toArray := Bk.grown (Bk.drew (Bk.alloc op _)) hgrow (Ne.symm hdnp)
        refine ⟨gg, cap, hb3.put 1 _, own_keep hown1 (fun k hk => ?_), hp3.far (Ne.symm hop) _, ?_, ?_⟩
        · have he : gg = k := by simpa [Value.ownBlock] using hk
          subst he
          exact Below.heap_setCell _ _ _ _ (fun e => own_ne_bk hown1 hb3 (by decide) (by simpa [Value.ownBlock] using e))
        · exact ((((Keep.refl _ _).alloc _).drew).grown hgrow (fun k hk => .inl (.inr hk))).setCell (.inl (.inl rfl)) _
        · rcases hat with h | h
          · exact .inl h
          · exact .inr (by omega)
  case rest =>
    obtain ⟨gg, cap, hb6, hown6, hp6, hk6, hg6⟩ := hcut
    obtain ⟨wa, rfl⟩ : ∃ wa : World, wa = wc := ⟨_, rfl⟩
    clear c0 f0 c1 c2 c3 od oo op hn5
    have hPj : j < P.length := by omega
    have d1 : wa.cell? ⟨ob, 1, none⟩ = some (.slice (some ⟨gg, 0, none⟩) (D2.length + 1) cap) := hb6.cell 1
    have hold0 : ∃ q, wa.cell? ⟨pb, j, none⟩ = some q := by
      refine ⟨inV P[j], ?_⟩
      rw [hp6.cell]
      simp [List.getElem?_eq_getElem hPj]
    obtain ⟨q, d2⟩ := hold0
    have d3 : wa.frozen? ⟨pb, j, none⟩ = false := hp6.frozen j
    have hgp : gg ≠ pb := fun e => own_ne_bk hown6 hp6 (by decide) (by rw [e]; rfl)
    go_wp2
    go_ret
    have KK : ∀ i, K4 i → K i ∨ w.heap.size ≤ i := fun i h => by
      rcases hK4 i h with h | h
      · rcases hK2 i h with h | h
        · exact .inl h
        · exact .inr (by have := hkW.size; omega)
      · exact .inr (by have := HZ3.out; have := hkW.size; omega)
    have A2 : Keep K w w2 := (hkW.mono (G := K) fun _ _ h => h.elim).trans hk2 fun _ _ h => h
    have A3 := A2.trans hkN fun i hi (h : i = w.heap.size) => by omega
    have A4 := A3.trans hk4 fun i hi h => by
      rcases hK2 i h with h | h
      · exact h
      · omega
    have A5 := A4.trans hkN4 fun i hi (h : i = w.heap.size) => by omega
    have A6 := A5.trans hk6 fun i hi h => by
      have h4 : K4 i := by
        rcases h with rfl | h
        · exact (oK _).2 (.inl rfl)
        · exact (oK _).2 (.inr (.inr h))
      rcases KK i h4 with h | h
      · exact h
      · omega
    have A7 : Keep K w (wa.setCell ⟨pb, j, none⟩ (.int .i64 ((D2.length : Int) + 1 + 1))) := A6.setCell (p := ⟨pb, j, none⟩) (KK pb ((oK _).2 (.inr (.inl rfl)))) _
    rw [HV2.out]
    have hz6 := hk6.size
    refine ⟨fun k => k = ob ∨ k = pb ∨ some gg = some k, congrArg Ending.returned (congrArg (Value.int .i64) (by simp)), ⟨_, P.set j (D2.length + 2), hb6.far hop _, ?_, ?_, by simp [ol], fun x hx => ?_, fun k => Iff.rfl⟩, A7, fun k hk => ?_⟩
    · have : (wa.setCell ⟨pb, j, none⟩ (.int .i64 ((D2.length : Int) + 1 + 1))).ownsRow 0 47 3 (.slice (some ⟨gg, 0, none⟩) (D2.length + 1) cap) (D2.length + 1) (ndsC D2 ++ ndC (v, r1, r2)) := own_keep hown6 fun k hk => Below.heap_setCell _ _ _ _ (fun e => hgp (by
        have he : gg = k := by simpa [Value.ownBlock] using hk
        rw [he]; exact e))
      simpa [ndsC_snoc, ndC] using this
    · have h := hp6.put j (.int .i64 ((D2.length : Int) + 1 + 1))
      have e : (P.map inV).toArray.setIfInBounds j (.int .i64 ((D2.length : Int) + 1 + 1)) = ((P.set j (D2.length + 2)).map inV).toArray := by
        rw [List.setIfInBounds_toArray, List.map_set]
        congr 2
      rwa [e] at h
    · rw [PV_set hPj (by omega), ← ox x hx]
      simp
    · rcases hk with rfl | rfl | hk
      · exact KK _ ((oK _).2 (.inl rfl))
      · exact KK _ ((oK _).2 (.inr (.inl rfl)))
      · have he : gg = k := by simpa using hk
        subst he
        rcases hg6 with h | h
        · exact KK _ ((oK _).2 (.inr (.inr h)))
        · exact .inr (by have := A5.size; omega)

/-- The function renumber, from whatever number. -/
theorem ren_fuel : ∀ f, RenIH f := by
  intro f
  induction f with
  | zero => intro db ob pb c V root sl K w N s i hi; omega
  | succ f ih =>
    intro db ob pb c V root sl K w N s i hif hi hg W hpot hN hdb hrd hslK hs hdK
    cases hk : s.2 i with
    | some k =>
      have e : visit N (f + 1) i s = (k, s) := by simp only [visit, hk]
      rw [e]
      exact ren_known hs hN i k hi hk
    | none =>
      have hi2 : 2 ≤ i := by
        by_cases h : i = 0
        · subst h; rw [W.zero] at hk; cases hk
        · by_cases h' : i = 1
          · subst h'; rw [W.one] at hk; cases hk
          · omega
      exact ren_rec ih hg hN hdb hrd hslK hs W i hif hi hpot hdK hk hi2
end
end Go.Proofs.YtgdmcidcappkpaaGreat
