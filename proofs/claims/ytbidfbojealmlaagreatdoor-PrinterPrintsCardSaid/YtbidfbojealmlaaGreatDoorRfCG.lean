/- The reference's put. Conditions: the walk's state lies as it is built. The memory of the reference's walk over a formula, plain. The reference's finish: a place that is done. Conditions: the walk's state lies as it is built. The reference's finish: places with operands, and all places. Conditions: the walk's state lies as it is built. The reference's Sub and Compact, for right formulas. Conditions: the formula is right. No condition. -/
import Derived.Test.YtbidfbojealmlaaGreatDoorRfAB
import Derived.Test.YtbidfbojealmlaaGreatDoorFmJL
import Derived.Test.YtbidfbojealmlaaGreatDoorPaT
import Derived.Deep.RegionWith
import Derived.Deep.Cut
import Derived.Test.YtbidfbojealmlaaGreatDoorFmH
set_option linter.unusedVariables false
set_option linter.unusedSimpArgs false
namespace Go.Proofs.YtbidfbojealmlaaGreatDoor
open Go.RowKit
open Fm (Nd put)

structure QE where
  w0 : World
  b : Nat
abbrev QE.ptr (E : QE) : Value := .pointer (some ⟨E.b, 0, none⟩)
structure QSt (E : QE) (w : World) (o : List Nd) (ov dv : Value) (d : List Int) : Prop where
  kp : Keep NoF E.w0 w
  bk : Bk w E.b 114 #[ov, dv]
  own : w.ownsRow (E.b + 1) 49 6 ov o.length (fmC o)
  dn : w.ownsRow (E.b + 1) 3 1 dv d.length (d.map (Value.int .i64))
section
variable {E : QE} {w w' : World} {o : List Nd} {ov dv : Value} {d : List Int}
theorem QSt.keep (h : QSt E w o ov dv d) (hk : Keep NoF w w') : QSt E w' o ov dv d :=
  ⟨h.kp.trans hk fun _ _ h => h, h.bk.keep hk fun h => h, own_keep h.own fun k hk' => hk.block k (h.own.lt k hk').2 fun h => h, own_keep h.dn fun k hk' => hk.block k (h.dn.lt k hk').2 fun h => h⟩
/-- What a run of the walk does not change, and where its list may be. -/
structure QK (E : QE) (w w' : World) (ov ov' dv : Value) : Prop where
  hp : ∀ k, k < w.heap.size → k ≠ E.b → ov.ownBlock ≠ some k → dv.ownBlock ≠ some k → w'.heap[k]? = w.heap[k]?
  ob : ∀ g, ov'.ownBlock = some g → ov.ownBlock = some g ∨ w.heap.size ≤ g
  sz : w.heap.size ≤ w'.heap.size
theorem QK.of_keep {E : QE} {w w' : World} {ov dv : Value} (h : Keep NoF w w') : QK E w w' ov ov dv := ⟨fun k hk _ _ _ => h.block k hk fun h => h, fun _ h => .inl h, h.size⟩
theorem QK.trans {E : QE} {w w1 w2 : World} {ov o1 o2 dv : Value} (h : QK E w w1 ov o1 dv) (h' : QK E w1 w2 o1 o2 dv) : QK E w w2 ov o2 dv :=
  ⟨fun k hk h1 h2 h3 => (h'.hp k (by have := h.sz; omega) h1 (fun he => by rcases h.ob k he with h4 | h4; exact h2 h4; omega) h3).trans (h.hp k hk h1 h2 h3),
    fun g hg => by
      rcases h'.ob g hg with h1 | h1
      · exact h.ob g h1
      · have := h.sz; exact .inr (by omega), Nat.le_trans h.sz h'.sz⟩
theorem QSt.c0 (h : QSt E w o ov dv d) : w.cell? ⟨E.b, 0, none⟩ = some ov := h.bk.cell 0
theorem QSt.c1 (h : QSt E w o ov dv d) : w.cell? ⟨E.b, 1, none⟩ = some dv := h.bk.cell 1
theorem QSt.fr (h : QSt E w o ov dv d) (i : Nat) : w.frozen? ⟨E.b, i, none⟩ = false := h.bk.frozen i
end
theorem idx_nd {N : List Nd} {x : Nd} {k : Nat} (h : N[k]? = some x) (hn : ∀ j, j < k → N[j]? ≠ some x) : x ∈ N ∧ N.idxOf x = k := by
  have hk : k < N.length := (List.getElem?_eq_some_iff.1 h).1
  have hmem : x ∈ N := List.mem_of_getElem? h
  refine ⟨hmem, ?_⟩
  have hi := List.idxOf_lt_length_of_mem hmem
  have hge : N[N.idxOf x]? = some x := by rw [List.getElem?_eq_getElem hi, List.getElem_idxOf hi]
  by_cases h1 : N.idxOf x < k
  · exact absurd hge (hn _ h1)
  · by_cases h2 : k < N.idxOf x
    · exfalso
      have := List.not_of_lt_findIdx (p := (· == x)) (xs := N) (i := k) h2
      have e : N[k] = x := (List.getElem?_eq_some_iff.1 h).2
      simp [e] at this
    · omega
set_option maxHeartbeats 2000000 in
theorem run_nd_eql (a b : Nd) (w : World) : (binOp .eql 49 (ndV a) (ndV b)).run Tryz.prog w = .ok (.bool (decide (a = b))) w := by
  have hp := nd_stood
  obtain ⟨a1, a2, a3, a4, a5, a6⟩ := a
  obtain ⟨b1, b2, b3, b4, b5, b6⟩ := b
  have hd : decide ((⟨a1, a2, a3, a4, a5, a6⟩ : Nd) = ⟨b1, b2, b3, b4, b5, b6⟩) = (a1 == b1 && (a2 == b2 && (a3 == b3 && (a4 == b4 && (a5 == b5 && a6 == b6))))) := by
    rw [Bool.eq_iff_iff]
    simp
  rw [hd]
  clear hd
  cases e1 : a1 == b1 <;> cases e2 : a2 == b2 <;> cases e3 : a3 == b3 <;> cases e4 : a4 == b4 <;> cases e5 : a5 == b5 <;> cases e6 : a6 == b6 <;> simp [go_sem, hp, e1, e2, e3, e4, e5, e6]
theorem fmC_snocD (o : List Nd) (n : Nd) : fmC o ++ ndC n = fmC (o ++ [n]) := by simp [fmC]
set_option maxRecDepth 100000 in
set_option maxHeartbeats 4000000 in
theorem fqput_any {E : QE} (hE : E.w0.heap.size ≤ E.b) {w : World} {dv dd0 : Value} {o : List Nd} {d : List Int} (h : QSt E w o dv dd0 d) (hlen : o.length ≤ 1000000) (n : Nd) :
    Calls Tryz.prog 112 #[E.ptr, ndV n] w fun e w' => e = .returned (.int .i64 ((put n o).1 : Nat)) ∧ ∃ dv', QSt E w' (put n o).2 dv' dd0 d ∧ QK E w w' dv dv' dd0 := by
  obtain ⟨A, c, rfl⟩ := own_form h.own
  have hbw := h.bk.lt
  have k0 : Keep NoF w (w.alloc (.cells #[.int .i64 n.op, .int .i64 n.i, .int .i64 n.e, .int .i64 n.g, .int .i64 n.x, .int .i64 n.y] 49)) := (Keep.refl _ _).alloc _
  have qn := Bk.new w 49 #[.int .i64 n.op, .int .i64 n.i, .int .i64 n.e, .int .i64 n.g, .int .i64 n.x, .int .i64 n.y]
  have h0 := h.keep k0
  have hz : w.heap.size < (w.alloc (.cells #[.int .i64 n.op, .int .i64 n.i, .int .i64 n.e, .int .i64 n.g, .int .i64 n.x, .int .i64 n.y] 49)).heap.size := by rw [World.size_alloc]; omega
  clear h
  go_enter Tryz.func112, Tryz.ntmps112
  go_wp2
  generalize w.alloc (.cells #[.int .i64 n.op, .int .i64 n.i, .int .i64 n.e, .int .i64 n.g, .int .i64 n.x, .int .i64 n.y] 49) = W0 at *
  have c5 := h0.c0
  have HS := Lib.hid h0
  have HRD := Lib.hid (Rd.of_own h0.own)
  have QN := Lib.hid qn
  clear h0 qn
  go_loopw [5] (fun i wr => ∃ k : Nat, i = .int .i64 k ∧ k ≤ o.length ∧ Hid (∀ j, j < k → o[j]? ≠ some n) ∧ Keep NoF W0 wr) (fun i _ => o.length - (intOf i).toNat)
  case atStart => exact ⟨0, rfl, by omega, Lib.hid fun j hj => by omega, Keep.refl _ _⟩
  case round =>
    obtain ⟨k, rfl, hk, hall, hkr⟩ := hrel
    have hq := QN.out.keep hkr fun h => h
    have n0 : wr.cell? ⟨w.heap.size, 0, none⟩ = some (.int .i64 n.op) := hq.cell 0
    have n1 : wr.cell? ⟨w.heap.size, 1, none⟩ = some (.int .i64 n.i) := hq.cell 1
    have n2 : wr.cell? ⟨w.heap.size, 2, none⟩ = some (.int .i64 n.e) := hq.cell 2
    have n3 : wr.cell? ⟨w.heap.size, 3, none⟩ = some (.int .i64 n.g) := hq.cell 3
    have n4 : wr.cell? ⟨w.heap.size, 4, none⟩ = some (.int .i64 n.x) := hq.cell 4
    have n5 : wr.cell? ⟨w.heap.size, 5, none⟩ = some (.int .i64 n.y) := hq.cell 5
    have d5 : wr.cell? ⟨E.b, 0, none⟩ = some (.slice A o.length c) := hkr.cellv c5 fun h => h
    clear hq
    by_cases hlt : k < o.length
    · obtain ⟨bl, off, rfl, _, hc1, x0, x1, x2, x3, x4, x5⟩ := (HRD.out.kept hkr fun _ _ h => h).nd (ndAt_eq hlt)
      have b1 : (0 : Int) ≤ (k : Int) := by omega
      have b2 : (k : Int) < (o.length : Int) := by omega
      generalize hr : ndAt o k = r at *
      have HR := Lib.hid ((ndAt_eq hlt).trans (congrArg some hr))
      clear hr
      have hsd := nd_guard
      have heql := run_nd_eql r n
      generalize hdd : decide (r = n) = dd at *
      have HDD := Lib.hid hdd
      clear hdd
      obtain ⟨r1, r2, r3, r4, r5, r6⟩ := r
      simp only [ndV] at x0 x1 x2 x3 x4 x5 heql
      go_wp2
      go_quiet (fail)
      cases dd
      · go_wp2
        go_roundw
        case rel =>
          refine ⟨k + 1, by go_num, by omega, Lib.hid fun j hj => ?_, hkr.drewN _⟩
          by_cases hjk : j = k
          · rw [hjk, HR.out]
            intro e
            exact of_decide_eq_false HDD.out (Option.some.inj e)
          · exact hall.out j (by omega)
        case measure => simp [intOf]; omega
      · go_wp2
        refine bodyPost_ret (v := .int .i64 (k : Int)) (by simp [results, Tryz.results112, go_sem]) rfl ?_
        obtain ⟨hm, hix⟩ := idx_nd (HR.out.trans (congrArg some (of_decide_eq_true HDD.out))) hall.out
        have hp : put n o = (k, o) := by unfold put; rw [if_pos hm, hix]
        rw [hp]
        exact ⟨rfl, _, HS.out.keep (hkr.drewN _), QK.of_keep ((k0.trans hkr fun _ _ h => h).drewN _)⟩
    · have hnin : n ∉ o := fun hm => by
        obtain ⟨j, hj, hje⟩ := List.getElem_of_mem hm
        exact hall.out j (by omega) (by rw [List.getElem?_eq_getElem hj, hje])
      have hp : put n o = (o.length, o ++ [n]) := by unfold put; rw [if_neg hnin]
      have HP := Lib.hid hp
      have hsr := HS.out.keep hkr
      have ho := hsr.own
      have hvb : (Value.slice A o.length c).ownBlock ≠ some E.b := fun he => by have := (ho.lt _ he).1; omega
      have f5 := hsr.fr 0
      have hbl : E.b < wr.heap.size := hsr.bk.lt
      have hnl : w.heap.size < wr.heap.size := by have := hkr.size; omega
      have hbk := hsr.bk
      have HSR := Lib.hid hsr
      clear hnin hp hsr
      go_wp2
      go_region_law
        ((refine step_app (by rfl) eNodes (.tmp 29) (.tmp 31) (by rfl) (by rfl) ((ho.alloc _).drew) ⟨wr.heap.size, 0, none⟩ 1 1 (ndC n) (by rfl) (by rfl)
            (World.news_of_block (cs := (ndC n).toArray) (t := 49) (fr := (0, 0)) (heap_alloc_new wr _)) (by simp [ndC, Value.oneCell']) (by omega) (by omega) (by omega) (by simp; omega) ?_; intro g4 cap4 w4 hown4 hA4
          have hb4 : Bk w4 E.b 114 #[.slice A o.length c, dd0] := Bk.grown (Bk.drew (Bk.alloc hbk _)) hA4.grown (Ne.symm hvb)
          have d4 : w4.cell? ⟨E.b, 0, none⟩ = some (.slice A o.length c) := (hb4.cell 0).trans rfl
          have f4 : w4.frozen? ⟨E.b, 0, none⟩ = false := hb4.frozen 0))
      all_goals
        go_wp2
        refine bodyPost_ret (v := .int .i64 (o.length : Int)) (by simp [results, Tryz.results112, go_sem]) rfl ?_
        rw [HP.out]
        refine ⟨rfl, .slice (some ⟨g4, 0, none⟩) (o.length + 1) cap4, ⟨?_, hb4.put 0 _, ?_, ?_⟩, ?_⟩
        · exact (((((HSR.out.kp).alloc _).drew).grown hA4.grown fun y hy => .inr (by have := (ho.lt y hy).1; have := hE; omega))).setCell (.inr hE) _
        · show World.ownsRow _ _ _ _ _ (o ++ [n]).length (fmC (o ++ [n]))
          rw [List.length_append, ← fmC_snocD]
          exact own_keep hown4 fun y hy => Below.heap_setCell _ _ _ _ (by
            have hy2 : g4 = y := by simpa [Value.ownBlock] using hy
            have := (hown4.lt y hy).1
            show y ≠ E.b
            omega)
        · refine own_keep HSR.out.dn fun y hy => ?_
          have h1 := HSR.out.dn.lt y hy
          exact (Below.heap_setCell _ _ _ _ (show y ≠ E.b by omega)).trans ((hA4.grown.block y (by show y < (wr.alloc _).heap.size; rw [World.size_alloc]; omega) (fun he => own_apart HSR.out.own HSR.out.dn (by decide) y he.symm hy)).trans (Below.heap_alloc wr _ y h1.2))
        · have kk : Keep NoF w wr := k0.trans hkr fun _ _ h => h
          refine ⟨fun k2 hk2 hkb hov _ => ?_, fun g hg => ?_, ?_⟩
          · exact (Below.heap_setCell _ _ _ _ hkb).trans ((hA4.grown.block k2 (by show k2 < (wr.alloc _).heap.size; rw [World.size_alloc]; omega) (fun he => hov he.symm)).trans ((Below.heap_alloc wr _ k2 (by omega)).trans (kk.block k2 hk2 fun h => h)))
          · have hg2 : g4 = g := by simpa [Value.ownBlock] using hg
            rcases hA4.at_ with h1 | h1
            · exact .inl (hg2 ▸ h1)
            · refine .inr ?_
              rw [← hg2, h1]
              show w.heap.size ≤ (wr.alloc _).heap.size
              rw [World.size_alloc]
              omega
          · rw [World.size_setCell]
            have h1 := hA4.grown.size
            have h2 : w.heap.size ≤ ((wr.alloc (.cells (ndC n).toArray 49)).drew).heap.size := by
              show w.heap.size ≤ (wr.alloc _).heap.size
              rw [World.size_alloc]
              omega
            exact Nat.le_trans h2 h1

end Go.Proofs.YtbidfbojealmlaaGreatDoor
namespace Go.Proofs.YtbidfbojealmlaaGreatDoor
open Go.RowKit
open Fm (Nd put ins tree checkE usesX usesY Rep)
open Fm.Form

def cnt0 (d : List Int) : Nat := d.countP fun v => decide (0 ≤ v)
/-- What the walk remembers is right: the number of each part that is done. -/
structure DI (f o : List Nd) (d : List Int) : Prop where
  len : d.length = f.length
  rep : ∀ (k : Nat) (v : Int), d[k]? = some v → v = -1 ∨ ∃ m : Nat, v = (m : Int) ∧ Rep (tree f k) o m
  cnt : o.length ≤ cnt0 d
  nd : o.Nodup
theorem cnt0_le (d : List Int) : cnt0 d ≤ d.length := List.countP_le_length
theorem cnt0_set : ∀ {d : List Int} {i : Nat} (m : Nat), d[i]? = some (-1) → cnt0 (d.set i (m : Int)) = cnt0 d + 1
  | [], _, _, h => by simp at h
  | a :: d, 0, m, h => by
    obtain rfl : a = -1 := by simpa using h
    simp [cnt0]
  | a :: d, i + 1, m, h => by
    have ih := cnt0_set (d := d) (i := i) m (by simpa using h)
    unfold cnt0 at ih ⊢
    rw [List.set_cons_succ, List.countP_cons, List.countP_cons, ih]
    omega
theorem DI.set {f o o' : List Nd} {d : List Int} {i m : Nat} (h : DI f o d) (hi : d[i]? = some (-1)) (hp : o <+: o') (hl : o'.length ≤ o.length + 1) (hn : o'.Nodup) (hr : Rep (tree f i) o' m) : DI f o' (d.set i (m : Int)) := by
  refine ⟨by rw [List.length_set]; exact h.len, fun k v hk => ?_, by rw [cnt0_set m hi]; have := h.cnt; omega, hn⟩
  by_cases hki : i = k
  · subst hki
    have hlt : i < d.length := (List.getElem?_eq_some_iff.1 hi).1
    rw [List.getElem?_set_self hlt] at hk
    exact .inr ⟨m, (Option.some.inj hk).symm, hr⟩
  · rw [List.getElem?_set_ne hki] at hk
    rcases h.rep k v hk with h1 | ⟨m', h1, h2⟩
    · exact .inl h1
    · exact .inr ⟨m', h1, h2.mono hp⟩
/-- A part that is done. -/
theorem DI.done {f o : List Nd} {d : List Int} {i : Nat} {v : Int} (h : DI f o d) (hi : d[i]? = some v) (hv : 0 ≤ v) : v = ((ins (tree f i) o).1 : Int) ∧ (ins (tree f i) o).2 = o := by
  rcases h.rep i v hi with h1 | ⟨m, h1, h2⟩
  · omega
  · have := Fm.ins_rep h.nd h2
    rw [this]
    exact ⟨h1, rfl⟩
theorem DI.start (f : List Nd) : DI f [] (List.replicate f.length (-1)) := by
  refine ⟨List.length_replicate, fun k v hk => ?_, Nat.zero_le _, List.nodup_nil⟩
  rw [List.getElem?_replicate] at hk
  split at hk
  · exact .inl (Option.some.inj hk).symm
  · cases hk
theorem own_bk {w : World} {base n size : Nat} {e : TypeId} {v : Value} {xs : List Value} (h : w.ownsRow base e size v n xs) (hn : 0 < n) : ∃ g cap cur, v = .slice (some ⟨g, 0, none⟩) n cap ∧ base ≤ g ∧ Bk w g e cur ∧ n ≤ cap := by
  rcases h.2 with ⟨_, h1⟩ | ⟨g, cap, cur, h1, h2, h3, h4, _⟩
  · omega
  · exact ⟨g, cap, cur, h1, h2, h3, h4⟩
theorem own_set {w : World} {base n cap g : Nat} {e : TypeId} {xs : List Value} (h : w.ownsRow base e 1 (.slice (some ⟨g, 0, none⟩) n cap) n xs) (i : Nat) (u : Value) : (w.setCell ⟨g, i, none⟩ u).ownsRow base e 1 (.slice (some ⟨g, 0, none⟩) n cap) n (xs.set i u) := by
  refine ⟨by rw [List.length_set]; exact h.1, .inr ?_⟩
  rcases h.2 with ⟨h1, _⟩ | ⟨g', cap', cur, h1, h2, h3, h4, h5, h6, h7⟩
  · cases h1
  · obtain ⟨rfl, rfl⟩ : g = g' ∧ cap = cap' := by cases h1; exact ⟨rfl, rfl⟩
    have hb : Bk w g e cur := h3
    refine ⟨g, cap, cur.setIfInBounds i u, rfl, h2, hb.put i u, h4, h5, by rw [Array.size_setIfInBounds]; exact h6, ?_⟩
    rw [Array.toList_setIfInBounds, List.take_set, h7]
/-- What the walk from a place answers. -/
structure Fin (E : QE) (f : List Nd) (i : Nat) (o : List Nd) (d : List Int) (w w' : World) (ov dv : Value) : Prop where
  ex : ∃ (ov' : Value) (d' : List Int), QSt E w' (ins (tree f i) o).2 ov' dv d' ∧ DI f (ins (tree f i) o).2 d' ∧ (∀ k, i < k → d'[k]? = d[k]?) ∧ QK E w w' ov ov' dv
end Go.Proofs.YtbidfbojealmlaaGreatDoor
namespace Go.Proofs.YtbidfbojealmlaaGreatDoor
open Go.RowKit
open Fm (Nd put ins tree checkE usesX usesY Rep)
open Fm.Form
section
set_option maxRecDepth 100000
set_option maxHeartbeats 4000000
variable {E : QE} {f o : List Nd} {d : List Int} {w : World} {ov dv : Value} {A : Option Addr} {c i : Nat}
theorem QSt.at_ (h : QSt E w o ov dv d) {v : Int} (hi : d[i]? = some v) : ∃ g cap cur, dv = .slice (some ⟨g, 0, none⟩) d.length cap ∧ E.b + 1 ≤ g ∧ Bk w g 3 cur ∧ d.length ≤ cap ∧ w.cell? ⟨g, i, none⟩ = some (.int .i64 v) := by
  have hlt : i < d.length := (List.getElem?_eq_some_iff.1 hi).1
  obtain ⟨g, cap, cur, rfl, h1, h2, h3⟩ := own_bk h.dn (by omega)
  refine ⟨g, cap, cur, rfl, h1, h2, h3, ?_⟩
  have := h.dn.cells (g := g) rfl i (.int .i64 v) (by rw [List.getElem?_map, hi]; rfl)
  rwa [Addr.add_lit, Nat.zero_add] at this
theorem fin_done (h : QSt E w o ov dv d) (hd : DI f o d) {m : Nat} (hi : d[i]? = some (m : Int)) (hl : f.length ≤ 200) (n cA : Nat) : Calls Tryz.prog 91 #[.slice A n cA, .int .i64 (i : Int), E.ptr] w fun e w' => e = .returned (.int .i64 ((ins (tree f i) o).1 : Nat)) ∧ Fin E f i o d w w' ov dv := by
  obtain ⟨e1, e2⟩ := hd.done hi (by omega)
  have hlt : i < d.length := (List.getElem?_eq_some_iff.1 hi).1
  have hdl := hd.len
  have c1 := h.c1
  have hF : Fin E f i o d w w ov dv := ⟨⟨ov, d, by rw [e2]; exact h, by rw [e2]; exact hd, fun _ _ => rfl, QK.of_keep (Keep.refl _ _)⟩⟩
  obtain ⟨g, cap, cur, rfl, hg1, hg2, hg3, hc⟩ := h.at_ hi
  have z1 : (0 : Int) ≤ (i : Int) := by omega
  have z2 : (i : Int) < (d.length : Int) := by omega
  have z3 : (0 : Int) ≤ (m : Int) := by omega
  have HE : Hid (((ins (tree f i) o).1 : Int) = (m : Int)) := Lib.hid e1.symm
  have HF := Lib.hid hF
  clear e1 e2 hF hd h hi hdl
  generalize d.length = dl at *
  go_enter Tryz.func91, Tryz.ntmps91
  go_wp2
  refine bodyPost_ret (v := .int .i64 (m : Int)) (by simp [results, Tryz.results91, go_sem]) rfl ?_
  exact ⟨by rw [HE.out], HF.out⟩
theorem QSt.mark {g cap : Nat} (h : QSt E w o ov (.slice (some ⟨g, 0, none⟩) d.length cap) d) (hE : E.w0.heap.size ≤ E.b) (i m : Nat) : QSt E (w.setCell ⟨g, i, none⟩ (.int .i64 (m : Int))) o ov (.slice (some ⟨g, 0, none⟩) d.length cap) (d.set i (m : Int)) := by
  have hg : E.b + 1 ≤ g := (h.dn.lt g rfl).1
  refine ⟨h.kp.setCell (.inr (by show E.w0.heap.size ≤ g; omega)) _, (Below.heap_setCell _ _ _ _ (show E.b ≠ g by omega)).trans h.bk, own_keep h.own fun k hk => Below.heap_setCell _ _ _ _ (show k ≠ g from fun he => own_apart h.own h.dn (by decide) k hk (by rw [he]; rfl)), ?_⟩
  have := own_set h.dn i (.int .i64 (m : Int))
  rwa [List.length_set, List.map_set]
theorem QK.mark {g n cap : Nat} (_ : g < w.heap.size) (i : Nat) (u : Value) : QK E w (w.setCell ⟨g, i, none⟩ u) ov ov (.slice (some ⟨g, 0, none⟩) n cap) :=
  ⟨fun k _ _ _ h => Below.heap_setCell _ _ _ _ (show k ≠ g from fun he => h (by rw [he]; rfl)), fun _ h => .inl h, by rw [World.size_setCell]; exact Nat.le_refl _⟩
theorem fin_leaf (hE : E.w0.heap.size ≤ E.b) (hck : checkE f = 0) (hrd : Rd E.w0 (.slice A f.length c) 6 f.length (fmC f)) (h : QSt E w o ov dv d) (hd : DI f o d) (hi : d[i]? = some (-1)) (hlf : f.length ≤ 200) {n : Nd} (hn : f[i]? = some n) (hx : usesX n.op = false) (hy : usesY n.op = false) :
    Calls Tryz.prog 91 #[.slice A f.length c, .int .i64 (i : Int), E.ptr] w fun e w' => e = .returned (.int .i64 ((ins (tree f i) o).1 : Nat)) ∧ Fin E f i o d w w' ov dv := by
  have hlt : i < f.length := (List.getElem?_eq_some_iff.1 hn).1
  have hdl := hd.len
  have c1 := h.c1
  obtain ⟨bl, off, rfl, _, hcap, x0, x1, x2, x3, x4, x5⟩ := (hrd.kept h.kp fun _ _ h => h).nd hn
  obtain ⟨g, cap, cur, rfl, hg1, hg2, hg3, hc⟩ := h.at_ hi
  have z1 : (0 : Int) ≤ (i : Int) := by omega
  have z2 : (i : Int) < (d.length : Int) := by omega
  have z3 : (i : Int) < (f.length : Int) := by omega
  have HX := Lib.hid fun W => hx ▸ fqUsesX_any n.op W
  have HY := Lib.hid fun W => hy ▸ fqUsesY_any n.op W
  have H := Lib.hid h
  have HD := Lib.hid hd
  clear h hd
  go_enter Tryz.func91, Tryz.ntmps91
  go_upto_region 8 with (first
    | (go_at_call 87; (with_reducible refine (HX.out _).mono ?_); rintro e w1 ⟨rfl, hw1⟩; obtain rfl := hw1)
    | (go_at_call 88; (with_reducible refine (HY.out _).mono ?_); rintro e w1 ⟨rfl, hw1⟩; obtain rfl := hw1))
  have k0 : Keep NoF w (w.alloc (.cells #[.int .i64 n.op, .int .i64 n.i, .int .i64 n.e, .int .i64 n.g, .int .i64 n.x, .int .i64 n.y] 49)) := (Keep.refl _ _).alloc _
  have qb := Bk.new w 49 #[.int .i64 n.op, .int .i64 n.i, .int .i64 n.e, .int .i64 n.g, .int .i64 n.x, .int .i64 n.y]
  generalize w.alloc (.cells #[.int .i64 n.op, .int .i64 n.i, .int .i64 n.e, .int .i64 n.g, .int .i64 n.x, .int .i64 n.y] 49) = W at *
  have q0 := qb.cell 0
  have q1 := qb.cell 1
  have q2 := qb.cell 2
  have q3 := qb.cell 3
  have q4 := qb.cell 4
  have q5 := qb.cell 5
  have hW := H.out.keep k0
  have c1' := hW.c1
  have HW := Lib.hid hW
  have hob : o.length ≤ 1000000 := by have := HD.out.cnt; have := cnt0_le d; omega
  have HPT := Lib.hid fun m => fqput_any hE (hW.keep ((Keep.refl _ _).drewN m)) hob n
  have HPD := Lib.hid (fqput_any hE (hW.keep (Keep.refl _ _).drew) hob n)
  have gW := hg2.keep k0 fun h => h
  have gl := gW.lt
  clear hW x0 x1 x2 x3 x4 x5 c1 hc
  go_region_with (first
    | (go_at_call 112
       (first | (with_reducible refine (HPT.out _).mono ?_) | (with_reducible refine HPD.out.mono ?_))
       rintro e w4 ⟨rfl, ov4, h4, k4⟩
       have c4 := h4.c1
       have g4 : ∃ cur4, Bk w4 g 3 cur4 := by
         obtain ⟨g', cap', cur', e1, _, h5, _⟩ := own_bk h4.dn (by omega)
         cases e1
         exact ⟨cur', h5⟩
       obtain ⟨cur4, hg4⟩ := g4
       have f4 := hg4.frozen i
       have l4 := hg4.lt
       have y4 := h4.dn.cells (g := g) rfl i (.int .i64 (-1)) (by rw [List.getElem?_map, hi]; rfl)
       rw [Addr.add_lit, Nat.zero_add] at y4))
  all_goals
    go_wp2
    refine bodyPost_ret (v := .int .i64 ((put n o).1 : Nat)) (by simp [results, Tryz.results91, go_sem]) rfl ?_
    have hins : ins (tree f i) o = put n o := by
      obtain ⟨_, a2, _, a4⟩ := Fm.check_ord hck i n hn
      have b2 := a2 hx
      have b4 := a4 hy
      rw [Fm.tree_leaf hn hx]
      obtain ⟨op, i', e', g', x', y'⟩ := n
      simp only at b2 b4
      subst b2 b4
      rfl
    rw [hins]
    refine ⟨rfl, ⟨ov4, d.set i ((put n o).1 : Nat), ?_, ?_, fun k hk => List.getElem?_set_ne (by omega), ?_⟩⟩
    · rw [hins]; exact h4.mark hE i _
    · rw [hins]
      refine HD.out.set hi (Fm.put_prefix n o) (Fm.put_len n o) (Fm.put_nodup HD.out.nd) ?_
      rw [← hins]
      exact Fm.rep_ins _ _
    · exact ((QK.of_keep k0).trans (by first | exact (QK.of_keep ((Keep.refl NoF _).drewN _)).trans k4 | exact (QK.of_keep (Keep.refl NoF _).drew).trans k4)).trans (QK.mark (by have := h4.own; exact l4) i _)
end
end Go.Proofs.YtbidfbojealmlaaGreatDoor
namespace Go.Proofs.YtbidfbojealmlaaGreatDoor
open Go.RowKit
open Fm (Nd put ins tree checkE usesX usesY Rep)
open Fm.Form
section
variable {E : QE} {f o : List Nd} {d : List Int} {w w1 W w2 : World} {ov ov' dv ov1 : Value} {A : Option Addr} {c i a B : Nat}
theorem QSt.aside (h : QSt E w o ov dv d) (hB : E.w0.heap.size ≤ B) (h1 : E.b ≠ B) (h2 : ov.ownBlock ≠ some B) (h3 : dv.ownBlock ≠ some B) (i : Nat) (u : Value) : QSt E (w.setCell ⟨B, i, none⟩ u) o ov dv d :=
  ⟨h.kp.setCell (.inr hB) _, (Below.heap_setCell _ _ _ _ (show E.b ≠ B from h1)).trans h.bk, own_keep h.own fun k hk => Below.heap_setCell _ _ _ _ (show k ≠ B from fun he => h2 (he ▸ hk)), own_keep h.dn fun k hk => Below.heap_setCell _ _ _ _ (show k ≠ B from fun he => h3 (he ▸ hk))⟩
theorem QK.store (h : QK E w w1 ov ov' dv) (hB : w.heap.size ≤ B) (i : Nat) (u : Value) : QK E w (w1.setCell ⟨B, i, none⟩ u) ov ov' dv :=
  ⟨fun k hk h1 h2 h3 => (Below.heap_setCell _ _ _ _ (show k ≠ B by omega)).trans (h.hp k hk h1 h2 h3), h.ob, by rw [World.size_setCell]; exact h.sz⟩
abbrev ndCells (n : Nd) : Array Value := #[.int .i64 n.op, .int .i64 n.i, .int .i64 n.e, .int .i64 n.g, .int .i64 n.x, .int .i64 n.y]
/-- The walk within a place: what was done for the operands, and the box of the node. -/
structure Mid (E : QE) (f : List Nd) (i B : Nat) (n : Nd) (d : List Int) (w W : World) (ov dv ov1 : Value) (o1 : List Nd) (d1 : List Int) : Prop where
  st : QSt E W o1 ov1 dv d1
  di : DI f o1 d1
  here : d1[i]? = some (-1)
  past : ∀ k, i < k → d1[k]? = d[k]?
  qk : QK E w W ov ov1 dv
  box : Bk W B 49 (ndCells n)
  ob : ov1.ownBlock ≠ some B
  db : dv.ownBlock ≠ some B
  eb : E.b ≠ B
  sz : w.heap.size ≤ B
  w0 : E.w0.heap.size ≤ B
theorem Mid.start (h : QSt E w o ov dv d) (hd : DI f o d) (hi : d[i]? = some (-1)) (n : Nd) : Mid E f i w.heap.size n d w (w.alloc (.cells (ndCells n) 49)) ov dv ov o d := by
  have k0 : Keep NoF w (w.alloc (.cells (ndCells n) 49)) := (Keep.refl _ _).alloc _
  refine ⟨h.keep k0, hd, hi, fun _ _ => rfl, QK.of_keep k0, Bk.new w _ _, fun he => ?_, fun he => ?_, ?_, Nat.le_refl _, h.kp.size⟩
  · have := (h.own.lt _ he).2; omega
  · have := (h.dn.lt _ he).2; omega
  · have := h.bk.lt; omega
theorem Mid.call {n : Nd} {o1 : List Nd} {d1 : List Int} (h : Mid E f i B n d w W ov dv ov1 o1 d1) (hf : Fin E f a o1 d1 W w2 ov1 dv) (ha : a < i) : ∃ ov2 d2, Mid E f i B n d w w2 ov dv ov2 (ins (tree f a) o1).2 d2 := by
  obtain ⟨ov2, d2, h1, h2, h3, h4⟩ := hf.ex
  refine ⟨ov2, d2, h1, h2, (h3 i ha).trans h.here, fun k hk => (h3 k (by omega)).trans (h.past k hk), h.qk.trans h4, h.box.block (h4.hp B h.box.lt (fun he => h.eb he.symm) h.ob h.db), fun he => ?_, h.db, h.eb, h.sz, h.w0⟩
  rcases h4.ob B he with h5 | h5
  · exact h.ob h5
  · have := h.box.lt; omega
theorem Mid.setX {n : Nd} {o1 : List Nd} {d1 : List Int} (h : Mid E f i B n d w W ov dv ov1 o1 d1) (v : Int) : ∃ n' : Nd, n' = ⟨n.op, n.i, n.e, n.g, v, n.y⟩ ∧ Mid E f i B n' d w (W.setCell ⟨B, 4, none⟩ (.int .i64 v)) ov dv ov1 o1 d1 :=
  ⟨_, rfl, h.st.aside h.w0 h.eb h.ob h.db _ _, h.di, h.here, h.past, h.qk.store h.sz _ _, h.box.put 4 _, h.ob, h.db, h.eb, h.sz, h.w0⟩
theorem Mid.setY {n : Nd} {o1 : List Nd} {d1 : List Int} (h : Mid E f i B n d w W ov dv ov1 o1 d1) (v : Int) : ∃ n' : Nd, n' = ⟨n.op, n.i, n.e, n.g, n.x, v⟩ ∧ Mid E f i B n' d w (W.setCell ⟨B, 5, none⟩ (.int .i64 v)) ov dv ov1 o1 d1 :=
  ⟨_, rfl, h.st.aside h.w0 h.eb h.ob h.db _ _, h.di, h.here, h.past, h.qk.store h.sz _ _, h.box.put 5 _, h.ob, h.db, h.eb, h.sz, h.w0⟩
def FinAt (E : QE) (f : List Nd) (A : Option Addr) (c j : Nat) : Prop := ∀ (w : World) (o : List Nd) (d : List Int) (ov dv : Value), QSt E w o ov dv d → DI f o d → Calls Tryz.prog 91 #[.slice A f.length c, .int .i64 (j : Int), E.ptr] w fun e w' => e = .returned (.int .i64 ((ins (tree f j) o).1 : Nat)) ∧ Fin E f j o d w w' ov dv
theorem own_blk {w : World} {base n m cap size g : Nat} {e : TypeId} {xs : List Value} (h : w.ownsRow base e size (.slice (some ⟨g, 0, none⟩) m cap) n xs) (hn : 0 < n) : ∃ cur, Bk w g e cur := by
  obtain ⟨g', cap', cur, e1, _, h1, _⟩ := own_bk h hn
  injection e1 with e2
  injection e2 with e3
  injection e3 with e4
  exact ⟨cur, e4 ▸ h1⟩
theorem QSt.mark' {g cap m : Nat} (h : QSt E w o ov (.slice (some ⟨g, 0, none⟩) m cap) d) (hm : m = d.length) (hE : E.w0.heap.size ≤ E.b) (i k : Nat) : QSt E (w.setCell ⟨g, i, none⟩ (.int .i64 (k : Int))) o ov (.slice (some ⟨g, 0, none⟩) m cap) (d.set i (k : Int)) := by
  subst hm
  exact h.mark hE i k
set_option maxRecDepth 100000
set_option maxHeartbeats 4000000
theorem fin_un (hE : E.w0.heap.size ≤ E.b) (hck : checkE f = 0) (hrd : Rd E.w0 (.slice A f.length c) 6 f.length (fmC f)) (h : QSt E w o ov dv d) (hd : DI f o d) (hi : d[i]? = some (-1)) (hlf : f.length ≤ 200) {n : Nd} (hn : f[i]? = some n) (hx : usesX n.op = true) (hy : usesY n.op = false) (ih : ∀ j, j < i → FinAt E f A c j) :
    Calls Tryz.prog 91 #[.slice A f.length c, .int .i64 (i : Int), E.ptr] w fun e w' => e = .returned (.int .i64 ((ins (tree f i) o).1 : Nat)) ∧ Fin E f i o d w w' ov dv := by
  have hlt : i < f.length := (List.getElem?_eq_some_iff.1 hn).1
  have hdl := hd.len
  have c1 := h.c1
  obtain ⟨a1, a2, a3, a4⟩ := Fm.check_ord hck i n hn
  obtain ⟨a, ha, hai⟩ : ∃ a : Nat, n.x = (a : Int) ∧ a < i := ⟨n.x.toNat, by have := a1 hx; omega, by have := a1 hx; omega⟩
  have hins : ins (tree f i) o = put ⟨n.op, n.i, n.e, n.g, ((ins (tree f a) o).1 : Nat), n.y⟩ (ins (tree f a) o).2 := by
    rw [Fm.tree_un hn hy hx (by omega), a4 hy, ha]
    rfl
  have HINS := Lib.hid hins
  clear a1 a2 a3 a4 hins
  have MS := Mid.start h hd hi n
  obtain ⟨bl, off, rfl, _, hcap, x0, x1, x2, x3, x4, x5⟩ := (hrd.kept h.kp fun _ _ h => h).nd hn
  obtain ⟨g, cap, cur, rfl, hg1, hg2, hg3, hc⟩ := h.at_ hi
  have z1 : (0 : Int) ≤ (i : Int) := by omega
  have z2 : (i : Int) < (d.length : Int) := by omega
  have z3 : (i : Int) < (f.length : Int) := by omega
  have HX := Lib.hid fun W => hx ▸ fqUsesX_any n.op W
  have HIA := Lib.hid (ih a hai)
  have HR := Lib.hid hrd
  have HMS := Lib.hid MS
  have HHA := Lib.hid ha
  have HH := Lib.hid h
  clear h hd MS hrd ih ha
  go_enter Tryz.func91, Tryz.ntmps91
  go_upto_region 5 with (first
    | (go_at_call 87; (with_reducible refine (HX.out _).mono ?_); rintro e w1 ⟨rfl, hw1⟩; obtain rfl := hw1))
  have M := HMS.out
  clear x0 x1 x2 x3 x4 x5 c1 hc HMS HH
  unfold ndCells at M
  generalize w.alloc (.cells #[.int .i64 n.op, .int .i64 n.i, .int .i64 n.e, .int .i64 n.g, .int .i64 n.x, .int .i64 n.y] 49) = W at *
  obtain ⟨bl', off', he, _, _, _, _, _, _, x4, _⟩ := (HR.out.kept M.st.kp fun _ _ h => h).nd hn
  cases he
  rw [HHA.out] at x4
  have HCA := Lib.hid (HIA.out W o d ov _ M.st M.di)
  have HM := Lib.hid M
  clear M HIA
  go_upto_region 6 with (first
    | (go_at_call 91
       (with_reducible refine HCA.out.mono ?_)
       rintro e w2 ⟨rfl, F2⟩
       obtain ⟨ov2, d2, M2⟩ := HM.out.call F2 hai
       have b2 := M2.box.frozen 4
       have s2 := M2.box.lt
       have t2 := M2.box.cell 4
       have HM2 := Lib.hid M2
       clear F2 M2))
  obtain ⟨n2, hn2, M3⟩ := HM2.out.setX ((ins (tree f a) o).1 : Nat)
  clear b2 s2 t2 x4 HCA HM HM2
  generalize w2.setCell ⟨w.heap.size, 4, none⟩ (.int .i64 ((ins (tree f a) o).1 : Nat)) = W2 at *
  have q0 : W2.cell? ⟨w.heap.size, 0, none⟩ = some (.int .i64 n2.op) := M3.box.cell 0
  have hy2 : usesY n2.op = usesY n.op := by rw [hn2]
  have HY := Lib.hid fun W => (hy2.trans hy) ▸ fqUsesY_any n2.op W
  have HN2 := Lib.hid hn2
  clear hn2 hy2
  have HM3 := Lib.hid M3
  clear M3
  go_upto_region 8 with (first
    | (go_at_call 88; (with_reducible refine (HY.out _).mono ?_); rintro e w1 ⟨rfl, hw1⟩; obtain rfl := hw1.symm))
  have M := HM3.out
  have hi3 : ins (tree f i) o = put n2 (ins (tree f a) o).2 := by rw [HINS.out, HN2.out]
  have HI3 := Lib.hid hi3
  clear q0 hi3 HINS HN2 HHA HM3
  generalize hO : (ins (tree f a) o).2 = O at *
  clear hO
  have q0 : W2.cell? ⟨w.heap.size, 0, none⟩ = some (.int .i64 n2.op) := M.box.cell 0
  have q1 : W2.cell? ⟨w.heap.size, 1, none⟩ = some (.int .i64 n2.i) := M.box.cell 1
  have q2 : W2.cell? ⟨w.heap.size, 2, none⟩ = some (.int .i64 n2.e) := M.box.cell 2
  have q3 : W2.cell? ⟨w.heap.size, 3, none⟩ = some (.int .i64 n2.g) := M.box.cell 3
  have q4 : W2.cell? ⟨w.heap.size, 4, none⟩ = some (.int .i64 n2.x) := M.box.cell 4
  have q5 : W2.cell? ⟨w.heap.size, 5, none⟩ = some (.int .i64 n2.y) := M.box.cell 5
  have c1' := M.st.c1
  have hdl' := M.di.len
  have z2' : (i : Int) < (d2.length : Int) := by omega
  have hob : O.length ≤ 1000000 := by have := M.di.cnt; have := cnt0_le d2; omega
  have HPT := Lib.hid fun m => fqput_any hE (M.st.keep ((Keep.refl _ _).drewN m)) hob n2
  have HPD := Lib.hid (fqput_any hE (M.st.keep (Keep.refl _ _).drew) hob n2)
  obtain ⟨cur', hg4⟩ := own_blk M.st.dn (by omega)
  have gl := hg4.lt
  have hM := M.here
  have HM := Lib.hid M
  clear M
  go_region_with (first
    | (go_at_call 112
       (first | (with_reducible refine (HPT.out _).mono ?_) | (with_reducible refine HPD.out.mono ?_))
       rintro e w4 ⟨rfl, ov4, h4, k4⟩
       have c4 := h4.c1
       obtain ⟨cur4, hg4⟩ := own_blk h4.dn (by omega)
       have f4 := hg4.frozen i
       have l4 := hg4.lt
       have y4 := h4.dn.cells (g := g) rfl i (.int .i64 (-1)) (by rw [List.getElem?_map, hM]; rfl)
       rw [Addr.add_lit, Nat.zero_add] at y4))
  all_goals
    go_wp2
    refine bodyPost_ret (v := .int .i64 ((put n2 O).1 : Nat)) (by simp [results, Tryz.results91, go_sem]) rfl ?_
    rw [HI3.out]
    refine ⟨rfl, ⟨ov4, d2.set i ((put n2 O).1 : Nat), ?_, ?_, fun k hk => (List.getElem?_set_ne (by omega)).trans (HM.out.past k hk), ?_⟩⟩
    · rw [HI3.out]; exact h4.mark' (by omega) hE i _
    · rw [HI3.out]
      refine HM.out.di.set hM (Fm.put_prefix n2 O) (Fm.put_len n2 O) (Fm.put_nodup HM.out.di.nd) ?_
      rw [← HI3.out]
      exact Fm.rep_ins _ _
    · exact (HM.out.qk.trans (by first | exact (QK.of_keep ((Keep.refl NoF _).drewN _)).trans k4 | exact (QK.of_keep (Keep.refl NoF _).drew).trans k4)).trans (QK.mark (by have := h4.own; exact l4) i _)
theorem fin_bin (hE : E.w0.heap.size ≤ E.b) (hck : checkE f = 0) (hrd : Rd E.w0 (.slice A f.length c) 6 f.length (fmC f)) (h : QSt E w o ov dv d) (hd : DI f o d) (hi : d[i]? = some (-1)) (hlf : f.length ≤ 200) {n : Nd} (hn : f[i]? = some n) (hx : usesX n.op = true) (hy : usesY n.op = true) (ih : ∀ j, j < i → FinAt E f A c j) :
    Calls Tryz.prog 91 #[.slice A f.length c, .int .i64 (i : Int), E.ptr] w fun e w' => e = .returned (.int .i64 ((ins (tree f i) o).1 : Nat)) ∧ Fin E f i o d w w' ov dv := by
  have hlt : i < f.length := (List.getElem?_eq_some_iff.1 hn).1
  have hdl := hd.len
  have c1 := h.c1
  obtain ⟨a1, a2, a3, a4⟩ := Fm.check_ord hck i n hn
  obtain ⟨a, ha, hai⟩ : ∃ a : Nat, n.x = (a : Int) ∧ a < i := ⟨n.x.toNat, by have := a1 hx; omega, by have := a1 hx; omega⟩
  obtain ⟨b, hb, hbi⟩ : ∃ b : Nat, n.y = (b : Int) ∧ b < i := ⟨n.y.toNat, by have := a3 hy; omega, by have := a3 hy; omega⟩
  have hins : ins (tree f i) o = put ⟨n.op, n.i, n.e, n.g, ((ins (tree f a) o).1 : Nat), ((ins (tree f b) (ins (tree f a) o).2).1 : Nat)⟩ (ins (tree f b) (ins (tree f a) o).2).2 := by
    rw [Fm.tree_bin hn hy (by omega) (by omega), ha, hb]
    rfl
  have HINS := Lib.hid hins
  clear a1 a2 a3 a4 hins
  have MS := Mid.start h hd hi n
  obtain ⟨bl, off, rfl, _, hcap, x0, x1, x2, x3, x4, x5⟩ := (hrd.kept h.kp fun _ _ h => h).nd hn
  obtain ⟨g, cap, cur, rfl, hg1, hg2, hg3, hc⟩ := h.at_ hi
  have z1 : (0 : Int) ≤ (i : Int) := by omega
  have z2 : (i : Int) < (d.length : Int) := by omega
  have z3 : (i : Int) < (f.length : Int) := by omega
  have HX := Lib.hid fun W => hx ▸ fqUsesX_any n.op W
  have HIA := Lib.hid (ih a hai)
  have HIB := Lib.hid (ih b hbi)
  have HHB := Lib.hid hb
  clear hb
  have HR := Lib.hid hrd
  have HMS := Lib.hid MS
  have HHA := Lib.hid ha
  have HH := Lib.hid h
  clear h hd MS hrd ih ha
  go_enter Tryz.func91, Tryz.ntmps91
  go_upto_region 5 with (first
    | (go_at_call 87; (with_reducible refine (HX.out _).mono ?_); rintro e w1 ⟨rfl, hw1⟩; obtain rfl := hw1))
  have M := HMS.out
  clear x0 x1 x2 x3 x4 x5 c1 hc HMS HH
  unfold ndCells at M
  generalize w.alloc (.cells #[.int .i64 n.op, .int .i64 n.i, .int .i64 n.e, .int .i64 n.g, .int .i64 n.x, .int .i64 n.y] 49) = W at *
  obtain ⟨bl', off', he, _, _, _, _, _, _, x4, _⟩ := (HR.out.kept M.st.kp fun _ _ h => h).nd hn
  cases he
  rw [HHA.out] at x4
  have HCA := Lib.hid (HIA.out W o d ov _ M.st M.di)
  have HM := Lib.hid M
  clear M HIA
  go_upto_region 6 with (first
    | (go_at_call 91
       (with_reducible refine HCA.out.mono ?_)
       rintro e w2 ⟨rfl, F2⟩
       obtain ⟨ov2, d2, M2⟩ := HM.out.call F2 hai
       have b2 := M2.box.frozen 4
       have s2 := M2.box.lt
       have t2 := M2.box.cell 4
       have HM2 := Lib.hid M2
       clear F2 M2))
  obtain ⟨n2, hn2, M3⟩ := HM2.out.setX ((ins (tree f a) o).1 : Nat)
  clear b2 s2 t2 x4 HCA HM HM2
  generalize w2.setCell ⟨w.heap.size, 4, none⟩ (.int .i64 ((ins (tree f a) o).1 : Nat)) = W2 at *
  have q0 : W2.cell? ⟨w.heap.size, 0, none⟩ = some (.int .i64 n2.op) := M3.box.cell 0
  have hy2 : usesY n2.op = usesY n.op := by rw [hn2]
  have HY := Lib.hid fun W => (hy2.trans hy) ▸ fqUsesY_any n2.op W
  have HN2 := Lib.hid hn2
  clear hn2 hy2
  obtain ⟨bl', off', he, _, _, _, _, _, _, _, x5⟩ := (HR.out.kept M3.st.kp fun _ _ h => h).nd hn
  cases he
  rw [HHB.out] at x5
  have HCB := Lib.hid (HIB.out W2 _ d2 ov2 _ M3.st M3.di)
  have HM3 := Lib.hid M3
  clear M3 HIB
  go_upto_region 8 with (first
    | (go_at_call 88; (with_reducible refine (HY.out _).mono ?_); rintro e w1 ⟨rfl, hw1⟩; obtain rfl := hw1.symm)
    | (go_at_call 91
       (with_reducible refine HCB.out.mono ?_)
       rintro e w3 ⟨rfl, F3⟩
       obtain ⟨ov3, d3, M4⟩ := HM3.out.call F3 hbi
       have b2 := M4.box.frozen 5
       have s2 := M4.box.lt
       have t2 := M4.box.cell 5
       have HM4 := Lib.hid M4
       clear F3 M4))
  obtain ⟨n3, hn3, M⟩ := HM4.out.setY ((ins (tree f b) (ins (tree f a) o).2).1 : Nat)
  clear b2 s2 t2 x5 HCB HM3 HM4 q0
  generalize w3.setCell ⟨w.heap.size, 5, none⟩ (.int .i64 ((ins (tree f b) (ins (tree f a) o).2).1 : Nat)) = W3 at *
  have hi3 : ins (tree f i) o = put n3 (ins (tree f b) (ins (tree f a) o).2).2 := by rw [HINS.out, hn3, HN2.out]
  have HI3 := Lib.hid hi3
  clear hn3 hi3 HINS HN2 HHA HHB
  generalize hO : (ins (tree f b) (ins (tree f a) o).2).2 = O at *
  clear hO
  have q0 : W3.cell? ⟨w.heap.size, 0, none⟩ = some (.int .i64 n3.op) := M.box.cell 0
  have q1 : W3.cell? ⟨w.heap.size, 1, none⟩ = some (.int .i64 n3.i) := M.box.cell 1
  have q2 : W3.cell? ⟨w.heap.size, 2, none⟩ = some (.int .i64 n3.e) := M.box.cell 2
  have q3 : W3.cell? ⟨w.heap.size, 3, none⟩ = some (.int .i64 n3.g) := M.box.cell 3
  have q4 : W3.cell? ⟨w.heap.size, 4, none⟩ = some (.int .i64 n3.x) := M.box.cell 4
  have q5 : W3.cell? ⟨w.heap.size, 5, none⟩ = some (.int .i64 n3.y) := M.box.cell 5
  have c1' := M.st.c1
  have hdl' := M.di.len
  have z2' : (i : Int) < (d3.length : Int) := by omega
  have hob : O.length ≤ 1000000 := by have := M.di.cnt; have := cnt0_le d3; omega
  have HPT := Lib.hid fun m => fqput_any hE (M.st.keep ((Keep.refl _ _).drewN m)) hob n3
  have HPD := Lib.hid (fqput_any hE (M.st.keep (Keep.refl _ _).drew) hob n3)
  obtain ⟨cur', hg4⟩ := own_blk M.st.dn (by omega)
  have gl := hg4.lt
  have hM := M.here
  have HM := Lib.hid M
  clear M
  go_region_with (first
    | (go_at_call 112
       (first | (with_reducible refine (HPT.out _).mono ?_) | (with_reducible refine HPD.out.mono ?_))
       rintro e w4 ⟨rfl, ov4, h4, k4⟩
       have c4 := h4.c1
       obtain ⟨cur4, hg4⟩ := own_blk h4.dn (by omega)
       have f4 := hg4.frozen i
       have l4 := hg4.lt
       have y4 := h4.dn.cells (g := g) rfl i (.int .i64 (-1)) (by rw [List.getElem?_map, hM]; rfl)
       rw [Addr.add_lit, Nat.zero_add] at y4))
  all_goals
    go_wp2
    refine bodyPost_ret (v := .int .i64 ((put n3 O).1 : Nat)) (by simp [results, Tryz.results91, go_sem]) rfl ?_
    rw [HI3.out]
    refine ⟨rfl, ⟨ov4, d3.set i ((put n3 O).1 : Nat), ?_, ?_, fun k hk => (List.getElem?_set_ne (by omega)).trans (HM.out.past k hk), ?_⟩⟩
    · rw [HI3.out]; exact h4.mark' (by omega) hE i _
    · rw [HI3.out]
      refine HM.out.di.set hM (Fm.put_prefix n3 O) (Fm.put_len n3 O) (Fm.put_nodup HM.out.di.nd) ?_
      rw [← HI3.out]
      exact Fm.rep_ins _ _
    · exact (HM.out.qk.trans (by first | exact (QK.of_keep ((Keep.refl NoF _).drewN _)).trans k4 | exact (QK.of_keep (Keep.refl NoF _).drew).trans k4)).trans (QK.mark (by have := h4.own; exact l4) i _)
theorem fqfin_any (hE : E.w0.heap.size ≤ E.b) (hck : checkE f = 0) (hrd : Rd E.w0 (.slice A f.length c) 6 f.length (fmC f)) (hlf : f.length ≤ 200) : ∀ i, i < f.length → FinAt E f A c i := by
  intro i
  induction i using Nat.strongRecOn with
  | _ i ih =>
    intro hi w o d ov dv h hd
    have hdl := hd.len
    have hv := List.getElem?_eq_getElem (show i < d.length by omega)
    have hn := List.getElem?_eq_getElem hi
    rcases hd.rep i _ hv with h1 | ⟨m, h1, _⟩
    · rw [h1] at hv
      cases hx : usesX f[i].op
      · exact fin_leaf hE hck hrd h hd hv hlf hn hx (Fm.usesX_Y hx)
      · cases hy : usesY f[i].op
        · exact fin_un hE hck hrd h hd hv hlf hn hx hy fun j hj => ih j hj (by omega)
        · exact fin_bin hE hck hrd h hd hv hlf hn hx hy fun j hj => ih j hj (by omega)
    · rw [h1] at hv
      exact fin_done h hd hv hlf _ _
end
end Go.Proofs.YtbidfbojealmlaaGreatDoor
namespace Go.Proofs.YtbidfbojealmlaaGreatDoor
open Go.RowKit
open Fm (Nd put ins tree checkE usesX usesY Rep compactL cl)
open Fm.Form
theorem own_nil (w : World) (base : Nat) (e : TypeId) (size : Nat) : w.ownsRow base e size (.slice none 0 0) 0 [] := ⟨by simp, .inl ⟨rfl, rfl⟩⟩
section
set_option maxRecDepth 100000
set_option maxHeartbeats 4000000
theorem fqSub_any (f : List Nd) (A : Option Addr) (c i : Nat) (w : World) (hrd : Rd w (.slice A f.length c) 6 f.length (fmC f)) (hck : checkE f = 0) (hi : i < f.length) :
    Calls Tryz.prog 60 #[.slice A f.length c, .int .i64 (i : Int)] w (FmPost w (ins (tree f i) []).2) := by
  have hl := (Fm.checkE_zero.1 hck).2.1
  have HC : Hid (Calls Tryz.prog 31 #[.slice A f.length c] w fun e w' => e = .returned (.int .i64 0) ∧ Keep NoF w w') := Lib.hid (by have := fqCheck_any f A c w (by omega) hrd; rwa [hck] at this)
  have HFI : Hid (∀ b, w.heap.size ≤ b → FinAt (QE.mk w b) f A c i) := Lib.hid fun b h1 => fqfin_any (E := QE.mk w b) h1 hck hrd hl i hi
  clear hrd hck
  have z1 : ¬ (i : Int) < 0 := by omega
  have z2 : ¬ (f.length : Int) ≤ (i : Int) := by omega
  have z3 : decide ((i : Int) < 0) = false := decide_eq_false z1
  have z4 : decide (f.length ≤ i) = false := decide_eq_false (by omega)
  go_enter Tryz.func60, Tryz.ntmps60
  go_wp2_with (go_at_call 31; (with_reducible refine HC.out.mono ?_); rintro e w1 ⟨rfl, k1⟩)
  clear z1 z2 z3 z4 HC
  have hz1 := k1.size
  have hQ : QSt (QE.mk w w1.heap.size) (w1.alloc (.cells #[.slice none 0 0, .slice none 0 0] 114)) [] (.slice none 0 0) (.slice none 0 0) [] := ⟨k1.alloc _, Bk.new w1 114 #[.slice none 0 0, .slice none 0 0], own_nil _ _ _ _, own_nil _ _ _ _⟩
  generalize w1.alloc (.cells #[.slice none 0 0, .slice none 0 0] 114) = W at *
  have HQ := Lib.hid hQ
  clear hQ k1
  go_loopw [6] (fun t wr => ∃ k : Nat, ∃ dv : Value, t = .int .i64 k ∧ k ≤ f.length ∧ Hid (QSt (QE.mk w w1.heap.size) wr [] (.slice none 0 0) dv (List.replicate k (-1)))) (fun t _ => f.length - (intOf t).toNat)
  case atStart => exact ⟨0, _, rfl, by omega, HQ⟩
  case round =>
    obtain ⟨k, dv, rfl, hk, HS⟩ := hrel
    have hs := HS.out
    by_cases hlt : k < f.length
    · have ho : wr.ownsRow (w1.heap.size + 1) 3 1 dv k ((List.replicate k (-1)).map (Value.int .i64)) := by have := hs.dn; rwa [List.length_replicate] at this
      obtain ⟨B, d, rfl⟩ := own_form ho
      have c1 : wr.cell? ⟨w1.heap.size, 1, none⟩ = some (.slice B k d) := hs.c1
      have f1 : wr.frozen? ⟨w1.heap.size, 1, none⟩ = false := hs.fr 1
      have hbk : Bk wr w1.heap.size 114 #[.slice none 0 0, .slice B k d] := hs.bk
      have hbl := hbk.lt
      have hvb : (Value.slice B k d).ownBlock ≠ some w1.heap.size := fun he => by have := (ho.lt _ he).1; omega
      have l1 : (k : Int) < (f.length : Int) := by omega
      clear hs
      go_wp2_with (first
        | (at_builtin
           refine wpList_app (by rfl) eInt1 (.tmp 32) (.tmp 33) (by rfl) (by rfl) (ho.alloc _) ⟨wr.heap.size, 0, none⟩ 1 1 [.int .i64 (-1)] (by rfl) (by rfl)
             (World.news_of_block (cs := #[.int .i64 (-1)]) (t := 3) (fr := (0, 0)) (heap_alloc_new wr _)) (by simp [Value.oneCell']) (by omega) (by omega) (by omega) (by simp; omega) ?_
           intro g4 cap4 w4 hown4 hA4
           have hb4 : Bk w4 w1.heap.size 114 #[.slice none 0 0, .slice B k d] := Bk.grown (Bk.alloc hbk _) hA4.grown (Ne.symm hvb)
           have d4 : w4.cell? ⟨w1.heap.size, 1, none⟩ = some (.slice B k d) := (hb4.cell 1).trans rfl
           have f4 : w4.frozen? ⟨w1.heap.size, 1, none⟩ = false := hb4.frozen 1))
      go_roundw
      case rel =>
        refine ⟨k + 1, .slice (some ⟨g4, 0, none⟩) (k + 1) cap4, by go_num, by omega, Lib.hid ⟨?_, hb4.put 1 _, own_nil _ _ _ _, ?_⟩⟩
        · exact ((HS.out.kp.alloc _).grown hA4.grown fun y hy => .inr (by have := (ho.lt y hy).1; show w.heap.size ≤ y; omega)).setCell (.inr hz1) _
        · rw [List.length_replicate]
          have e1 : (List.replicate (k + 1) (-1 : Int)).map (Value.int .i64) = (List.replicate k (-1)).map (Value.int .i64) ++ [.int .i64 (-1)] := by rw [List.replicate_succ', List.map_append]; rfl
          rw [e1]
          exact own_keep hown4 fun y hy => Below.heap_setCell _ _ _ _ (by
            have := (hown4.lt y hy).1
            show y ≠ w1.heap.size
            omega)
      case measure => simp only [intOf]; omega
    · have hkf : k = f.length := by omega
      subst hkf
      have l1 : ¬ (f.length : Int) < (f.length : Int) := by omega
      have HF := Lib.hid (HFI.out w1.heap.size hz1 wr [] (List.replicate f.length (-1)) (.slice none 0 0) dv hs (DI.start f))
      clear hs
      go_wp2_with (first
        | (go_at_call 91
           (with_reducible refine HF.out.mono ?_)
           rintro e w3 ⟨rfl, F3⟩
           obtain ⟨ov3, d3, h3, _, _, _⟩ := F3.ex
           obtain ⟨A3, c3, rfl⟩ := own_form h3.own
           have c3' : w3.cell? ⟨w1.heap.size, 0, none⟩ = some (.slice A3 _ c3) := h3.c0
           have H3 := Lib.hid h3
           clear h3 F3))
      go_ret
      exact ⟨A3, c3, rfl, Rd.of_own H3.out.own, H3.out.kp, fun k hk => by have := (H3.out.own.lt k hk).1; show w.heap.size ≤ k; have h5 : w1.heap.size + 1 ≤ k := this; omega⟩
theorem fqCompact_any (f : List Nd) (A : Option Addr) (c : Nat) (w : World) (hrd : Rd w (.slice A f.length c) 6 f.length (fmC f)) (hck : checkE f = 0) :
    Calls Tryz.prog 32 #[.slice A f.length c] w (FmPost w (compactL f)) := by
  have hl := (Fm.checkE_zero.1 hck)
  have HS : Hid (Calls Tryz.prog 60 #[.slice A f.length c, .int .i64 ((f.length : Int) - 1)] w (FmPost w (compactL f))) := Lib.hid (by
    have := fqSub_any f A c (f.length - 1) w hrd hck (by omega)
    rw [show ((f.length - 1 : Nat) : Int) = (f.length : Int) - 1 by omega] at this
    rw [Fm.compactL_ok hck]
    exact this)
  have hb : f.length ≤ 200 := hl.2.1
  have hp : 0 < f.length := hl.1
  clear hl hck hrd
  generalize compactL f = L at *
  generalize f.length = n at *
  go_enter Tryz.func32, Tryz.ntmps32
  go_wp2_with (go_at_call 60; (with_reducible refine HS.out.mono ?_); rintro e w2 ⟨A3, c3, rfl, R3, K3, F3⟩)
  go_ret
  exact ⟨A3, c3, rfl, R3, K3, F3⟩
end
end Go.Proofs.YtbidfbojealmlaaGreatDoor
