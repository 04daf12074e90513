/- What the reference's fix does. What the reference's restrict does. What the reference's Restrict does. No condition. -/
import Derived.Test.YtgdmcidcappkpaaGreatRCo
import Derived.Test.YtgdmcidcappkpaaGreatLaw
import Derived.Test.YtgdmcidcappkpaaGreatROps
set_option linter.unusedVariables false
set_option linter.unusedSimpArgs false
namespace Go.Proofs.YtgdmcidcappkpaaGreat
open Go.RowKit
open Dd (Rn rat ofN toN checkErr den lo var vr mk FxRel FxMemo rf canon)

/-- What does not change while fix runs. -/
structure Fk where
  ab : Nat
  ob : Nat
  db : Nat
  V : Nat
  A : List Dd.Nd
  ra : Int
  sa : Value
  v : Nat
  t : Bool
structure Fk.Ok (k : Fk) : Prop where
  gA : Dd.Good k.A
  lA : k.A.length ≤ 1200000
  v : k.v < 24
/-- The state of fix: K are its own blocks. -/
def FSt (w : World) (k : Fk) (N : List Dd.Nd) (G : Nat → Option Nat) (K : Nat → Prop) : Prop :=
  ∃ dv P, Bk w k.ob 24 #[.int .i64 k.V, dv, .int .i64 0] ∧ w.ownsRow 0 47 3 dv N.length (ndsC N) ∧ Bk w k.db 3 (inA P) ∧ P.length = k.A.length ∧ (∀ x, 2 ≤ x → x < k.A.length + 2 → G x = AP P (x - 2)) ∧ ∀ i, K i ↔ (i = k.ob ∨ i = k.db ∨ dv.ownBlock = some i)
section
variable {w w' : World} {k : Fk} {N : List Dd.Nd} {G : Nat → Option Nat} {K F : Nat → Prop} {x : Nat}
theorem FSt.lt (h : FSt w k N G K) : ∀ i, K i → i < w.heap.size := by
  obtain ⟨dv, P, hd, ho, hp, _, _, hK⟩ := h
  intro i hi
  rcases (hK i).1 hi with rfl | rfl | h
  · exact hd.lt
  · exact hp.lt
  · exact (ho.lt i h).2
theorem FSt.block (h : FSt w k N G K) (hb : ∀ i, K i → w'.heap[i]? = w.heap[i]?) : FSt w' k N G K := by
  obtain ⟨dv, P, hd, ho, hp, hl, hs, hK⟩ := h
  exact ⟨dv, P, hd.block (hb _ ((hK _).2 (.inl rfl))), own_keep ho fun i h => hb i ((hK _).2 (.inr (.inr h))), hp.block (hb _ ((hK _).2 (.inr (.inl rfl)))), hl, hs, hK⟩
theorem FSt.kept (h : FSt w k N G K) (hk : Keep F w w') (hf : ∀ i, K i → ¬ F i) : FSt w' k N G K := h.block fun i hi => hk.block i (h.lt i hi) (hf i hi)
theorem FSt.ob (h : FSt w k N G K) : K k.ob := by
  obtain ⟨dv, P, hd, ho, hp, hl, hs, hK⟩ := h
  exact (hK _).2 (.inl rfl)
theorem FSt.db (h : FSt w k N G K) : K k.db := by
  obtain ⟨dv, P, hd, ho, hp, hl, hs, hK⟩ := h
  exact (hK _).2 (.inr (.inl rfl))
/-- What the places say. -/
theorem FSt.at_ (h : FSt w k N G K) (h2 : 2 ≤ x) (hx : x < k.A.length + 2) : w.frozen? ⟨k.db, x - 2, none⟩ = false ∧ ∃ q : Nat, w.cell? ⟨k.db, x - 2, none⟩ = some (.int .i64 q) ∧ (∀ r, G x = some r → q = r + 1) ∧ (G x = none → q = 0) := by
  obtain ⟨dv, P, hd, ho, hp, hl, hs, hK⟩ := h
  have hj : x - 2 < P.length := by omega
  have hg := hs x h2 hx
  refine ⟨hp.frozen _, P[x - 2], ?_, fun r hr => ?_, fun hr => ?_⟩
  · rw [hp.cell]
    simp [inA, List.getElem?_eq_getElem hj, inV]
  · have := AP_some (hg.symm.trans hr)
    rw [List.getD_eq_getElem?_getD, List.getElem?_eq_getElem hj] at this
    simpa using this
  · have := AP_none (hg.symm.trans hr)
    rw [List.getD_eq_getElem?_getD, List.getElem?_eq_getElem hj] at this
    simpa using this
/-- A result is remembered. -/
theorem FSt.put (h : FSt w k N G K) (h2 : 2 ≤ x) (hx : x < k.A.length + 2) (r : Nat) : FSt (w.setCell ⟨k.db, x - 2, none⟩ (.int .i64 ((r : Int) + 1))) k N (fun y => if y = x then some r else G y) K := by
  obtain ⟨dv, P, hd, ho, hp, hl, hs, hK⟩ := h
  have hj : x - 2 < P.length := by omega
  have hdd : dv.ownBlock ≠ some k.db := own_ne_bk ho hp (by decide)
  have hwd : k.ob ≠ k.db := hd.ne_type hp (by decide)
  refine ⟨dv, P.set (x - 2) (r + 1), hd.far hwd _, own_keep ho fun i hi => Below.heap_setCell _ _ _ _ (fun e => hdd (by rw [hi]; exact congrArg some e)), ?_, by rw [List.length_set]; exact hl, fun y y2 hy => ?_, hK⟩
  · have h := hp.put (x - 2) (.int .i64 ((r : Int) + 1))
    have e : (inA P).setIfInBounds (x - 2) (.int .i64 ((r : Int) + 1)) = inA (P.set (x - 2) (r + 1)) := by
      unfold inA
      rw [List.setIfInBounds_toArray, List.map_set]
      congr 2
    rwa [e] at h
  · rw [AP_set hj, ← hs y y2 hy]
    show (if y = x then some r else G y) = _
    by_cases he : y = x
    · rw [if_pos he, if_pos (by omega)]
    · rw [if_neg he, if_neg (by omega)]
/-- A node is added. -/
theorem FSt.node {e : Ending} (h : FSt w k N G K) {v l r : Nat} (hn : ∀ dv, Bk w k.ob 24 #[.int .i64 k.V, dv, .int .i64 0] → w.ownsRow 0 47 3 dv N.length (ndsC N) → NdPost w k.ob 0 24 #[.int .i64 k.V, dv, .int .i64 0] dv N v l r e w') :
    e = .returned (.int .i64 ((mk N v l r).1 : Nat)) ∧ ∃ K', FSt w' k (mk N v l r).2 G K' ∧ Keep K w w' ∧ ∀ i, K' i → K i ∨ w.heap.size ≤ i := by
  obtain ⟨dv, P, hd, ho, hp, hl, hs, hK⟩ := h
  have hdd : dv.ownBlock ≠ some k.db := own_ne_bk ho hp (by decide)
  have hwd : k.ob ≠ k.db := hd.ne_type hp (by decide)
  obtain ⟨dv', he, hO, hk, hf⟩ := hn dv hd ho
  obtain ⟨hd', hat, ho', hne⟩ := hO
  have hcs : (#[.int .i64 (k.V : Int), dv, .int .i64 0] : Array Value).setIfInBounds (0 + 1) dv' = #[.int .i64 k.V, dv', .int .i64 0] := rfl
  rw [hcs] at hd'
  refine ⟨he, fun i => i = k.ob ∨ i = k.db ∨ dv'.ownBlock = some i, ⟨dv', P, hd', ho', hp.keep hk (fun h => ?_), hl, hs, fun _ => Iff.rfl⟩, hk.mono fun i _ h => ?_, fun i hi => ?_⟩
  · rcases h with h | h
    · exact hwd h.symm
    · exact hdd h
  · rcases h with rfl | h
    · exact (hK _).2 (.inl rfl)
    · exact (hK _).2 (.inr (.inr h))
  · rcases hi with h | h | h
    · exact .inl ((hK i).2 (.inl h))
    · exact .inl ((hK i).2 (.inr (.inl h)))
    · rcases hf i h with h | h
      · exact .inl ((hK i).2 (.inr (.inr h)))
      · exact .inr h
end

/-- The operand stands, apart from the own blocks. -/
def Fk.Rds (k : Fk) (w : World) (K : Nat → Prop) : Prop :=
  Bk w k.ab 24 #[.int .i64 k.V, k.sa, .int .i64 k.ra] ∧ Rd w k.sa 3 k.A.length (ndsC k.A) ∧ ¬ K k.ab ∧ (0 < k.A.length → ∀ i, k.sa.ownBlock = some i → ¬ K i)
theorem Fk.Rds.next {k : Fk} {w w' : World} {K K1 : Nat → Prop} (h : k.Rds w K) (hk : Keep K w w') (hK : ∀ i, K1 i → K i ∨ w.heap.size ≤ i) : k.Rds w' K1 := by
  obtain ⟨b, a, n, c⟩ := h
  refine ⟨b.keep hk n, a.kept0 hk c, fun h1 => ?_, fun h0 i hi h1 => ?_⟩
  · rcases hK _ h1 with h | h
    · exact n h
    · have := b.lt; omega
  · rcases hK i h1 with h | h
    · exact c h0 i hi h
    · have := a.blk_lt h0 (by omega) i hi; omega

def FixPost (k : Fk) (x : Nat) (N : List Dd.Nd) (K : Nat → Prop) (w : World) (e : Ending) (w' : World) : Prop :=
  ∃ (r : Nat) (N' : List Dd.Nd) (G' : Nat → Option Nat) (K' : Nat → Prop), e = .returned (.int .i64 (r : Nat)) ∧ FxRel (rf k.v k.t) k.A N x r N' G' ∧ FSt w' k N' G' K' ∧ Keep K w w' ∧ ∀ i, K' i → K i ∨ w.heap.size ≤ i
def FixIH (f : Nat) : Prop := ∀ (k : Fk) (w : World) (N : List Dd.Nd) (G : Nat → Option Nat) (K : Nat → Prop) (x : Nat), k.Ok → FSt w k N G K → k.Rds w K → Dd.Good N → FxMemo (rf k.v k.t) k.A N G → x < k.A.length + 2 → x < f →
  N.length + 2 ^ (24 - var k.A x) ≤ 1099511627776 → Calls Tryz.prog 99 #[.pointer (some ⟨k.ab, 0, none⟩), .pointer (some ⟨k.ob, 0, none⟩), .int .i64 x, .int .i64 k.v, .bool k.t, .slice (some ⟨k.db, 0, none⟩) k.A.length k.A.length] w (FixPost k x N K w)

section
variable {ab ob db V : Nat} {A : List Dd.Nd} {ra : Int} {sa : Value} {v : Nat} {t : Bool} {w : World} {N : List Dd.Nd} {G : Nat → Option Nat} {K : Nat → Prop} {x : Nat}

set_option maxRecDepth 100000 in
set_option maxHeartbeats 1000000 in
theorem fix_const (hs : FSt w ⟨ab, ob, db, V, A, ra, sa, v, t⟩ N G K) (g : Dd.Good N) (m : FxMemo (rf v t) A N G) (hx : x < 2) :
    Calls Tryz.prog 99 #[.pointer (some ⟨ab, 0, none⟩), .pointer (some ⟨ob, 0, none⟩), .int .i64 x, .int .i64 v, .bool t, .slice (some ⟨db, 0, none⟩) A.length A.length] w (FixPost ⟨ab, ob, db, V, A, ra, sa, v, t⟩ x N K w) := by
  have R := Dd.fx_const v t g m hx
  have hT : ∀ e w', e = .returned (.int .i64 (x : Nat)) ∧ w = w' → FixPost ⟨ab, ob, db, V, A, ra, sa, v, t⟩ x N K w e w' := by
    rintro e w' ⟨rfl, rfl⟩
    exact ⟨x, N, G, K, rfl, R, hs, Keep.refl _ _, fun i h => .inl h⟩
  refine Calls.mono ?_ hT
  clear hT hs R g m
  have h1 : (x : Int) < 2 := by omega
  generalize A.length = n at *
  go_enter Tryz.func99, Tryz.ntmps99
  go_wp2
  go_ret
  exact ⟨rfl, rfl⟩

set_option maxRecDepth 100000 in
set_option maxHeartbeats 1000000 in
theorem fix_hit (hA : A.length ≤ 1200000) (hN : N.length ≤ 1099511627776) (hs : FSt w ⟨ab, ob, db, V, A, ra, sa, v, t⟩ N G K) (g : Dd.Good N) (m : FxMemo (rf v t) A N G) (h2 : 2 ≤ x) (hx : x < A.length + 2) {r : Nat} (hr : G x = some r) :
    Calls Tryz.prog 99 #[.pointer (some ⟨ab, 0, none⟩), .pointer (some ⟨ob, 0, none⟩), .int .i64 x, .int .i64 v, .bool t, .slice (some ⟨db, 0, none⟩) A.length A.length] w (FixPost ⟨ab, ob, db, V, A, ra, sa, v, t⟩ x N K w) := by
  have R := Dd.fx_hit g m hr
  have hrn : r ≤ 1099511627778 := by have := R.lt; omega
  obtain ⟨_, q, hq, hq1, _⟩ := hs.at_ (x := x) h2 hx
  obtain rfl := hq1 r hr
  have hT : ∀ e w', e = .returned (.int .i64 (r : Nat)) ∧ w = w' → FixPost ⟨ab, ob, db, V, A, ra, sa, v, t⟩ x N K w e w' := by
    rintro e w' ⟨rfl, rfl⟩
    exact ⟨r, N, G, K, rfl, R, hs, Keep.refl _ _, fun i h => .inl h⟩
  refine Calls.mono ?_ hT
  clear hT hs R g m hq1 hr
  obtain ⟨j, rfl⟩ : ∃ j, x = j + 2 := ⟨x - 2, by omega⟩
  have hc : w.cell? ⟨db, j, none⟩ = some (.int .i64 ((r : Int) + 1)) := by simpa using hq
  have hne : (((r : Int) + 1) != 0) = true := by simp; omega
  have hj : j < A.length := by omega
  clear hq
  generalize A.length = n at *
  go_enter Tryz.func99, Tryz.ntmps99
  go_wp2
  go_ret
  exact ⟨rfl, rfl⟩

set_option maxRecDepth 100000 in
set_option maxHeartbeats 2000000 in
theorem fix_step {f : Nat} (ih : FixIH f) (ok : Fk.Ok ⟨ab, ob, db, V, A, ra, sa, v, t⟩) (hs : FSt w ⟨ab, ob, db, V, A, ra, sa, v, t⟩ N G K) (hrd : Fk.Rds ⟨ab, ob, db, V, A, ra, sa, v, t⟩ w K) (g : Dd.Good N) (m : FxMemo (rf v t) A N G) (h2 : 2 ≤ x) (hx : x < A.length + 2) (hf : x < f + 1)
    (hN : N.length + 2 ^ (24 - var A x) ≤ 1099511627776) (hr : G x = none) (hne : var A x ≠ v) :
    Calls Tryz.prog 99 #[.pointer (some ⟨ab, 0, none⟩), .pointer (some ⟨ob, 0, none⟩), .int .i64 x, .int .i64 v, .bool t, .slice (some ⟨db, 0, none⟩) A.length A.length] w (FixPost ⟨ab, ob, db, V, A, ra, sa, v, t⟩ x N K w) := by
  have gA : Dd.Good A := ok.gA
  have lA : A.length ≤ 1200000 := ok.lA
  have a1 := gA.lo_lt x h2 hx
  have a2 := gA.hi_lt x h2 hx
  have b1 := gA.lo_var x h2 hx
  have b2 := gA.hi_var x h2 hx
  have c0 := gA.bound x h2 hx
  have p1 := Dd.fx_rise b1 (Dd.var_le gA (by omega))
  have p2 := Dd.fx_rise b2 (Dd.var_le gA (by omega))
  have t1 := Nat.two_pow_pos (24 - var A (lo A x))
  have t2 := Nat.two_pow_pos (24 - var A (Dd.hi A x))
  have q3 : 2 ^ (24 - var A (lo A x)) + 2 ^ (24 - var A (Dd.hi A x)) ≤ 2 ^ (24 - var A x) := by omega
  obtain ⟨_, q, hq, _, hq1⟩ := hs.at_ (x := x) h2 hx
  obtain rfl := hq1 hr
  have hI1 : ∀ w1, FSt w1 ⟨ab, ob, db, V, A, ra, sa, v, t⟩ N G K → Fk.Rds ⟨ab, ob, db, V, A, ra, sa, v, t⟩ w1 K → Calls Tryz.prog 99 #[.pointer (some ⟨ab, 0, none⟩), .pointer (some ⟨ob, 0, none⟩), .int .i64 (lo A x : Nat), .int .i64 v, .bool t, .slice (some ⟨db, 0, none⟩) A.length A.length] w1 (FixPost ⟨ab, ob, db, V, A, ra, sa, v, t⟩ (lo A x) N K w1) := fun w1 h h' =>
    ih ⟨ab, ob, db, V, A, ra, sa, v, t⟩ w1 N G K (lo A x) ok h h' g m (by show _ < A.length + 2; omega) (by omega) (by show _ + 2 ^ (24 - var A _) ≤ _; omega)
  have hI2 : ∀ w1 r1 N1 G1 K1, FxRel (rf v t) A N (lo A x) r1 N1 G1 → FSt w1 ⟨ab, ob, db, V, A, ra, sa, v, t⟩ N1 G1 K1 → Fk.Rds ⟨ab, ob, db, V, A, ra, sa, v, t⟩ w1 K1 → Calls Tryz.prog 99 #[.pointer (some ⟨ab, 0, none⟩), .pointer (some ⟨ob, 0, none⟩), .int .i64 (Dd.hi A x : Nat), .int .i64 v, .bool t, .slice (some ⟨db, 0, none⟩) A.length A.length] w1 (FixPost ⟨ab, ob, db, V, A, ra, sa, v, t⟩ (Dd.hi A x) N1 K1 w1) := fun w1 r1 N1 G1 K1 R1 h h' =>
    ih ⟨ab, ob, db, V, A, ra, sa, v, t⟩ w1 N1 G1 K1 (Dd.hi A x) ok h h' R1.good R1.memo (by show _ < A.length + 2; omega) (by omega) (by show _ + 2 ^ (24 - var A _) ≤ _; have := R1.len; omega)
  have hST : ∀ r1 r2 N1 N2 G1 G2, FxRel (rf v t) A N (lo A x) r1 N1 G1 → FxRel (rf v t) A N1 (Dd.hi A x) r2 N2 G2 → FxRel (rf v t) A N x (mk N2 (var A x) r1 r2).1 (mk N2 (var A x) r1 r2).2 (fun y => if y = x then some (mk N2 (var A x) r1 r2).1 else G2 y) := fun r1 r2 N1 N2 G1 G2 R1 R2 => Dd.fx_step gA h2 hx hne R1 R2
  have hL2 : ∀ r1 r2 N1 N2 G1 G2, FxRel (rf v t) A N (lo A x) r1 N1 G1 → FxRel (rf v t) A N1 (Dd.hi A x) r2 N2 G2 → N2.length ≤ 1099511627776 ∧ r1 ≤ 1099511627776 ∧ r2 ≤ 1099511627776 ∧ (mk N2 (var A x) r1 r2).1 ≤ 1099511627778 := fun r1 r2 N1 N2 G1 G2 R1 R2 => by
    have h := hST _ _ _ _ _ _ R1 R2
    have := R1.len
    have := R2.len
    have := R1.lt
    have := R2.lt
    have := Dd.len_pre R2.pre
    have := h.len
    have := h.lt
    omega
  have HI1 := Lib.hid hI1
  have HI2 := Lib.hid hI2
  have HST := Lib.hid hST
  have HL2 := Lib.hid hL2
  have HS := Lib.hid hs
  have HRD := Lib.hid hrd
  have hrd1 : Rd w sa 3 A.length (ndsC A) := hrd.2.1
  obtain ⟨A1, cA, hsa⟩ := rd_ge hrd1
  rw [hsa] at hrd1
  have hnd := hrd1.num (i := x) h2 hx
  have c1 : w.cell? ⟨ab, 1, none⟩ = some (.slice A1 A.length cA) := by rw [hrd.1.cell]; show some sa = _; rw [hsa]
  obtain ⟨bl, off, rfl, _, y1, y2, y3⟩ := hnd
  have hnv : ((var A x : Int) == (v : Int)) = false := by simp; omega
  have HX := Lib.hid (And.intro h2 hx)
  clear hI1 hI2 hST hL2 hs hrd hrd1 hsa ih g m hr hne p1 p2 t1 t2 q3 hq1 ok gA hN
  obtain ⟨j, rfl⟩ : ∃ j, x = j + 2 := ⟨x - 2, by omega⟩
  simp only [Nat.add_sub_cancel] at hq y1 y2 y3
  have hc : w.cell? ⟨db, j, none⟩ = some (.int .i64 0) := by simpa using hq
  clear hq a1 a2 b1 b2
  generalize hu : var A (j + 2) = u at *
  generalize hll : lo A (j + 2) = l at *
  generalize hhh : Dd.hi A (j + 2) = h at *
  have HU := Lib.hid (And.intro hu (And.intro hll hhh))
  clear hu hll hhh
  have hj : j < A.length := by omega
  generalize hn : A.length = n at *
  have HNN := Lib.hid hn
  clear hn
  go_enter Tryz.func99, Tryz.ntmps99
  go_upto_region 7 with (fail)
  have kW : Keep NoF w (w.alloc (.cells #[.int .i64 u, .int .i64 l, .int .i64 h] 47)) := (Keep.refl _ _).alloc _
  have qn : Bk (w.alloc (.cells #[.int .i64 u, .int .i64 l, .int .i64 h] 47)) w.heap.size 47 #[.int .i64 u, .int .i64 l, .int .i64 h] := Bk.new _ _ _
  have hs2 := HS.out.kept kW fun _ _ h => h
  have hrd2 := HRD.out.next (kW.mono (G := K) fun _ _ h => h.elim) fun i h => .inl h
  have hnK : ¬ K w.heap.size := fun h => by have := HS.out.lt _ h; omega
  have hz : (w.alloc (.cells #[.int .i64 u, .int .i64 l, .int .i64 h] 47)).heap.size = w.heap.size + 1 := by simp
  have HZ := Lib.hid hz
  clear hz y1 y2 y3 c1 hc
  generalize w.alloc (.cells #[.int .i64 u, .int .i64 l, .int .i64 h] 47) = W2 at *
  have n0 : W2.cell? ⟨w.heap.size, 0, none⟩ = some (.int .i64 u) := qn.cell 0
  have n1 : W2.cell? ⟨w.heap.size, 1, none⟩ = some (.int .i64 l) := qn.cell 1
  have HC1 := Lib.hid (HI1.out W2 hs2 hrd2)
  go_upto_region 12 with (go_at_call 99
                          (with_reducible refine HC1.out.mono ?_)
                          rintro e w3 ⟨r1, N1, G1, K1, rfl, R1, hs3, hk3, hK3⟩)
  have qn3 := qn.keep hk3 hnK
  have hnK3 : ¬ K1 w.heap.size := fun h => by
    rcases hK3 _ h with h | h
    · exact hnK h
    · have := qn.lt; omega
  have hrd3 := hrd2.next hk3 hK3
  have n2 : w3.cell? ⟨w.heap.size, 2, none⟩ = some (.int .i64 h) := qn3.cell 2
  have HC2 := Lib.hid (HI2.out w3 r1 N1 G1 K1 R1 hs3 hrd3)
  have HR1 := Lib.hid R1
  clear R1 n0 n1 HC1 hs2 hrd2
  go_upto_region 13 with (go_at_call 99
                          (with_reducible refine HC2.out.mono ?_)
                          rintro e w4 ⟨r2, N2, G2, K2, rfl, R2, hs4, hk4, hK4⟩)
  have qn4 := qn3.keep hk4 hnK3
  have hnK4 : ¬ K2 w.heap.size := fun h => by
    rcases hK4 _ h with h | h
    · exact hnK3 h
    · have := qn3.lt; omega
  have n4 : w4.cell? ⟨w.heap.size, 0, none⟩ = some (.int .i64 u) := qn4.cell 0
  obtain ⟨l1, l2, l3, l4⟩ := HL2.out r1 r2 N1 N2 G1 G2 HR1.out R2
  have hFX := HST.out r1 r2 N1 N2 G1 G2 HR1.out R2
  have HFX := Lib.hid hFX
  obtain ⟨dvx, Px, hdx, hox, _, _, _, _⟩ := id hs4
  have hdwx : dvx.ownBlock ≠ some ob := own_ne_bk hox hdx (by decide)
  have HCN := Lib.hid (rnode_any (b := ob) (o := 0) (t := 24) (cs := #[.int .i64 V, dvx, .int .i64 0]) (dv := dvx) (N := N2) ⟨hdx, rfl, hox, hdwx⟩ (by decide) l1 u r1 r2 l2 l3 c0)
  have HND := Lib.hid (fun e w' (h : NdPost w4 ob 0 24 #[.int .i64 V, dvx, .int .i64 0] dvx N2 u r1 r2 e w') => hs4.node (v := u) (l := r1) (r := r2) (e := e) (w' := w') fun dv hd ho => by
    have e1 : dv = dvx := by
      have x1 := hd.cell 1
      have x2 := hdx.cell 1
      rw [x1] at x2
      simpa using x2
    subst e1
    exact h)
  clear R2 HC2 hFX n2 hs3 hrd3 hs4 hdx hox hdwx
  go_upto_region 14 with (go_at_call 108
                          (with_reducible refine HCN.out.mono ?_)
                          rintro e w5 hnd
                          obtain ⟨rfl, K5, hs5, hk5, hK5⟩ := HND.out e w5 hnd
                          clear hnd)
  obtain ⟨x1, x2⟩ := HX.out
  rw [← HNN.out] at x2
  obtain ⟨hfz, q5, hq5, _, _⟩ := hs5.at_ (x := j + 2) x1 x2
  have hput := hs5.put (x := j + 2) x1 x2 (mk N2 u r1 r2).1
  have HPUT := Lib.hid hput
  clear hput HCN HND
  generalize hmk : (mk N2 u r1 r2).1 = rr at *
  generalize hmk2 : (mk N2 u r1 r2).2 = N3 at *
  have c5 : w5.cell? ⟨db, j, none⟩ = some (.int .i64 q5) := hq5
  have f5 : w5.frozen? ⟨db, j, none⟩ = false := hfz
  have hs5d := hs5.db
  clear hq5 hfz hs5 hmk hmk2
  go_wp2
  go_ret
  have z2 := HZ.out
  have z3 := hk3.size
  have z4 := hk4.size
  have T1 := (kW.mono (G := K) fun _ _ h => h.elim).trans hk3 fun _ _ h => h
  have T2 := T1.trans hk4 fun i hi h => by
    rcases hK3 i h with h | h
    · exact h
    · omega
  have T3 := T2.trans hk5 fun i hi h => by
    rcases hK4 i h with h | h
    · rcases hK3 i h with h | h
      · exact h
      · omega
    · omega
  have KK : ∀ i, K5 i → K i ∨ w.heap.size ≤ i := fun i h => by
    rcases hK5 i h with h | h
    · rcases hK4 i h with h | h
      · rcases hK3 i h with h | h
        · exact .inl h
        · exact .inr (by omega)
      · exact .inr (by omega)
    · exact .inr (by omega)
  exact ⟨rr, N3, _, K5, rfl, HFX.out, HPUT.out, T3.setCell (p := ⟨db, j, none⟩) (KK _ hs5d) _, KK⟩
set_option maxRecDepth 100000 in
set_option maxHeartbeats 2000000 in
theorem fix_at0 {f : Nat} (ih : FixIH f) (ok : Fk.Ok ⟨ab, ob, db, V, A, ra, sa, v, false⟩) (hs : FSt w ⟨ab, ob, db, V, A, ra, sa, v, false⟩ N G K) (hrd : Fk.Rds ⟨ab, ob, db, V, A, ra, sa, v, false⟩ w K) (g : Dd.Good N) (m : FxMemo (rf v false) A N G) (h2 : 2 ≤ x) (hx : x < A.length + 2) (hf : x < f + 1)
    (hN : N.length + 2 ^ (24 - var A x) ≤ 1099511627776) (hr : G x = none) (hne : var A x = v) :
    Calls Tryz.prog 99 #[.pointer (some ⟨ab, 0, none⟩), .pointer (some ⟨ob, 0, none⟩), .int .i64 x, .int .i64 v, .bool false, .slice (some ⟨db, 0, none⟩) A.length A.length] w (FixPost ⟨ab, ob, db, V, A, ra, sa, v, false⟩ x N K w) := by
  have gA : Dd.Good A := ok.gA
  have lA : A.length ≤ 1200000 := ok.lA
  have a1 := gA.lo_lt x h2 hx
  have a2 := gA.hi_lt x h2 hx
  have b1 := gA.lo_var x h2 hx
  have b2 := gA.hi_var x h2 hx
  have c0 := gA.bound x h2 hx
  have p1 := Dd.fx_rise b1 (Dd.var_le gA (by omega))
  have p2 := Dd.fx_rise b2 (Dd.var_le gA (by omega))
  have t1 := Nat.two_pow_pos (24 - var A (lo A x))
  have t2 := Nat.two_pow_pos (24 - var A (Dd.hi A x))
  have q3 : 2 ^ (24 - var A (lo A x)) + 2 ^ (24 - var A (Dd.hi A x)) ≤ 2 ^ (24 - var A x) := by omega
  obtain ⟨_, q, hq, _, hq1⟩ := hs.at_ (x := x) h2 hx
  obtain rfl := hq1 hr
  have hI1 : ∀ w1, FSt w1 ⟨ab, ob, db, V, A, ra, sa, v, false⟩ N G K → Fk.Rds ⟨ab, ob, db, V, A, ra, sa, v, false⟩ w1 K → Calls Tryz.prog 99 #[.pointer (some ⟨ab, 0, none⟩), .pointer (some ⟨ob, 0, none⟩), .int .i64 (lo A x : Nat), .int .i64 v, .bool false, .slice (some ⟨db, 0, none⟩) A.length A.length] w1 (FixPost ⟨ab, ob, db, V, A, ra, sa, v, false⟩ (lo A x) N K w1) := fun w1 h h' =>
    ih ⟨ab, ob, db, V, A, ra, sa, v, false⟩ w1 N G K (lo A x) ok h h' g m (by show _ < A.length + 2; omega) (by omega) (by show _ + 2 ^ (24 - var A _) ≤ _; omega)
  have hI2 : ∀ w1 r1 N1 G1 K1, FxRel (rf v false) A N (lo A x) r1 N1 G1 → FSt w1 ⟨ab, ob, db, V, A, ra, sa, v, false⟩ N1 G1 K1 → Fk.Rds ⟨ab, ob, db, V, A, ra, sa, v, false⟩ w1 K1 → Calls Tryz.prog 99 #[.pointer (some ⟨ab, 0, none⟩), .pointer (some ⟨ob, 0, none⟩), .int .i64 (Dd.hi A x : Nat), .int .i64 v, .bool false, .slice (some ⟨db, 0, none⟩) A.length A.length] w1 (FixPost ⟨ab, ob, db, V, A, ra, sa, v, false⟩ (Dd.hi A x) N1 K1 w1) := fun w1 r1 N1 G1 K1 R1 h h' =>
    ih ⟨ab, ob, db, V, A, ra, sa, v, false⟩ w1 N1 G1 K1 (Dd.hi A x) ok h h' R1.good R1.memo (by show _ < A.length + 2; omega) (by omega) (by show _ + 2 ^ (24 - var A _) ≤ _; have := R1.len; omega)
  have hST : ∀ r1 N1 G1, FxRel (rf v false) A N (lo A x) r1 N1 G1 → r1 ≤ 1099511627776 ∧ FxRel (rf v false) A N x r1 N1 (fun y => if y = x then some r1 else G1 y) := fun r1 N1 G1 R1 => ⟨by have := R1.len; have := R1.lt; omega, Dd.fx_at0 gA h2 hx hne R1⟩
  have HI1 := Lib.hid hI1
  have HI2 := Lib.hid hI2
  have HST := Lib.hid hST
  have HS := Lib.hid hs
  have HRD := Lib.hid hrd
  have hrd1 : Rd w sa 3 A.length (ndsC A) := hrd.2.1
  obtain ⟨A1, cA, hsa⟩ := rd_ge hrd1
  rw [hsa] at hrd1
  have hnd := hrd1.num (i := x) h2 hx
  have c1 : w.cell? ⟨ab, 1, none⟩ = some (.slice A1 A.length cA) := by rw [hrd.1.cell]; show some sa = _; rw [hsa]
  obtain ⟨bl, off, rfl, _, y1, y2, y3⟩ := hnd
  have hnv : ((var A x : Int) == (v : Int)) = true := by simp [hne]
  have HX := Lib.hid (And.intro h2 hx)
  clear hI1 hI2 hST hs hrd hrd1 hsa ih g m hr hne p1 p2 t1 t2 q3 hq1 ok gA hN
  obtain ⟨j, rfl⟩ : ∃ j, x = j + 2 := ⟨x - 2, by omega⟩
  simp only [Nat.add_sub_cancel] at hq y1 y2 y3
  have hc : w.cell? ⟨db, j, none⟩ = some (.int .i64 0) := by simpa using hq
  clear hq a1 a2 b1 b2
  generalize hu : var A (j + 2) = u at *
  generalize hll : lo A (j + 2) = l at *
  generalize hhh : Dd.hi A (j + 2) = h at *
  have HU := Lib.hid (And.intro hu (And.intro hll hhh))
  clear hu hll hhh
  have hj : j < A.length := by omega
  generalize hn : A.length = n at *
  have HNN := Lib.hid hn
  clear hn
  go_enter Tryz.func99, Tryz.ntmps99
  go_upto_region 7 with (fail)
  have kW : Keep NoF w (w.alloc (.cells #[.int .i64 u, .int .i64 l, .int .i64 h] 47)) := (Keep.refl _ _).alloc _
  have qn : Bk (w.alloc (.cells #[.int .i64 u, .int .i64 l, .int .i64 h] 47)) w.heap.size 47 #[.int .i64 u, .int .i64 l, .int .i64 h] := Bk.new _ _ _
  have hs2 := HS.out.kept kW fun _ _ h => h
  have hrd2 := HRD.out.next (kW.mono (G := K) fun _ _ h => h.elim) fun i h => .inl h
  have hnK : ¬ K w.heap.size := fun h => by have := HS.out.lt _ h; omega
  have hz : (w.alloc (.cells #[.int .i64 u, .int .i64 l, .int .i64 h] 47)).heap.size = w.heap.size + 1 := by simp
  have HZ := Lib.hid hz
  clear hz y1 y2 y3 c1 hc
  generalize w.alloc (.cells #[.int .i64 u, .int .i64 l, .int .i64 h] 47) = W2 at *
  have n0 : W2.cell? ⟨w.heap.size, 0, none⟩ = some (.int .i64 u) := qn.cell 0
  have n1 : W2.cell? ⟨w.heap.size, 1, none⟩ = some (.int .i64 l) := qn.cell 1
  have HC1 := Lib.hid (HI1.out W2 hs2 hrd2)
  go_upto_region 14 with (go_at_call 99
                          (with_reducible refine HC1.out.mono ?_)
                          rintro e w3 ⟨r1, N1, G1, K1, rfl, R1, hs3, hk3, hK3⟩)
  obtain ⟨l1, hFX⟩ := HST.out r1 N1 G1 R1
  have HFX := Lib.hid hFX
  clear R1 HC1 hs2 hrd2 hFX n0 n1
  obtain ⟨x1, x2⟩ := HX.out
  rw [← HNN.out] at x2
  obtain ⟨hfz, q5, hq5, _, _⟩ := hs3.at_ (x := j + 2) x1 x2
  have hput := hs3.put (x := j + 2) x1 x2 r1
  have HPUT := Lib.hid hput
  clear hput
  have c5 : w3.cell? ⟨db, j, none⟩ = some (.int .i64 q5) := hq5
  have f5 : w3.frozen? ⟨db, j, none⟩ = false := hfz
  have hs3d := hs3.db
  clear hq5 hfz hs3
  go_wp2
  go_ret
  have z2 := HZ.out
  have z3 := hk3.size
  have T1 := (kW.mono (G := K) fun _ _ h => h.elim).trans hk3 fun _ _ h => h
  have KK : ∀ i, K1 i → K i ∨ w.heap.size ≤ i := fun i h => by
    rcases hK3 i h with h | h
    · exact .inl h
    · exact .inr (by omega)
  exact ⟨r1, N1, _, K1, rfl, HFX.out, HPUT.out, T1.setCell (p := ⟨db, j, none⟩) (KK _ hs3d) _, KK⟩

set_option maxRecDepth 100000 in
set_option maxHeartbeats 2000000 in
theorem fix_at1 {f : Nat} (ih : FixIH f) (ok : Fk.Ok ⟨ab, ob, db, V, A, ra, sa, v, true⟩) (hs : FSt w ⟨ab, ob, db, V, A, ra, sa, v, true⟩ N G K) (hrd : Fk.Rds ⟨ab, ob, db, V, A, ra, sa, v, true⟩ w K) (g : Dd.Good N) (m : FxMemo (rf v true) A N G) (h2 : 2 ≤ x) (hx : x < A.length + 2) (hf : x < f + 1)
    (hN : N.length + 2 ^ (24 - var A x) ≤ 1099511627776) (hr : G x = none) (hne : var A x = v) :
    Calls Tryz.prog 99 #[.pointer (some ⟨ab, 0, none⟩), .pointer (some ⟨ob, 0, none⟩), .int .i64 x, .int .i64 v, .bool true, .slice (some ⟨db, 0, none⟩) A.length A.length] w (FixPost ⟨ab, ob, db, V, A, ra, sa, v, true⟩ x N K w) := by
  have gA : Dd.Good A := ok.gA
  have lA : A.length ≤ 1200000 := ok.lA
  have a1 := gA.lo_lt x h2 hx
  have a2 := gA.hi_lt x h2 hx
  have b1 := gA.lo_var x h2 hx
  have b2 := gA.hi_var x h2 hx
  have c0 := gA.bound x h2 hx
  have p1 := Dd.fx_rise b1 (Dd.var_le gA (by omega))
  have p2 := Dd.fx_rise b2 (Dd.var_le gA (by omega))
  have t1 := Nat.two_pow_pos (24 - var A (lo A x))
  have t2 := Nat.two_pow_pos (24 - var A (Dd.hi A x))
  have q3 : 2 ^ (24 - var A (lo A x)) + 2 ^ (24 - var A (Dd.hi A x)) ≤ 2 ^ (24 - var A x) := by omega
  obtain ⟨_, q, hq, _, hq1⟩ := hs.at_ (x := x) h2 hx
  obtain rfl := hq1 hr
  have hI1 : ∀ w1, FSt w1 ⟨ab, ob, db, V, A, ra, sa, v, true⟩ N G K → Fk.Rds ⟨ab, ob, db, V, A, ra, sa, v, true⟩ w1 K → Calls Tryz.prog 99 #[.pointer (some ⟨ab, 0, none⟩), .pointer (some ⟨ob, 0, none⟩), .int .i64 (lo A x : Nat), .int .i64 v, .bool true, .slice (some ⟨db, 0, none⟩) A.length A.length] w1 (FixPost ⟨ab, ob, db, V, A, ra, sa, v, true⟩ (lo A x) N K w1) := fun w1 h h' =>
    ih ⟨ab, ob, db, V, A, ra, sa, v, true⟩ w1 N G K (lo A x) ok h h' g m (by show _ < A.length + 2; omega) (by omega) (by show _ + 2 ^ (24 - var A _) ≤ _; omega)
  have hI2 : ∀ w1 r1 N1 G1 K1, FxRel (rf v true) A N (lo A x) r1 N1 G1 → FSt w1 ⟨ab, ob, db, V, A, ra, sa, v, true⟩ N1 G1 K1 → Fk.Rds ⟨ab, ob, db, V, A, ra, sa, v, true⟩ w1 K1 → Calls Tryz.prog 99 #[.pointer (some ⟨ab, 0, none⟩), .pointer (some ⟨ob, 0, none⟩), .int .i64 (Dd.hi A x : Nat), .int .i64 v, .bool true, .slice (some ⟨db, 0, none⟩) A.length A.length] w1 (FixPost ⟨ab, ob, db, V, A, ra, sa, v, true⟩ (Dd.hi A x) N1 K1 w1) := fun w1 r1 N1 G1 K1 R1 h h' =>
    ih ⟨ab, ob, db, V, A, ra, sa, v, true⟩ w1 N1 G1 K1 (Dd.hi A x) ok h h' R1.good R1.memo (by show _ < A.length + 2; omega) (by omega) (by show _ + 2 ^ (24 - var A _) ≤ _; have := R1.len; omega)
  have hST : ∀ r1 r2 N1 N2 G1 G2, FxRel (rf v true) A N (lo A x) r1 N1 G1 → FxRel (rf v true) A N1 (Dd.hi A x) r2 N2 G2 → r2 ≤ 1099511627776 ∧ FxRel (rf v true) A N x r2 N2 (fun y => if y = x then some r2 else G2 y) := fun r1 r2 N1 N2 G1 G2 R1 R2 => ⟨by have := R1.len; have := R2.len; have := R2.lt; omega, Dd.fx_at1 gA h2 hx hne R1 R2⟩
  have HI1 := Lib.hid hI1
  have HI2 := Lib.hid hI2
  have HST := Lib.hid hST
  have HS := Lib.hid hs
  have HRD := Lib.hid hrd
  have hrd1 : Rd w sa 3 A.length (ndsC A) := hrd.2.1
  obtain ⟨A1, cA, hsa⟩ := rd_ge hrd1
  rw [hsa] at hrd1
  have hnd := hrd1.num (i := x) h2 hx
  have c1 : w.cell? ⟨ab, 1, none⟩ = some (.slice A1 A.length cA) := by rw [hrd.1.cell]; show some sa = _; rw [hsa]
  obtain ⟨bl, off, rfl, _, y1, y2, y3⟩ := hnd
  have hnv : ((var A x : Int) == (v : Int)) = true := by simp [hne]
  have HX := Lib.hid (And.intro h2 hx)
  clear hI1 hI2 hST hs hrd hrd1 hsa ih g m hr hne p1 p2 t1 t2 q3 hq1 ok gA hN
  obtain ⟨j, rfl⟩ : ∃ j, x = j + 2 := ⟨x - 2, by omega⟩
  simp only [Nat.add_sub_cancel] at hq y1 y2 y3
  have hc : w.cell? ⟨db, j, none⟩ = some (.int .i64 0) := by simpa using hq
  clear hq a1 a2 b1 b2
  generalize hu : var A (j + 2) = u at *
  generalize hll : lo A (j + 2) = l at *
  generalize hhh : Dd.hi A (j + 2) = h at *
  have HU := Lib.hid (And.intro hu (And.intro hll hhh))
  clear hu hll hhh
  have hj : j < A.length := by omega
  generalize hn : A.length = n at *
  have HNN := Lib.hid hn
  clear hn
  go_enter Tryz.func99, Tryz.ntmps99
  go_upto_region 7 with (fail)
  have kW : Keep NoF w (w.alloc (.cells #[.int .i64 u, .int .i64 l, .int .i64 h] 47)) := (Keep.refl _ _).alloc _
  have qn : Bk (w.alloc (.cells #[.int .i64 u, .int .i64 l, .int .i64 h] 47)) w.heap.size 47 #[.int .i64 u, .int .i64 l, .int .i64 h] := Bk.new _ _ _
  have hs2 := HS.out.kept kW fun _ _ h => h
  have hrd2 := HRD.out.next (kW.mono (G := K) fun _ _ h => h.elim) fun i h => .inl h
  have hnK : ¬ K w.heap.size := fun h => by have := HS.out.lt _ h; omega
  have hz : (w.alloc (.cells #[.int .i64 u, .int .i64 l, .int .i64 h] 47)).heap.size = w.heap.size + 1 := by simp
  have HZ := Lib.hid hz
  clear hz y1 y2 y3 c1 hc
  generalize w.alloc (.cells #[.int .i64 u, .int .i64 l, .int .i64 h] 47) = W2 at *
  have n0 : W2.cell? ⟨w.heap.size, 0, none⟩ = some (.int .i64 u) := qn.cell 0
  have n1 : W2.cell? ⟨w.heap.size, 1, none⟩ = some (.int .i64 l) := qn.cell 1
  have HC1 := Lib.hid (HI1.out W2 hs2 hrd2)
  go_upto_region 10 with (go_at_call 99
                          (with_reducible refine HC1.out.mono ?_)
                          rintro e w3 ⟨r1, N1, G1, K1, rfl, R1, hs3, hk3, hK3⟩)
  have qn3 := qn.keep hk3 hnK
  have hnK3 : ¬ K1 w.heap.size := fun h => by
    rcases hK3 _ h with h | h
    · exact hnK h
    · have := qn.lt; omega
  have hrd3 := hrd2.next hk3 hK3
  have n2 : w3.cell? ⟨w.heap.size, 2, none⟩ = some (.int .i64 h) := qn3.cell 2
  have HC2 := Lib.hid (HI2.out w3 r1 N1 G1 K1 R1 hs3 hrd3)
  have HR1 := Lib.hid R1
  clear R1 n0 n1 HC1 hs2 hrd2
  go_upto_region 14 with (go_at_call 99
                          (with_reducible refine HC2.out.mono ?_)
                          rintro e w4 ⟨r2, N2, G2, K2, rfl, R2, hs4, hk4, hK4⟩)
  obtain ⟨l1, hFX⟩ := HST.out r1 r2 N1 N2 G1 G2 HR1.out R2
  have HFX := Lib.hid hFX
  clear R2 HC2 hrd3 hs3 hFX n2
  obtain ⟨x1, x2⟩ := HX.out
  rw [← HNN.out] at x2
  obtain ⟨hfz, q5, hq5, _, _⟩ := hs4.at_ (x := j + 2) x1 x2
  have hput := hs4.put (x := j + 2) x1 x2 r2
  have HPUT := Lib.hid hput
  clear hput
  have c5 : w4.cell? ⟨db, j, none⟩ = some (.int .i64 q5) := hq5
  have f5 : w4.frozen? ⟨db, j, none⟩ = false := hfz
  have hs4d := hs4.db
  clear hq5 hfz hs4
  go_wp2
  go_ret
  have z2 := HZ.out
  have z3 := hk3.size
  have T1 := (kW.mono (G := K) fun _ _ h => h.elim).trans hk3 fun _ _ h => h
  have z4 := hk4.size
  have T2 := T1.trans hk4 fun i hi h => by
    rcases hK3 i h with h | h
    · exact h
    · omega
  have KK : ∀ i, K2 i → K i ∨ w.heap.size ≤ i := fun i h => by
    rcases hK4 i h with h | h
    · rcases hK3 i h with h | h
      · exact .inl h
      · exact .inr (by omega)
    · exact .inr (by omega)
  exact ⟨r2, N2, _, K2, rfl, HFX.out, HPUT.out, T2.setCell (p := ⟨db, j, none⟩) (KK _ hs4d) _, KK⟩

/-- The function fix, of whatever number. -/
theorem fix_fuel : ∀ f, FixIH f := by
  intro f
  induction f with
  | zero => intro k w N G K x _ _ _ _ _ _ h; omega
  | succ f ih =>
    rintro ⟨ab, ob, db, V, A, ra, sa, v, t⟩ w N G K x ok hs hrd g m hx hf hN
    have hN' : N.length ≤ 1099511627776 := by have := Nat.two_pow_pos (24 - var A x); simp only at hN; omega
    by_cases h2 : 2 ≤ x
    · cases hr : G x with
      | some r => exact fix_hit ok.lA hN' hs g m h2 hx hr
      | none =>
        by_cases hv : var A x = v
        · cases t
          · exact fix_at0 ih ok hs hrd g m h2 hx hf hN hr hv
          · exact fix_at1 ih ok hs hrd g m h2 hx hf hN hr hv
        · exact fix_step ih ok hs hrd g m h2 hx hf hN hr hv
    · exact fix_const hs g m (by omega)
end
end Go.Proofs.YtgdmcidcappkpaaGreat
namespace Go.Proofs.YtgdmcidcappkpaaGreat
open Go.RowKit
open Dd (Rn rat ofN toN checkErr den lo var vr mk FxRel FxMemo rf canon Within)

theorem within_rf {V i : Nat} {t : Bool} {f : (Nat → Bool) → Bool} (h : Within V f) (hi : i < V) : Within V (rf i t f) := by
  intro v hv ρ b
  unfold rf
  rw [show Dd.upd (Dd.upd ρ v b) i t = Dd.upd (Dd.upd ρ i t) v b from ?_]
  · exact h v hv _ b
  · funext x
    unfold Dd.upd
    by_cases h1 : x = i
    · by_cases h2 : x = v
      · omega
      · simp [h1, h2]; intro h3; omega
    · by_cases h2 : x = v
      · simp [h2, show ¬ v = i by omega]
      · simp [h1, h2]

set_option maxRecDepth 100000 in
set_option maxHeartbeats 2000000 in
theorem rrestrict_any (V : Nat) (hV : V ≤ 24) {f : (Nat → Bool) → Bool} {A : Option Addr} {n c r : Nat} {M : List Dd.Nd} {w : World} (H : Opd w V f A n c r M) (i : Nat) (hi : i < V) (t : Bool) :
    Calls Tryz.prog 76 #[.agg #[.int .i64 V, .slice A n c, .int .i64 r], .int .i64 i, .bool t] w (FPost w V (rf i t f)) := by
  have hn := H.len
  have hM := H.small
  have hrd := H.rd
  have HH := Lib.hid (And.intro H hV)
  have hn1 : n ≤ 1200000 := by omega
  clear H hV
  have HNL := Lib.hid hn
  clear hn
  go_enter Tryz.func76, Tryz.ntmps76
  go_upto_region 2 with (fail)
  have kw : Keep NoF w (((w.alloc (.cells #[.int .i64 V, .slice A n c, .int .i64 r] 24)).alloc (.cells #[.int .i64 0, .slice none 0 0, .int .i64 0] 24)).alloc (.cells #[.int .i64 V, .slice none 0 0, .int .i64 0] 24)) := (((Keep.refl _ _).alloc _).alloc _).alloc _
  have qd : Bk (((w.alloc (.cells #[.int .i64 V, .slice A n c, .int .i64 r] 24)).alloc (.cells #[.int .i64 0, .slice none 0 0, .int .i64 0] 24)).alloc (.cells #[.int .i64 V, .slice none 0 0, .int .i64 0] 24)) w.heap.size 24 #[.int .i64 V, .slice A n c, .int .i64 r] := ((Bk.new' _ _ _ (by simp)).alloc _).alloc _
  have qz : Bk (((w.alloc (.cells #[.int .i64 V, .slice A n c, .int .i64 r] 24)).alloc (.cells #[.int .i64 0, .slice none 0 0, .int .i64 0] 24)).alloc (.cells #[.int .i64 V, .slice none 0 0, .int .i64 0] 24)) (w.heap.size + 1) 24 #[.int .i64 0, .slice none 0 0, .int .i64 0] := (Bk.new' _ _ _ (by simp)).alloc _
  have qo : Bk (((w.alloc (.cells #[.int .i64 V, .slice A n c, .int .i64 r] 24)).alloc (.cells #[.int .i64 0, .slice none 0 0, .int .i64 0] 24)).alloc (.cells #[.int .i64 V, .slice none 0 0, .int .i64 0] 24)) (w.heap.size + 1 + 1) 24 #[.int .i64 V, .slice none 0 0, .int .i64 0] := Bk.new' _ _ _ (by simp)
  have hz : (((w.alloc (.cells #[.int .i64 V, .slice A n c, .int .i64 r] 24)).alloc (.cells #[.int .i64 0, .slice none 0 0, .int .i64 0] 24)).alloc (.cells #[.int .i64 V, .slice none 0 0, .int .i64 0] 24)).heap.size = w.heap.size + 1 + 1 + 1 := by simp
  have HZ := Lib.hid hz
  have hzl : w.heap.size + 1 + 1 < (((w.alloc (.cells #[.int .i64 V, .slice A n c, .int .i64 r] 24)).alloc (.cells #[.int .i64 0, .slice none 0 0, .int .i64 0] 24)).alloc (.cells #[.int .i64 V, .slice none 0 0, .int .i64 0] 24)).heap.size := by omega
  have hr3 := hrd.kept kw fun _ _ h => h
  clear hz
  generalize ((w.alloc (.cells #[.int .i64 V, .slice A n c, .int .i64 r] 24)).alloc (.cells #[.int .i64 0, .slice none 0 0, .int .i64 0] 24)).alloc (.cells #[.int .i64 V, .slice none 0 0, .int .i64 0] 24) = W3 at *
  have c1 : W3.cell? ⟨w.heap.size, 1, none⟩ = some (.slice A n c) := qd.cell 1
  have c2 : W3.cell? ⟨w.heap.size, 2, none⟩ = some (.int .i64 r) := qd.cell 2
  have hmk := run_make_ints n (by omega)
  have kP : Keep NoF W3 (W3.alloc (.cells (inA (List.replicate n 0)) 3)).drew := ((Keep.refl _ _).alloc _).drew
  have pP : Bk (W3.alloc (.cells (inA (List.replicate n 0)) 3)).drew W3.heap.size 3 (inA (List.replicate n 0)) := Bk.drew (Bk.new W3 _ _)
  have kd4 := qd.keep kP (fun h => h)
  have kz4 := qz.keep kP (fun h => h)
  have ko4 := qo.keep kP (fun h => h)
  have hr4 := hr3.kept kP fun _ _ h => h
  have l3 : w.heap.size < W3.heap.size := qd.lt
  have hEq : M.length = n := HNL.out.symm
  have HC : Hid (Calls Tryz.prog 99 #[.pointer (some ⟨w.heap.size, 0, none⟩), .pointer (some ⟨w.heap.size + 1 + 1, 0, none⟩), .int .i64 r, .int .i64 i, .bool t, .slice (some ⟨W3.heap.size, 0, none⟩) n n] (W3.alloc (.cells (inA (List.replicate n 0)) 3)).drew
      (FixPost ⟨w.heap.size, w.heap.size + 1 + 1, W3.heap.size, V, M, r, .slice A n c, i, t⟩ r [] (fun k => k = w.heap.size + 1 + 1 ∨ k = W3.heap.size) (W3.alloc (.cells (inA (List.replicate n 0)) 3)).drew)) := Lib.hid (by
    have := fix_fuel (r + 1) ⟨w.heap.size, w.heap.size + 1 + 1, W3.heap.size, V, M, r, .slice A n c, i, t⟩ (W3.alloc (.cells (inA (List.replicate n 0)) 3)).drew [] (fun _ => none) (fun k => k = w.heap.size + 1 + 1 ∨ k = W3.heap.size) r
      ⟨HH.out.1.good, hM, by have := HH.out.2; show i < 24; omega⟩
      ⟨.slice none 0 0, List.replicate n 0, ko4, World.ownsRow_nil _ _ _ _, pP, by simp [hEq], fun x _ _ => by
        unfold AP
        rw [if_pos]
        rw [List.getD_eq_getElem?_getD, List.getElem?_replicate]
        split <;> rfl, fun k => by simp [Value.ownBlock]⟩
      ⟨kd4, by show Rd _ (.slice A n c) 3 M.length _; rw [hEq]; exact hr4, by show ¬ (w.heap.size = _ ∨ w.heap.size = _); omega, fun h0 k hk => by
        have h0' : 0 < n := by rw [← hEq]; exact h0
        have := hrd.blk_lt h0' (by omega) k hk
        omega⟩
      Dd.Good.nil (Dd.FxMemo.none _ _ _) HH.out.1.root (by omega)
      (by
        have : 2 ^ (24 - var M r) ≤ 2 ^ 24 := Nat.pow_le_pow_right (by omega) (by omega)
        simp only [List.length_nil]
        omega)
    simp only [hEq] at this
    exact this)
  clear pP ko4 hr4 hr3 hEq
  have hz4 : (W3.alloc (.cells (inA (List.replicate n 0)) 3)).drew.heap.size = W3.heap.size + 1 := by simp
  have HZ4 := Lib.hid hz4
  clear hz4
  go_region_held3 (fun w' => w'.cell? ⟨w.heap.size, 1, none⟩ = some (.slice A n c) ∧ w'.cell? ⟨w.heap.size, 2, none⟩ = some (.int .i64 r))
    (first
      | with_reducible exact ⟨c1, c2⟩
      | with_reducible exact ⟨d1, d2⟩
      | with_reducible exact ⟨g1, g2⟩
      | exact ⟨c1, c2⟩
      | exact ⟨(hd5.far (p := ⟨w.heap.size + 1 + 1, 2, none⟩) (by show w.heap.size ≠ w.heap.size + 1 + 1; omega) _).cell 1, (hd5.far (p := ⟨w.heap.size + 1 + 1, 2, none⟩) (by show w.heap.size ≠ w.heap.size + 1 + 1; omega) _).cell 2⟩
      | exact ⟨kd4.cell 1, kd4.cell 2⟩)
    ((go_at_call 99
      (with_reducible refine HC.out.mono ?_)
      rintro e w5 ⟨v1, D, G5, K5, rfl, R5, hs5, hk5, hK5⟩
      have hd5 := kd4.keep hk5 (by omega)
      have d1 : w5.cell? ⟨w.heap.size, 1, none⟩ = some (.slice A n c) := hd5.cell 1
      have d2 : w5.cell? ⟨w.heap.size, 2, none⟩ = some (.int .i64 r) := hd5.cell 2
      obtain ⟨dv, P, od, oo, op, ol, ox, oK⟩ := hs5
      simp only at oo od
      obtain ⟨A', c', rfl⟩ := own_form oo
      have o0 : w5.cell? ⟨w.heap.size + 1 + 1, 0, none⟩ = some (.int .i64 V) := od.cell 0
      have o1 : w5.cell? ⟨w.heap.size + 1 + 1, 1, none⟩ = some (.slice A' D.length c') := od.cell 1
      have o2 : w5.cell? ⟨w.heap.size + 1 + 1, 2, none⟩ = some (.int .i64 0) := od.cell 2
      have of2 := od.frozen 2
      have HR := Lib.hid R5
      clear R5))
  have hkP : ∀ i, i < w.heap.size → ¬ (i = w.heap.size + 1 + 1 ∨ i = W3.heap.size) := fun i hi h => by omega
  have A5 : Keep NoF w w5 := (kw.trans kP fun _ _ h => h).trans hk5 fun i hi h => (hkP i hi h).elim
  have hz5 := (kz4.keep hk5 (by omega)).far (p := ⟨w.heap.size + 1 + 1, 2, none⟩) (by show w.heap.size + 1 ≠ w.heap.size + 1 + 1; omega) (.int .i64 (v1 : Nat))
  have od6 := od.put 2 (.int .i64 (v1 : Nat))
  have hdne : (Value.slice A' D.length c').ownBlock ≠ some (w.heap.size + 1 + 1) := own_ne_bk oo od (by decide)
  have ro6 : Rd (w5.setCell ⟨w.heap.size + 1 + 1, 2, none⟩ (.int .i64 (v1 : Nat))) (.slice A' D.length c') 3 D.length (ndsC D) :=
    Rd.kept (F := fun k => k = w.heap.size + 1 + 1) (Rd.of_own oo) ((Keep.refl (fun k => k = w.heap.size + 1 + 1) w5).setCell (p := ⟨w.heap.size + 1 + 1, 2, none⟩) (.inl rfl) _) fun k hk e => hdne (e ▸ hk)
  have A6 : Keep NoF w (w5.setCell ⟨w.heap.size + 1 + 1, 2, none⟩ (.int .i64 (v1 : Nat))) := A5.setCell (p := ⟨w.heap.size + 1 + 1, 2, none⟩) (.inr (by show w.heap.size ≤ w.heap.size + 1 + 1; omega)) _
  have hlen : D.length ≤ 1099510000000 := by
    have h1 := HR.out.len
    have h2 : 2 ^ (24 - var M r) ≤ 2 ^ 24 := Nat.pow_le_pow_right (by omega) (by omega)
    simp only [List.length_nil] at h1
    omega
  have HCC0 := canonical_any V D (.slice A' D.length c') v1 _ HR.out.good HR.out.lt hlen ro6
  clear od oo op o0 o1 o2 of2 d1 d2 hd5 c1 c2 ro6 hlen
  generalize w5.setCell ⟨w.heap.size + 1 + 1, 2, none⟩ (.int .i64 (v1 : Nat)) = w6 at *
  generalize hC : canon D v1 = C at *
  obtain ⟨C1, C2⟩ := C
  have HCE := Lib.hid hC
  have HCC := Lib.hid HCC0
  clear hC HCC0 HC
  have o0 : w6.cell? ⟨w.heap.size + 1 + 1, 0, none⟩ = some (.int .i64 V) := od6.cell 0
  have o1 : w6.cell? ⟨w.heap.size + 1 + 1, 1, none⟩ = some (.slice A' D.length c') := od6.cell 1
  have o2 : w6.cell? ⟨w.heap.size + 1 + 1, 2, none⟩ = some (.int .i64 v1) := od6.cell 2
  go_wp2_with (go_at_call 90
               (with_reducible refine HCC.out.mono ?_)
               rintro e w7 ⟨Aq, cq, rfl, hrd7, hk7, hf7⟩
               have qz7 := hz5.keep hk7 (fun h => h)
               have z0 : w7.cell? ⟨w.heap.size + 1, 0, none⟩ = some (.int .i64 0) := qz7.cell 0
               have z1 : w7.cell? ⟨w.heap.size + 1, 1, none⟩ = some (.slice none 0 0) := qz7.cell 1
               have z2 : w7.cell? ⟨w.heap.size + 1, 2, none⟩ = some (.int .i64 0) := qz7.cell 2
               have f0 := qz7.frozen 0
               have f1 := qz7.frozen 1
               have f2 := qz7.frozen 2)
  have hx := ((qz7.put 0 (.int .i64 V)).put 1 (.slice Aq C2.length cq)).put 2 (.int .i64 C1)
  have hz6 := A6.size
  have hz7 := hk7.size
  have hzl2 : w.heap.size + 1 < w6.heap.size := hz5.lt
  have A7 : Keep NoF w w7 := A6.trans hk7 fun _ _ h => h
  have hkf := A7.set3 (b := w.heap.size + 1) (by omega) (.int .i64 V) (.slice Aq C2.length cq) (.int .i64 C1)
  have hrf : Rd (((w7.setCell ⟨w.heap.size + 1, 0, none⟩ (.int .i64 V)).setCell ⟨w.heap.size + 1, 1, none⟩ (.slice Aq C2.length cq)).setCell ⟨w.heap.size + 1, 2, none⟩ (.int .i64 C1)) (.slice Aq C2.length cq) 3 C2.length (ndsC C2) := hrd7.kept (keep_set3 w7 (w.heap.size + 1) _ _ _) fun k hk (e : k = w.heap.size + 1) => by have := hf7 k hk; omega
  generalize ((w7.setCell ⟨w.heap.size + 1, 0, none⟩ (.int .i64 V)).setCell ⟨w.heap.size + 1, 1, none⟩ (.slice Aq C2.length cq)).setCell ⟨w.heap.size + 1, 2, none⟩ (.int .i64 C1) = W7 at *
  have x0 : W7.cell? ⟨w.heap.size + 1, 0, none⟩ = some (.int .i64 V) := hx.cell 0
  have x1 : W7.cell? ⟨w.heap.size + 1, 1, none⟩ = some (.slice Aq C2.length cq) := hx.cell 1
  have x2 : W7.cell? ⟨w.heap.size + 1, 2, none⟩ = some (.int .i64 C1) := hx.cell 2
  refine bodyPost_ret (v := .agg #[.int .i64 V, .slice Aq C2.length cq, .int .i64 C1]) (by simp [results, Tryz.results76, go_sem, x0, x1, x2]) rfl ?_
  refine ⟨D, v1, HR.out.good, HR.out.lt, fun ρ => ?_, ?_⟩
  · rw [HR.out.den]
    unfold rf
    exact HH.out.1.den _
  · rw [HCE.out]
    exact ⟨Aq, cq, rfl, hrf, hkf, fun k hk => by have := hf7 k hk; omega⟩
end Go.Proofs.YtgdmcidcappkpaaGreat
namespace Go.Proofs.YtgdmcidcappkpaaGreat
open Go.RowKit
open Dd (Rn rat ofN toN checkErr den lo var vr mk BOp canon rf)

set_option maxRecDepth 100000 in
set_option maxHeartbeats 2000000 in
theorem rRestrict_any (a : Dg) (i : Int) (t : Bool) (w : World) (ha : a.In w) : Calls Tryz.prog 45 #[a.val, .int .i64 i, .bool t] w (ErrOr w (resErr a i) (OpPost w a.V [a] (rSem i.toNat t))) := by
  have HT := Lib.hid fun (w1 : World) (hk : Keep NoF w w1) => (show Calls Tryz.prog 71 #[a.val] w1 (fun e w' => e = .returned (.int .i64 a.err) ∧ Keep NoF w1 w') from rcheck_any a.V a.R a.root a.sl w1 ha.2 (ha.1.kept hk fun _ _ h => h))
  by_cases hte : a.err = 0
  · have hre : resErr a i = if i < 0 ∨ a.V ≤ i then 2 else 0 := by unfold resErr; rw [if_neg (by simp [hte])]
    rw [hte] at HT
    have hop : opErr a.V [a] = 0 := by simp [opErr, dgErr, hte]
    obtain ⟨v', M1, r1, A1, c1, e1, f1, O1, v1, hden⟩ := opd_of a w ha hte
    have hpost : ∀ e w', (∃ N s, Dd.Good N ∧ s < N.length + 2 ∧ (∀ ρ, den N s ρ = rf i.toNat t a.fn ρ) ∧ DgRes w.heap.size v' (canon N s) e w') → Keep NoF w w' → OpPost w a.V [a] (rSem i.toNat t) e w' := fun e w' hh hk => by
      obtain ⟨N, s, g1, g2, g3, g4⟩ := hh
      refine ⟨fun h => absurd hop h, fun _ => ⟨N, s, g1, g2, fun ρ => ?_, by rw [e1]; exact g4⟩, hk⟩
      rw [g3]
      simp [rSem]
    have HP : Hid (∀ e w', (resErr a i ≠ 0 → e = .returned (.tuple #[dgZero, .int .i64 (resErr a i)]) ∧ Keep NoF w w') → (resErr a i = 0 → OpPost w a.V [a] (rSem i.toNat t) e w') → ErrOr w (resErr a i) (OpPost w a.V [a] (rSem i.toNat t)) e w') := Lib.hid fun e w' h1 h2 => ⟨h1, h2⟩
    have hv24 := v1.vars
    generalize ErrOr w (resErr a i) (OpPost w a.V [a] (rSem i.toNat t)) = PP at *
    rw [e1] at hre
    have HRE := Lib.hid hre
    generalize resErr a i = re at *
    generalize OpPost w a.V [a] (rSem i.toNat t) = PQ at *
    rw [f1] at HT ⊢
    clear hop e1 f1 hte ha v1 hden hre
    generalize a.fn = fa at *
    have k1 : Keep NoF w ((w.alloc (.cells #[.int .i64 v', .slice A1 M1.length c1, .int .i64 r1] 24)).alloc (.cells #[.int .i64 0, .slice none 0 0, .int .i64 0] 24)) := ((Keep.refl _ _).alloc _).alloc _
    have qa : Bk ((w.alloc (.cells #[.int .i64 v', .slice A1 M1.length c1, .int .i64 r1] 24)).alloc (.cells #[.int .i64 0, .slice none 0 0, .int .i64 0] 24)) w.heap.size 24 #[.int .i64 v', .slice A1 M1.length c1, .int .i64 r1] := (Bk.new' _ _ _ (by simp)).alloc _
    have qz : Bk ((w.alloc (.cells #[.int .i64 v', .slice A1 M1.length c1, .int .i64 r1] 24)).alloc (.cells #[.int .i64 0, .slice none 0 0, .int .i64 0] 24)) (w.heap.size + 1) 24 #[.int .i64 0, .slice none 0 0, .int .i64 0] := Bk.new' _ _ _ (by simp)
    go_enter Tryz.func45, Tryz.ntmps45
    go_upto_region 1 with (fail)
    generalize (w.alloc (.cells #[.int .i64 v', .slice A1 M1.length c1, .int .i64 r1] 24)).alloc (.cells #[.int .i64 0, .slice none 0 0, .int .i64 0] 24) = W2 at *
    have a0 : W2.cell? ⟨w.heap.size, 0, none⟩ = some (.int .i64 v') := qa.cell 0
    have a1 : W2.cell? ⟨w.heap.size, 1, none⟩ = some (.slice A1 M1.length c1) := qa.cell 1
    have a2 : W2.cell? ⟨w.heap.size, 2, none⟩ = some (.int .i64 r1) := qa.cell 2
    have HT2 := Lib.hid (HT.out _ k1)
    have HPOST := Lib.hid hpost
    clear hpost
    go_upto_region 2 with (go_at_call 71
                           (with_reducible refine HT2.out.mono ?_)
                           rintro e w4 ⟨rfl, hk4⟩)
    have k4 := k1.trans hk4 fun _ _ h => h
    have qa4 := qa.keep hk4 (fun h => h)
    have qz4 := qz.keep hk4 (fun h => h)
    have g0 : w4.cell? ⟨w.heap.size, 0, none⟩ = some (.int .i64 v') := qa4.cell 0
    have g1 : w4.cell? ⟨w.heap.size, 1, none⟩ = some (.slice A1 M1.length c1) := qa4.cell 1
    have g2 : w4.cell? ⟨w.heap.size, 2, none⟩ = some (.int .i64 r1) := qa4.cell 2
    have hs4 := k4.size
    by_cases hneg : i < 0
    · have hre : re = 2 := by rw [HRE.out, if_pos (.inl hneg)]
      have HREE := Lib.hid hre
      clear hre
      have z0 : w4.cell? ⟨w.heap.size + 1, 0, none⟩ = some (.int .i64 0) := qz4.cell 0
      have z1 : w4.cell? ⟨w.heap.size + 1, 1, none⟩ = some (.slice none 0 0) := qz4.cell 1
      have z2 : w4.cell? ⟨w.heap.size + 1, 2, none⟩ = some (.int .i64 0) := qz4.cell 2
      have f0 := qz4.frozen 0
      have f1 := qz4.frozen 1
      have f2 := qz4.frozen 2
      go_wp2
      have hx := ((qz4.put 0 (.int .i64 0)).put 1 (.slice none 0 0)).put 2 (.int .i64 0)
      have hkf := k4.set3 (b := w.heap.size + 1) (by omega) (.int .i64 0) (.slice none 0 0) (.int .i64 0)
      generalize ((w4.setCell ⟨w.heap.size + 1, 0, none⟩ (.int .i64 0)).setCell ⟨w.heap.size + 1, 1, none⟩ (.slice none 0 0)).setCell ⟨w.heap.size + 1, 2, none⟩ (.int .i64 0) = W6 at *
      have hx0 : W6.cell? ⟨w.heap.size + 1, 0, none⟩ = some (.int .i64 0) := hx.cell 0
      have hx1 : W6.cell? ⟨w.heap.size + 1, 1, none⟩ = some (.slice none 0 0) := hx.cell 1
      have hx2 : W6.cell? ⟨w.heap.size + 1, 2, none⟩ = some (.int .i64 0) := hx.cell 2
      refine bodyPost_ret (v := .tuple #[.agg #[.int .i64 0, .slice none 0 0, .int .i64 0], .int .i64 2]) (by simp [results, Tryz.results45, go_sem, hx0, hx1, hx2]) rfl ?_
      exact HP.out _ _ (fun _ => ⟨by rw [HREE.out]; rfl, hkf⟩) fun h => absurd (HREE.out.symm.trans h) (by omega)
    · by_cases hge : (v' : Int) ≤ i
      · have hre : re = 2 := by rw [HRE.out, if_pos (.inr hge)]
        have HREE := Lib.hid hre
        clear hre
        have z0 : w4.cell? ⟨w.heap.size + 1, 0, none⟩ = some (.int .i64 0) := qz4.cell 0
        have z1 : w4.cell? ⟨w.heap.size + 1, 1, none⟩ = some (.slice none 0 0) := qz4.cell 1
        have z2 : w4.cell? ⟨w.heap.size + 1, 2, none⟩ = some (.int .i64 0) := qz4.cell 2
        have f0 := qz4.frozen 0
        have f1 := qz4.frozen 1
        have f2 := qz4.frozen 2
        go_wp2
        have hx := ((qz4.put 0 (.int .i64 0)).put 1 (.slice none 0 0)).put 2 (.int .i64 0)
        have hkf := k4.set3 (b := w.heap.size + 1) (by omega) (.int .i64 0) (.slice none 0 0) (.int .i64 0)
        generalize ((w4.setCell ⟨w.heap.size + 1, 0, none⟩ (.int .i64 0)).setCell ⟨w.heap.size + 1, 1, none⟩ (.slice none 0 0)).setCell ⟨w.heap.size + 1, 2, none⟩ (.int .i64 0) = W6 at *
        have hx0 : W6.cell? ⟨w.heap.size + 1, 0, none⟩ = some (.int .i64 0) := hx.cell 0
        have hx1 : W6.cell? ⟨w.heap.size + 1, 1, none⟩ = some (.slice none 0 0) := hx.cell 1
        have hx2 : W6.cell? ⟨w.heap.size + 1, 2, none⟩ = some (.int .i64 0) := hx.cell 2
        refine bodyPost_ret (v := .tuple #[.agg #[.int .i64 0, .slice none 0 0, .int .i64 0], .int .i64 2]) (by simp [results, Tryz.results45, go_sem, hx0, hx1, hx2]) rfl ?_
        exact HP.out _ _ (fun _ => ⟨by rw [HREE.out]; rfl, hkf⟩) fun h => absurd (HREE.out.symm.trans h) (by omega)
      · have hre : Hid (re = 0) := Lib.hid (by rw [HRE.out, if_neg (by omega)])
        obtain ⟨n, rfl⟩ : ∃ n : Nat, i = n := ⟨i.toNat, by omega⟩
        have HC := Lib.hid (rrestrict_any v' hv24 (O1.keep k4) n (by omega) t)
        go_wp2_with (first
          | (go_at_call 76
             (with_reducible refine HC.out.mono ?_)
             rintro e w7 ⟨N, s, hg, ht, hd, A', c', rfl, hrd7, hk7, hf7⟩
             generalize hC : canon N s = C at *
             obtain ⟨C1, C2⟩ := C
             have HCE := Lib.hid (And.intro hg (And.intro ht (And.intro hd hC)))
             clear hC hg ht hd
             have HLL := Lib.hid (limited_res (H := w4.heap.size) v' C1 C2 A' c' w7 hrd7 hf7)
             have qz7 := qz4.keep hk7 (fun h => h))
          | (go_at_call 68
             (with_reducible refine HLL.out.mono ?_)
             rintro e w8 ⟨hres, hk8⟩
             obtain ⟨V', r', err, A'', n'', cc', rfl, hout⟩ := hres.out
             have qz8 := qz7.keep hk8 (fun h => h)
             have z0 : w8.cell? ⟨w.heap.size + 1, 0, none⟩ = some (.int .i64 0) := qz8.cell 0
             have z1 : w8.cell? ⟨w.heap.size + 1, 1, none⟩ = some (.slice none 0 0) := qz8.cell 1
             have z2 : w8.cell? ⟨w.heap.size + 1, 2, none⟩ = some (.int .i64 0) := qz8.cell 2
             have f0 := qz8.frozen 0
             have f1 := qz8.frozen 1
             have f2 := qz8.frozen 2))
        have hx := ((qz8.put 0 (.int .i64 V')).put 1 (.slice A'' n'' cc')).put 2 (.int .i64 r')
        have hzl : w.heap.size + 1 < W2.heap.size := qz.lt
        have hz4 := hk4.size
        have A8 : Keep NoF w w8 := (k4.trans hk7 fun _ _ h => h).trans hk8 fun _ _ h => h
        have hkf := A8.set3 (b := w.heap.size + 1) (by omega) (.int .i64 V') (.slice A'' n'' cc') (.int .i64 r')
        have hset : ∀ k, k ≠ w.heap.size + 1 → (((w8.setCell ⟨w.heap.size + 1, 0, none⟩ (.int .i64 V')).setCell ⟨w.heap.size + 1, 1, none⟩ (.slice A'' n'' cc')).setCell ⟨w.heap.size + 1, 2, none⟩ (.int .i64 r')).heap[k]? = w8.heap[k]? := fun k hne => ((Below.heap_setCell _ _ _ k hne).trans (Below.heap_setCell _ _ _ k hne)).trans (Below.heap_setCell _ _ _ k hne)
        generalize ((w8.setCell ⟨w.heap.size + 1, 0, none⟩ (.int .i64 V')).setCell ⟨w.heap.size + 1, 1, none⟩ (.slice A'' n'' cc')).setCell ⟨w.heap.size + 1, 2, none⟩ (.int .i64 r') = W6 at *
        have hx0 : W6.cell? ⟨w.heap.size + 1, 0, none⟩ = some (.int .i64 V') := hx.cell 0
        have hx1 : W6.cell? ⟨w.heap.size + 1, 1, none⟩ = some (.slice A'' n'' cc') := hx.cell 1
        have hx2 : W6.cell? ⟨w.heap.size + 1, 2, none⟩ = some (.int .i64 r') := hx.cell 2
        refine bodyPost_ret (v := .tuple #[.agg #[.int .i64 V', .slice A'' n'' cc', .int .i64 r'], .int .i64 err]) (by simp [results, Tryz.results45, go_sem, hx0, hx1, hx2]) rfl ?_
        obtain ⟨hg, ht, hd, hC⟩ := HCE.out
        exact HP.out _ _ (fun h => absurd hre.out h) fun _ => HPOST.out _ _ ⟨N, s, hg, ht, hd, by rw [hC]; exact DgRes.move hout (by omega) fun k hk => hset k (by omega)⟩ hkf
  · have hre : resErr a i = a.err := by unfold resErr; rw [if_pos hte]
    have HP : Hid (∀ e w', e = .returned (.tuple #[dgZero, .int .i64 a.err]) → Keep NoF w w' → ErrOr w (resErr a i) (OpPost w a.V [a] (rSem i.toNat t)) e w') := Lib.hid fun e w' he hk => ⟨fun _ => ⟨by rw [he, hre], hk⟩, fun h => absurd (hre ▸ h) hte⟩
    have ha1 := ha.1
    generalize ErrOr w (resErr a i) (OpPost w a.V [a] (rSem i.toNat t)) = PP at *
    clear hre
    generalize a.err = te at *
    obtain ⟨V1, R1, r1, s1⟩ := a
    simp only at ha1
    obtain ⟨_, A1, c1, rfl, _, _⟩ := ha1
    simp only [Dg.val] at HT ⊢
    clear ha
    have e1 : (te != 0) = true := by simp [hte]
    have k1 : Keep NoF w ((w.alloc (.cells #[.int .i64 V1, .slice A1 R1.length c1, .int .i64 r1] 24)).alloc (.cells #[.int .i64 0, .slice none 0 0, .int .i64 0] 24)) := ((Keep.refl _ _).alloc _).alloc _
    have qa : Bk ((w.alloc (.cells #[.int .i64 V1, .slice A1 R1.length c1, .int .i64 r1] 24)).alloc (.cells #[.int .i64 0, .slice none 0 0, .int .i64 0] 24)) w.heap.size 24 #[.int .i64 V1, .slice A1 R1.length c1, .int .i64 r1] := (Bk.new' _ _ _ (by simp)).alloc _
    have qz : Bk ((w.alloc (.cells #[.int .i64 V1, .slice A1 R1.length c1, .int .i64 r1] 24)).alloc (.cells #[.int .i64 0, .slice none 0 0, .int .i64 0] 24)) (w.heap.size + 1) 24 #[.int .i64 0, .slice none 0 0, .int .i64 0] := Bk.new' _ _ _ (by simp)
    go_enter Tryz.func45, Tryz.ntmps45
    go_upto_region 1 with (fail)
    generalize (w.alloc (.cells #[.int .i64 V1, .slice A1 R1.length c1, .int .i64 r1] 24)).alloc (.cells #[.int .i64 0, .slice none 0 0, .int .i64 0] 24) = W2 at *
    have a0 : W2.cell? ⟨w.heap.size, 0, none⟩ = some (.int .i64 V1) := qa.cell 0
    have a1 : W2.cell? ⟨w.heap.size, 1, none⟩ = some (.slice A1 R1.length c1) := qa.cell 1
    have a2 : W2.cell? ⟨w.heap.size, 2, none⟩ = some (.int .i64 r1) := qa.cell 2
    have HT2 := Lib.hid (HT.out _ k1)
    have HTE := Lib.hid hte
    clear hte
    go_upto_region 2 with (go_at_call 71
                           (with_reducible refine HT2.out.mono ?_)
                           rintro e w4 ⟨rfl, hk4⟩)
    have k4 := k1.trans hk4 fun _ _ h => h
    have qz4 := qz.keep hk4 (fun h => h)
    have z0 : w4.cell? ⟨w.heap.size + 1, 0, none⟩ = some (.int .i64 0) := qz4.cell 0
    have z1 : w4.cell? ⟨w.heap.size + 1, 1, none⟩ = some (.slice none 0 0) := qz4.cell 1
    have z2 : w4.cell? ⟨w.heap.size + 1, 2, none⟩ = some (.int .i64 0) := qz4.cell 2
    have f0 := qz4.frozen 0
    have f1 := qz4.frozen 1
    have f2 := qz4.frozen 2
    go_wp2
    have hx := ((qz4.put 0 (.int .i64 0)).put 1 (.slice none 0 0)).put 2 (.int .i64 0)
    have hkf := k4.set3 (b := w.heap.size + 1) (by omega) (.int .i64 0) (.slice none 0 0) (.int .i64 0)
    generalize ((w4.setCell ⟨w.heap.size + 1, 0, none⟩ (.int .i64 0)).setCell ⟨w.heap.size + 1, 1, none⟩ (.slice none 0 0)).setCell ⟨w.heap.size + 1, 2, none⟩ (.int .i64 0) = W6 at *
    have hx0 : W6.cell? ⟨w.heap.size + 1, 0, none⟩ = some (.int .i64 0) := hx.cell 0
    have hx1 : W6.cell? ⟨w.heap.size + 1, 1, none⟩ = some (.slice none 0 0) := hx.cell 1
    have hx2 : W6.cell? ⟨w.heap.size + 1, 2, none⟩ = some (.int .i64 0) := hx.cell 2
    refine bodyPost_ret (v := .tuple #[.agg #[.int .i64 0, .slice none 0 0, .int .i64 0], .int .i64 te]) (by simp [results, Tryz.results45, go_sem, hx0, hx1, hx2]) rfl ?_
    exact HP.out _ _ rfl hkf
end Go.Proofs.YtgdmcidcappkpaaGreat
