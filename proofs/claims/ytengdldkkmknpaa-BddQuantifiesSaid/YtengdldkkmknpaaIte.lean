/- What the store's method ite does. No condition. -/
import Derived.Test.YtengdldkkmknpaaLoad
import Derived.Laws.Cover1
set_option linter.unusedVariables false
set_option linter.unusedSimpArgs false
namespace Go.Proofs.Ytengdldkkmknpaa
open Go.RowKit
open Dd (mk var lo hi atP IteRel MemoOk)

/-- What a call that works on the store leaves: the store grown to N', G', its blocks F' old or new. -/
def StoPost (b : Nat) (F : Nat → Prop) (w : World) (R : Nat → List Nd → (Nd → Option Nat) → Prop) (e : Ending) (w' : World) : Prop :=
  ∃ F' N' G' r, e = .returned (.int .i64 (r : Nat)) ∧ Sto w' b N' G' F' ∧ R r N' G' ∧ Keep F w w' ∧ ∀ k, F' k → F k ∨ w.heap.size ≤ k

def minv (N : List Nd) (x y z : Nat) : Nat := min (var N x) (min (var N y) (var N z))

theorem Sto.known {w : World} {b : Nat} {N : List Nd} {G : Nd → Option Nat} {F : Nat → Prop} (hs : Sto w b N G F) :
    ∃ m2, w.cell? ⟨b, 2, none⟩ = some (.map (some m2)) ∧ MapKn w m2 G ∧ F m2 ∧ F b ∧ b ≠ m2 ∧ ∀ w' G', w.grownBy w' (some m2) → MapKn w' m2 G' → Sto w' b N G' F := by
  obtain ⟨sv, m1, m2, hb, hown, hm1, hm2, hne, hF⟩ := hs
  refine ⟨m2, by rw [hb.cell]; rfl, hm2, (hF _).2 (.inr (.inr (.inl rfl))), (hF _).2 (.inl rfl), fun e => hm2.ne_bk hb e.symm, fun w' G' hg hm => ?_⟩
  refine ⟨sv, m1, m2, hb.grown hg ?_, own_keep hown fun k hk => hg.block k (hown.lt k hk).2 ?_, hm1.block (hg.block _ hm1.lt ?_), hm, hne, hF⟩
  · intro e; injection e with e; exact hm2.ne_bk hb e.symm
  · intro e; injection e with e; exact own_ne_map hown hm2 (e ▸ hk)
  · intro e; injection e with e; exact hne e

section
variable {b : Nat} {N : List Nd} {G : Nd → Option Nat} {F : Nat → Prop} {w : World}

theorem ite_const (hs : Sto w b N G F) (A : Dd.Good N) (B : MemoOk N G) (x y z : Nat) (hy : y < N.length + 2) (h : x = 1 ∨ y = z) :
    Calls Try.prog 64 #[.pointer (some ⟨b, 0, none⟩), .int .i64 x, .int .i64 y, .int .i64 z] w (StoPost b F w (fun r N' G' => IteRel N x y z r N' G')) := by
  have hR := Dd.ite_then A B hy h
  have hpost : ∀ e w', e = .returned (.int .i64 y) ∧ w = w' → StoPost b F w (fun r N' G' => IteRel N x y z r N' G') e w' := by
    rintro e w' ⟨rfl, rfl⟩
    exact ⟨F, N, G, y, rfl, hs, hR, Keep.refl _ _, fun k hk => .inl hk⟩
  refine Calls.mono ?_ hpost
  clear hpost hR
  by_cases h1 : x = 1
  · subst h1
    go_enter Try.func64, Try.ntmps64
    go_wp2
    go_ret
    exact ⟨rfl, rfl⟩
  · have h2 : y = z := by rcases h with h | h; exact (h1 h).elim; exact h
    subst h2
    have e1 : ((x : Int) == 1) = false := by simp; omega
    clear h h1
    go_enter Try.func64, Try.ntmps64
    go_wp2
    go_ret
    exact ⟨rfl, rfl⟩

theorem ite_zero (hs : Sto w b N G F) (A : Dd.Good N) (B : MemoOk N G) (y z : Nat) (hz : z < N.length + 2) (h : y ≠ z) :
    Calls Try.prog 64 #[.pointer (some ⟨b, 0, none⟩), .int .i64 0, .int .i64 y, .int .i64 z] w (StoPost b F w (fun r N' G' => IteRel N 0 y z r N' G')) := by
  have hR := Dd.ite_else A B (b := y) hz
  have hpost : ∀ e w', e = .returned (.int .i64 z) ∧ w = w' → StoPost b F w (fun r N' G' => IteRel N 0 y z r N' G') e w' := by
    rintro e w' ⟨rfl, rfl⟩
    exact ⟨F, N, G, z, rfl, hs, hR, Keep.refl _ _, fun k hk => .inl hk⟩
  refine Calls.mono ?_ hpost
  clear hpost hR
  have e1 : ((y : Int) == (z : Int)) = false := by simp; omega
  go_enter Try.func64, Try.ntmps64
  go_wp2
  go_ret
  exact ⟨rfl, rfl⟩

set_option maxRecDepth 100000 in
theorem ite_known (hs : Sto w b N G F) (A : Dd.Good N) (B : MemoOk N G) (x y z r : Nat) (hx2 : 2 ≤ x) (hyz : y ≠ z) (hN : N.length ≤ 1099511627776) (hr : G (x, y, z) = some r) :
    Calls Try.prog 64 #[.pointer (some ⟨b, 0, none⟩), .int .i64 x, .int .i64 y, .int .i64 z] w (StoPost b F w (fun r N' G' => IteRel N x y z r N' G')) := by
  have hR := Dd.ite_hit A B hr
  obtain ⟨l1, l2, l3, _⟩ := B x y z r hr
  have hpost : ∀ e w', e = .returned (.int .i64 r) ∧ Keep NoF w w' → StoPost b F w (fun r N' G' => IteRel N x y z r N' G') e w' := by
    rintro e w' ⟨rfl, hk⟩
    exact ⟨F, N, G, r, rfl, hs.kept hk fun _ _ h => h, hR, hk.mono fun _ _ h => h.elim, fun k hk => .inl hk⟩
  refine Calls.mono ?_ hpost
  clear hpost hR
  have e1 : ((x : Int) == 1) = false := by simp; omega
  have e2 : ((y : Int) == (z : Int)) = false := by simp; omega
  have e3 : ((x : Int) == 0) = false := by simp; omega
  obtain ⟨m2, hc, hm, _⟩ := hs.known
  have hok : ndOk (x, y, z) := ⟨(by unfold tiny; omega : tiny x), (by unfold tiny; omega : tiny y), (by unfold tiny; omega : tiny z)⟩
  have h1 : ∀ n, ((w.alloc (.cells #[.int .i64 x, .int .i64 y, .int .i64 z] 92)).drewN n).cell? ⟨b, 2, none⟩ = some (.map (some m2)) := fun n => (((Keep.refl NoF _).alloc _).drewN n).cellv hc fun h => h
  have hl : ∀ n, (Instr.lookup 85 (.map (some m2)) (.agg #[.int .i64 x, .int .i64 y, .int .i64 z]) true).run Try.prog ((w.alloc (.cells #[.int .i64 x, .int .i64 y, .int .i64 z] 92)).drewN n) =
      .ok (.tuple #[.int .i64 r, .bool true]) ((w.alloc (.cells #[.int .i64 x, .int .i64 y, .int .i64 z] 92)).drewN n) := fun n => by
    have hm' : MapKn ((w.alloc (.cells #[.int .i64 x, .int .i64 y, .int .i64 z] 92)).drewN n) m2 G := hm.block (Below.heap_alloc w _ m2 hm.lt)
    have := hm'.look encThree Try.underlying85 (zeroInt _) (x := (x, y, z)) hok true
    simpa [hr, ndV, inV] using this
  clear hm hr
  go_enter Try.func64, Try.ntmps64
  go_wp2
  go_quiet (fail)
  go_wp2
  go_ret
  exact ⟨rfl, ((Keep.refl _ _).alloc _).drewN _⟩

theorem run_minv (N : List Nd) (x y z : Nat) (w : World) : (Builtin.min_ #[3, 3, 3] 3 #[.int .i64 (var N x), .int .i64 (var N y), .int .i64 (var N z)]).run Try.prog w = .ok (.int .i64 (minv N x y z)) w := by
  rw [run_min_int3]
  congr 2
  unfold minv
  split <;> split <;> omega

theorem atP_pre {N N1 : List Nd} (hp : N <+: N1) {i v : Nat} (hi : i < N.length + 2) (hv : v < 24) (t : Bool) : atP N1 i v t = atP N i v t := by
  unfold Dd.atP
  rw [Dd.var_pre hp hi]
  by_cases h : var N i = v
  · have h2 : 2 ≤ i := by
      by_cases h2 : i < 2
      · simp [var, h2] at h; omega
      · omega
    obtain ⟨X, rfl⟩ := hp
    rw [Dd.hi_app h2 hi, Dd.lo_app h2 hi]
  · simp [h]

theorem at_pre {b : Nat} {N N1 : List Nd} {G : Nd → Option Nat} {F : Nat → Prop} {w : World} (hs : Sto w b N1 G F) (hp : N <+: N1) (i v : Nat) (t : Bool) (hi : i < N.length + 2) (hv : v < 24) (hlen : N1.length ≤ 1099511627776) :
    Calls Try.prog 87 #[.pointer (some ⟨b, 0, none⟩), .int .i64 i, .int .i64 v, .bool t] w fun e w' => e = .returned (.int .i64 (atP N i v t)) ∧ w = w' := by
  rw [← atP_pre hp hi hv t]
  exact at_any hs i v t (by have := hp.length_le; omega) hv hlen

theorem minv_at {N : List Nd} (A : Dd.Good N) {x y z : Nat} (hx : x < N.length + 2) (hy : y < N.length + 2) (hz : z < N.length + 2) (hv : minv N x y z < 24) (t : Bool) :
    atP N x (minv N x y z) t < N.length + 2 ∧ atP N y (minv N x y z) t < N.length + 2 ∧ atP N z (minv N x y z) t < N.length + 2 ∧
      minv N x y z < minv N (atP N x (minv N x y z) t) (atP N y (minv N x y z) t) (atP N z (minv N x y z) t) := by
  obtain ⟨a1, a2, _⟩ := Dd.at_spec A hx (by unfold minv; omega : minv N x y z ≤ var N x) hv t
  obtain ⟨b1, b2, _⟩ := Dd.at_spec A hy (by unfold minv; omega : minv N x y z ≤ var N y) hv t
  obtain ⟨c1, c2, _⟩ := Dd.at_spec A hz (by unfold minv; omega : minv N x y z ≤ var N z) hv t
  refine ⟨a1, b1, c1, ?_⟩
  generalize hm : minv N x y z = m at *
  show m < min _ (min _ _)
  omega

theorem minv_pre {N N1 : List Nd} (hp : N <+: N1) {x y z : Nat} (hx : x < N.length + 2) (hy : y < N.length + 2) (hz : z < N.length + 2) : minv N1 x y z = minv N x y z := by
  unfold minv
  rw [Dd.var_pre hp hx, Dd.var_pre hp hy, Dd.var_pre hp hz]

theorem pow_half {m m' : Nat} (h : m < m') (h24 : m < 24) : 2 ^ (24 - m') * 2 ≤ 2 ^ (24 - m) := by
  rw [show 24 - m = (23 - m) + 1 by omega, Nat.pow_succ]
  exact Nat.mul_le_mul_right _ (Nat.pow_le_pow_right (by omega) (by omega))

/-- What is known of the calls of lower numbers. -/
def IteIH (b n : Nat) : Prop := ∀ (w : World) (N : List Nd) (G : Nd → Option Nat) (F : Nat → Prop) (x y z : Nat), Sto w b N G F → Dd.Good N → MemoOk N G → x < N.length + 2 → y < N.length + 2 → z < N.length + 2 →
  24 - minv N x y z ≤ n → N.length + 2 ^ (24 - minv N x y z) ≤ 1099511627776 →
  Calls Try.prog 64 #[.pointer (some ⟨b, 0, none⟩), .int .i64 x, .int .i64 y, .int .i64 z] w (StoPost b F w (fun r N' G' => IteRel N x y z r N' G'))

set_option maxRecDepth 100000 in
set_option maxHeartbeats 1000000 in
theorem ite_rec {n : Nat} (ih : IteIH b n) (hs : Sto w b N G F) (A : Dd.Good N) (B : MemoOk N G) (x y z : Nat) (hx2 : 2 ≤ x) (hx : x < N.length + 2) (hy : y < N.length + 2) (hz : z < N.length + 2) (hyz : y ≠ z)
    (hn : 24 - minv N x y z ≤ n + 1) (hN : N.length + 2 ^ (24 - minv N x y z) ≤ 1099511627776) (hr : G (x, y, z) = none) :
    Calls Try.prog 64 #[.pointer (some ⟨b, 0, none⟩), .int .i64 x, .int .i64 y, .int .i64 z] w (StoPost b F w (fun r N' G' => IteRel N x y z r N' G')) := by
  have IH := Lib.hid ih
  have HB := Lib.hid B
  have hv24 : minv N x y z < 24 := by have := A.bound x hx2 hx; unfold minv; omega
  have hvx : minv N x y z ≤ var N x := by unfold minv; omega
  have hvy : minv N x y z ≤ var N y := by unfold minv; omega
  have hvz : minv N x y z ≤ var N z := by unfold minv; omega
  have HA := Lib.hid A
  have hNb : N.length ≤ 1099511627776 := by have := Nat.two_pow_pos (24 - minv N x y z); omega
  have HN := Lib.hid hN
  have Hn := Lib.hid hn
  clear ih B A hN hn
  have e1 : ((x : Int) == 1) = false := by simp; omega
  have e2 : ((y : Int) == (z : Int)) = false := by simp; omega
  have e3 : ((x : Int) == 0) = false := by simp; omega
  obtain ⟨m2, hc, hm, _⟩ := hs.known
  have hok : ndOk (x, y, z) := ⟨(by unfold tiny; omega : tiny x), (by unfold tiny; omega : tiny y), (by unfold tiny; omega : tiny z)⟩
  have h1 : ∀ n, ((w.alloc (.cells #[.int .i64 x, .int .i64 y, .int .i64 z] 92)).drewN n).cell? ⟨b, 2, none⟩ = some (.map (some m2)) := fun n => (((Keep.refl NoF _).alloc _).drewN n).cellv hc fun h => h
  have hl : ∀ n, (Instr.lookup 85 (.map (some m2)) (.agg #[.int .i64 x, .int .i64 y, .int .i64 z]) true).run Try.prog ((w.alloc (.cells #[.int .i64 x, .int .i64 y, .int .i64 z] 92)).drewN n) =
      .ok (.tuple #[.int .i64 0, .bool false]) ((w.alloc (.cells #[.int .i64 x, .int .i64 y, .int .i64 z] 92)).drewN n) := fun n => by
    have hm' : MapKn ((w.alloc (.cells #[.int .i64 x, .int .i64 y, .int .i64 z] 92)).drewN n) m2 G := hm.block (Below.heap_alloc w _ m2 hm.lt)
    have := hm'.look encThree Try.underlying85 (zeroInt _) (x := (x, y, z)) hok true
    simpa [hr, ndV, inV] using this
  have HR := Lib.hid hr
  clear hm hr hc
  go_enter Try.func64, Try.ntmps64
  go_wp2
  go_quiet (fail)
  clear h1 hl
  have hkW : Keep NoF w ((w.alloc (.cells #[.int .i64 x, .int .i64 y, .int .i64 z] 92)).drewN nq) := ((Keep.refl _ _).alloc _).drewN _
  have hKb : Bk ((w.alloc (.cells #[.int .i64 x, .int .i64 y, .int .i64 z] 92)).drewN nq) w.heap.size 92 #[.int .i64 x, .int .i64 y, .int .i64 z] := (Bk.new _ _ _).drewN _
  have hsW : Sto ((w.alloc (.cells #[.int .i64 x, .int .i64 y, .int .i64 z] 92)).drewN nq) b N G F := hs.kept hkW fun _ _ h => h
  have hFw : ¬ F w.heap.size := fun h => by have := hs.lt _ h; omega
  have hlW : w.heap.size < ((w.alloc (.cells #[.int .i64 x, .int .i64 y, .int .i64 z] 92)).drewN nq).heap.size := hKb.lt
  clear hs
  generalize ((w.alloc (.cells #[.int .i64 x, .int .i64 y, .int .i64 z] 92)).drewN nq) = W at *
  have hmin := run_minv N x y z W
  go_wp2_with (first
    | (go_at_call 86; refine (variable_any hsW _ (by omega) hNb).mono ?_; rintro e w' ⟨rfl, rfl⟩)
    | (go_at_call 87; refine (at_any hsW _ (minv N x y z) _ (by omega) hv24 hNb).mono ?_; rintro e w' ⟨rfl, rfl⟩))
  clear hmin
  obtain ⟨a1, a2, a3, a4⟩ := minv_at HA.out hx hy hz hv24 false
  obtain ⟨b1, b2, b3, b4⟩ := minv_at HA.out hx hy hz hv24 true
  have hp1 := pow_half a4 hv24
  have hp2 := pow_half b4 hv24
  have hn1 := Hn.out
  have hN1 := HN.out
  refine (IH.out W N G F _ _ _ hsW HA.out HB.out a1 a2 a3 (by omega) (by omega)).mono ?_
  rintro e w1 ⟨F1, N1, G1, r1, rfl, hs1, R1, hk1, hF1⟩
  have hpre := R1.pre
  have hle := hpre.length_le
  have hlen1 := R1.len
  rw [show min (var N (atP N x (minv N x y z) false)) (min (var N (atP N y (minv N x y z) false)) (var N (atP N z (minv N x y z) false))) = minv N (atP N x (minv N x y z) false) (atP N y (minv N x y z) false) (atP N z (minv N x y z) false) from rfl] at hlen1
  have hb2 : N1.length + 2 ^ (24 - minv N (atP N x (minv N x y z) true) (atP N y (minv N x y z) true) (atP N z (minv N x y z) true)) ≤ 1099511627776 := by omega
  have hN1b : N1.length ≤ 1099511627776 := by have := Nat.two_pow_pos (24 - minv N (atP N x (minv N x y z) true) (atP N y (minv N x y z) true) (atP N z (minv N x y z) true)); omega
  have hm1 : 24 - minv N1 (atP N x (minv N x y z) true) (atP N y (minv N x y z) true) (atP N z (minv N x y z) true) ≤ n := by rw [minv_pre hpre b1 b2 b3]; omega
  have hb3 : N1.length + 2 ^ (24 - minv N1 (atP N x (minv N x y z) true) (atP N y (minv N x y z) true) (atP N z (minv N x y z) true)) ≤ 1099511627776 := by rw [minv_pre hpre b1 b2 b3]; exact hb2
  have HM1 := Lib.hid hm1
  have HB3 := Lib.hid hb3
  clear hm1 hb3 hp1 hp2 hn1 hN1 hlen1 hb2
  have hwF : ¬ F1 w.heap.size := fun h => by
    rcases hF1 _ h with h | h
    · exact hFw h
    · omega
  go_wp2_with (go_at_call 87; refine (at_pre hs1 hpre _ (minv N x y z) _ (by omega) hv24 hN1b).mono ?_; rintro e w' ⟨rfl, rfl⟩)
  refine (IH.out w1 N1 G1 F1 _ _ _ hs1 R1.good R1.memo (by omega) (by omega) (by omega) HM1.out HB3.out).mono ?_
  rintro e w2 ⟨F2, N2, G2, r2, rfl, hs2, R2, hk2, hF2⟩
  have hlen2 : N2.length ≤ 1099511627776 := by
    have h := R2.len
    have h' := HB3.out
    unfold minv at h'
    unfold minv at h
    omega
  have hr1 := R1.lt
  have hr2 := R2.lt
  have hle2 := R2.pre.length_le
  have hok2 : ndOk (minv N x y z, r1, r2) := ⟨(by unfold tiny; omega : tiny (minv N x y z)), (by unfold tiny; omega : tiny r1), (by unfold tiny; omega : tiny r2)⟩
  have hwF2 : ¬ F2 w.heap.size := fun h => by
    rcases hF2 _ h with h | h
    · exact hwF h
    · have := hk1.size; omega
  go_wp2_with fail
  refine (node_any hs2 (minv N x y z) r1 r2 hok2 hlen2).mono ?_
  rintro e w3 ⟨F3, rfl, hs3, hk3, hF3⟩
  have hRel := Lib.hid (fun G' hG' => Dd.ite_step HA.out hx hy hz hx2 rfl R1 R2 G' hG')
  have hwF3 : ¬ F3 w.heap.size := fun h => by
    rcases hF3 _ h with h | h
    · exact hwF2 h
    · have := hk1.size; have := hk2.size; omega
  obtain ⟨m3, hc3, hm3, hFm3, hFb3, hbm3, hput⟩ := hs3.known
  have hkey := ((hKb.keep hk1 hFw).keep hk2 hwF).keep hk3 hwF2
  have c0 := hkey.cell 0
  have c1 := hkey.cell 1
  have c2 := hkey.cell 2
  simp only [List.getElem?_toArray, List.getElem?_cons_zero, List.getElem?_cons_succ] at c0 c1 c2
  obtain ⟨w4, hrun, hm4, hg4, _⟩ := MapT.upd (w := w3.drew) hm3 encThree Try.underlying85 (x := (x, y, z)) hok (mk N2 (minv N x y z) r1 r2).1
  have hrun' : (Instr.mapUpdate 85 (.map (some m3)) (.agg #[.int .i64 x, .int .i64 y, .int .i64 z]) (.int .i64 ((mk N2 (minv N x y z) r1 r2).1 : Nat))).run Try.prog w3.drew = .ok () w4 := hrun
  clear hrun
  have hs4 := hput w4 _ ⟨hg4.os, hg4.tape, hg4.output, hg4.size, hg4.block⟩ hm4
  have hk4 : Keep F3 w3 w4 := (Keep.refl F3 w3).drew.grown hg4 fun k hk => .inl (by injection hk with hk; exact hk ▸ hFm3)
  have d0 : w4.cell? ⟨w.heap.size, 0, none⟩ = some (.int .i64 x) := hk4.cellv c0 hwF3
  have d1 : w4.cell? ⟨w.heap.size, 1, none⟩ = some (.int .i64 y) := hk4.cellv c1 hwF3
  have d2 : w4.cell? ⟨w.heap.size, 2, none⟩ = some (.int .i64 z) := hk4.cellv c2 hwF3
  have d3 : w4.cell? ⟨b, 2, none⟩ = some (.map (some m3)) := hg4.cell (a := ⟨b, 2, none⟩) hc3 (by simpa using hbm3)
  clear hsW hs1 hs2 hkey
  go_wp2
  go_region_held3 (fun w' => w'.cell? ⟨b, 2, none⟩ = some (.map (some m3)) ∧ w'.cell? ⟨w.heap.size, 0, none⟩ = some (.int .i64 x) ∧ w'.cell? ⟨w.heap.size, 1, none⟩ = some (.int .i64 y) ∧ w'.cell? ⟨w.heap.size, 2, none⟩ = some (.int .i64 z))
    (first | exact ⟨hc3, c0, c1, c2⟩ | exact ⟨d3, d0, d1, d2⟩) (fail)
  go_wp2
  go_ret
  refine ⟨F3, _, _, _, rfl, hs4, hRel.out _ ?_, ?_, ?_⟩
  · intro u s hus
    by_cases hu : u = (x, y, z)
    · subst hu
      simp at hus
      exact .inl ⟨rfl, hus.symm⟩
    · simp [hu] at hus
      exact .inr hus
  · exact (grow_trans (F1 := F) ⟨hkW.mono fun _ _ h => h.elim, fun k h => .inl h⟩ (grow_trans ⟨hk1, hF1⟩ (grow_trans ⟨hk2, hF2⟩ (grow_trans ⟨hk3, hF3⟩ ⟨hk4, fun k (h : F3 k) => .inl h⟩)))).1
  · exact (grow_trans (F1 := F) ⟨hkW.mono fun _ _ h => h.elim, fun k h => .inl h⟩ (grow_trans ⟨hk1, hF1⟩ (grow_trans ⟨hk2, hF2⟩ (grow_trans ⟨hk3, hF3⟩ ⟨hk4, fun k (h : F3 k) => .inl h⟩)))).2

/-- The method ite. -/
theorem ite_fuel (b : Nat) : ∀ n, IteIH b n := by
  intro n
  induction n with
  | zero =>
    intro w N G F x y z hs A B hx hy hz hn hN
    have hm : minv N x y z ≤ 24 := by have := Dd.var_le A hx; unfold minv; omega
    have hx2 : x < 2 := by
      by_cases h : x < 2
      · exact h
      · have := A.bound x (by omega) hx
        unfold minv at hn
        omega
    have hx' : x = 0 ∨ x = 1 := by omega
    by_cases hyz : y = z
    · exact ite_const hs A B x y z hy (.inr hyz)
    · rcases hx' with rfl | rfl
      · exact ite_zero hs A B y z hz hyz
      · exact ite_const hs A B 1 y z hy (.inl rfl)
  | succ n ih =>
    intro w N G F x y z hs A B hx hy hz hn hN
    by_cases hyz : x = 1 ∨ y = z
    · exact ite_const hs A B x y z hy hyz
    · have h1 : x ≠ 1 := fun h => hyz (.inl h)
      have h2 : y ≠ z := fun h => hyz (.inr h)
      by_cases h0 : x = 0
      · subst h0
        exact ite_zero hs A B y z hz h2
      · have hNb : N.length ≤ 1099511627776 := by have := Nat.two_pow_pos (24 - minv N x y z); omega
        cases hr : G (x, y, z) with
        | some r => exact ite_known hs A B x y z r (by omega) h2 hNb hr
        | none => exact ite_rec ih hs A B x y z (by omega) hx hy hz h2 hn hN hr

theorem ite_any {w : World} {b : Nat} {N : List Nd} {G : Nd → Option Nat} {F : Nat → Prop} (hs : Sto w b N G F) (A : Dd.Good N) (B : MemoOk N G) (x y z : Nat) (hx : x < N.length + 2) (hy : y < N.length + 2) (hz : z < N.length + 2)
    (hN : N.length + 16777216 ≤ 1099511627776) :
    Calls Try.prog 64 #[.pointer (some ⟨b, 0, none⟩), .int .i64 x, .int .i64 y, .int .i64 z] w (StoPost b F w (fun r N' G' => IteRel N x y z r N' G')) :=
  ite_fuel b 24 w N G F x y z hs A B hx hy hz (by omega) (by
    have : 2 ^ (24 - minv N x y z) ≤ 2 ^ 24 := Nat.pow_le_pow_right (by omega) (by omega)
    omega)
end
end Go.Proofs.Ytengdldkkmknpaa
