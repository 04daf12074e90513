/- What the closure of quantify that walks the nodes does. What the closure of quantify does. No condition. -/
import Derived.Test.YtgdmcidcappkpaaDoorRst
import Derived.WalkSmall
set_option linter.unusedVariables false
set_option linter.unusedSimpArgs false
namespace Go.Proofs.YtgdmcidcappkpaaDoor
open Go.RowKit
open Dd (var lo mk PhRel PMemo qf MemoOk IteRel)

theorem bit_u64 (S u : Nat) (hS : S < 18446744073709551616) : bits BinOp.and IntKind.u64 ((S : Int) / 2 ^ u) 1 = if S.testBit u then 1 else 0 := by
  have e : (S : Int) / 2 ^ u = ((S / 2 ^ u : Nat) : Int) := by norm_cast
  have hl : S / 2 ^ u ≤ S := Nat.div_le_self _ _
  rw [e, Nat.testBit_eq_decide_div_mod_eq]
  clear e
  generalize S / 2 ^ u = q at *
  rw [and_one_u64 _ (by omega) (by omega)]
  have : q % 2 = 0 ∨ q % 2 = 1 := by omega
  rcases this with h | h
  · simp [h]; omega
  · simp [h]; omega
theorem bit_zero (S u : Nat) (hS : S < 18446744073709551616) : (bits BinOp.and IntKind.u64 ((S : Int) / 2 ^ u) 1 == 0) = !S.testBit u := by
  rw [bit_u64 S u hS]
  cases S.testBit u <;> rfl

structure QCaps (w : World) (b kb sb fb st an mt S : Nat) (a : Bool) : Prop where
  k : w.cell? ⟨kb, 0, none⟩ = some (.map (some mt))
  s : w.cell? ⟨sb, 0, none⟩ = some (.pointer (some ⟨b, 0, none⟩))
  f : w.cell? ⟨fb, 0, none⟩ = some (.func (.func 87) #[] #[.pointer (some ⟨kb, 0, none⟩), .pointer (some ⟨sb, 0, none⟩), .pointer (some ⟨fb, 0, none⟩), .pointer (some ⟨st, 0, none⟩), .pointer (some ⟨an, 0, none⟩)])
  st : w.cell? ⟨st, 0, none⟩ = some (.int .u64 S)
  an : w.cell? ⟨an, 0, none⟩ = some (.bool a)
def qcaps (kb sb fb st an : Nat) : List Nat := [kb, sb, fb, st, an]
theorem QCaps.keep {w w' : World} {b kb sb fb st an mt S : Nat} {a : Bool} {F : Nat → Prop} (h : QCaps w b kb sb fb st an mt S a) (hk : Keep F w w') (hF : ∀ k ∈ qcaps kb sb fb st an, ¬ F k) : QCaps w' b kb sb fb st an mt S a :=
  ⟨hk.cellv h.k (hF _ (by simp [qcaps])), hk.cellv h.s (hF _ (by simp [qcaps])), hk.cellv h.f (hF _ (by simp [qcaps])), hk.cellv h.st (hF _ (by simp [qcaps])), hk.cellv h.an (hF _ (by simp [qcaps]))⟩
theorem QCaps.lt {w : World} {b kb sb fb st an mt S : Nat} {a : Bool} (h : QCaps w b kb sb fb st an mt S a) : ∀ k ∈ qcaps kb sb fb st an, k < w.heap.size := by
  intro k hk
  simp only [qcaps, List.mem_cons, List.not_mem_nil, or_false] at hk
  rcases hk with rfl | rfl | rfl | rfl | rfl
  · exact World.block_lt_of_cell? w _ h.k
  · exact World.block_lt_of_cell? w _ h.s
  · exact World.block_lt_of_cell? w _ h.f
  · exact World.block_lt_of_cell? w _ h.st
  · exact World.block_lt_of_cell? w _ h.an

def QIH (b kb sb fb st an mt S : Nat) (a : Bool) (n : Nat) : Prop := ∀ (w : World) (N : List Nd) (G : Nd → Option Nat) (M : Nat → Option Nat) (F : Nat → Prop) (i : Nat), Sto w b N G F → MapInt w mt M → QCaps w b kb sb fb st an mt S a →
  (∀ k ∈ qcaps kb sb fb st an, ¬ F k) → ¬ F mt → Dd.Good N → MemoOk N G → PMemo (qf a S.testBit) N M → i < N.length + 2 → 24 - var N i ≤ n → N.length + (25 - var N i) * 2 ^ (24 - var N i) ≤ 1099490000000 →
  Calls Tryd.prog 87 #[.int .i64 (i : Nat), .pointer (some ⟨kb, 0, none⟩), .pointer (some ⟨sb, 0, none⟩), .pointer (some ⟨fb, 0, none⟩), .pointer (some ⟨st, 0, none⟩), .pointer (some ⟨an, 0, none⟩)] w (PhPost b mt F w (PhRel (qf a S.testBit) N i))

section
variable {b kb sb fb st an mt S : Nat} {a : Bool} {F : Nat → Prop} {w : World} {N : List Nd} {G : Nd → Option Nat} {M : Nat → Option Nat}

theorem q_const_rel (A : Dd.Good N) (B : MemoOk N G) (C : PMemo (qf a S.testBit) N M) (i : Nat) (hi : i < 2) : PhRel (qf a S.testBit) N i i N G M := by
  refine Dd.ph_ret A B C (by omega) (by omega) (fun ρ => ?_) (Nat.le_refl _)
  have e : ∃ t, Dd.den N i = fun _ => t := by
    have : i = 0 ∨ i = 1 := by omega
    rcases this with rfl | rfl
    · exact ⟨false, funext fun ρ => by simp [Dd.den, Dd.denF]⟩
    · exact ⟨true, funext fun ρ => by simp [Dd.den, Dd.denF]⟩
  obtain ⟨t, e⟩ := e
  rw [e, Dd.qf_const]

set_option maxRecDepth 100000 in
theorem q_const (hs : Sto w b N G F) (hm : MapInt w mt M) (A : Dd.Good N) (B : MemoOk N G) (C : PMemo (qf a S.testBit) N M) (i : Nat) (hi : i < 2) :
    Calls Tryd.prog 87 #[.int .i64 (i : Nat), .pointer (some ⟨kb, 0, none⟩), .pointer (some ⟨sb, 0, none⟩), .pointer (some ⟨fb, 0, none⟩), .pointer (some ⟨st, 0, none⟩), .pointer (some ⟨an, 0, none⟩)] w (PhPost b mt F w (PhRel (qf a S.testBit) N i)) := by
  have hpost : PhPost b mt F w (PhRel (qf a S.testBit) N i) (.returned (.int .i64 (i : Nat))) w :=
    ⟨F, N, G, M, i, rfl, hs, hm, q_const_rel A B C i hi, Keep.refl _ _, fun k hk => .inl hk⟩
  generalize PhPost b mt F w (PhRel (qf a S.testBit) N i) = PP at *
  clear hs hm A B C
  go_enter Tryd.func87, Tryd.ntmps87
  go_wp2
  first
    | exact hpost
    | (go_ret; exact hpost)

set_option maxRecDepth 100000 in
theorem q_known (hs : Sto w b N G F) (hm : MapInt w mt M) (hc : QCaps w b kb sb fb st an mt S a) (A : Dd.Good N) (B : MemoOk N G) (C : PMemo (qf a S.testBit) N M) (i r : Nat) (hi2 : 2 ≤ i) (hi : i < N.length + 2) (hN : N.length ≤ 1099490000000) (hr : M i = some r) :
    Calls Tryd.prog 87 #[.int .i64 (i : Nat), .pointer (some ⟨kb, 0, none⟩), .pointer (some ⟨sb, 0, none⟩), .pointer (some ⟨fb, 0, none⟩), .pointer (some ⟨st, 0, none⟩), .pointer (some ⟨an, 0, none⟩)] w (PhPost b mt F w (PhRel (qf a S.testBit) N i)) := by
  have hpost : PhPost b mt F w (PhRel (qf a S.testBit) N i) (.returned (.int .i64 (r : Nat))) w :=
    ⟨F, N, G, M, r, rfl, hs, hm, Dd.ph_hit A B C hr, Keep.refl _ _, fun k hk => .inl hk⟩
  generalize PhPost b mt F w (PhRel (qf a S.testBit) N i) = PP at *
  have c4 := hc.k
  have hl : (Instr.lookup 99 (.map (some mt)) (.int .i64 i) true).run Tryd.prog w = .ok (.tuple #[.int .i64 r, .bool true]) w := by
    have := hm.look encInt Tryd.underlying99 (zeroInt _) (x := i) (by unfold tiny; omega) true
    simpa [hr, inV] using this
  clear hs hm A B C hr
  go_enter Tryd.func87, Tryd.ntmps87
  go_wp2
  first
    | exact hpost
    | (go_ret; exact hpost)


theorem ph_fin {Φ : Dd.BFn → Dd.BFn} {W3 w3 w4 w5 w6 : World} {F3 F4 F5 : Nat → Prop} {N5 : List Nd} {G5 : Nd → Option Nat} {M4 : Nat → Option Nat} {i rr : Nat} (k0 : Keep NoF w W3) (hk3 : Keep (fun k => F k ∨ k = mt) W3 w3) (hF3 : ∀ k, F3 k → F k ∨ W3.heap.size ≤ k)
    (hk4 : Keep (fun k => F3 k ∨ k = mt) w3 w4) (hF4 : ∀ k, F4 k → F3 k ∨ w3.heap.size ≤ k) (hmF4 : ¬ F4 mt) (hml : mt < w4.heap.size) (hk5 : Keep F4 w4 w5) (hF5 : ∀ k, F5 k → F4 k ∨ w4.heap.size ≤ k) (hs5 : Sto w5 b N5 G5 F5)
    (hm6 : MapInt w6 mt fun y => if y = i then some rr else M4 y) (hg6 : w5.grownBy w6 (some mt)) (P5 : PhRel Φ N i rr N5 G5 fun y => if y = i then some rr else M4 y) : PhPost b mt F w (PhRel Φ N i) (.returned (.int .i64 (rr : Nat))) w6 := by
  have hs6 : Sto w6 b N5 G5 F5 := hs5.block fun x hx => hg6.block x (hs5.lt x hx) (fun e => by
    have e' : x = mt := by simpa using e
    subst e'
    rcases hF5 _ hx with h | h
    · exact hmF4 h
    · omega)
  have k1 : Keep (fun k => F k ∨ k = mt) w W3 := k0.mono fun _ _ h => h.elim
  have k6 : Keep (fun k => F5 k ∨ k = mt) w5 w6 := (Keep.refl _ _).grown hg6 fun k hk => .inl (.inr (by simpa using hk.symm))
  have lift : ∀ {Fa Fb : Nat → Prop} {wa : World}, (∀ k, Fb k → Fa k ∨ wa.heap.size ≤ k) → ∀ k, (Fb k ∨ k = mt) → (Fa k ∨ k = mt) ∨ wa.heap.size ≤ k := fun h k hk => by
    rcases hk with hk | hk
    · rcases h k hk with h | h
      · exact .inl (.inl h)
      · exact .inr h
    · exact .inl (.inr hk)
  have hall := grow_trans (F := fun k => F k ∨ k = mt) (F1 := fun k => F k ∨ k = mt) ⟨k1, fun k h => .inl h⟩ (grow_trans (F1 := fun k => F3 k ∨ k = mt) ⟨hk3, lift hF3⟩ (grow_trans (F1 := fun k => F4 k ∨ k = mt) ⟨hk4, lift hF4⟩
    (grow_trans (F1 := fun k => F5 k ∨ k = mt) ⟨hk5.mono fun _ _ h => .inl h, lift hF5⟩ ⟨k6, fun k (h : F5 k ∨ k = mt) => .inl h⟩)))
  refine ⟨F5, N5, G5, _, rr, rfl, hs6, hm6, P5, hall.1, fun k hk => ?_⟩
  have z1 := k0.size
  have z3 := hk3.size
  have z4 := hk4.size
  rcases hF5 k hk with h | h
  · rcases hF4 k h with h | h
    · rcases hF3 k h with h | h
      · exact .inl h
      · exact .inr (by omega)
    · exact .inr (by omega)
  · exact .inr (by omega)

set_option maxRecDepth 100000 in
set_option maxHeartbeats 1000000 in
theorem q_rec {n : Nat} (ih : QIH b kb sb fb st an mt S a n) (hs : Sto w b N G F) (hm : MapInt w mt M) (hc : QCaps w b kb sb fb st an mt S a) (hcF : ∀ k ∈ qcaps kb sb fb st an, ¬ F k) (hcne : ∀ k ∈ qcaps kb sb fb st an, k ≠ mt) (hmF : ¬ F mt) (A : Dd.Good N) (B : MemoOk N G) (C : PMemo (qf a S.testBit) N M) (i : Nat) (h2 : 2 ≤ i) (hi : i < N.length + 2)
    (hn : 24 - var N i ≤ n + 1) (hN : N.length + (25 - var N i) * 2 ^ (24 - var N i) ≤ 1099490000000) (hr : M i = none) (hS : S < 18446744073709551616) :
    Calls Tryd.prog 87 #[.int .i64 (i : Nat), .pointer (some ⟨kb, 0, none⟩), .pointer (some ⟨sb, 0, none⟩), .pointer (some ⟨fb, 0, none⟩), .pointer (some ⟨st, 0, none⟩), .pointer (some ⟨an, 0, none⟩)] w (PhPost b mt F w (PhRel (qf a S.testBit) N i)) := by
  have hN0 : N.length ≤ 1099490000000 := by omega
  have a1 := A.lo_lt i h2 hi
  have a2 := A.hi_lt i h2 hi
  have b1 := A.lo_var i h2 hi
  have b2 := A.hi_var i h2 hi
  have hu24 := A.bound i h2 hi
  have hpw := Dd.pow_two (var N i) (by omega) (var N (lo N i)) (var N (Dd.hi N i)) b1 b2 (Dd.var_le A (by omega)) (Dd.var_le A (by omega))
  have hp0 := Nat.two_pow_pos (24 - var N i)
  have HIH1 : Hid (∀ w', Sto w' b N G F → MapInt w' mt M → QCaps w' b kb sb fb st an mt S a → Calls Tryd.prog 87 #[.int .i64 (lo N i : Nat), .pointer (some ⟨kb, 0, none⟩), .pointer (some ⟨sb, 0, none⟩), .pointer (some ⟨fb, 0, none⟩), .pointer (some ⟨st, 0, none⟩), .pointer (some ⟨an, 0, none⟩)] w' (PhPost b mt F w' (PhRel (qf a S.testBit) N (lo N i)))) := Lib.hid fun w' h1 h2 h3 =>
    ih w' N G M F (lo N i) h1 h2 h3 hcF hmF A B C (by omega) (by omega) (by omega)
  have HIH2 : Hid (∀ w' N1 G1 M1 F1 r1, PhRel (qf a S.testBit) N (lo N i) r1 N1 G1 M1 → Sto w' b N1 G1 F1 → MapInt w' mt M1 → QCaps w' b kb sb fb st an mt S a → (∀ k ∈ qcaps kb sb fb st an, ¬ F1 k) → ¬ F1 mt →
      Calls Tryd.prog 87 #[.int .i64 (Dd.hi N i : Nat), .pointer (some ⟨kb, 0, none⟩), .pointer (some ⟨sb, 0, none⟩), .pointer (some ⟨fb, 0, none⟩), .pointer (some ⟨st, 0, none⟩), .pointer (some ⟨an, 0, none⟩)] w' (PhPost b mt F1 w' (PhRel (qf a S.testBit) N1 (Dd.hi N i)))) := Lib.hid fun w' N1 G1 M1 F1 r1 P1 h1 h2 h3 h4 h5 => by
    have hl := Dd.len_pre P1.pre
    have := P1.len
    refine ih w' N1 G1 M1 F1 (Dd.hi N i) h1 h2 h3 h4 h5 P1.good P1.memo P1.pm (by omega) ?_ ?_
    · rw [Dd.var_pre P1.pre (by omega)]; omega
    · rw [Dd.var_pre P1.pre (by omega)]; omega
  have HBD : Hid (∀ r1 r2 N1 N2 G1 G2 M1 M2, PhRel (qf a S.testBit) N (lo N i) r1 N1 G1 M1 → PhRel (qf a S.testBit) N1 (Dd.hi N i) r2 N2 G2 M2 → r1 < N2.length + 2 ∧ r2 < N2.length + 2 ∧ N2.length ≤ 1099490000000) := Lib.hid fun r1 r2 N1 N2 G1 G2 M1 M2 P1 P2 => by
    have hl := Dd.len_pre P2.pre
    have := P1.lt
    have := P1.len
    have := P2.len
    rw [Dd.var_pre P1.pre (by omega)] at this
    exact ⟨by omega, P2.lt, by omega⟩
  have HND : Hid (∀ r1 r2 N1 N2 G1 G2 M1 M2, S.testBit (var N i) = false → PhRel (qf a S.testBit) N (lo N i) r1 N1 G1 M1 → PhRel (qf a S.testBit) N1 (Dd.hi N i) r2 N2 G2 M2 →
      PhRel (qf a S.testBit) N i (mk N2 (var N i) r1 r2).1 (mk N2 (var N i) r1 r2).2 G2 (fun y => if y = i then some (mk N2 (var N i) r1 r2).1 else M2 y)) := Lib.hid fun r1 r2 N1 N2 G1 G2 M1 M2 hb P1 P2 => Dd.ph_node A h2 hi P1 P2 (Dd.qf_node_out A a S.testBit h2 hi hb)
  have HIT : Hid (∀ r1 r2 N1 N2 G1 G2 M1 M2 x y z r N3 G3, S.testBit (var N i) = true → PhRel (qf a S.testBit) N (lo N i) r1 N1 G1 M1 → PhRel (qf a S.testBit) N1 (Dd.hi N i) r2 N2 G2 M2 → IteRel N2 x y z r N3 G3 →
      ((a = true ∧ x = r1 ∧ y = 1 ∧ z = r2) ∨ (a = false ∧ x = r1 ∧ y = r2 ∧ z = 0)) → PhRel (qf a S.testBit) N i r N3 G3 (fun y => if y = i then some r else M2 y)) := Lib.hid fun r1 r2 N1 N2 G1 G2 M1 M2 x y z r N3 G3 hb P1 P2 I hxyz => by
    have w1 : var N i < var N2 r1 := by rw [Dd.var_pre P2.pre P1.lt]; have := P1.var; omega
    have w2 : var N i < var N2 r2 := by have := P2.var; rw [Dd.var_pre P1.pre (by omega)] at this; omega
    have e1 : ∀ ρ, Dd.den N2 r1 ρ = qf a S.testBit (Dd.den N (lo N i)) ρ := fun ρ => by rw [Dd.den_pre P1.good P2.good P2.pre P1.lt, P1.den]
    have e2 : ∀ ρ, Dd.den N2 r2 ρ = qf a S.testBit (Dd.den N (Dd.hi N i)) ρ := fun ρ => by rw [P2.den, Dd.den_pre' A P1.good P1.pre (by omega)]
    have v1 : var N2 1 = 24 := Dd.var_const (by omega)
    have v0 : var N2 0 = 24 := Dd.var_const (by omega)
    have d1 : ∀ ρ, Dd.den N2 1 ρ = true := fun ρ => by simp [Dd.den, Dd.denF]
    have d0 : ∀ ρ, Dd.den N2 0 ρ = false := fun ρ => by simp [Dd.den, Dd.denF]
    rcases hxyz with ⟨rfl, rfl, rfl, rfl⟩ | ⟨rfl, rfl, rfl, rfl⟩
    · refine Dd.ph_ite A h2 hi P1 P2 I (by omega) fun ρ => ?_
      rw [Dd.qf_node_in A _ _ h2 hi hb, e1, e2, d1]
      simp only [if_true]
      cases qf true S.testBit (Dd.den N (lo N i)) ρ <;> simp
    · refine Dd.ph_ite A h2 hi P1 P2 I (by omega) fun ρ => ?_
      rw [Dd.qf_node_in A _ _ h2 hi hb, e1, e2, d0]
      cases qf false S.testBit (Dd.den N (lo N i)) ρ <;> simp
  clear ih
  obtain ⟨j, rfl⟩ : ∃ j, i = j + 2 := ⟨i - 2, by omega⟩
  have hl : (Instr.lookup 99 (.map (some mt)) (.int .i64 ((j : Int) + 2)) true).run Tryd.prog w = .ok (.tuple #[.int .i64 0, .bool false]) w := by
    have := hm.look encInt Tryd.underlying99 (zeroInt _) (x := j + 2) (by unfold tiny; omega) true
    simpa [hr, inV] using this
  have c1 := hc.s
  have c4 := hc.k
  obtain ⟨g, c, k0, hcc, k1, k2, k3⟩ := hs.node h2 hi
  simp only [Nat.add_sub_cancel] at k1 k2 k3
  have hjn : j < N.length := by omega
  generalize hvv : var N (j + 2) = u at *
  generalize hll : lo N (j + 2) = l at *
  generalize hhh : Dd.hi N (j + 2) = h at *
  clear hr A B C
  go_enter Tryd.func87, Tryd.ntmps87
  go_upto_region 7 with (fail)
  have hsz : (w.alloc (.cells #[.int .i64 u, .int .i64 l, .int .i64 h] 74)).drew.heap.size = w.heap.size + 1 := by simp
  have hkN : Keep NoF w (w.alloc (.cells #[.int .i64 u, .int .i64 l, .int .i64 h] 74)).drew := ((Keep.refl _ _).alloc _).drew
  have hsD : Sto (w.alloc (.cells #[.int .i64 u, .int .i64 l, .int .i64 h] 74)).drew b N G F := (hs.alloc _).drew
  have hmD : MapInt (w.alloc (.cells #[.int .i64 u, .int .i64 l, .int .i64 h] 74)).drew mt M := hm.block (Below.heap_alloc _ _ _ hm.lt)
  have hcD : QCaps (w.alloc (.cells #[.int .i64 u, .int .i64 l, .int .i64 h] 74)).drew b kb sb fb st an mt S a := hc.keep (F := NoF) ((Keep.refl _ _).alloc _).drew (fun _ _ h => h)
  have hnD : Bk (w.alloc (.cells #[.int .i64 u, .int .i64 l, .int .i64 h] 74)).drew w.heap.size 74 #[.int .i64 u, .int .i64 l, .int .i64 h] := (Bk.new _ _ _).drew
  have hnF : ¬ F w.heap.size := fun h => by have := hs.lt _ h; omega
  have hnm : w.heap.size ≠ mt := by have := hm.lt; omega
  have hclt := hcD.lt
  have hmlt := hmD.lt
  have d1 : (w.alloc (.cells #[.int .i64 u, .int .i64 l, .int .i64 h] 74)).drew.cell? ⟨w.heap.size, 1, none⟩ = some (.int .i64 l) := hnD.cell 1
  have d2 : (w.alloc (.cells #[.int .i64 u, .int .i64 l, .int .i64 h] 74)).drew.cell? ⟨w.heap.size, 2, none⟩ = some (.int .i64 h) := hnD.cell 2
  have d4 := hcD.f
  have HC1 := Lib.hid (HIH1.out _ hsD hmD hcD)
  clear c1 c4 hl k0 k1 k2 k3 hs hm hc HIH1 hsD
  go_cut [11, 12] (fun x1 x2 w4 => ∃ (w3 : World) (F3 : Nat → Prop) (N3 : List Nd) (G3 : Nd → Option Nat) (M3 : Nat → Option Nat) (r3 : Nat) (F4 : Nat → Prop) (N4 : List Nd) (G4 : Nd → Option Nat) (M4 : Nat → Option Nat) (r4 : Nat), x1 = .int .i64 (r3 : Nat) ∧ x2 = .int .i64 (r4 : Nat) ∧ (Keep (fun k => F k ∨ k = mt) (w.alloc (.cells #[.int .i64 u, .int .i64 l, .int .i64 h] 74)).drew w3 ∧ (∀ k, F3 k → F k ∨ (w.alloc (.cells #[.int .i64 u, .int .i64 l, .int .i64 h] 74)).drew.heap.size ≤ k) ∧ Keep (fun k => F3 k ∨ k = mt) w3 w4 ∧ (∀ k, F4 k → F3 k ∨ w3.heap.size ≤ k)) ∧
      (PhRel (qf a S.testBit) N l r3 N3 G3 M3 ∧ PhRel (qf a S.testBit) N3 h r4 N4 G4 M4) ∧ (Sto w4 b N4 G4 F4 ∧ MapInt w4 mt M4 ∧ QCaps w4 b kb sb fb st an mt S a ∧ Bk w4 w.heap.size 74 #[.int .i64 u, .int .i64 l, .int .i64 h]) ∧ (∀ k ∈ qcaps kb sb fb st an, ¬ F4 k) ∧ ¬ F4 mt ∧ ¬ F4 w.heap.size)
  case first =>
    go_region_held3 (fun w' => w'.cell? ⟨w.heap.size, 1, none⟩ = some (.int .i64 l) ∧ w'.cell? ⟨w.heap.size, 2, none⟩ = some (.int .i64 h) ∧ w'.cell? ⟨fb, 0, none⟩ = some (.func (.func 87) #[] #[.pointer (some ⟨kb, 0, none⟩), .pointer (some ⟨sb, 0, none⟩), .pointer (some ⟨fb, 0, none⟩), .pointer (some ⟨st, 0, none⟩), .pointer (some ⟨an, 0, none⟩)]))
      (first | with_reducible exact ⟨d1, d2, d4⟩ | with_reducible exact ⟨e1, e2, e4⟩ | with_reducible exact ⟨f1, f2, f4⟩)
      (first
        | (go_at_call 87
           (with_reducible refine HC1.out.mono ?_)
           rintro e w3 ⟨F3, N3, G3, M3, r3, rfl, hs3, hm3, P3, hk3, hF3⟩
           have hn3 := hnD.keep hk3 (fun h => h.elim hnF hnm)
           have hc3 := hcD.keep hk3 (fun k hk h => h.elim (hcF k hk) (hcne k hk))
           have hcF3 : ∀ k ∈ qcaps kb sb fb st an, ¬ F3 k := fun k hk h => by
             rcases hF3 k h with h | h
             · exact hcF k hk h
             · have := hclt k hk; omega
           have hmF3 : ¬ F3 mt := fun h => by
             rcases hF3 mt h with h | h
             · exact hmF h
             · omega
           have hnF3 : ¬ F3 w.heap.size := fun h => by
             rcases hF3 _ h with h | h
             · exact hnF h
             · omega
           have e1 : w3.cell? ⟨w.heap.size, 1, none⟩ = some (.int .i64 l) := hn3.cell 1
           have e2 : w3.cell? ⟨w.heap.size, 2, none⟩ = some (.int .i64 h) := hn3.cell 2
           have e4 := hc3.f)
        | (go_at_call 87
           (with_reducible refine (HIH2.out w3 N3 G3 M3 F3 r3 P3 hs3 hm3 hc3 hcF3 hmF3).mono ?_)
           rintro e w4 ⟨F4, N4, G4, M4, r4, rfl, hs4, hm4, P4, hk4, hF4⟩
           have hsz3 := hk3.size
           have hn4 := hn3.keep hk4 (fun h => h.elim hnF3 hnm)
           have hc4 := hc3.keep hk4 (fun k hk h => h.elim (hcF3 k hk) (hcne k hk))
           have hcF4 : ∀ k ∈ qcaps kb sb fb st an, ¬ F4 k := fun k hk h => by
             rcases hF4 k h with h | h
             · exact hcF3 k hk h
             · have := hclt k hk; omega
           have hmF4 : ¬ F4 mt := fun h => by
             rcases hF4 mt h with h | h
             · exact hmF3 h
             · omega
           have hnF4 : ¬ F4 w.heap.size := fun h => by
             rcases hF4 _ h with h | h
             · exact hnF3 h
             · omega
           have f1 : w4.cell? ⟨w.heap.size, 1, none⟩ = some (.int .i64 l) := hn4.cell 1
           have f2 : w4.cell? ⟨w.heap.size, 2, none⟩ = some (.int .i64 h) := hn4.cell 2
           have f4 := hc4.f))
    go_wp2
    go_meet
    case rel => exact ⟨w3, F3, N3, G3, M3, r3, F4, N4, G4, M4, r4, rfl, rfl, ⟨hk3, hF3, hk4, hF4⟩, ⟨P3, P4⟩, ⟨hs4, hm4, hc4, hn4⟩, hcF4, hmF4, hnF4⟩
  case rest =>
    obtain ⟨w3, F3, N3, G3, M3, r3, F4, N4, G4, M4, r4, rfl, rfl, ⟨hk3, hF3, hk4, hF4⟩, ⟨P3, P4⟩, ⟨hs4, hm4, hc4, hn4⟩, hcF4, hmF4, hnF4⟩ := hcut
    obtain ⟨w4, rfl⟩ : ∃ w4 : World, w4 = wc := ⟨_, rfl⟩
    obtain ⟨q1, q2, q3⟩ := HBD.out r3 r4 N3 N4 G3 G4 M3 M4 P3 P4
    have hnd : ndOk (u, r3, r4) := ⟨(by unfold tiny; omega : tiny u), (by unfold tiny; omega : tiny r3), (by unfold tiny; omega : tiny r4)⟩
    have hz0 := bit_zero S u hS
    have d0 : w4.cell? ⟨w.heap.size, 0, none⟩ = some (.int .i64 u) := hn4.cell 0
    have d1 := hc4.s
    have d2 := hc4.st
    have d3 := hc4.an
    by_cases hb : S.testBit u = false
    · have hz : (bits BinOp.and IntKind.u64 ((S : Int) / 2 ^ u) 1 == 0) = true := by rw [hz0, hb]; rfl
      have HP := Lib.hid (HND.out r3 r4 N3 N4 G3 G4 M3 M4 hb P3 P4)
      have HNA := Lib.hid (node_any hs4 u r3 r4 hnd (by omega))
      generalize hmk : mk N4 u r3 r4 = mkr at *
      obtain ⟨rr, N5⟩ := mkr
      simp only at HP HNA
      clear hmk hb hz0
      go_wp2_with (first
        | (go_at_call 73
           (with_reducible refine HNA.out.mono ?_)
           rintro e w5 ⟨F5, rfl, hs5, hk5, hF5⟩
           have hc5 := hc4.keep hk5 hcF4
           have p4 := hc5.k
           have hm5 : MapInt w5 mt M4 := hm4.block (hk5.block mt hm4.lt hmF4))
        | (at_mapUpdate
           refine wpList_mapT (by rfl) hm5 encInt Tryd.underlying99 (x := j + 2) (by unfold tiny; omega) rr (.tmp 64) (.tmp 65) (.tmp 66) (by rfl) (by rfl) (by rfl) (by rfl) ?_
           intro w6 hm6 hg6 hsz6))
      go_ret
      exact ph_fin hkN hk3 hF3 hk4 hF4 hmF4 hm4.lt hk5 hF5 hs5 (hm6.congr fun x => by by_cases hx : x = j + 2 <;> simp [hx]) hg6 (HP.out)
    · have hb1 : S.testBit u = true := by cases hx : S.testBit u; exact absurd hx hb; rfl
      have hz : (bits BinOp.and IntKind.u64 ((S : Int) / 2 ^ u) 1 == 0) = false := by rw [hz0, hb1]; rfl
      have HI := Lib.hid fun x y z r N5 G5 I h => HIT.out r3 r4 N3 N4 G3 G4 M3 M4 x y z r N5 G5 hb1 P3 P4 I h
      clear hb hb1 hz0
      cases ha : a
      · have HNA : Hid (Calls Tryd.prog 54 #[.pointer (some ⟨b, 0, none⟩), .int .i64 r3, .int .i64 r4, .int .i64 0] w4 (StoPost b F4 w4 (fun r N' G' => IteRel N4 r3 r4 0 r N' G'))) := Lib.hid (ite_any hs4 P4.good P4.memo r3 r4 0 (by omega) (by omega) (by omega) (by omega))
        subst ha
        go_wp2_with (first
          | (go_at_call 54
             (with_reducible refine HNA.out.mono ?_)
             rintro e w5 ⟨F5, N5, G5, rr, rfl, hs5, hR5, hk5, hF5⟩
             have hc5 := hc4.keep hk5 hcF4
             have p4 := hc5.k
             have hm5 : MapInt w5 mt M4 := hm4.block (hk5.block mt hm4.lt hmF4))
          | (at_mapUpdate
             refine wpList_mapT (by rfl) hm5 encInt Tryd.underlying99 (x := j + 2) (by unfold tiny; omega) rr (.tmp 64) (.tmp 65) (.tmp 66) (by rfl) (by rfl) (by rfl) (by rfl) ?_
             intro w6 hm6 hg6 hsz6))
        go_ret
        exact ph_fin hkN hk3 hF3 hk4 hF4 hmF4 hm4.lt hk5 hF5 hs5 (hm6.congr fun x => by by_cases hx : x = j + 2 <;> simp [hx]) hg6 (HI.out _ _ _ _ _ _ hR5 (by simp))
      · have HNA : Hid (Calls Tryd.prog 54 #[.pointer (some ⟨b, 0, none⟩), .int .i64 r3, .int .i64 1, .int .i64 r4] w4 (StoPost b F4 w4 (fun r N' G' => IteRel N4 r3 1 r4 r N' G'))) := Lib.hid (ite_any hs4 P4.good P4.memo r3 1 r4 (by omega) (by omega) (by omega) (by omega))
        subst ha
        go_wp2_with (first
          | (go_at_call 54
             (with_reducible refine HNA.out.mono ?_)
             rintro e w5 ⟨F5, N5, G5, rr, rfl, hs5, hR5, hk5, hF5⟩
             have hc5 := hc4.keep hk5 hcF4
             have p4 := hc5.k
             have hm5 : MapInt w5 mt M4 := hm4.block (hk5.block mt hm4.lt hmF4))
          | (at_mapUpdate
             refine wpList_mapT (by rfl) hm5 encInt Tryd.underlying99 (x := j + 2) (by unfold tiny; omega) rr (.tmp 64) (.tmp 65) (.tmp 66) (by rfl) (by rfl) (by rfl) (by rfl) ?_
             intro w6 hm6 hg6 hsz6))
        go_ret
        exact ph_fin hkN hk3 hF3 hk4 hF4 hmF4 hm4.lt hk5 hF5 hs5 (hm6.congr fun x => by by_cases hx : x = j + 2 <;> simp [hx]) hg6 (HI.out _ _ _ _ _ _ hR5 (by simp))

/-- The walk from whatever number. -/
theorem q_fuel (hS : S < 18446744073709551616) (hcne : ∀ k ∈ qcaps kb sb fb st an, k ≠ mt) : ∀ n, QIH b kb sb fb st an mt S a n := by
  intro n
  induction n with
  | zero =>
    intro w N G M F i hs hm hc hcF hmF A B C hi hn hN
    have h2 : i < 2 := by
      by_cases h : i < 2
      · exact h
      · have := A.bound i (by omega) hi; omega
    exact q_const hs hm A B C i h2
  | succ n ih =>
    intro w N G M F i hs hm hc hcF hmF A B C hi hn hN
    by_cases h2 : i < 2
    · exact q_const hs hm A B C i h2
    · cases hr : M i with
      | some r => exact q_known hs hm hc A B C i r (by omega) hi (by omega) hr
      | none => exact q_rec ih hs hm hc hcF hcne hmF A B C i (by omega) hi hn hN hr hS
end
end Go.Proofs.YtgdmcidcappkpaaDoor
namespace Go.Proofs.YtgdmcidcappkpaaDoor
open Go.RowKit
open Dd (var lo mk PhRel PMemo qf MemoOk den)

noncomputable def qSem (a : Bool) (S : Nat) : List BF → BF := fun l => qf a S.testBit (l.getD 0 (fun _ => false))

set_option maxRecDepth 100000 in
theorem quant_sem (w0 : World) (st an S : Nat) (a : Bool) (hS : S < 18446744073709551616) (hi0 : w0.cell? ⟨st, 0, none⟩ = some (.int .u64 S)) (ht0 : w0.cell? ⟨an, 0, none⟩ = some (.bool a)) :
    OpSem w0 86 #[.pointer (some ⟨st, 0, none⟩), .pointer (some ⟨an, 0, none⟩)] 1 (qSem a S) := by
  have hmm := @run_makeMap Tryd.prog
  intro w b N G F xs ts hbel hs hg hm hlen hrd hFw hts hN hx
  obtain ⟨x, rfl⟩ : ∃ x, ts = [x] := by
    match ts, hlen with
    | [x], _ => exact ⟨x, rfl⟩
  obtain ⟨bl, off, c, rfl, hc, hcell⟩ := rd_cells hrd (by omega)
  have c0 : w.cell? ⟨bl, off + 0, none⟩ = some (.int .i64 x) := hcell 0 x rfl
  simp only [Nat.add_zero] at c0
  have hx1 := hts x (by simp)
  have hbF := hx bl rfl
  have hblt : bl < w.heap.size := World.block_lt_of_cell? w _ c0
  have hst0 : st < w0.heap.size := World.block_lt_of_cell? w0 _ hi0
  have han0 : an < w0.heap.size := World.block_lt_of_cell? w0 _ ht0
  have hw0 := hbel.size
  have kb : ∀ (p : Addr) u, w0.cell? p = some u → w.cell? p = some u := fun p u h => (World.cell?_of_block (w := w0) (hbel.block _ (World.block_lt_of_cell? w0 p h))).trans h
  have i0 := kb _ _ hi0
  have t0 := kb _ _ ht0
  have HC : Hid (∀ (w1 : World) (mt kc sb fb : Nat), QCaps w1 b kc sb fb st an mt S a → MapInt w1 mt (fun _ => none) → Keep NoF w w1 → (∀ k ∈ [mt, kc, sb, fb], w.heap.size ≤ k) → kc ≠ mt → sb ≠ mt → fb ≠ mt →
      Calls Tryd.prog 87 #[.int .i64 x, .pointer (some ⟨kc, 0, none⟩), .pointer (some ⟨sb, 0, none⟩), .pointer (some ⟨fb, 0, none⟩), .pointer (some ⟨st, 0, none⟩), .pointer (some ⟨an, 0, none⟩)] w1 (fun e w' => ∃ F' N' G' r, e = .returned (.int .i64 (r : Nat)) ∧ Sto w' b N' G' F' ∧
        OpRel N (qf a S.testBit (den N x)) r N' G' ∧ Keep F w w' ∧ (∀ k, F' k → F k ∨ w.heap.size ≤ k) ∧ w'.cell? ⟨bl, off, none⟩ = some (.int .i64 x) ∧ w'.cell? ⟨fb, 0, none⟩ = w1.cell? ⟨fb, 0, none⟩)) := Lib.hid fun w1 mt kc sb fb hc hm1 hk hge n1 n2 n3 => by
    have hF : ∀ k, F k → k < w.heap.size := hs.lt
    have hl : N.length + (25 - var N x) * 2 ^ (24 - var N x) ≤ 1099490000000 := by
      have h1 : 2 ^ (24 - var N x) ≤ 2 ^ 24 := Nat.pow_le_pow_right (by omega) (by omega)
      have h2 : (25 - var N x) * 2 ^ (24 - var N x) ≤ 25 * 2 ^ 24 := Nat.mul_le_mul (by omega) h1
      omega
    have g1 := hge mt (by simp)
    have g2 := hge kc (by simp)
    have g3 := hge sb (by simp)
    have g4 := hge fb (by simp)
    have hne : ∀ k ∈ qcaps kc sb fb st an, k ≠ mt := fun k hk => by
      simp only [qcaps, List.mem_cons, List.not_mem_nil, or_false] at hk
      rcases hk with rfl | rfl | rfl | rfl | rfl <;> omega
    have hnF : ∀ k ∈ qcaps kc sb fb st an, ¬ F k := fun k hk h => by
      have h1 := hF k h
      have h2 := hFw k h
      simp only [qcaps, List.mem_cons, List.not_mem_nil, or_false] at hk
      rcases hk with rfl | rfl | rfl | rfl | rfl <;> omega
    refine (q_fuel (b := b) (kb := kc) (sb := sb) (fb := fb) (st := st) (an := an) (mt := mt) (a := a) hS hne 24 w1 N G _ F x (hs.kept hk fun _ _ h => h) hm1 hc hnF (fun h => by have := hF mt h; omega) hg hm (PMemo.none _ _) hx1 (by omega) hl).mono ?_
    rintro e w' ⟨F', N', G', M', r, he, hs', hm', P, hk', hF'⟩
    have hkw : Keep F w w' := (hk.mono (fun _ _ h => h.elim)).trans hk' fun k hk2 h => by
      rcases h with h | h
      · exact h
      · omega
    refine ⟨F', N', G', r, he, hs', (ph_op P (by omega)).1, hkw, fun k hk2 => ?_, hkw.cellv c0 hbF, ?_⟩
    · rcases hF' k hk2 with h | h
      · exact .inl h
      · exact .inr (Nat.le_trans hk.size h)
    · exact (hk'.cellv hc.f (fun h => h.elim (hnF fb (by simp [qcaps])) n3)).trans hc.f.symm
  refine Calls.mono (R := fun e w' => ∃ F' N' G' r, e = .returned (.int .i64 (r : Nat)) ∧ Sto w' b N' G' F' ∧ OpRel N (qf a S.testBit (den N x)) r N' G' ∧ Keep F w w' ∧ ∀ k, F' k → F k ∨ w.heap.size ≤ k) ?_ fun e w' h => h
  clear hs hrd hcell hts hx hlen hg hm hi0 ht0
  show Calls Tryd.prog 86 #[.pointer (some ⟨b, 0, none⟩), .slice (some ⟨bl, off, none⟩) 1 c, .pointer (some ⟨st, 0, none⟩), .pointer (some ⟨an, 0, none⟩)] w _
  have hm1 := MapT.new (w.alloc (.cells #[.pointer (some ⟨b, 0, none⟩)] 68)) Tryd.prog 3 inV inV tiny
  have e1 : (w.alloc (.cells #[.pointer (some ⟨b, 0, none⟩)] 68)).heap.size = w.heap.size + 1 := by simp
  rw [e1] at hm1
  have hm2 := hm1.block (w' := (((w.alloc (.cells #[.pointer (some ⟨b, 0, none⟩)] 68)).alloc (.map #[] 0)).alloc (.cells #[.map (some (w.heap.size + 1))] 99))) (Below.heap_alloc _ _ _ hm1.lt)
  have hm3 := hm2.block (w' := ((((w.alloc (.cells #[.pointer (some ⟨b, 0, none⟩)] 68)).alloc (.map #[] 0)).alloc (.cells #[.map (some (w.heap.size + 1))] 99)).alloc (.cells #[(.func (.func 87) #[] #[.pointer (some ⟨w.heap.size + 1 + 1, 0, none⟩), .pointer (some ⟨w.heap.size, 0, none⟩), .pointer (some ⟨w.heap.size + 1 + 1 + 1, 0, none⟩), .pointer (some ⟨st, 0, none⟩), .pointer (some ⟨an, 0, none⟩)])] 90))) (Below.heap_alloc _ _ _ hm2.lt)
  have hm4 := hm3.block (w' := ((((w.alloc (.cells #[.pointer (some ⟨b, 0, none⟩)] 68)).alloc (.map #[] 0)).alloc (.cells #[.map (some (w.heap.size + 1))] 99)).alloc (.cells #[(.func (.func 87) #[] #[.pointer (some ⟨w.heap.size + 1 + 1, 0, none⟩), .pointer (some ⟨w.heap.size, 0, none⟩), .pointer (some ⟨w.heap.size + 1 + 1 + 1, 0, none⟩), .pointer (some ⟨st, 0, none⟩), .pointer (some ⟨an, 0, none⟩)])] 90)).drew) rfl
  have hkD : Keep NoF w ((((w.alloc (.cells #[.pointer (some ⟨b, 0, none⟩)] 68)).alloc (.map #[] 0)).alloc (.cells #[.map (some (w.heap.size + 1))] 99)).alloc (.cells #[(.func (.func 87) #[] #[.pointer (some ⟨w.heap.size + 1 + 1, 0, none⟩), .pointer (some ⟨w.heap.size, 0, none⟩), .pointer (some ⟨w.heap.size + 1 + 1 + 1, 0, none⟩), .pointer (some ⟨st, 0, none⟩), .pointer (some ⟨an, 0, none⟩)])] 90)).drew := (((((Keep.refl _ _).alloc _).alloc _).alloc _).alloc _).drew
  have b0 : Bk ((((w.alloc (.cells #[.pointer (some ⟨b, 0, none⟩)] 68)).alloc (.map #[] 0)).alloc (.cells #[.map (some (w.heap.size + 1))] 99)).alloc (.cells #[(.func (.func 87) #[] #[.pointer (some ⟨w.heap.size + 1 + 1, 0, none⟩), .pointer (some ⟨w.heap.size, 0, none⟩), .pointer (some ⟨w.heap.size + 1 + 1 + 1, 0, none⟩), .pointer (some ⟨st, 0, none⟩), .pointer (some ⟨an, 0, none⟩)])] 90)).drew w.heap.size 68 #[.pointer (some ⟨b, 0, none⟩)] := ((((Bk.new' _ _ _ (by simp)).alloc _).alloc _).alloc _).drew
  have b2 : Bk ((((w.alloc (.cells #[.pointer (some ⟨b, 0, none⟩)] 68)).alloc (.map #[] 0)).alloc (.cells #[.map (some (w.heap.size + 1))] 99)).alloc (.cells #[(.func (.func 87) #[] #[.pointer (some ⟨w.heap.size + 1 + 1, 0, none⟩), .pointer (some ⟨w.heap.size, 0, none⟩), .pointer (some ⟨w.heap.size + 1 + 1 + 1, 0, none⟩), .pointer (some ⟨st, 0, none⟩), .pointer (some ⟨an, 0, none⟩)])] 90)).drew (w.heap.size + 1 + 1) 99 #[.map (some (w.heap.size + 1))] := ((Bk.new' _ _ _ (by simp)).alloc _).drew
  have b3 : Bk ((((w.alloc (.cells #[.pointer (some ⟨b, 0, none⟩)] 68)).alloc (.map #[] 0)).alloc (.cells #[.map (some (w.heap.size + 1))] 99)).alloc (.cells #[(.func (.func 87) #[] #[.pointer (some ⟨w.heap.size + 1 + 1, 0, none⟩), .pointer (some ⟨w.heap.size, 0, none⟩), .pointer (some ⟨w.heap.size + 1 + 1 + 1, 0, none⟩), .pointer (some ⟨st, 0, none⟩), .pointer (some ⟨an, 0, none⟩)])] 90)).drew (w.heap.size + 1 + 1 + 1) 90 #[(.func (.func 87) #[] #[.pointer (some ⟨w.heap.size + 1 + 1, 0, none⟩), .pointer (some ⟨w.heap.size, 0, none⟩), .pointer (some ⟨w.heap.size + 1 + 1 + 1, 0, none⟩), .pointer (some ⟨st, 0, none⟩), .pointer (some ⟨an, 0, none⟩)])] := (Bk.new' _ _ _ (by simp)).drew
  have HX := Lib.hid (HC.out ((((w.alloc (.cells #[.pointer (some ⟨b, 0, none⟩)] 68)).alloc (.map #[] 0)).alloc (.cells #[.map (some (w.heap.size + 1))] 99)).alloc (.cells #[(.func (.func 87) #[] #[.pointer (some ⟨w.heap.size + 1 + 1, 0, none⟩), .pointer (some ⟨w.heap.size, 0, none⟩), .pointer (some ⟨w.heap.size + 1 + 1 + 1, 0, none⟩), .pointer (some ⟨st, 0, none⟩), .pointer (some ⟨an, 0, none⟩)])] 90)).drew (w.heap.size + 1) (w.heap.size + 1 + 1) w.heap.size (w.heap.size + 1 + 1 + 1) ⟨b2.cell 0, b0.cell 0, b3.cell 0, hkD.cellv i0 (fun h => h), hkD.cellv t0 (fun h => h)⟩ hm4 hkD (by
    intro k hk
    simp only [List.mem_cons, List.not_mem_nil, or_false] at hk
    omega) (by omega) (by omega) (by omega))
  have d0 : ((((w.alloc (.cells #[.pointer (some ⟨b, 0, none⟩)] 68)).alloc (.map #[] 0)).alloc (.cells #[.map (some (w.heap.size + 1))] 99)).alloc (.cells #[(.func (.func 87) #[] #[.pointer (some ⟨w.heap.size + 1 + 1, 0, none⟩), .pointer (some ⟨w.heap.size, 0, none⟩), .pointer (some ⟨w.heap.size + 1 + 1 + 1, 0, none⟩), .pointer (some ⟨st, 0, none⟩), .pointer (some ⟨an, 0, none⟩)])] 90)).drew.cell? ⟨bl, off, none⟩ = some (.int .i64 x) := hkD.cellv c0 (fun h => h)
  have d1 : ((((w.alloc (.cells #[.pointer (some ⟨b, 0, none⟩)] 68)).alloc (.map #[] 0)).alloc (.cells #[.map (some (w.heap.size + 1))] 99)).alloc (.cells #[(.func (.func 87) #[] #[.pointer (some ⟨w.heap.size + 1 + 1, 0, none⟩), .pointer (some ⟨w.heap.size, 0, none⟩), .pointer (some ⟨w.heap.size + 1 + 1 + 1, 0, none⟩), .pointer (some ⟨st, 0, none⟩), .pointer (some ⟨an, 0, none⟩)])] 90)).drew.cell? ⟨w.heap.size + 1 + 1 + 1, 0, none⟩ = some (.func (.func 87) #[] #[.pointer (some ⟨w.heap.size + 1 + 1, 0, none⟩), .pointer (some ⟨w.heap.size, 0, none⟩), .pointer (some ⟨w.heap.size + 1 + 1 + 1, 0, none⟩), .pointer (some ⟨st, 0, none⟩), .pointer (some ⟨an, 0, none⟩)]) := b3.cell 0
  clear HC hm1 hm2 hm3 hm4 b0 b2 b3 e1
  go_enter Tryd.func86, Tryd.ntmps86
  go_upto_region 4 with (fail)
  go_region_held3 (fun w' => w'.cell? ⟨bl, off, none⟩ = some (.int .i64 x) ∧ w'.cell? ⟨w.heap.size + 1 + 1 + 1, 0, none⟩ = some (.func (.func 87) #[] #[.pointer (some ⟨w.heap.size + 1 + 1, 0, none⟩), .pointer (some ⟨w.heap.size, 0, none⟩), .pointer (some ⟨w.heap.size + 1 + 1 + 1, 0, none⟩), .pointer (some ⟨st, 0, none⟩), .pointer (some ⟨an, 0, none⟩)]))
    (first | with_reducible exact ⟨d0, d1⟩ | with_reducible exact ⟨f0, f1⟩)
    ((go_at_call 87
      (with_reducible refine HX.out.mono ?_)
      rintro e w1 ⟨F1, N1, G1, r, rfl, hs1, hR, hk1, hF1, f0, ff⟩
      have f1 := ff.trans d1))
  go_wp2
  go_ret
  exact ⟨F1, N1, G1, r, rfl, hs1, hR, hk1, hF1⟩
end Go.Proofs.YtgdmcidcappkpaaDoor
