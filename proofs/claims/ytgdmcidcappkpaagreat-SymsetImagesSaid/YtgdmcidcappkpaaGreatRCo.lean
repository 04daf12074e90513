/- What the reference's variable (behind any pointer) and constant do. What the reference's apply does. What the reference's apply does, continued: its step. What the reference's combine does. What the reference's limited, two and flip do. No condition. -/
import Derived.Test.YtgdmcidcappkpaaGreatREvl
import Derived.Test.YtgdmcidcappkpaaGreatRNd
import Derived.Test.YtgdmcidcappkpaaGreatLaw
import Derived.Laws.Cover1
import Derived.Test.YtgdmcidcappkpaaGreatCanon
import Derived.Test.YtgdmcidcappkpaaGreatRCheck
set_option linter.unusedVariables false
set_option linter.unusedSimpArgs false
namespace Go.Proofs.YtgdmcidcappkpaaGreat
open Go.RowKit
open Dd (Rn rat ofN toN checkErr den lo var vr mk BOp)

set_option maxRecDepth 100000 in
set_option maxHeartbeats 400000 in
theorem variable_at (b k V : Nat) (M : List Nd) (A : Option Addr) (c i : Nat) (w : World) (hi : i < M.length + 2) (hM : M.length ≤ 1099511627776) (h0 : w.cell? ⟨b, k, none⟩ = some (.int .i64 V)) (h1 : w.cell? ⟨b, k + 1, none⟩ = some (.slice A M.length c)) (hrd : Rd w (.slice A M.length c) 3 M.length (ndsC M)) :
    Calls Tryz.prog 107 #[.pointer (some ⟨b, k, none⟩), .int .i64 i] w fun e w' => e = .returned (.int .i64 (vr V M i)) ∧ w' = w := by
  by_cases h2 : i < 2
  · have hv : vr V M i = V := by simp [vr, h2]
    rw [hv]
    go_enter Tryz.func107, Tryz.ntmps107
    go_wp2
    go_ret
    exact ⟨rfl, rfl⟩
  · obtain ⟨bl, off, rfl, _, y1, y2, y3⟩ := hrd.num (i := i) (by omega) hi
    have hv : vr V M i = var M i := by simp [vr, h2]
    rw [hv]
    clear hv y2 y3
    obtain ⟨j, rfl⟩ : ∃ j, i = j + 2 := ⟨i - 2, by omega⟩
    simp only [Nat.add_sub_cancel] at y1
    generalize var M (j + 2) = u at *
    have hj : j < M.length := by omega
    go_enter Tryz.func107, Tryz.ntmps107
    go_wp2
    go_ret
    exact ⟨rfl, rfl⟩

/-- The operation that a number names: 0 and, 1 or, else exclusive or. -/
def opF (op : Nat) : BOp := if op = 0 then fun a b => a && b else if op = 1 then fun a b => a || b else fun a b => xor a b

set_option maxRecDepth 100000 in
theorem const_000 (w : World) : Calls Tryz.prog 106 #[.int .i64 0, .int .i64 0, .int .i64 0] w fun e w' => e = .returned (.int .i64 0) ∧ w' = w := by
  go_enter Tryz.func106, Tryz.ntmps106
  go_wp2
  go_ret
  exact ⟨rfl, rfl⟩
set_option maxRecDepth 100000 in
theorem const_001 (w : World) : Calls Tryz.prog 106 #[.int .i64 0, .int .i64 0, .int .i64 1] w fun e w' => e = .returned (.int .i64 0) ∧ w' = w := by
  go_enter Tryz.func106, Tryz.ntmps106
  go_wp2
  go_ret
  exact ⟨rfl, rfl⟩
set_option maxRecDepth 100000 in
theorem const_010 (w : World) : Calls Tryz.prog 106 #[.int .i64 0, .int .i64 1, .int .i64 0] w fun e w' => e = .returned (.int .i64 0) ∧ w' = w := by
  go_enter Tryz.func106, Tryz.ntmps106
  go_wp2
  go_ret
  exact ⟨rfl, rfl⟩
set_option maxRecDepth 100000 in
theorem const_011 (w : World) : Calls Tryz.prog 106 #[.int .i64 0, .int .i64 1, .int .i64 1] w fun e w' => e = .returned (.int .i64 1) ∧ w' = w := by
  go_enter Tryz.func106, Tryz.ntmps106
  go_wp2
  go_ret
  exact ⟨rfl, rfl⟩
set_option maxRecDepth 100000 in
theorem const_100 (w : World) : Calls Tryz.prog 106 #[.int .i64 1, .int .i64 0, .int .i64 0] w fun e w' => e = .returned (.int .i64 0) ∧ w' = w := by
  go_enter Tryz.func106, Tryz.ntmps106
  go_wp2
  go_ret
  exact ⟨rfl, rfl⟩
set_option maxRecDepth 100000 in
theorem const_101 (w : World) : Calls Tryz.prog 106 #[.int .i64 1, .int .i64 0, .int .i64 1] w fun e w' => e = .returned (.int .i64 1) ∧ w' = w := by
  go_enter Tryz.func106, Tryz.ntmps106
  go_wp2
  go_ret
  exact ⟨rfl, rfl⟩
set_option maxRecDepth 100000 in
theorem const_110 (w : World) : Calls Tryz.prog 106 #[.int .i64 1, .int .i64 1, .int .i64 0] w fun e w' => e = .returned (.int .i64 1) ∧ w' = w := by
  go_enter Tryz.func106, Tryz.ntmps106
  go_wp2
  go_ret
  exact ⟨rfl, rfl⟩
set_option maxRecDepth 100000 in
theorem const_111 (w : World) : Calls Tryz.prog 106 #[.int .i64 1, .int .i64 1, .int .i64 1] w fun e w' => e = .returned (.int .i64 1) ∧ w' = w := by
  go_enter Tryz.func106, Tryz.ntmps106
  go_wp2
  go_ret
  exact ⟨rfl, rfl⟩
set_option maxRecDepth 100000 in
theorem const_200 (w : World) : Calls Tryz.prog 106 #[.int .i64 2, .int .i64 0, .int .i64 0] w fun e w' => e = .returned (.int .i64 0) ∧ w' = w := by
  go_enter Tryz.func106, Tryz.ntmps106
  go_wp2
  go_ret
  exact ⟨rfl, rfl⟩
set_option maxRecDepth 100000 in
theorem const_201 (w : World) : Calls Tryz.prog 106 #[.int .i64 2, .int .i64 0, .int .i64 1] w fun e w' => e = .returned (.int .i64 1) ∧ w' = w := by
  go_enter Tryz.func106, Tryz.ntmps106
  go_wp2
  go_ret
  exact ⟨rfl, rfl⟩
set_option maxRecDepth 100000 in
theorem const_210 (w : World) : Calls Tryz.prog 106 #[.int .i64 2, .int .i64 1, .int .i64 0] w fun e w' => e = .returned (.int .i64 1) ∧ w' = w := by
  go_enter Tryz.func106, Tryz.ntmps106
  go_wp2
  go_ret
  exact ⟨rfl, rfl⟩
set_option maxRecDepth 100000 in
theorem const_211 (w : World) : Calls Tryz.prog 106 #[.int .i64 2, .int .i64 1, .int .i64 1] w fun e w' => e = .returned (.int .i64 0) ∧ w' = w := by
  go_enter Tryz.func106, Tryz.ntmps106
  go_wp2
  go_ret
  exact ⟨rfl, rfl⟩

theorem constant_any (op x y : Nat) (hop : op < 3) (hx : x < 2) (hy : y < 2) (w : World) :
    Calls Tryz.prog 106 #[.int .i64 op, .int .i64 x, .int .i64 y] w fun e w' => e = .returned (.int .i64 ((if opF op (decide (x = 1)) (decide (y = 1)) then 1 else 0 : Nat) : Int)) ∧ w' = w := by
  have h1 : op = 0 ∨ op = 1 ∨ op = 2 := by omega
  have h2 : x = 0 ∨ x = 1 := by omega
  have h3 : y = 0 ∨ y = 1 := by omega
  rcases h1 with rfl | rfl | rfl <;> rcases h2 with rfl | rfl <;> rcases h3 with rfl | rfl
  · exact const_000 w
  · exact const_001 w
  · exact const_010 w
  · exact const_011 w
  · exact const_100 w
  · exact const_101 w
  · exact const_110 w
  · exact const_111 w
  · exact const_200 w
  · exact const_201 w
  · exact const_210 w
  · exact const_211 w

theorem run_min2 (a b : Nat) (w : World) : (Builtin.min_ #[3, 3] 3 #[.int .i64 a, .int .i64 b]).run Tryz.prog w = .ok (.int .i64 (min a b : Nat)) w := by
  rw [run_min_int2]
  congr 2
  split <;> omega
end Go.Proofs.YtgdmcidcappkpaaGreat
namespace Go.Proofs.YtgdmcidcappkpaaGreat
open Go.RowKit
open Dd (Rn rat ofN toN checkErr den lo var vr mk BOp ApRel ApMemo atP)

/-- What the places remember: one more than the number, 0: none yet. -/
def AP (P : List Nat) (k : Nat) : Option Nat := if P.getD k 0 = 0 then none else some (P.getD k 0 - 1)
theorem AP_some {P : List Nat} {k r : Nat} (h : AP P k = some r) : P.getD k 0 = r + 1 := by
  unfold AP at h
  generalize P.getD k 0 = q at *
  by_cases h0 : q = 0
  · rw [if_pos h0] at h; cases h
  · rw [if_neg h0] at h
    have := Option.some.inj h
    omega
theorem AP_none {P : List Nat} {k : Nat} (h : AP P k = none) : P.getD k 0 = 0 := by
  unfold AP at h
  generalize P.getD k 0 = q at *
  by_cases h0 : q = 0
  · exact h0
  · rw [if_neg h0] at h; cases h
theorem AP_set {P : List Nat} {j k r : Nat} (hj : j < P.length) : AP (P.set j (r + 1)) k = if k = j then some r else AP P k := by
  unfold AP
  by_cases hx : k = j
  · subst hx
    have e : (P.set k (r + 1)).getD k 0 = r + 1 := by simp [List.getD_eq_getElem?_getD, hj]
    rw [e, if_neg (by omega), if_pos rfl]
    rfl
  · have e : (P.set j (r + 1)).getD k 0 = P.getD k 0 := by
      rw [List.getD_eq_getElem?_getD, List.getD_eq_getElem?_getD, List.getElem?_set_ne (by omega)]
    rw [e, if_neg hx]

/-- The cells of the work. -/
def wkC (op V : Nat) (ra rb : Int) (sa sb dv sd : Value) : Array Value := #[.int .i64 op, .int .i64 V, sa, .int .i64 ra, .int .i64 V, sb, .int .i64 rb, .int .i64 V, dv, .int .i64 0, sd]
/-- What does not change while apply runs. -/
structure Wk where
  wb : Nat
  op : Nat
  V : Nat
  A : List Dd.Nd
  B : List Dd.Nd
  ra : Int
  rb : Int
  sa : Value
  sb : Value
  db : Nat
def Wk.n (k : Wk) : Nat := (k.A.length + 2) * (k.B.length + 2)
def Wk.cs (k : Wk) (dv : Value) : Array Value := wkC k.op k.V k.ra k.rb k.sa k.sb dv (.slice (some ⟨k.db, 0, none⟩) k.n k.n)
def Wk.at_ (k : Wk) (x y : Nat) : Nat := x * (k.B.length + 2) + y
theorem Wk.at_lt (k : Wk) {x y : Nat} (hx : x < k.A.length + 2) (hy : y < k.B.length + 2) : k.at_ x y < k.n := by
  unfold Wk.at_ Wk.n
  have : (x + 1) * (k.B.length + 2) ≤ (k.A.length + 2) * (k.B.length + 2) := Nat.mul_le_mul_right _ (by omega)
  rw [Nat.add_mul] at this
  omega
theorem Wk.at_inj (k : Wk) {x y x' y' : Nat} (hy : y < k.B.length + 2) (hy' : y' < k.B.length + 2) (h : k.at_ x y = k.at_ x' y') : x = x' ∧ y = y' := by
  unfold Wk.at_ at h
  generalize k.B.length + 2 = m at *
  have hd : x = x' := by
    have h1 : (x * m + y) / m = x := by rw [Nat.mul_comm, Nat.mul_add_div (by omega), Nat.div_eq_of_lt hy, Nat.add_zero]
    have h2 : (x' * m + y') / m = x' := by rw [Nat.mul_comm, Nat.mul_add_div (by omega), Nat.div_eq_of_lt hy', Nat.add_zero]
    rw [← h1, h, h2]
  subst hd
  exact ⟨rfl, by omega⟩
/-- What is known of the two operands. -/
structure Wk.Ok (k : Wk) : Prop where
  op : k.op < 3
  V : k.V ≤ 24
  gA : Dd.Good k.A
  gB : Dd.Good k.B
  vA : ∀ i, 2 ≤ i → i < k.A.length + 2 → var k.A i < k.V
  vB : ∀ i, 2 ≤ i → i < k.B.length + 2 → var k.B i < k.V
  len : k.n ≤ 35184372088832
  lA : k.A.length ≤ 1099511627776
  lB : k.B.length ≤ 1099511627776

/-- The state of apply: K are its own blocks. -/
def ASt (w : World) (k : Wk) (N : List Dd.Nd) (G : Nat × Nat → Option Nat) (K : Nat → Prop) : Prop :=
  ∃ dv P, Bk w k.wb 83 (k.cs dv) ∧ w.ownsRow 0 47 3 dv N.length (ndsC N) ∧ Bk w k.db 3 (inA P) ∧ P.length = k.n ∧ (∀ x y, x < k.A.length + 2 → y < k.B.length + 2 → G (x, y) = AP P (k.at_ x y)) ∧ ∀ i, K i ↔ (i = k.wb ∨ i = k.db ∨ dv.ownBlock = some i)
theorem ASt.lt {w : World} {k : Wk} {N : List Dd.Nd} {G : Nat × Nat → Option Nat} {K : Nat → Prop} (h : ASt w k N G K) : ∀ i, K i → i < w.heap.size := by
  obtain ⟨dv, P, hd, ho, hp, _, _, hK⟩ := h
  intro i hi
  rcases (hK i).1 hi with rfl | rfl | h
  · exact hd.lt
  · exact hp.lt
  · exact (ho.lt i h).2
theorem ASt.block {w w' : World} {k : Wk} {N : List Dd.Nd} {G : Nat × Nat → Option Nat} {K : Nat → Prop} (h : ASt w k N G K) (hb : ∀ i, K i → w'.heap[i]? = w.heap[i]?) : ASt w' k N G K := by
  obtain ⟨dv, P, hd, ho, hp, hl, hs, hK⟩ := h
  exact ⟨dv, P, hd.block (hb _ ((hK _).2 (.inl rfl))), own_keep ho fun i h => hb i ((hK _).2 (.inr (.inr h))), hp.block (hb _ ((hK _).2 (.inr (.inl rfl)))), hl, hs, hK⟩
/-- The operands' lists stand, apart from the own blocks. -/
def Wk.Rds (k : Wk) (w : World) (K : Nat → Prop) : Prop :=
  Rd w k.sa 3 k.A.length (ndsC k.A) ∧ Rd w k.sb 3 k.B.length (ndsC k.B) ∧ (0 < k.A.length → ∀ i, k.sa.ownBlock = some i → ¬ K i) ∧ (0 < k.B.length → ∀ i, k.sb.ownBlock = some i → ¬ K i)

def APost (k : Wk) (x y : Nat) (N : List Dd.Nd) (K : Nat → Prop) (w : World) (e : Ending) (w' : World) : Prop :=
  ∃ (r : Nat) (N' : List Dd.Nd) (G' : Nat × Nat → Option Nat) (K' : Nat → Prop), e = .returned (.int .i64 (r : Nat)) ∧ ApRel (opF k.op) k.A k.B N x y r N' G' ∧ ASt w' k N' G' K' ∧ Keep K w w' ∧ ∀ i, K' i → K i ∨ w.heap.size ≤ i
def appArgs (k : Wk) (x y : Nat) : Array Value := #[.pointer (some ⟨k.wb, 0, none⟩), .int .i64 x, .int .i64 y]
def AppIH (f : Nat) : Prop := ∀ (k : Wk) (w : World) (N : List Dd.Nd) (G : Nat × Nat → Option Nat) (K : Nat → Prop) (x y : Nat), k.Ok → ASt w k N G K → k.Rds w K → Dd.Good N → ApMemo (opF k.op) k.A k.B N G → x < k.A.length + 2 → y < k.B.length + 2 → x + y < f →
  N.length + 2 ^ (24 - min (var k.A x) (var k.B y)) ≤ 1099511627776 → Calls Tryz.prog 89 (appArgs k x y) w (APost k x y N K w)

theorem rd_ge {w : World} {s : Value} {M : List Dd.Nd} (h : Rd w s 3 M.length (ndsC M)) : ∃ A c, s = .slice A M.length c := by
  obtain ⟨_, A, c, rfl, _, _⟩ := h
  exact ⟨A, c, rfl⟩

section
variable {k : Wk} {w : World} {N : List Dd.Nd} {G : Nat × Nat → Option Nat} {K : Nat → Prop} {x y : Nat}

set_option maxRecDepth 100000 in
set_option maxHeartbeats 1000000 in
/-- Both are constants. -/
theorem app_const (ok : k.Ok) (hs : ASt w k N G K) (g : Dd.Good N) (m : ApMemo (opF k.op) k.A k.B N G) (hx : x < 2) (hy : y < 2) : Calls Tryz.prog 89 (appArgs k x y) w (APost k x y N K w) := by
  have R := Dd.ap_const g m hx hy
  have hc := constant_any k.op x y ok.op hx hy
  generalize (if opF k.op (decide (x = 1)) (decide (y = 1)) then 1 else 0 : Nat) = r at *
  have HH := Lib.hid (⟨R, hs⟩ : ApRel (opF k.op) k.A k.B N x y r N G ∧ ASt w k N G K)
  obtain ⟨dv, P, hd, _⟩ := hs
  have c0 : w.cell? ⟨k.wb, 0, none⟩ = some (.int .i64 k.op) := hd.cell 0
  have hT : ∀ e w', e = .returned (.int .i64 (r : Nat)) ∧ w = w' → APost k x y N K w e w' := by
    rintro e w' ⟨rfl, rfl⟩
    exact ⟨r, N, G, K, rfl, HH.out.1, HH.out.2, Keep.refl _ _, fun i h => .inl h⟩
  refine Calls.mono ?_ hT
  clear hT hd R g m ok
  unfold appArgs
  generalize k.wb = wb at *
  generalize k.op = op at *
  have h1 : (x : Int) < 2 := by omega
  have h2 : (y : Int) < 2 := by omega
  go_enter Tryz.func89, Tryz.ntmps89
  go_wp2_with (go_at_call 106; refine (hc w).mono ?_; rintro e w' ⟨rfl, rfl⟩)
  go_ret
  exact ⟨rfl, rfl⟩

set_option maxRecDepth 100000 in
set_option maxHeartbeats 1000000 in
/-- The pair is known. -/
theorem app_hit (ok : k.Ok) (hs : ASt w k N G K) (hrd : k.Rds w K) (g : Dd.Good N) (hN : N.length ≤ 1099511627776) (m : ApMemo (opF k.op) k.A k.B N G) (h2 : 2 ≤ x ∨ 2 ≤ y) (hx : x < k.A.length + 2) (hy : y < k.B.length + 2) {r : Nat} (hr : G (x, y) = some r) : Calls Tryz.prog 89 (appArgs k x y) w (APost k x y N K w) := by
  have R := Dd.ap_hit g m hr
  have hrn : r ≤ 1099511627778 := by have := R.lt; omega
  have hT : ∀ e w', e = .returned (.int .i64 (r : Nat)) ∧ w = w' → APost k x y N K w e w' := by
    rintro e w' ⟨rfl, rfl⟩
    exact ⟨r, N, G, K, rfl, R, hs, Keep.refl _ _, fun i h => .inl h⟩
  refine Calls.mono ?_ hT
  clear hT R g m
  obtain ⟨dv, P, hd, _, hp, hl, hG, _⟩ := hs
  obtain ⟨B1, cB, hsb⟩ := rd_ge hrd.2.1
  have hl2 := k.at_lt hx hy
  have hc : w.cell? ⟨k.db, k.at_ x y, none⟩ = some (.int .i64 ((r : Int) + 1)) := by
    rw [hp.cell]
    have hg := AP_some ((hG x y hx hy).symm.trans hr)
    unfold inA
    simp only [List.getElem?_toArray, List.getElem?_map]
    rw [List.getD_eq_getElem?_getD, List.getElem?_eq_getElem (by omega : k.at_ x y < P.length)] at hg
    rw [List.getElem?_eq_getElem (by omega : k.at_ x y < P.length)]
    simp only [Option.getD_some] at hg
    simp [inV, hg]
  have c5 : w.cell? ⟨k.wb, 8, none⟩ = some dv := hd.cell 8
  have c2 : w.cell? ⟨k.wb, 5, none⟩ = some (.slice B1 k.B.length cB) := by rw [hd.cell]; show some k.sb = _; rw [hsb]
  have c10 : w.cell? ⟨k.wb, 10, none⟩ = some (.slice (some ⟨k.db, 0, none⟩) k.n k.n) := hd.cell 10
  have hmul : IntKind.i64.wrap ((x : Int) * ((k.B.length : Int) + 2)) = ((x * (k.B.length + 2) : Nat) : Int) := by
    have e : (x : Int) * ((k.B.length : Int) + 2) = ((x * (k.B.length + 2) : Nat) : Int) := by push_cast; rfl
    rw [e]
    have := ok.len
    unfold Wk.at_ at hl2
    exact IntWalk.i64_in _ (by omega)
  have hlen := ok.len
  have hlB := ok.lB
  unfold Wk.at_ at hc hl2
  clear hd hp hl hG hrd ok
  unfold appArgs
  generalize k.wb = wb at *
  generalize k.db = db at *
  generalize k.n = n at *
  generalize k.B.length = nB at *
  generalize x * (nB + 2) = q at *
  have hne : (((r : Int) + 1) != 0) = true := by simp; omega
  have h2' : 2 ≤ (x : Int) ∨ 2 ≤ (y : Int) := by omega
  go_enter Tryz.func89, Tryz.ntmps89
  by_cases hx2 : 2 ≤ (x : Int)
  all_goals
    go_wp2
    go_ret
    exact ⟨rfl, rfl⟩
end
end Go.Proofs.YtgdmcidcappkpaaGreat
namespace Go.Proofs.YtgdmcidcappkpaaGreat
open Go.RowKit
open Dd (Rn rat ofN toN checkErr den lo var vr mk BOp ApRel ApMemo atP)

section
variable {k : Wk} {w : World} {N : List Dd.Nd} {G : Nat × Nat → Option Nat} {K : Nat → Prop} {x y : Nat}

theorem vr_min (ok : k.Ok) (h2 : 2 ≤ x ∨ 2 ≤ y) (hx : x < k.A.length + 2) (hy : y < k.B.length + 2) :
    min (vr k.V k.A x) (vr k.V k.B y) = min (var k.A x) (var k.B y) ∧ min (var k.A x) (var k.B y) < k.V ∧ (vr k.V k.A x = min (var k.A x) (var k.B y) ↔ var k.A x = min (var k.A x) (var k.B y)) ∧ (vr k.V k.B y = min (var k.A x) (var k.B y) ↔ var k.B y = min (var k.A x) (var k.B y)) := by
  have hV := ok.V
  have a : (x < 2 ∧ vr k.V k.A x = k.V ∧ var k.A x = 24) ∨ (2 ≤ x ∧ vr k.V k.A x = var k.A x ∧ var k.A x < k.V) := by
    by_cases h : x < 2
    · exact .inl ⟨h, by simp [vr, h], Dd.var_const h⟩
    · exact .inr ⟨by omega, by simp [vr, h], ok.vA x (by omega) hx⟩
  have b : (y < 2 ∧ vr k.V k.B y = k.V ∧ var k.B y = 24) ∨ (2 ≤ y ∧ vr k.V k.B y = var k.B y ∧ var k.B y < k.V) := by
    by_cases h : y < 2
    · exact .inl ⟨h, by simp [vr, h], Dd.var_const h⟩
    · exact .inr ⟨by omega, by simp [vr, h], ok.vB y (by omega) hy⟩
  omega

theorem at_le {M : List Dd.Nd} (g : Dd.Good M) {i v : Nat} (hi : i < M.length + 2) (hv : v < 24) (b : Bool) : atP M i v b ≤ i ∧ (var M i = v → atP M i v b < i) := by
  unfold atP
  by_cases h : var M i = v
  · have h2 : 2 ≤ i := by
      by_cases h2 : i < 2
      · rw [Dd.var_const h2] at h; omega
      · omega
    have h3 := g.lo_lt i h2 hi
    have h4 := g.hi_lt i h2 hi
    cases b <;> simp [h] <;> omega
  · rw [if_pos h]
    exact ⟨by omega, fun e => absurd e h⟩

/-- What the quiet regions want to know of one operand. -/
def Fx (w : World) (A : Option Addr) (n x vx v xl xh : Nat) : Prop :=
  (∃ bl off j, A = some ⟨bl, off, none⟩ ∧ x = j + 2 ∧ j < n ∧ ((vx : Int) == (v : Int)) = true ∧ w.cell? ⟨bl, off + j * 3 + 1, none⟩ = some (.int .i64 xl) ∧ w.cell? ⟨bl, off + j * 3 + 2, none⟩ = some (.int .i64 xh)) ∨ (((vx : Int) == (v : Int)) = false ∧ xl = x ∧ xh = x)
theorem fx_of {w : World} {A : Option Addr} {c : Nat} {M : List Dd.Nd} {x vx v : Nat} (hv : v < 24) (hx : x < M.length + 2) (hq : vx = v ↔ var M x = v) (h : Rd w (.slice A M.length c) 3 M.length (ndsC M)) : Fx w A M.length x vx v (atP M x v false) (atP M x v true) := by
  by_cases hxv : vx = v
  · have hm := hq.1 hxv
    have h2 : 2 ≤ x := by
      by_cases h2 : x < 2
      · rw [Dd.var_const h2] at hm; omega
      · omega
    obtain ⟨bl, off, rfl, _, _, y2, y3⟩ := h.num (i := x) h2 hx
    obtain ⟨j, rfl⟩ : ∃ j, x = j + 2 := ⟨x - 2, by omega⟩
    refine .inl ⟨bl, off, j, rfl, rfl, by omega, by simp [hxv], ?_, ?_⟩
    · simpa [atP, hm] using y2
    · simpa [atP, hm] using y3
  · refine .inr ⟨by simp; omega, ?_, ?_⟩
    · have : ¬ var M x = v := fun e => hxv (hq.2 e)
      simp [atP, this]
    · have : ¬ var M x = v := fun e => hxv (hq.2 e)
      simp [atP, this]

theorem Wk.Rds.next {w w' : World} {K K1 : Nat → Prop} (h : k.Rds w K) (hk : Keep K w w') (hK : ∀ i, K1 i → K i ∨ w.heap.size ≤ i) : k.Rds w' K1 := by
  obtain ⟨a, b, c, d⟩ := h
  refine ⟨a.kept0 hk c, b.kept0 hk d, fun h0 i hi h1 => ?_, fun h0 i hi h1 => ?_⟩
  · rcases hK i h1 with h | h
    · exact c h0 i hi h
    · have := a.blk_lt h0 (by omega) i hi; omega
  · rcases hK i h1 with h | h
    · exact d h0 i hi h
    · have := b.blk_lt h0 (by omega) i hi; omega
theorem ASt.kept {w w' : World} {F : Nat → Prop} (h : ASt w k N G K) (hk : Keep F w w') (hf : ∀ i, K i → ¬ F i) : ASt w' k N G K := h.block fun i hi => hk.block i (h.lt i hi) (hf i hi)

set_option maxRecDepth 100000 in
set_option maxHeartbeats 2000000 in
theorem app_rec {f : Nat} (ih : AppIH f) (ok : k.Ok) (hs : ASt w k N G K) (hrd : k.Rds w K) (g : Dd.Good N) (m : ApMemo (opF k.op) k.A k.B N G) (hx : x < k.A.length + 2) (hy : y < k.B.length + 2) (hf : x + y < f + 1) (h2 : 2 ≤ x ∨ 2 ≤ y)
    (hN : N.length + 2 ^ (24 - min (var k.A x) (var k.B y)) ≤ 1099511627776) (hr : G (x, y) = none) : Calls Tryz.prog 89 (appArgs k x y) w (APost k x y N K w) := by
  have IH := Lib.hid ih
  have OK := Lib.hid ok
  have HG := Lib.hid g
  have HM := Lib.hid m
  have HS := Lib.hid hs
  have HRD := Lib.hid hrd
  have HNN := Lib.hid hN
  obtain ⟨q1, q2, q3, q4⟩ := vr_min ok h2 hx hy
  obtain ⟨dv, P, hd, _, hp, hl, hG, _⟩ := hs
  obtain ⟨A1, cA, hsa⟩ := rd_ge hrd.1
  obtain ⟨B1, cB, hsb⟩ := rd_ge hrd.2.1
  have hl2 := k.at_lt hx hy
  have hc : w.cell? ⟨k.db, k.at_ x y, none⟩ = some (.int .i64 0) := by
    rw [hp.cell]
    have hg := AP_none ((hG x y hx hy).symm.trans hr)
    unfold inA
    simp only [List.getElem?_toArray, List.getElem?_map]
    rw [List.getD_eq_getElem?_getD, List.getElem?_eq_getElem (by omega : k.at_ x y < P.length)] at hg
    rw [List.getElem?_eq_getElem (by omega : k.at_ x y < P.length)]
    simp only [Option.getD_some] at hg
    simp [inV, hg]
  have c1 : w.cell? ⟨k.wb, 1, none⟩ = some (.int .i64 k.V) := hd.cell 1
  have c2 : w.cell? ⟨k.wb, 2, none⟩ = some (.slice A1 k.A.length cA) := by rw [hd.cell]; show some k.sa = _; rw [hsa]
  have c4 : w.cell? ⟨k.wb, 4, none⟩ = some (.int .i64 k.V) := hd.cell 4
  have c5 : w.cell? ⟨k.wb, 5, none⟩ = some (.slice B1 k.B.length cB) := by rw [hd.cell]; show some k.sb = _; rw [hsb]
  have c10 : w.cell? ⟨k.wb, 10, none⟩ = some (.slice (some ⟨k.db, 0, none⟩) k.n k.n) := hd.cell 10
  have hmul : IntKind.i64.wrap ((x : Int) * ((k.B.length : Int) + 2)) = ((x * (k.B.length + 2) : Nat) : Int) := by
    have e : (x : Int) * ((k.B.length : Int) + 2) = ((x * (k.B.length + 2) : Nat) : Int) := by push_cast; rfl
    rw [e]
    have := ok.len
    unfold Wk.at_ at hl2
    exact IntWalk.i64_in _ (by omega)
  have hva : ∀ wx, Keep NoF w wx → Calls Tryz.prog 107 #[.pointer (some ⟨k.wb, 1, none⟩), .int .i64 x] wx fun e w' => e = .returned (.int .i64 (vr k.V k.A x)) ∧ w' = wx := fun wx hk =>
    variable_at k.wb 1 k.V k.A A1 cA x wx hx ok.lA (hk.cellv c1 (fun h => h)) (hk.cellv c2 (fun h => h)) (by have := hrd.1; rw [hsa] at this; exact this.kept hk fun _ _ h => h)
  have hvb : ∀ wx, Keep NoF w wx → Calls Tryz.prog 107 #[.pointer (some ⟨k.wb, 4, none⟩), .int .i64 y] wx fun e w' => e = .returned (.int .i64 (vr k.V k.B y)) ∧ w' = wx := fun wx hk =>
    variable_at k.wb 4 k.V k.B B1 cB y wx hy ok.lB (hk.cellv c4 (fun h => h)) (hk.cellv c5 (fun h => h)) (by have := hrd.2.1; rw [hsb] at this; exact this.kept hk fun _ _ h => h)
  have hmn := run_min2 (vr k.V k.A x) (vr k.V k.B y)
  rw [q1] at hmn
  have h2' : 2 ≤ (x : Int) ∨ 2 ≤ (y : Int) := by omega
  have HVA := Lib.hid hva
  have HVB := Lib.hid hvb
  have HQ3 := Lib.hid q3
  have HQ4 := Lib.hid q4
  have hlen := ok.len
  have hlB := ok.lB
  unfold Wk.at_ at hc hl2
  clear hd hp hl hG hrd ok hva hvb ih g m q1 q3 q4 hr h2
  unfold appArgs
  generalize hwb : k.wb = wb at *
  generalize hdb : k.db = db at *
  generalize hnn : k.n = n at *
  generalize hmB : k.B.length = nB at *
  generalize hqq : x * (nB + 2) = q at *
  have HEQ := Lib.hid (And.intro hwb (And.intro hdb (And.intro hnn (And.intro hmB hqq))))
  clear hwb hdb hnn hmB hqq
  generalize hvx : vr k.V k.A x = vx at *
  generalize hvy : vr k.V k.B y = vy at *
  generalize hv : min (var k.A x) (var k.B y) = v at *
  have HV := Lib.hid (And.intro hvx (And.intro hvy hv))
  clear hvx hvy hv
  go_enter Tryz.func89, Tryz.ntmps89
  go_upto_region 1 with (fail)
  go_cut [21] (fun v21 wc => v21 = .bool false ∧ wc = w)
  case first =>
    by_cases hx2 : 2 ≤ (x : Int)
    all_goals
      go_wp2
      go_meet
      first
        | exact ⟨rfl, rfl⟩
        | exact ⟨congrArg Value.bool (decide_eq_false (by omega)), rfl⟩
  case rest =>
    obtain ⟨rfl, hwc⟩ := hcut
    obtain ⟨w1, rfl⟩ : ∃ w2 : World, w2 = wc := ⟨_, rfl⟩
    subst w1
    go_upto_region 6 with (fail)
    go_cut [8] (fun v8 wx => v8 = .int .i64 v ∧ Keep NoF w wx)
    case first =>
      go_region_with (first
        | (go_at_call 107
           (with_reducible refine (HVA.out _ (by first | exact Keep.refl _ _ | exact (Keep.refl _ _).drew | exact (Keep.refl _ _).drewN _)).mono ?_)
           rintro e w' ⟨rfl, rfl⟩)
        | (go_at_call 107
           (with_reducible refine (HVB.out _ (by first | exact Keep.refl _ _ | exact (Keep.refl _ _).drew | exact (Keep.refl _ _).drewN _)).mono ?_)
           rintro e w' ⟨rfl, rfl⟩))
      all_goals
        go_wp2
        go_meet
        exact ⟨rfl, by first | exact Keep.refl _ _ | exact (Keep.refl _ _).drew | exact (Keep.refl _ _).drewN _⟩
    case rest =>
      obtain ⟨rfl, hk6⟩ := hcut
      obtain ⟨W6, rfl⟩ : ∃ W6 : World, W6 = wc := ⟨_, rfl⟩
      have d2 := hk6.cellv c2 (fun h => h)
      have d5 := hk6.cellv c5 (fun h => h)
      have d10 := hk6.cellv c10 (fun h => h)
      have hrd6 := HRD.out.next (hk6.mono (G := K) fun _ _ h => h.elim) fun i h => .inl h
      have hs6 := HS.out.kept hk6 fun _ _ h => h
      have hyB : y < k.B.length + 2 := by rw [HEQ.out.2.2.2.1]; exact hy
      have hsb' : k.sb = .slice B1 k.B.length cB := by rw [HEQ.out.2.2.2.1]; exact hsb
      have hv24 : v < 24 := by have := OK.out.V; omega
      have hFx := fx_of hv24 hx HQ3.out (by have := hrd6.1; rw [hsa] at this; exact this)
      have hFy := fx_of hv24 hyB HQ4.out (by have := hrd6.2.1; rw [hsb'] at this; exact this)
      rw [HEQ.out.2.2.2.1] at hFy
      have hlA := OK.out.lA
      generalize hxl : atP k.A x v false = xl at *
      generalize hxh : atP k.A x v true = xh at *
      generalize hyl : atP k.B y v false = yl at *
      generalize hyh : atP k.B y v true = yh at *
      have HAT := Lib.hid (And.intro hxl (And.intro hxh (And.intro hyl hyh)))
      clear hxl hxh hyl hyh c1 c2 c4 c5 c10 hc
      go_upto_if 77 with (go_at_call 107; refine (HVA.out W6 hk6).mono ?_; rintro e w' ⟨rfl, hw'⟩; obtain rfl := hw'.symm)
      go_cut [9, 10] (fun v9 v10 wx => v9 = .int .i64 xl ∧ v10 = .int .i64 xh ∧ Keep NoF W6 wx)
      case first =>
        clear HVA HVB HQ3 HQ4 hFy
        rcases hFx with ⟨bl1, off1, j1, rfl, rfl, hj1, e1, a1, a2⟩ | ⟨e1, rfl, rfl⟩
        · go_wp2
          go_quiet (fail)
          go_wp2
          go_meet
          exact ⟨rfl, rfl, by first | exact Keep.refl _ _ | exact (Keep.refl _ _).drew | exact (Keep.refl _ _).drewN _⟩
        · go_wp2
          go_meet
          exact ⟨rfl, rfl, by first | exact Keep.refl _ _ | exact (Keep.refl _ _).drew | exact (Keep.refl _ _).drewN _⟩
      case rest =>
      obtain ⟨rfl, rfl, hk6b⟩ := hcut
      obtain ⟨W6b, rfl⟩ : ∃ W6b : World, W6b = wc := ⟨_, rfl⟩
      have c5b := hk6b.cellv d5 (fun h => h)
      have hFyb : Fx W6b B1 nB y vy v yl yh := by
        rcases hFy with ⟨bl, off, j, h1, h2, h3, h4, h5, h6⟩ | h
        · exact .inl ⟨bl, off, j, h1, h2, h3, h4, hk6b.cellv h5 (fun h => h), hk6b.cellv h6 (fun h => h)⟩
        · exact .inr h
      have hk06b := hk6.trans hk6b fun _ _ h => h
      clear hFx hFy d2 d5
      go_upto_if 104 with (go_at_call 107; refine (HVB.out W6b hk06b).mono ?_; rintro e w' ⟨rfl, hw'⟩; obtain rfl := hw'.symm)
      go_cut [11, 12] (fun v11 v12 wx => v11 = .int .i64 yl ∧ v12 = .int .i64 yh ∧ Keep NoF W6b wx)
      case first =>
        clear HVA HVB HQ3 HQ4
        rcases hFyb with ⟨bl1, off1, j1, rfl, rfl, hj1, e1, a1, a2⟩ | ⟨e1, rfl, rfl⟩
        · go_wp2
          go_quiet (fail)
          go_wp2
          go_meet
          exact ⟨rfl, rfl, by first | exact Keep.refl _ _ | exact (Keep.refl _ _).drew | exact (Keep.refl _ _).drewN _⟩
        · go_wp2
          go_meet
          exact ⟨rfl, rfl, by first | exact Keep.refl _ _ | exact (Keep.refl _ _).drew | exact (Keep.refl _ _).drewN _⟩
      case rest =>
        obtain ⟨rfl, rfl, hk6c⟩ := hcut
        obtain ⟨W7, rfl⟩ : ∃ W7 : World, W7 = wc := ⟨_, rfl⟩
        have hk7 : Keep NoF W6 W7 := hk6b.trans hk6c fun _ _ h => h
        clear hFyb c5b d10
        have hs7 := hs6.kept hk7 fun _ _ h => h
        have hrd7 := hrd6.next (hk7.mono (G := K) fun _ _ h => h.elim) fun i h => .inl h
        have hk07 : Keep K w W7 := (hk6.mono (G := K) fun _ _ h => h.elim).trans hk7 fun _ _ h => h.elim
        have hvA : v ≤ var k.A x := by have := HV.out.2.2; omega
        have hvB : v ≤ var k.B y := by have := HV.out.2.2; omega
        have A0 := Dd.at_spec OK.out.gA hx hvA hv24 false
        have A1' := Dd.at_spec OK.out.gA hx hvA hv24 true
        have B0 := Dd.at_spec OK.out.gB hyB hvB hv24 false
        have B1' := Dd.at_spec OK.out.gB hyB hvB hv24 true
        have la0 := at_le OK.out.gA hx hv24 false
        have la1 := at_le OK.out.gA hx hv24 true
        have lb0 := at_le OK.out.gB hyB hv24 false
        have lb1 := at_le OK.out.gB hyB hv24 true
        have hor : var k.A x = v ∨ var k.B y = v := by have := HV.out.2.2; omega
        rw [HAT.out.1] at A0 la0
        rw [HAT.out.2.1] at A1' la1
        rw [HAT.out.2.2.1] at B0 lb0
        rw [HAT.out.2.2.2] at B1' lb1
        have f0 : xl + yl < f := by
          rcases hor with h | h
          · have := la0.2 h; have := lb0.1; omega
          · have := lb0.2 h; have := la0.1; omega
        have f1 : xh + yh < f := by
          rcases hor with h | h
          · have := la1.2 h; have := lb1.1; omega
          · have := lb1.2 h; have := la1.1; omega
        have p0 := pow_half (show v < min (var k.A xl) (var k.B yl) by have := A0.2.1; have := B0.2.1; omega) hv24
        have p1 := pow_half (show v < min (var k.A xh) (var k.B yh) by have := A1'.2.1; have := B1'.2.1; omega) hv24
        have t0 := Nat.two_pow_pos (24 - min (var k.A xl) (var k.B yl))
        have t1 := Nat.two_pow_pos (24 - min (var k.A xh) (var k.B yh))
        have HC1 := Lib.hid (IH.out k W7 N G K xl yl OK.out hs7 hrd7 HG.out HM.out A0.1 B0.1 f0 (by omega))
        unfold appArgs at HC1
        rw [HEQ.out.1] at HC1
        go_upto_region 13 with (go_at_call 89
                                (with_reducible refine HC1.out.mono ?_)
                                rintro e w8 ⟨r1, N1, G1, K1, rfl, R1, hs8, hk8, hK1⟩)
        have hl1 := R1.len
        have hpl1 := Dd.len_pre R1.pre
        have hrd8 := hrd7.next hk8 hK1
        have HC2 := Lib.hid (IH.out k w8 N1 G1 K1 xh yh OK.out hs8 hrd8 R1.good R1.memo A1'.1 B1'.1 f1 (by omega))
        unfold appArgs at HC2
        rw [HEQ.out.1] at HC2
        have HR1 := Lib.hid R1
        clear R1
        go_upto_region 14 with (go_at_call 89
                                (with_reducible refine HC2.out.mono ?_)
                                rintro e w9 ⟨r2, N2, G2, K2, rfl, R2, hs9, hk9, hK2⟩)
        have hl2' := R2.len
        have hpl2 := Dd.len_pre R2.pre
        have hrl1 := HR1.out.lt
        have hrl2 := R2.lt
        have hN2 : N2.length ≤ 1099511627776 := by omega
        have HREL := Lib.hid (fun G' hG' => Dd.ap_step OK.out.gA OK.out.gB hx hyB (by omega : 2 ≤ x ∨ 2 ≤ y) HV.out.2.2.symm (by rw [HAT.out.1, HAT.out.2.2.1]; exact HR1.out) (by rw [HAT.out.2.1, HAT.out.2.2.2]; exact R2) G' hG')
        have HS9 := Lib.hid hs9
        have hmk1 : (mk N2 v r1 r2).1 ≤ 1099511627778 := by
          have h1 := (HREL.out (fun _ => none) (fun p z h => by cases h)).lt
          have h2 := (HREL.out (fun _ => none) (fun p z h => by cases h)).len
          rw [HV.out.2.2] at h2
          omega
        obtain ⟨dv2, P2, hd9, ho9, hp9, hl9, hG9, hK9⟩ := hs9
        rw [HEQ.out.1] at hd9
        rw [HEQ.out.2.1] at hp9
        rw [HEQ.out.2.2.1] at hl9
        have hdw : dv2.ownBlock ≠ some wb := own_ne_bk ho9 hd9 (by decide)
        have hdd : dv2.ownBlock ≠ some db := own_ne_bk ho9 hp9 (by decide)
        have hwd : wb ≠ db := hd9.ne_type hp9 (by decide)
        have HCN := Lib.hid (rnode_any (b := wb) (o := 7) (t := 83) (cs := k.cs dv2) (dv := dv2) (N := N2) ⟨hd9, rfl, ho9, hdw⟩ (by decide) hN2 v r1 r2 (by omega) (by omega) hv24)
        clear R2
        go_upto_region 15 with (go_at_call 108
                                (with_reducible refine HCN.out.mono ?_)
                                rintro e w10 ⟨dv3, rfl, ho, hk10, hdv3⟩)
        have hmkr : (mk N2 v r1 r2).1 = (mk N2 v r1 r2).1 := rfl
        obtain ⟨hd10, hat10, ho10, hne10⟩ := ho
        have hcs : (k.cs dv2).setIfInBounds (7 + 1) dv3 = k.cs dv3 := rfl
        rw [hcs] at hd10
        have hp10 := hp9.keep hk10 (fun h => by
          rcases h with h | h
          · exact hwd h.symm
          · exact hdd h)
        have hdd3 : dv3.ownBlock ≠ some db := own_ne_bk ho10 hp10 (by decide)
        have e10 : w10.cell? ⟨wb, 10, none⟩ = some (.slice (some ⟨db, 0, none⟩) n n) := by
          rw [hd10.cell]
          show some (Value.slice (some ⟨k.db, 0, none⟩) k.n k.n) = _
          rw [HEQ.out.2.1, HEQ.out.2.2.1]
        have hPj : q + y < P2.length := by omega
        have hold0 : ∃ u, w10.cell? ⟨db, q + y, none⟩ = some u := by
          refine ⟨inV P2[q + y], ?_⟩
          rw [hp10.cell]
          simp [inA, List.getElem?_eq_getElem hPj]
        obtain ⟨u, e11⟩ := hold0
        have e12 : w10.frozen? ⟨db, q + y, none⟩ = false := hp10.frozen _
        have hz10 := hk10.size
        have hz9 := hk9.size
        have hz8 := hk8.size
        have hz7 := hk07.size
        have HZ := Lib.hid (And.intro hz10 (And.intro hz9 (And.intro hz8 hz7)))
        have HMK := Lib.hid (rfl : (mk N2 v r1 r2).1 = (mk N2 v r1 r2).1)
        clear HCN HC1 HC2 hz10 hz9 hz8 hz7 hmkr
        generalize hrr : (mk N2 v r1 r2).1 = rr at *
        generalize hNN : (mk N2 v r1 r2).2 = N3 at *
        have HRR := Lib.hid (And.intro hrr hNN)
        clear hrr hNN
        go_wp2
        go_ret
        have KK2 : ∀ i, K2 i → K i ∨ w.heap.size ≤ i := fun i h => by
          have hz := HZ.out
          rcases hK2 i h with h | h
          · rcases hK1 i h with h | h
            · exact .inl h
            · exact .inr (by omega)
          · exact .inr (by omega)
        have T1 := hk07.trans hk8 fun _ _ h => h
        have T2 := T1.trans hk9 fun i hi h => by
          rcases hK1 i h with h | h
          · exact h
          · have := HZ.out; omega
        have T3 := T2.trans hk10 fun i hi h => by
          have h2 : K2 i := by
            rcases h with rfl | h
            · exact (hK9 _).2 (.inl HEQ.out.1.symm)
            · exact (hK9 _).2 (.inr (.inr h))
          rcases KK2 i h2 with h | h
          · exact h
          · omega
        have hKdb : K db ∨ w.heap.size ≤ db := KK2 db ((hK9 _).2 (.inr (.inl HEQ.out.2.1.symm)))
        refine ⟨rr, N3, fun p => if p = (x, y) then some rr else G2 p, fun i => i = k.wb ∨ i = k.db ∨ dv3.ownBlock = some i, rfl, HREL.out _ (fun p z h => ?_), ⟨dv3, P2.set (q + y) (rr + 1), ?_, ?_, ?_, ?_, fun x' y' hx' hy' => ?_, fun _ => Iff.rfl⟩, T3.setCell (p := ⟨db, q + y, none⟩) hKdb _, fun i hi => ?_⟩
        · by_cases hp : p = (x, y)
          · rw [if_pos hp] at h
            exact .inl ⟨hp, (Option.some.inj h).symm⟩
          · rw [if_neg hp] at h
            exact .inr h
        · rw [HEQ.out.1]
          exact hd10.far hwd _
        · exact own_keep ho10 fun i hi => Below.heap_setCell _ _ _ _ (fun e => hdd3 (by rw [hi]; exact congrArg some e))
        · rw [HEQ.out.2.1]
          have h := hp10.put (q + y) (.int .i64 ((rr : Int) + 1))
          have e : (inA P2).setIfInBounds (q + y) (.int .i64 ((rr : Int) + 1)) = inA (P2.set (q + y) (rr + 1)) := by
            unfold inA
            rw [List.setIfInBounds_toArray, List.map_set]
            congr 2
          rwa [e] at h
        · rw [HEQ.out.2.2.1, List.length_set]
          exact hl9
        · have hat : k.at_ x y = q + y := by
            unfold Wk.at_
            rw [HEQ.out.2.2.2.1, HEQ.out.2.2.2.2]
          rw [AP_set hPj, ← hG9 x' y' hx' hy']
          show (if (x', y') = (x, y) then some rr else G2 (x', y')) = _
          by_cases he : (x', y') = (x, y)
          · have he' := he
            simp only [Prod.mk.injEq] at he'
            obtain ⟨rfl, rfl⟩ := he'
            rw [if_pos he, if_pos hat]
          · rw [if_neg he, if_neg]
            intro e
            rw [← hat] at e
            obtain ⟨rfl, rfl⟩ := k.at_inj hy' hyB e
            exact he rfl
        · rcases hi with h | h | h
          · exact KK2 i ((hK9 _).2 (.inl h))
          · exact KK2 i ((hK9 _).2 (.inr (.inl h)))
          · rcases hdv3 i h with h | h
            · exact KK2 i ((hK9 _).2 (.inr (.inr h)))
            · exact .inr (by have := HZ.out; omega)

/-- The function apply, of whatever pair. -/
theorem app_fuel : ∀ f, AppIH f := by
  intro f
  induction f with
  | zero => intro k w N G K x y _ _ _ _ _ _ _ h; omega
  | succ f ih =>
    intro k w N G K x y ok hs hrd g m hx hy hf hN
    by_cases h2 : 2 ≤ x ∨ 2 ≤ y
    · cases hr : G (x, y) with
      | some r => exact app_hit ok hs hrd g (by have := Nat.two_pow_pos (24 - min (var k.A x) (var k.B y)); omega) m h2 hx hy hr
      | none => exact app_rec ih ok hs hrd g m hx hy hf h2 hN hr
    · exact app_const ok hs g m (by omega) (by omega)
end
end Go.Proofs.YtgdmcidcappkpaaGreat
namespace Go.Proofs.YtgdmcidcappkpaaGreat
open Go.RowKit
open Dd (Rn rat ofN toN checkErr den lo var vr mk BOp ApRel ApMemo atP canon)

/-- A diagram of the function f of V variables, alone. -/
def FPost (w : World) (V : Nat) (f : (Nat → Bool) → Bool) (e : Ending) (w' : World) : Prop :=
  ∃ (N : List Dd.Nd) (r : Nat), Dd.Good N ∧ r < N.length + 2 ∧ (∀ ρ, den N r ρ = f ρ) ∧ CPost w V (canon N r) e w'

/-- An operand: a list that is in order, its variables below V. -/
structure Opd (w : World) (V : Nat) (f : (Nat → Bool) → Bool) (A : Option Addr) (n c r : Nat) (M : List Dd.Nd) : Prop where
  len : n = M.length
  rd : Rd w (.slice A n c) 3 n (ndsC M)
  good : Dd.Good M
  vars : ∀ i, 2 ≤ i → i < M.length + 2 → var M i < V
  root : r < M.length + 2
  den : ∀ ρ, Dd.den M r ρ = f ρ
  small : M.length ≤ 1200000

set_option maxRecDepth 100000 in
set_option maxHeartbeats 2000000 in
theorem combine_any (op V : Nat) (hop : op < 3) (hV : V ≤ 24) {f g : (Nat → Bool) → Bool} {A1 A2 : Option Addr} {n1 c1 r1 n2 c2 r2 : Nat} {M1 M2 : List Dd.Nd} {w : World} (H1 : Opd w V f A1 n1 c1 r1 M1) (H2 : Opd w V g A2 n2 c2 r2 M2) :
    Calls Tryz.prog 69 #[.int .i64 op, .agg #[.int .i64 V, .slice A1 n1 c1, .int .i64 r1], .agg #[.int .i64 V, .slice A2 n2 c2, .int .i64 r2]] w (FPost w V fun ρ => opF op (f ρ) (g ρ)) := by
  have h1 := H1.rd
  have h2 := H2.rd
  have hn1 := H1.small
  have hn2 := H2.small
  rw [← H1.len] at hn1
  rw [← H2.len] at hn2
  have hm : (n1 + 2) * (n2 + 2) ≤ 1200002 * 1200002 := Nat.mul_le_mul (by omega) (by omega)
  have hm' : (n1 + 2) * (n2 + 2) ≤ 35184372088832 := by omega
  have hmul : IntKind.i64.wrap (((n1 : Int) + 2) * ((n2 : Int) + 2)) = (((n1 + 2) * (n2 + 2) : Nat) : Int) := by
    have e : ((n1 : Int) + 2) * ((n2 : Int) + 2) = (((n1 + 2) * (n2 + 2) : Nat) : Int) := by push_cast; rfl
    rw [e]
    exact IntWalk.i64_in _ (by omega)
  clear hm
  generalize hpr : (n1 + 2) * (n2 + 2) = pr at *
  have HPR := Lib.hid hpr
  clear hpr
  go_enter Tryz.func69, Tryz.ntmps69
  go_upto_region 1 with (fail)
  have kw : Keep NoF w (((w.alloc (.cells #[.int .i64 V, .slice A1 n1 c1, .int .i64 r1] 24)).alloc (.cells #[.int .i64 V, .slice A2 n2 c2, .int .i64 r2] 24)).alloc (.cells #[.int .i64 0, .slice none 0 0, .int .i64 0] 24)) := (((Keep.refl _ _).alloc _).alloc _).alloc _
  have qa : Bk (((w.alloc (.cells #[.int .i64 V, .slice A1 n1 c1, .int .i64 r1] 24)).alloc (.cells #[.int .i64 V, .slice A2 n2 c2, .int .i64 r2] 24)).alloc (.cells #[.int .i64 0, .slice none 0 0, .int .i64 0] 24)) w.heap.size 24 #[.int .i64 V, .slice A1 n1 c1, .int .i64 r1] := ((Bk.new' _ _ _ (by simp)).alloc _).alloc _
  have qb : Bk (((w.alloc (.cells #[.int .i64 V, .slice A1 n1 c1, .int .i64 r1] 24)).alloc (.cells #[.int .i64 V, .slice A2 n2 c2, .int .i64 r2] 24)).alloc (.cells #[.int .i64 0, .slice none 0 0, .int .i64 0] 24)) (w.heap.size + 1) 24 #[.int .i64 V, .slice A2 n2 c2, .int .i64 r2] := (Bk.new' _ _ _ (by simp)).alloc _
  have qz : Bk (((w.alloc (.cells #[.int .i64 V, .slice A1 n1 c1, .int .i64 r1] 24)).alloc (.cells #[.int .i64 V, .slice A2 n2 c2, .int .i64 r2] 24)).alloc (.cells #[.int .i64 0, .slice none 0 0, .int .i64 0] 24)) (w.heap.size + 1 + 1) 24 #[.int .i64 0, .slice none 0 0, .int .i64 0] := Bk.new' _ _ _ (by simp)
  have hz : (((w.alloc (.cells #[.int .i64 V, .slice A1 n1 c1, .int .i64 r1] 24)).alloc (.cells #[.int .i64 V, .slice A2 n2 c2, .int .i64 r2] 24)).alloc (.cells #[.int .i64 0, .slice none 0 0, .int .i64 0] 24)).heap.size = w.heap.size + 1 + 1 + 1 := by simp
  have HZ := Lib.hid hz
  clear hz
  generalize ((w.alloc (.cells #[.int .i64 V, .slice A1 n1 c1, .int .i64 r1] 24)).alloc (.cells #[.int .i64 V, .slice A2 n2 c2, .int .i64 r2] 24)).alloc (.cells #[.int .i64 0, .slice none 0 0, .int .i64 0] 24) = W3 at *
  have a0 : W3.cell? ⟨w.heap.size, 0, none⟩ = some (.int .i64 V) := qa.cell 0
  have a1 : W3.cell? ⟨w.heap.size, 1, none⟩ = some (.slice A1 n1 c1) := qa.cell 1
  have a2 : W3.cell? ⟨w.heap.size, 2, none⟩ = some (.int .i64 r1) := qa.cell 2
  have b0 : W3.cell? ⟨w.heap.size + 1, 0, none⟩ = some (.int .i64 V) := qb.cell 0
  have b1 : W3.cell? ⟨w.heap.size + 1, 1, none⟩ = some (.slice A2 n2 c2) := qb.cell 1
  have b2 : W3.cell? ⟨w.heap.size + 1, 2, none⟩ = some (.int .i64 r2) := qb.cell 2
  have hmk := run_make_ints pr (by omega)
  have l1 : w.heap.size < W3.heap.size := qa.lt
  have l2 : w.heap.size + 1 < W3.heap.size := qb.lt
  go_cut [7] (fun v7 wx => ∃ wb db, v7 = .pointer (some ⟨wb, 0, none⟩) ∧ Bk wx wb 83 (wkC op V r1 r2 (.slice A1 n1 c1) (.slice A2 n2 c2) (.slice none 0 0) (.slice (some ⟨db, 0, none⟩) pr pr)) ∧ Bk wx db 3 (inA (List.replicate pr 0)) ∧ Keep NoF W3 wx ∧ W3.heap.size ≤ wb ∧ W3.heap.size ≤ db)
  case first =>
    go_region
    · go_wp2
      go_meet
      refine ⟨W3.heap.size + 1, W3.heap.size, ?_, Bk.drew (Bk.new' _ _ _ (by simp)), Bk.drew ((Bk.new' _ _ _ (by simp)).alloc _), (((Keep.refl _ _).alloc _).alloc _).drew, by omega, by omega⟩
      first | rfl | simp
    · go_wp2
      go_meet
      refine ⟨W3.heap.size, W3.heap.size + 1, ?_, Bk.drew ((Bk.new' _ _ _ (by simp)).alloc _), Bk.drew (Bk.new' _ _ _ (by simp)), (((Keep.refl _ _).alloc _).alloc _).drew, by omega, by omega⟩
      first | rfl | simp
  case rest =>
    obtain ⟨wb, db, rfl, hw, hd, hk4, hwb, hdb⟩ := hcut
    obtain ⟨W4, rfl⟩ : ∃ W4 : World, W4 = wc := ⟨_, rfl⟩
    have kw4 := kw.trans hk4 fun _ _ h => h
    have qz4 := qz.keep hk4 (fun h => h)
    have d2 := hk4.cellv a2 (fun h => h)
    have d5 := hk4.cellv b2 (fun h => h)
    have hz4 := hk4.size
    have HSZ := Lib.hid (And.intro HZ.out (And.intro hwb (And.intro hdb hz4)))
    have e1 := H1.len
    have e2 := H2.len
    have hR1 := h1.kept kw4 fun _ _ h => h
    have hR2 := h2.kept kw4 fun _ _ h => h
    have hb1 : ∀ i, (Value.slice A1 n1 c1).ownBlock = some i → 0 < n1 → i < w.heap.size := fun i hi h0 => h1.blk_lt h0 (by omega) i hi
    have hb2 : ∀ i, (Value.slice A2 n2 c2).ownBlock = some i → 0 < n2 → i < w.heap.size := fun i hi h0 => h2.blk_lt h0 (by omega) i hi
    have HC1 : Hid (∀ k : Wk, k = ⟨wb, op, V, M1, M2, r1, r2, .slice A1 n1 c1, .slice A2 n2 c2, db⟩ → Calls Tryz.prog 89 #[.pointer (some ⟨wb, 0, none⟩), .int .i64 r1, .int .i64 r2] W4 (APost k r1 r2 [] (fun i => i = wb ∨ i = db) W4)) := Lib.hid (by
      intro k hk
      have hkn : k.n = pr := by subst hk; show (M1.length + 2) * (M2.length + 2) = pr; rw [← e1, ← e2]; exact HPR.out
      have := app_fuel (r1 + r2 + 1) k W4 [] (fun _ => none) (fun i => i = wb ∨ i = db) r1 r2
        (by subst hk; exact ⟨hop, hV, H1.good, H2.good, H1.vars, H2.vars, by rw [hkn]; exact hm', by have := H1.small; show M1.length ≤ _; omega, by have := H2.small; show M2.length ≤ _; omega⟩)
        (by
          refine ⟨.slice none 0 0, List.replicate pr 0, ?_, World.ownsRow_nil _ _ _ _, by subst hk; exact hd, by rw [hkn]; simp, fun x y _ _ => ?_, fun i => ?_⟩
          · unfold Wk.cs
            rw [hkn]
            subst hk
            exact hw
          · unfold AP
            rw [if_pos]
            rw [List.getD_eq_getElem?_getD, List.getElem?_replicate]
            split <;> rfl
          · subst hk; simp [Value.ownBlock])
        (by
          subst hk
          refine ⟨by rw [e1] at hR1; rw [e1]; exact hR1, by rw [e2] at hR2; rw [e2]; exact hR2, fun h0 i hi h => ?_, fun h0 i hi h => ?_⟩
          · have := hb1 i hi (by rw [e1]; exact h0)
            have := HSZ.out
            omega
          · have := hb2 i hi (by rw [e2]; exact h0)
            have := HSZ.out
            omega)
        Dd.Good.nil (Dd.ApMemo.none _ _ _ _) (by subst hk; exact H1.root) (by subst hk; exact H2.root) (by omega)
        (by
          have : 2 ^ (24 - min (var k.A r1) (var k.B r2)) ≤ 2 ^ 24 := Nat.pow_le_pow_right (by omega) (by omega)
          simp only [List.length_nil]
          omega)
      unfold appArgs at this
      subst hk
      exact this)
    obtain ⟨k, hk⟩ : ∃ k : Wk, k = ⟨wb, op, V, M1, M2, r1, r2, .slice A1 n1 c1, .slice A2 n2 c2, db⟩ := ⟨_, rfl⟩
    have HC := Lib.hid (HC1.out k hk)
    have HK := Lib.hid hk
    clear HC1 hk a0 a1 a2 b0 b1 b2 hmk hmul qa qb qz h1 h2 hR1 hR2 hb1 hb2 hw hd
    go_upto_region 3 with (go_at_call 89
                           (with_reducible refine HC.out.mono ?_)
                           rintro e w5 ⟨r, N', G', K', rfl, R, ⟨dv, P, od, oo, op', _, _, oK⟩, hk5, hK5⟩
                           have od : Bk w5 wb 83 (wkC op V r1 r2 (.slice A1 n1 c1) (.slice A2 n2 c2) dv (.slice (some ⟨k.db, 0, none⟩) k.n k.n)) := (by have := od; unfold Wk.cs at this; rw [HK.out] at this ⊢; exact this)
                           have g9 : w5.cell? ⟨wb, 9, none⟩ = some (.int .i64 0) := od.cell 9
                           have g9f := od.frozen 9)
    obtain ⟨A', c', rfl⟩ := own_form oo
    have HR := Lib.hid R
    have hlen : N'.length ≤ 1099510000000 := by
      have h1 := R.len
      have h2 : 2 ^ (24 - min (var k.A r1) (var k.B r2)) ≤ 2 ^ 24 := Nat.pow_le_pow_right (by omega) (by omega)
      simp only [List.length_nil] at h1
      omega
    have hdw : (Value.slice A' N'.length c').ownBlock ≠ some wb := own_ne_bk oo od (by decide)
    have od6 := od.put 9 (.int .i64 (r : Nat))
    have hsz := HSZ.out
    have qz6 := (qz4.keep hk5 (by omega)).far (p := ⟨wb, 9, none⟩) (by show w.heap.size + 1 + 1 ≠ wb; omega) (.int .i64 (r : Nat))
    have ro6 : Rd (w5.setCell ⟨wb, 9, none⟩ (.int .i64 (r : Nat))) (.slice A' N'.length c') 3 N'.length (ndsC N') := Rd.kept (F := fun k => k = wb) (Rd.of_own oo) ((Keep.refl (fun k => k = wb) w5).setCell (p := ⟨wb, 9, none⟩) (.inl rfl) _) fun k hk e => hdw (e ▸ hk)
    have A6 : Keep NoF w (w5.setCell ⟨wb, 9, none⟩ (.int .i64 (r : Nat))) := (kw4.trans hk5 fun i hi h => by omega).setCell (p := ⟨wb, 9, none⟩) (.inr (by show w.heap.size ≤ wb; omega)) _
    have HCC := canonical_any V N' (.slice A' N'.length c') r _ R.good R.lt hlen ro6
    clear od oo op' g9 g9f HC R oK ro6 hsz
    generalize w5.setCell ⟨wb, 9, none⟩ (.int .i64 (r : Nat)) = W6 at *
    generalize hC : canon N' r = C at *
    obtain ⟨C1, C2⟩ := C
    have HCE := Lib.hid hC
    have HCC := Lib.hid HCC
    clear hC
    have g7 : W6.cell? ⟨wb, 7, none⟩ = some (.int .i64 V) := od6.cell 7
    have g8 : W6.cell? ⟨wb, 8, none⟩ = some (.slice A' N'.length c') := od6.cell 8
    have g9 : W6.cell? ⟨wb, 9, none⟩ = some (.int .i64 r) := od6.cell 9
    go_wp2_with (go_at_call 90
                 (with_reducible refine HCC.out.mono ?_)
                 rintro e w7 ⟨A, c, rfl, hrd7, hk7, hf7⟩
                 have qz7 := qz6.keep hk7 (fun h => h)
                 have z0 : w7.cell? ⟨w.heap.size + 1 + 1, 0, none⟩ = some (.int .i64 0) := qz7.cell 0
                 have z1 : w7.cell? ⟨w.heap.size + 1 + 1, 1, none⟩ = some (.slice none 0 0) := qz7.cell 1
                 have z2 : w7.cell? ⟨w.heap.size + 1 + 1, 2, none⟩ = some (.int .i64 0) := qz7.cell 2
                 have f0 := qz7.frozen 0
                 have f1 := qz7.frozen 1
                 have f2 := qz7.frozen 2)
    have hx := ((qz7.put 0 (.int .i64 V)).put 1 (.slice A C2.length c)).put 2 (.int .i64 C1)
    have hz6 := A6.size
    have hz7 := hk7.size
    have hzl : w.heap.size + 1 + 1 < W6.heap.size := qz6.lt
    have A7 : Keep NoF w w7 := A6.trans hk7 fun _ _ h => h
    have hkf := A7.set3 (b := w.heap.size + 1 + 1) (by omega) (.int .i64 V) (.slice A C2.length c) (.int .i64 C1)
    have hrf : Rd (((w7.setCell ⟨w.heap.size + 1 + 1, 0, none⟩ (.int .i64 V)).setCell ⟨w.heap.size + 1 + 1, 1, none⟩ (.slice A C2.length c)).setCell ⟨w.heap.size + 1 + 1, 2, none⟩ (.int .i64 C1)) (.slice A C2.length c) 3 C2.length (ndsC C2) := hrd7.kept (keep_set3 w7 (w.heap.size + 1 + 1) _ _ _) fun k hk (e : k = w.heap.size + 1 + 1) => by have := hf7 k hk; omega
    generalize ((w7.setCell ⟨w.heap.size + 1 + 1, 0, none⟩ (.int .i64 V)).setCell ⟨w.heap.size + 1 + 1, 1, none⟩ (.slice A C2.length c)).setCell ⟨w.heap.size + 1 + 1, 2, none⟩ (.int .i64 C1) = W7 at *
    have x0 : W7.cell? ⟨w.heap.size + 1 + 1, 0, none⟩ = some (.int .i64 V) := hx.cell 0
    have x1 : W7.cell? ⟨w.heap.size + 1 + 1, 1, none⟩ = some (.slice A C2.length c) := hx.cell 1
    have x2 : W7.cell? ⟨w.heap.size + 1 + 1, 2, none⟩ = some (.int .i64 C1) := hx.cell 2
    refine bodyPost_ret (v := .agg #[.int .i64 V, .slice A C2.length c, .int .i64 C1]) (by simp [results, Tryz.results69, go_sem, x0, x1, x2]) rfl ?_
    have hkA : k.A = M1 := by rw [HK.out]
    have hkB : k.B = M2 := by rw [HK.out]
    have hko : k.op = op := by rw [HK.out]
    refine ⟨N', r, HR.out.good, HR.out.lt, fun ρ => ?_, ?_⟩
    · rw [HR.out.den, hkA, hkB, hko, H1.den, H2.den]
    · rw [HCE.out]
      exact ⟨A, c, rfl, hrf, hkf, fun k hk => by have := hf7 k hk; omega⟩
end Go.Proofs.YtgdmcidcappkpaaGreat
namespace Go.Proofs.YtgdmcidcappkpaaGreat
open Go.RowKit
open Dd (Rn rat ofN toN checkErr den lo var vr mk BOp canon)

set_option maxRecDepth 100000 in
set_option maxHeartbeats 1000000 in
theorem limited_any (V r : Int) (A : Option Addr) (n c : Nat) (w : World) : Calls Tryz.prog 68 #[.agg #[.int .i64 V, .slice A n c, .int .i64 r]] w fun e w' =>
    (e = if 4096 < n then .returned (.tuple #[dgZero, .int .i64 8]) else .returned (.tuple #[.agg #[.int .i64 V, .slice A n c, .int .i64 r], .int .i64 0])) ∧ Keep NoF w w' := by
  by_cases h1 : 4096 < n
  · have h1' : (4096 : Int) < (n : Int) := by omega
    have HE : Hid ((if 4096 < n then Ending.returned (.tuple #[dgZero, .int .i64 8]) else .returned (.tuple #[.agg #[.int .i64 V, .slice A n c, .int .i64 r], .int .i64 0])) = .returned (.tuple #[dgZero, .int .i64 8])) := Lib.hid (if_pos h1)
    rw [HE.out]
    go_enter Tryz.func68, Tryz.ntmps68
    go_wp2
    refine bodyPost_ret (v := .tuple #[dgZero, .int .i64 8]) (by simp [results, Tryz.results68, go_sem, dgZero]) rfl ⟨rfl, ?_⟩
    exact ((Keep.refl _ _).alloc _).alloc _
  · have h1' : ¬ (4096 : Int) < (n : Int) := by omega
    have HE : Hid ((if 4096 < n then Ending.returned (.tuple #[dgZero, .int .i64 8]) else .returned (.tuple #[.agg #[.int .i64 V, .slice A n c, .int .i64 r], .int .i64 0])) = .returned (.tuple #[.agg #[.int .i64 V, .slice A n c, .int .i64 r], .int .i64 0])) := Lib.hid (if_neg h1)
    rw [HE.out]
    go_enter Tryz.func68, Tryz.ntmps68
    go_wp2
    refine bodyPost_ret (v := .tuple #[.agg #[.int .i64 V, .slice A n c, .int .i64 r], .int .i64 0]) (by simp [results, Tryz.results68, go_sem]) rfl ⟨rfl, ?_⟩
    exact ((Keep.refl _ _).alloc _).alloc _

/-- What combine hands back is an operand again. -/
theorem FPost.out {w w' : World} {V : Nat} {f : (Nat → Bool) → Bool} {e : Ending} (h : FPost w V f e w') (hw : Dd.Within V f) :
    ∃ A n c r M, e = .returned (.agg #[.int .i64 V, .slice A n c, .int .i64 (r : Nat)]) ∧ Opd w' V f A n c r M ∧ Keep NoF w w' ∧ (∀ k, (Value.slice A n c).ownBlock = some k → w.heap.size ≤ k) ∧ canon M r = (r, M) := by
  obtain ⟨N, r, g, hr, hd, A, c, rfl, hrd, hk, hf⟩ := h
  obtain ⟨g1, g2, g3, g4⟩ := Dd.canon_good g hr
  have hwN : Dd.Within V (den N r) := by rw [show den N r = f from funext hd]; exact hw
  have hv := (Dd.canon_within g hr hwN).1
  exact ⟨A, _, c, _, (canon N r).2, rfl, ⟨rfl, hrd, g1, fun i h2 hi => hv _ (List.mem_of_getElem? (Dd.node_at h2 hi)), g2, fun ρ => (g3 ρ).trans (hd ρ), Dd.canon_len g hr⟩, hk, hf, g4⟩

theorem Opd.keep {w w' : World} {V : Nat} {f : (Nat → Bool) → Bool} {A : Option Addr} {n c r : Nat} {M : List Dd.Nd} (h : Opd w V f A n c r M) (hk : Keep NoF w w') : Opd w' V f A n c r M :=
  ⟨h.len, h.rd.kept hk fun _ _ h => h, h.good, h.vars, h.root, h.den, h.small⟩

theorem opd_true (w : World) (V : Nat) : Opd w V (fun _ => true) none 0 0 1 [] :=
  ⟨rfl, (Rd.of_own (World.ownsRow_nil w 0 47 3) : Rd w (.slice none 0 0) 3 0 (ndsC [])), Dd.Good.nil, fun i h2 hi => by simp at hi; omega, by simp, fun _ => rfl, by simp⟩

set_option maxRecDepth 100000 in
set_option maxHeartbeats 1000000 in
theorem flip_any (V : Nat) (hV : V ≤ 24) {f : (Nat → Bool) → Bool} (hw : Dd.Within V f) {A : Option Addr} {n c r : Nat} {M : List Dd.Nd} {w : World} (H : Opd w V f A n c r M) :
    Calls Tryz.prog 72 #[.agg #[.int .i64 V, .slice A n c, .int .i64 r]] w (FPost w V fun ρ => !f ρ) := by
  have k1 : Keep NoF w ((w.alloc (.cells #[.int .i64 V, .slice A n c, .int .i64 r] 24)).alloc (.cells #[.int .i64 0, .slice none 0 0, .int .i64 0] 24)) := ((Keep.refl _ _).alloc _).alloc _
  have qz : Bk ((w.alloc (.cells #[.int .i64 V, .slice A n c, .int .i64 r] 24)).alloc (.cells #[.int .i64 0, .slice none 0 0, .int .i64 0] 24)) (w.heap.size + 1) 24 #[.int .i64 0, .slice none 0 0, .int .i64 0] := Bk.new' _ _ _ (by simp)
  have HC := Lib.hid (show Calls Tryz.prog 69 #[.int .i64 2, .agg #[.int .i64 V, .slice A n c, .int .i64 r], .agg #[.int .i64 V, .slice none 0 0, .int .i64 1]] _ _ from combine_any 2 V (by omega) hV (H.keep k1) (opd_true _ V))
  clear H
  have qa : Bk ((w.alloc (.cells #[.int .i64 V, .slice A n c, .int .i64 r] 24)).alloc (.cells #[.int .i64 0, .slice none 0 0, .int .i64 0] 24)) w.heap.size 24 #[.int .i64 V, .slice A n c, .int .i64 r] := (Bk.new' _ _ _ (by simp)).alloc _
  go_enter Tryz.func72, Tryz.ntmps72
  go_upto_region 1 with (fail)
  generalize (w.alloc (.cells #[.int .i64 V, .slice A n c, .int .i64 r] 24)).alloc (.cells #[.int .i64 0, .slice none 0 0, .int .i64 0] 24) = W2 at *
  have a0 : W2.cell? ⟨w.heap.size, 0, none⟩ = some (.int .i64 V) := qa.cell 0
  have a1 : W2.cell? ⟨w.heap.size, 1, none⟩ = some (.slice A n c) := qa.cell 1
  have a2 : W2.cell? ⟨w.heap.size, 2, none⟩ = some (.int .i64 r) := qa.cell 2
  go_wp2_with (go_at_call 69
               (with_reducible refine HC.out.mono ?_)
               rintro e w7 ⟨N, t, hg, ht, hd, A', c', rfl, hrd7, hk7, hf7⟩
               generalize hC : canon N t = C at *
               obtain ⟨C1, C2⟩ := C
               have HCE := Lib.hid (And.intro hg (And.intro ht (And.intro hd hC)))
               clear hC hg ht hd
               have qz7 := qz.keep hk7 (fun h => h)
               have z0 : w7.cell? ⟨w.heap.size + 1, 0, none⟩ = some (.int .i64 0) := qz7.cell 0
               have z1 : w7.cell? ⟨w.heap.size + 1, 1, none⟩ = some (.slice none 0 0) := qz7.cell 1
               have z2 : w7.cell? ⟨w.heap.size + 1, 2, none⟩ = some (.int .i64 0) := qz7.cell 2
               have f0 := qz7.frozen 0
               have f1 := qz7.frozen 1
               have f2 := qz7.frozen 2)
  have hx := ((qz7.put 0 (.int .i64 V)).put 1 (.slice A' C2.length c')).put 2 (.int .i64 C1)
  have hz6 := k1.size
  have hz7 := hk7.size
  have hzl : w.heap.size + 1 < W2.heap.size := qz.lt
  have A7 : Keep NoF w w7 := k1.trans hk7 fun _ _ h => h
  have hkf := A7.set3 (b := w.heap.size + 1) (by omega) (.int .i64 V) (.slice A' C2.length c') (.int .i64 C1)
  have hrf : Rd (((w7.setCell ⟨w.heap.size + 1, 0, none⟩ (.int .i64 V)).setCell ⟨w.heap.size + 1, 1, none⟩ (.slice A' C2.length c')).setCell ⟨w.heap.size + 1, 2, none⟩ (.int .i64 C1)) (.slice A' C2.length c') 3 C2.length (ndsC C2) := hrd7.kept (keep_set3 w7 (w.heap.size + 1) _ _ _) fun k hk (e : k = w.heap.size + 1) => by have := hf7 k hk; omega
  generalize ((w7.setCell ⟨w.heap.size + 1, 0, none⟩ (.int .i64 V)).setCell ⟨w.heap.size + 1, 1, none⟩ (.slice A' C2.length c')).setCell ⟨w.heap.size + 1, 2, none⟩ (.int .i64 C1) = W7 at *
  have x0 : W7.cell? ⟨w.heap.size + 1, 0, none⟩ = some (.int .i64 V) := hx.cell 0
  have x1 : W7.cell? ⟨w.heap.size + 1, 1, none⟩ = some (.slice A' C2.length c') := hx.cell 1
  have x2 : W7.cell? ⟨w.heap.size + 1, 2, none⟩ = some (.int .i64 C1) := hx.cell 2
  refine bodyPost_ret (v := .agg #[.int .i64 V, .slice A' C2.length c', .int .i64 C1]) (by simp [results, Tryz.results72, go_sem, x0, x1, x2]) rfl ?_
  obtain ⟨hg, ht, hd, hC⟩ := HCE.out
  refine ⟨N, t, hg, ht, fun ρ => ?_, ?_⟩
  · rw [hd]; simp [opF]
  · rw [hC]
    exact ⟨A', c', rfl, hrf, hkf, fun k hk => by have := hf7 k hk; omega⟩

/-- The error of two diagrams. -/
def twoE (a b : Dg) : Int := if a.err ≠ 0 then a.err else if b.err ≠ 0 then b.err else if a.V = b.V then 0 else 3
theorem twoE_op (a b : Dg) : twoE a b = opErr a.V [a, b] := by
  unfold twoE opErr dgErr dgErr dgErr
  by_cases h1 : a.err = 0
  · by_cases h2 : b.err = 0
    · simp [h1, h2, eq_comm]
    · simp [h1, h2]
  · simp [h1]

set_option maxRecDepth 100000 in
set_option maxHeartbeats 1000000 in
theorem two_any (a b : Dg) (w : World) (ha : a.In w) (hb : b.In w) : Calls Tryz.prog 67 #[a.val, b.val] w fun e w' => e = .returned (.int .i64 (twoE a b)) ∧ Keep NoF w w' := by
  have HA := Lib.hid fun (w1 : World) (hk : Keep NoF w w1) => (show Calls Tryz.prog 71 #[a.val] w1 (fun e w' => e = .returned (.int .i64 a.err) ∧ Keep NoF w1 w') from rcheck_any a.V a.R a.root a.sl w1 ha.2 (ha.1.kept hk fun _ _ h => h))
  have HB := Lib.hid fun (w1 : World) (hk : Keep NoF w w1) => (show Calls Tryz.prog 71 #[b.val] w1 (fun e w' => e = .returned (.int .i64 b.err) ∧ Keep NoF w1 w') from rcheck_any b.V b.R b.root b.sl w1 hb.2 (hb.1.kept hk fun _ _ h => h))
  have HE : Hid (twoE a b = if a.err ≠ 0 then a.err else if b.err ≠ 0 then b.err else if a.V = b.V then 0 else 3) := Lib.hid rfl
  have ha1 := ha.1
  have hb1 := hb.1
  clear ha hb
  generalize twoE a b = te at *
  generalize a.err = ae at *
  generalize b.err = be at *
  obtain ⟨V1, R1, r1, s1⟩ := a
  obtain ⟨V2, R2, r2, s2⟩ := b
  simp only at ha1 hb1 HE
  obtain ⟨_, A1, c1, rfl, _, _⟩ := ha1
  obtain ⟨_, A2, c2, rfl, _, _⟩ := hb1
  simp only [Dg.val] at HA HB ⊢
  have k1 : Keep NoF w ((w.alloc (.cells #[.int .i64 V1, .slice A1 R1.length c1, .int .i64 r1] 24)).alloc (.cells #[.int .i64 V2, .slice A2 R2.length c2, .int .i64 r2] 24)) := ((Keep.refl _ _).alloc _).alloc _
  have qa : Bk ((w.alloc (.cells #[.int .i64 V1, .slice A1 R1.length c1, .int .i64 r1] 24)).alloc (.cells #[.int .i64 V2, .slice A2 R2.length c2, .int .i64 r2] 24)) w.heap.size 24 #[.int .i64 V1, .slice A1 R1.length c1, .int .i64 r1] := (Bk.new' _ _ _ (by simp)).alloc _
  have qb : Bk ((w.alloc (.cells #[.int .i64 V1, .slice A1 R1.length c1, .int .i64 r1] 24)).alloc (.cells #[.int .i64 V2, .slice A2 R2.length c2, .int .i64 r2] 24)) (w.heap.size + 1) 24 #[.int .i64 V2, .slice A2 R2.length c2, .int .i64 r2] := Bk.new' _ _ _ (by simp)
  go_enter Tryz.func67, Tryz.ntmps67
  go_upto_region 1 with (fail)
  generalize (w.alloc (.cells #[.int .i64 V1, .slice A1 R1.length c1, .int .i64 r1] 24)).alloc (.cells #[.int .i64 V2, .slice A2 R2.length c2, .int .i64 r2] 24) = W2 at *
  have a0 : W2.cell? ⟨w.heap.size, 0, none⟩ = some (.int .i64 V1) := qa.cell 0
  have a1 : W2.cell? ⟨w.heap.size, 1, none⟩ = some (.slice A1 R1.length c1) := qa.cell 1
  have a2 : W2.cell? ⟨w.heap.size, 2, none⟩ = some (.int .i64 r1) := qa.cell 2
  have HA2 := Lib.hid (HA.out _ k1)
  go_upto_region 2 with (go_at_call 71
                         (with_reducible refine HA2.out.mono ?_)
                         rintro e w3 ⟨rfl, hk3⟩)
  have k3 := k1.trans hk3 fun _ _ h => h
  have qa3 := qa.keep hk3 (fun h => h)
  have qb3 := qb.keep hk3 (fun h => h)
  have HB2 := Lib.hid (HB.out _ k3)
  by_cases h1 : ae = 0
  · have e1 : (ae != 0) = false := by simp [h1]
    have b0 : w3.cell? ⟨w.heap.size + 1, 0, none⟩ = some (.int .i64 V2) := qb3.cell 0
    have b1 : w3.cell? ⟨w.heap.size + 1, 1, none⟩ = some (.slice A2 R2.length c2) := qb3.cell 1
    have b2 : w3.cell? ⟨w.heap.size + 1, 2, none⟩ = some (.int .i64 r2) := qb3.cell 2
    go_upto_region 5 with (go_at_call 71
                           (with_reducible refine HB2.out.mono ?_)
                           rintro e w4 ⟨rfl, hk4⟩)
    have k4 := k3.trans hk4 fun _ _ h => h
    have qa4 := qa3.keep hk4 (fun h => h)
    have qb4 := qb3.keep hk4 (fun h => h)
    have g0 : w4.cell? ⟨w.heap.size, 0, none⟩ = some (.int .i64 V1) := qa4.cell 0
    have g1 : w4.cell? ⟨w.heap.size + 1, 0, none⟩ = some (.int .i64 V2) := qb4.cell 0
    by_cases h2 : be = 0
    · have e2 : (be != 0) = false := by simp [h2]
      by_cases h3 : V1 = V2
      · have e3 : (V1 != V2) = false := by simp [h3]
        have ht : te = 0 := by rw [HE.out, if_neg (by simp [h1]), if_neg (by simp [h2]), if_pos h3]
        have HT := Lib.hid ht
        clear h1 h2 h3 ht
        go_wp2
        go_ret
        exact ⟨by rw [HT.out] <;> rfl, k4⟩
      · have e3 : (V1 != V2) = true := by simp [h3]
        have ht : te = 3 := by rw [HE.out, if_neg (by simp [h1]), if_neg (by simp [h2]), if_neg h3]
        have HT := Lib.hid ht
        clear h1 h2 h3 ht
        go_wp2
        go_ret
        exact ⟨by rw [HT.out] <;> rfl, k4⟩
    · have e2 : (be != 0) = true := by simp [h2]
      have ht : te = be := by rw [HE.out, if_neg (by simp [h1]), if_pos h2]
      have HT := Lib.hid ht
      clear h1 h2 ht
      go_wp2
      go_ret
      exact ⟨by rw [HT.out] <;> rfl, k4⟩
  · have e1 : (ae != 0) = true := by simp [h1]
    have ht : te = ae := by rw [HE.out, if_pos h1]
    have HT := Lib.hid ht
    clear h1 ht
    go_wp2
    go_ret
    exact ⟨by rw [HT.out] <;> rfl, k3⟩
end Go.Proofs.YtgdmcidcappkpaaGreat
