/- What the closures of the operations do: Not, And, Or, Xor, Ite. No condition. -/
import Derived.Test.YtengdldkkmknpaaCheck
set_option linter.unusedVariables false
set_option linter.unusedSimpArgs false
namespace Go.Proofs.Ytengdldkkmknpaa
open Go.RowKit
open Dd (Rn rat ofN toN checkErr IteRel MemoOk den)

abbrev BF := (Nat → Bool) → Bool
/-- What an operation leaves in the store. -/
structure OpRel (N : List Nd) (φ : BF) (r : Nat) (N' : List Nd) (G' : Nd → Option Nat) : Prop where
  pre : N <+: N'
  good : Dd.Good N'
  memo : MemoOk N' G'
  lt : r < N'.length + 2
  den : ∀ ρ, Dd.den N' r ρ = φ ρ
  len : N'.length ≤ 1099000000000

theorem OpRel.of_ite {N N' : List Nd} {a b c r : Nat} {G' : Nd → Option Nat} (h : IteRel N a b c r N' G') {φ : BF} (hφ : ∀ ρ, (if Dd.den N a ρ then Dd.den N b ρ else Dd.den N c ρ) = φ ρ) (hN : N.length ≤ 1000000000000) : OpRel N φ r N' G' :=
  ⟨h.pre, h.good, h.memo, h.lt, fun ρ => by rw [h.den, hφ], by
    have := h.len
    have : 2 ^ (24 - min (Dd.var N a) (min (Dd.var N b) (Dd.var N c))) ≤ 2 ^ 24 := Nat.pow_le_pow_right (by omega) (by omega)
    omega⟩

/-- A closure (function f with the captured values cap) does the operation σ on k numbers, in every world that has what w0 has. -/
def OpSem (w0 : World) (f : Nat) (cap : Array Value) (k : Nat) (σ : List BF → BF) : Prop :=
  ∀ (w : World) (b : Nat) (N : List Nd) (G : Nd → Option Nat) (F : Nat → Prop) (xs : Value) (ts : List Nat), Below w0.heap.size w0 w → Sto w b N G F → Dd.Good N → MemoOk N G → ts.length = k → Rd w xs 1 k (ts.map inV) → (∀ x, F x → w0.heap.size ≤ x) →
    (∀ t ∈ ts, t < N.length + 2) → N.length ≤ 100000 → (∀ x, xs.ownBlock = some x → ¬ F x) →
    Calls Try.prog f (#[.pointer (some ⟨b, 0, none⟩), xs] ++ cap) w (StoPost b F w (fun r N' G' => OpRel N (σ (ts.map (den N))) r N' G'))

theorem rd_cells {w : World} {xs : Value} {k : Nat} {ts : List Nat} (h : Rd w xs 1 k (ts.map inV)) (hk : 0 < k) : ∃ bl off c, xs = .slice (some ⟨bl, off, none⟩) k c ∧ k ≤ c ∧ ∀ j t, ts[j]? = some t → w.cell? ⟨bl, off + j, none⟩ = some (.int .i64 (t : Nat)) := by
  obtain ⟨_, A, c, rfl, hc, h2⟩ := h
  obtain ⟨bl, off, rfl, hcell⟩ := h2 hk
  exact ⟨bl, off, c, rfl, hc, fun j t ht => hcell j _ (by simp [ht, inV])⟩

theorem post_drew {b : Nat} {F : Nat → Prop} {w : World} {R : Nat → List Nd → (Nd → Option Nat) → Prop} {e : Ending} {w' : World} (h : StoPost b F w.drew R e w') : StoPost b F w R e w' := by
  obtain ⟨F', N', G', r, he, hs, hR, hk, hF⟩ := h
  exact ⟨F', N', G', r, he, hs, hR, hk.undrew, hF⟩

def notSem : List BF → BF := fun l ρ => !(l.getD 0 (fun _ => false)) ρ
set_option maxRecDepth 100000 in
theorem not_sem (w0 : World) : OpSem w0 70 #[] 1 notSem := by
  intro w b N G F xs ts _ hs hg hm hlen hrd _ hts hN hx
  obtain ⟨x, rfl⟩ : ∃ x, ts = [x] := by
    match ts, hlen with
    | [x], _ => exact ⟨x, rfl⟩
  obtain ⟨bl, off, c, rfl, hc, hcell⟩ := rd_cells hrd (by omega)
  have c0 : w.cell? ⟨bl, off + 0, none⟩ = some (.int .i64 x) := hcell 0 x rfl
  simp only [Nat.add_zero] at c0
  have hx1 := hts x (by simp)
  have hbF := hx bl rfl
  have HI : Hid (Calls Try.prog 64 #[.pointer (some ⟨b, 0, none⟩), .int .i64 x, .int .i64 0, .int .i64 1] w (StoPost b F w (fun r N' G' => IteRel N x 0 1 r N' G'))) := Lib.hid (ite_any hs hg hm x 0 1 hx1 (by omega) (by omega) (by omega))
  refine Calls.mono (R := StoPost b F w (fun r N' G' => IteRel N x 0 1 r N' G')) ?_ fun e w' ⟨F', N', G', r, he, hs', hR, hk, hF⟩ => ⟨F', N', G', r, he, hs', OpRel.of_ite hR (fun ρ => by simp [notSem]; try (cases den N x ρ <;> simp)) (by omega), hk, hF⟩
  clear hs hrd hcell hts hx hlen
  show Calls Try.prog 70 #[.pointer (some ⟨b, 0, none⟩), .slice (some ⟨bl, off, none⟩) 1 c] w _
  have d0 : w.cell? ⟨bl, off, none⟩ = some (.int .i64 x) := c0
  go_enter Try.func70, Try.ntmps70
  go_wp2_with (go_at_call 64
               (with_reducible refine HI.out.mono ?_)
               rintro e w1 ⟨F1, N1, G1, r, rfl, hs1, hR, hk1, hF1⟩)
  go_ret
  exact ⟨F1, N1, G1, r, rfl, hs1, hR, hk1, hF1⟩

def andSem : List BF → BF := fun l ρ => (l.getD 0 (fun _ => false)) ρ && (l.getD 1 (fun _ => false)) ρ
set_option maxRecDepth 100000 in
theorem and_sem (w0 : World) : OpSem w0 63 #[] 2 andSem := by
  intro w b N G F xs ts _ hs hg hm hlen hrd _ hts hN hx
  obtain ⟨x, y, rfl⟩ : ∃ x y, ts = [x, y] := by
    match ts, hlen with
    | [x, y], _ => exact ⟨x, y, rfl⟩
  obtain ⟨bl, off, c, rfl, hc, hcell⟩ := rd_cells hrd (by omega)
  have c0 : w.cell? ⟨bl, off + 0, none⟩ = some (.int .i64 x) := hcell 0 x rfl
  have c1 : w.cell? ⟨bl, off + 1, none⟩ = some (.int .i64 y) := hcell 1 y rfl
  simp only [Nat.add_zero] at c0
  have hx1 := hts x (by simp)
  have hy1 := hts y (by simp)
  have hbF := hx bl rfl
  have HI : Hid (Calls Try.prog 64 #[.pointer (some ⟨b, 0, none⟩), .int .i64 x, .int .i64 y, .int .i64 0] w.drew (StoPost b F w.drew (fun r N' G' => IteRel N x y 0 r N' G'))) := Lib.hid (ite_any hs.drew hg hm x y 0 hx1 hy1 (by omega) (by omega))
  refine Calls.mono (R := StoPost b F w (fun r N' G' => IteRel N x y 0 r N' G')) ?_ fun e w' ⟨F', N', G', r, he, hs', hR, hk, hF⟩ => ⟨F', N', G', r, he, hs', OpRel.of_ite hR (fun ρ => by simp [andSem]; try (cases den N x ρ <;> simp)) (by omega), hk, hF⟩
  clear hs hrd hcell hts hx hlen
  show Calls Try.prog 63 #[.pointer (some ⟨b, 0, none⟩), .slice (some ⟨bl, off, none⟩) 2 c] w _
  have d0 : w.drew.cell? ⟨bl, off, none⟩ = some (.int .i64 x) := c0
  have d1 : w.drew.cell? ⟨bl, off + 1, none⟩ = some (.int .i64 y) := c1
  go_enter Try.func63, Try.ntmps63
  go_wp2
  go_region_held3 (fun w' => w'.cell? ⟨bl, off, none⟩ = some (.int .i64 x) ∧ w'.cell? ⟨bl, off + 1, none⟩ = some (.int .i64 y))
    (first | with_reducible exact ⟨d0, d1⟩ | with_reducible exact ⟨e0, e1⟩)
    ((go_at_call 64
      (with_reducible refine HI.out.mono ?_)
      rintro e w1 ⟨F1, N1, G1, r, rfl, hs1, hR, hk1, hF1⟩
      have e0 : w1.cell? ⟨bl, off, none⟩ = some (.int .i64 x) := hk1.cellv d0 hbF
      have e1 : w1.cell? ⟨bl, off + 1, none⟩ = some (.int .i64 y) := hk1.cellv d1 hbF))
  go_wp2
  go_ret
  exact ⟨F1, N1, G1, r, rfl, hs1, hR, hk1.undrew, hF1⟩

def orSem : List BF → BF := fun l ρ => (l.getD 0 (fun _ => false)) ρ || (l.getD 1 (fun _ => false)) ρ
set_option maxRecDepth 100000 in
theorem or_sem (w0 : World) : OpSem w0 68 #[] 2 orSem := by
  intro w b N G F xs ts _ hs hg hm hlen hrd _ hts hN hx
  obtain ⟨x, y, rfl⟩ : ∃ x y, ts = [x, y] := by
    match ts, hlen with
    | [x, y], _ => exact ⟨x, y, rfl⟩
  obtain ⟨bl, off, c, rfl, hc, hcell⟩ := rd_cells hrd (by omega)
  have c0 : w.cell? ⟨bl, off + 0, none⟩ = some (.int .i64 x) := hcell 0 x rfl
  have c1 : w.cell? ⟨bl, off + 1, none⟩ = some (.int .i64 y) := hcell 1 y rfl
  simp only [Nat.add_zero] at c0
  have hx1 := hts x (by simp)
  have hy1 := hts y (by simp)
  have hbF := hx bl rfl
  have HI : Hid (Calls Try.prog 64 #[.pointer (some ⟨b, 0, none⟩), .int .i64 x, .int .i64 1, .int .i64 y] w.drew (StoPost b F w.drew (fun r N' G' => IteRel N x 1 y r N' G'))) := Lib.hid (ite_any hs.drew hg hm x 1 y hx1 (by omega) hy1 (by omega))
  refine Calls.mono (R := StoPost b F w (fun r N' G' => IteRel N x 1 y r N' G')) ?_ fun e w' ⟨F', N', G', r, he, hs', hR, hk, hF⟩ => ⟨F', N', G', r, he, hs', OpRel.of_ite hR (fun ρ => by simp [orSem]; try (cases den N x ρ <;> simp)) (by omega), hk, hF⟩
  clear hs hrd hcell hts hx hlen
  show Calls Try.prog 68 #[.pointer (some ⟨b, 0, none⟩), .slice (some ⟨bl, off, none⟩) 2 c] w _
  have d0 : w.drew.cell? ⟨bl, off, none⟩ = some (.int .i64 x) := c0
  have d1 : w.drew.cell? ⟨bl, off + 1, none⟩ = some (.int .i64 y) := c1
  go_enter Try.func68, Try.ntmps68
  go_wp2
  go_region_held3 (fun w' => w'.cell? ⟨bl, off, none⟩ = some (.int .i64 x) ∧ w'.cell? ⟨bl, off + 1, none⟩ = some (.int .i64 y))
    (first | with_reducible exact ⟨d0, d1⟩ | with_reducible exact ⟨e0, e1⟩)
    ((go_at_call 64
      (with_reducible refine HI.out.mono ?_)
      rintro e w1 ⟨F1, N1, G1, r, rfl, hs1, hR, hk1, hF1⟩
      have e0 : w1.cell? ⟨bl, off, none⟩ = some (.int .i64 x) := hk1.cellv d0 hbF
      have e1 : w1.cell? ⟨bl, off + 1, none⟩ = some (.int .i64 y) := hk1.cellv d1 hbF))
  go_wp2
  go_ret
  exact ⟨F1, N1, G1, r, rfl, hs1, hR, hk1.undrew, hF1⟩

def ite3Sem : List BF → BF := fun l ρ => if (l.getD 0 (fun _ => false)) ρ then (l.getD 1 (fun _ => false)) ρ else (l.getD 2 (fun _ => false)) ρ
set_option maxRecDepth 100000 in
theorem ite3_sem (w0 : World) : OpSem w0 72 #[] 3 ite3Sem := by
  intro w b N G F xs ts _ hs hg hm hlen hrd _ hts hN hx
  obtain ⟨x, y, z, rfl⟩ : ∃ x y z, ts = [x, y, z] := by
    match ts, hlen with
    | [x, y, z], _ => exact ⟨x, y, z, rfl⟩
  obtain ⟨bl, off, c, rfl, hc, hcell⟩ := rd_cells hrd (by omega)
  have c0 : w.cell? ⟨bl, off + 0, none⟩ = some (.int .i64 x) := hcell 0 x rfl
  have c1 : w.cell? ⟨bl, off + 1, none⟩ = some (.int .i64 y) := hcell 1 y rfl
  have c2 : w.cell? ⟨bl, off + 2, none⟩ = some (.int .i64 z) := hcell 2 z rfl
  simp only [Nat.add_zero] at c0
  have hx1 := hts x (by simp)
  have hy1 := hts y (by simp)
  have hz1 := hts z (by simp)
  have hbF := hx bl rfl
  have HI : Hid (Calls Try.prog 64 #[.pointer (some ⟨b, 0, none⟩), .int .i64 x, .int .i64 y, .int .i64 z] w.drew (StoPost b F w.drew (fun r N' G' => IteRel N x y z r N' G'))) := Lib.hid (ite_any hs.drew hg hm x y z hx1 hy1 hz1 (by omega))
  refine Calls.mono (R := StoPost b F w (fun r N' G' => IteRel N x y z r N' G')) ?_ fun e w' ⟨F', N', G', r, he, hs', hR, hk, hF⟩ => ⟨F', N', G', r, he, hs', OpRel.of_ite hR (fun ρ => by simp [ite3Sem]; try (cases den N x ρ <;> simp)) (by omega), hk, hF⟩
  clear hs hrd hcell hts hx hlen
  show Calls Try.prog 72 #[.pointer (some ⟨b, 0, none⟩), .slice (some ⟨bl, off, none⟩) 3 c] w _
  have d0 : w.drew.cell? ⟨bl, off, none⟩ = some (.int .i64 x) := c0
  have d1 : w.drew.cell? ⟨bl, off + 1, none⟩ = some (.int .i64 y) := c1
  have d2 : w.drew.cell? ⟨bl, off + 2, none⟩ = some (.int .i64 z) := c2
  go_enter Try.func72, Try.ntmps72
  go_wp2
  go_region_held3 (fun w' => w'.cell? ⟨bl, off, none⟩ = some (.int .i64 x) ∧ w'.cell? ⟨bl, off + 1, none⟩ = some (.int .i64 y) ∧ w'.cell? ⟨bl, off + 2, none⟩ = some (.int .i64 z))
    (first | with_reducible exact ⟨d0, d1, d2⟩ | with_reducible exact ⟨e0, e1, e2⟩)
    ((go_at_call 64
      (with_reducible refine HI.out.mono ?_)
      rintro e w1 ⟨F1, N1, G1, r, rfl, hs1, hR, hk1, hF1⟩
      have e0 : w1.cell? ⟨bl, off, none⟩ = some (.int .i64 x) := hk1.cellv d0 hbF
      have e1 : w1.cell? ⟨bl, off + 1, none⟩ = some (.int .i64 y) := hk1.cellv d1 hbF
      have e2 : w1.cell? ⟨bl, off + 2, none⟩ = some (.int .i64 z) := hk1.cellv d2 hbF))
  go_wp2
  go_ret
  exact ⟨F1, N1, G1, r, rfl, hs1, hR, hk1.undrew, hF1⟩

end Go.Proofs.Ytengdldkkmknpaa
