/- What the closure of Xor does. No condition. -/
import Derived.Test.YtengdldkkmknpaaOps
set_option linter.unusedVariables false
set_option linter.unusedSimpArgs false
namespace Go.Proofs.Ytengdldkkmknpaa
open Go.RowKit
open Dd (IteRel MemoOk den)

def xorSem : List BF → BF := fun l ρ => Bool.xor ((l.getD 0 (fun _ => false)) ρ) ((l.getD 1 (fun _ => false)) ρ)
set_option maxRecDepth 100000 in
theorem xor_sem (w0 : World) : OpSem w0 69 #[] 2 xorSem := by
  intro w b N G F xs ts _ hs hg hm hlen hrd _ hts hN hx
  obtain ⟨x, y, rfl⟩ : ∃ x y, ts = [x, y] := by
    match ts, hlen with
    | [x, y], _ => exact ⟨x, y, rfl⟩
  obtain ⟨bl, off, c, rfl, hc, hcell⟩ := rd_cells hrd (by omega)
  have c0 : w.cell? ⟨bl, off + 0, none⟩ = some (.int .i64 x) := hcell 0 x rfl
  have c1 : w.cell? ⟨bl, off + 1, none⟩ = some (.int .i64 y) := hcell 1 y rfl
  simp only [Nat.add_zero] at c0
  have hx1 := hts x (by simp)
  have hy1 := hts y (by simp)
  have hbF := hx bl rfl
  have hF := hs.lt
  have hbw : bl < w.heap.size := World.block_lt_of_cell? w _ c0
  have HI : Hid (Calls Try.prog 64 #[.pointer (some ⟨b, 0, none⟩), .int .i64 y, .int .i64 0, .int .i64 1] w.drew (StoPost b F w.drew (fun r N' G' => IteRel N y 0 1 r N' G'))) := Lib.hid (ite_any hs.drew hg hm y 0 1 hy1 (by omega) (by omega) (by omega))
  have HJ : Hid (∀ (w1 : World) (N1 : List Nd) (G1 : Nd → Option Nat) (F1 : Nat → Prop) (r1 : Nat), Sto w1 b N1 G1 F1 → IteRel N y 0 1 r1 N1 G1 →
      Calls Try.prog 64 #[.pointer (some ⟨b, 0, none⟩), .int .i64 x, .int .i64 r1, .int .i64 y] w1 (StoPost b F1 w1 (fun r N' G' => IteRel N1 x r1 y r N' G'))) := Lib.hid fun w1 N1 G1 F1 r1 h1 h2 => by
    have hp := Dd.len_pre h2.pre
    have hl := h2.len
    have : 2 ^ (24 - min (Dd.var N y) (min (Dd.var N 0) (Dd.var N 1))) ≤ 2 ^ 24 := Nat.pow_le_pow_right (by omega) (by omega)
    exact ite_any h1 h2.good h2.memo x r1 y (by omega) h2.lt (by omega) (by omega)
  have hden : ∀ N1 G1 r1 N2 G2 r2, IteRel N y 0 1 r1 N1 G1 → IteRel N1 x r1 y r2 N2 G2 → OpRel N (xorSem ([x, y].map (den N))) r2 N2 G2 := fun N1 G1 r1 N2 G2 r2 h1 h2 => by
    have hl1 := h1.len
    have hl2 := h2.len
    have : 2 ^ (24 - min (Dd.var N y) (min (Dd.var N 0) (Dd.var N 1))) ≤ 2 ^ 24 := Nat.pow_le_pow_right (by omega) (by omega)
    have : 2 ^ (24 - min (Dd.var N1 x) (min (Dd.var N1 r1) (Dd.var N1 y))) ≤ 2 ^ 24 := Nat.pow_le_pow_right (by omega) (by omega)
    refine ⟨h1.pre.trans h2.pre, h2.good, h2.memo, h2.lt, fun ρ => ?_, by omega⟩
    rw [h2.den, h1.den, Dd.den_pre hg h1.good h1.pre hx1, Dd.den_pre hg h1.good h1.pre hy1]
    simp only [xorSem, List.map_cons, List.map_nil, List.getD_cons_zero, List.getD_cons_succ]
    have d0 : den N 0 ρ = false := by simp [den, Dd.denF]
    have d1 : den N 1 ρ = true := by simp [den, Dd.denF]
    rw [d0, d1]
    cases den N x ρ <;> cases den N y ρ <;> rfl
  refine Calls.mono (R := fun e w' => ∃ F' N' G' r, e = .returned (.int .i64 (r : Nat)) ∧ Sto w' b N' G' F' ∧ OpRel N (xorSem ([x, y].map (den N))) r N' G' ∧ Keep F w w' ∧ ∀ k, F' k → F k ∨ w.heap.size ≤ k) ?_ fun e w' h => h
  clear hs hrd hcell hts hx hlen
  show Calls Try.prog 69 #[.pointer (some ⟨b, 0, none⟩), .slice (some ⟨bl, off, none⟩) 2 c] w _
  have d0 : w.drew.cell? ⟨bl, off, none⟩ = some (.int .i64 x) := c0
  have d1 : w.drew.cell? ⟨bl, off + 1, none⟩ = some (.int .i64 y) := c1
  go_enter Try.func69, Try.ntmps69
  go_wp2
  go_region_held3 (fun w' => w'.cell? ⟨bl, off, none⟩ = some (.int .i64 x) ∧ w'.cell? ⟨bl, off + 1, none⟩ = some (.int .i64 y))
    (first | with_reducible exact ⟨d0, d1⟩ | with_reducible exact ⟨e0, e1⟩ | with_reducible exact ⟨g0, g1⟩)
    (first
      | (go_at_call 64
         (with_reducible refine HI.out.mono ?_)
         rintro e w1 ⟨F1, N1, G1, r1, rfl, hs1, hR1, hk1, hF1⟩
         have e0 : w1.cell? ⟨bl, off, none⟩ = some (.int .i64 x) := hk1.cellv d0 hbF
         have e1 : w1.cell? ⟨bl, off + 1, none⟩ = some (.int .i64 y) := hk1.cellv d1 hbF
         have hbF1 : ¬ F1 bl := fun h => by
           rcases hF1 bl h with h | h
           · exact hbF h
           · simp at h; omega)
      | (go_at_call 64
         (with_reducible refine (HJ.out w1 N1 G1 F1 r1 hs1 hR1).mono ?_)
         rintro e w2 ⟨F2, N2, G2, r2, rfl, hs2, hR2, hk2, hF2⟩
         have g0 : w2.cell? ⟨bl, off, none⟩ = some (.int .i64 x) := hk2.cellv e0 hbF1
         have g1 : w2.cell? ⟨bl, off + 1, none⟩ = some (.int .i64 y) := hk2.cellv e1 hbF1))
  go_wp2
  go_ret
  have hg := grow_trans (w := w.drew) ⟨hk1, hF1⟩ ⟨hk2, hF2⟩
  exact ⟨F2, N2, G2, r2, rfl, hs2, hden _ _ _ _ _ _ hR1 hR2, hg.1.undrew, hg.2⟩
end Go.Proofs.Ytengdldkkmknpaa
