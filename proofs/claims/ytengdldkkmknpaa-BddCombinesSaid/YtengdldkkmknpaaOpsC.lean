/- What the closures of Restrict and Compose do. No condition. -/
import Derived.Test.YtengdldkkmknpaaRestrB
set_option linter.unusedVariables false
set_option linter.unusedSimpArgs false
namespace Go.Proofs.Ytengdldkkmknpaa
open Go.RowKit
open Dd (rf MemoOk den)

def rSem (v : Nat) (t : Bool) : List BF → BF := fun l => rf v t (l.getD 0 (fun _ => false))
set_option maxRecDepth 100000 in
theorem restrict_sem (w0 : World) (ib tb v : Nat) (t : Bool) (hv : v < 24) (hi0 : w0.cell? ⟨ib, 0, none⟩ = some (.int .i64 v)) (ht0 : w0.cell? ⟨tb, 0, none⟩ = some (.bool t)) :
    OpSem w0 76 #[.pointer (some ⟨ib, 0, none⟩), .pointer (some ⟨tb, 0, none⟩)] 1 (rSem v t) := by
  intro w b N G F xs ts hbel hs hg hm hlen hrd hFw hts hN hx
  obtain ⟨x, rfl⟩ : ∃ x, ts = [x] := by
    match ts, hlen with
    | [x], _ => exact ⟨x, rfl⟩
  obtain ⟨bl, off, c, rfl, hc, hcell⟩ := rd_cells hrd (by omega)
  have c0 : w.cell? ⟨bl, off + 0, none⟩ = some (.int .i64 x) := hcell 0 x rfl
  simp only [Nat.add_zero] at c0
  have hx1 := hts x (by simp)
  have hbF := hx bl rfl
  have htF : ¬ F tb := fun h => by have := hFw tb h; have := World.block_lt_of_cell? w0 _ ht0; simp at this; omega
  have hiF : ¬ F ib := fun h => by have := hFw ib h; have := World.block_lt_of_cell? w0 _ hi0; simp at this; omega
  have kb : ∀ (p : Addr) u, w0.cell? p = some u → w.cell? p = some u := fun p u h => (World.cell?_of_block (w := w0) (hbel.block _ (World.block_lt_of_cell? w0 p h))).trans h
  have HI : Hid (Calls Try.prog 77 #[.pointer (some ⟨b, 0, none⟩), .int .i64 x, .int .i64 v, .bool t] w.drew (StoPost b F w.drew (fun r N' G' => OpRel N (rf v t (den N x)) r N' G' ∧ N'.length ≤ N.length + 419430400))) := Lib.hid (restrict_any hs.drew hg hm x v t hx1 hv (by omega))
  refine Calls.mono (R := StoPost b F w (fun r N' G' => OpRel N (rf v t (den N x)) r N' G' ∧ N'.length ≤ N.length + 419430400)) ?_ fun e w' ⟨F', N', G', r, he, hs', hR, hk, hF⟩ => ⟨F', N', G', r, he, hs', hR.1, hk, hF⟩
  have d0 : w.drew.cell? ⟨bl, off, none⟩ = some (.int .i64 x) := c0
  have d1 : w.drew.cell? ⟨ib, 0, none⟩ = some (.int .i64 v) := kb _ _ hi0
  have d2 : w.drew.cell? ⟨tb, 0, none⟩ = some (.bool t) := kb _ _ ht0
  clear hs hrd hcell hts hx hlen
  show Calls Try.prog 76 #[.pointer (some ⟨b, 0, none⟩), .slice (some ⟨bl, off, none⟩) 1 c, .pointer (some ⟨ib, 0, none⟩), .pointer (some ⟨tb, 0, none⟩)] w _
  go_enter Try.func76, Try.ntmps76
  go_wp2
  go_region_held3 (fun w' => w'.cell? ⟨bl, off, none⟩ = some (.int .i64 x) ∧ w'.cell? ⟨ib, 0, none⟩ = some (.int .i64 v) ∧ w'.cell? ⟨tb, 0, none⟩ = some (.bool t))
    (first | with_reducible exact ⟨d0, d1, d2⟩ | with_reducible exact ⟨e0, e1, e2⟩)
    ((go_at_call 77
      (with_reducible refine HI.out.mono ?_)
      rintro e w1 ⟨F1, N1, G1, r, rfl, hs1, hR, hk1, hF1⟩
      have e0 : w1.cell? ⟨bl, off, none⟩ = some (.int .i64 x) := hk1.cellv d0 hbF
      have e1 : w1.cell? ⟨ib, 0, none⟩ = some (.int .i64 v) := hk1.cellv d1 hiF
      have e2 : w1.cell? ⟨tb, 0, none⟩ = some (.bool t) := hk1.cellv d2 htF))
  go_wp2
  go_ret
  exact ⟨F1, N1, G1, r, rfl, hs1, hR, hk1.undrew, hF1⟩

def cSem (v : Nat) : List BF → BF := fun l ρ => if (l.getD 1 (fun _ => false)) ρ then rf v true (l.getD 0 (fun _ => false)) ρ else rf v false (l.getD 0 (fun _ => false)) ρ
set_option maxRecDepth 100000 in
theorem compose_sem (w0 : World) (ib v : Nat) (hv : v < 24) (hi0 : w0.cell? ⟨ib, 0, none⟩ = some (.int .i64 v)) : OpSem w0 79 #[.pointer (some ⟨ib, 0, none⟩)] 2 (cSem v) := by
  intro w b N G F xs ts hbel hs hg hm hlen hrd hFw hts hN hx
  obtain ⟨x, y, rfl⟩ : ∃ x y, ts = [x, y] := by
    match ts, hlen with
    | [x, y], _ => exact ⟨x, y, rfl⟩
  obtain ⟨bl, off, c, rfl, hc, hcell⟩ := rd_cells hrd (by omega)
  have c0 : w.cell? ⟨bl, off + 0, none⟩ = some (.int .i64 x) := hcell 0 x rfl
  have c1 : w.cell? ⟨bl, off + 1, none⟩ = some (.int .i64 y) := hcell 1 y rfl
  simp only [Nat.add_zero] at c0
  have hx1 := hts x (by simp)
  have hy1 := hts y (by simp)
  have hbF := hx bl rfl
  have hbw : bl < w.heap.size := World.block_lt_of_cell? w _ c0
  have hiw0 : ib < w0.heap.size := World.block_lt_of_cell? w0 _ hi0
  have hiw : ib < w.heap.size := Nat.lt_of_lt_of_le hiw0 hbel.size
  have hiF : ¬ F ib := fun h => by have := hFw ib h; omega
  have kb : ∀ (p : Addr) u, w0.cell? p = some u → w.cell? p = some u := fun p u h => (World.cell?_of_block (w := w0) (hbel.block _ (World.block_lt_of_cell? w0 p h))).trans h
  have HA : Hid (Calls Try.prog 77 #[.pointer (some ⟨b, 0, none⟩), .int .i64 x, .int .i64 v, .bool true] w.drew (StoPost b F w.drew (fun r N' G' => OpRel N (rf v true (den N x)) r N' G' ∧ N'.length ≤ N.length + 419430400))) := Lib.hid (restrict_any hs.drew hg hm x v true hx1 hv (by omega))
  have HB : Hid (∀ w1 N1 G1 F1 r1, Sto w1 b N1 G1 F1 → OpRel N (rf v true (den N x)) r1 N1 G1 → N1.length ≤ N.length + 419430400 →
      Calls Try.prog 77 #[.pointer (some ⟨b, 0, none⟩), .int .i64 x, .int .i64 v, .bool false] w1 (StoPost b F1 w1 (fun r N' G' => OpRel N1 (rf v false (den N1 x)) r N' G' ∧ N'.length ≤ N1.length + 419430400))) := Lib.hid fun w1 N1 G1 F1 r1 h1 h2 h3 => by
    have := Dd.len_pre h2.pre
    exact restrict_any h1 h2.good h2.memo x v false (by omega) hv (by omega)
  have HCC : Hid (∀ w2 N1 G1 r1 N2 G2 F2 r2, Sto w2 b N2 G2 F2 → OpRel N (rf v true (den N x)) r1 N1 G1 → N1.length ≤ N.length + 419430400 → OpRel N1 (rf v false (den N1 x)) r2 N2 G2 → N2.length ≤ N1.length + 419430400 →
      Calls Try.prog 64 #[.pointer (some ⟨b, 0, none⟩), .int .i64 y, .int .i64 r1, .int .i64 r2] w2 (StoPost b F2 w2 (fun r N' G' => OpRel N (cSem v ([x, y].map (den N))) r N' G'))) := Lib.hid fun w2 N1 G1 r1 N2 G2 F2 r2 h1 h2 h3 h4 h5 => by
    have l1 := Dd.len_pre h2.pre
    have l2 := Dd.len_pre h4.pre
    have q1 := h2.lt
    refine (ite_any h1 h4.good h4.memo y r1 r2 (by omega) (by omega) h4.lt (by omega)).mono fun e w' ⟨F', N', G', r, he, hs', hR, hk, hF⟩ => ⟨F', N', G', r, he, hs', ?_, hk, hF⟩
    have hl := hR.len
    have : 2 ^ (24 - min (Dd.var N2 y) (min (Dd.var N2 r1) (Dd.var N2 r2))) ≤ 2 ^ 24 := Nat.pow_le_pow_right (by omega) (by omega)
    refine ⟨(h2.pre.trans h4.pre).trans hR.pre, hR.good, hR.memo, hR.lt, fun ρ => ?_, by omega⟩
    rw [hR.den, Dd.den_pre hg h4.good (h2.pre.trans h4.pre) hy1, Dd.den_pre h2.good h4.good h4.pre q1, h2.den, h4.den, Dd.den_pre' hg h2.good h2.pre hx1]
    rfl
  refine Calls.mono (R := fun e w' => ∃ F' N' G' r, e = .returned (.int .i64 (r : Nat)) ∧ Sto w' b N' G' F' ∧ OpRel N (cSem v ([x, y].map (den N))) r N' G' ∧ Keep F w w' ∧ ∀ k, F' k → F k ∨ w.heap.size ≤ k) ?_ fun e w' h => h
  have d0 : w.drew.cell? ⟨bl, off, none⟩ = some (.int .i64 x) := c0
  have d1 : w.drew.cell? ⟨bl, off + 1, none⟩ = some (.int .i64 y) := c1
  have d2 : w.drew.cell? ⟨ib, 0, none⟩ = some (.int .i64 v) := kb _ _ hi0
  have hsz : w.drew.heap.size = w.heap.size := rfl
  clear hs hrd hcell hts hx hlen hbel
  show Calls Try.prog 79 #[.pointer (some ⟨b, 0, none⟩), .slice (some ⟨bl, off, none⟩) 2 c, .pointer (some ⟨ib, 0, none⟩)] w _
  go_enter Try.func79, Try.ntmps79
  go_wp2
  go_region_held3 (fun w' => w'.cell? ⟨bl, off, none⟩ = some (.int .i64 x) ∧ w'.cell? ⟨bl, off + 1, none⟩ = some (.int .i64 y) ∧ w'.cell? ⟨ib, 0, none⟩ = some (.int .i64 v))
    (first | with_reducible exact ⟨d0, d1, d2⟩ | with_reducible exact ⟨e0, e1, e2⟩ | with_reducible exact ⟨f0, f1, f2⟩ | with_reducible exact ⟨g0, g1, g2⟩)
    (first
      | (go_at_call 77
         (with_reducible refine HA.out.mono ?_)
         rintro e w1 ⟨F1, N1, G1, r1, rfl, hs1, ⟨hR1, hL1⟩, hk1, hF1⟩
         have z1 := hk1.size
         have hbF1 : ¬ F1 bl := fun h => by
           rcases hF1 bl h with h | h
           · exact hbF h
           · omega
         have hiF1 : ¬ F1 ib := fun h => by
           rcases hF1 ib h with h | h
           · exact hiF h
           · omega
         have e0 : w1.cell? ⟨bl, off, none⟩ = some (.int .i64 x) := hk1.cellv d0 hbF
         have e1 : w1.cell? ⟨bl, off + 1, none⟩ = some (.int .i64 y) := hk1.cellv d1 hbF
         have e2 : w1.cell? ⟨ib, 0, none⟩ = some (.int .i64 v) := hk1.cellv d2 hiF)
      | (go_at_call 77
         (with_reducible refine (HB.out w1 N1 G1 F1 r1 hs1 hR1 hL1).mono ?_)
         rintro e w2 ⟨F2, N2, G2, r2, rfl, hs2, ⟨hR2, hL2⟩, hk2, hF2⟩
         have hbF2 : ¬ F2 bl := fun h => by
           rcases hF2 bl h with h | h
           · exact hbF1 h
           · omega
         have hiF2 : ¬ F2 ib := fun h => by
           rcases hF2 ib h with h | h
           · exact hiF1 h
           · omega
         have f0 : w2.cell? ⟨bl, off, none⟩ = some (.int .i64 x) := hk2.cellv e0 hbF1
         have f1 : w2.cell? ⟨bl, off + 1, none⟩ = some (.int .i64 y) := hk2.cellv e1 hbF1
         have f2 : w2.cell? ⟨ib, 0, none⟩ = some (.int .i64 v) := hk2.cellv e2 hiF1)
      | (go_at_call 64
         (with_reducible refine (HCC.out w2 N1 G1 r1 N2 G2 F2 r2 hs2 hR1 hL1 hR2 hL2).mono ?_)
         rintro e w3 ⟨F3, N3, G3, r3, rfl, hs3, hR3, hk3, hF3⟩
         have g0 : w3.cell? ⟨bl, off, none⟩ = some (.int .i64 x) := hk3.cellv f0 hbF2
         have g1 : w3.cell? ⟨bl, off + 1, none⟩ = some (.int .i64 y) := hk3.cellv f1 hbF2
         have g2 : w3.cell? ⟨ib, 0, none⟩ = some (.int .i64 v) := hk3.cellv f2 hiF2))
  go_wp2
  go_ret
  have hgt := grow_trans (w := w.drew) ⟨hk1, hF1⟩ (grow_trans ⟨hk2, hF2⟩ ⟨hk3, hF3⟩)
  exact ⟨F3, N3, G3, r3, rfl, hs3, hR3, hgt.1.undrew, hgt.2⟩
end Go.Proofs.Ytengdldkkmknpaa
