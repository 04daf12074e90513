/- What the closure of quantify does. No condition. -/
import Derived.Test.YtengdldkkmknpaaQuant
import Derived.Test.YtengdldkkmknpaaOpsC
set_option linter.unusedVariables false
set_option linter.unusedSimpArgs false
namespace Go.Proofs.Ytengdldkkmknpaa
open Go.RowKit
open Dd (var lo mk PhRel PMemo qf MemoOk den)

noncomputable def qSem (a : Bool) (S : Nat) : List BF → BF := fun l => qf a S.testBit (l.getD 0 (fun _ => false))

set_option maxRecDepth 100000 in
theorem quant_sem (w0 : World) (st an S : Nat) (a : Bool) (hS : S < 18446744073709551616) (hi0 : w0.cell? ⟨st, 0, none⟩ = some (.int .u64 S)) (ht0 : w0.cell? ⟨an, 0, none⟩ = some (.bool a)) :
    OpSem w0 91 #[.pointer (some ⟨st, 0, none⟩), .pointer (some ⟨an, 0, none⟩)] 1 (qSem a S) := by
  have hmm := @run_makeMap Try.prog
  intro w b N G F xs ts hbel hs hg hm hlen hrd hFw hts hN hx
  obtain ⟨x, rfl⟩ : ∃ x, ts = [x] := by
    match ts, hlen with
    | [x], _ => exact ⟨x, rfl⟩
  obtain ⟨bl, off, c, rfl, hc, hcell⟩ := rd_cells hrd (by omega)
  have c0 : w.cell? ⟨bl, off + 0, none⟩ = some (.int .i64 x) := hcell 0 x rfl
  simp only [Nat.add_zero] at c0
  have hx1 := hts x (by simp)
  have hbF := hx bl rfl
  have hblt : bl < w.heap.size := World.block_lt_of_cell? w _ c0
  have hst0 : st < w0.heap.size := World.block_lt_of_cell? w0 _ hi0
  have han0 : an < w0.heap.size := World.block_lt_of_cell? w0 _ ht0
  have hw0 := hbel.size
  have kb : ∀ (p : Addr) u, w0.cell? p = some u → w.cell? p = some u := fun p u h => (World.cell?_of_block (w := w0) (hbel.block _ (World.block_lt_of_cell? w0 p h))).trans h
  have i0 := kb _ _ hi0
  have t0 := kb _ _ ht0
  have HC : Hid (∀ (w1 : World) (mt kc sb fb : Nat), QCaps w1 b kc sb fb st an mt S a → MapInt w1 mt (fun _ => none) → Keep NoF w w1 → (∀ k ∈ [mt, kc, sb, fb], w.heap.size ≤ k) → kc ≠ mt → sb ≠ mt → fb ≠ mt →
      Calls Try.prog 92 #[.int .i64 x, .pointer (some ⟨kc, 0, none⟩), .pointer (some ⟨sb, 0, none⟩), .pointer (some ⟨fb, 0, none⟩), .pointer (some ⟨st, 0, none⟩), .pointer (some ⟨an, 0, none⟩)] w1 (fun e w' => ∃ F' N' G' r, e = .returned (.int .i64 (r : Nat)) ∧ Sto w' b N' G' F' ∧
        OpRel N (qf a S.testBit (den N x)) r N' G' ∧ Keep F w w' ∧ (∀ k, F' k → F k ∨ w.heap.size ≤ k) ∧ w'.cell? ⟨bl, off, none⟩ = some (.int .i64 x) ∧ w'.cell? ⟨fb, 0, none⟩ = w1.cell? ⟨fb, 0, none⟩)) := Lib.hid fun w1 mt kc sb fb hc hm1 hk hge n1 n2 n3 => by
    have hF : ∀ k, F k → k < w.heap.size := hs.lt
    have hl : N.length + (25 - var N x) * 2 ^ (24 - var N x) ≤ 1099490000000 := by
      have h1 : 2 ^ (24 - var N x) ≤ 2 ^ 24 := Nat.pow_le_pow_right (by omega) (by omega)
      have h2 : (25 - var N x) * 2 ^ (24 - var N x) ≤ 25 * 2 ^ 24 := Nat.mul_le_mul (by omega) h1
      omega
    have g1 := hge mt (by simp)
    have g2 := hge kc (by simp)
    have g3 := hge sb (by simp)
    have g4 := hge fb (by simp)
    have hne : ∀ k ∈ qcaps kc sb fb st an, k ≠ mt := fun k hk => by
      simp only [qcaps, List.mem_cons, List.not_mem_nil, or_false] at hk
      rcases hk with rfl | rfl | rfl | rfl | rfl <;> omega
    have hnF : ∀ k ∈ qcaps kc sb fb st an, ¬ F k := fun k hk h => by
      have h1 := hF k h
      have h2 := hFw k h
      simp only [qcaps, List.mem_cons, List.not_mem_nil, or_false] at hk
      rcases hk with rfl | rfl | rfl | rfl | rfl <;> omega
    refine (q_fuel (b := b) (kb := kc) (sb := sb) (fb := fb) (st := st) (an := an) (mt := mt) (a := a) hS hne 24 w1 N G _ F x (hs.kept hk fun _ _ h => h) hm1 hc hnF (fun h => by have := hF mt h; omega) hg hm (PMemo.none _ _) hx1 (by omega) hl).mono ?_
    rintro e w' ⟨F', N', G', M', r, he, hs', hm', P, hk', hF'⟩
    have hkw : Keep F w w' := (hk.mono (fun _ _ h => h.elim)).trans hk' fun k hk2 h => by
      rcases h with h | h
      · exact h
      · omega
    refine ⟨F', N', G', r, he, hs', (ph_op P (by omega)).1, hkw, fun k hk2 => ?_, hkw.cellv c0 hbF, ?_⟩
    · rcases hF' k hk2 with h | h
      · exact .inl h
      · exact .inr (Nat.le_trans hk.size h)
    · exact (hk'.cellv hc.f (fun h => h.elim (hnF fb (by simp [qcaps])) n3)).trans hc.f.symm
  refine Calls.mono (R := fun e w' => ∃ F' N' G' r, e = .returned (.int .i64 (r : Nat)) ∧ Sto w' b N' G' F' ∧ OpRel N (qf a S.testBit (den N x)) r N' G' ∧ Keep F w w' ∧ ∀ k, F' k → F k ∨ w.heap.size ≤ k) ?_ fun e w' h => h
  clear hs hrd hcell hts hx hlen hg hm hi0 ht0
  show Calls Try.prog 91 #[.pointer (some ⟨b, 0, none⟩), .slice (some ⟨bl, off, none⟩) 1 c, .pointer (some ⟨st, 0, none⟩), .pointer (some ⟨an, 0, none⟩)] w _
  have hm1 := MapT.new (w.alloc (.cells #[.pointer (some ⟨b, 0, none⟩)] 67)) Try.prog 3 inV inV tiny
  have e1 : (w.alloc (.cells #[.pointer (some ⟨b, 0, none⟩)] 67)).heap.size = w.heap.size + 1 := by simp
  rw [e1] at hm1
  have hm2 := hm1.block (w' := (((w.alloc (.cells #[.pointer (some ⟨b, 0, none⟩)] 67)).alloc (.map #[] 0)).alloc (.cells #[.map (some (w.heap.size + 1))] 88))) (Below.heap_alloc _ _ _ hm1.lt)
  have hm3 := hm2.block (w' := ((((w.alloc (.cells #[.pointer (some ⟨b, 0, none⟩)] 67)).alloc (.map #[] 0)).alloc (.cells #[.map (some (w.heap.size + 1))] 88)).alloc (.cells #[(.func (.func 92) #[] #[.pointer (some ⟨w.heap.size + 1 + 1, 0, none⟩), .pointer (some ⟨w.heap.size, 0, none⟩), .pointer (some ⟨w.heap.size + 1 + 1 + 1, 0, none⟩), .pointer (some ⟨st, 0, none⟩), .pointer (some ⟨an, 0, none⟩)])] 64))) (Below.heap_alloc _ _ _ hm2.lt)
  have hm4 := hm3.block (w' := ((((w.alloc (.cells #[.pointer (some ⟨b, 0, none⟩)] 67)).alloc (.map #[] 0)).alloc (.cells #[.map (some (w.heap.size + 1))] 88)).alloc (.cells #[(.func (.func 92) #[] #[.pointer (some ⟨w.heap.size + 1 + 1, 0, none⟩), .pointer (some ⟨w.heap.size, 0, none⟩), .pointer (some ⟨w.heap.size + 1 + 1 + 1, 0, none⟩), .pointer (some ⟨st, 0, none⟩), .pointer (some ⟨an, 0, none⟩)])] 64)).drew) rfl
  have hkD : Keep NoF w ((((w.alloc (.cells #[.pointer (some ⟨b, 0, none⟩)] 67)).alloc (.map #[] 0)).alloc (.cells #[.map (some (w.heap.size + 1))] 88)).alloc (.cells #[(.func (.func 92) #[] #[.pointer (some ⟨w.heap.size + 1 + 1, 0, none⟩), .pointer (some ⟨w.heap.size, 0, none⟩), .pointer (some ⟨w.heap.size + 1 + 1 + 1, 0, none⟩), .pointer (some ⟨st, 0, none⟩), .pointer (some ⟨an, 0, none⟩)])] 64)).drew := (((((Keep.refl _ _).alloc _).alloc _).alloc _).alloc _).drew
  have b0 : Bk ((((w.alloc (.cells #[.pointer (some ⟨b, 0, none⟩)] 67)).alloc (.map #[] 0)).alloc (.cells #[.map (some (w.heap.size + 1))] 88)).alloc (.cells #[(.func (.func 92) #[] #[.pointer (some ⟨w.heap.size + 1 + 1, 0, none⟩), .pointer (some ⟨w.heap.size, 0, none⟩), .pointer (some ⟨w.heap.size + 1 + 1 + 1, 0, none⟩), .pointer (some ⟨st, 0, none⟩), .pointer (some ⟨an, 0, none⟩)])] 64)).drew w.heap.size 67 #[.pointer (some ⟨b, 0, none⟩)] := ((((Bk.new' _ _ _ (by simp)).alloc _).alloc _).alloc _).drew
  have b2 : Bk ((((w.alloc (.cells #[.pointer (some ⟨b, 0, none⟩)] 67)).alloc (.map #[] 0)).alloc (.cells #[.map (some (w.heap.size + 1))] 88)).alloc (.cells #[(.func (.func 92) #[] #[.pointer (some ⟨w.heap.size + 1 + 1, 0, none⟩), .pointer (some ⟨w.heap.size, 0, none⟩), .pointer (some ⟨w.heap.size + 1 + 1 + 1, 0, none⟩), .pointer (some ⟨st, 0, none⟩), .pointer (some ⟨an, 0, none⟩)])] 64)).drew (w.heap.size + 1 + 1) 88 #[.map (some (w.heap.size + 1))] := ((Bk.new' _ _ _ (by simp)).alloc _).drew
  have b3 : Bk ((((w.alloc (.cells #[.pointer (some ⟨b, 0, none⟩)] 67)).alloc (.map #[] 0)).alloc (.cells #[.map (some (w.heap.size + 1))] 88)).alloc (.cells #[(.func (.func 92) #[] #[.pointer (some ⟨w.heap.size + 1 + 1, 0, none⟩), .pointer (some ⟨w.heap.size, 0, none⟩), .pointer (some ⟨w.heap.size + 1 + 1 + 1, 0, none⟩), .pointer (some ⟨st, 0, none⟩), .pointer (some ⟨an, 0, none⟩)])] 64)).drew (w.heap.size + 1 + 1 + 1) 64 #[(.func (.func 92) #[] #[.pointer (some ⟨w.heap.size + 1 + 1, 0, none⟩), .pointer (some ⟨w.heap.size, 0, none⟩), .pointer (some ⟨w.heap.size + 1 + 1 + 1, 0, none⟩), .pointer (some ⟨st, 0, none⟩), .pointer (some ⟨an, 0, none⟩)])] := (Bk.new' _ _ _ (by simp)).drew
  have HX := Lib.hid (HC.out ((((w.alloc (.cells #[.pointer (some ⟨b, 0, none⟩)] 67)).alloc (.map #[] 0)).alloc (.cells #[.map (some (w.heap.size + 1))] 88)).alloc (.cells #[(.func (.func 92) #[] #[.pointer (some ⟨w.heap.size + 1 + 1, 0, none⟩), .pointer (some ⟨w.heap.size, 0, none⟩), .pointer (some ⟨w.heap.size + 1 + 1 + 1, 0, none⟩), .pointer (some ⟨st, 0, none⟩), .pointer (some ⟨an, 0, none⟩)])] 64)).drew (w.heap.size + 1) (w.heap.size + 1 + 1) w.heap.size (w.heap.size + 1 + 1 + 1) ⟨b2.cell 0, b0.cell 0, b3.cell 0, hkD.cellv i0 (fun h => h), hkD.cellv t0 (fun h => h)⟩ hm4 hkD (by
    intro k hk
    simp only [List.mem_cons, List.not_mem_nil, or_false] at hk
    omega) (by omega) (by omega) (by omega))
  have d0 : ((((w.alloc (.cells #[.pointer (some ⟨b, 0, none⟩)] 67)).alloc (.map #[] 0)).alloc (.cells #[.map (some (w.heap.size + 1))] 88)).alloc (.cells #[(.func (.func 92) #[] #[.pointer (some ⟨w.heap.size + 1 + 1, 0, none⟩), .pointer (some ⟨w.heap.size, 0, none⟩), .pointer (some ⟨w.heap.size + 1 + 1 + 1, 0, none⟩), .pointer (some ⟨st, 0, none⟩), .pointer (some ⟨an, 0, none⟩)])] 64)).drew.cell? ⟨bl, off, none⟩ = some (.int .i64 x) := hkD.cellv c0 (fun h => h)
  have d1 : ((((w.alloc (.cells #[.pointer (some ⟨b, 0, none⟩)] 67)).alloc (.map #[] 0)).alloc (.cells #[.map (some (w.heap.size + 1))] 88)).alloc (.cells #[(.func (.func 92) #[] #[.pointer (some ⟨w.heap.size + 1 + 1, 0, none⟩), .pointer (some ⟨w.heap.size, 0, none⟩), .pointer (some ⟨w.heap.size + 1 + 1 + 1, 0, none⟩), .pointer (some ⟨st, 0, none⟩), .pointer (some ⟨an, 0, none⟩)])] 64)).drew.cell? ⟨w.heap.size + 1 + 1 + 1, 0, none⟩ = some (.func (.func 92) #[] #[.pointer (some ⟨w.heap.size + 1 + 1, 0, none⟩), .pointer (some ⟨w.heap.size, 0, none⟩), .pointer (some ⟨w.heap.size + 1 + 1 + 1, 0, none⟩), .pointer (some ⟨st, 0, none⟩), .pointer (some ⟨an, 0, none⟩)]) := b3.cell 0
  clear HC hm1 hm2 hm3 hm4 b0 b2 b3 e1
  go_enter Try.func91, Try.ntmps91
  go_upto_region 4 with (fail)
  go_region_held3 (fun w' => w'.cell? ⟨bl, off, none⟩ = some (.int .i64 x) ∧ w'.cell? ⟨w.heap.size + 1 + 1 + 1, 0, none⟩ = some (.func (.func 92) #[] #[.pointer (some ⟨w.heap.size + 1 + 1, 0, none⟩), .pointer (some ⟨w.heap.size, 0, none⟩), .pointer (some ⟨w.heap.size + 1 + 1 + 1, 0, none⟩), .pointer (some ⟨st, 0, none⟩), .pointer (some ⟨an, 0, none⟩)]))
    (first | with_reducible exact ⟨d0, d1⟩ | with_reducible exact ⟨f0, f1⟩)
    ((go_at_call 92
      (with_reducible refine HX.out.mono ?_)
      rintro e w1 ⟨F1, N1, G1, r, rfl, hs1, hR, hk1, hF1, f0, ff⟩
      have f1 := ff.trans d1))
  go_wp2
  go_ret
  exact ⟨F1, N1, G1, r, rfl, hs1, hR, hk1, hF1⟩
end Go.Proofs.Ytengdldkkmknpaa
