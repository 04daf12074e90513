/- Reversed relations: the program's swap and Converse. No condition. -/
import Derived.Test.YtgdmcidcappkpaaDoorSyG
import Derived.Test.YtgdmcidcappkpaaDoorSyH
set_option linter.unusedVariables false
set_option linter.unusedSimpArgs false
namespace Go.Proofs.YtgdmcidcappkpaaDoor
open Go.RowKit
open Dd (Rn rat ofN toN checkErr den lo var Within Valid supp canon rf swF sw1)

/-- A part: a variable of the type of diagrams in an array. -/
structure Pt where
  v : Int
  A : Option Addr
  n : Nat
  c : Nat
  r : Int
def Pt.cells (p : Pt) : List Value := [.int .i64 p.v, .slice p.A p.n p.c, .int .i64 p.r]
def pc4 (a b c d : Pt) : Array Value := (a.cells ++ b.cells ++ c.cells ++ d.cells).toArray
def ptZ : Pt := ⟨0, none, 0, 0, 0⟩
/-- Nodes do not lie in a block no three neighbours of which are numbers. -/
theorem IsD.ne_gen {w : World} {V : Nat} {f : BF} {A : Option Addr} {n c r : Nat} (h : IsD w V f A n c r) {b : Nat} {t : TypeId} {cs : Array Value} (hb : Bk w b t cs) (hq : ∀ o : Nat, ∃ j, j < 3 ∧ ∀ k i, cs[o + j]? ≠ some (.int k i)) (hn : 0 < n) : (Value.slice A n c).ownBlock ≠ some b := by
  obtain ⟨M, rfl, h2, _⟩ := h
  obtain ⟨_, _, bl, off, rfl, hc⟩ := h2.at_ hn
  intro e
  have e : bl = b := by simpa [Value.ownBlock] using e
  subst e
  have hlen := h2.1
  obtain ⟨j, hj, hno⟩ := hq off
  have hl : j < (ndsC M).length := by omega
  have hc1 := hc j _ (List.getElem?_eq_getElem hl)
  have hm : ∀ u ∈ ndsC M, ∃ k i, u = Value.int k i := by
    intro u hu
    rw [← rnsC_ofN] at hu
    obtain ⟨q, _, hq⟩ := List.mem_flatMap.1 hu
    simp [rnC] at hq
    rcases hq with rfl | rfl | rfl <;> exact ⟨_, _, rfl⟩
  obtain ⟨k, i, hk⟩ := hm _ (List.getElem_mem hl)
  rw [hk, hb.cell] at hc1
  exact hno k i hc1
theorem IsD.far_gen {w w' : World} {V : Nat} {f : BF} {A : Option Addr} {n c r : Nat} (h : IsD w V f A n c r) {b : Nat} {t : TypeId} {cs : Array Value} (hb : Bk w b t cs) (hq : ∀ o : Nat, ∃ j, j < 3 ∧ ∀ k i, cs[o + j]? ≠ some (.int k i)) (hk : Keep (fun k => k = b) w w') : IsD w' V f A n c r := by
  by_cases hn : 0 < n
  · exact h.far hk fun k hk' e => h.ne_gen hb hq hn (e ▸ hk')
  · obtain ⟨M, h1, h2, h3, h4⟩ := h
    refine ⟨M, h1, ⟨h2.1, ?_⟩, h3, h4⟩
    obtain ⟨A', c', e, hc, _⟩ := h2.2
    exact ⟨A', c', e, hc, fun h => absurd h hn⟩
theorem pc4_no (a b c d : Pt) : ∀ o : Nat, ∃ j, j < 3 ∧ ∀ k i, (pc4 a b c d)[o + j]? ≠ some (.int k i) := by
  intro o
  match o with
  | 0 => exact ⟨1, by omega, fun k i h => by simp [pc4, Pt.cells] at h⟩
  | 1 => exact ⟨0, by omega, fun k i h => by simp [pc4, Pt.cells] at h⟩
  | 2 => exact ⟨2, by omega, fun k i h => by simp [pc4, Pt.cells] at h⟩
  | 3 => exact ⟨1, by omega, fun k i h => by simp [pc4, Pt.cells] at h⟩
  | 4 => exact ⟨0, by omega, fun k i h => by simp [pc4, Pt.cells] at h⟩
  | 5 => exact ⟨2, by omega, fun k i h => by simp [pc4, Pt.cells] at h⟩
  | 6 => exact ⟨1, by omega, fun k i h => by simp [pc4, Pt.cells] at h⟩
  | 7 => exact ⟨0, by omega, fun k i h => by simp [pc4, Pt.cells] at h⟩
  | 8 => exact ⟨2, by omega, fun k i h => by simp [pc4, Pt.cells] at h⟩
  | 9 => exact ⟨1, by omega, fun k i h => by simp [pc4, Pt.cells] at h⟩
  | 10 => exact ⟨0, by omega, fun k i h => by simp [pc4, Pt.cells] at h⟩
  | 11 => exact ⟨2, by omega, fun k i h => by simp [pc4, Pt.cells] at h⟩
  | m + 12 => exact ⟨0, by omega, fun k i h => by rw [Array.getElem?_eq_none (by simp [pc4, Pt.cells])] at h; cases h⟩
/-- The parts that are done. -/
def PtOk (w : World) (V : Nat) (f : BF) (p : Pt) : Prop := p.v = V ∧ ∃ r : Nat, p.r = r ∧ IsD w V f p.A p.n p.c r
section
set_option maxRecDepth 100000
set_option maxHeartbeats 4000000
theorem swap_any {f : BF} {V : Nat} (hV : V ≤ 12) (i : Nat) (hi : i + 1 < V) (A1 : Option Addr) (n1 c1 r1 : Nat) (A2 : Option Addr) (n2 c2 r2 : Nat) (A3 : Option Addr) (n3 c3 r3 : Nat) (w : World) (D1 : IsD w V f A1 n1 c1 r1) (D2 : IsD w V (fun ρ => ρ i) A2 n2 c2 r2) (D3 : IsD w V (fun ρ => ρ (i + 1)) A3 n3 c3 r3) :
    Calls Tryd.prog 45 #[.agg #[.int .i64 V, .slice A1 n1 c1, .int .i64 r1], .int .i64 i, .agg #[.int .i64 V, .slice A2 n2 c2, .int .i64 r2], .agg #[.int .i64 V, .slice A3 n3 c3, .int .i64 r3]] w (DP w V (sw1 i f)) := by
  go_enter Tryd.func45, Tryd.ntmps45
  go_upto_region 2 with (fail)
  have hz4 : (#[.int .i64 0, .slice none 0 0, .int .i64 0, .int .i64 0, .slice none 0 0, .int .i64 0, .int .i64 0, .slice none 0 0, .int .i64 0, .int .i64 0, .slice none 0 0, .int .i64 0] : Array Value) = pc4 ptZ ptZ ptZ ptZ := rfl
  rw [hz4]
  clear hz4
  have Bd := Bk.new w 26 #[.int .i64 V, .slice A1 n1 c1, .int .i64 r1]
  have Bd := ((((Bd.alloc (.cells #[.int .i64 V, .slice A2 n2 c2, .int .i64 r2] 26)).alloc (.cells #[.int .i64 V, .slice A3 n3 c3, .int .i64 r3] 26)).alloc (.cells #[.int .i64 0, .slice none 0 0, .int .i64 0] 26)).alloc (.cells (pc4 ptZ ptZ ptZ ptZ) 79))
  have Bx := Bk.new (w.alloc (.cells #[.int .i64 V, .slice A1 n1 c1, .int .i64 r1] 26)) 26 #[.int .i64 V, .slice A2 n2 c2, .int .i64 r2]
  simp only [World.size_alloc, Nat.add_assoc, Nat.reduceAdd] at Bx
  have Bx := (((Bx.alloc (.cells #[.int .i64 V, .slice A3 n3 c3, .int .i64 r3] 26)).alloc (.cells #[.int .i64 0, .slice none 0 0, .int .i64 0] 26)).alloc (.cells (pc4 ptZ ptZ ptZ ptZ) 79))
  have By := Bk.new ((w.alloc (.cells #[.int .i64 V, .slice A1 n1 c1, .int .i64 r1] 26)).alloc (.cells #[.int .i64 V, .slice A2 n2 c2, .int .i64 r2] 26)) 26 #[.int .i64 V, .slice A3 n3 c3, .int .i64 r3]
  simp only [World.size_alloc, Nat.add_assoc, Nat.reduceAdd] at By
  have By := ((By.alloc (.cells #[.int .i64 0, .slice none 0 0, .int .i64 0] 26)).alloc (.cells (pc4 ptZ ptZ ptZ ptZ) 79))
  have Bres := Bk.new (((w.alloc (.cells #[.int .i64 V, .slice A1 n1 c1, .int .i64 r1] 26)).alloc (.cells #[.int .i64 V, .slice A2 n2 c2, .int .i64 r2] 26)).alloc (.cells #[.int .i64 V, .slice A3 n3 c3, .int .i64 r3] 26)) 26 #[.int .i64 0, .slice none 0 0, .int .i64 0]
  simp only [World.size_alloc, Nat.add_assoc, Nat.reduceAdd] at Bres
  have Bres := (Bres.alloc (.cells (pc4 ptZ ptZ ptZ ptZ) 79))
  have Bpart := Bk.new ((((w.alloc (.cells #[.int .i64 V, .slice A1 n1 c1, .int .i64 r1] 26)).alloc (.cells #[.int .i64 V, .slice A2 n2 c2, .int .i64 r2] 26)).alloc (.cells #[.int .i64 V, .slice A3 n3 c3, .int .i64 r3] 26)).alloc (.cells #[.int .i64 0, .slice none 0 0, .int .i64 0] 26)) 79 (pc4 ptZ ptZ ptZ ptZ)
  simp only [World.size_alloc, Nat.add_assoc, Nat.reduceAdd] at Bpart
  have Kw : Keep NoF w (((((w.alloc (.cells #[.int .i64 V, .slice A1 n1 c1, .int .i64 r1] 26)).alloc (.cells #[.int .i64 V, .slice A2 n2 c2, .int .i64 r2] 26)).alloc (.cells #[.int .i64 V, .slice A3 n3 c3, .int .i64 r3] 26)).alloc (.cells #[.int .i64 0, .slice none 0 0, .int .i64 0] 26)).alloc (.cells (pc4 ptZ ptZ ptZ ptZ) 79)) := ((((((Keep.refl NoF w).alloc _).alloc _).alloc _).alloc _).alloc _)
  have Qd := D1.keep Kw
  have Qx := D2.keep Kw
  have Qy := D3.keep Kw
  generalize (((((w.alloc (.cells #[.int .i64 V, .slice A1 n1 c1, .int .i64 r1] 26)).alloc (.cells #[.int .i64 V, .slice A2 n2 c2, .int .i64 r2] 26)).alloc (.cells #[.int .i64 V, .slice A3 n3 c3, .int .i64 r3] 26)).alloc (.cells #[.int .i64 0, .slice none 0 0, .int .i64 0] 26)).alloc (.cells (pc4 ptZ ptZ ptZ ptZ) 79)) = W0 at *
  go_wp2
  go_loopw [17] (fun iv wr => ∃ (j : Nat) (q0 q1 q2 q3 : Pt), iv = .int .i64 j ∧ j ≤ 4 ∧ Bk wr w.heap.size 26 #[.int .i64 V, .slice A1 n1 c1, .int .i64 r1] ∧ Bk wr (w.heap.size + 1) 26 #[.int .i64 V, .slice A2 n2 c2, .int .i64 r2] ∧ Bk wr (w.heap.size + 2) 26 #[.int .i64 V, .slice A3 n3 c3, .int .i64 r3] ∧ Bk wr (w.heap.size + 3) 26 #[.int .i64 0, .slice none 0 0, .int .i64 0] ∧ Bk wr (w.heap.size + 4) 79 (pc4 q0 q1 q2 q3) ∧ IsD wr V f A1 n1 c1 r1 ∧ IsD wr V (fun ρ => ρ i) A2 n2 c2 r2 ∧ IsD wr V (fun ρ => ρ (i + 1)) A3 n3 c3 r3 ∧ (0 < j → PtOk wr V (rf (i + 1) false (rf i false f)) q0) ∧ (1 < j → PtOk wr V (rf (i + 1) false (rf i true f)) q1) ∧ (2 < j → PtOk wr V (rf (i + 1) true (rf i false f)) q2) ∧ (3 < j → PtOk wr V (rf (i + 1) true (rf i true f)) q3) ∧ Keep NoF w wr) (fun iv _ => 4 - (intOf iv).toNat)
  case atStart => exact ⟨0, ptZ, ptZ, ptZ, ptZ, rfl, by omega, Bd, Bx, By, Bres, Bpart, Qd, Qx, Qy, fun h => absurd h (by omega), fun h => absurd h (by omega), fun h => absurd h (by omega), fun h => absurd h (by omega), Kw⟩
  case round =>
    clear Bd Bx By Bres Bpart Qd Qx Qy Kw
    obtain ⟨j, q0, q1, q2, q3, rfl, hj, Bd, Bx, By, Bres, Bpart, Qd, Qx, Qy, p0, p1, p2, p3, Kw⟩ := hrel
    have hj2 : j = 0 ∨ j = 1 ∨ j = 2 ∨ j = 3 ∨ j = 4 := by omega
    rcases hj2 with rfl | rfl | rfl | rfl | rfl
    · clear p0 p1 p2 p3
      have t1 : (bits BinOp.and IntKind.i64 0 1 == 1) = false := by decide
      have t2 : (bits BinOp.and IntKind.i64 0 2 == 2) = false := by decide
      have HR := Lib.hid (x_restrict (i := i) (t := false) (by omega) hV Qd)
      have cd0 : wr.cell? ⟨w.heap.size, 0, none⟩ = some (.int .i64 V) := Bd.cell 0
      have cd1 : wr.cell? ⟨w.heap.size, 1, none⟩ = some (.slice A1 n1 c1) := Bd.cell 1
      have cd2 : wr.cell? ⟨w.heap.size, 2, none⟩ = some (.int .i64 r1) := Bd.cell 2
      go_upto_region 7 with (go_at_call 63
                             (with_reducible refine (HR.out).mono ?_)
                             rintro e w4 ⟨A4, n4, c4, r4, rfl, D4, K4⟩
                             have Bdn := Bd.keep K4 fun h => h
                             have Ldn := Bdn.lt
                             have Bxn := Bx.keep K4 fun h => h
                             have Lxn := Bxn.lt
                             have Byn := By.keep K4 fun h => h
                             have Lyn := Byn.lt
                             have Bresn := Bres.keep K4 fun h => h
                             have Lresn := Bresn.lt
                             have Bpartn := Bpart.keep K4 fun h => h
                             have Lpartn := Bpartn.lt)
      clear cd0 cd1 cd2
      have Bd_1 := Bdn.alloc (.cells #[.int .i64 V, .slice A4 n4 c4, .int .i64 r4] 26)
      have Qd_1 := (Qd.keep K4).keep ((Keep.refl NoF w4).alloc (.cells #[.int .i64 V, .slice A4 n4 c4, .int .i64 r4] 26))
      have Bx_1 := Bxn.alloc (.cells #[.int .i64 V, .slice A4 n4 c4, .int .i64 r4] 26)
      have Qx_1 := (Qx.keep K4).keep ((Keep.refl NoF w4).alloc (.cells #[.int .i64 V, .slice A4 n4 c4, .int .i64 r4] 26))
      have By_1 := Byn.alloc (.cells #[.int .i64 V, .slice A4 n4 c4, .int .i64 r4] 26)
      have Qy_1 := (Qy.keep K4).keep ((Keep.refl NoF w4).alloc (.cells #[.int .i64 V, .slice A4 n4 c4, .int .i64 r4] 26))
      have Bres_1 := Bresn.alloc (.cells #[.int .i64 V, .slice A4 n4 c4, .int .i64 r4] 26)
      have Bpart_1 := Bpartn.alloc (.cells #[.int .i64 V, .slice A4 n4 c4, .int .i64 r4] 26)
      have Blow_1 := Bk.new w4 26 #[.int .i64 V, .slice A4 n4 c4, .int .i64 r4]
      have Qlow_1 := D4.keep ((Keep.refl NoF w4).alloc (.cells #[.int .i64 V, .slice A4 n4 c4, .int .i64 r4] 26))
      have Kw_1 : Keep NoF w (w4.alloc (.cells #[.int .i64 V, .slice A4 n4 c4, .int .i64 r4] 26)) := (Kw.trans K4 fun _ _ h => h).alloc _
      generalize w4.alloc (.cells #[.int .i64 V, .slice A4 n4 c4, .int .i64 r4] 26) = W1 at *
      clear Bd Bx By Bres Bpart Qd Qx Qy Bdn Bxn Byn Bresn Bpartn Kw D4 K4
      have hr2 := x_restrict (i := i + 1) (t := false) (by omega) hV Qlow_1
      rw [show ((i + 1 : Nat) : Int) = (i : Int) + 1 by omega] at hr2
      have HR2 := Lib.hid hr2
      clear hr2
      have clow0 : W1.cell? ⟨w4.heap.size, 0, none⟩ = some (.int .i64 V) := Blow_1.cell 0
      have clow1 : W1.cell? ⟨w4.heap.size, 1, none⟩ = some (.slice A4 n4 c4) := Blow_1.cell 1
      have clow2 : W1.cell? ⟨w4.heap.size, 2, none⟩ = some (.int .i64 r4) := Blow_1.cell 2
      go_upto_region 10 with (go_at_call 63
                              (with_reducible refine (HR2.out).mono ?_)
                              rintro e w5 ⟨A5, n5, c5, r5, rfl, D5, K5⟩
                              have Bdn := Bd_1.keep K5 fun h => h
                              have Ldn := Bdn.lt
                              have Bxn := Bx_1.keep K5 fun h => h
                              have Lxn := Bxn.lt
                              have Byn := By_1.keep K5 fun h => h
                              have Lyn := Byn.lt
                              have Bresn := Bres_1.keep K5 fun h => h
                              have Lresn := Bresn.lt
                              have Bpartn := Bpart_1.keep K5 fun h => h
                              have Lpartn := Bpartn.lt
                              have Blown := Blow_1.keep K5 fun h => h
                              have Llown := Blown.lt
                              have y0 : w5.cell? ⟨w4.heap.size, 0, none⟩ = some (.int .i64 V) := Blown.cell 0
                              have y1 : w5.cell? ⟨w4.heap.size, 1, none⟩ = some (.slice A4 n4 c4) := Blown.cell 1
                              have y2 : w5.cell? ⟨w4.heap.size, 2, none⟩ = some (.int .i64 r4) := Blown.cell 2
                              have yf0 := Blown.frozen 0
                              have yf1 := Blown.frozen 1
                              have yf2 := Blown.frozen 2)
      clear clow0 clow1 clow2
      obtain ⟨Blow_2, Qlow_2, S3⟩ := set3_box Blown sl_nint D5
      have Bd_2 := Bdn.keep S3 fun h => by omega
      have Qd_2 := (Qd_1.keep K5).far_box Blown sl_nint S3
      have Bx_2 := Bxn.keep S3 fun h => by omega
      have Qx_2 := (Qx_1.keep K5).far_box Blown sl_nint S3
      have By_2 := Byn.keep S3 fun h => by omega
      have Qy_2 := (Qy_1.keep K5).far_box Blown sl_nint S3
      have Bres_2 := Bresn.keep S3 fun h => by omega
      have Bpart_2 := Bpartn.keep S3 fun h => by omega
      have Kw_2 : Keep NoF w (((w5.setCell ⟨w4.heap.size, 0, none⟩ (.int .i64 V)).setCell ⟨w4.heap.size, 1, none⟩ (.slice A5 n5 c5)).setCell ⟨w4.heap.size, 2, none⟩ (.int .i64 r5)) := (Kw_1.trans K5 fun _ _ h => h).trans S3 fun i hi h => by omega
      generalize (((w5.setCell ⟨w4.heap.size, 0, none⟩ (.int .i64 V)).setCell ⟨w4.heap.size, 1, none⟩ (.slice A5 n5 c5)).setCell ⟨w4.heap.size, 2, none⟩ (.int .i64 r5)) = W2 at *
      clear Bd_1 Bx_1 By_1 Bres_1 Bpart_1 Blow_1 Qd_1 Qx_1 Qy_1 Qlow_1 Bdn Bxn Byn Bresn Bpartn Blown Kw_1 D5 K5 S3 y0 y1 y2 yf0 yf1 yf2
      have f0 := Bpart_2.frozen 0
      have f1 := Bpart_2.frozen 1
      have f2 := Bpart_2.frozen 2
      have hsz := Bpart_2.lt
      have e0 : W2.cell? ⟨w.heap.size + 4, 0, none⟩ = some (.int .i64 q0.v) := (Bpart_2.cell 0).trans rfl
      have e1 : W2.cell? ⟨w.heap.size + 4, 1, none⟩ = some (.slice q0.A q0.n q0.c) := (Bpart_2.cell 1).trans rfl
      have e2 : W2.cell? ⟨w.heap.size + 4, 2, none⟩ = some (.int .i64 q0.r) := (Bpart_2.cell 2).trans rfl
      have clow0 : W2.cell? ⟨w4.heap.size, 0, none⟩ = some (.int .i64 V) := Blow_2.cell 0
      have clow1 : W2.cell? ⟨w4.heap.size, 1, none⟩ = some (.slice A5 n5 c5) := Blow_2.cell 1
      have clow2 : W2.cell? ⟨w4.heap.size, 2, none⟩ = some (.int .i64 r5) := Blow_2.cell 2
      go_wp2
      go_roundw
      case rel =>
        have S3 : Keep (fun k => k = w.heap.size + 4) W2 (((W2.setCell ⟨w.heap.size + 4, 0, none⟩ (.int .i64 V)).setCell ⟨w.heap.size + 4, 1, none⟩ (.slice A5 n5 c5)).setCell ⟨w.heap.size + 4, 2, none⟩ (.int .i64 r5)) := (((Keep.refl (fun k => k = w.heap.size + 4) _).setCell (.inl rfl) _).setCell (.inl rfl) _).setCell (.inl rfl) _
        have Bpn : Bk (((W2.setCell ⟨w.heap.size + 4, 0, none⟩ (.int .i64 V)).setCell ⟨w.heap.size + 4, 1, none⟩ (.slice A5 n5 c5)).setCell ⟨w.heap.size + 4, 2, none⟩ (.int .i64 r5)) (w.heap.size + 4) 79 (pc4 ⟨V, A5, n5, c5, r5⟩ q1 q2 q3) := (((Bpart_2.put 0 (.int .i64 V)).put 1 (.slice A5 n5 c5)).put 2 (.int .i64 r5))
        have FG := fun {f : BF} {A : Option Addr} {n c r : Nat} (h : IsD W2 V f A n c r) => h.far_gen Bpart_2 (pc4_no _ _ _ _) S3
        exact ⟨1, ⟨V, A5, n5, c5, r5⟩, q1, q2, q3, rfl, by omega, Bd_2.keep S3 fun h => by omega, Bx_2.keep S3 fun h => by omega, By_2.keep S3 fun h => by omega, Bres_2.keep S3 fun h => by omega, Bpn, FG Qd_2, FG Qx_2, FG Qy_2, fun _ => ⟨rfl, r5, rfl, FG Qlow_2⟩, fun h => absurd h (by omega), fun h => absurd h (by omega), fun h => absurd h (by omega), Kw_2.trans S3 fun i hi h => by omega⟩
      case measure => simp only [intOf]; omega
    · obtain ⟨pv0, pr0, pe0, P0⟩ := p0 (by omega)
      have PV0 := Lib.hid pv0
      have PE0 := Lib.hid pe0
      clear pv0 pe0
      clear p0 p1 p2 p3
      have t1 : (bits BinOp.and IntKind.i64 1 1 == 1) = true := by decide
      have t2 : (bits BinOp.and IntKind.i64 1 2 == 2) = false := by decide
      have HR := Lib.hid (x_restrict (i := i) (t := true) (by omega) hV Qd)
      have cd0 : wr.cell? ⟨w.heap.size, 0, none⟩ = some (.int .i64 V) := Bd.cell 0
      have cd1 : wr.cell? ⟨w.heap.size, 1, none⟩ = some (.slice A1 n1 c1) := Bd.cell 1
      have cd2 : wr.cell? ⟨w.heap.size, 2, none⟩ = some (.int .i64 r1) := Bd.cell 2
      go_upto_region 7 with (go_at_call 63
                             (with_reducible refine (HR.out).mono ?_)
                             rintro e w4 ⟨A4, n4, c4, r4, rfl, D4, K4⟩
                             have Bdn := Bd.keep K4 fun h => h
                             have Ldn := Bdn.lt
                             have Bxn := Bx.keep K4 fun h => h
                             have Lxn := Bxn.lt
                             have Byn := By.keep K4 fun h => h
                             have Lyn := Byn.lt
                             have Bresn := Bres.keep K4 fun h => h
                             have Lresn := Bresn.lt
                             have Bpartn := Bpart.keep K4 fun h => h
                             have Lpartn := Bpartn.lt)
      clear cd0 cd1 cd2
      have Bd_1 := Bdn.alloc (.cells #[.int .i64 V, .slice A4 n4 c4, .int .i64 r4] 26)
      have Qd_1 := (Qd.keep K4).keep ((Keep.refl NoF w4).alloc (.cells #[.int .i64 V, .slice A4 n4 c4, .int .i64 r4] 26))
      have Bx_1 := Bxn.alloc (.cells #[.int .i64 V, .slice A4 n4 c4, .int .i64 r4] 26)
      have Qx_1 := (Qx.keep K4).keep ((Keep.refl NoF w4).alloc (.cells #[.int .i64 V, .slice A4 n4 c4, .int .i64 r4] 26))
      have By_1 := Byn.alloc (.cells #[.int .i64 V, .slice A4 n4 c4, .int .i64 r4] 26)
      have Qy_1 := (Qy.keep K4).keep ((Keep.refl NoF w4).alloc (.cells #[.int .i64 V, .slice A4 n4 c4, .int .i64 r4] 26))
      have Bres_1 := Bresn.alloc (.cells #[.int .i64 V, .slice A4 n4 c4, .int .i64 r4] 26)
      have Bpart_1 := Bpartn.alloc (.cells #[.int .i64 V, .slice A4 n4 c4, .int .i64 r4] 26)
      have Fpp0_1 := (P0.keep K4).keep ((Keep.refl NoF w4).alloc (.cells #[.int .i64 V, .slice A4 n4 c4, .int .i64 r4] 26))
      have Blow_1 := Bk.new w4 26 #[.int .i64 V, .slice A4 n4 c4, .int .i64 r4]
      have Qlow_1 := D4.keep ((Keep.refl NoF w4).alloc (.cells #[.int .i64 V, .slice A4 n4 c4, .int .i64 r4] 26))
      have Kw_1 : Keep NoF w (w4.alloc (.cells #[.int .i64 V, .slice A4 n4 c4, .int .i64 r4] 26)) := (Kw.trans K4 fun _ _ h => h).alloc _
      generalize w4.alloc (.cells #[.int .i64 V, .slice A4 n4 c4, .int .i64 r4] 26) = W1 at *
      clear Bd Bx By Bres Bpart Qd Qx Qy Bdn Bxn Byn Bresn Bpartn Kw D4 K4 P0
      have hr2 := x_restrict (i := i + 1) (t := false) (by omega) hV Qlow_1
      rw [show ((i + 1 : Nat) : Int) = (i : Int) + 1 by omega] at hr2
      have HR2 := Lib.hid hr2
      clear hr2
      have clow0 : W1.cell? ⟨w4.heap.size, 0, none⟩ = some (.int .i64 V) := Blow_1.cell 0
      have clow1 : W1.cell? ⟨w4.heap.size, 1, none⟩ = some (.slice A4 n4 c4) := Blow_1.cell 1
      have clow2 : W1.cell? ⟨w4.heap.size, 2, none⟩ = some (.int .i64 r4) := Blow_1.cell 2
      go_upto_region 10 with (go_at_call 63
                              (with_reducible refine (HR2.out).mono ?_)
                              rintro e w5 ⟨A5, n5, c5, r5, rfl, D5, K5⟩
                              have Bdn := Bd_1.keep K5 fun h => h
                              have Ldn := Bdn.lt
                              have Bxn := Bx_1.keep K5 fun h => h
                              have Lxn := Bxn.lt
                              have Byn := By_1.keep K5 fun h => h
                              have Lyn := Byn.lt
                              have Bresn := Bres_1.keep K5 fun h => h
                              have Lresn := Bresn.lt
                              have Bpartn := Bpart_1.keep K5 fun h => h
                              have Lpartn := Bpartn.lt
                              have Blown := Blow_1.keep K5 fun h => h
                              have Llown := Blown.lt
                              have y0 : w5.cell? ⟨w4.heap.size, 0, none⟩ = some (.int .i64 V) := Blown.cell 0
                              have y1 : w5.cell? ⟨w4.heap.size, 1, none⟩ = some (.slice A4 n4 c4) := Blown.cell 1
                              have y2 : w5.cell? ⟨w4.heap.size, 2, none⟩ = some (.int .i64 r4) := Blown.cell 2
                              have yf0 := Blown.frozen 0
                              have yf1 := Blown.frozen 1
                              have yf2 := Blown.frozen 2)
      clear clow0 clow1 clow2
      obtain ⟨Blow_2, Qlow_2, S3⟩ := set3_box Blown sl_nint D5
      have Bd_2 := Bdn.keep S3 fun h => by omega
      have Qd_2 := (Qd_1.keep K5).far_box Blown sl_nint S3
      have Bx_2 := Bxn.keep S3 fun h => by omega
      have Qx_2 := (Qx_1.keep K5).far_box Blown sl_nint S3
      have By_2 := Byn.keep S3 fun h => by omega
      have Qy_2 := (Qy_1.keep K5).far_box Blown sl_nint S3
      have Bres_2 := Bresn.keep S3 fun h => by omega
      have Bpart_2 := Bpartn.keep S3 fun h => by omega
      have Fpp0_2 := (Fpp0_1.keep K5).far_box Blown sl_nint S3
      have Kw_2 : Keep NoF w (((w5.setCell ⟨w4.heap.size, 0, none⟩ (.int .i64 V)).setCell ⟨w4.heap.size, 1, none⟩ (.slice A5 n5 c5)).setCell ⟨w4.heap.size, 2, none⟩ (.int .i64 r5)) := (Kw_1.trans K5 fun _ _ h => h).trans S3 fun i hi h => by omega
      generalize (((w5.setCell ⟨w4.heap.size, 0, none⟩ (.int .i64 V)).setCell ⟨w4.heap.size, 1, none⟩ (.slice A5 n5 c5)).setCell ⟨w4.heap.size, 2, none⟩ (.int .i64 r5)) = W2 at *
      clear Bd_1 Bx_1 By_1 Bres_1 Bpart_1 Blow_1 Qd_1 Qx_1 Qy_1 Qlow_1 Bdn Bxn Byn Bresn Bpartn Blown Kw_1 D5 K5 S3 y0 y1 y2 yf0 yf1 yf2 Fpp0_1
      have f3 := Bpart_2.frozen 3
      have f4 := Bpart_2.frozen 4
      have f5 := Bpart_2.frozen 5
      have hsz := Bpart_2.lt
      have e0 : W2.cell? ⟨w.heap.size + 4, 3, none⟩ = some (.int .i64 q1.v) := (Bpart_2.cell 3).trans rfl
      have e1 : W2.cell? ⟨w.heap.size + 4, 4, none⟩ = some (.slice q1.A q1.n q1.c) := (Bpart_2.cell 4).trans rfl
      have e2 : W2.cell? ⟨w.heap.size + 4, 5, none⟩ = some (.int .i64 q1.r) := (Bpart_2.cell 5).trans rfl
      have clow0 : W2.cell? ⟨w4.heap.size, 0, none⟩ = some (.int .i64 V) := Blow_2.cell 0
      have clow1 : W2.cell? ⟨w4.heap.size, 1, none⟩ = some (.slice A5 n5 c5) := Blow_2.cell 1
      have clow2 : W2.cell? ⟨w4.heap.size, 2, none⟩ = some (.int .i64 r5) := Blow_2.cell 2
      go_wp2
      go_roundw
      case rel =>
        have S3 : Keep (fun k => k = w.heap.size + 4) W2 (((W2.setCell ⟨w.heap.size + 4, 3, none⟩ (.int .i64 V)).setCell ⟨w.heap.size + 4, 4, none⟩ (.slice A5 n5 c5)).setCell ⟨w.heap.size + 4, 5, none⟩ (.int .i64 r5)) := (((Keep.refl (fun k => k = w.heap.size + 4) _).setCell (.inl rfl) _).setCell (.inl rfl) _).setCell (.inl rfl) _
        have Bpn : Bk (((W2.setCell ⟨w.heap.size + 4, 3, none⟩ (.int .i64 V)).setCell ⟨w.heap.size + 4, 4, none⟩ (.slice A5 n5 c5)).setCell ⟨w.heap.size + 4, 5, none⟩ (.int .i64 r5)) (w.heap.size + 4) 79 (pc4 q0 ⟨V, A5, n5, c5, r5⟩ q2 q3) := (((Bpart_2.put 3 (.int .i64 V)).put 4 (.slice A5 n5 c5)).put 5 (.int .i64 r5))
        have FG := fun {f : BF} {A : Option Addr} {n c r : Nat} (h : IsD W2 V f A n c r) => h.far_gen Bpart_2 (pc4_no _ _ _ _) S3
        exact ⟨2, q0, ⟨V, A5, n5, c5, r5⟩, q2, q3, rfl, by omega, Bd_2.keep S3 fun h => by omega, Bx_2.keep S3 fun h => by omega, By_2.keep S3 fun h => by omega, Bres_2.keep S3 fun h => by omega, Bpn, FG Qd_2, FG Qx_2, FG Qy_2, fun _ => ⟨PV0.out, pr0, PE0.out, FG Fpp0_2⟩, fun _ => ⟨rfl, r5, rfl, FG Qlow_2⟩, fun h => absurd h (by omega), fun h => absurd h (by omega), Kw_2.trans S3 fun i hi h => by omega⟩
      case measure => simp only [intOf]; omega
    · obtain ⟨pv0, pr0, pe0, P0⟩ := p0 (by omega)
      have PV0 := Lib.hid pv0
      have PE0 := Lib.hid pe0
      clear pv0 pe0
      obtain ⟨pv1, pr1, pe1, P1⟩ := p1 (by omega)
      have PV1 := Lib.hid pv1
      have PE1 := Lib.hid pe1
      clear pv1 pe1
      clear p0 p1 p2 p3
      have t1 : (bits BinOp.and IntKind.i64 2 1 == 1) = false := by decide
      have t2 : (bits BinOp.and IntKind.i64 2 2 == 2) = true := by decide
      have HR := Lib.hid (x_restrict (i := i) (t := false) (by omega) hV Qd)
      have cd0 : wr.cell? ⟨w.heap.size, 0, none⟩ = some (.int .i64 V) := Bd.cell 0
      have cd1 : wr.cell? ⟨w.heap.size, 1, none⟩ = some (.slice A1 n1 c1) := Bd.cell 1
      have cd2 : wr.cell? ⟨w.heap.size, 2, none⟩ = some (.int .i64 r1) := Bd.cell 2
      go_upto_region 7 with (go_at_call 63
                             (with_reducible refine (HR.out).mono ?_)
                             rintro e w4 ⟨A4, n4, c4, r4, rfl, D4, K4⟩
                             have Bdn := Bd.keep K4 fun h => h
                             have Ldn := Bdn.lt
                             have Bxn := Bx.keep K4 fun h => h
                             have Lxn := Bxn.lt
                             have Byn := By.keep K4 fun h => h
                             have Lyn := Byn.lt
                             have Bresn := Bres.keep K4 fun h => h
                             have Lresn := Bresn.lt
                             have Bpartn := Bpart.keep K4 fun h => h
                             have Lpartn := Bpartn.lt)
      clear cd0 cd1 cd2
      have Bd_1 := Bdn.alloc (.cells #[.int .i64 V, .slice A4 n4 c4, .int .i64 r4] 26)
      have Qd_1 := (Qd.keep K4).keep ((Keep.refl NoF w4).alloc (.cells #[.int .i64 V, .slice A4 n4 c4, .int .i64 r4] 26))
      have Bx_1 := Bxn.alloc (.cells #[.int .i64 V, .slice A4 n4 c4, .int .i64 r4] 26)
      have Qx_1 := (Qx.keep K4).keep ((Keep.refl NoF w4).alloc (.cells #[.int .i64 V, .slice A4 n4 c4, .int .i64 r4] 26))
      have By_1 := Byn.alloc (.cells #[.int .i64 V, .slice A4 n4 c4, .int .i64 r4] 26)
      have Qy_1 := (Qy.keep K4).keep ((Keep.refl NoF w4).alloc (.cells #[.int .i64 V, .slice A4 n4 c4, .int .i64 r4] 26))
      have Bres_1 := Bresn.alloc (.cells #[.int .i64 V, .slice A4 n4 c4, .int .i64 r4] 26)
      have Bpart_1 := Bpartn.alloc (.cells #[.int .i64 V, .slice A4 n4 c4, .int .i64 r4] 26)
      have Fpp0_1 := (P0.keep K4).keep ((Keep.refl NoF w4).alloc (.cells #[.int .i64 V, .slice A4 n4 c4, .int .i64 r4] 26))
      have Fpp1_1 := (P1.keep K4).keep ((Keep.refl NoF w4).alloc (.cells #[.int .i64 V, .slice A4 n4 c4, .int .i64 r4] 26))
      have Blow_1 := Bk.new w4 26 #[.int .i64 V, .slice A4 n4 c4, .int .i64 r4]
      have Qlow_1 := D4.keep ((Keep.refl NoF w4).alloc (.cells #[.int .i64 V, .slice A4 n4 c4, .int .i64 r4] 26))
      have Kw_1 : Keep NoF w (w4.alloc (.cells #[.int .i64 V, .slice A4 n4 c4, .int .i64 r4] 26)) := (Kw.trans K4 fun _ _ h => h).alloc _
      generalize w4.alloc (.cells #[.int .i64 V, .slice A4 n4 c4, .int .i64 r4] 26) = W1 at *
      clear Bd Bx By Bres Bpart Qd Qx Qy Bdn Bxn Byn Bresn Bpartn Kw D4 K4 P0 P1
      have hr2 := x_restrict (i := i + 1) (t := true) (by omega) hV Qlow_1
      rw [show ((i + 1 : Nat) : Int) = (i : Int) + 1 by omega] at hr2
      have HR2 := Lib.hid hr2
      clear hr2
      have clow0 : W1.cell? ⟨w4.heap.size, 0, none⟩ = some (.int .i64 V) := Blow_1.cell 0
      have clow1 : W1.cell? ⟨w4.heap.size, 1, none⟩ = some (.slice A4 n4 c4) := Blow_1.cell 1
      have clow2 : W1.cell? ⟨w4.heap.size, 2, none⟩ = some (.int .i64 r4) := Blow_1.cell 2
      go_upto_region 10 with (go_at_call 63
                              (with_reducible refine (HR2.out).mono ?_)
                              rintro e w5 ⟨A5, n5, c5, r5, rfl, D5, K5⟩
                              have Bdn := Bd_1.keep K5 fun h => h
                              have Ldn := Bdn.lt
                              have Bxn := Bx_1.keep K5 fun h => h
                              have Lxn := Bxn.lt
                              have Byn := By_1.keep K5 fun h => h
                              have Lyn := Byn.lt
                              have Bresn := Bres_1.keep K5 fun h => h
                              have Lresn := Bresn.lt
                              have Bpartn := Bpart_1.keep K5 fun h => h
                              have Lpartn := Bpartn.lt
                              have Blown := Blow_1.keep K5 fun h => h
                              have Llown := Blown.lt
                              have y0 : w5.cell? ⟨w4.heap.size, 0, none⟩ = some (.int .i64 V) := Blown.cell 0
                              have y1 : w5.cell? ⟨w4.heap.size, 1, none⟩ = some (.slice A4 n4 c4) := Blown.cell 1
                              have y2 : w5.cell? ⟨w4.heap.size, 2, none⟩ = some (.int .i64 r4) := Blown.cell 2
                              have yf0 := Blown.frozen 0
                              have yf1 := Blown.frozen 1
                              have yf2 := Blown.frozen 2)
      clear clow0 clow1 clow2
      obtain ⟨Blow_2, Qlow_2, S3⟩ := set3_box Blown sl_nint D5
      have Bd_2 := Bdn.keep S3 fun h => by omega
      have Qd_2 := (Qd_1.keep K5).far_box Blown sl_nint S3
      have Bx_2 := Bxn.keep S3 fun h => by omega
      have Qx_2 := (Qx_1.keep K5).far_box Blown sl_nint S3
      have By_2 := Byn.keep S3 fun h => by omega
      have Qy_2 := (Qy_1.keep K5).far_box Blown sl_nint S3
      have Bres_2 := Bresn.keep S3 fun h => by omega
      have Bpart_2 := Bpartn.keep S3 fun h => by omega
      have Fpp0_2 := (Fpp0_1.keep K5).far_box Blown sl_nint S3
      have Fpp1_2 := (Fpp1_1.keep K5).far_box Blown sl_nint S3
      have Kw_2 : Keep NoF w (((w5.setCell ⟨w4.heap.size, 0, none⟩ (.int .i64 V)).setCell ⟨w4.heap.size, 1, none⟩ (.slice A5 n5 c5)).setCell ⟨w4.heap.size, 2, none⟩ (.int .i64 r5)) := (Kw_1.trans K5 fun _ _ h => h).trans S3 fun i hi h => by omega
      generalize (((w5.setCell ⟨w4.heap.size, 0, none⟩ (.int .i64 V)).setCell ⟨w4.heap.size, 1, none⟩ (.slice A5 n5 c5)).setCell ⟨w4.heap.size, 2, none⟩ (.int .i64 r5)) = W2 at *
      clear Bd_1 Bx_1 By_1 Bres_1 Bpart_1 Blow_1 Qd_1 Qx_1 Qy_1 Qlow_1 Bdn Bxn Byn Bresn Bpartn Blown Kw_1 D5 K5 S3 y0 y1 y2 yf0 yf1 yf2 Fpp0_1 Fpp1_1
      have f6 := Bpart_2.frozen 6
      have f7 := Bpart_2.frozen 7
      have f8 := Bpart_2.frozen 8
      have hsz := Bpart_2.lt
      have e0 : W2.cell? ⟨w.heap.size + 4, 6, none⟩ = some (.int .i64 q2.v) := (Bpart_2.cell 6).trans rfl
      have e1 : W2.cell? ⟨w.heap.size + 4, 7, none⟩ = some (.slice q2.A q2.n q2.c) := (Bpart_2.cell 7).trans rfl
      have e2 : W2.cell? ⟨w.heap.size + 4, 8, none⟩ = some (.int .i64 q2.r) := (Bpart_2.cell 8).trans rfl
      have clow0 : W2.cell? ⟨w4.heap.size, 0, none⟩ = some (.int .i64 V) := Blow_2.cell 0
      have clow1 : W2.cell? ⟨w4.heap.size, 1, none⟩ = some (.slice A5 n5 c5) := Blow_2.cell 1
      have clow2 : W2.cell? ⟨w4.heap.size, 2, none⟩ = some (.int .i64 r5) := Blow_2.cell 2
      go_wp2
      go_roundw
      case rel =>
        have S3 : Keep (fun k => k = w.heap.size + 4) W2 (((W2.setCell ⟨w.heap.size + 4, 6, none⟩ (.int .i64 V)).setCell ⟨w.heap.size + 4, 7, none⟩ (.slice A5 n5 c5)).setCell ⟨w.heap.size + 4, 8, none⟩ (.int .i64 r5)) := (((Keep.refl (fun k => k = w.heap.size + 4) _).setCell (.inl rfl) _).setCell (.inl rfl) _).setCell (.inl rfl) _
        have Bpn : Bk (((W2.setCell ⟨w.heap.size + 4, 6, none⟩ (.int .i64 V)).setCell ⟨w.heap.size + 4, 7, none⟩ (.slice A5 n5 c5)).setCell ⟨w.heap.size + 4, 8, none⟩ (.int .i64 r5)) (w.heap.size + 4) 79 (pc4 q0 q1 ⟨V, A5, n5, c5, r5⟩ q3) := (((Bpart_2.put 6 (.int .i64 V)).put 7 (.slice A5 n5 c5)).put 8 (.int .i64 r5))
        have FG := fun {f : BF} {A : Option Addr} {n c r : Nat} (h : IsD W2 V f A n c r) => h.far_gen Bpart_2 (pc4_no _ _ _ _) S3
        exact ⟨3, q0, q1, ⟨V, A5, n5, c5, r5⟩, q3, rfl, by omega, Bd_2.keep S3 fun h => by omega, Bx_2.keep S3 fun h => by omega, By_2.keep S3 fun h => by omega, Bres_2.keep S3 fun h => by omega, Bpn, FG Qd_2, FG Qx_2, FG Qy_2, fun _ => ⟨PV0.out, pr0, PE0.out, FG Fpp0_2⟩, fun _ => ⟨PV1.out, pr1, PE1.out, FG Fpp1_2⟩, fun _ => ⟨rfl, r5, rfl, FG Qlow_2⟩, fun h => absurd h (by omega), Kw_2.trans S3 fun i hi h => by omega⟩
      case measure => simp only [intOf]; omega
    · obtain ⟨pv0, pr0, pe0, P0⟩ := p0 (by omega)
      have PV0 := Lib.hid pv0
      have PE0 := Lib.hid pe0
      clear pv0 pe0
      obtain ⟨pv1, pr1, pe1, P1⟩ := p1 (by omega)
      have PV1 := Lib.hid pv1
      have PE1 := Lib.hid pe1
      clear pv1 pe1
      obtain ⟨pv2, pr2, pe2, P2⟩ := p2 (by omega)
      have PV2 := Lib.hid pv2
      have PE2 := Lib.hid pe2
      clear pv2 pe2
      clear p0 p1 p2 p3
      have t1 : (bits BinOp.and IntKind.i64 3 1 == 1) = true := by decide
      have t2 : (bits BinOp.and IntKind.i64 3 2 == 2) = true := by decide
      have HR := Lib.hid (x_restrict (i := i) (t := true) (by omega) hV Qd)
      have cd0 : wr.cell? ⟨w.heap.size, 0, none⟩ = some (.int .i64 V) := Bd.cell 0
      have cd1 : wr.cell? ⟨w.heap.size, 1, none⟩ = some (.slice A1 n1 c1) := Bd.cell 1
      have cd2 : wr.cell? ⟨w.heap.size, 2, none⟩ = some (.int .i64 r1) := Bd.cell 2
      go_upto_region 7 with (go_at_call 63
                             (with_reducible refine (HR.out).mono ?_)
                             rintro e w4 ⟨A4, n4, c4, r4, rfl, D4, K4⟩
                             have Bdn := Bd.keep K4 fun h => h
                             have Ldn := Bdn.lt
                             have Bxn := Bx.keep K4 fun h => h
                             have Lxn := Bxn.lt
                             have Byn := By.keep K4 fun h => h
                             have Lyn := Byn.lt
                             have Bresn := Bres.keep K4 fun h => h
                             have Lresn := Bresn.lt
                             have Bpartn := Bpart.keep K4 fun h => h
                             have Lpartn := Bpartn.lt)
      clear cd0 cd1 cd2
      have Bd_1 := Bdn.alloc (.cells #[.int .i64 V, .slice A4 n4 c4, .int .i64 r4] 26)
      have Qd_1 := (Qd.keep K4).keep ((Keep.refl NoF w4).alloc (.cells #[.int .i64 V, .slice A4 n4 c4, .int .i64 r4] 26))
      have Bx_1 := Bxn.alloc (.cells #[.int .i64 V, .slice A4 n4 c4, .int .i64 r4] 26)
      have Qx_1 := (Qx.keep K4).keep ((Keep.refl NoF w4).alloc (.cells #[.int .i64 V, .slice A4 n4 c4, .int .i64 r4] 26))
      have By_1 := Byn.alloc (.cells #[.int .i64 V, .slice A4 n4 c4, .int .i64 r4] 26)
      have Qy_1 := (Qy.keep K4).keep ((Keep.refl NoF w4).alloc (.cells #[.int .i64 V, .slice A4 n4 c4, .int .i64 r4] 26))
      have Bres_1 := Bresn.alloc (.cells #[.int .i64 V, .slice A4 n4 c4, .int .i64 r4] 26)
      have Bpart_1 := Bpartn.alloc (.cells #[.int .i64 V, .slice A4 n4 c4, .int .i64 r4] 26)
      have Fpp0_1 := (P0.keep K4).keep ((Keep.refl NoF w4).alloc (.cells #[.int .i64 V, .slice A4 n4 c4, .int .i64 r4] 26))
      have Fpp1_1 := (P1.keep K4).keep ((Keep.refl NoF w4).alloc (.cells #[.int .i64 V, .slice A4 n4 c4, .int .i64 r4] 26))
      have Fpp2_1 := (P2.keep K4).keep ((Keep.refl NoF w4).alloc (.cells #[.int .i64 V, .slice A4 n4 c4, .int .i64 r4] 26))
      have Blow_1 := Bk.new w4 26 #[.int .i64 V, .slice A4 n4 c4, .int .i64 r4]
      have Qlow_1 := D4.keep ((Keep.refl NoF w4).alloc (.cells #[.int .i64 V, .slice A4 n4 c4, .int .i64 r4] 26))
      have Kw_1 : Keep NoF w (w4.alloc (.cells #[.int .i64 V, .slice A4 n4 c4, .int .i64 r4] 26)) := (Kw.trans K4 fun _ _ h => h).alloc _
      generalize w4.alloc (.cells #[.int .i64 V, .slice A4 n4 c4, .int .i64 r4] 26) = W1 at *
      clear Bd Bx By Bres Bpart Qd Qx Qy Bdn Bxn Byn Bresn Bpartn Kw D4 K4 P0 P1 P2
      have hr2 := x_restrict (i := i + 1) (t := true) (by omega) hV Qlow_1
      rw [show ((i + 1 : Nat) : Int) = (i : Int) + 1 by omega] at hr2
      have HR2 := Lib.hid hr2
      clear hr2
      have clow0 : W1.cell? ⟨w4.heap.size, 0, none⟩ = some (.int .i64 V) := Blow_1.cell 0
      have clow1 : W1.cell? ⟨w4.heap.size, 1, none⟩ = some (.slice A4 n4 c4) := Blow_1.cell 1
      have clow2 : W1.cell? ⟨w4.heap.size, 2, none⟩ = some (.int .i64 r4) := Blow_1.cell 2
      go_upto_region 10 with (go_at_call 63
                              (with_reducible refine (HR2.out).mono ?_)
                              rintro e w5 ⟨A5, n5, c5, r5, rfl, D5, K5⟩
                              have Bdn := Bd_1.keep K5 fun h => h
                              have Ldn := Bdn.lt
                              have Bxn := Bx_1.keep K5 fun h => h
                              have Lxn := Bxn.lt
                              have Byn := By_1.keep K5 fun h => h
                              have Lyn := Byn.lt
                              have Bresn := Bres_1.keep K5 fun h => h
                              have Lresn := Bresn.lt
                              have Bpartn := Bpart_1.keep K5 fun h => h
                              have Lpartn := Bpartn.lt
                              have Blown := Blow_1.keep K5 fun h => h
                              have Llown := Blown.lt
                              have y0 : w5.cell? ⟨w4.heap.size, 0, none⟩ = some (.int .i64 V) := Blown.cell 0
                              have y1 : w5.cell? ⟨w4.heap.size, 1, none⟩ = some (.slice A4 n4 c4) := Blown.cell 1
                              have y2 : w5.cell? ⟨w4.heap.size, 2, none⟩ = some (.int .i64 r4) := Blown.cell 2
                              have yf0 := Blown.frozen 0
                              have yf1 := Blown.frozen 1
                              have yf2 := Blown.frozen 2)
      clear clow0 clow1 clow2
      obtain ⟨Blow_2, Qlow_2, S3⟩ := set3_box Blown sl_nint D5
      have Bd_2 := Bdn.keep S3 fun h => by omega
      have Qd_2 := (Qd_1.keep K5).far_box Blown sl_nint S3
      have Bx_2 := Bxn.keep S3 fun h => by omega
      have Qx_2 := (Qx_1.keep K5).far_box Blown sl_nint S3
      have By_2 := Byn.keep S3 fun h => by omega
      have Qy_2 := (Qy_1.keep K5).far_box Blown sl_nint S3
      have Bres_2 := Bresn.keep S3 fun h => by omega
      have Bpart_2 := Bpartn.keep S3 fun h => by omega
      have Fpp0_2 := (Fpp0_1.keep K5).far_box Blown sl_nint S3
      have Fpp1_2 := (Fpp1_1.keep K5).far_box Blown sl_nint S3
      have Fpp2_2 := (Fpp2_1.keep K5).far_box Blown sl_nint S3
      have Kw_2 : Keep NoF w (((w5.setCell ⟨w4.heap.size, 0, none⟩ (.int .i64 V)).setCell ⟨w4.heap.size, 1, none⟩ (.slice A5 n5 c5)).setCell ⟨w4.heap.size, 2, none⟩ (.int .i64 r5)) := (Kw_1.trans K5 fun _ _ h => h).trans S3 fun i hi h => by omega
      generalize (((w5.setCell ⟨w4.heap.size, 0, none⟩ (.int .i64 V)).setCell ⟨w4.heap.size, 1, none⟩ (.slice A5 n5 c5)).setCell ⟨w4.heap.size, 2, none⟩ (.int .i64 r5)) = W2 at *
      clear Bd_1 Bx_1 By_1 Bres_1 Bpart_1 Blow_1 Qd_1 Qx_1 Qy_1 Qlow_1 Bdn Bxn Byn Bresn Bpartn Blown Kw_1 D5 K5 S3 y0 y1 y2 yf0 yf1 yf2 Fpp0_1 Fpp1_1 Fpp2_1
      have f9 := Bpart_2.frozen 9
      have f10 := Bpart_2.frozen 10
      have f11 := Bpart_2.frozen 11
      have hsz := Bpart_2.lt
      have e0 : W2.cell? ⟨w.heap.size + 4, 9, none⟩ = some (.int .i64 q3.v) := (Bpart_2.cell 9).trans rfl
      have e1 : W2.cell? ⟨w.heap.size + 4, 10, none⟩ = some (.slice q3.A q3.n q3.c) := (Bpart_2.cell 10).trans rfl
      have e2 : W2.cell? ⟨w.heap.size + 4, 11, none⟩ = some (.int .i64 q3.r) := (Bpart_2.cell 11).trans rfl
      have clow0 : W2.cell? ⟨w4.heap.size, 0, none⟩ = some (.int .i64 V) := Blow_2.cell 0
      have clow1 : W2.cell? ⟨w4.heap.size, 1, none⟩ = some (.slice A5 n5 c5) := Blow_2.cell 1
      have clow2 : W2.cell? ⟨w4.heap.size, 2, none⟩ = some (.int .i64 r5) := Blow_2.cell 2
      go_wp2
      go_roundw
      case rel =>
        have S3 : Keep (fun k => k = w.heap.size + 4) W2 (((W2.setCell ⟨w.heap.size + 4, 9, none⟩ (.int .i64 V)).setCell ⟨w.heap.size + 4, 10, none⟩ (.slice A5 n5 c5)).setCell ⟨w.heap.size + 4, 11, none⟩ (.int .i64 r5)) := (((Keep.refl (fun k => k = w.heap.size + 4) _).setCell (.inl rfl) _).setCell (.inl rfl) _).setCell (.inl rfl) _
        have Bpn : Bk (((W2.setCell ⟨w.heap.size + 4, 9, none⟩ (.int .i64 V)).setCell ⟨w.heap.size + 4, 10, none⟩ (.slice A5 n5 c5)).setCell ⟨w.heap.size + 4, 11, none⟩ (.int .i64 r5)) (w.heap.size + 4) 79 (pc4 q0 q1 q2 ⟨V, A5, n5, c5, r5⟩) := (((Bpart_2.put 9 (.int .i64 V)).put 10 (.slice A5 n5 c5)).put 11 (.int .i64 r5))
        have FG := fun {f : BF} {A : Option Addr} {n c r : Nat} (h : IsD W2 V f A n c r) => h.far_gen Bpart_2 (pc4_no _ _ _ _) S3
        exact ⟨4, q0, q1, q2, ⟨V, A5, n5, c5, r5⟩, rfl, by omega, Bd_2.keep S3 fun h => by omega, Bx_2.keep S3 fun h => by omega, By_2.keep S3 fun h => by omega, Bres_2.keep S3 fun h => by omega, Bpn, FG Qd_2, FG Qx_2, FG Qy_2, fun _ => ⟨PV0.out, pr0, PE0.out, FG Fpp0_2⟩, fun _ => ⟨PV1.out, pr1, PE1.out, FG Fpp1_2⟩, fun _ => ⟨PV2.out, pr2, PE2.out, FG Fpp2_2⟩, fun _ => ⟨rfl, r5, rfl, FG Qlow_2⟩, Kw_2.trans S3 fun i hi h => by omega⟩
      case measure => simp only [intOf]; omega
    · obtain ⟨pv0, pr0, pe0, P0⟩ := p0 (by omega)
      have PV0 := Lib.hid pv0
      have PE0 := Lib.hid pe0
      clear pv0 pe0
      obtain ⟨pv1, pr1, pe1, P1⟩ := p1 (by omega)
      have PV1 := Lib.hid pv1
      have PE1 := Lib.hid pe1
      clear pv1 pe1
      obtain ⟨pv2, pr2, pe2, P2⟩ := p2 (by omega)
      have PV2 := Lib.hid pv2
      have PE2 := Lib.hid pe2
      clear pv2 pe2
      obtain ⟨pv3, pr3, pe3, P3⟩ := p3 (by omega)
      have PV3 := Lib.hid pv3
      have PE3 := Lib.hid pe3
      clear pv3 pe3
      clear p0 p1 p2 p3
      have HI := Lib.hid (x_ite hV Qy P1 P0)
      have g10 : wr.cell? ⟨w.heap.size + 4, 3, none⟩ = some (.int .i64 V) := by rw [Bpart.cell 3]; show some (Value.int .i64 q1.v) = _; rw [PV1.out]
      have g11 : wr.cell? ⟨w.heap.size + 4, 4, none⟩ = some (.slice q1.A q1.n q1.c) := Bpart.cell 4
      have g12 : wr.cell? ⟨w.heap.size + 4, 5, none⟩ = some (.int .i64 pr1) := by rw [Bpart.cell 5]; show some (Value.int .i64 q1.r) = _; rw [PE1.out]
      have g00 : wr.cell? ⟨w.heap.size + 4, 0, none⟩ = some (.int .i64 V) := by rw [Bpart.cell 0]; show some (Value.int .i64 q0.v) = _; rw [PV0.out]
      have g01 : wr.cell? ⟨w.heap.size + 4, 1, none⟩ = some (.slice q0.A q0.n q0.c) := Bpart.cell 1
      have g02 : wr.cell? ⟨w.heap.size + 4, 2, none⟩ = some (.int .i64 pr0) := by rw [Bpart.cell 2]; show some (Value.int .i64 q0.r) = _; rw [PE0.out]
      have cy0 : wr.cell? ⟨w.heap.size + 2, 0, none⟩ = some (.int .i64 V) := By.cell 0
      have cy1 : wr.cell? ⟨w.heap.size + 2, 1, none⟩ = some (.slice A3 n3 c3) := By.cell 1
      have cy2 : wr.cell? ⟨w.heap.size + 2, 2, none⟩ = some (.int .i64 r3) := By.cell 2
      go_upto_region 15 with (go_at_call 64
                              (with_reducible refine (HI.out).mono ?_)
                              rintro e w4 ⟨A4, n4, c4, r4, rfl, D4, K4⟩
                              have Bdn := Bd.keep K4 fun h => h
                              have Ldn := Bdn.lt
                              have Bxn := Bx.keep K4 fun h => h
                              have Lxn := Bxn.lt
                              have Byn := By.keep K4 fun h => h
                              have Lyn := Byn.lt
                              have Bresn := Bres.keep K4 fun h => h
                              have Lresn := Bresn.lt
                              have Bpartn := Bpart.keep K4 fun h => h
                              have Lpartn := Bpartn.lt)
      clear cy0 cy1 cy2
      have Bd_1 := Bdn.alloc (.cells #[.int .i64 V, .slice A4 n4 c4, .int .i64 r4] 26)
      have Qd_1 := (Qd.keep K4).keep ((Keep.refl NoF w4).alloc (.cells #[.int .i64 V, .slice A4 n4 c4, .int .i64 r4] 26))
      have Bx_1 := Bxn.alloc (.cells #[.int .i64 V, .slice A4 n4 c4, .int .i64 r4] 26)
      have Qx_1 := (Qx.keep K4).keep ((Keep.refl NoF w4).alloc (.cells #[.int .i64 V, .slice A4 n4 c4, .int .i64 r4] 26))
      have By_1 := Byn.alloc (.cells #[.int .i64 V, .slice A4 n4 c4, .int .i64 r4] 26)
      have Qy_1 := (Qy.keep K4).keep ((Keep.refl NoF w4).alloc (.cells #[.int .i64 V, .slice A4 n4 c4, .int .i64 r4] 26))
      have Bres_1 := Bresn.alloc (.cells #[.int .i64 V, .slice A4 n4 c4, .int .i64 r4] 26)
      have Bpart_1 := Bpartn.alloc (.cells #[.int .i64 V, .slice A4 n4 c4, .int .i64 r4] 26)
      have Fpp0_1 := (P0.keep K4).keep ((Keep.refl NoF w4).alloc (.cells #[.int .i64 V, .slice A4 n4 c4, .int .i64 r4] 26))
      have Fpp1_1 := (P1.keep K4).keep ((Keep.refl NoF w4).alloc (.cells #[.int .i64 V, .slice A4 n4 c4, .int .i64 r4] 26))
      have Fpp2_1 := (P2.keep K4).keep ((Keep.refl NoF w4).alloc (.cells #[.int .i64 V, .slice A4 n4 c4, .int .i64 r4] 26))
      have Fpp3_1 := (P3.keep K4).keep ((Keep.refl NoF w4).alloc (.cells #[.int .i64 V, .slice A4 n4 c4, .int .i64 r4] 26))
      have Bno_1 := Bk.new w4 26 #[.int .i64 V, .slice A4 n4 c4, .int .i64 r4]
      have Qno_1 := D4.keep ((Keep.refl NoF w4).alloc (.cells #[.int .i64 V, .slice A4 n4 c4, .int .i64 r4] 26))
      have Kw_1 : Keep NoF w (w4.alloc (.cells #[.int .i64 V, .slice A4 n4 c4, .int .i64 r4] 26)) := (Kw.trans K4 fun _ _ h => h).alloc _
      generalize w4.alloc (.cells #[.int .i64 V, .slice A4 n4 c4, .int .i64 r4] 26) = W1 at *
      clear Bd Bx By Bres Bpart Qd Qx Qy Bdn Bxn Byn Bresn Bpartn Kw D4 K4 P0 P1 P2 P3
      clear g10 g11 g12 g00 g01 g02
      have HJ := Lib.hid (x_ite hV Qy_1 Fpp3_1 Fpp2_1)
      have g30 : W1.cell? ⟨w.heap.size + 4, 9, none⟩ = some (.int .i64 V) := by rw [Bpart_1.cell 9]; show some (Value.int .i64 q3.v) = _; rw [PV3.out]
      have g31 : W1.cell? ⟨w.heap.size + 4, 10, none⟩ = some (.slice q3.A q3.n q3.c) := Bpart_1.cell 10
      have g32 : W1.cell? ⟨w.heap.size + 4, 11, none⟩ = some (.int .i64 pr3) := by rw [Bpart_1.cell 11]; show some (Value.int .i64 q3.r) = _; rw [PE3.out]
      have g20 : W1.cell? ⟨w.heap.size + 4, 6, none⟩ = some (.int .i64 V) := by rw [Bpart_1.cell 6]; show some (Value.int .i64 q2.v) = _; rw [PV2.out]
      have g21 : W1.cell? ⟨w.heap.size + 4, 7, none⟩ = some (.slice q2.A q2.n q2.c) := Bpart_1.cell 7
      have g22 : W1.cell? ⟨w.heap.size + 4, 8, none⟩ = some (.int .i64 pr2) := by rw [Bpart_1.cell 8]; show some (Value.int .i64 q2.r) = _; rw [PE2.out]
      have cy0 : W1.cell? ⟨w.heap.size + 2, 0, none⟩ = some (.int .i64 V) := By_1.cell 0
      have cy1 : W1.cell? ⟨w.heap.size + 2, 1, none⟩ = some (.slice A3 n3 c3) := By_1.cell 1
      have cy2 : W1.cell? ⟨w.heap.size + 2, 2, none⟩ = some (.int .i64 r3) := By_1.cell 2
      go_upto_region 18 with (go_at_call 64
                              (with_reducible refine (HJ.out).mono ?_)
                              rintro e w5 ⟨A5, n5, c5, r5, rfl, D5, K5⟩
                              have Bdn := Bd_1.keep K5 fun h => h
                              have Ldn := Bdn.lt
                              have Bxn := Bx_1.keep K5 fun h => h
                              have Lxn := Bxn.lt
                              have Byn := By_1.keep K5 fun h => h
                              have Lyn := Byn.lt
                              have Bresn := Bres_1.keep K5 fun h => h
                              have Lresn := Bresn.lt
                              have Bpartn := Bpart_1.keep K5 fun h => h
                              have Lpartn := Bpartn.lt
                              have Bnon := Bno_1.keep K5 fun h => h
                              have Lnon := Bnon.lt)
      clear cy0 cy1 cy2
      have Bd_2 := Bdn.alloc (.cells #[.int .i64 V, .slice A5 n5 c5, .int .i64 r5] 26)
      have Qd_2 := (Qd_1.keep K5).keep ((Keep.refl NoF w5).alloc (.cells #[.int .i64 V, .slice A5 n5 c5, .int .i64 r5] 26))
      have Bx_2 := Bxn.alloc (.cells #[.int .i64 V, .slice A5 n5 c5, .int .i64 r5] 26)
      have Qx_2 := (Qx_1.keep K5).keep ((Keep.refl NoF w5).alloc (.cells #[.int .i64 V, .slice A5 n5 c5, .int .i64 r5] 26))
      have By_2 := Byn.alloc (.cells #[.int .i64 V, .slice A5 n5 c5, .int .i64 r5] 26)
      have Qy_2 := (Qy_1.keep K5).keep ((Keep.refl NoF w5).alloc (.cells #[.int .i64 V, .slice A5 n5 c5, .int .i64 r5] 26))
      have Bres_2 := Bresn.alloc (.cells #[.int .i64 V, .slice A5 n5 c5, .int .i64 r5] 26)
      have Bpart_2 := Bpartn.alloc (.cells #[.int .i64 V, .slice A5 n5 c5, .int .i64 r5] 26)
      have Bno_2 := Bnon.alloc (.cells #[.int .i64 V, .slice A5 n5 c5, .int .i64 r5] 26)
      have Qno_2 := (Qno_1.keep K5).keep ((Keep.refl NoF w5).alloc (.cells #[.int .i64 V, .slice A5 n5 c5, .int .i64 r5] 26))
      have Fpp0_2 := (Fpp0_1.keep K5).keep ((Keep.refl NoF w5).alloc (.cells #[.int .i64 V, .slice A5 n5 c5, .int .i64 r5] 26))
      have Fpp1_2 := (Fpp1_1.keep K5).keep ((Keep.refl NoF w5).alloc (.cells #[.int .i64 V, .slice A5 n5 c5, .int .i64 r5] 26))
      have Fpp2_2 := (Fpp2_1.keep K5).keep ((Keep.refl NoF w5).alloc (.cells #[.int .i64 V, .slice A5 n5 c5, .int .i64 r5] 26))
      have Fpp3_2 := (Fpp3_1.keep K5).keep ((Keep.refl NoF w5).alloc (.cells #[.int .i64 V, .slice A5 n5 c5, .int .i64 r5] 26))
      have Byes_2 := Bk.new w5 26 #[.int .i64 V, .slice A5 n5 c5, .int .i64 r5]
      have Qyes_2 := D5.keep ((Keep.refl NoF w5).alloc (.cells #[.int .i64 V, .slice A5 n5 c5, .int .i64 r5] 26))
      have Kw_2 : Keep NoF w (w5.alloc (.cells #[.int .i64 V, .slice A5 n5 c5, .int .i64 r5] 26)) := (Kw_1.trans K5 fun _ _ h => h).alloc _
      generalize w5.alloc (.cells #[.int .i64 V, .slice A5 n5 c5, .int .i64 r5] 26) = W2 at *
      clear Bd_1 Bx_1 By_1 Bres_1 Bpart_1 Bno_1 Qd_1 Qx_1 Qy_1 Qno_1 Bdn Bxn Byn Bresn Bpartn Bnon Kw_1 D5 K5 Fpp0_1 Fpp1_1 Fpp2_1 Fpp3_1
      clear g30 g31 g32 g20 g21 g22
      have HL := Lib.hid (x_ite hV Qx_2 Qyes_2 Qno_2)
      have cx0 : W2.cell? ⟨w.heap.size + 1, 0, none⟩ = some (.int .i64 V) := Bx_2.cell 0
      have cx1 : W2.cell? ⟨w.heap.size + 1, 1, none⟩ = some (.slice A2 n2 c2) := Bx_2.cell 1
      have cx2 : W2.cell? ⟨w.heap.size + 1, 2, none⟩ = some (.int .i64 r2) := Bx_2.cell 2
      have cno0 : W2.cell? ⟨w4.heap.size, 0, none⟩ = some (.int .i64 V) := Bno_2.cell 0
      have cno1 : W2.cell? ⟨w4.heap.size, 1, none⟩ = some (.slice A4 n4 c4) := Bno_2.cell 1
      have cno2 : W2.cell? ⟨w4.heap.size, 2, none⟩ = some (.int .i64 r4) := Bno_2.cell 2
      have cyes0 : W2.cell? ⟨w5.heap.size, 0, none⟩ = some (.int .i64 V) := Byes_2.cell 0
      have cyes1 : W2.cell? ⟨w5.heap.size, 1, none⟩ = some (.slice A5 n5 c5) := Byes_2.cell 1
      have cyes2 : W2.cell? ⟨w5.heap.size, 2, none⟩ = some (.int .i64 r5) := Byes_2.cell 2
      go_wp2_with (go_at_call 64
                   (with_reducible refine (HL.out).mono ?_)
                   rintro e w6 ⟨A6, n6, c6, r6, rfl, D6, K6⟩
                   have Bdn := Bd_2.keep K6 fun h => h
                   have Ldn := Bdn.lt
                   have Bxn := Bx_2.keep K6 fun h => h
                   have Lxn := Bxn.lt
                   have Byn := By_2.keep K6 fun h => h
                   have Lyn := Byn.lt
                   have Bresn := Bres_2.keep K6 fun h => h
                   have Lresn := Bresn.lt
                   have Bpartn := Bpart_2.keep K6 fun h => h
                   have Lpartn := Bpartn.lt
                   have Bnon := Bno_2.keep K6 fun h => h
                   have Lnon := Bnon.lt
                   have Byesn := Byes_2.keep K6 fun h => h
                   have Lyesn := Byesn.lt
                   have y0 : w6.cell? ⟨w.heap.size + 3, 0, none⟩ = some (.int .i64 0) := Bresn.cell 0
                   have y1 : w6.cell? ⟨w.heap.size + 3, 1, none⟩ = some (.slice none 0 0) := Bresn.cell 1
                   have y2 : w6.cell? ⟨w.heap.size + 3, 2, none⟩ = some (.int .i64 0) := Bresn.cell 2
                   have yf0 := Bresn.frozen 0
                   have yf1 := Bresn.frozen 1
                   have yf2 := Bresn.frozen 2)
      clear cx0 cx1 cx2 cno0 cno1 cno2 cyes0 cyes1 cyes2
      obtain ⟨Bres_3, Qres_3, S3⟩ := set3_box Bresn sl_nint D6
      have Bd_3 := Bdn.keep S3 fun h => by omega
      have Qd_3 := (Qd_2.keep K6).far_box Bresn sl_nint S3
      have Bx_3 := Bxn.keep S3 fun h => by omega
      have Qx_3 := (Qx_2.keep K6).far_box Bresn sl_nint S3
      have By_3 := Byn.keep S3 fun h => by omega
      have Qy_3 := (Qy_2.keep K6).far_box Bresn sl_nint S3
      have Bpart_3 := Bpartn.keep S3 fun h => by omega
      have Bno_3 := Bnon.keep S3 fun h => by omega
      have Qno_3 := (Qno_2.keep K6).far_box Bresn sl_nint S3
      have Byes_3 := Byesn.keep S3 fun h => by omega
      have Qyes_3 := (Qyes_2.keep K6).far_box Bresn sl_nint S3
      have Fpp0_3 := (Fpp0_2.keep K6).far_box Bresn sl_nint S3
      have Fpp1_3 := (Fpp1_2.keep K6).far_box Bresn sl_nint S3
      have Fpp2_3 := (Fpp2_2.keep K6).far_box Bresn sl_nint S3
      have Fpp3_3 := (Fpp3_2.keep K6).far_box Bresn sl_nint S3
      have Kw_3 : Keep NoF w (((w6.setCell ⟨w.heap.size + 3, 0, none⟩ (.int .i64 V)).setCell ⟨w.heap.size + 3, 1, none⟩ (.slice A6 n6 c6)).setCell ⟨w.heap.size + 3, 2, none⟩ (.int .i64 r6)) := (Kw_2.trans K6 fun _ _ h => h).trans S3 fun i hi h => by omega
      generalize (((w6.setCell ⟨w.heap.size + 3, 0, none⟩ (.int .i64 V)).setCell ⟨w.heap.size + 3, 1, none⟩ (.slice A6 n6 c6)).setCell ⟨w.heap.size + 3, 2, none⟩ (.int .i64 r6)) = W3 at *
      clear Bd_2 Bx_2 By_2 Bres_2 Bpart_2 Bno_2 Byes_2 Qd_2 Qx_2 Qy_2 Qno_2 Qyes_2 Bdn Bxn Byn Bresn Bpartn Bnon Byesn Kw_2 D6 K6 S3 y0 y1 y2 yf0 yf1 yf2 Fpp0_2 Fpp1_2 Fpp2_2 Fpp3_2
      have h0 : W3.cell? ⟨w.heap.size + 3, 0, none⟩ = some (.int .i64 V) := Bres_3.cell 0
      have h1 : W3.cell? ⟨w.heap.size + 3, 1, none⟩ = some (.slice A6 n6 c6) := Bres_3.cell 1
      have h2 : W3.cell? ⟨w.heap.size + 3, 2, none⟩ = some (.int .i64 r6) := Bres_3.cell 2
      refine bodyPost_ret (v := .tuple #[.agg #[.int .i64 V, .slice A6 n6 c6, .int .i64 r6], .int .i64 0]) (by simp [results, Tryd.results45, go_sem, h0, h1, h2]) rfl ?_
      exact ⟨A6, n6, c6, r6, rfl, Qres_3.congr (Dd.sw1_ite i f), Kw_3⟩
end
end Go.Proofs.YtgdmcidcappkpaaDoor
