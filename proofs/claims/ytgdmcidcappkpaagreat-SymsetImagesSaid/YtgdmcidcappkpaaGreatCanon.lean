/- What the reference's canonical does. No condition. -/
import Derived.Test.YtgdmcidcappkpaaGreatRen
import Derived.Test.YtgdmcidcappkpaaGreatDia
import Derived.Outline
import Derived.Deep.OwnRows
set_option linter.unusedVariables false
set_option linter.unusedSimpArgs false
namespace Go.Proofs.YtgdmcidcappkpaaGreat
open Go.RowKit
open Dd (var lo visit St Walk pot canon)

/-- A diagram alone, canonical list C. -/
def CPost (w : World) (V : Int) (C : Nat × List Nd) (e : Ending) (w' : World) : Prop :=
  ∃ A c, e = .returned (.agg #[.int .i64 V, .slice A C.2.length c, .int .i64 (C.1 : Nat)]) ∧ Rd w' (.slice A C.2.length c) 3 C.2.length (ndsC C.2) ∧ Keep NoF w w' ∧ ∀ k, (Value.slice A C.2.length c).ownBlock = some k → w.heap.size ≤ k

theorem PV_start (n : Nat) (x : Nat) : Dd.start.2 x = PV (List.replicate n 0) x := by
  unfold PV Dd.start
  by_cases h0 : x = 0
  · simp [h0]
  by_cases h1 : x = 1
  · simp [h1]
  have : (List.replicate n 0).getD (x - 2) 0 = 0 := by
    rw [List.getD_eq_getElem?_getD, List.getElem?_replicate]
    split <;> rfl
  simp only [h0, h1, if_false, this, if_true]

/-- The cells of a list of numbers. -/
def inA (P : List Nat) : Array Value := (P.map inV).toArray
theorem made_inA (n : Nat) : madeCells #[.int .i64 0] n = inA (List.replicate n 0) := by
  apply Array.ext_getElem?
  intro i
  by_cases hi : i < n
  · simp [madeCells, inA, List.getElem?_replicate, hi, inV, Nat.mod_one]
  · simp [madeCells, inA, List.getElem?_replicate, hi]
/-- 'make([]int, n)'. -/
theorem run_make_ints (n : Nat) (h : n ≤ 35184372088832) (w : World) : (Instr.makeSlice 76 (.int .i64 (n : Int)) (.int .i64 (n : Int))).run Tryz.prog w = .ok (.slice (some ⟨w.heap.size, 0, none⟩) n n) (w.alloc (.cells (inA (List.replicate n 0)) 3)) := by
  rw [← made_inA]
  exact run_make_row' 76 3 (.int .i64 0) 8 Tryz.underlying76 infoInt rfl .i64 .i64 n (by omega) (by omega) w

set_option maxRecDepth 100000 in
set_option maxHeartbeats 1000000 in
theorem canonical_any (V : Int) (N : List Nd) (sl : Value) (r : Nat) (w : World) (hg : Dd.Good N) (hr : r < N.length + 2) (hN : N.length ≤ 1099510000000) (hrd : Rd w sl 3 N.length (ndsC N)) :
    Calls Tryz.prog 90 #[.agg #[.int .i64 V, sl, .int .i64 r]] w (CPost w V (canon N r)) := by
  have hrd1 := hrd
  obtain ⟨_, A, c, rfl, _, _⟩ := hrd1
  obtain ⟨v1, D, T, hvs⟩ : ∃ v1 D T, visit N (r + 1) r Dd.start = (v1, D, T) := ⟨_, _, _, rfl⟩
  have hcn : canon N r = (v1, D) := by unfold canon; rw [hvs]
  rw [hcn]
  have HVS := Lib.hid hvs
  clear hcn hvs
  go_enter Tryz.func90, Tryz.ntmps90
  go_upto_region 2 with (fail)
  have kw : Keep NoF w (((w.alloc (.cells #[.int .i64 V, .slice A N.length c, .int .i64 r] 24)).alloc (.cells #[.int .i64 0, .slice none 0 0, .int .i64 0] 24)).alloc (.cells #[.int .i64 V, .slice none 0 0, .int .i64 0] 24)) := (((Keep.refl _ _).alloc _).alloc _).alloc _
  have qd : Bk (((w.alloc (.cells #[.int .i64 V, .slice A N.length c, .int .i64 r] 24)).alloc (.cells #[.int .i64 0, .slice none 0 0, .int .i64 0] 24)).alloc (.cells #[.int .i64 V, .slice none 0 0, .int .i64 0] 24)) w.heap.size 24 #[.int .i64 V, .slice A N.length c, .int .i64 r] := ((Bk.new' _ _ _ (by simp)).alloc _).alloc _
  have qz : Bk (((w.alloc (.cells #[.int .i64 V, .slice A N.length c, .int .i64 r] 24)).alloc (.cells #[.int .i64 0, .slice none 0 0, .int .i64 0] 24)).alloc (.cells #[.int .i64 V, .slice none 0 0, .int .i64 0] 24)) (w.heap.size + 1) 24 #[.int .i64 0, .slice none 0 0, .int .i64 0] := (Bk.new' _ _ _ (by simp)).alloc _
  have qo : Bk (((w.alloc (.cells #[.int .i64 V, .slice A N.length c, .int .i64 r] 24)).alloc (.cells #[.int .i64 0, .slice none 0 0, .int .i64 0] 24)).alloc (.cells #[.int .i64 V, .slice none 0 0, .int .i64 0] 24)) (w.heap.size + 1 + 1) 24 #[.int .i64 V, .slice none 0 0, .int .i64 0] := Bk.new' _ _ _ (by simp)
  have hz : (((w.alloc (.cells #[.int .i64 V, .slice A N.length c, .int .i64 r] 24)).alloc (.cells #[.int .i64 0, .slice none 0 0, .int .i64 0] 24)).alloc (.cells #[.int .i64 V, .slice none 0 0, .int .i64 0] 24)).heap.size = w.heap.size + 1 + 1 + 1 := by simp
  have HZ := Lib.hid hz
  have hzl : w.heap.size + 1 + 1 < (((w.alloc (.cells #[.int .i64 V, .slice A N.length c, .int .i64 r] 24)).alloc (.cells #[.int .i64 0, .slice none 0 0, .int .i64 0] 24)).alloc (.cells #[.int .i64 V, .slice none 0 0, .int .i64 0] 24)).heap.size := by omega
  have hr3 := hrd.kept kw fun _ _ h => h
  clear hz
  generalize ((w.alloc (.cells #[.int .i64 V, .slice A N.length c, .int .i64 r] 24)).alloc (.cells #[.int .i64 0, .slice none 0 0, .int .i64 0] 24)).alloc (.cells #[.int .i64 V, .slice none 0 0, .int .i64 0] 24) = W3 at *
  have c1 : W3.cell? ⟨w.heap.size, 1, none⟩ = some (.slice A N.length c) := qd.cell 1
  have c2 : W3.cell? ⟨w.heap.size, 2, none⟩ = some (.int .i64 r) := qd.cell 2
  have hmk := run_make_ints N.length (by omega)
  have kP : Keep NoF W3 (W3.alloc (.cells (inA (List.replicate N.length 0)) 3)).drew := ((Keep.refl _ _).alloc _).drew
  have pP : Bk (W3.alloc (.cells (inA (List.replicate N.length 0)) 3)).drew W3.heap.size 3 (inA (List.replicate N.length 0)) := Bk.drew (Bk.new W3 _ _)
  have kd4 := qd.keep kP (fun h => h)
  have kz4 := qz.keep kP (fun h => h)
  have ko4 := qo.keep kP (fun h => h)
  have hr4 := hr3.kept kP fun _ _ h => h
  have l3 : w.heap.size < W3.heap.size := qd.lt
  have HC : Hid (Calls Tryz.prog 109 #[.pointer (some ⟨w.heap.size, 0, none⟩), .int .i64 r, .slice (some ⟨W3.heap.size, 0, none⟩) N.length N.length, .pointer (some ⟨w.heap.size + 1 + 1, 0, none⟩)] (W3.alloc (.cells (inA (List.replicate N.length 0)) 3)).drew
      (RPost (w.heap.size + 1 + 1) W3.heap.size N.length V (fun k => k = w.heap.size + 1 + 1 ∨ k = W3.heap.size) (W3.alloc (.cells (inA (List.replicate N.length 0)) 3)).drew v1 (D, T))) := Lib.hid (by
    have e1 : v1 = (visit N (r + 1) r Dd.start).1 := by rw [HVS.out]
    have e2 : (D, T) = (visit N (r + 1) r Dd.start).2 := by rw [HVS.out]
    rw [e1, e2]
    refine ren_fuel (r + 1) w.heap.size (w.heap.size + 1 + 1) W3.heap.size N.length V r (.slice A N.length c) _ _ N Dd.start r (by omega) hr hg (Dd.start_walk N) ?_ (by omega) kd4 hr4 ?_ ?_ ?_
    · have := Dd.pot_start N.length; omega
    · intro h0 k hk
      have := hrd.blk_lt h0 (by omega) k hk
      omega
    · refine ⟨.slice none 0 0, List.replicate N.length 0, ko4, World.ownsRow_nil _ _ _ _, pP, by simp, fun x _ => PV_start _ x, fun k => ?_⟩
      simp [Value.ownBlock]
    · omega)
  clear pP ko4 hr4 hr3
  have hz4 : (W3.alloc (.cells (inA (List.replicate N.length 0)) 3)).drew.heap.size = W3.heap.size + 1 := by simp
  have HZ4 := Lib.hid hz4
  clear hz4
  go_region_held3 (fun w' => w'.cell? ⟨w.heap.size, 1, none⟩ = some (.slice A N.length c) ∧ w'.cell? ⟨w.heap.size, 2, none⟩ = some (.int .i64 r))
    (first
      | with_reducible exact ⟨c1, c2⟩
      | with_reducible exact ⟨d1, d2⟩
      | with_reducible exact ⟨g1, g2⟩
      | exact ⟨c1, c2⟩
      | exact ⟨(hd5.far (p := ⟨w.heap.size + 1 + 1, 2, none⟩) (by show w.heap.size ≠ w.heap.size + 1 + 1; omega) _).cell 1, (hd5.far (p := ⟨w.heap.size + 1 + 1, 2, none⟩) (by show w.heap.size ≠ w.heap.size + 1 + 1; omega) _).cell 2⟩
      | exact ⟨kd4.cell 1, kd4.cell 2⟩)
    ((go_at_call 109
      (with_reducible refine HC.out.mono ?_)
      rintro e w5 ⟨K5, rfl, hs5, hk5, hK5⟩
      have hd5 := kd4.keep hk5 (by omega)
      have d1 : w5.cell? ⟨w.heap.size, 1, none⟩ = some (.slice A N.length c) := hd5.cell 1
      have d2 : w5.cell? ⟨w.heap.size, 2, none⟩ = some (.int .i64 r) := hd5.cell 2
      obtain ⟨dv, P, od, oo, op, ol, ox, oK⟩ := hs5
      simp only at oo
      obtain ⟨A', c', rfl⟩ := own_form oo
      have o0 : w5.cell? ⟨w.heap.size + 1 + 1, 0, none⟩ = some (.int .i64 V) := od.cell 0
      have o1 : w5.cell? ⟨w.heap.size + 1 + 1, 1, none⟩ = some (.slice A' D.length c') := od.cell 1
      have o2 : w5.cell? ⟨w.heap.size + 1 + 1, 2, none⟩ = some (.int .i64 0) := od.cell 2
      have of2 := od.frozen 2))
  have hkP : ∀ i, i < w.heap.size → ¬ (i = w.heap.size + 1 + 1 ∨ i = W3.heap.size) := fun i hi h => by omega
  have A5 : Keep NoF w w5 := (kw.trans kP fun _ _ h => h).trans hk5 fun i hi h => (hkP i hi h).elim
  have hz5 := (kz4.keep hk5 (by omega)).far (p := ⟨w.heap.size + 1 + 1, 2, none⟩) (by show w.heap.size + 1 ≠ w.heap.size + 1 + 1; omega) (.int .i64 (v1 : Nat))
  have od6 := od.put 2 (.int .i64 (v1 : Nat))
  have hdne : (Value.slice A' D.length c').ownBlock ≠ some (w.heap.size + 1 + 1) := own_ne_bk oo od (by decide)
  have hfr : ∀ k, (Value.slice A' D.length c').ownBlock = some k → w.heap.size + 1 + 1 < k := fun k hk => by
    have h := (oK k).2 (.inr (.inr hk))
    have hne : k ≠ w.heap.size + 1 + 1 := fun e => hdne (e ▸ hk)
    have := HZ.out
    have := HZ4.out
    rcases hK5 k h with (h | h) | h
    · exact absurd h hne
    · omega
    · omega
  have ro6 : Rd (w5.setCell ⟨w.heap.size + 1 + 1, 2, none⟩ (.int .i64 (v1 : Nat))) (.slice A' D.length c') 3 D.length (ndsC D) :=
    Rd.kept (F := fun k => k = w.heap.size + 1 + 1) (Rd.of_own oo) ((Keep.refl (fun k => k = w.heap.size + 1 + 1) w5).setCell (p := ⟨w.heap.size + 1 + 1, 2, none⟩) (.inl rfl) _) fun k hk e => hdne (e ▸ hk)
  have A6 : Keep NoF w (w5.setCell ⟨w.heap.size + 1 + 1, 2, none⟩ (.int .i64 (v1 : Nat))) := A5.setCell (p := ⟨w.heap.size + 1 + 1, 2, none⟩) (.inr (by show w.heap.size ≤ w.heap.size + 1 + 1; omega)) _
  clear od oo op o0 o1 o2 of2 d1 d2 hd5 c1 c2
  generalize w5.setCell ⟨w.heap.size + 1 + 1, 2, none⟩ (.int .i64 (v1 : Nat)) = w6 at *
  have o0 : w6.cell? ⟨w.heap.size + 1 + 1, 0, none⟩ = some (.int .i64 V) := od6.cell 0
  have o1 : w6.cell? ⟨w.heap.size + 1 + 1, 1, none⟩ = some (.slice A' D.length c') := od6.cell 1
  have o2 : w6.cell? ⟨w.heap.size + 1 + 1, 2, none⟩ = some (.int .i64 v1) := od6.cell 2
  have z0 : w6.cell? ⟨w.heap.size + 1, 0, none⟩ = some (.int .i64 0) := hz5.cell 0
  have z1 : w6.cell? ⟨w.heap.size + 1, 1, none⟩ = some (.slice none 0 0) := hz5.cell 1
  have z2 : w6.cell? ⟨w.heap.size + 1, 2, none⟩ = some (.int .i64 0) := hz5.cell 2
  have f0 := hz5.frozen 0
  have f1 := hz5.frozen 1
  have f2 := hz5.frozen 2
  go_wp2
  have hx := ((hz5.put 0 (.int .i64 V)).put 1 (.slice A' D.length c')).put 2 (.int .i64 v1)
  have hkf := A6.set3 (b := w.heap.size + 1) (by omega) (.int .i64 V) (.slice A' D.length c') (.int .i64 v1)
  have hrf : Rd (((w6.setCell ⟨w.heap.size + 1, 0, none⟩ (.int .i64 V)).setCell ⟨w.heap.size + 1, 1, none⟩ (.slice A' D.length c')).setCell ⟨w.heap.size + 1, 2, none⟩ (.int .i64 v1)) (.slice A' D.length c') 3 D.length (ndsC D) := ro6.kept (keep_set3 w6 (w.heap.size + 1) _ _ _) fun k hk (e : k = w.heap.size + 1) => by have := hfr k hk; omega
  generalize ((w6.setCell ⟨w.heap.size + 1, 0, none⟩ (.int .i64 V)).setCell ⟨w.heap.size + 1, 1, none⟩ (.slice A' D.length c')).setCell ⟨w.heap.size + 1, 2, none⟩ (.int .i64 v1) = W7 at *
  have x0 : W7.cell? ⟨w.heap.size + 1, 0, none⟩ = some (.int .i64 V) := hx.cell 0
  have x1 : W7.cell? ⟨w.heap.size + 1, 1, none⟩ = some (.slice A' D.length c') := hx.cell 1
  have x2 : W7.cell? ⟨w.heap.size + 1, 2, none⟩ = some (.int .i64 v1) := hx.cell 2
  refine bodyPost_ret (v := .agg #[.int .i64 V, .slice A' D.length c', .int .i64 v1]) (by simp [results, Tryz.results90, go_sem, x0, x1, x2]) rfl ?_
  exact ⟨A', c', rfl, hrf, hkf, fun k hk => by have := hfr k hk; omega⟩
end Go.Proofs.YtgdmcidcappkpaaGreat
