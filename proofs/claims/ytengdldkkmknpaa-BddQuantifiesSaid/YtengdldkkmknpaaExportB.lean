/- What the store's method export does, whole. No condition. -/
import Derived.Test.YtengdldkkmknpaaExport
import Derived.Laws.EntriesVeiled
set_option linter.unusedVariables false
set_option linter.unusedSimpArgs false
namespace Go.Proofs.Ytengdldkkmknpaa
open Go.RowKit
open Dd (var lo visit St Walk pot canon)

def dgZero : Value := .agg #[.int .i64 0, .slice none 0 0, .int .i64 0]
/-- A diagram that is handed back, or the error that it is too large. -/
def DgRes (H : Nat) (V : Int) (c : Nat × List Nd) (e : Ending) (w' : World) : Prop :=
  (4096 < c.2.length ∧ e = .returned (.tuple #[dgZero, .int .i64 8])) ∨
  (c.2.length ≤ 4096 ∧ ∃ sl, e = .returned (.tuple #[.agg #[.int .i64 V, sl, .int .i64 (c.1 : Nat)], .int .i64 0]) ∧ Rd w' sl 3 c.2.length (ndsC c.2) ∧ ∀ k, sl.ownBlock = some k → H ≤ k)

set_option maxRecDepth 100000 in
set_option maxHeartbeats 1000000 in
theorem export_any {b : Nat} {F : Nat → Prop} {w : World} {N : List Nd} {G : Nd → Option Nat} (hsto : Sto w b N G F) (hg : Dd.Good N) (hN : N.length ≤ 1099510000000) (V : Int) (i : Nat) (hi : i < N.length + 2) :
    Calls Try.prog 56 #[.pointer (some ⟨b, 0, none⟩), .int .i64 V, .int .i64 i] w fun e w' => DgRes w.heap.size V (canon N i) e w' ∧ Keep NoF w w' := by
  have hmm := @run_makeMap Try.prog
  have HG := Lib.hid hg
  clear hg
  go_enter Try.func56, Try.ntmps56
  go_upto_region 2 with (fail)
  have hk0 : Keep NoF w (((w.alloc (.cells #[.pointer (some ⟨b, 0, none⟩)] 67)).alloc (.cells #[.int .i64 0, .slice none 0 0, .int .i64 0] 24)).alloc (.cells #[.int .i64 V, .slice none 0 0, .int .i64 0] 24)) :=
    (((Keep.refl _ _).alloc _).alloc _).alloc _
  have hb1 := ((Bk.new w 67 #[.pointer (some ⟨b, 0, none⟩)]).alloc (.cells #[.int .i64 0, .slice none 0 0, .int .i64 0] 24)).alloc (.cells #[.int .i64 V, .slice none 0 0, .int .i64 0] 24)
  have hb2 := (Bk.new (w.alloc (.cells #[.pointer (some ⟨b, 0, none⟩)] 67)) 24 #[.int .i64 0, .slice none 0 0, .int .i64 0]).alloc (.cells #[.int .i64 V, .slice none 0 0, .int .i64 0] 24)
  have hb3 := Bk.new ((w.alloc (.cells #[.pointer (some ⟨b, 0, none⟩)] 67)).alloc (.cells #[.int .i64 0, .slice none 0 0, .int .i64 0] 24)) 24 #[.int .i64 V, .slice none 0 0, .int .i64 0]
  have e1 : (w.alloc (.cells #[.pointer (some ⟨b, 0, none⟩)] 67)).heap.size = w.heap.size + 1 := by simp
  have e2 : ((w.alloc (.cells #[.pointer (some ⟨b, 0, none⟩)] 67)).alloc (.cells #[.int .i64 0, .slice none 0 0, .int .i64 0] 24)).heap.size = w.heap.size + 1 + 1 := by simp
  rw [e1] at hb2
  rw [e2] at hb3
  clear e1 e2
  have hs0 := hsto.kept hk0 fun _ _ h => h
  have hFlt := hsto.lt
  have hWs : (((w.alloc (.cells #[.pointer (some ⟨b, 0, none⟩)] 67)).alloc (.cells #[.int .i64 0, .slice none 0 0, .int .i64 0] 24)).alloc (.cells #[.int .i64 V, .slice none 0 0, .int .i64 0] 24)).heap.size = w.heap.size + 3 := by simp
  have HWs := Lib.hid hWs
  clear hsto hWs
  generalize ((w.alloc (.cells #[.pointer (some ⟨b, 0, none⟩)] 67)).alloc (.cells #[.int .i64 0, .slice none 0 0, .int .i64 0] 24)).alloc (.cells #[.int .i64 V, .slice none 0 0, .int .i64 0] 24) = W at *
  have hm0 : MapInt (W.alloc (.map #[] 0)) W.heap.size (fun _ => none) := MapT.new _ _ _ _ _ _
  have tok : True := trivial
  go_upto_region 3 with (first
    | (refine wpList_insT (by rfl) hm0 encInt Try.underlying88 (x := 0) (by unfold tiny; omega) 0 (.tmp 13) (.const (.int .i64 0)) (.const (.int .i64 0)) (by rfl) (by rfl) (by rfl) (by rfl) ?_
       intro w1 hm1 hg1 hsz1)
    | (refine wpList_insT (by rfl) hm1 encInt Try.underlying88 (x := 1) (by unfold tiny; omega) 1 (.tmp 13) (.const (.int .i64 1)) (.const (.int .i64 1)) (by rfl) (by rfl) (by rfl) (by rfl) ?_
       intro w2 hm2 hg2 hsz2))
  go_wp2_with fail
  have hWs := HWs.out
  have z1 : w1.heap.size = W.heap.size + 1 := by rw [hsz1]; simp
  have z2 : w2.heap.size = W.heap.size + 1 := by rw [hsz2, z1]
  have kW2 : Keep NoF W w2 := (((Keep.refl _ W).alloc _).grown hg1 fun k hk => .inr (by injection hk with hk; omega)).grown hg2 fun k hk => .inr (by injection hk with hk; omega)
  have kW4 : Keep NoF W ((w2.alloc (.cells #[.map (some W.heap.size)] 88)).alloc (.cells #[.func (.func 82) #[] #[.pointer (some ⟨W.heap.size + 1, 0, none⟩), .pointer (some ⟨w.heap.size, 0, none⟩), .pointer (some ⟨W.heap.size + 1 + 1, 0, none⟩), .pointer (some ⟨w.heap.size + 1 + 1, 0, none⟩)]] 64)) := (kW2.alloc _).alloc _
  have t1 := (Bk.new w2 88 #[.map (some W.heap.size)]).alloc (.cells #[.func (.func 82) #[] #[.pointer (some ⟨W.heap.size + 1, 0, none⟩), .pointer (some ⟨w.heap.size, 0, none⟩), .pointer (some ⟨W.heap.size + 1 + 1, 0, none⟩), .pointer (some ⟨w.heap.size + 1 + 1, 0, none⟩)]] 64)
  have t2 := Bk.new (w2.alloc (.cells #[.map (some W.heap.size)] 88)) 64 #[.func (.func 82) #[] #[.pointer (some ⟨W.heap.size + 1, 0, none⟩), .pointer (some ⟨w.heap.size, 0, none⟩), .pointer (some ⟨W.heap.size + 1 + 1, 0, none⟩), .pointer (some ⟨w.heap.size + 1 + 1, 0, none⟩)]]
  have e3 : (w2.alloc (.cells #[.map (some W.heap.size)] 88)).heap.size = W.heap.size + 1 + 1 := by simp [z2]
  rw [e3] at t2
  rw [z2] at t1
  have hm3 := (hm2.block (w' := w2.alloc (.cells #[.map (some W.heap.size)] 88)) (Below.heap_alloc _ _ _ hm2.lt))
  have hm4 := hm3.block (w' := (w2.alloc (.cells #[.map (some W.heap.size)] 88)).alloc (.cells #[.func (.func 82) #[] #[.pointer (some ⟨W.heap.size + 1, 0, none⟩), .pointer (some ⟨w.heap.size, 0, none⟩), .pointer (some ⟨W.heap.size + 1 + 1, 0, none⟩), .pointer (some ⟨w.heap.size + 1 + 1, 0, none⟩)]] 64)) (Below.heap_alloc _ _ _ hm3.lt)
  clear hm0 hm1 hm2 hm3 hg1 hg2
  generalize (w2.alloc (.cells #[.map (some W.heap.size)] 88)).alloc (.cells #[.func (.func 82) #[] #[.pointer (some ⟨W.heap.size + 1, 0, none⟩), .pointer (some ⟨w.heap.size, 0, none⟩), .pointer (some ⟨W.heap.size + 1 + 1, 0, none⟩), .pointer (some ⟨w.heap.size + 1 + 1, 0, none⟩)]] 64) = W4 at *
  have hd4 := hb3.keep kW4 (fun h => h)
  have hr4 := hb2.keep kW4 (fun h => h)
  have hvars : Vars W4 b (W.heap.size + 1) w.heap.size (W.heap.size + 1 + 1) (w.heap.size + 1 + 1) W.heap.size := ⟨t1, hb1.keep kW4 (fun h => h), t2⟩
  have hvst : Vst W4 (w.heap.size + 1 + 1) W.heap.size V Dd.start (fun k => k = w.heap.size + 1 + 1 ∨ k = W.heap.size) :=
    ⟨.slice none 0 0, hd4, World.ownsRow_nil _ _ _ _, hm4.congr fun x => by
      by_cases h1 : x = 1
      · subst h1; simp [Dd.start]
      · by_cases h0 : x = 0 <;> simp [Dd.start, h0, h1], fun k => by simp [Value.ownBlock]⟩
  have hs4 := hs0.kept kW4 fun _ _ h => h
  refine (vis_fuel (i + 1) b (W.heap.size + 1) w.heap.size (W.heap.size + 1 + 1) (w.heap.size + 1 + 1) W.heap.size V _ F W4 N G Dd.start i (by omega) hi HG.out (Dd.start_walk N)
    (by have := Dd.pot_start N.length; omega) (by omega) hs4 hvars hvst (fun k hk h => by have := hFlt k hk; omega) (by omega) (by omega) (by omega)).mono ?_
  rintro e w5 ⟨K5, rfl, ⟨dv, hd5, ho5, hm5, hK5⟩, hk5, hKs⟩
  have hr5 := hr4.keep hk5 (by omega)
  have hcan : Dd.canon N i = ((visit N (i + 1) i Dd.start).1, (visit N (i + 1) i Dd.start).2.1) := rfl
  have hbnd := Dd.visit_bound HG.out hi
  rw [hcan] at hbnd
  have HCAN := Lib.hid hcan
  clear hcan hWs z1 z2 e3
  generalize visit N (i + 1) i Dd.start = vs at *
  obtain ⟨r, D, T⟩ := vs
  simp only at ho5 hm5 hbnd HCAN
  obtain ⟨A, c, rfl⟩ := own_form ho5
  have hd6 : Bk (w5.setCell ⟨w.heap.size + 1 + 1, 2, none⟩ (.int .i64 (r : Nat))) (w.heap.size + 1 + 1) 24 #[.int .i64 V, .slice A D.length c, .int .i64 (r : Nat)] := hd5.put 2 _
  have hr6 := hr5.far (p := ⟨w.heap.size + 1 + 1, 2, none⟩) (by simp) (.int .i64 (r : Nat))
  have hdv : (Value.slice A D.length c).ownBlock ≠ some (w.heap.size + 1 + 1) := own_ne_bk ho5 hd5 (by decide)
  have ho6 : (w5.setCell ⟨w.heap.size + 1 + 1, 2, none⟩ (.int .i64 (r : Nat))).ownsRow 0 63 3 (.slice A D.length c) D.length (ndsC D) := own_keep ho5 fun k hk => Below.heap_setCell _ _ _ _ (fun e => hdv (by rw [hk]; exact congrArg some e))
  have hk6 : Keep NoF w (w5.setCell ⟨w.heap.size + 1 + 1, 2, none⟩ (.int .i64 (r : Nat))) := by
    have hWs := HWs.out
    have h1 : Keep NoF w W4 := hk0.trans kW4 fun _ _ h => h
    exact (h1.trans hk5 fun k hk h => by rcases h with h | h <;> omega).setCell (.inr (by simp; omega)) _
  have hown : ∀ k, (Value.slice A D.length c).ownBlock = some k → w.heap.size ≤ k := fun k hk => by
    have hWs := HWs.out
    have := hk0.size
    have := kW4.size
    rcases hKs k ((hK5 k).2 (.inr (.inr hk))) with (h | h) | h <;> omega
  have c1 : w5.cell? ⟨w.heap.size + 1 + 1, 2, none⟩ = some (.int .i64 0) := hd5.cell 2
  have c2 : w5.frozen? ⟨w.heap.size + 1 + 1, 2, none⟩ = false := hd5.frozen 2
  go_upto_region 6 with (fail)
  clear hd5 hr5 ho5 c1 c2 hm5
  generalize w5.setCell ⟨w.heap.size + 1 + 1, 2, none⟩ (.int .i64 (r : Nat)) = W6 at *
  have d0 : W6.cell? ⟨w.heap.size + 1 + 1, 0, none⟩ = some (.int .i64 V) := hd6.cell 0
  have d1 : W6.cell? ⟨w.heap.size + 1 + 1, 1, none⟩ = some (.slice A D.length c) := hd6.cell 1
  have d2 : W6.cell? ⟨w.heap.size + 1 + 1, 2, none⟩ = some (.int .i64 (r : Nat)) := hd6.cell 2
  have r0 : W6.cell? ⟨w.heap.size + 1, 0, none⟩ = some (.int .i64 0) := hr6.cell 0
  have r1 : W6.cell? ⟨w.heap.size + 1, 1, none⟩ = some (.slice none 0 0) := hr6.cell 1
  have r2 : W6.cell? ⟨w.heap.size + 1, 2, none⟩ = some (.int .i64 0) := hr6.cell 2
  have f0 := hr6.frozen 0
  have f1 := hr6.frozen 1
  have f2 := hr6.frozen 2
  have hkr : ∀ (x y z : Value), Keep NoF w (((W6.setCell ⟨w.heap.size + 1, 0, none⟩ x).setCell ⟨w.heap.size + 1, 1, none⟩ y).setCell ⟨w.heap.size + 1, 2, none⟩ z) := fun x y z =>
    ((hk6.setCell (.inr (by simp)) x).setCell (.inr (by simp)) y).setCell (.inr (by simp)) z
  have hset : ∀ (x y z : Value) (k : Nat), k ≠ w.heap.size + 1 → (((W6.setCell ⟨w.heap.size + 1, 0, none⟩ x).setCell ⟨w.heap.size + 1, 1, none⟩ y).setCell ⟨w.heap.size + 1, 2, none⟩ z).heap[k]? = W6.heap[k]? := fun x y z k hk =>
    ((Below.heap_setCell _ _ _ k hk).trans (Below.heap_setCell _ _ _ k hk)).trans (Below.heap_setCell _ _ _ k hk)
  by_cases hgt : 4096 < D.length
  · go_wp2
    refine bodyPost_ret (v := .tuple #[dgZero, .int .i64 8]) (by simp [results, Try.results56, go_sem, dgZero, r0, r1, r2]) rfl ⟨?_, hkr _ _ _⟩
    exact .inl ⟨by rw [HCAN.out]; exact hgt, rfl⟩
  · go_wp2
    refine bodyPost_ret (v := .tuple #[.agg #[.int .i64 V, .slice A D.length c, .int .i64 (r : Nat)], .int .i64 0]) (by simp [results, Try.results56, go_sem, r0, r1, r2]) rfl ⟨?_, hkr _ _ _⟩
    refine .inr ⟨by rw [HCAN.out]; exact Nat.le_of_not_lt hgt, .slice A D.length c, by rw [HCAN.out], ?_, hown⟩
    rw [HCAN.out]
    exact Rd.of_own (own_keep ho6 fun k hk => hset _ _ _ k fun e => own_ne_bk ho6 hr6 (by decide) (e ▸ hk))
end Go.Proofs.Ytengdldkkmknpaa
