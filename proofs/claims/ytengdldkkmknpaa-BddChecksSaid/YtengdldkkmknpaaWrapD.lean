/- What Exists and Forall do. No condition. -/
import Derived.Test.YtengdldkkmknpaaWrapC
set_option linter.unusedVariables false
set_option linter.unusedSimpArgs false
namespace Go.Proofs.Ytengdldkkmknpaa
open Go.RowKit

theorem ErrOr.keep {w : World} {err V : Int} {ds : List Dg} {σ : List BF → BF} {e : Ending} {w' : World} (h : ErrOr w err (OpPost w V ds σ) e w') : Keep NoF w w' := by
  by_cases h0 : err = 0
  · exact (h.2 h0).2.2
  · exact (h.1 h0).2
theorem ErrOr.out {w : World} {er V : Int} {ds : List Dg} {σ : List BF → BF} {e : Ending} {w' : World} (h : ErrOr w er (OpPost w V ds σ) e w') :
    ∃ V' r' err A n cc, e = .returned (.tuple #[.agg #[.int .i64 V', .slice A n cc, .int .i64 r'], .int .i64 err]) ∧ ErrOr w er (OpPost w V ds σ) (.returned (.tuple #[.agg #[.int .i64 V', .slice A n cc, .int .i64 r'], .int .i64 err])) w' := by
  by_cases h0 : er = 0
  · obtain ⟨_, _, _, _, _, _, he, _⟩ := (h.2 h0).out
    exact ⟨_, _, _, _, _, _, he, he ▸ h⟩
  · have he := (h.1 h0).1
    exact ⟨_, _, _, _, _, _, he, he ▸ h⟩
theorem ErrOr.move {w w0 : World} {er V : Int} {ds : List Dg} {σ : List BF → BF} {e : Ending} {w1 w' : World} (h : ErrOr w er (OpPost w V ds σ) e w1) (hk0 : Keep NoF w0 w') (h0 : w0.heap.size ≤ w.heap.size) (hk : ∀ k, w.heap.size ≤ k → w'.heap[k]? = w1.heap[k]?) : ErrOr w0 er (OpPost w0 V ds σ) e w' :=
  ⟨fun h' => ⟨(h.1 h').1, hk0⟩, fun h' => (h.2 h').move hk0 h0 hk⟩

set_option maxRecDepth 100000 in
theorem Exists_any (a : Dg) (S : Nat) (hS : S < 18446744073709551616) (w : World) (ha : a.In w) : Calls Try.prog 47 #[a.val, .int .u64 S] w (ErrOr w (qErr a S) (OpPost w a.V [a] (qSem true S))) := by
  have HQ := Lib.hid fun (w1 : World) (hk : Keep NoF w w1) => (quantify_any a S true hS w1 ⟨ha.1.kept hk fun _ _ h => h, ha.2⟩).mono fun _ _ h => h.out
  have hmv : ∀ e w1 w', ErrOr w1 (qErr a S) (OpPost w1 a.V [a] (qSem true S)) e w' → ∀ w2, Keep NoF w w2 → w.heap.size ≤ w1.heap.size → (∀ k, w1.heap.size ≤ k → w2.heap[k]? = w'.heap[k]?) → ErrOr w (qErr a S) (OpPost w a.V [a] (qSem true S)) e w2 := fun e w1 w' h w2 hk h0 h1 => h.move hk h0 h1
  have HK : Hid (∀ e w1 w', ErrOr w1 (qErr a S) (OpPost w1 a.V [a] (qSem true S)) e w' → Keep NoF w1 w') := Lib.hid fun e w1 w' h => h.keep
  have ha1 := ha.1
  obtain ⟨V1, R1, r1, s1⟩ := a
  simp only at ha1
  obtain ⟨_, A1, c1, rfl, _, _⟩ := ha1
  show Calls Try.prog 47 #[.agg #[.int .i64 V1, .slice A1 R1.length c1, .int .i64 r1], .int .u64 S] w _
  clear ha
  generalize ErrOr w (qErr ⟨V1, R1, r1, .slice A1 R1.length c1⟩ S) (OpPost w V1 [⟨V1, R1, r1, .slice A1 R1.length c1⟩] (qSem true S)) = PP at *
  have HMV := Lib.hid hmv
  clear hmv
  have hk0 : Keep NoF w ((w.alloc (.cells #[.int .i64 V1, .slice A1 R1.length c1, .int .i64 r1] 24)).alloc (.cells #[.int .i64 0, .slice none 0 0, .int .i64 0] 24)) := ((Keep.refl _ _).alloc _).alloc _
  have hb : Bk ((w.alloc (.cells #[.int .i64 V1, .slice A1 R1.length c1, .int .i64 r1] 24)).alloc (.cells #[.int .i64 0, .slice none 0 0, .int .i64 0] 24)) (w.heap.size + 1) 24 #[.int .i64 0, .slice none 0 0, .int .i64 0] := Bk.new' _ _ _ (by simp)
  have hA : Bk ((w.alloc (.cells #[.int .i64 V1, .slice A1 R1.length c1, .int .i64 r1] 24)).alloc (.cells #[.int .i64 0, .slice none 0 0, .int .i64 0] 24)) w.heap.size 24 #[.int .i64 V1, .slice A1 R1.length c1, .int .i64 r1] := (Bk.new' _ _ _ (by simp)).alloc _
  have hz : ((w.alloc (.cells #[.int .i64 V1, .slice A1 R1.length c1, .int .i64 r1] 24)).alloc (.cells #[.int .i64 0, .slice none 0 0, .int .i64 0] 24)).heap.size = w.heap.size + 1 + 1 := by simp
  have HX : Hid (Calls Try.prog 80 #[.agg #[.int .i64 V1, .slice A1 R1.length c1, .int .i64 r1], .int .u64 S, .bool true] ((w.alloc (.cells #[.int .i64 V1, .slice A1 R1.length c1, .int .i64 r1] 24)).alloc (.cells #[.int .i64 0, .slice none 0 0, .int .i64 0] 24)) _) := Lib.hid (HQ.out _ hk0)
  clear HQ
  go_enter Try.func47, Try.ntmps47
  go_wp2_with (go_at_call 80
               (with_reducible refine HX.out.mono ?_)
               rintro e w3 ⟨V', r', err, A', n', cc', rfl, hout⟩
               have hk3 := HK.out _ _ _ hout
               have hb4 := hb.keep hk3 (fun h => h)
               have y0 : w3.cell? ⟨w.heap.size + 1, 0, none⟩ = some (.int .i64 0) := hb4.cell 0
               have y1 : w3.cell? ⟨w.heap.size + 1, 1, none⟩ = some (.slice none 0 0) := hb4.cell 1
               have y2 : w3.cell? ⟨w.heap.size + 1, 2, none⟩ = some (.int .i64 0) := hb4.cell 2
               have f0 := hb4.frozen 0
               have f1 := hb4.frozen 1
               have f2 := hb4.frozen 2)
  have hkf : Keep NoF w (((w3.setCell ⟨w.heap.size + 1, 0, none⟩ (.int .i64 V')).setCell ⟨w.heap.size + 1, 1, none⟩ (.slice A' n' cc')).setCell ⟨w.heap.size + 1, 2, none⟩ (.int .i64 r')) := (((hk0.trans hk3 fun _ _ h => h).setCell (.inr (by simp)) _).setCell (.inr (by simp)) _).setCell (.inr (by simp)) _
  have hx := ((hb4.put 0 (.int .i64 V')).put 1 (.slice A' n' cc')).put 2 (.int .i64 r')
  have hset : ∀ k, k ≠ w.heap.size + 1 → (((w3.setCell ⟨w.heap.size + 1, 0, none⟩ (.int .i64 V')).setCell ⟨w.heap.size + 1, 1, none⟩ (.slice A' n' cc')).setCell ⟨w.heap.size + 1, 2, none⟩ (.int .i64 r')).heap[k]? = w3.heap[k]? := fun k hne => ((Below.heap_setCell _ _ _ k hne).trans (Below.heap_setCell _ _ _ k hne)).trans (Below.heap_setCell _ _ _ k hne)
  generalize ((w3.setCell ⟨w.heap.size + 1, 0, none⟩ (.int .i64 V')).setCell ⟨w.heap.size + 1, 1, none⟩ (.slice A' n' cc')).setCell ⟨w.heap.size + 1, 2, none⟩ (.int .i64 r') = W6 at *
  have hx0 : W6.cell? ⟨w.heap.size + 1, 0, none⟩ = some (.int .i64 V') := hx.cell 0
  have hx1 : W6.cell? ⟨w.heap.size + 1, 1, none⟩ = some (.slice A' n' cc') := hx.cell 1
  have hx2 : W6.cell? ⟨w.heap.size + 1, 2, none⟩ = some (.int .i64 r') := hx.cell 2
  refine bodyPost_ret (v := .tuple #[.agg #[.int .i64 V', .slice A' n' cc', .int .i64 r'], .int .i64 err]) (by simp [results, Try.results47, go_sem, hx0, hx1, hx2]) rfl ?_
  exact HMV.out _ _ _ hout W6 hkf (by omega) fun k hk => hset k (by omega)

set_option maxRecDepth 100000 in
theorem Forall_any (a : Dg) (S : Nat) (hS : S < 18446744073709551616) (w : World) (ha : a.In w) : Calls Try.prog 49 #[a.val, .int .u64 S] w (ErrOr w (qErr a S) (OpPost w a.V [a] (qSem false S))) := by
  have HQ := Lib.hid fun (w1 : World) (hk : Keep NoF w w1) => (quantify_any a S false hS w1 ⟨ha.1.kept hk fun _ _ h => h, ha.2⟩).mono fun _ _ h => h.out
  have hmv : ∀ e w1 w', ErrOr w1 (qErr a S) (OpPost w1 a.V [a] (qSem false S)) e w' → ∀ w2, Keep NoF w w2 → w.heap.size ≤ w1.heap.size → (∀ k, w1.heap.size ≤ k → w2.heap[k]? = w'.heap[k]?) → ErrOr w (qErr a S) (OpPost w a.V [a] (qSem false S)) e w2 := fun e w1 w' h w2 hk h0 h1 => h.move hk h0 h1
  have HK : Hid (∀ e w1 w', ErrOr w1 (qErr a S) (OpPost w1 a.V [a] (qSem false S)) e w' → Keep NoF w1 w') := Lib.hid fun e w1 w' h => h.keep
  have ha1 := ha.1
  obtain ⟨V1, R1, r1, s1⟩ := a
  simp only at ha1
  obtain ⟨_, A1, c1, rfl, _, _⟩ := ha1
  show Calls Try.prog 49 #[.agg #[.int .i64 V1, .slice A1 R1.length c1, .int .i64 r1], .int .u64 S] w _
  clear ha
  generalize ErrOr w (qErr ⟨V1, R1, r1, .slice A1 R1.length c1⟩ S) (OpPost w V1 [⟨V1, R1, r1, .slice A1 R1.length c1⟩] (qSem false S)) = PP at *
  have HMV := Lib.hid hmv
  clear hmv
  have hk0 : Keep NoF w ((w.alloc (.cells #[.int .i64 V1, .slice A1 R1.length c1, .int .i64 r1] 24)).alloc (.cells #[.int .i64 0, .slice none 0 0, .int .i64 0] 24)) := ((Keep.refl _ _).alloc _).alloc _
  have hb : Bk ((w.alloc (.cells #[.int .i64 V1, .slice A1 R1.length c1, .int .i64 r1] 24)).alloc (.cells #[.int .i64 0, .slice none 0 0, .int .i64 0] 24)) (w.heap.size + 1) 24 #[.int .i64 0, .slice none 0 0, .int .i64 0] := Bk.new' _ _ _ (by simp)
  have hA : Bk ((w.alloc (.cells #[.int .i64 V1, .slice A1 R1.length c1, .int .i64 r1] 24)).alloc (.cells #[.int .i64 0, .slice none 0 0, .int .i64 0] 24)) w.heap.size 24 #[.int .i64 V1, .slice A1 R1.length c1, .int .i64 r1] := (Bk.new' _ _ _ (by simp)).alloc _
  have hz : ((w.alloc (.cells #[.int .i64 V1, .slice A1 R1.length c1, .int .i64 r1] 24)).alloc (.cells #[.int .i64 0, .slice none 0 0, .int .i64 0] 24)).heap.size = w.heap.size + 1 + 1 := by simp
  have HX : Hid (Calls Try.prog 80 #[.agg #[.int .i64 V1, .slice A1 R1.length c1, .int .i64 r1], .int .u64 S, .bool false] ((w.alloc (.cells #[.int .i64 V1, .slice A1 R1.length c1, .int .i64 r1] 24)).alloc (.cells #[.int .i64 0, .slice none 0 0, .int .i64 0] 24)) _) := Lib.hid (HQ.out _ hk0)
  clear HQ
  go_enter Try.func49, Try.ntmps49
  go_wp2_with (go_at_call 80
               (with_reducible refine HX.out.mono ?_)
               rintro e w3 ⟨V', r', err, A', n', cc', rfl, hout⟩
               have hk3 := HK.out _ _ _ hout
               have hb4 := hb.keep hk3 (fun h => h)
               have y0 : w3.cell? ⟨w.heap.size + 1, 0, none⟩ = some (.int .i64 0) := hb4.cell 0
               have y1 : w3.cell? ⟨w.heap.size + 1, 1, none⟩ = some (.slice none 0 0) := hb4.cell 1
               have y2 : w3.cell? ⟨w.heap.size + 1, 2, none⟩ = some (.int .i64 0) := hb4.cell 2
               have f0 := hb4.frozen 0
               have f1 := hb4.frozen 1
               have f2 := hb4.frozen 2)
  have hkf : Keep NoF w (((w3.setCell ⟨w.heap.size + 1, 0, none⟩ (.int .i64 V')).setCell ⟨w.heap.size + 1, 1, none⟩ (.slice A' n' cc')).setCell ⟨w.heap.size + 1, 2, none⟩ (.int .i64 r')) := (((hk0.trans hk3 fun _ _ h => h).setCell (.inr (by simp)) _).setCell (.inr (by simp)) _).setCell (.inr (by simp)) _
  have hx := ((hb4.put 0 (.int .i64 V')).put 1 (.slice A' n' cc')).put 2 (.int .i64 r')
  have hset : ∀ k, k ≠ w.heap.size + 1 → (((w3.setCell ⟨w.heap.size + 1, 0, none⟩ (.int .i64 V')).setCell ⟨w.heap.size + 1, 1, none⟩ (.slice A' n' cc')).setCell ⟨w.heap.size + 1, 2, none⟩ (.int .i64 r')).heap[k]? = w3.heap[k]? := fun k hne => ((Below.heap_setCell _ _ _ k hne).trans (Below.heap_setCell _ _ _ k hne)).trans (Below.heap_setCell _ _ _ k hne)
  generalize ((w3.setCell ⟨w.heap.size + 1, 0, none⟩ (.int .i64 V')).setCell ⟨w.heap.size + 1, 1, none⟩ (.slice A' n' cc')).setCell ⟨w.heap.size + 1, 2, none⟩ (.int .i64 r') = W6 at *
  have hx0 : W6.cell? ⟨w.heap.size + 1, 0, none⟩ = some (.int .i64 V') := hx.cell 0
  have hx1 : W6.cell? ⟨w.heap.size + 1, 1, none⟩ = some (.slice A' n' cc') := hx.cell 1
  have hx2 : W6.cell? ⟨w.heap.size + 1, 2, none⟩ = some (.int .i64 r') := hx.cell 2
  refine bodyPost_ret (v := .tuple #[.agg #[.int .i64 V', .slice A' n' cc', .int .i64 r'], .int .i64 err]) (by simp [results, Try.results49, go_sem, hx0, hx1, hx2]) rfl ?_
  exact HMV.out _ _ _ hout W6 hkf (by omega) fun k hk => hset k (by omega)
end Go.Proofs.Ytengdldkkmknpaa
