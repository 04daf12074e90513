/- What Not, And, Or, Ite do. No condition. -/
import Derived.Test.YtgdmcidcappkpaaDoorOpr
set_option linter.unusedVariables false
set_option linter.unusedSimpArgs false
namespace Go.Proofs.YtgdmcidcappkpaaDoor
open Go.RowKit
open Dd (Rn rat ofN toN checkErr MemoOk den canon)

def Dg.val (d : Dg) : Value := .agg #[.int .i64 d.V, d.sl, .int .i64 d.root]

theorem OpPost.out {w : World} {V : Int} {ds : List Dg} {σ : List BF → BF} {e : Ending} {w' : World} (h : OpPost w V ds σ e w') :
    ∃ V' r' err A n cc, e = .returned (.tuple #[.agg #[.int .i64 V', .slice A n cc, .int .i64 r'], .int .i64 err]) ∧ OpPost w V ds σ (.returned (.tuple #[.agg #[.int .i64 V', .slice A n cc, .int .i64 r'], .int .i64 err])) w' := by
  by_cases h0 : opErr V ds = 0
  · obtain ⟨N, t, h1, h2, h3, h4⟩ := h.2.1 h0
    obtain ⟨_, _, _, _, _, _, he, _⟩ := h4.out
    exact ⟨_, _, _, _, _, _, he, he ▸ h⟩
  · have he := h.1 h0
    exact ⟨_, _, _, _, _, _, he, he ▸ h⟩
theorem OpPost.move {w w0 : World} {V : Int} {ds : List Dg} {σ : List BF → BF} {e : Ending} {w1 w' : World} (h : OpPost w V ds σ e w1) (hk0 : Keep NoF w0 w') (h0 : w0.heap.size ≤ w.heap.size) (hk : ∀ k, w.heap.size ≤ k → w'.heap[k]? = w1.heap[k]?) : OpPost w0 V ds σ e w' := by
  refine ⟨h.1, fun h0' => ?_, hk0⟩
  obtain ⟨N, t, h1, h2, h3, h4⟩ := h.2.1 h0'
  exact ⟨N, t, h1, h2, h3, h4.move h0 hk⟩
theorem rd_new {w : World} (t : TypeId) (cs : Array Value) (size n c : Nat) {blk : Nat} (hb : blk = w.heap.size) (hl : cs.size = n * size) (hc : n ≤ c) : Rd (w.alloc (.cells cs t)) (.slice (some ⟨blk, 0, none⟩) n c) size n cs.toList := by
  subst hb
  refine ⟨by simpa using hl, _, _, rfl, hc, fun _ => ⟨_, _, rfl, fun j u hu => ?_⟩⟩
  rw [Nat.zero_add, (Bk.new w t cs).cell]
  simpa using hu

/-- The state behind operate's call, and its result in the result's cell. -/
theorem oper_call {w w1 : World} {V : Int} {ds : List Dg} {σ : List BF → BF} {f : Nat} {lv : Value} (hcf : ∀ args w', (callFunc f args).run Tryd.prog w' = .ok (.enter f args) w') {cap : Array Value} (hop : OpSem w1 f cap ds.length σ) (hV : ∃ d0, ds[0]? = some d0 ∧ d0.V = V) (hn : ds.length ≤ 3)
    (hin : ∀ d ∈ ds, d.In w) (hk : Keep NoF w w1) (hrd : Rd w1 lv 3 ds.length (ds.flatMap Dg.cells)) :
    Calls Tryd.prog 52 #[.func (.func f) #[] cap, lv] w1 fun e w' => ∃ V' r' err A n cc, e = .returned (.tuple #[.agg #[.int .i64 V', .slice A n cc, .int .i64 r'], .int .i64 err]) ∧ OpPost w1 V ds σ (.returned (.tuple #[.agg #[.int .i64 V', .slice A n cc, .int .i64 r'], .int .i64 err])) w' :=
  (operate_any f cap σ w1 V ds lv hcf hop hV hn hrd fun i d h => ⟨(hin d (List.mem_of_getElem? h)).1.kept hk fun _ _ h => h, (hin d (List.mem_of_getElem? h)).2⟩).mono fun _ _ h => h.out


theorem cf_Not : ∀ (args : Array Value) w', (callFunc 53 args).run Tryd.prog w' = .ok (.enter 53 args) w' := by intro args w'; kernel_rfl
set_option maxRecDepth 100000 in
theorem not_any (a : Dg) (w : World) (ha : a.In w) : Calls Tryd.prog 27 #[a.val] w (OpPost w a.V [a] notSem) := by
  have HO := Lib.hid fun (w1 : World) (lv : Value) (hk : Keep NoF w w1) (hr : Rd w1 lv 3 [a].length ([a].flatMap Dg.cells)) => oper_call (f := 53) (cap := #[]) (ds := [a]) (V := a.V) (σ := notSem) cf_Not (not_sem w1) ⟨a, rfl, rfl⟩ (by simp) (by simpa using ha) hk hr
  have ha1 := ha.1
  obtain ⟨V1, R1, r1, s1⟩ := a
  simp only at ha1
  obtain ⟨_, A1, c1, rfl, _, _⟩ := ha1
  show Calls Tryd.prog 27 #[.agg #[.int .i64 V1, .slice A1 R1.length c1, .int .i64 r1]] w _
  have hpost : ∀ e w1 w', OpPost w1 V1 [⟨V1, R1, r1, .slice A1 R1.length c1⟩] notSem e w' → ∀ w2, Keep NoF w w2 → w.heap.size ≤ w1.heap.size → (∀ k, w1.heap.size ≤ k → w2.heap[k]? = w'.heap[k]?) → OpPost w V1 [⟨V1, R1, r1, .slice A1 R1.length c1⟩] notSem e w2 := fun e w1 w' h w2 hk h0 h1 => h.move hk h0 h1
  clear ha
  generalize OpPost w V1 [⟨V1, R1, r1, .slice A1 R1.length c1⟩] notSem = PP at *
  have hbk := Bk.new (w.alloc (.cells #[.int .i64 V1, .slice A1 R1.length c1, .int .i64 r1] 26)) 26 #[.int .i64 0, .slice none 0 0, .int .i64 0]
  have hsz : (w.alloc (.cells #[.int .i64 V1, .slice A1 R1.length c1, .int .i64 r1] 26)).heap.size = w.heap.size + 1 := by simp
  have hsz2 : ((w.alloc (.cells #[.int .i64 V1, .slice A1 R1.length c1, .int .i64 r1] 26)).alloc (.cells #[.int .i64 0, .slice none 0 0, .int .i64 0] 26)).heap.size = w.heap.size + 1 + 1 := by simp
  rw [hsz] at hbk
  have hb2 := hbk.alloc (.cells #[.int .i64 V1, .slice A1 R1.length c1, .int .i64 r1] 26)
  have hrd := rd_new (w := ((w.alloc (.cells #[.int .i64 V1, .slice A1 R1.length c1, .int .i64 r1] 26)).alloc (.cells #[.int .i64 0, .slice none 0 0, .int .i64 0] 26))) 26 #[.int .i64 V1, .slice A1 R1.length c1, .int .i64 r1] 3 1 1 (blk := w.heap.size + 1 + 1) (by simp) rfl (by omega)
  have hkk : Keep NoF w (((w.alloc (.cells #[.int .i64 V1, .slice A1 R1.length c1, .int .i64 r1] 26)).alloc (.cells #[.int .i64 0, .slice none 0 0, .int .i64 0] 26)).alloc (.cells #[.int .i64 V1, .slice A1 R1.length c1, .int .i64 r1] 26)) := ((((Keep.refl NoF w).alloc _).alloc _).alloc _)
  have HC := Lib.hid (HO.out _ _ hkk hrd)
  have hsz3 : w.heap.size + 2 ≤ (((w.alloc (.cells #[.int .i64 V1, .slice A1 R1.length c1, .int .i64 r1] 26)).alloc (.cells #[.int .i64 0, .slice none 0 0, .int .i64 0] 26)).alloc (.cells #[.int .i64 V1, .slice A1 R1.length c1, .int .i64 r1] 26)).heap.size := by simp; try omega
  clear HO

  go_enter Tryd.func27, Tryd.ntmps27
  go_wp2_with (go_at_call 52
               (with_reducible refine HC.out.mono ?_)
               rintro e w2 ⟨V', r', err, A', n', cc', rfl, hout⟩
               have hk2 := hout.2.2
               have hb4 := hb2.keep hk2 (fun h => h)
               have y0 : w2.cell? ⟨w.heap.size + 1, 0, none⟩ = some (.int .i64 0) := hb4.cell 0
               have y1 : w2.cell? ⟨w.heap.size + 1, 1, none⟩ = some (.slice none 0 0) := hb4.cell 1
               have y2 : w2.cell? ⟨w.heap.size + 1, 2, none⟩ = some (.int .i64 0) := hb4.cell 2
               have f0 := hb4.frozen 0
               have f1 := hb4.frozen 1
               have f2 := hb4.frozen 2)
  have hkf : Keep NoF w (((w2.setCell ⟨w.heap.size + 1, 0, none⟩ (.int .i64 V')).setCell ⟨w.heap.size + 1, 1, none⟩ (.slice A' n' cc')).setCell ⟨w.heap.size + 1, 2, none⟩ (.int .i64 r')) := (((hkk.trans hk2 fun _ _ h => h).setCell (.inr (by simp; try omega)) _).setCell (.inr (by simp; try omega)) _).setCell (.inr (by simp; try omega)) _
  have hx := ((hb4.put 0 (.int .i64 V')).put 1 (.slice A' n' cc')).put 2 (.int .i64 r')
  have hset : ∀ k, k ≠ w.heap.size + 1 → (((w2.setCell ⟨w.heap.size + 1, 0, none⟩ (.int .i64 V')).setCell ⟨w.heap.size + 1, 1, none⟩ (.slice A' n' cc')).setCell ⟨w.heap.size + 1, 2, none⟩ (.int .i64 r')).heap[k]? = w2.heap[k]? := fun k hne => ((Below.heap_setCell _ _ _ k hne).trans (Below.heap_setCell _ _ _ k hne)).trans (Below.heap_setCell _ _ _ k hne)
  generalize ((w2.setCell ⟨w.heap.size + 1, 0, none⟩ (.int .i64 V')).setCell ⟨w.heap.size + 1, 1, none⟩ (.slice A' n' cc')).setCell ⟨w.heap.size + 1, 2, none⟩ (.int .i64 r') = W6 at *
  have hx0 : W6.cell? ⟨w.heap.size + 1, 0, none⟩ = some (.int .i64 V') := hx.cell 0
  have hx1 : W6.cell? ⟨w.heap.size + 1, 1, none⟩ = some (.slice A' n' cc') := hx.cell 1
  have hx2 : W6.cell? ⟨w.heap.size + 1, 2, none⟩ = some (.int .i64 r') := hx.cell 2
  refine bodyPost_ret (v := .tuple #[.agg #[.int .i64 V', .slice A' n' cc', .int .i64 r'], .int .i64 err]) (by simp [results, Tryd.results27, go_sem, hx0, hx1, hx2]) rfl ?_
  exact hpost _ _ _ hout W6 hkf (by omega) fun k hk => hset k (by omega)

theorem cf_And : ∀ (args : Array Value) w', (callFunc 56 args).run Tryd.prog w' = .ok (.enter 56 args) w' := by intro args w'; kernel_rfl
set_option maxRecDepth 100000 in
theorem and_any (a : Dg) (b : Dg) (w : World) (ha : a.In w) (hb : b.In w) : Calls Tryd.prog 31 #[a.val, b.val] w (OpPost w a.V [a, b] andSem) := by
  have HO := Lib.hid fun (w1 : World) (lv : Value) (hk : Keep NoF w w1) (hr : Rd w1 lv 3 [a, b].length ([a, b].flatMap Dg.cells)) => oper_call (f := 56) (cap := #[]) (ds := [a, b]) (V := a.V) (σ := andSem) cf_And (and_sem w1) ⟨a, rfl, rfl⟩ (by simp) (by simp; exact ⟨ha, hb⟩) hk hr
  have ha1 := ha.1
  have hb1 := hb.1
  obtain ⟨V1, R1, r1, s1⟩ := a
  obtain ⟨V2, R2, r2, s2⟩ := b
  simp only at ha1 hb1
  obtain ⟨_, A1, c1, rfl, _, _⟩ := ha1
  obtain ⟨_, A2, c2, rfl, _, _⟩ := hb1
  show Calls Tryd.prog 31 #[.agg #[.int .i64 V1, .slice A1 R1.length c1, .int .i64 r1], .agg #[.int .i64 V2, .slice A2 R2.length c2, .int .i64 r2]] w _
  have hpost : ∀ e w1 w', OpPost w1 V1 [⟨V1, R1, r1, .slice A1 R1.length c1⟩, ⟨V2, R2, r2, .slice A2 R2.length c2⟩] andSem e w' → ∀ w2, Keep NoF w w2 → w.heap.size ≤ w1.heap.size → (∀ k, w1.heap.size ≤ k → w2.heap[k]? = w'.heap[k]?) → OpPost w V1 [⟨V1, R1, r1, .slice A1 R1.length c1⟩, ⟨V2, R2, r2, .slice A2 R2.length c2⟩] andSem e w2 := fun e w1 w' h w2 hk h0 h1 => h.move hk h0 h1
  clear ha hb
  generalize OpPost w V1 [⟨V1, R1, r1, .slice A1 R1.length c1⟩, ⟨V2, R2, r2, .slice A2 R2.length c2⟩] andSem = PP at *
  have hbk := Bk.new ((w.alloc (.cells #[.int .i64 V1, .slice A1 R1.length c1, .int .i64 r1] 26)).alloc (.cells #[.int .i64 V2, .slice A2 R2.length c2, .int .i64 r2] 26)) 26 #[.int .i64 0, .slice none 0 0, .int .i64 0]
  have hsz : ((w.alloc (.cells #[.int .i64 V1, .slice A1 R1.length c1, .int .i64 r1] 26)).alloc (.cells #[.int .i64 V2, .slice A2 R2.length c2, .int .i64 r2] 26)).heap.size = w.heap.size + 1 + 1 := by simp
  have hsz2 : (((w.alloc (.cells #[.int .i64 V1, .slice A1 R1.length c1, .int .i64 r1] 26)).alloc (.cells #[.int .i64 V2, .slice A2 R2.length c2, .int .i64 r2] 26)).alloc (.cells #[.int .i64 0, .slice none 0 0, .int .i64 0] 26)).heap.size = w.heap.size + 1 + 1 + 1 := by simp
  rw [hsz] at hbk
  have hb2 := hbk.alloc (.cells #[.int .i64 V1, .slice A1 R1.length c1, .int .i64 r1, .int .i64 V2, .slice A2 R2.length c2, .int .i64 r2] 26)
  have hrd := rd_new (w := (((w.alloc (.cells #[.int .i64 V1, .slice A1 R1.length c1, .int .i64 r1] 26)).alloc (.cells #[.int .i64 V2, .slice A2 R2.length c2, .int .i64 r2] 26)).alloc (.cells #[.int .i64 0, .slice none 0 0, .int .i64 0] 26))) 26 #[.int .i64 V1, .slice A1 R1.length c1, .int .i64 r1, .int .i64 V2, .slice A2 R2.length c2, .int .i64 r2] 3 2 2 (blk := w.heap.size + 1 + 1 + 1) (by simp) rfl (by omega)
  have hkk : Keep NoF w ((((w.alloc (.cells #[.int .i64 V1, .slice A1 R1.length c1, .int .i64 r1] 26)).alloc (.cells #[.int .i64 V2, .slice A2 R2.length c2, .int .i64 r2] 26)).alloc (.cells #[.int .i64 0, .slice none 0 0, .int .i64 0] 26)).alloc (.cells #[.int .i64 V1, .slice A1 R1.length c1, .int .i64 r1, .int .i64 V2, .slice A2 R2.length c2, .int .i64 r2] 26)) := (((((Keep.refl NoF w).alloc _).alloc _).alloc _).alloc _)
  have HC := Lib.hid (HO.out _ _ hkk hrd)
  have hsz3 : w.heap.size + 3 ≤ ((((w.alloc (.cells #[.int .i64 V1, .slice A1 R1.length c1, .int .i64 r1] 26)).alloc (.cells #[.int .i64 V2, .slice A2 R2.length c2, .int .i64 r2] 26)).alloc (.cells #[.int .i64 0, .slice none 0 0, .int .i64 0] 26)).alloc (.cells #[.int .i64 V1, .slice A1 R1.length c1, .int .i64 r1, .int .i64 V2, .slice A2 R2.length c2, .int .i64 r2] 26)).heap.size := by simp; try omega
  clear HO

  go_enter Tryd.func31, Tryd.ntmps31
  go_wp2_with (go_at_call 52
               (with_reducible refine HC.out.mono ?_)
               rintro e w2 ⟨V', r', err, A', n', cc', rfl, hout⟩
               have hk2 := hout.2.2
               have hb4 := hb2.keep hk2 (fun h => h)
               have y0 : w2.cell? ⟨w.heap.size + 1 + 1, 0, none⟩ = some (.int .i64 0) := hb4.cell 0
               have y1 : w2.cell? ⟨w.heap.size + 1 + 1, 1, none⟩ = some (.slice none 0 0) := hb4.cell 1
               have y2 : w2.cell? ⟨w.heap.size + 1 + 1, 2, none⟩ = some (.int .i64 0) := hb4.cell 2
               have f0 := hb4.frozen 0
               have f1 := hb4.frozen 1
               have f2 := hb4.frozen 2)
  have hkf : Keep NoF w (((w2.setCell ⟨w.heap.size + 1 + 1, 0, none⟩ (.int .i64 V')).setCell ⟨w.heap.size + 1 + 1, 1, none⟩ (.slice A' n' cc')).setCell ⟨w.heap.size + 1 + 1, 2, none⟩ (.int .i64 r')) := (((hkk.trans hk2 fun _ _ h => h).setCell (.inr (by simp; try omega)) _).setCell (.inr (by simp; try omega)) _).setCell (.inr (by simp; try omega)) _
  have hx := ((hb4.put 0 (.int .i64 V')).put 1 (.slice A' n' cc')).put 2 (.int .i64 r')
  have hset : ∀ k, k ≠ w.heap.size + 1 + 1 → (((w2.setCell ⟨w.heap.size + 1 + 1, 0, none⟩ (.int .i64 V')).setCell ⟨w.heap.size + 1 + 1, 1, none⟩ (.slice A' n' cc')).setCell ⟨w.heap.size + 1 + 1, 2, none⟩ (.int .i64 r')).heap[k]? = w2.heap[k]? := fun k hne => ((Below.heap_setCell _ _ _ k hne).trans (Below.heap_setCell _ _ _ k hne)).trans (Below.heap_setCell _ _ _ k hne)
  generalize ((w2.setCell ⟨w.heap.size + 1 + 1, 0, none⟩ (.int .i64 V')).setCell ⟨w.heap.size + 1 + 1, 1, none⟩ (.slice A' n' cc')).setCell ⟨w.heap.size + 1 + 1, 2, none⟩ (.int .i64 r') = W6 at *
  have hx0 : W6.cell? ⟨w.heap.size + 1 + 1, 0, none⟩ = some (.int .i64 V') := hx.cell 0
  have hx1 : W6.cell? ⟨w.heap.size + 1 + 1, 1, none⟩ = some (.slice A' n' cc') := hx.cell 1
  have hx2 : W6.cell? ⟨w.heap.size + 1 + 1, 2, none⟩ = some (.int .i64 r') := hx.cell 2
  refine bodyPost_ret (v := .tuple #[.agg #[.int .i64 V', .slice A' n' cc', .int .i64 r'], .int .i64 err]) (by simp [results, Tryd.results31, go_sem, hx0, hx1, hx2]) rfl ?_
  exact hpost _ _ _ hout W6 hkf (by omega) fun k hk => hset k (by omega)

theorem cf_Or : ∀ (args : Array Value) w', (callFunc 57 args).run Tryd.prog w' = .ok (.enter 57 args) w' := by intro args w'; kernel_rfl
set_option maxRecDepth 100000 in
theorem or_any (a : Dg) (b : Dg) (w : World) (ha : a.In w) (hb : b.In w) : Calls Tryd.prog 32 #[a.val, b.val] w (OpPost w a.V [a, b] orSem) := by
  have HO := Lib.hid fun (w1 : World) (lv : Value) (hk : Keep NoF w w1) (hr : Rd w1 lv 3 [a, b].length ([a, b].flatMap Dg.cells)) => oper_call (f := 57) (cap := #[]) (ds := [a, b]) (V := a.V) (σ := orSem) cf_Or (or_sem w1) ⟨a, rfl, rfl⟩ (by simp) (by simp; exact ⟨ha, hb⟩) hk hr
  have ha1 := ha.1
  have hb1 := hb.1
  obtain ⟨V1, R1, r1, s1⟩ := a
  obtain ⟨V2, R2, r2, s2⟩ := b
  simp only at ha1 hb1
  obtain ⟨_, A1, c1, rfl, _, _⟩ := ha1
  obtain ⟨_, A2, c2, rfl, _, _⟩ := hb1
  show Calls Tryd.prog 32 #[.agg #[.int .i64 V1, .slice A1 R1.length c1, .int .i64 r1], .agg #[.int .i64 V2, .slice A2 R2.length c2, .int .i64 r2]] w _
  have hpost : ∀ e w1 w', OpPost w1 V1 [⟨V1, R1, r1, .slice A1 R1.length c1⟩, ⟨V2, R2, r2, .slice A2 R2.length c2⟩] orSem e w' → ∀ w2, Keep NoF w w2 → w.heap.size ≤ w1.heap.size → (∀ k, w1.heap.size ≤ k → w2.heap[k]? = w'.heap[k]?) → OpPost w V1 [⟨V1, R1, r1, .slice A1 R1.length c1⟩, ⟨V2, R2, r2, .slice A2 R2.length c2⟩] orSem e w2 := fun e w1 w' h w2 hk h0 h1 => h.move hk h0 h1
  clear ha hb
  generalize OpPost w V1 [⟨V1, R1, r1, .slice A1 R1.length c1⟩, ⟨V2, R2, r2, .slice A2 R2.length c2⟩] orSem = PP at *
  have hbk := Bk.new ((w.alloc (.cells #[.int .i64 V1, .slice A1 R1.length c1, .int .i64 r1] 26)).alloc (.cells #[.int .i64 V2, .slice A2 R2.length c2, .int .i64 r2] 26)) 26 #[.int .i64 0, .slice none 0 0, .int .i64 0]
  have hsz : ((w.alloc (.cells #[.int .i64 V1, .slice A1 R1.length c1, .int .i64 r1] 26)).alloc (.cells #[.int .i64 V2, .slice A2 R2.length c2, .int .i64 r2] 26)).heap.size = w.heap.size + 1 + 1 := by simp
  have hsz2 : (((w.alloc (.cells #[.int .i64 V1, .slice A1 R1.length c1, .int .i64 r1] 26)).alloc (.cells #[.int .i64 V2, .slice A2 R2.length c2, .int .i64 r2] 26)).alloc (.cells #[.int .i64 0, .slice none 0 0, .int .i64 0] 26)).heap.size = w.heap.size + 1 + 1 + 1 := by simp
  rw [hsz] at hbk
  have hb2 := hbk.alloc (.cells #[.int .i64 V1, .slice A1 R1.length c1, .int .i64 r1, .int .i64 V2, .slice A2 R2.length c2, .int .i64 r2] 26)
  have hrd := rd_new (w := (((w.alloc (.cells #[.int .i64 V1, .slice A1 R1.length c1, .int .i64 r1] 26)).alloc (.cells #[.int .i64 V2, .slice A2 R2.length c2, .int .i64 r2] 26)).alloc (.cells #[.int .i64 0, .slice none 0 0, .int .i64 0] 26))) 26 #[.int .i64 V1, .slice A1 R1.length c1, .int .i64 r1, .int .i64 V2, .slice A2 R2.length c2, .int .i64 r2] 3 2 2 (blk := w.heap.size + 1 + 1 + 1) (by simp) rfl (by omega)
  have hkk : Keep NoF w ((((w.alloc (.cells #[.int .i64 V1, .slice A1 R1.length c1, .int .i64 r1] 26)).alloc (.cells #[.int .i64 V2, .slice A2 R2.length c2, .int .i64 r2] 26)).alloc (.cells #[.int .i64 0, .slice none 0 0, .int .i64 0] 26)).alloc (.cells #[.int .i64 V1, .slice A1 R1.length c1, .int .i64 r1, .int .i64 V2, .slice A2 R2.length c2, .int .i64 r2] 26)) := (((((Keep.refl NoF w).alloc _).alloc _).alloc _).alloc _)
  have HC := Lib.hid (HO.out _ _ hkk hrd)
  have hsz3 : w.heap.size + 3 ≤ ((((w.alloc (.cells #[.int .i64 V1, .slice A1 R1.length c1, .int .i64 r1] 26)).alloc (.cells #[.int .i64 V2, .slice A2 R2.length c2, .int .i64 r2] 26)).alloc (.cells #[.int .i64 0, .slice none 0 0, .int .i64 0] 26)).alloc (.cells #[.int .i64 V1, .slice A1 R1.length c1, .int .i64 r1, .int .i64 V2, .slice A2 R2.length c2, .int .i64 r2] 26)).heap.size := by simp; try omega
  clear HO

  go_enter Tryd.func32, Tryd.ntmps32
  go_wp2_with (go_at_call 52
               (with_reducible refine HC.out.mono ?_)
               rintro e w2 ⟨V', r', err, A', n', cc', rfl, hout⟩
               have hk2 := hout.2.2
               have hb4 := hb2.keep hk2 (fun h => h)
               have y0 : w2.cell? ⟨w.heap.size + 1 + 1, 0, none⟩ = some (.int .i64 0) := hb4.cell 0
               have y1 : w2.cell? ⟨w.heap.size + 1 + 1, 1, none⟩ = some (.slice none 0 0) := hb4.cell 1
               have y2 : w2.cell? ⟨w.heap.size + 1 + 1, 2, none⟩ = some (.int .i64 0) := hb4.cell 2
               have f0 := hb4.frozen 0
               have f1 := hb4.frozen 1
               have f2 := hb4.frozen 2)
  have hkf : Keep NoF w (((w2.setCell ⟨w.heap.size + 1 + 1, 0, none⟩ (.int .i64 V')).setCell ⟨w.heap.size + 1 + 1, 1, none⟩ (.slice A' n' cc')).setCell ⟨w.heap.size + 1 + 1, 2, none⟩ (.int .i64 r')) := (((hkk.trans hk2 fun _ _ h => h).setCell (.inr (by simp; try omega)) _).setCell (.inr (by simp; try omega)) _).setCell (.inr (by simp; try omega)) _
  have hx := ((hb4.put 0 (.int .i64 V')).put 1 (.slice A' n' cc')).put 2 (.int .i64 r')
  have hset : ∀ k, k ≠ w.heap.size + 1 + 1 → (((w2.setCell ⟨w.heap.size + 1 + 1, 0, none⟩ (.int .i64 V')).setCell ⟨w.heap.size + 1 + 1, 1, none⟩ (.slice A' n' cc')).setCell ⟨w.heap.size + 1 + 1, 2, none⟩ (.int .i64 r')).heap[k]? = w2.heap[k]? := fun k hne => ((Below.heap_setCell _ _ _ k hne).trans (Below.heap_setCell _ _ _ k hne)).trans (Below.heap_setCell _ _ _ k hne)
  generalize ((w2.setCell ⟨w.heap.size + 1 + 1, 0, none⟩ (.int .i64 V')).setCell ⟨w.heap.size + 1 + 1, 1, none⟩ (.slice A' n' cc')).setCell ⟨w.heap.size + 1 + 1, 2, none⟩ (.int .i64 r') = W6 at *
  have hx0 : W6.cell? ⟨w.heap.size + 1 + 1, 0, none⟩ = some (.int .i64 V') := hx.cell 0
  have hx1 : W6.cell? ⟨w.heap.size + 1 + 1, 1, none⟩ = some (.slice A' n' cc') := hx.cell 1
  have hx2 : W6.cell? ⟨w.heap.size + 1 + 1, 2, none⟩ = some (.int .i64 r') := hx.cell 2
  refine bodyPost_ret (v := .tuple #[.agg #[.int .i64 V', .slice A' n' cc', .int .i64 r'], .int .i64 err]) (by simp [results, Tryd.results32, go_sem, hx0, hx1, hx2]) rfl ?_
  exact hpost _ _ _ hout W6 hkf (by omega) fun k hk => hset k (by omega)

theorem cf_Ite : ∀ (args : Array Value) w', (callFunc 81 args).run Tryd.prog w' = .ok (.enter 81 args) w' := by intro args w'; kernel_rfl
set_option maxRecDepth 100000 in
theorem iteD_any (a : Dg) (b : Dg) (c : Dg) (w : World) (ha : a.In w) (hb : b.In w) (hc : c.In w) : Calls Tryd.prog 64 #[a.val, b.val, c.val] w (OpPost w a.V [a, b, c] ite3Sem) := by
  have HO := Lib.hid fun (w1 : World) (lv : Value) (hk : Keep NoF w w1) (hr : Rd w1 lv 3 [a, b, c].length ([a, b, c].flatMap Dg.cells)) => oper_call (f := 81) (cap := #[]) (ds := [a, b, c]) (V := a.V) (σ := ite3Sem) cf_Ite (ite3_sem w1) ⟨a, rfl, rfl⟩ (by simp) (by simp; exact ⟨ha, hb, hc⟩) hk hr
  have ha1 := ha.1
  have hb1 := hb.1
  have hc1 := hc.1
  obtain ⟨V1, R1, r1, s1⟩ := a
  obtain ⟨V2, R2, r2, s2⟩ := b
  obtain ⟨V3, R3, r3, s3⟩ := c
  simp only at ha1 hb1 hc1
  obtain ⟨_, A1, c1, rfl, _, _⟩ := ha1
  obtain ⟨_, A2, c2, rfl, _, _⟩ := hb1
  obtain ⟨_, A3, c3, rfl, _, _⟩ := hc1
  show Calls Tryd.prog 64 #[.agg #[.int .i64 V1, .slice A1 R1.length c1, .int .i64 r1], .agg #[.int .i64 V2, .slice A2 R2.length c2, .int .i64 r2], .agg #[.int .i64 V3, .slice A3 R3.length c3, .int .i64 r3]] w _
  have hpost : ∀ e w1 w', OpPost w1 V1 [⟨V1, R1, r1, .slice A1 R1.length c1⟩, ⟨V2, R2, r2, .slice A2 R2.length c2⟩, ⟨V3, R3, r3, .slice A3 R3.length c3⟩] ite3Sem e w' → ∀ w2, Keep NoF w w2 → w.heap.size ≤ w1.heap.size → (∀ k, w1.heap.size ≤ k → w2.heap[k]? = w'.heap[k]?) → OpPost w V1 [⟨V1, R1, r1, .slice A1 R1.length c1⟩, ⟨V2, R2, r2, .slice A2 R2.length c2⟩, ⟨V3, R3, r3, .slice A3 R3.length c3⟩] ite3Sem e w2 := fun e w1 w' h w2 hk h0 h1 => h.move hk h0 h1
  clear ha hb hc
  generalize OpPost w V1 [⟨V1, R1, r1, .slice A1 R1.length c1⟩, ⟨V2, R2, r2, .slice A2 R2.length c2⟩, ⟨V3, R3, r3, .slice A3 R3.length c3⟩] ite3Sem = PP at *
  have hbk := Bk.new (((w.alloc (.cells #[.int .i64 V1, .slice A1 R1.length c1, .int .i64 r1] 26)).alloc (.cells #[.int .i64 V2, .slice A2 R2.length c2, .int .i64 r2] 26)).alloc (.cells #[.int .i64 V3, .slice A3 R3.length c3, .int .i64 r3] 26)) 26 #[.int .i64 0, .slice none 0 0, .int .i64 0]
  have hsz : (((w.alloc (.cells #[.int .i64 V1, .slice A1 R1.length c1, .int .i64 r1] 26)).alloc (.cells #[.int .i64 V2, .slice A2 R2.length c2, .int .i64 r2] 26)).alloc (.cells #[.int .i64 V3, .slice A3 R3.length c3, .int .i64 r3] 26)).heap.size = w.heap.size + 1 + 1 + 1 := by simp
  have hsz2 : ((((w.alloc (.cells #[.int .i64 V1, .slice A1 R1.length c1, .int .i64 r1] 26)).alloc (.cells #[.int .i64 V2, .slice A2 R2.length c2, .int .i64 r2] 26)).alloc (.cells #[.int .i64 V3, .slice A3 R3.length c3, .int .i64 r3] 26)).alloc (.cells #[.int .i64 0, .slice none 0 0, .int .i64 0] 26)).heap.size = w.heap.size + 1 + 1 + 1 + 1 := by simp
  rw [hsz] at hbk
  have hb2 := hbk.alloc (.cells #[.int .i64 V1, .slice A1 R1.length c1, .int .i64 r1, .int .i64 V2, .slice A2 R2.length c2, .int .i64 r2, .int .i64 V3, .slice A3 R3.length c3, .int .i64 r3] 26)
  have hrd := rd_new (w := ((((w.alloc (.cells #[.int .i64 V1, .slice A1 R1.length c1, .int .i64 r1] 26)).alloc (.cells #[.int .i64 V2, .slice A2 R2.length c2, .int .i64 r2] 26)).alloc (.cells #[.int .i64 V3, .slice A3 R3.length c3, .int .i64 r3] 26)).alloc (.cells #[.int .i64 0, .slice none 0 0, .int .i64 0] 26))) 26 #[.int .i64 V1, .slice A1 R1.length c1, .int .i64 r1, .int .i64 V2, .slice A2 R2.length c2, .int .i64 r2, .int .i64 V3, .slice A3 R3.length c3, .int .i64 r3] 3 3 3 (blk := w.heap.size + 1 + 1 + 1 + 1) (by simp) rfl (by omega)
  have hkk : Keep NoF w (((((w.alloc (.cells #[.int .i64 V1, .slice A1 R1.length c1, .int .i64 r1] 26)).alloc (.cells #[.int .i64 V2, .slice A2 R2.length c2, .int .i64 r2] 26)).alloc (.cells #[.int .i64 V3, .slice A3 R3.length c3, .int .i64 r3] 26)).alloc (.cells #[.int .i64 0, .slice none 0 0, .int .i64 0] 26)).alloc (.cells #[.int .i64 V1, .slice A1 R1.length c1, .int .i64 r1, .int .i64 V2, .slice A2 R2.length c2, .int .i64 r2, .int .i64 V3, .slice A3 R3.length c3, .int .i64 r3] 26)) := ((((((Keep.refl NoF w).alloc _).alloc _).alloc _).alloc _).alloc _)
  have HC := Lib.hid (HO.out _ _ hkk hrd)
  have hsz3 : w.heap.size + 4 ≤ (((((w.alloc (.cells #[.int .i64 V1, .slice A1 R1.length c1, .int .i64 r1] 26)).alloc (.cells #[.int .i64 V2, .slice A2 R2.length c2, .int .i64 r2] 26)).alloc (.cells #[.int .i64 V3, .slice A3 R3.length c3, .int .i64 r3] 26)).alloc (.cells #[.int .i64 0, .slice none 0 0, .int .i64 0] 26)).alloc (.cells #[.int .i64 V1, .slice A1 R1.length c1, .int .i64 r1, .int .i64 V2, .slice A2 R2.length c2, .int .i64 r2, .int .i64 V3, .slice A3 R3.length c3, .int .i64 r3] 26)).heap.size := by simp; try omega
  clear HO

  go_enter Tryd.func64, Tryd.ntmps64
  go_wp2_with (go_at_call 52
               (with_reducible refine HC.out.mono ?_)
               rintro e w2 ⟨V', r', err, A', n', cc', rfl, hout⟩
               have hk2 := hout.2.2
               have hb4 := hb2.keep hk2 (fun h => h)
               have y0 : w2.cell? ⟨w.heap.size + 1 + 1 + 1, 0, none⟩ = some (.int .i64 0) := hb4.cell 0
               have y1 : w2.cell? ⟨w.heap.size + 1 + 1 + 1, 1, none⟩ = some (.slice none 0 0) := hb4.cell 1
               have y2 : w2.cell? ⟨w.heap.size + 1 + 1 + 1, 2, none⟩ = some (.int .i64 0) := hb4.cell 2
               have f0 := hb4.frozen 0
               have f1 := hb4.frozen 1
               have f2 := hb4.frozen 2)
  have hkf : Keep NoF w (((w2.setCell ⟨w.heap.size + 1 + 1 + 1, 0, none⟩ (.int .i64 V')).setCell ⟨w.heap.size + 1 + 1 + 1, 1, none⟩ (.slice A' n' cc')).setCell ⟨w.heap.size + 1 + 1 + 1, 2, none⟩ (.int .i64 r')) := (((hkk.trans hk2 fun _ _ h => h).setCell (.inr (by simp; try omega)) _).setCell (.inr (by simp; try omega)) _).setCell (.inr (by simp; try omega)) _
  have hx := ((hb4.put 0 (.int .i64 V')).put 1 (.slice A' n' cc')).put 2 (.int .i64 r')
  have hset : ∀ k, k ≠ w.heap.size + 1 + 1 + 1 → (((w2.setCell ⟨w.heap.size + 1 + 1 + 1, 0, none⟩ (.int .i64 V')).setCell ⟨w.heap.size + 1 + 1 + 1, 1, none⟩ (.slice A' n' cc')).setCell ⟨w.heap.size + 1 + 1 + 1, 2, none⟩ (.int .i64 r')).heap[k]? = w2.heap[k]? := fun k hne => ((Below.heap_setCell _ _ _ k hne).trans (Below.heap_setCell _ _ _ k hne)).trans (Below.heap_setCell _ _ _ k hne)
  generalize ((w2.setCell ⟨w.heap.size + 1 + 1 + 1, 0, none⟩ (.int .i64 V')).setCell ⟨w.heap.size + 1 + 1 + 1, 1, none⟩ (.slice A' n' cc')).setCell ⟨w.heap.size + 1 + 1 + 1, 2, none⟩ (.int .i64 r') = W6 at *
  have hx0 : W6.cell? ⟨w.heap.size + 1 + 1 + 1, 0, none⟩ = some (.int .i64 V') := hx.cell 0
  have hx1 : W6.cell? ⟨w.heap.size + 1 + 1 + 1, 1, none⟩ = some (.slice A' n' cc') := hx.cell 1
  have hx2 : W6.cell? ⟨w.heap.size + 1 + 1 + 1, 2, none⟩ = some (.int .i64 r') := hx.cell 2
  refine bodyPost_ret (v := .tuple #[.agg #[.int .i64 V', .slice A' n' cc', .int .i64 r'], .int .i64 err]) (by simp [results, Tryd.results64, go_sem, hx0, hx1, hx2]) rfl ?_
  exact hpost _ _ _ hout W6 hkf (by omega) fun k hk => hset k (by omega)

end Go.Proofs.YtgdmcidcappkpaaDoor
