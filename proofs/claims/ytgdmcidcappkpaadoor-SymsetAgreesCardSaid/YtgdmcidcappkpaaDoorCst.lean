/- What Const and Var do. What the reference's Const and Var do. No condition. -/
import Derived.Test.YtgdmcidcappkpaaDoorBase
import Derived.Test.YtgdmcidcappkpaaDoorWrap
set_option linter.unusedVariables false
set_option linter.unusedSimpArgs false
namespace Go.Proofs.YtgdmcidcappkpaaDoor
open Go.RowKit

set_option maxRecDepth 100000 in
theorem Const_any (V : Int) (t : Bool) (w : World) : Calls Tryd.prog 28 #[.int .i64 V, .bool t] w fun e w' =>
    (e = if V < 0 ∨ 24 < V then .returned (.tuple #[dgZero, .int .i64 2]) else .returned (.tuple #[.agg #[.int .i64 V, .slice none 0 0, .int .i64 (if t then 1 else 0)], .int .i64 0])) ∧ Keep NoF w w' := by
  by_cases h1 : V < 0
  · have HE : Hid ((if V < 0 ∨ 24 < V then Ending.returned (.tuple #[dgZero, .int .i64 2]) else .returned (.tuple #[.agg #[.int .i64 V, .slice none 0 0, .int .i64 (if t then 1 else 0)], .int .i64 0])) = .returned (.tuple #[dgZero, .int .i64 2])) := Lib.hid (if_pos (.inl h1))
    rw [HE.out]
    go_enter Tryd.func28, Tryd.ntmps28
    go_wp2
    refine bodyPost_ret (v := .tuple #[dgZero, .int .i64 2]) (by simp [results, Tryd.results28, go_sem, dgZero]) rfl ⟨rfl, ?_⟩
    exact (Keep.refl _ _).alloc _
  · by_cases h2 : 24 < V
    · have HE : Hid ((if V < 0 ∨ 24 < V then Ending.returned (.tuple #[dgZero, .int .i64 2]) else .returned (.tuple #[.agg #[.int .i64 V, .slice none 0 0, .int .i64 (if t then 1 else 0)], .int .i64 0])) = .returned (.tuple #[dgZero, .int .i64 2])) := Lib.hid (if_pos (.inr h2))
      rw [HE.out]
      go_enter Tryd.func28, Tryd.ntmps28
      go_wp2
      refine bodyPost_ret (v := .tuple #[dgZero, .int .i64 2]) (by simp [results, Tryd.results28, go_sem, dgZero]) rfl ⟨rfl, ?_⟩
      exact (Keep.refl _ _).alloc _
    · have HE : Hid (∀ t : Bool, (if V < 0 ∨ 24 < V then Ending.returned (.tuple #[dgZero, .int .i64 2]) else .returned (.tuple #[.agg #[.int .i64 V, .slice none 0 0, .int .i64 (if t then 1 else 0)], .int .i64 0])) = .returned (.tuple #[.agg #[.int .i64 V, .slice none 0 0, .int .i64 (if t then 1 else 0)], .int .i64 0])) := Lib.hid fun t => if_neg (by omega)
      rw [HE.out]
      cases t
      · go_enter Tryd.func28, Tryd.ntmps28
        go_wp2
        have hb := (Bk.new w 26 #[.int .i64 V, .slice none 0 0, .int .i64 0]).alloc (.cells #[.int .i64 V, .slice none 0 0, .int .i64 0] 26)
        have x0 := hb.cell 0
        have x1 := hb.cell 1
        have x2 := hb.cell 2
        simp only [List.getElem?_toArray, List.getElem?_cons_zero, List.getElem?_cons_succ] at x0 x1 x2
        refine bodyPost_ret (v := .tuple #[.agg #[.int .i64 V, .slice none 0 0, .int .i64 0], .int .i64 0]) (by simp [results, Tryd.results28, go_sem, x0, x1, x2]) rfl ⟨rfl, ?_⟩
        exact ((Keep.refl _ _).alloc _).alloc _
      · go_enter Tryd.func28, Tryd.ntmps28
        go_wp2
        have hb := (Bk.new w 26 #[.int .i64 V, .slice none 0 0, .int .i64 1]).alloc (.cells #[.int .i64 V, .slice none 0 0, .int .i64 1] 26)
        have x0 := hb.cell 0
        have x1 := hb.cell 1
        have x2 := hb.cell 2
        simp only [List.getElem?_toArray, List.getElem?_cons_zero, List.getElem?_cons_succ] at x0 x1 x2
        refine bodyPost_ret (v := .tuple #[.agg #[.int .i64 V, .slice none 0 0, .int .i64 1], .int .i64 0]) (by simp [results, Tryd.results28, go_sem, x0, x1, x2]) rfl ⟨rfl, ?_⟩
        exact ((Keep.refl _ _).alloc _).alloc _

def varErr (V i : Int) : Int := if V < 0 ∨ 24 < V ∨ i < 0 ∨ V ≤ i then (2 : Int) else 0
set_option maxRecDepth 100000 in
theorem Var_any (V i : Int) (w : World) : Calls Tryd.prog 40 #[.int .i64 V, .int .i64 i] w fun e w' =>
    (varErr V i ≠ 0 → e = .returned (.tuple #[dgZero, .int .i64 2])) ∧
    (varErr V i = 0 → ∃ sl, e = .returned (.tuple #[.agg #[.int .i64 V, sl, .int .i64 2], .int .i64 0]) ∧ Rd w' sl 3 1 [.int .i64 i, .int .i64 0, .int .i64 1] ∧ ∀ k, sl.ownBlock = some k → w.heap.size ≤ k) ∧ Keep NoF w w' := by
  unfold varErr
  by_cases h1 : V < 0
  · have HE : Hid ((if V < 0 ∨ 24 < V ∨ i < 0 ∨ V ≤ i then (2 : Int) else 0) = 2) := Lib.hid (if_pos (by omega))
    rw [HE.out]
    refine Calls.mono (R := fun e w' => e = .returned (.tuple #[dgZero, .int .i64 2]) ∧ Keep NoF w w') ?_ fun e w' h => ⟨fun _ => h.1, fun h => absurd h (by omega), h.2⟩
    clear HE
    go_enter Tryd.func40, Tryd.ntmps40
    go_wp2
    refine bodyPost_ret (v := .tuple #[dgZero, .int .i64 2]) (by simp [results, Tryd.results40, go_sem, dgZero]) rfl ⟨rfl, ?_⟩
    exact (Keep.refl _ _).alloc _
  by_cases h2 : 24 < V
  · have HE : Hid ((if V < 0 ∨ 24 < V ∨ i < 0 ∨ V ≤ i then (2 : Int) else 0) = 2) := Lib.hid (if_pos (by omega))
    rw [HE.out]
    refine Calls.mono (R := fun e w' => e = .returned (.tuple #[dgZero, .int .i64 2]) ∧ Keep NoF w w') ?_ fun e w' h => ⟨fun _ => h.1, fun h => absurd h (by omega), h.2⟩
    clear HE
    go_enter Tryd.func40, Tryd.ntmps40
    go_wp2
    refine bodyPost_ret (v := .tuple #[dgZero, .int .i64 2]) (by simp [results, Tryd.results40, go_sem, dgZero]) rfl ⟨rfl, ?_⟩
    exact (Keep.refl _ _).alloc _
  by_cases h3 : i < 0
  · have HE : Hid ((if V < 0 ∨ 24 < V ∨ i < 0 ∨ V ≤ i then (2 : Int) else 0) = 2) := Lib.hid (if_pos (by omega))
    rw [HE.out]
    refine Calls.mono (R := fun e w' => e = .returned (.tuple #[dgZero, .int .i64 2]) ∧ Keep NoF w w') ?_ fun e w' h => ⟨fun _ => h.1, fun h => absurd h (by omega), h.2⟩
    clear HE
    go_enter Tryd.func40, Tryd.ntmps40
    go_wp2
    refine bodyPost_ret (v := .tuple #[dgZero, .int .i64 2]) (by simp [results, Tryd.results40, go_sem, dgZero]) rfl ⟨rfl, ?_⟩
    exact (Keep.refl _ _).alloc _
  by_cases h4 : V ≤ i
  · have HE : Hid ((if V < 0 ∨ 24 < V ∨ i < 0 ∨ V ≤ i then (2 : Int) else 0) = 2) := Lib.hid (if_pos (by omega))
    rw [HE.out]
    refine Calls.mono (R := fun e w' => e = .returned (.tuple #[dgZero, .int .i64 2]) ∧ Keep NoF w w') ?_ fun e w' h => ⟨fun _ => h.1, fun h => absurd h (by omega), h.2⟩
    clear HE
    go_enter Tryd.func40, Tryd.ntmps40
    go_wp2
    refine bodyPost_ret (v := .tuple #[dgZero, .int .i64 2]) (by simp [results, Tryd.results40, go_sem, dgZero]) rfl ⟨rfl, ?_⟩
    exact (Keep.refl _ _).alloc _
  have HE : Hid ((if V < 0 ∨ 24 < V ∨ i < 0 ∨ V ≤ i then (2 : Int) else 0) = 0) := Lib.hid (if_neg (by omega))
  rw [HE.out]
  refine Calls.mono (R := fun e w' => (∃ sl, e = .returned (.tuple #[.agg #[.int .i64 V, sl, .int .i64 2], .int .i64 0]) ∧ Rd w' sl 3 1 [.int .i64 i, .int .i64 0, .int .i64 1] ∧ ∀ k, sl.ownBlock = some k → w.heap.size ≤ k) ∧ Keep NoF w w') ?_ fun e w' h => ⟨fun h => absurd rfl h, fun _ => h.1, h.2⟩
  clear HE
  go_enter Tryd.func40, Tryd.ntmps40
  go_wp2
  have hb := (Bk.new w 26 #[.int .i64 V, .slice (some ⟨w.heap.size + 1, 0, none⟩) 1 1, .int .i64 2]).alloc (.cells #[.int .i64 i, .int .i64 0, .int .i64 1] 74)
  have x0 := hb.cell 0
  have x1 := hb.cell 1
  have x2 := hb.cell 2
  simp only [List.getElem?_toArray, List.getElem?_cons_zero, List.getElem?_cons_succ] at x0 x1 x2
  refine bodyPost_ret (v := .tuple #[.agg #[.int .i64 V, .slice (some ⟨w.heap.size + 1, 0, none⟩) 1 1, .int .i64 2], .int .i64 0]) (by simp [results, Tryd.results40, go_sem, x0, x1, x2]) rfl ⟨⟨_, rfl, ?_, fun k hk => ?_⟩, ((Keep.refl _ _).alloc _).alloc _⟩
  · exact rd_new (w := w.alloc _) 74 #[.int .i64 i, .int .i64 0, .int .i64 1] 3 1 1 (by simp) rfl (by omega)
  · have : w.heap.size + 1 = k := by simpa [Value.ownBlock] using hk
    omega
end Go.Proofs.YtgdmcidcappkpaaDoor
namespace Go.Proofs.YtgdmcidcappkpaaDoor
open Go.RowKit

end Go.Proofs.YtgdmcidcappkpaaDoor
