/- The closures of the law BddAlgebra. No condition. -/
import Derived.Test.YtengdldkkmknpaaTab
set_option linter.unusedVariables false
set_option linter.unusedSimpArgs false
namespace Go.Proofs.Ytengdldkkmknpaa
open Go.RowKit

def D4 (w : World) (f : BF) (e : Ending) (w' : World) : Prop :=
  ∃ A n c, ∃ r : Nat, e = .returned (.tuple #[.agg #[.int .i64 4, .slice A n c, .int .i64 r], .int .i64 0]) ∧ IsD w' 4 f A n c r ∧ Keep NoF w w' ∧ ∀ k, (Value.slice A n c).ownBlock = some k → w.heap.size ≤ k
theorem DPost.d4 {w : World} {f : BF} {e : Ending} {w' : World} (h : DPost w 4 f e w') : D4 w f e w' := h
/-- One diagram alone. -/
def A4 (w : World) (f : BF) (e : Ending) (w' : World) : Prop :=
  ∃ A n c, ∃ r : Nat, e = .returned (.agg #[.int .i64 4, .slice A n c, .int .i64 r]) ∧ IsD w' 4 f A n c r ∧ Keep NoF w w'
def B4 (w : World) (f : BF) (e : Ending) (w' : World) : Prop :=
  ∃ A n c, ∃ r : Nat, e = .returned (.tuple #[.agg #[.int .i64 4, .slice A n c, .int .i64 r], .bool true]) ∧ IsD w' 4 f A n c r ∧ Keep NoF w w'
theorem BPost.b4 {w : World} {f : BF} {e : Ending} {w' : World} (h : BPost w 4 f e w') : B4 w f e w' := by
  obtain ⟨A, n, c, r, he, hd, hk, _⟩ := h
  exact ⟨A, n, c, r, he, hd, hk⟩
section
variable {W : World} {f g : BF} {A B : Option Addr} {n c r n' c' r' : Nat}
theorem a4_and (ha : IsD W 4 f A n c r) (hb : IsD W 4 g B n' c' r') : Calls Try.prog 23 #[.agg #[.int .i64 4, .slice A n c, .int .i64 r], .agg #[.int .i64 4, .slice B n' c', .int .i64 r']] W (D4 W fun ρ => f ρ && g ρ) := (d_and (by omega) ha hb).mono fun _ _ h => h.d4
theorem a4_or (ha : IsD W 4 f A n c r) (hb : IsD W 4 g B n' c' r') : Calls Try.prog 26 #[.agg #[.int .i64 4, .slice A n c, .int .i64 r], .agg #[.int .i64 4, .slice B n' c', .int .i64 r']] W (D4 W fun ρ => f ρ || g ρ) := (d_or (by omega) ha hb).mono fun _ _ h => h.d4
theorem a4_not (ha : IsD W 4 f A n c r) : Calls Try.prog 30 #[.agg #[.int .i64 4, .slice A n c, .int .i64 r]] W (D4 W fun ρ => !f ρ) := (d_not (by omega) ha).mono fun _ _ h => h.d4
theorem a4_same (ha : IsD W 4 f A n c r) (hb : IsD W 4 g B n' c' r') (h : ∀ ρ, f ρ = g ρ) : Calls Try.prog 25 #[.agg #[.int .i64 4, .slice A n c, .int .i64 r], .agg #[.int .i64 4, .slice B n' c', .int .i64 r']] W fun e w' => e = .returned (.bool true) ∧ Keep NoF W w' := d_same ha hb true (by simp [h])
end

set_option maxRecDepth 100000 in
set_option maxHeartbeats 1000000 in
theorem alg_and {W : World} {f g : BF} {A B : Option Addr} {n c r n' c' r' : Nat} (ha : IsD W 4 f A n c r) (hb : IsD W 4 g B n' c' r') : Calls Try.prog 40 #[.agg #[.int .i64 4, .slice A n c, .int .i64 r], .agg #[.int .i64 4, .slice B n' c', .int .i64 r']] W (A4 W fun ρ => f ρ && g ρ) := by
  have k0 : Keep NoF W (((W.alloc (.cells #[.int .i64 4, .slice A n c, .int .i64 r] 24)).alloc (.cells #[.int .i64 4, .slice B n' c', .int .i64 r'] 24)).alloc (.cells #[.int .i64 0, .slice none 0 0, .int .i64 0] 24)) := (((Keep.refl _ _).alloc _).alloc _).alloc _
  have H := Lib.hid (a4_and (ha.keep k0) (hb.keep k0))
  have hb0 : Bk (((W.alloc (.cells #[.int .i64 4, .slice A n c, .int .i64 r] 24)).alloc (.cells #[.int .i64 4, .slice B n' c', .int .i64 r'] 24)).alloc (.cells #[.int .i64 0, .slice none 0 0, .int .i64 0] 24)) (W.heap.size + 1 + 1) 24 #[.int .i64 0, .slice none 0 0, .int .i64 0] := Bk.new' _ _ _ (by simp)
  go_enter Try.func40, Try.ntmps40
  go_wp2_with (go_at_call 23
               (with_reducible refine H.out.mono ?_)
               rintro e w5 ⟨A', m, d, s, rfl, hd5, hk5, hf5⟩
               have hb5 := hb0.keep hk5 (fun h => h)
               have t0 : w5.cell? ⟨W.heap.size + 1 + 1, 0, none⟩ = some (.int .i64 0) := hb5.cell 0
               have t1 : w5.cell? ⟨W.heap.size + 1 + 1, 1, none⟩ = some (.slice none 0 0) := hb5.cell 1
               have t2 : w5.cell? ⟨W.heap.size + 1 + 1, 2, none⟩ = some (.int .i64 0) := hb5.cell 2
               have hl5 : W.heap.size + 1 + 1 < w5.heap.size := hb5.lt
               have f0 := hb5.frozen 0
               have f1 := hb5.frozen 1
               have f2 := hb5.frozen 2)
  have hkf : Keep NoF W ((((w5.setCell ⟨W.heap.size + 1 + 1, 0, none⟩ (.int .i64 4)).setCell ⟨W.heap.size + 1 + 1, 1, none⟩ (.slice A' m d)).setCell ⟨W.heap.size + 1 + 1, 2, none⟩ (.int .i64 s)).alloc (.cells #[.int .i64 4, .slice A' m d, .int .i64 s] 24)) := ((k0.trans hk5 fun _ _ h => h).set3 (by omega) _ _ _).alloc _
  have hx := (((hb5.put 0 (.int .i64 4)).put 1 (.slice A' m d)).put 2 (.int .i64 s)).alloc (.cells #[.int .i64 4, .slice A' m d, .int .i64 s] 24)
  have hd6 := (hd5.set3 (b := W.heap.size + 1 + 1) (fun k hk => by have := hf5 k hk; have := hb0.lt; omega) (.int .i64 4) (.slice A' m d) (.int .i64 s)).keep ((Keep.refl NoF _).alloc (.cells #[.int .i64 4, .slice A' m d, .int .i64 s] 24))
  generalize (((w5.setCell ⟨W.heap.size + 1 + 1, 0, none⟩ (.int .i64 4)).setCell ⟨W.heap.size + 1 + 1, 1, none⟩ (.slice A' m d)).setCell ⟨W.heap.size + 1 + 1, 2, none⟩ (.int .i64 s)).alloc (.cells #[.int .i64 4, .slice A' m d, .int .i64 s] 24) = W6 at *
  have hx0 : W6.cell? ⟨W.heap.size + 1 + 1, 0, none⟩ = some (.int .i64 4) := hx.cell 0
  have hx1 : W6.cell? ⟨W.heap.size + 1 + 1, 1, none⟩ = some (.slice A' m d) := hx.cell 1
  have hx2 : W6.cell? ⟨W.heap.size + 1 + 1, 2, none⟩ = some (.int .i64 s) := hx.cell 2
  refine bodyPost_ret (v := .agg #[.int .i64 4, .slice A' m d, .int .i64 s]) (by simp [results, Try.results40, go_sem, hx0, hx1, hx2]) rfl ?_
  exact ⟨A', m, d, s, rfl, hd6, hkf⟩

set_option maxRecDepth 100000 in
set_option maxHeartbeats 1000000 in
theorem alg_or {W : World} {f g : BF} {A B : Option Addr} {n c r n' c' r' : Nat} (ha : IsD W 4 f A n c r) (hb : IsD W 4 g B n' c' r') : Calls Try.prog 41 #[.agg #[.int .i64 4, .slice A n c, .int .i64 r], .agg #[.int .i64 4, .slice B n' c', .int .i64 r']] W (A4 W fun ρ => f ρ || g ρ) := by
  have k0 : Keep NoF W (((W.alloc (.cells #[.int .i64 4, .slice A n c, .int .i64 r] 24)).alloc (.cells #[.int .i64 4, .slice B n' c', .int .i64 r'] 24)).alloc (.cells #[.int .i64 0, .slice none 0 0, .int .i64 0] 24)) := (((Keep.refl _ _).alloc _).alloc _).alloc _
  have H := Lib.hid (a4_or (ha.keep k0) (hb.keep k0))
  have hb0 : Bk (((W.alloc (.cells #[.int .i64 4, .slice A n c, .int .i64 r] 24)).alloc (.cells #[.int .i64 4, .slice B n' c', .int .i64 r'] 24)).alloc (.cells #[.int .i64 0, .slice none 0 0, .int .i64 0] 24)) (W.heap.size + 1 + 1) 24 #[.int .i64 0, .slice none 0 0, .int .i64 0] := Bk.new' _ _ _ (by simp)
  go_enter Try.func41, Try.ntmps41
  go_wp2_with (go_at_call 26
               (with_reducible refine H.out.mono ?_)
               rintro e w5 ⟨A', m, d, s, rfl, hd5, hk5, hf5⟩
               have hb5 := hb0.keep hk5 (fun h => h)
               have t0 : w5.cell? ⟨W.heap.size + 1 + 1, 0, none⟩ = some (.int .i64 0) := hb5.cell 0
               have t1 : w5.cell? ⟨W.heap.size + 1 + 1, 1, none⟩ = some (.slice none 0 0) := hb5.cell 1
               have t2 : w5.cell? ⟨W.heap.size + 1 + 1, 2, none⟩ = some (.int .i64 0) := hb5.cell 2
               have hl5 : W.heap.size + 1 + 1 < w5.heap.size := hb5.lt
               have f0 := hb5.frozen 0
               have f1 := hb5.frozen 1
               have f2 := hb5.frozen 2)
  have hkf : Keep NoF W ((((w5.setCell ⟨W.heap.size + 1 + 1, 0, none⟩ (.int .i64 4)).setCell ⟨W.heap.size + 1 + 1, 1, none⟩ (.slice A' m d)).setCell ⟨W.heap.size + 1 + 1, 2, none⟩ (.int .i64 s)).alloc (.cells #[.int .i64 4, .slice A' m d, .int .i64 s] 24)) := ((k0.trans hk5 fun _ _ h => h).set3 (by omega) _ _ _).alloc _
  have hx := (((hb5.put 0 (.int .i64 4)).put 1 (.slice A' m d)).put 2 (.int .i64 s)).alloc (.cells #[.int .i64 4, .slice A' m d, .int .i64 s] 24)
  have hd6 := (hd5.set3 (b := W.heap.size + 1 + 1) (fun k hk => by have := hf5 k hk; have := hb0.lt; omega) (.int .i64 4) (.slice A' m d) (.int .i64 s)).keep ((Keep.refl NoF _).alloc (.cells #[.int .i64 4, .slice A' m d, .int .i64 s] 24))
  generalize (((w5.setCell ⟨W.heap.size + 1 + 1, 0, none⟩ (.int .i64 4)).setCell ⟨W.heap.size + 1 + 1, 1, none⟩ (.slice A' m d)).setCell ⟨W.heap.size + 1 + 1, 2, none⟩ (.int .i64 s)).alloc (.cells #[.int .i64 4, .slice A' m d, .int .i64 s] 24) = W6 at *
  have hx0 : W6.cell? ⟨W.heap.size + 1 + 1, 0, none⟩ = some (.int .i64 4) := hx.cell 0
  have hx1 : W6.cell? ⟨W.heap.size + 1 + 1, 1, none⟩ = some (.slice A' m d) := hx.cell 1
  have hx2 : W6.cell? ⟨W.heap.size + 1 + 1, 2, none⟩ = some (.int .i64 s) := hx.cell 2
  refine bodyPost_ret (v := .agg #[.int .i64 4, .slice A' m d, .int .i64 s]) (by simp [results, Try.results41, go_sem, hx0, hx1, hx2]) rfl ?_
  exact ⟨A', m, d, s, rfl, hd6, hkf⟩

set_option maxRecDepth 100000 in
set_option maxHeartbeats 1000000 in
theorem alg_not {W : World} {f : BF} {A : Option Addr} {n c r : Nat} (ha : IsD W 4 f A n c r) : Calls Try.prog 42 #[.agg #[.int .i64 4, .slice A n c, .int .i64 r]] W (A4 W fun ρ => !f ρ) := by
  have k0 : Keep NoF W ((W.alloc (.cells #[.int .i64 4, .slice A n c, .int .i64 r] 24)).alloc (.cells #[.int .i64 0, .slice none 0 0, .int .i64 0] 24)) := ((Keep.refl _ _).alloc _).alloc _
  have H := Lib.hid (a4_not (ha.keep k0))
  have hb0 : Bk ((W.alloc (.cells #[.int .i64 4, .slice A n c, .int .i64 r] 24)).alloc (.cells #[.int .i64 0, .slice none 0 0, .int .i64 0] 24)) (W.heap.size + 1) 24 #[.int .i64 0, .slice none 0 0, .int .i64 0] := Bk.new' _ _ _ (by simp)
  go_enter Try.func42, Try.ntmps42
  go_wp2_with (go_at_call 30
               (with_reducible refine H.out.mono ?_)
               rintro e w5 ⟨A', m, d, s, rfl, hd5, hk5, hf5⟩
               have hb5 := hb0.keep hk5 (fun h => h)
               have t0 : w5.cell? ⟨W.heap.size + 1, 0, none⟩ = some (.int .i64 0) := hb5.cell 0
               have t1 : w5.cell? ⟨W.heap.size + 1, 1, none⟩ = some (.slice none 0 0) := hb5.cell 1
               have t2 : w5.cell? ⟨W.heap.size + 1, 2, none⟩ = some (.int .i64 0) := hb5.cell 2
               have hl5 : W.heap.size + 1 < w5.heap.size := hb5.lt
               have f0 := hb5.frozen 0
               have f1 := hb5.frozen 1
               have f2 := hb5.frozen 2)
  have hkf : Keep NoF W ((((w5.setCell ⟨W.heap.size + 1, 0, none⟩ (.int .i64 4)).setCell ⟨W.heap.size + 1, 1, none⟩ (.slice A' m d)).setCell ⟨W.heap.size + 1, 2, none⟩ (.int .i64 s)).alloc (.cells #[.int .i64 4, .slice A' m d, .int .i64 s] 24)) := ((k0.trans hk5 fun _ _ h => h).set3 (by omega) _ _ _).alloc _
  have hx := (((hb5.put 0 (.int .i64 4)).put 1 (.slice A' m d)).put 2 (.int .i64 s)).alloc (.cells #[.int .i64 4, .slice A' m d, .int .i64 s] 24)
  have hd6 := (hd5.set3 (b := W.heap.size + 1) (fun k hk => by have := hf5 k hk; have := hb0.lt; omega) (.int .i64 4) (.slice A' m d) (.int .i64 s)).keep ((Keep.refl NoF _).alloc (.cells #[.int .i64 4, .slice A' m d, .int .i64 s] 24))
  generalize (((w5.setCell ⟨W.heap.size + 1, 0, none⟩ (.int .i64 4)).setCell ⟨W.heap.size + 1, 1, none⟩ (.slice A' m d)).setCell ⟨W.heap.size + 1, 2, none⟩ (.int .i64 s)).alloc (.cells #[.int .i64 4, .slice A' m d, .int .i64 s] 24) = W6 at *
  have hx0 : W6.cell? ⟨W.heap.size + 1, 0, none⟩ = some (.int .i64 4) := hx.cell 0
  have hx1 : W6.cell? ⟨W.heap.size + 1, 1, none⟩ = some (.slice A' m d) := hx.cell 1
  have hx2 : W6.cell? ⟨W.heap.size + 1, 2, none⟩ = some (.int .i64 s) := hx.cell 2
  refine bodyPost_ret (v := .agg #[.int .i64 4, .slice A' m d, .int .i64 s]) (by simp [results, Try.results42, go_sem, hx0, hx1, hx2]) rfl ?_
  exact ⟨A', m, d, s, rfl, hd6, hkf⟩
end Go.Proofs.Ytengdldkkmknpaa
