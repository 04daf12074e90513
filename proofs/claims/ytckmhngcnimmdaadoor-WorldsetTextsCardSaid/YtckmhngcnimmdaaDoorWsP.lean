/- What the program's Members does. Conditions: the library's table of trailing zeros lies in its variable. -/
import Derived.Test.YtckmhngcnimmdaaDoorWsL
import Derived.Maps.AppendAt
set_option linter.unusedVariables false
set_option linter.unusedSimpArgs false
namespace Go.Proofs.YtckmhngcnimmdaaDoor
open Go.RowKit Go.Shelf
attribute [local go_sem] Oper.semAt_some

theorem own_mono {w : World} {base base' : Nat} {e : TypeId} {size n : Nat} {v : Value} {xs : List Value} (h : w.ownsRow base e size v n xs) (hb : base' ≤ base) : w.ownsRow base' e size v n xs := by
  refine ⟨h.1, ?_⟩
  rcases h.2 with hn | ⟨g, cap, cur, rfl, hg, hr⟩
  · exact .inl hn
  · exact .inr ⟨g, cap, cur, rfl, by omega, hr⟩
theorem bk_set {w : World} {g : Nat} {t : TypeId} {v : Value} (h : Bk w g t #[v]) (u : Value) : Bk (w.setCell ⟨g, 0, none⟩ u) g t #[u] := h.put 0 u

/-- A list in a variable's box, while the worlds of a set come. -/
def InBox (w : World) (b D : Nat) (t e : TypeId) (enc : Nat → Value) (xs : List Nat) (W : World) : Prop :=
  ∃ v, Bk W b t #[v] ∧ W.ownsRow (D + 2) e 1 v xs.length (xs.map enc) ∧ Keep NoF w W ∧ D + 2 ≤ D + 2
theorem InBox.keep {w : World} {b B D : Nat} {t e : TypeId} {enc : Nat → Value} {xs : List Nat} {W W' : World} (h : InBox w b D t e enc xs W) (hk : Keep (Eb B D) W W') (hb : ¬ Eb B D b) (hB : w.heap.size ≤ B) (hD : B < D) : InBox w b D t e enc xs W' := by
  obtain ⟨v, hv, ho, hk0, h0⟩ := h
  refine ⟨v, hv.keep hk hb, own_keep ho fun k hkv => hk.block k (ho.lt k hkv).2 fun he => ?_, hk0.trans hk fun i hi he => ?_, h0⟩
  · have := (ho.lt k hkv).1
    rcases he with rfl | rfl | rfl <;> omega
  · rcases he with rfl | rfl | rfl <;> omega

theorem keep_end {w W : World} {D : Nat} (h : Keep NoF w W) (hD : w.heap.size ≤ D) (o : Obj) : Keep NoF w (W.putObj D o) :=
  h.trans (G := fun k => k = D) ⟨rfl, rfl, rfl, by simp, fun k _ hk => World.putObj_heap_other hk⟩ fun i hi e => absurd hi (by omega)

section
set_option maxRecDepth 100000
set_option maxHeartbeats 1000000
theorem Members_any (s : Nat) (hs : s < 18446744073709551616) (w : World) (ht : Tab w) : Calls Tryd.prog 17 #[.int .u64 s] w (LPost w (mem s)) := by
  have hml := mem_len s
  refine (callsIn_wide (n := 3)).1 ?_
  refine callsIn_of_wp_marks Tryd.func17 rfl trivial ?_ rfl
  simp only [Tryd.ntmps17, List.size_toArray, List.length_cons, List.length_nil, Nat.reduceAdd, Nat.reduceSub, Array.replicate_succ, Array.replicate_zero, List.push_toArray, List.append_toArray, List.nil_append, List.cons_append]
  gi_wp2_with (refine ⟨trivial, ?_⟩; gi_at_call 39; refine (callsIn_wide.2 (each_any s _)).mono ?_; rintro e w' ⟨rfl, rfl⟩)
  refine each_range (n := 3) (B := w.heap.size + 1) (s := s) (by omega) hs rfl (by simpa using Bk.new (w.alloc (.cells #[.slice none 0 0] 22)) 23 #[.int .u64 s]) rfl
    (InBox w w.heap.size (w.heap.size + 2) 22 3 inV) (fun _ _ => False) ?hI (fun _ _ _ h _ => h.elim) ?hT ?h0
    (fun x => { tmps := #[.int .u64 s, undef, .slice none 0 0, .pointer (some ⟨w.heap.size, 0, none⟩), .int .i64 (x : Nat), .int .u64 s, .func (.func 48) #[] #[.pointer (some ⟨w.heap.size + 1, 0, none⟩)], .int .i64 (x : Nat), undef, undef, undef, undef, undef], defers := [] }) ?assign ?body ?done ?stop
  case hI =>
    intro pre W W' h hk
    rw [World.size_alloc, World.size_alloc] at hk
    exact h.keep hk (by rintro (h | h | h) <;> omega) (by omega) (by omega)
  case hT =>
    rintro pre W ⟨v, -, -, hk, -⟩
    exact ht.keep0 hk
  case h0 => exact ⟨_, (Bk.new w 22 #[.slice none 0 0]).alloc _, World.ownsRow_nil _ _ _ _, ((Keep.refl _ w).alloc _).alloc _, Nat.le_refl _⟩
  case assign =>
    intro l x W K hK
    gi_wp2
    exact hK
  case body =>
    rintro l pre x W hpx ⟨v, hv, ho, hk, -⟩ hBW hDW
    rw [World.size_alloc, World.size_alloc] at *
    have hlen : pre.length + 1 ≤ 64 := by
      have := hpx.length_le
      simp at this
      omega
    have hc0 := hv.cell 0
    have hf0 := hv.frozen 0
    obtain ⟨i0, hi, hz0, hz1, hz2⟩ := info_parts infoInt
    have hob : ∀ k, v.ownBlock = some k → w.heap.size + 2 + 2 ≤ k ∧ k < W.heap.size := ho.lt
    gi_wp2_with (gi_at_builtin
                 refine wpListIn_append_own _ rfl _ _ 22 rfl (w.heap.size + 2 + 2) 3 i0 (.int .i64 0) 1 8 Tryd.underlying22 hi hz0 hz1 hz2 rfl (by decide) _ _ _ rfl (ho.alloc _) ⟨W.heap.size, 0, none⟩ 1 1 [.int .i64 (x : Nat)] rfl rfl (cell_one_new _ _ _) (by simp [Value.oneCell']) (by simp [maxLen]; omega) (by omega) (by simp; omega) ?_
                 intro v' w1 hown' hgrow _
                 obtain ⟨g', cap', rfl⟩ := ownsRow_succ hown'
                 have hv1 := (hv.alloc (.cells #[.int .i64 (x : Nat)] 3)).grown hgrow (fun e => by have := (hob _ e.symm).1; omega)
                 have hc1 := hv1.cell 0
                 have hf1 := hv1.frozen 0)
    have hbk := (hown'.lt g' rfl)
    refine ⟨fun k hk3 => ?_, _, bk_set hv1 _, ?_, ?_, Nat.le_refl _⟩
    · have hkW : k < W.heap.size := by rcases hk3 with rfl | rfl | rfl <;> omega
      have hkb : k ≠ w.heap.size := by rcases hk3 with rfl | rfl | rfl <;> omega
      refine (Below.heap_setCell _ _ _ _ hkb).trans ((hgrow.block k (by simp; omega) fun e => ?_).trans (Below.heap_alloc _ _ _ hkW))
      have := (hob _ e.symm).1
      rcases hk3 with rfl | rfl | rfl <;> omega
    · rw [show (pre ++ [x]).length = pre.length + 1 by simp, List.map_append]
      exact own_keep hown' fun k hkv => Below.heap_setCell _ _ _ _ (by
        have := (hown'.lt k hkv).1
        simp
        omega)
    · exact (((hk.alloc _).grown hgrow fun k e => .inr (by have := (hob _ e).1; omega)).setCell (.inr (by simp)) _)
  case done =>
    rintro W ⟨v, hv, ho, hk, -⟩ hD
    rw [World.size_alloc, World.size_alloc] at *
    have hc0 := hv.cell 0
    have hf0 := hv.frozen 0
    gi_wp2
    refine ⟨by simp, .inl ⟨_, _, rfl, run_takeDeferred hD, ?_⟩⟩
    refine ⟨_, results_tmp rfl _ _ _, _, rfl, own_mono (ownsRow_putObj ho _ hD rfl) (by omega), keep_end hk (by omega) _⟩
  case stop =>
    intro pre W h _
    exact h.elim
end
end Go.Proofs.YtckmhngcnimmdaaDoor
