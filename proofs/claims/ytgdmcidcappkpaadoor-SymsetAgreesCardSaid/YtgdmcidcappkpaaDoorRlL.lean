/- A loop over the worlds of a set: one rule for all such loops. Conditions: the library's table of trailing zeros lies in its variable. -/
import Derived.Test.YtgdmcidcappkpaaDoorRlE
set_option linter.unusedVariables false
set_option linter.unusedSimpArgs false
namespace Go.Proofs.YtgdmcidcappkpaaDoor
open Go.RowKit Go.Shelf

/-- The three blocks of the loop's own: the set that is left, the deferred calls, the record. -/
def Eb (B D : Nat) : Nat → Prop := fun k => k = B ∨ k = D ∨ k = D + 1
def Same3 (B D : Nat) (W W' : World) : Prop := ∀ k, Eb B D k → W'.heap[k]? = W.heap[k]?
theorem Same3.refl (B D : Nat) (W : World) : Same3 B D W W := fun _ _ => rfl
theorem Same3.trans {B D : Nat} {W W1 W2 : World} (h : Same3 B D W W1) (k : Same3 B D W1 W2) : Same3 B D W W2 := fun i hi => (k i hi).trans (h i hi)
theorem Same3.keep {B D : Nat} {F : Nat → Prop} {W W' : World} (h : Keep F W W') (hB : B < W.heap.size) (hD : D + 1 < W.heap.size) (hf : ∀ k, F k → ¬ Eb B D k) : Same3 B D W W' := fun k hk => by
  refine h.block k ?_ fun hF => hf k hF hk
  rcases hk with rfl | rfl | rfl <;> omega
def ePost (B D : Nat) (I Ix : List Nat → World → Prop) (xs : List Nat) (W : World) : Exit → Act → World → Prop
  | .normal, _, W' => Same3 B D W W' ∧ I xs W'
  | .ret, _, W' => Same3 B D W W' ∧ Ix xs W'
  | .exit _, _, _ => False
  | .goto _, _, _ => False
  | .panic _, _, _ => False
  | .outgrown, _, _ => False

theorem keep_put {B D l : Nat} {W : World} (o : Obj) (h : Eb B D l) : Keep (Eb B D) W (W.putObj l o) :=
  ⟨rfl, rfl, rfl, by simp, fun k _ hk => World.putObj_heap_other fun e => hk (e ▸ h)⟩

theorem each_range {g : Operand} {ps : Array Tmp} {assign body : Code} {Q : Exit → Act → World → Prop} {a : Act} {w : World} {n B s : Nat} (h2 : 2 ≤ n) (hs : s < 18446744073709551616)
    (hg : a.eval g = .func (.func 76) #[] #[.pointer (some ⟨B, 0, none⟩)]) (hB : Bk w B 31 #[.int .u64 s]) (hps : ps.size = 1)
    (I Ix : List Nat → World → Prop) (hI : ∀ pre W W', I pre W → Keep (Eb B w.heap.size) W W' → I pre W') (hIx : ∀ pre W W', Ix pre W → Keep (Eb B w.heap.size) W W' → Ix pre W') (hT : ∀ pre W, I pre W → Tab W)
    (h0 : I [] w) (a₁ : Nat → Act)
    (hassign : ∀ (l : Nat) (x : Nat) (W : World) (K : Act → World → Prop), K (a₁ x) W →
      assign.wpIn (Fence.wide.inRound l) (n - 1 - 1) Tryd.prog (Exit.then K (fun _ _ _ => False)) { tmps := (ps.zip #[Value.int .i64 (x : Nat)]).foldl (fun t (p, v) => t.setIfInBounds p v) a.tmps, defers := [] } W)
    (hbody : ∀ (l : Nat) (pre : List Nat) (x : Nat) (W : World), pre ++ [x] <+: mem s → I pre W → B < W.heap.size → w.heap.size + 1 < W.heap.size → body.wpIn (Fence.wide.inRound l) (n - 1 - 1) Tryd.prog (ePost B w.heap.size I Ix (pre ++ [x]) W) (a₁ x) W)
    (hdone : ∀ W : World, I (mem s) W → W.heap[w.heap.size]? = some (.deferred (some [])) → Q .normal { a with defers := { target := .collected w.heap.size, args := #[] } :: a.defers } W)
    (hstop : ∀ (pre : List Nat) (W : World), Ix pre W → W.heap[w.heap.size]? = some (.deferred (some [])) → Code.ret.wpIn Fence.wide n Tryd.prog Q { a with defers := { target := .collected w.heap.size, args := #[] } :: a.defers } W) :
    (Code.rangeFunc g ps assign body).wpIn Fence.wide n Tryd.prog Q a w := by
  refine wpIn_rangeFunc ?_
  intro fn hfn
  obtain ⟨D, hD⟩ : ∃ D, w.heap.size = D := ⟨_, rfl⟩
  rw [hD] at hI hIx hbody hdone hstop
  obtain ⟨rec, hrec⟩ : ∃ rec : LoopState → Option Code → Loop, rec = fun st pe => { state := st, pending := pe, fn, tmps := a.tmps, params := ps, assign, body, defers := D } := ⟨_, rfl⟩
  have hBD : B < D := by rw [← hD]; exact hB.lt
  have sz : ((w.alloc (.deferred (some []))).alloc (.loop (rec .ready none))).heap.size = D + 2 := by simp [hD]
  have hL1 : ((w.alloc (.deferred (some []))).alloc (.loop (rec .ready none))).heap[D + 1]? = some (.loop (rec .ready none)) := by
    have := World.alloc_heap_new (w.alloc (.deferred (some []))) (.loop (rec .ready none))
    rwa [World.size_alloc, hD] at this
  have hK1 : ((w.alloc (.deferred (some []))).alloc (.loop (rec .ready none))).heap[D]? = some (.deferred (some [])) :=
    (Below.heap_alloc _ _ _ (by simp; omega)).trans (by have := World.alloc_heap_new w (.deferred (some [])); rwa [hD] at this)
  have hI1 : I [] ((w.alloc (.deferred (some []))).alloc (.loop (rec .ready none))) := hI _ _ _ h0 (((Keep.refl _ w).alloc _).alloc _)
  have hB1 : Bk ((w.alloc (.deferred (some []))).alloc (.loop (rec .ready none))) B 31 #[.int .u64 s] := (hB.alloc _).alloc _
  have hent := run_enterLoop_outer (P := Tryd.prog) (w := w) fn a.tmps ps assign body
  rw [hD] at hent
  have hent' : (Instr.enterLoop fn a.tmps ps assign body Fence.wide.round).run Tryd.prog w = .ok (D + 1, [{ target := .collected D, args := #[] }]) ((w.alloc (.deferred (some []))).alloc (.loop (rec .ready none))) := by
    rw [hrec]; exact hent
  generalize (w.alloc (.deferred (some []))).alloc (.loop (rec .ready none)) = W1 at *
  clear hent
  refine ⟨D + 1, _, W1, { target := .fn (.func 76) #[.pointer (some ⟨B, 0, none⟩)], args := #[.func (.yield (D + 1)) #[] #[]] }, W1, 76,
    #[.func (.yield (D + 1)) #[] #[], .pointer (some ⟨B, 0, none⟩)], W1, hent', ?_, fun _ _ => trivial, ?_, fun h => absurd h (by decide), ?_⟩
  · simp only [resolve, hg]
    simp [go_sem]
  · simp [invoke, go_sem]
  · refine (points1_in (n - 1) (D + 1) B (by omega) s hs
      (fun pre W => I pre W ∧ W.heap[D + 1]? = some (.loop (rec .ready none)) ∧ W.heap[D]? = some (.deferred (some [])))
      (fun pre W => Ix pre W ∧ W.heap[D + 1]? = some (.loop (rec .done (some .ret))) ∧ W.heap[D]? = some (.deferred (some [])))
      ?_ (fun pre W h => hT _ _ h.1) ?_ W1 hB1 ⟨hI1, hL1, hK1⟩).mono ?_
    · rintro pre W v ⟨hi, hl, hk⟩
      exact ⟨hI _ _ _ hi ((Keep.refl _ W).setCell (.inl (.inl rfl)) v), (Below.heap_setCell _ _ _ _ (by simp; omega)).trans hl, (Below.heap_setCell _ _ _ _ (by simp; omega)).trans hk⟩
    · rintro pre x W hpx ⟨hi, hl, hk⟩
      have hlt : D + 1 < W.heap.size := (Array.getElem?_eq_some_iff.1 hl).1
      have hy := run_yield (P := Tryd.prog) (args := #[.int .i64 (x : Nat)]) hl (by rw [hrec]; exact hps.symm)
      rw [hrec] at hy
      have e1 : Eb B D (D + 1) := .inr (.inr rfl)
      refine ⟨fn, _, assign, body, hy, roundIn_of_wpIn hfn (hassign _ x W _ ⟨_, run_beginRound hl (by rw [hrec]), ?_⟩)⟩
      have hl2 : (W.putObj (D + 1) (.loop { rec .ready none with state := .busy })).heap[D + 1]? = some (.loop { rec .ready none with state := .busy }) := World.putObj_heap_same hlt
      have hk2 : (W.putObj (D + 1) (.loop { rec .ready none with state := .busy })).heap[D]? = some (.deferred (some [])) := (World.putObj_heap_other (by omega)).trans hk
      have hb2 : (W.putObj (D + 1) (.loop { rec .ready none with state := .busy })).heap[B]? = W.heap[B]? := World.putObj_heap_other (by omega)
      have hs2 : (W.putObj (D + 1) (.loop { rec .ready none with state := .busy })).heap.size = W.heap.size := by simp
      have hi2 := hI _ _ _ hi (keep_put (W := W) (.loop { rec .ready none with state := .busy }) e1)
      generalize W.putObj (D + 1) (.loop { rec .ready none with state := .busy }) = W2 at *
      refine wpIn_mono (hbody _ pre x W2 hpx hi2 (by omega) (by omega)) ?_
      have fin : ∀ (jump : Option Code) (W3 : World), Same3 B D W2 W3 →
          (Instr.endRound (D + 1) jump).run Tryd.prog W3 = .ok (.bool jump.isNone) (W3.putObj (D + 1) (.loop (rec (if jump.isNone then .ready else .done) jump))) ∧
          (W3.putObj (D + 1) (.loop (rec (if jump.isNone then .ready else .done) jump))).heap[D + 1]? = some (.loop (rec (if jump.isNone then .ready else .done) jump)) ∧
          (W3.putObj (D + 1) (.loop (rec (if jump.isNone then .ready else .done) jump))).heap[D]? = some (.deferred (some [])) ∧
          (W3.putObj (D + 1) (.loop (rec (if jump.isNone then .ready else .done) jump))).heap[B]? = W.heap[B]? := fun jump W3 h3 => by
        have hl3 := (h3 _ e1).trans hl2
        have := run_endRound (P := Tryd.prog) jump hl3
        rw [hrec] at this ⊢
        exact ⟨this, World.putObj_heap_same (Array.getElem?_eq_some_iff.1 hl3).1, (World.putObj_heap_other (by omega)).trans ((h3 _ (.inr (.inl rfl))).trans hk2), (World.putObj_heap_other (by omega)).trans ((h3 _ (.inl rfl)).trans hb2)⟩
      rintro e a3 W3 hp
      cases e with
      | normal =>
        obtain ⟨h3, hi3⟩ := hp
        obtain ⟨hr, hl4, hk4, hb4⟩ := fin none W3 h3
        exact ⟨_, _, hr, .inl ⟨rfl, ⟨hI _ _ _ hi3 (keep_put _ e1), hl4, hk4⟩, hb4⟩⟩
      | ret =>
        obtain ⟨h3, hi3⟩ := hp
        obtain ⟨hr, hl4, hk4, -⟩ := fin (some .ret) W3 h3
        exact ⟨_, _, hr, .inr ⟨rfl, hIx _ _ _ hi3 (keep_put _ e1), hl4, hk4⟩⟩
      | exit id => exact hp.elim
      | goto t => exact hp.elim
      | panic ch => exact hp.elim
      | outgrown => exact hp.elim
    · rintro e W2 ⟨⟨v, rfl⟩, (⟨hi, hl, hk⟩ | ⟨pre, hp, hi, hl, hk⟩)⟩
      · have := run_endLoop (P := Tryd.prog) hl (by rw [hrec]; simp)
        rw [hrec] at this
        exact ⟨none, _, this, hdone _ (hI _ _ _ hi (keep_put _ (.inr (.inr rfl)))) ((World.putObj_heap_other (by omega)).trans hk)⟩
      · have := run_endLoop (P := Tryd.prog) hl (by rw [hrec]; simp)
        rw [hrec] at this
        exact ⟨some .ret, _, this, hstop pre _ (hIx _ _ _ hi (keep_put _ (.inr (.inr rfl)))) ((World.putObj_heap_other (by omega)).trans hk)⟩
theorem each_at {g : Operand} {ps : Array Tmp} {assign body : Code} {Q : Exit → Act → World → Prop} {a : Act} {w : World} {n B s : Nat} (D : Nat) (hD : w.heap.size = D) (h2 : 2 ≤ n) (hs : s < 18446744073709551616)
    (hg : a.eval g = .func (.func 76) #[] #[.pointer (some ⟨B, 0, none⟩)]) (hB : Bk w B 31 #[.int .u64 s]) (hps : ps.size = 1)
    (I Ix : List Nat → World → Prop) (hI : ∀ pre W W', I pre W → Keep (Eb B D) W W' → I pre W') (hIx : ∀ pre W W', Ix pre W → Keep (Eb B D) W W' → Ix pre W') (hT : ∀ pre W, I pre W → Tab W)
    (h0 : I [] w) (a₁ : Nat → Act)
    (hassign : ∀ (l : Nat) (x : Nat) (W : World) (K : Act → World → Prop), K (a₁ x) W →
      assign.wpIn (Fence.wide.inRound l) (n - 1 - 1) Tryd.prog (Exit.then K (fun _ _ _ => False)) { tmps := (ps.zip #[Value.int .i64 (x : Nat)]).foldl (fun t (p, v) => t.setIfInBounds p v) a.tmps, defers := [] } W)
    (hbody : ∀ (l : Nat) (pre : List Nat) (x : Nat) (W : World), pre ++ [x] <+: mem s → I pre W → B < W.heap.size → D + 1 < W.heap.size → body.wpIn (Fence.wide.inRound l) (n - 1 - 1) Tryd.prog (ePost B D I Ix (pre ++ [x]) W) (a₁ x) W)
    (hdone : ∀ W : World, I (mem s) W → W.heap[D]? = some (.deferred (some [])) → Q .normal { a with defers := { target := .collected D, args := #[] } :: a.defers } W)
    (hstop : ∀ (pre : List Nat) (W : World), Ix pre W → W.heap[D]? = some (.deferred (some [])) → Code.ret.wpIn Fence.wide n Tryd.prog Q { a with defers := { target := .collected D, args := #[] } :: a.defers } W) :
    (Code.rangeFunc g ps assign body).wpIn Fence.wide n Tryd.prog Q a w := by
  subst hD
  exact each_range h2 hs hg hB hps I Ix hI hIx hT h0 a₁ hassign hbody hdone hstop
end Go.Proofs.YtgdmcidcappkpaaDoor
