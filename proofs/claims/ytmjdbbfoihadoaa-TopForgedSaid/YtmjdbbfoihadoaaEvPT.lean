/- Evidence: the iterator over the worlds of a set. A loop over the worlds of a set: one rule for all such loops, with break. Evidence: what each does: a claim for each world of a set. Evidence: slices of claims: what slices.Equal does with them; the closures of follows. Conditions: the slices' cells are those of the claims. No condition. -/
import Derived.Test.YtmjdbbfoihadoaaEvL
import Derived.RangeFuncCalls
import Derived.RangeFuncBox
import Derived.RangeFuncLeaves
import Derived.Shelf.Abstract
import Derived.Shelf.RegionOpen
import Derived.OwnWalkIn
import Derived.TacticsInMore
import Derived.LoopNIn
import Derived.LoopIn
import Derived.Test.YtmjdbbfoihadoaaApps
import Derived.Maps.AppendAt
set_option linter.unusedVariables false
set_option linter.unusedSimpArgs false
namespace Go.Proofs.Ytmjdbbfoihadoaa
open Go.RowKit Go.Shelf
open Ev
attribute [local go_sem] Oper.semAt_some
theorem memTo_prefix (s : Nat) {j k : Nat} (h : j ≤ k) : memTo s j <+: memTo s k := by
  induction k with
  | zero => obtain rfl : j = 0 := by omega
            exact List.prefix_refl _
  | succ k ih =>
    by_cases e : j = k + 1
    · subst e; exact List.prefix_refl _
    · rw [memTo_succ]
      exact (ih (by omega)).trans (List.prefix_append _ _)
theorem sbit_eq {s : Nat} (k : Nat) (hs : s < 18446744073709551616) : (bits .and .u64 ((s : Int) / 2 ^ k) 1 == 1) = s.testBit k := by
  have e : (s : Int) / 2 ^ k = ((s / 2 ^ k : Nat) : Int) := by simp
  have hlt : s / 2 ^ k < 18446744073709551616 := Nat.lt_of_le_of_lt (Nat.div_le_self _ _) hs
  have h1 := bits_and_u64_nat (s / 2 ^ k) 1 hlt (by decide)
  rw [e, show (1 : Int) = ((1 : Nat) : Int) from rfl, h1, Nat.and_one_is_mod, Nat.testBit_eq_decide_div_mod_eq]
  rcases Nat.mod_two_eq_zero_or_one (s / 2 ^ k) with h | h <;> rw [h] <;> rfl
section
set_option maxRecDepth 100000
set_option maxHeartbeats 1000000
theorem evmembers_any (s : Nat) (w : World) : Calls Try.prog 58 #[.int .u64 s] w fun e w' => e = .returned (.func (.func 69) #[] #[.pointer (some ⟨w.heap.size, 0, none⟩)]) ∧ w' = w.alloc (.cells #[.int .u64 s] 38) := by
  go_enter Try.func58, Try.ntmps58
  go_wp2
  go_ret
  exact ⟨rfl, rfl⟩
theorem members1_in (n l B : Nat) (hn : 1 ≤ n) (s : Nat) (hs : s < 18446744073709551616) (J Jx : List Nat → World → Prop)
    (hY : ∀ pre x W, pre ++ [x] <+: mem s → J pre W → YieldAt Fence.wide (n - 1) Try.prog l #[.int .i64 (x : Nat)] W fun e W' =>
      (e = .returned (.bool true) ∧ J (pre ++ [x]) W' ∧ W'.heap[B]? = W.heap[B]?) ∨ (e = .returned (.bool false) ∧ Jx (pre ++ [x]) W'))
    (W : World) (hB : Bk W B 38 #[.int .u64 s]) (h0 : J [] W) :
    CallsIn Fence.wide n Try.prog 69 #[.func (.yield l) #[] #[], .pointer (some ⟨B, 0, none⟩)] W fun e W' => (∃ v, e = .returned v) ∧
      (J (mem s) W' ∨ ∃ pre, pre <+: mem s ∧ Jx pre W') := by
  refine callsIn_of_wp Try.func69 rfl trivial ?_ rfl
  simp only [Try.ntmps69, List.size_toArray, List.length_cons, List.length_nil, Nat.reduceAdd, Nat.reduceSub, Array.replicate_succ, Array.replicate_zero, List.push_toArray, List.append_toArray, List.nil_append, List.cons_append]
  gi_wp2
  gi_loopw [4] (fun t wr => ∃ k : Nat, t = .int .i64 (k : Int) ∧ k ≤ 64 ∧ Bk wr B 38 #[.int .u64 s] ∧ J (memTo s k) wr) (fun t _ => 64 - (intOf t).toNat)
  case atStart => exact ⟨0, rfl, by omega, hB, h0⟩
  case round =>
    obtain ⟨k, rfl, hk, hBr, hJr⟩ := hrel
    have hc0 : wr.cell? ⟨B, 0, none⟩ = some (.int .u64 s) := hBr.cell 0
    by_cases hlt : k < 64
    · have l1 : (k : Int) < 64 := by omega
      have l0 : (0 : Int) ≤ (k : Int) := by omega
      have l9 : ¬ (k : Int) < 0 := by omega
      have HM := Lib.hid (memTo_succ s k)
      have hbit := sbit_eq k hs
      cases htb : s.testBit k with
      | false =>
        rw [htb] at hbit HM
        clear htb
        gi_wp2
        refine ⟨fun f hf => (by cases hf), ?_⟩
        gi_wp2
        go_roundw
        case rel => exact ⟨k + 1, by go_num, by omega, hBr, by rw [HM.out]; simpa using hJr⟩
        case measure => simp only [intOf]; omega
      | true =>
        rw [htb] at hbit HM
        have hpre : memTo s k ++ [k] <+: mem s := by
          have h1 : memTo s (k + 1) = memTo s k ++ [k] := HM.out
          rw [← h1]
          exact memTo_prefix s (by omega)
        have hy := hY _ k wr hpre hJr
        have HP := Lib.hid hpre
        clear htb hpre
        obtain ⟨fn, tmps, assign, body, hy, hR⟩ := hy
        gi_wp2
        refine hR.mono ?_
        rintro e W3 (⟨rfl, hJ3, hk3⟩ | ⟨rfl, hJx3⟩)
        · gi_wp2
          go_roundw
          case rel => exact ⟨k + 1, by go_num, by omega, hBr.block hk3, by rw [HM.out]; exact hJ3⟩
          case measure => simp only [intOf]; omega
        · gi_wp2
          refine bodyPost_ret (results_none rfl _ _ _) rfl ?_
          exact ⟨⟨_, rfl⟩, .inr ⟨_, HP.out, hJx3⟩⟩
    · obtain rfl : k = 64 := by omega
      gi_wp2
      go_end0
      exact ⟨⟨_, rfl⟩, .inl hJr⟩
end
end Go.Proofs.Ytmjdbbfoihadoaa
namespace Go.Proofs.Ytmjdbbfoihadoaa
open Go.RowKit Go.Shelf
open Ev

/-- The three blocks of the loop's own: the set that is left, the deferred calls, the record. -/
def Eb (B D : Nat) : Nat → Prop := fun k => k = B ∨ k = D ∨ k = D + 1
def Same3 (B D : Nat) (W W' : World) : Prop := ∀ k, Eb B D k → W'.heap[k]? = W.heap[k]?
theorem Same3.refl (B D : Nat) (W : World) : Same3 B D W W := fun _ _ => rfl
theorem Same3.trans {B D : Nat} {W W1 W2 : World} (h : Same3 B D W W1) (k : Same3 B D W1 W2) : Same3 B D W W2 := fun i hi => (k i hi).trans (h i hi)
theorem Same3.keep {B D : Nat} {F : Nat → Prop} {W W' : World} (h : Keep F W W') (hB : B < W.heap.size) (hD : D + 1 < W.heap.size) (hf : ∀ k, F k → ¬ Eb B D k) : Same3 B D W W' := fun k hk => by
  refine h.block k ?_ fun hF => hf k hF hk
  rcases hk with rfl | rfl | rfl <;> omega
def ePost (B D bi : Nat) (I Ix Ib : List Nat → World → Prop) (xs : List Nat) (W : World) : Exit → Act → World → Prop
  | .normal, _, W' => Same3 B D W W' ∧ I xs W'
  | .ret, _, W' => Same3 B D W W' ∧ Ix xs W'
  | .exit id, _, W' => Same3 B D W W' ∧ id = bi ∧ Ib xs W'
  | .goto _, _, _ => False
  | .panic _, _, _ => False
  | .outgrown, _, _ => False

theorem keep_put {B D l : Nat} {W : World} (o : Obj) (h : Eb B D l) : Keep (Eb B D) W (W.putObj l o) :=
  ⟨rfl, rfl, rfl, by simp, fun k _ hk => World.putObj_heap_other fun e => hk (e ▸ h)⟩

theorem each_range {g : Operand} {ps : Array Tmp} {assign body : Code} {Q : Exit → Act → World → Prop} {a : Act} {w : World} {n B s : Nat} (h2 : 2 ≤ n) (hs : s < 18446744073709551616)
    (hg : a.eval g = .func (.func 69) #[] #[.pointer (some ⟨B, 0, none⟩)]) (hB : Bk w B 38 #[.int .u64 s]) (hps : ps.size = 1)
    (bi : Nat) (I Ix Ib : List Nat → World → Prop) (hI : ∀ pre W W', I pre W → Keep (Eb B w.heap.size) W W' → I pre W') (hIx : ∀ pre W W', Ix pre W → Keep (Eb B w.heap.size) W W' → Ix pre W') (hIb : ∀ pre W W', Ib pre W → Keep (Eb B w.heap.size) W W' → Ib pre W')
    (h0 : I [] w) (a₁ : Nat → Act)
    (hassign : ∀ (l : Nat) (x : Nat) (W : World) (K : Act → World → Prop), K (a₁ x) W →
      assign.wpIn (Fence.wide.inRound l) (n - 1 - 1) Try.prog (Exit.then K (fun _ _ _ => False)) { tmps := (ps.zip #[Value.int .i64 (x : Nat)]).foldl (fun t (p, v) => t.setIfInBounds p v) a.tmps, defers := [] } W)
    (hbody : ∀ (l : Nat) (pre : List Nat) (x : Nat) (W : World), pre ++ [x] <+: mem s → I pre W → B < W.heap.size → w.heap.size + 1 < W.heap.size → body.wpIn (Fence.wide.inRound l) (n - 1 - 1) Try.prog (ePost B w.heap.size bi I Ix Ib (pre ++ [x]) W) (a₁ x) W)
    (hdone : ∀ W : World, I (mem s) W → W.heap[w.heap.size]? = some (.deferred (some [])) → Q .normal { a with defers := { target := .collected w.heap.size, args := #[] } :: a.defers } W)
    (hstop : ∀ (pre : List Nat) (W : World), Ix pre W → W.heap[w.heap.size]? = some (.deferred (some [])) → Code.ret.wpIn Fence.wide n Try.prog Q { a with defers := { target := .collected w.heap.size, args := #[] } :: a.defers } W)
    (hbrk : ∀ (pre : List Nat) (W : World), Ib pre W → W.heap[w.heap.size]? = some (.deferred (some [])) → (Code.exit bi).wpIn Fence.wide n Try.prog Q { a with defers := { target := .collected w.heap.size, args := #[] } :: a.defers } W) :
    (Code.rangeFunc g ps assign body).wpIn Fence.wide n Try.prog Q a w := by
  refine wpIn_rangeFunc ?_
  intro fn hfn
  obtain ⟨D, hD⟩ : ∃ D, w.heap.size = D := ⟨_, rfl⟩
  rw [hD] at hI hIx hIb hbody hdone hstop hbrk
  obtain ⟨rec, hrec⟩ : ∃ rec : LoopState → Option Code → Loop, rec = fun st pe => { state := st, pending := pe, fn, tmps := a.tmps, params := ps, assign, body, defers := D } := ⟨_, rfl⟩
  have hBD : B < D := by rw [← hD]; exact hB.lt
  have sz : ((w.alloc (.deferred (some []))).alloc (.loop (rec .ready none))).heap.size = D + 2 := by simp [hD]
  have hL1 : ((w.alloc (.deferred (some []))).alloc (.loop (rec .ready none))).heap[D + 1]? = some (.loop (rec .ready none)) := by
    have := World.alloc_heap_new (w.alloc (.deferred (some []))) (.loop (rec .ready none))
    rwa [World.size_alloc, hD] at this
  have hK1 : ((w.alloc (.deferred (some []))).alloc (.loop (rec .ready none))).heap[D]? = some (.deferred (some [])) :=
    (Below.heap_alloc _ _ _ (by simp; omega)).trans (by have := World.alloc_heap_new w (.deferred (some [])); rwa [hD] at this)
  have hI1 : I [] ((w.alloc (.deferred (some []))).alloc (.loop (rec .ready none))) := hI _ _ _ h0 (((Keep.refl _ w).alloc _).alloc _)
  have hB1 : Bk ((w.alloc (.deferred (some []))).alloc (.loop (rec .ready none))) B 38 #[.int .u64 s] := (hB.alloc _).alloc _
  have hent := run_enterLoop_outer (P := Try.prog) (w := w) fn a.tmps ps assign body
  rw [hD] at hent
  have hent' : (Instr.enterLoop fn a.tmps ps assign body Fence.wide.round).run Try.prog w = .ok (D + 1, [{ target := .collected D, args := #[] }]) ((w.alloc (.deferred (some []))).alloc (.loop (rec .ready none))) := by
    rw [hrec]; exact hent
  generalize (w.alloc (.deferred (some []))).alloc (.loop (rec .ready none)) = W1 at *
  clear hent
  refine ⟨D + 1, _, W1, { target := .fn (.func 69) #[.pointer (some ⟨B, 0, none⟩)], args := #[.func (.yield (D + 1)) #[] #[]] }, W1, 69,
    #[.func (.yield (D + 1)) #[] #[], .pointer (some ⟨B, 0, none⟩)], W1, hent', ?_, fun _ _ => trivial, ?_, fun h => absurd h (by decide), ?_⟩
  · simp only [resolve, hg]
    simp [go_sem]
  · simp [invoke, go_sem]
  · refine (members1_in (n - 1) (D + 1) B (by omega) s hs
      (fun pre W => I pre W ∧ W.heap[D + 1]? = some (.loop (rec .ready none)) ∧ W.heap[D]? = some (.deferred (some [])))
      (fun pre W => (Ix pre W ∧ W.heap[D + 1]? = some (.loop (rec .done (some .ret))) ∧ W.heap[D]? = some (.deferred (some []))) ∨ (Ib pre W ∧ W.heap[D + 1]? = some (.loop (rec .done (some (.exit bi)))) ∧ W.heap[D]? = some (.deferred (some []))))
      ?_ W1 hB1 ⟨hI1, hL1, hK1⟩).mono ?_
    · rintro pre x W hpx ⟨hi, hl, hk⟩
      have hlt : D + 1 < W.heap.size := (Array.getElem?_eq_some_iff.1 hl).1
      have hy := run_yield (P := Try.prog) (args := #[.int .i64 (x : Nat)]) hl (by rw [hrec]; exact hps.symm)
      rw [hrec] at hy
      have e1 : Eb B D (D + 1) := .inr (.inr rfl)
      refine ⟨fn, _, assign, body, hy, roundIn_of_wpIn hfn (hassign _ x W _ ⟨_, run_beginRound hl (by rw [hrec]), ?_⟩)⟩
      have hl2 : (W.putObj (D + 1) (.loop { rec .ready none with state := .busy })).heap[D + 1]? = some (.loop { rec .ready none with state := .busy }) := World.putObj_heap_same hlt
      have hk2 : (W.putObj (D + 1) (.loop { rec .ready none with state := .busy })).heap[D]? = some (.deferred (some [])) := (World.putObj_heap_other (by omega)).trans hk
      have hb2 : (W.putObj (D + 1) (.loop { rec .ready none with state := .busy })).heap[B]? = W.heap[B]? := World.putObj_heap_other (by omega)
      have hs2 : (W.putObj (D + 1) (.loop { rec .ready none with state := .busy })).heap.size = W.heap.size := by simp
      have hi2 := hI _ _ _ hi (keep_put (W := W) (.loop { rec .ready none with state := .busy }) e1)
      generalize W.putObj (D + 1) (.loop { rec .ready none with state := .busy }) = W2 at *
      refine wpIn_mono (hbody _ pre x W2 hpx hi2 (by omega) (by omega)) ?_
      have fin : ∀ (jump : Option Code) (W3 : World), Same3 B D W2 W3 →
          (Instr.endRound (D + 1) jump).run Try.prog W3 = .ok (.bool jump.isNone) (W3.putObj (D + 1) (.loop (rec (if jump.isNone then .ready else .done) jump))) ∧
          (W3.putObj (D + 1) (.loop (rec (if jump.isNone then .ready else .done) jump))).heap[D + 1]? = some (.loop (rec (if jump.isNone then .ready else .done) jump)) ∧
          (W3.putObj (D + 1) (.loop (rec (if jump.isNone then .ready else .done) jump))).heap[D]? = some (.deferred (some [])) ∧
          (W3.putObj (D + 1) (.loop (rec (if jump.isNone then .ready else .done) jump))).heap[B]? = W.heap[B]? := fun jump W3 h3 => by
        have hl3 := (h3 _ e1).trans hl2
        have := run_endRound (P := Try.prog) jump hl3
        rw [hrec] at this ⊢
        exact ⟨this, World.putObj_heap_same (Array.getElem?_eq_some_iff.1 hl3).1, (World.putObj_heap_other (by omega)).trans ((h3 _ (.inr (.inl rfl))).trans hk2), (World.putObj_heap_other (by omega)).trans ((h3 _ (.inl rfl)).trans hb2)⟩
      rintro e a3 W3 hp
      cases e with
      | normal =>
        obtain ⟨h3, hi3⟩ := hp
        obtain ⟨hr, hl4, hk4, hb4⟩ := fin none W3 h3
        exact ⟨_, _, hr, .inl ⟨rfl, ⟨hI _ _ _ hi3 (keep_put _ e1), hl4, hk4⟩, hb4⟩⟩
      | ret =>
        obtain ⟨h3, hi3⟩ := hp
        obtain ⟨hr, hl4, hk4, -⟩ := fin (some .ret) W3 h3
        exact ⟨_, _, hr, .inr ⟨rfl, .inl ⟨hIx _ _ _ hi3 (keep_put _ e1), hl4, hk4⟩⟩⟩
      | exit id =>
        obtain ⟨h3, rfl, hi3⟩ := hp
        obtain ⟨hr, hl4, hk4, -⟩ := fin (some (.exit id)) W3 h3
        exact ⟨_, _, hr, .inr ⟨rfl, .inr ⟨hIb _ _ _ hi3 (keep_put _ e1), hl4, hk4⟩⟩⟩
      | goto t => exact hp.elim
      | panic ch => exact hp.elim
      | outgrown => exact hp.elim
    · rintro e W2 ⟨⟨v, rfl⟩, (⟨hi, hl, hk⟩ | ⟨pre, hp, (⟨hi, hl, hk⟩ | ⟨hi, hl, hk⟩)⟩)⟩
      · have := run_endLoop (P := Try.prog) hl (by rw [hrec]; simp)
        rw [hrec] at this
        exact ⟨none, _, this, hdone _ (hI _ _ _ hi (keep_put _ (.inr (.inr rfl)))) ((World.putObj_heap_other (by omega)).trans hk)⟩
      · have := run_endLoop (P := Try.prog) hl (by rw [hrec]; simp)
        rw [hrec] at this
        exact ⟨some .ret, _, this, hstop pre _ (hIx _ _ _ hi (keep_put _ (.inr (.inr rfl)))) ((World.putObj_heap_other (by omega)).trans hk)⟩
      · have := run_endLoop (P := Try.prog) hl (by rw [hrec]; simp)
        rw [hrec] at this
        exact ⟨some (.exit bi), _, this, hbrk pre _ (hIb _ _ _ hi (keep_put _ (.inr (.inr rfl)))) ((World.putObj_heap_other (by omega)).trans hk)⟩
theorem each_at {g : Operand} {ps : Array Tmp} {assign body : Code} {Q : Exit → Act → World → Prop} {a : Act} {w : World} {n B s : Nat} (D : Nat) (hD : w.heap.size = D) (h2 : 2 ≤ n) (hs : s < 18446744073709551616)
    (hg : a.eval g = .func (.func 69) #[] #[.pointer (some ⟨B, 0, none⟩)]) (hB : Bk w B 38 #[.int .u64 s]) (hps : ps.size = 1)
    (bi : Nat) (I Ix Ib : List Nat → World → Prop) (hI : ∀ pre W W', I pre W → Keep (Eb B D) W W' → I pre W') (hIx : ∀ pre W W', Ix pre W → Keep (Eb B D) W W' → Ix pre W') (hIb : ∀ pre W W', Ib pre W → Keep (Eb B D) W W' → Ib pre W')
    (h0 : I [] w) (a₁ : Nat → Act)
    (hassign : ∀ (l : Nat) (x : Nat) (W : World) (K : Act → World → Prop), K (a₁ x) W →
      assign.wpIn (Fence.wide.inRound l) (n - 1 - 1) Try.prog (Exit.then K (fun _ _ _ => False)) { tmps := (ps.zip #[Value.int .i64 (x : Nat)]).foldl (fun t (p, v) => t.setIfInBounds p v) a.tmps, defers := [] } W)
    (hbody : ∀ (l : Nat) (pre : List Nat) (x : Nat) (W : World), pre ++ [x] <+: mem s → I pre W → B < W.heap.size → D + 1 < W.heap.size → body.wpIn (Fence.wide.inRound l) (n - 1 - 1) Try.prog (ePost B D bi I Ix Ib (pre ++ [x]) W) (a₁ x) W)
    (hdone : ∀ W : World, I (mem s) W → W.heap[D]? = some (.deferred (some [])) → Q .normal { a with defers := { target := .collected D, args := #[] } :: a.defers } W)
    (hstop : ∀ (pre : List Nat) (W : World), Ix pre W → W.heap[D]? = some (.deferred (some [])) → Code.ret.wpIn Fence.wide n Try.prog Q { a with defers := { target := .collected D, args := #[] } :: a.defers } W)
    (hbrk : ∀ (pre : List Nat) (W : World), Ib pre W → W.heap[D]? = some (.deferred (some [])) → (Code.exit bi).wpIn Fence.wide n Try.prog Q { a with defers := { target := .collected D, args := #[] } :: a.defers } W) :
    (Code.rangeFunc g ps assign body).wpIn Fence.wide n Try.prog Q a w := by
  subst hD
  exact each_range h2 hs hg hB hps bi I Ix Ib hI hIx hIb h0 a₁ hassign hbody hdone hstop hbrk
end Go.Proofs.Ytmjdbbfoihadoaa
namespace Go.Proofs.Ytmjdbbfoihadoaa
open Go.RowKit Go.Shelf
open Ev
attribute [local go_sem] Oper.semAt_some

theorem bk_set {w : World} {g : Nat} {t : TypeId} {v : Value} (h : Bk w g t #[v]) (u : Value) : Bk (w.setCell ⟨g, 0, none⟩ u) g t #[u] := h.put 0 u
theorem keep_end {w W : World} {D : Nat} (h : Keep NoF w W) (hD : w.heap.size ≤ D) (o : Obj) : Keep NoF w (W.putObj D o) :=
  h.trans (G := fun k => k = D) ⟨rfl, rfl, rfl, by simp, fun k _ hk => World.putObj_heap_other hk⟩ fun i hi e => absurd hi (by omega)
theorem same3_set {B D b : Nat} {W W' : World} (h : Same3 B D W W') (hb : ¬ Eb B D b) (u : Value) : Same3 B D W (W'.setCell ⟨b, 0, none⟩ u) := fun k hk =>
  (Below.heap_setCell _ _ _ _ (by rintro rfl; exact hb hk)).trans (h k hk)
theorem keep_book {w W W' : World} {B D : Nat} (h : Keep NoF w W) (hk : Keep (Eb B D) W W') (hB : w.heap.size ≤ B) (hD : B < D) : Keep NoF w W' :=
  h.trans hk fun i hi he => by rcases he with rfl | rfl | rfl <;> omega
theorem bk_putD {W : World} {g D : Nat} {t : TypeId} {cs : Array Value} (h : Bk W g t cs) (o : Obj) (hg : g ≠ D) : Bk (W.putObj D o) g t cs := (World.putObj_heap_other hg).trans h
theorem mem_len (s : Nat) : (mem s).length ≤ 64 := memTo_len s 64

/-- The cells of claims. -/
def clC (c : Cl) : List Value := [.int .i64 c.w, .int .i64 c.k, .bool c.h]
def clsC (l : List Cl) : List Value := l.flatMap clC
theorem clsC_app (l m : List Cl) : clsC (l ++ m) = clsC l ++ clsC m := List.flatMap_append
theorem clsC_len (l : List Cl) : (clsC l).length = l.length * 3 := by
  unfold clsC
  induction l with
  | nil => rfl
  | cons a l ih => rw [List.flatMap_cons, List.length_append, ih, List.length_cons]; show 3 + l.length * 3 = _; omega
theorem clsC_one (l : List Cl) : ∀ u ∈ clsC l, u.oneCell' = true := by
  intro u hu
  unfold clsC at hu
  rw [List.mem_flatMap] at hu
  obtain ⟨c, -, hc⟩ := hu
  unfold clC at hc
  simp only [List.mem_cons, List.not_mem_nil, or_false] at hc
  rcases hc with rfl | rfl | rfl <;> rfl
theorem infoClaim : (Try.prog.info? 59).map (fun i => (i.zero, i.size, i.bytes)) = some (some (.agg #[.int .i64 0, .int .i64 0, .bool false]), 3, 24) := by kernel_rfl
theorem elemClaim : ElemT Try.prog 57 59 (.agg #[.int .i64 0, .int .i64 0, .bool false]) 3 24 := by
  refine ⟨Try.underlying57, ?_, rfl, by decide⟩
  have h := infoClaim
  cases hi : Try.prog.info? 59 with
  | none => rw [hi] at h; cases h
  | some i => rw [hi] at h; simp only [Option.map_some, Option.some.injEq, Prod.mk.injEq] at h; exact ⟨i, rfl, h.1, h.2.1, h.2.2⟩
theorem clsC_at {w : World} {b : Nat} {t : TypeId} (l : List Cl) (h : Bk w b t (clsC l).toArray) : ∀ j u, (clsC l)[j]? = some u → w.cell? ((⟨b, 0, none⟩ : Addr).add j) = some u := fun j u hj => by
  rw [Addr.add_lit, Nat.zero_add]
  exact (h.cell j).trans (by rw [List.getElem?_toArray]; exact hj)

def eachC (k : Int) (h : Bool) (l : List Nat) : List Cl := l.map fun (v : Nat) => (⟨(v : Int), k, h⟩ : Cl)
def EachI (w : World) (k : Int) (h : Bool) (xs : List Nat) (W : World) : Prop :=
  ∃ v, Bk W (w.heap.size + 2) 57 #[v] ∧ W.ownsRow (w.heap.size + 6) 59 3 v xs.length (clsC (eachC k h xs)) ∧ Bk W w.heap.size 3 #[.int .i64 k] ∧ Bk W (w.heap.size + 1) 4 #[.bool h] ∧ Keep NoF w W
/-- What is left: a slice of the call's own that holds claims. -/
def ClsPost (w : World) (l : List Cl) (e : Ending) (w' : World) : Prop := ∃ v, e = .returned v ∧ w'.ownsRow w.heap.size 59 3 v l.length (clsC l) ∧ Keep NoF w w'
section
set_option maxRecDepth 100000
set_option maxHeartbeats 1000000
theorem eveach_any (s : Nat) (k : Int) (h : Bool) (hs : s < 18446744073709551616) (w : World) :
    Calls Try.prog 37 #[.int .u64 s, .int .i64 k, .bool h] w (ClsPost w (eachL s k h)) := by
  have hml := mem_len s
  have hmix : Try.prog.follows .mixedOrders = true := by kernel_rfl
  refine (callsIn_wide (n := 3)).1 ?_
  refine callsIn_of_wp_marks Try.func37 rfl trivial ?_ rfl
  simp only [Try.ntmps37, List.size_toArray, List.length_cons, List.length_nil, Nat.reduceAdd, Nat.reduceSub, Array.replicate_succ, Array.replicate_zero, List.push_toArray, List.append_toArray, List.nil_append, List.cons_append]
  gi_wp2_with (refine ⟨trivial, ?_⟩; gi_at_call 58; refine (callsIn_wide.2 (evmembers_any s _)).mono ?_; rintro e w' ⟨rfl, rfl⟩)
  refine each_at (n := 3) (B := w.heap.size + 3) (s := s) (w.heap.size + 4) (by simp) (by omega) hs rfl (by simpa using Bk.new (((w.alloc (.cells #[.int .i64 k] 3)).alloc (.cells #[.bool h] 4)).alloc (.cells #[.slice none 0 0] 57)) 38 #[.int .u64 s]) rfl
    0 (EachI w k h) (fun _ _ => False) (fun _ _ => False) ?hI (fun _ _ _ h _ => h.elim) (fun _ _ _ h _ => h.elim) ?h0
    (fun x => { tmps := #[.int .u64 s, .int .i64 k, .bool h, undef, .pointer (some ⟨w.heap.size, 0, none⟩), .pointer (some ⟨w.heap.size + 1, 0, none⟩), .slice none 0 0, .pointer (some ⟨w.heap.size + 2, 0, none⟩), .int .i64 (x : Nat), .int .u64 s, .func (.func 69) #[] #[.pointer (some ⟨w.heap.size + 3, 0, none⟩)], .int .i64 (x : Nat), undef, undef, undef, undef, undef, undef, undef, undef], defers := [] }) ?assign ?body ?done ?stop ?brk
  case hI =>
    rintro pre W W' ⟨v, h0, h1, h2, h3, hk⟩ hb
    refine ⟨v, h0.keep hb (by rintro (h | h | h) <;> omega), own_keep h1 fun k hkv => hb.block k (h1.lt k hkv).2 fun he => ?_, h2.keep hb (by rintro (h | h | h) <;> omega), h3.keep hb (by rintro (h | h | h) <;> omega), keep_book hk hb (by omega) (by omega)⟩
    have := (h1.lt k hkv).1
    rcases he with rfl | rfl | rfl <;> omega
  case h0 =>
    refine ⟨.slice none 0 0, ?_, World.ownsRow_nil _ _ _ _, ((Bk.new w 3 #[.int .i64 k]).alloc _).alloc _ |>.alloc _, (((by simpa using Bk.new (w.alloc (.cells #[.int .i64 k] 3)) 4 #[.bool h] : Bk _ (w.heap.size + 1) _ _).alloc _).alloc _), ((((Keep.refl _ w).alloc _).alloc _).alloc _).alloc _⟩
    exact (by simpa using Bk.new ((w.alloc (.cells #[.int .i64 k] 3)).alloc (.cells #[.bool h] 4)) 57 #[.slice none 0 0] : Bk _ (w.heap.size + 2) _ _).alloc _
  case assign =>
    intro l x W K hK
    gi_wp2
    exact hK
  case body =>
    rintro l pre x W hpx ⟨v, hv, ho, hb0, hb1, hk⟩ hBW hDW
    have hlen : pre.length + 1 ≤ 64 := by
      have := hpx.length_le
      simp at this
      omega
    have hc0 := hv.cell 0
    have hf0 := hv.frozen 0
    have hc1 := hb0.cell 0
    have hc2 := hb1.cell 0
    have hob : ∀ k, v.ownBlock = some k → w.heap.size + 6 ≤ k ∧ k < W.heap.size := ho.lt
    obtain ⟨i0, hi, hz0, hz1, hz2⟩ := elemClaim.info
    have hbn := Bk.new W 59 #[.int .i64 (x : Nat), .int .i64 k, .bool h]
    gi_wp2_with (gi_at_builtin
                 refine wpListIn_append_own _ rfl _ _ 57 rfl (w.heap.size + 6) 59 i0 (.agg #[.int .i64 0, .int .i64 0, .bool false]) 3 24 Try.underlying57 hi hz0 hz1 hz2 rfl (by decide) _ _ _ rfl (ho.alloc _) ⟨W.heap.size, 0, none⟩ 1 1 (clsC [⟨(x : Nat), k, h⟩]) rfl rfl (clsC_at [⟨(x : Nat), k, h⟩] hbn) (clsC_one _) (by simp [maxLen]; omega) (by omega) (by simp; omega) ?_
                 intro v' w1 hown' hgrow _
                 obtain ⟨g', cap', rfl⟩ := ownsRow_succ hown'
                 have hv1 := (hv.alloc (.cells #[.int .i64 (x : Nat), .int .i64 k, .bool h] 59)).grown hgrow (fun e => by have := (hob _ e.symm).1; omega)
                 have hc1 := hv1.cell 0
                 have hf1 := hv1.frozen 0)
    refine ⟨fun k hk3 => ?_, _, bk_set hv1 _, ?_, ((hb0.alloc _).grown hgrow (fun e => by have := (hob _ e.symm).1; omega)).far (by simp) _, ((hb1.alloc _).grown hgrow (fun e => by have := (hob _ e.symm).1; omega)).far (by simp) _, ?_⟩
    · have hkW : k < W.heap.size := by rcases hk3 with rfl | rfl | rfl <;> omega
      have hkb : k ≠ w.heap.size + 2 := by rcases hk3 with rfl | rfl | rfl <;> omega
      refine (Below.heap_setCell _ _ _ _ hkb).trans ((hgrow.block k (by simp; omega) fun e => ?_).trans (Below.heap_alloc _ _ _ hkW))
      have := (hob _ e.symm).1
      rcases hk3 with rfl | rfl | rfl <;> omega
    · rw [show (pre ++ [x]).length = pre.length + 1 by simp]
      have e : clsC (eachC k h (pre ++ [x])) = clsC (eachC k h pre) ++ clsC [⟨(x : Nat), k, h⟩] := by rw [eachC, List.map_append, clsC_app]; rfl
      rw [e]
      exact own_keep hown' fun k hkv => Below.heap_setCell _ _ _ _ (by
        have := (hown'.lt k hkv).1
        simp
        omega)
    · exact (((hk.alloc _).grown hgrow fun k e => .inr (by have := (hob _ e).1; omega)).setCell (.inr (by simp)) _)
  case done =>
    rintro W ⟨v, hv, ho, -, -, hk⟩ hD
    have hc0 := hv.cell 0
    have hf0 := hv.frozen 0
    gi_wp2
    refine ⟨by simp, .inl ⟨_, _, rfl, run_takeDeferred hD, ?_⟩⟩
    have he : (mem s).length = (eachL s k h).length := by simp [eachL]
    exact ⟨_, results_tmp rfl _ _ _, _, rfl, he ▸ own_base (ownsRow_putObj ho _ hD rfl) (by omega), keep_end hk (by omega) _⟩
  case stop =>
    intro pre W h _
    exact h.elim
  case brk =>
    intro pre W h _
    exact h.elim
end
end Go.Proofs.Ytmjdbbfoihadoaa
namespace Go.Proofs.Ytmjdbbfoihadoaa
open Go.RowKit
open Ev
open Fm (Nd)
attribute [local go_sem] Oper.semAt_some

theorem clsC_pt : ∀ (l : List Cl) (k : Nat) (x : Cl), l[k]? = some x → ∀ j, j < 3 → (clsC l)[k * 3 + j]? = (clC x)[j]?
  | [], _, _, h, _, _ => by simp at h
  | a :: l, 0, x, h, j, hj => by
    obtain rfl : a = x := by simpa using h
    have e : clsC (a :: l) = clC a ++ clsC l := rfl
    rw [e, Nat.zero_mul, Nat.zero_add, List.getElem?_append_left (by show j < 3; exact hj)]
  | a :: l, k + 1, x, h, j, hj => by
    have e : clsC (a :: l) = clC a ++ clsC l := rfl
    have h3 : (clC a).length = 3 := rfl
    rw [e, List.getElem?_append_right (by rw [h3]; omega), h3, show (k + 1) * 3 + j - 3 = k * 3 + j by omega]
    exact clsC_pt l k x (by simpa using h) j hj
theorem Rd.cl {w : World} {A : Option Addr} {m c : Nat} {l : List Cl} (h : Rd w (.slice A m c) 3 l.length (clsC l)) {k : Nat} {x : Cl} (hk : l[k]? = some x) :
    m = l.length ∧ l.length ≤ c ∧ ∃ bl off, A = some ⟨bl, off, none⟩ ∧ w.cell? ⟨bl, off + k * 3, none⟩ = some (.int .i64 x.w) ∧ w.cell? ⟨bl, off + k * 3 + 1, none⟩ = some (.int .i64 x.k) ∧ w.cell? ⟨bl, off + k * 3 + 2, none⟩ = some (.bool x.h) := by
  have hlt : k < l.length := (List.getElem?_eq_some_iff.1 hk).1
  obtain ⟨hm, hc', bl, off, rfl, hc⟩ := h.at_ (by omega)
  have g : ∀ j v, j < 3 → (clC x)[j]? = some v → w.cell? ⟨bl, off + k * 3 + j, none⟩ = some v := fun j v hj hv => by
    have := hc (k * 3 + j) v (by rw [clsC_pt l k x hk j hj]; exact hv)
    rwa [← Nat.add_assoc] at this
  exact ⟨hm, hc', bl, off, rfl, g 0 _ (by omega) rfl, g 1 _ (by omega) rfl, g 2 _ (by omega) rfl⟩
theorem Rd.of_cls {w : World} {b : Nat} {t : TypeId} (l : List Cl) (h : Bk w b t (clsC l).toArray) : Rd w (.slice (some ⟨b, 0, none⟩) l.length l.length) 3 l.length (clsC l) :=
  ⟨clsC_len l, _, _, rfl, Nat.le_refl _, fun _ => ⟨b, 0, rfl, fun j u hj => (h.cell _).trans (by rw [Nat.zero_add, List.getElem?_toArray]; exact hj)⟩⟩

theorem cl_stood : Try.prog.stoodInHeld 59 = false := by kernel_rfl
theorem cl_guard : Try.prog.eqGuardType Try.prog.depth 59 = false := by kernel_rfl
abbrev clV (a : Cl) : Value := .agg #[.int .i64 a.w, .int .i64 a.k, .bool a.h]
theorem cl_dec (a b : Cl) : decide (a = b) = (a.w == b.w && (a.k == b.k && a.h == b.h)) := by
  obtain ⟨a1, a2, a3⟩ := a
  obtain ⟨b1, b2, b3⟩ := b
  rw [Bool.eq_iff_iff]
  simp
theorem run_cl_neq (a b : Cl) (w : World) : (binOp .neq 59 (clV a) (clV b)).run Try.prog w = .ok (.bool (!decide (a = b))) w := by
  have hp := cl_stood
  rw [cl_dec]
  obtain ⟨a1, a2, a3⟩ := a
  obtain ⟨b1, b2, b3⟩ := b
  cases e1 : a1 == b1 <;> cases e2 : a2 == b2 <;> cases a3 <;> cases b3 <;> simp [go_sem, hp, e1, e2]
theorem run_cl_eql (a b : Cl) (w : World) : (binOp .eql 59 (clV a) (clV b)).run Try.prog w = .ok (.bool (decide (a = b))) w := by
  have hp := cl_stood
  rw [cl_dec]
  obtain ⟨a1, a2, a3⟩ := a
  obtain ⟨b1, b2, b3⟩ := b
  cases e1 : a1 == b1 <;> cases e2 : a2 == b2 <;> cases a3 <;> cases b3 <;> simp [go_sem, hp, e1, e2]
instance : Inhabited Cl := ⟨⟨0, 0, false⟩⟩
def clAt (l : List Cl) (k : Nat) : Cl := l.getD k default
theorem clAt_eq {l : List Cl} {k : Nat} (h : k < l.length) : l[k]? = some (clAt l k) := by
  unfold clAt
  rw [List.getD_eq_getElem?_getD, List.getElem?_eq_getElem h]
  rfl
theorem cl_ext (R S : List Cl) (hl : R.length = S.length) (h : ∀ j, j < R.length → clAt R j = clAt S j) : R = S := by
  apply List.ext_getElem?
  intro i
  by_cases hi : i < R.length
  · rw [clAt_eq hi, clAt_eq (by omega), h i hi]
  · rw [List.getElem?_eq_none (by omega), List.getElem?_eq_none (by omega)]

section
set_option maxRecDepth 100000
set_option maxHeartbeats 1000000
theorem slEqC_any (R S : List Cl) (A B : Option Addr) (c d : Nat) (w : World) (h1 : Rd w (.slice A R.length c) 3 R.length (clsC R)) (h2 : Rd w (.slice B S.length d) 3 S.length (clsC S)) (hR : R.length ≤ 1000000000000) (hS : S.length ≤ 1000000000000) :
    Calls Try.prog 32 #[.slice A R.length c, .slice B S.length d] w fun e w' => e = .returned (.bool (decide (R = S))) ∧ Keep NoF w w' := by
  by_cases hl : R.length = S.length
  · have e0 : ((R.length : Int) != (S.length : Int)) = false := by simp; omega
    have HL := Lib.hid hl
    have hle : R.length ≤ S.length := by omega
    clear hl
    go_enter Try.func32, Try.ntmps32
    go_wp2
    go_loopw [5, 13] (fun _ i wr => ∃ k : Nat, i = .int .i64 k ∧ k ≤ R.length ∧ Hid (∀ j, j < k → clAt R j = clAt S j) ∧ Keep NoF w wr) (fun _ i _ => R.length - (intOf i).toNat)
    case atStart => exact ⟨0, rfl, by omega, Lib.hid fun j hj => by omega, Keep.refl _ _⟩
    case round =>
      obtain ⟨k, rfl, hk, hp, hkw⟩ := hrel
      by_cases hlt : k < R.length
      · obtain ⟨_, hc1, bl, off, rfl, x0, x1, x2⟩ := (h1.kept hkw fun _ _ h => h).cl (clAt_eq hlt)
        obtain ⟨_, hc2, bm, ofg, rfl, y0, y1, y2⟩ := (h2.kept hkw fun _ _ h => h).cl (clAt_eq (l := S) (k := k) (by omega))
        have b1 : (0 : Int) ≤ (k : Int) := by omega
        have b2 : (k : Int) < (R.length : Int) := by omega
        have b3 : (k : Int) < (S.length : Int) := by omega
        generalize hr : clAt R k = r at *
        generalize hs : clAt S k = s at *
        have HR := Lib.hid hr
        have HS := Lib.hid hs
        clear hr hs
        have hsd := cl_guard
        have hneq := run_cl_neq r s
        generalize hdd : decide (r = s) = dd at *
        have HDD := Lib.hid hdd
        clear hdd
        obtain ⟨r1, r2, r3⟩ := r
        obtain ⟨s1, s2, s3⟩ := s
        simp only [clV] at x0 x1 x2 y0 y1 y2 hneq
        go_wp2
        go_quiet (fail)
        cases dd
        · go_wp2
          go_ret
          have hne : decide (R = S) = false := by
            rw [decide_eq_false_iff_not]
            intro h
            have h1 := HDD.out
            rw [decide_eq_false_iff_not] at h1
            exact h1 (HR.out.symm.trans ((congrArg (clAt · k) h).trans HS.out))
          rw [hne]
          exact ⟨rfl, hkw.drewN _⟩
        · go_wp2
          go_roundw
          case rel =>
            refine ⟨k + 1, by go_num, by omega, Lib.hid fun j hj => ?_, hkw.drewN _⟩
            by_cases hjk : j = k
            · rw [hjk, HR.out, HS.out]
              exact of_decide_eq_true HDD.out
            · exact hp.out j (by omega)
          case measure => simp [intOf]; omega
      · go_wp2
        go_ret
        have he : decide (R = S) = true := decide_eq_true (cl_ext R S HL.out fun j hj => hp.out j (by omega))
        rw [he]
        exact ⟨rfl, hkw⟩
  · have e0 : ((R.length : Int) != (S.length : Int)) = true := by simp; omega
    have e1 : decide (R = S) = false := by simp; exact fun h => hl (by rw [h])
    rw [e1]
    go_enter Try.func32, Try.ntmps32
    go_wp2
    go_ret
    exact ⟨rfl, Keep.refl _ _⟩
theorem evfollows2_any (wd nx : Int) (h : Bool) (bw bn : Nat) (w : World) (c0 : w.cell? ⟨bw, 0, none⟩ = some (.int .i64 wd)) (c4 : w.cell? ⟨bn, 4, none⟩ = some (.int .i64 nx)) :
    Calls Try.prog 33 #[.bool h, .pointer (some ⟨bw, 0, none⟩), .pointer (some ⟨bn, 0, none⟩)] w fun e w' => e = .returned (.agg #[.int .i64 wd, .int .i64 nx, .bool h]) ∧ Keep NoF w w' := by
  have k1 : Keep NoF w (w.alloc (.cells #[.int .i64 0, .int .i64 0, .bool false] 59)) := (Keep.refl _ _).alloc _
  have d0 := k1.cellv c0 fun h => h
  have d4 := k1.cellv c4 fun h => h
  have HK := Lib.hid ((Keep.refl NoF w).alloc (.cells #[.int .i64 wd, .int .i64 nx, .bool h] 59))
  clear c0 c4 k1
  go_enter Try.func33, Try.ntmps33
  go_wp2
  exact bodyPost_ret (v := .agg #[.int .i64 wd, .int .i64 nx, .bool h]) (by simp [results, Try.results33, go_sem]) rfl ⟨rfl, HK.out⟩
theorem evfollows3_any (wd nx : Int) (h : Bool) (bw bn : Nat) (w : World) (c0 : w.cell? ⟨bw, 0, none⟩ = some (.int .i64 wd)) (c4 : w.cell? ⟨bn, 5, none⟩ = some (.int .i64 nx)) :
    Calls Try.prog 34 #[.bool h, .pointer (some ⟨bw, 0, none⟩), .pointer (some ⟨bn, 0, none⟩)] w fun e w' => e = .returned (.agg #[.int .i64 wd, .int .i64 nx, .bool h]) ∧ Keep NoF w w' := by
  have k1 : Keep NoF w (w.alloc (.cells #[.int .i64 0, .int .i64 0, .bool false] 59)) := (Keep.refl _ _).alloc _
  have d0 := k1.cellv c0 fun h => h
  have d4 := k1.cellv c4 fun h => h
  have HK := Lib.hid ((Keep.refl NoF w).alloc (.cells #[.int .i64 wd, .int .i64 nx, .bool h] 59))
  clear c0 c4 k1
  go_enter Try.func34, Try.ntmps34
  go_wp2
  exact bodyPost_ret (v := .agg #[.int .i64 wd, .int .i64 nx, .bool h]) (by simp [results, Try.results34, go_sem]) rfl ⟨rfl, HK.out⟩
theorem evfollows1_any (R S : List Cl) (A B : Option Addr) (c d bf : Nat) (w : World) (c0 : w.cell? ⟨bf, 0, none⟩ = some (.slice A R.length c)) (h1 : Rd w (.slice A R.length c) 3 R.length (clsC R)) (h2 : Rd w (.slice B S.length d) 3 S.length (clsC S)) (hR : R.length ≤ 1000000000000) (hS : S.length ≤ 1000000000000) :
    Calls Try.prog 31 #[.slice B S.length d, .pointer (some ⟨bf, 0, none⟩)] w fun e w' => e = .returned (.bool (decide (R = S))) ∧ Keep NoF w w' := by
  have HE := Lib.hid (slEqC_any R S A B c d w h1 h2 hR hS)
  clear h1 h2 hR hS
  generalize decide (R = S) = dd at *
  go_enter Try.func31, Try.ntmps31
  go_wp2_with (go_at_call 32; (with_reducible refine HE.out.mono ?_); rintro e w' ⟨rfl, K1⟩)
  go_ret
  exact ⟨rfl, K1⟩
/-- A list of one claim, or two, that was just made. -/
theorem is_one (R : List Cl) (x : Cl) (A : Option Addr) (c bf : Nat) {w W : World} (hk : Keep NoF w W) (c0 : w.cell? ⟨bf, 0, none⟩ = some (.slice A R.length c)) (h1 : Rd w (.slice A R.length c) 3 R.length (clsC R)) (hR : R.length ≤ 1000000000000) :
    Calls Try.prog 31 #[.slice (some ⟨W.heap.size, 0, none⟩) 1 1, .pointer (some ⟨bf, 0, none⟩)] (W.alloc (.cells #[.int .i64 x.w, .int .i64 x.k, .bool x.h] 59)) fun e w' => e = .returned (.bool (decide (R = [x]))) ∧ Keep NoF w w' := by
  have k2 := hk.alloc (.cells #[.int .i64 x.w, .int .i64 x.k, .bool x.h] 59)
  exact (evfollows1_any R [x] A _ c 1 bf _ (k2.cellv c0 fun h => h) (h1.kept k2 fun _ _ h => h) (Rd.of_cls [x] (Bk.new W 59 #[.int .i64 x.w, .int .i64 x.k, .bool x.h])) hR (by simp)).mono fun e w' ⟨he, hw⟩ => ⟨he, k2.trans hw fun _ _ h => h⟩
theorem is_two (R : List Cl) (x y : Cl) (A : Option Addr) (c bf : Nat) {w W : World} (hk : Keep NoF w W) (c0 : w.cell? ⟨bf, 0, none⟩ = some (.slice A R.length c)) (h1 : Rd w (.slice A R.length c) 3 R.length (clsC R)) (hR : R.length ≤ 1000000000000) :
    Calls Try.prog 31 #[.slice (some ⟨W.heap.size, 0, none⟩) 2 2, .pointer (some ⟨bf, 0, none⟩)] (W.alloc (.cells #[.int .i64 x.w, .int .i64 x.k, .bool x.h, .int .i64 y.w, .int .i64 y.k, .bool y.h] 59)) fun e w' => e = .returned (.bool (decide (R = [x, y]))) ∧ Keep NoF w w' := by
  have k2 := hk.alloc (.cells #[.int .i64 x.w, .int .i64 x.k, .bool x.h, .int .i64 y.w, .int .i64 y.k, .bool y.h] 59)
  exact (evfollows1_any R [x, y] A _ c 2 bf _ (k2.cellv c0 fun h => h) (h1.kept k2 fun _ _ h => h) (Rd.of_cls [x, y] (Bk.new W 59 #[.int .i64 x.w, .int .i64 x.k, .bool x.h, .int .i64 y.w, .int .i64 y.k, .bool y.h])) hR (by simp)).mono fun e w' ⟨he, hw⟩ => ⟨he, k2.trans hw fun _ _ h => h⟩
end
end Go.Proofs.Ytmjdbbfoihadoaa
