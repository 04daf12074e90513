/- The iterator over the worlds of a set; a loop over it. Conditions: the library's table of trailing zeros lies in its variable. A loop over the worlds of a set: one rule for all such loops. Conditions: the library's table of trailing zeros lies in its variable. What the program's Members does. Conditions: the library's table of trailing zeros lies in its variable. What the program's Rename does. Conditions: the library's table of trailing zeros lies in its variable. What the program's Subset does. Conditions: the library's table of trailing zeros lies in its variable. A set as text: what the reference's Format does. No condition. -/
import Derived.Test.YtmnhgeggojgflaaGreatDoorWtB
import Derived.RangeFuncCalls
import Derived.RangeFuncBox
import Derived.RangeFuncLeaves
import Derived.Shelf.Abstract
import Derived.Shelf.RegionOpen
import Derived.OwnWalkIn
import Derived.TacticsInMore
import Derived.LoopNIn
import Derived.LoopIn
import Derived.Maps.AppendAt
import Derived.Test.YtmnhgeggojgflaaGreatDoorWtR
import Derived.Lib.ItoaNum
set_option linter.unusedVariables false
set_option linter.unusedSimpArgs false
namespace Go.Proofs.YtmnhgeggojgflaaGreatDoor.Ws
open Go.RowKit Go.Shelf
attribute [local go_sem] Oper.semAt_some

def leftE (B : Nat) (w : World) : Nat := match w.cell? ⟨B, 0, none⟩ with | some (.int _ x) => (mem x.toNat).length | _ => 0
theorem leftE_eq {w : World} {B s : Nat} {t : TypeId} (h : Bk w B t #[.int .u64 s]) : leftE B w = (mem s).length := by
  have := h.cell 0
  unfold leftE
  rw [this]
  simp
theorem and_lt64 {s t : Nat} (hs : s < 18446744073709551616) : s &&& t < 18446744073709551616 := Nat.lt_of_le_of_lt Nat.and_le_left hs

section
set_option maxRecDepth 100000
set_option maxHeartbeats 1000000
theorem each_any (s : Nat) (w : World) : Calls Tryz.prog 58 #[.int .u64 s] w fun e w' => e = .returned (.func (.func 94) #[] #[.pointer (some ⟨w.heap.size, 0, none⟩)]) ∧ w' = w.alloc (.cells #[.int .u64 s] 45) := by
  go_enter Tryz.func58, Tryz.ntmps58
  go_wp2
  go_ret
  exact ⟨rfl, rfl⟩

theorem each1_in (n l B : Nat) (hn : 1 ≤ n) (s : Nat) (hs : s < 18446744073709551616) (J Jx : List Nat → World → Prop)
    (hJ : ∀ pre W v, J pre W → J pre (W.setCell ⟨B, 0, none⟩ v)) (hT : ∀ pre W, J pre W → Tab W)
    (hY : ∀ pre x W, pre ++ [x] <+: mem s → J pre W → YieldAt Fence.wide (n - 1) Tryz.prog l #[.int .i64 (x : Nat)] W fun e W' =>
      (e = .returned (.bool true) ∧ J (pre ++ [x]) W' ∧ W'.heap[B]? = W.heap[B]?) ∨ (e = .returned (.bool false) ∧ Jx (pre ++ [x]) W'))
    (W : World) (hB : Bk W B 45 #[.int .u64 s]) (h0 : J [] W) :
    CallsIn Fence.wide n Tryz.prog 94 #[.func (.yield l) #[] #[], .pointer (some ⟨B, 0, none⟩)] W fun e W' => (∃ v, e = .returned v) ∧
      (J (mem s) W' ∨ ∃ pre, pre <+: mem s ∧ Jx pre W') := by
  refine callsIn_of_wp Tryz.func94 rfl trivial ?_ rfl
  simp only [Tryz.ntmps94, List.size_toArray, List.length_cons, List.length_nil, Nat.reduceAdd, Nat.reduceSub, Array.replicate_succ, Array.replicate_zero, List.push_toArray, List.append_toArray, List.nil_append, List.cons_append]
  gi_wp2
  gi_loopw [3] (fun _ wr => ∃ (s' : Nat) (pre : List Nat), s' < 18446744073709551616 ∧ mem s = pre ++ mem s' ∧ Bk wr B 45 #[.int .u64 s'] ∧ J pre wr) (fun _ wr => leftE B wr)
  case atStart => exact ⟨s, [], hs, rfl, hB, h0⟩
  case round =>
    obtain ⟨s', pre, hs', hm, hBr, hJr⟩ := hrel
    have HM := Lib.hid hm
    have hc0 : wr.cell? ⟨B, 0, none⟩ = some (.int .u64 s') := hBr.cell 0
    have hf0 : wr.frozen? ⟨B, 0, none⟩ = false := hBr.frozen 0
    clear hm
    by_cases hz : s' = 0
    · subst hz
      gi_wp2
      go_end0
      exact ⟨⟨_, rfl⟩, .inl (by rw [HM.out, mem_zero, List.append_nil]; exact hJr)⟩
    · have e0 : ((s' : Int) != 0) = true := by simp; omega
      have HS := Lib.hid (mem_step hz hs')
      have HT := Lib.hid (tz_any s' hs' wr (hT _ _ hJr))
      have HL := Lib.hid (leftE_eq hBr)
      have HV : Hid (bits BinOp.and IntKind.u64 (s' : Int) ((s' : Int) - 1) = ((s' &&& (s' - 1) : Nat) : Int)) := Lib.hid (by
        rw [show (s' : Int) - 1 = ((s' - 1 : Nat) : Int) by omega, bits_and_u64_nat _ _ hs' (by omega)])
      have hy := hY pre (Lib.ctz 64 s') wr ⟨mem (s' &&& (s' - 1)), by rw [HM.out, HS.out, List.append_assoc]; rfl⟩ hJr
      generalize Lib.ctz 64 s' = c at *
      obtain ⟨fn, tmps, assign, body, hy, hR⟩ := hy
      gi_wp2_with (refine ⟨trivial, ?_⟩; gi_at_call 95; refine (callsIn_wide.2 HT.out).mono ?_; rintro e w' ⟨rfl, hw'⟩; obtain rfl := hw'.symm)
      refine hR.mono ?_
      rintro e W3 (⟨rfl, hJ3, hk3⟩ | ⟨rfl, hJx3⟩)
      · have hB3 := hBr.block hk3
        have hc3 : W3.cell? ⟨B, 0, none⟩ = some (.int .u64 s') := hB3.cell 0
        have hf3 : W3.frozen? ⟨B, 0, none⟩ = false := hB3.frozen 0
        gi_wp2
        go_roundw
        case rel => exact ⟨s' &&& (s' - 1), pre ++ [c], and_lt64 hs', by rw [HM.out, HS.out, List.append_assoc]; rfl, by rw [HV.out]; exact hB3.put 0 _, hJ _ _ _ hJ3⟩
        case measure => rw [HV.out, leftE_eq (s := s' &&& (s' - 1)) (hB3.put 0 _), HL.out, HS.out]; simp
      · gi_wp2
        refine bodyPost_ret (results_none rfl _ _ _) rfl ?_
        exact ⟨⟨_, rfl⟩, .inr ⟨_, ⟨mem (s' &&& (s' - 1)), by rw [HM.out, HS.out, List.append_assoc]; rfl⟩, hJx3⟩⟩
end
end Go.Proofs.YtmnhgeggojgflaaGreatDoor.Ws
namespace Go.Proofs.YtmnhgeggojgflaaGreatDoor.Ws
open Go.RowKit Go.Shelf

/-- The three blocks of the loop's own: the set that is left, the deferred calls, the record. -/
def Eb (B D : Nat) : Nat → Prop := fun k => k = B ∨ k = D ∨ k = D + 1
def Same3 (B D : Nat) (W W' : World) : Prop := ∀ k, Eb B D k → W'.heap[k]? = W.heap[k]?
theorem Same3.refl (B D : Nat) (W : World) : Same3 B D W W := fun _ _ => rfl
theorem Same3.trans {B D : Nat} {W W1 W2 : World} (h : Same3 B D W W1) (k : Same3 B D W1 W2) : Same3 B D W W2 := fun i hi => (k i hi).trans (h i hi)
theorem Same3.keep {B D : Nat} {F : Nat → Prop} {W W' : World} (h : Keep F W W') (hB : B < W.heap.size) (hD : D + 1 < W.heap.size) (hf : ∀ k, F k → ¬ Eb B D k) : Same3 B D W W' := fun k hk => by
  refine h.block k ?_ fun hF => hf k hF hk
  rcases hk with rfl | rfl | rfl <;> omega
def ePost (B D : Nat) (I Ix : List Nat → World → Prop) (xs : List Nat) (W : World) : Exit → Act → World → Prop
  | .normal, _, W' => Same3 B D W W' ∧ I xs W'
  | .ret, _, W' => Same3 B D W W' ∧ Ix xs W'
  | .exit _, _, _ => False
  | .goto _, _, _ => False
  | .panic _, _, _ => False
  | .outgrown, _, _ => False

theorem keep_put {B D l : Nat} {W : World} (o : Obj) (h : Eb B D l) : Keep (Eb B D) W (W.putObj l o) :=
  ⟨rfl, rfl, rfl, by simp, fun k _ hk => World.putObj_heap_other fun e => hk (e ▸ h)⟩

theorem each_range {g : Operand} {ps : Array Tmp} {assign body : Code} {Q : Exit → Act → World → Prop} {a : Act} {w : World} {n B s : Nat} (h2 : 2 ≤ n) (hs : s < 18446744073709551616)
    (hg : a.eval g = .func (.func 94) #[] #[.pointer (some ⟨B, 0, none⟩)]) (hB : Bk w B 45 #[.int .u64 s]) (hps : ps.size = 1)
    (I Ix : List Nat → World → Prop) (hI : ∀ pre W W', I pre W → Keep (Eb B w.heap.size) W W' → I pre W') (hIx : ∀ pre W W', Ix pre W → Keep (Eb B w.heap.size) W W' → Ix pre W') (hT : ∀ pre W, I pre W → Tab W)
    (h0 : I [] w) (a₁ : Nat → Act)
    (hassign : ∀ (l : Nat) (x : Nat) (W : World) (K : Act → World → Prop), K (a₁ x) W →
      assign.wpIn (Fence.wide.inRound l) (n - 1 - 1) Tryz.prog (Exit.then K (fun _ _ _ => False)) { tmps := (ps.zip #[Value.int .i64 (x : Nat)]).foldl (fun t (p, v) => t.setIfInBounds p v) a.tmps, defers := [] } W)
    (hbody : ∀ (l : Nat) (pre : List Nat) (x : Nat) (W : World), pre ++ [x] <+: mem s → I pre W → B < W.heap.size → w.heap.size + 1 < W.heap.size → body.wpIn (Fence.wide.inRound l) (n - 1 - 1) Tryz.prog (ePost B w.heap.size I Ix (pre ++ [x]) W) (a₁ x) W)
    (hdone : ∀ W : World, I (mem s) W → W.heap[w.heap.size]? = some (.deferred (some [])) → Q .normal { a with defers := { target := .collected w.heap.size, args := #[] } :: a.defers } W)
    (hstop : ∀ (pre : List Nat) (W : World), Ix pre W → W.heap[w.heap.size]? = some (.deferred (some [])) → Code.ret.wpIn Fence.wide n Tryz.prog Q { a with defers := { target := .collected w.heap.size, args := #[] } :: a.defers } W) :
    (Code.rangeFunc g ps assign body).wpIn Fence.wide n Tryz.prog Q a w := by
  refine wpIn_rangeFunc ?_
  intro fn hfn
  obtain ⟨D, hD⟩ : ∃ D, w.heap.size = D := ⟨_, rfl⟩
  rw [hD] at hI hIx hbody hdone hstop
  obtain ⟨rec, hrec⟩ : ∃ rec : LoopState → Option Code → Loop, rec = fun st pe => { state := st, pending := pe, fn, tmps := a.tmps, params := ps, assign, body, defers := D } := ⟨_, rfl⟩
  have hBD : B < D := by rw [← hD]; exact hB.lt
  have sz : ((w.alloc (.deferred (some []))).alloc (.loop (rec .ready none))).heap.size = D + 2 := by simp [hD]
  have hL1 : ((w.alloc (.deferred (some []))).alloc (.loop (rec .ready none))).heap[D + 1]? = some (.loop (rec .ready none)) := by
    have := World.alloc_heap_new (w.alloc (.deferred (some []))) (.loop (rec .ready none))
    rwa [World.size_alloc, hD] at this
  have hK1 : ((w.alloc (.deferred (some []))).alloc (.loop (rec .ready none))).heap[D]? = some (.deferred (some [])) :=
    (Below.heap_alloc _ _ _ (by simp; omega)).trans (by have := World.alloc_heap_new w (.deferred (some [])); rwa [hD] at this)
  have hI1 : I [] ((w.alloc (.deferred (some []))).alloc (.loop (rec .ready none))) := hI _ _ _ h0 (((Keep.refl _ w).alloc _).alloc _)
  have hB1 : Bk ((w.alloc (.deferred (some []))).alloc (.loop (rec .ready none))) B 45 #[.int .u64 s] := (hB.alloc _).alloc _
  have hent := run_enterLoop_outer (P := Tryz.prog) (w := w) fn a.tmps ps assign body
  rw [hD] at hent
  have hent' : (Instr.enterLoop fn a.tmps ps assign body Fence.wide.round).run Tryz.prog w = .ok (D + 1, [{ target := .collected D, args := #[] }]) ((w.alloc (.deferred (some []))).alloc (.loop (rec .ready none))) := by
    rw [hrec]; exact hent
  generalize (w.alloc (.deferred (some []))).alloc (.loop (rec .ready none)) = W1 at *
  clear hent
  refine ⟨D + 1, _, W1, { target := .fn (.func 94) #[.pointer (some ⟨B, 0, none⟩)], args := #[.func (.yield (D + 1)) #[] #[]] }, W1, 94,
    #[.func (.yield (D + 1)) #[] #[], .pointer (some ⟨B, 0, none⟩)], W1, hent', ?_, fun _ _ => trivial, ?_, fun h => absurd h (by decide), ?_⟩
  · simp only [resolve, hg]
    simp [go_sem]
  · simp [invoke, go_sem]
  · refine (each1_in (n - 1) (D + 1) B (by omega) s hs
      (fun pre W => I pre W ∧ W.heap[D + 1]? = some (.loop (rec .ready none)) ∧ W.heap[D]? = some (.deferred (some [])))
      (fun pre W => Ix pre W ∧ W.heap[D + 1]? = some (.loop (rec .done (some .ret))) ∧ W.heap[D]? = some (.deferred (some [])))
      ?_ (fun pre W h => hT _ _ h.1) ?_ W1 hB1 ⟨hI1, hL1, hK1⟩).mono ?_
    · rintro pre W v ⟨hi, hl, hk⟩
      exact ⟨hI _ _ _ hi ((Keep.refl _ W).setCell (.inl (.inl rfl)) v), (Below.heap_setCell _ _ _ _ (by simp; omega)).trans hl, (Below.heap_setCell _ _ _ _ (by simp; omega)).trans hk⟩
    · rintro pre x W hpx ⟨hi, hl, hk⟩
      have hlt : D + 1 < W.heap.size := (Array.getElem?_eq_some_iff.1 hl).1
      have hy := run_yield (P := Tryz.prog) (args := #[.int .i64 (x : Nat)]) hl (by rw [hrec]; exact hps.symm)
      rw [hrec] at hy
      have e1 : Eb B D (D + 1) := .inr (.inr rfl)
      refine ⟨fn, _, assign, body, hy, roundIn_of_wpIn hfn (hassign _ x W _ ⟨_, run_beginRound hl (by rw [hrec]), ?_⟩)⟩
      have hl2 : (W.putObj (D + 1) (.loop { rec .ready none with state := .busy })).heap[D + 1]? = some (.loop { rec .ready none with state := .busy }) := World.putObj_heap_same hlt
      have hk2 : (W.putObj (D + 1) (.loop { rec .ready none with state := .busy })).heap[D]? = some (.deferred (some [])) := (World.putObj_heap_other (by omega)).trans hk
      have hb2 : (W.putObj (D + 1) (.loop { rec .ready none with state := .busy })).heap[B]? = W.heap[B]? := World.putObj_heap_other (by omega)
      have hs2 : (W.putObj (D + 1) (.loop { rec .ready none with state := .busy })).heap.size = W.heap.size := by simp
      have hi2 := hI _ _ _ hi (keep_put (W := W) (.loop { rec .ready none with state := .busy }) e1)
      generalize W.putObj (D + 1) (.loop { rec .ready none with state := .busy }) = W2 at *
      refine wpIn_mono (hbody _ pre x W2 hpx hi2 (by omega) (by omega)) ?_
      have fin : ∀ (jump : Option Code) (W3 : World), Same3 B D W2 W3 →
          (Instr.endRound (D + 1) jump).run Tryz.prog W3 = .ok (.bool jump.isNone) (W3.putObj (D + 1) (.loop (rec (if jump.isNone then .ready else .done) jump))) ∧
          (W3.putObj (D + 1) (.loop (rec (if jump.isNone then .ready else .done) jump))).heap[D + 1]? = some (.loop (rec (if jump.isNone then .ready else .done) jump)) ∧
          (W3.putObj (D + 1) (.loop (rec (if jump.isNone then .ready else .done) jump))).heap[D]? = some (.deferred (some [])) ∧
          (W3.putObj (D + 1) (.loop (rec (if jump.isNone then .ready else .done) jump))).heap[B]? = W.heap[B]? := fun jump W3 h3 => by
        have hl3 := (h3 _ e1).trans hl2
        have := run_endRound (P := Tryz.prog) jump hl3
        rw [hrec] at this ⊢
        exact ⟨this, World.putObj_heap_same (Array.getElem?_eq_some_iff.1 hl3).1, (World.putObj_heap_other (by omega)).trans ((h3 _ (.inr (.inl rfl))).trans hk2), (World.putObj_heap_other (by omega)).trans ((h3 _ (.inl rfl)).trans hb2)⟩
      rintro e a3 W3 hp
      cases e with
      | normal =>
        obtain ⟨h3, hi3⟩ := hp
        obtain ⟨hr, hl4, hk4, hb4⟩ := fin none W3 h3
        exact ⟨_, _, hr, .inl ⟨rfl, ⟨hI _ _ _ hi3 (keep_put _ e1), hl4, hk4⟩, hb4⟩⟩
      | ret =>
        obtain ⟨h3, hi3⟩ := hp
        obtain ⟨hr, hl4, hk4, -⟩ := fin (some .ret) W3 h3
        exact ⟨_, _, hr, .inr ⟨rfl, hIx _ _ _ hi3 (keep_put _ e1), hl4, hk4⟩⟩
      | exit id => exact hp.elim
      | goto t => exact hp.elim
      | panic ch => exact hp.elim
      | outgrown => exact hp.elim
    · rintro e W2 ⟨⟨v, rfl⟩, (⟨hi, hl, hk⟩ | ⟨pre, hp, hi, hl, hk⟩)⟩
      · have := run_endLoop (P := Tryz.prog) hl (by rw [hrec]; simp)
        rw [hrec] at this
        exact ⟨none, _, this, hdone _ (hI _ _ _ hi (keep_put _ (.inr (.inr rfl)))) ((World.putObj_heap_other (by omega)).trans hk)⟩
      · have := run_endLoop (P := Tryz.prog) hl (by rw [hrec]; simp)
        rw [hrec] at this
        exact ⟨some .ret, _, this, hstop pre _ (hIx _ _ _ hi (keep_put _ (.inr (.inr rfl)))) ((World.putObj_heap_other (by omega)).trans hk)⟩
theorem each_at {g : Operand} {ps : Array Tmp} {assign body : Code} {Q : Exit → Act → World → Prop} {a : Act} {w : World} {n B s : Nat} (D : Nat) (hD : w.heap.size = D) (h2 : 2 ≤ n) (hs : s < 18446744073709551616)
    (hg : a.eval g = .func (.func 94) #[] #[.pointer (some ⟨B, 0, none⟩)]) (hB : Bk w B 45 #[.int .u64 s]) (hps : ps.size = 1)
    (I Ix : List Nat → World → Prop) (hI : ∀ pre W W', I pre W → Keep (Eb B D) W W' → I pre W') (hIx : ∀ pre W W', Ix pre W → Keep (Eb B D) W W' → Ix pre W') (hT : ∀ pre W, I pre W → Tab W)
    (h0 : I [] w) (a₁ : Nat → Act)
    (hassign : ∀ (l : Nat) (x : Nat) (W : World) (K : Act → World → Prop), K (a₁ x) W →
      assign.wpIn (Fence.wide.inRound l) (n - 1 - 1) Tryz.prog (Exit.then K (fun _ _ _ => False)) { tmps := (ps.zip #[Value.int .i64 (x : Nat)]).foldl (fun t (p, v) => t.setIfInBounds p v) a.tmps, defers := [] } W)
    (hbody : ∀ (l : Nat) (pre : List Nat) (x : Nat) (W : World), pre ++ [x] <+: mem s → I pre W → B < W.heap.size → D + 1 < W.heap.size → body.wpIn (Fence.wide.inRound l) (n - 1 - 1) Tryz.prog (ePost B D I Ix (pre ++ [x]) W) (a₁ x) W)
    (hdone : ∀ W : World, I (mem s) W → W.heap[D]? = some (.deferred (some [])) → Q .normal { a with defers := { target := .collected D, args := #[] } :: a.defers } W)
    (hstop : ∀ (pre : List Nat) (W : World), Ix pre W → W.heap[D]? = some (.deferred (some [])) → Code.ret.wpIn Fence.wide n Tryz.prog Q { a with defers := { target := .collected D, args := #[] } :: a.defers } W) :
    (Code.rangeFunc g ps assign body).wpIn Fence.wide n Tryz.prog Q a w := by
  subst hD
  exact each_range h2 hs hg hB hps I Ix hI hIx hT h0 a₁ hassign hbody hdone hstop
end Go.Proofs.YtmnhgeggojgflaaGreatDoor.Ws
namespace Go.Proofs.YtmnhgeggojgflaaGreatDoor.Ws
open Go.RowKit Go.Shelf
attribute [local go_sem] Oper.semAt_some

theorem own_mono {w : World} {base base' : Nat} {e : TypeId} {size n : Nat} {v : Value} {xs : List Value} (h : w.ownsRow base e size v n xs) (hb : base' ≤ base) : w.ownsRow base' e size v n xs := by
  refine ⟨h.1, ?_⟩
  rcases h.2 with hn | ⟨g, cap, cur, rfl, hg, hr⟩
  · exact .inl hn
  · exact .inr ⟨g, cap, cur, rfl, by omega, hr⟩
theorem bk_set {w : World} {g : Nat} {t : TypeId} {v : Value} (h : Bk w g t #[v]) (u : Value) : Bk (w.setCell ⟨g, 0, none⟩ u) g t #[u] := h.put 0 u

/-- A list in a variable's box, while the worlds of a set come. -/
def InBox (w : World) (b D : Nat) (t e : TypeId) (enc : Nat → Value) (xs : List Nat) (W : World) : Prop :=
  ∃ v, Bk W b t #[v] ∧ W.ownsRow (D + 2) e 1 v xs.length (xs.map enc) ∧ Keep NoF w W ∧ D + 2 ≤ D + 2
theorem InBox.keep {w : World} {b B D : Nat} {t e : TypeId} {enc : Nat → Value} {xs : List Nat} {W W' : World} (h : InBox w b D t e enc xs W) (hk : Keep (Eb B D) W W') (hb : ¬ Eb B D b) (hB : w.heap.size ≤ B) (hD : B < D) : InBox w b D t e enc xs W' := by
  obtain ⟨v, hv, ho, hk0, h0⟩ := h
  refine ⟨v, hv.keep hk hb, own_keep ho fun k hkv => hk.block k (ho.lt k hkv).2 fun he => ?_, hk0.trans hk fun i hi he => ?_, h0⟩
  · have := (ho.lt k hkv).1
    rcases he with rfl | rfl | rfl <;> omega
  · rcases he with rfl | rfl | rfl <;> omega

theorem keep_end {w W : World} {D : Nat} (h : Keep NoF w W) (hD : w.heap.size ≤ D) (o : Obj) : Keep NoF w (W.putObj D o) :=
  h.trans (G := fun k => k = D) ⟨rfl, rfl, rfl, by simp, fun k _ hk => World.putObj_heap_other hk⟩ fun i hi e => absurd hi (by omega)

section
set_option maxRecDepth 100000
set_option maxHeartbeats 1000000
theorem Members_any (s : Nat) (hs : s < 18446744073709551616) (w : World) (ht : Tab w) : Calls Tryz.prog 107 #[.int .u64 s] w (LPost w (mem s)) := by
  have hml := mem_len s
  refine (callsIn_wide (n := 3)).1 ?_
  refine callsIn_of_wp_marks Tryz.func107 rfl trivial ?_ rfl
  simp only [Tryz.ntmps107, List.size_toArray, List.length_cons, List.length_nil, Nat.reduceAdd, Nat.reduceSub, Array.replicate_succ, Array.replicate_zero, List.push_toArray, List.append_toArray, List.nil_append, List.cons_append]
  gi_wp2_with (refine ⟨trivial, ?_⟩; gi_at_call 58; refine (callsIn_wide.2 (each_any s _)).mono ?_; rintro e w' ⟨rfl, rfl⟩)
  refine each_range (n := 3) (B := w.heap.size + 1) (s := s) (by omega) hs rfl (by simpa using Bk.new (w.alloc (.cells #[.slice none 0 0] 42)) 45 #[.int .u64 s]) rfl
    (InBox w w.heap.size (w.heap.size + 2) 42 3 inV) (fun _ _ => False) ?hI (fun _ _ _ h _ => h.elim) ?hT ?h0
    (fun x => { tmps := #[.int .u64 s, undef, .slice none 0 0, .pointer (some ⟨w.heap.size, 0, none⟩), .int .i64 (x : Nat), .int .u64 s, .func (.func 94) #[] #[.pointer (some ⟨w.heap.size + 1, 0, none⟩)], .int .i64 (x : Nat), undef, undef, undef, undef, undef], defers := [] }) ?assign ?body ?done ?stop
  case hI =>
    intro pre W W' h hk
    rw [World.size_alloc, World.size_alloc] at hk
    exact h.keep hk (by rintro (h | h | h) <;> omega) (by omega) (by omega)
  case hT =>
    rintro pre W ⟨v, -, -, hk, -⟩
    exact ht.keep0 hk
  case h0 => exact ⟨_, (Bk.new w 42 #[.slice none 0 0]).alloc _, World.ownsRow_nil _ _ _ _, ((Keep.refl _ w).alloc _).alloc _, Nat.le_refl _⟩
  case assign =>
    intro l x W K hK
    gi_wp2
    exact hK
  case body =>
    rintro l pre x W hpx ⟨v, hv, ho, hk, -⟩ hBW hDW
    rw [World.size_alloc, World.size_alloc] at *
    have hlen : pre.length + 1 ≤ 64 := by
      have := hpx.length_le
      simp at this
      omega
    have hc0 := hv.cell 0
    have hf0 := hv.frozen 0
    obtain ⟨i0, hi, hz0, hz1, hz2⟩ := info_parts infoInt
    have hob : ∀ k, v.ownBlock = some k → w.heap.size + 2 + 2 ≤ k ∧ k < W.heap.size := ho.lt
    gi_wp2_with (gi_at_builtin
                 refine wpListIn_append_own _ rfl _ _ 42 rfl (w.heap.size + 2 + 2) 3 i0 (.int .i64 0) 1 8 Tryz.underlying42 hi hz0 hz1 hz2 rfl (by decide) _ _ _ rfl (ho.alloc _) ⟨W.heap.size, 0, none⟩ 1 1 [.int .i64 (x : Nat)] rfl rfl (cell_one_new _ _ _) (by simp [Value.oneCell']) (by simp [maxLen]; omega) (by omega) (by simp; omega) ?_
                 intro v' w1 hown' hgrow _
                 obtain ⟨g', cap', rfl⟩ := ownsRow_succ hown'
                 have hv1 := (hv.alloc (.cells #[.int .i64 (x : Nat)] 3)).grown hgrow (fun e => by have := (hob _ e.symm).1; omega)
                 have hc1 := hv1.cell 0
                 have hf1 := hv1.frozen 0)
    have hbk := (hown'.lt g' rfl)
    refine ⟨fun k hk3 => ?_, _, bk_set hv1 _, ?_, ?_, Nat.le_refl _⟩
    · have hkW : k < W.heap.size := by rcases hk3 with rfl | rfl | rfl <;> omega
      have hkb : k ≠ w.heap.size := by rcases hk3 with rfl | rfl | rfl <;> omega
      refine (Below.heap_setCell _ _ _ _ hkb).trans ((hgrow.block k (by simp; omega) fun e => ?_).trans (Below.heap_alloc _ _ _ hkW))
      have := (hob _ e.symm).1
      rcases hk3 with rfl | rfl | rfl <;> omega
    · rw [show (pre ++ [x]).length = pre.length + 1 by simp, List.map_append]
      exact own_keep hown' fun k hkv => Below.heap_setCell _ _ _ _ (by
        have := (hown'.lt k hkv).1
        simp
        omega)
    · exact (((hk.alloc _).grown hgrow fun k e => .inr (by have := (hob _ e).1; omega)).setCell (.inr (by simp)) _)
  case done =>
    rintro W ⟨v, hv, ho, hk, -⟩ hD
    rw [World.size_alloc, World.size_alloc] at *
    have hc0 := hv.cell 0
    have hf0 := hv.frozen 0
    gi_wp2
    refine ⟨by simp, .inl ⟨_, _, rfl, run_takeDeferred hD, ?_⟩⟩
    refine ⟨_, results_tmp rfl _ _ _, _, rfl, own_mono (ownsRow_putObj ho _ hD rfl) (by omega), keep_end hk (by omega) _⟩
  case stop =>
    intro pre W h _
    exact h.elim
end
end Go.Proofs.YtmnhgeggojgflaaGreatDoor.Ws
namespace Go.Proofs.YtmnhgeggojgflaaGreatDoor.Ws
open Go.RowKit Go.Shelf
attribute [local go_sem] Oper.semAt_some

theorem same3_set {B D b : Nat} {W W' : World} (h : Same3 B D W W') (hb : ¬ Eb B D b) (u : Value) : Same3 B D W (W'.setCell ⟨b, 0, none⟩ u) := fun k hk =>
  (Below.heap_setCell _ _ _ _ (by rintro rfl; exact hb hk)).trans (h k hk)
theorem same3_drewN {B D n : Nat} {W W' : World} (h : Same3 B D W W') : Same3 B D W (W'.drewN n) := h
theorem keep_book {w W W' : World} {B D : Nat} (h : Keep NoF w W) (hk : Keep (Eb B D) W W') (hB : w.heap.size ≤ B) (hD : B < D) : Keep NoF w W' :=
  h.trans hk fun i hi he => by rcases he with rfl | rfl | rfl <;> omega

theorem bk_putD {W : World} {g D : Nat} {t : TypeId} {cs : Array Value} (h : Bk W g t cs) (o : Obj) (hg : g ≠ D) : Bk (W.putObj D o) g t cs := (World.putObj_heap_other hg).trans h
/-- Between two rounds of renaming. -/
def RenI (w : World) (sl : Value) (tt : List Int) (r : Nat × Int) (l pre : List Nat) (W : World) : Prop :=
  ∃ s' : Nat, Bk W w.heap.size 42 #[sl] ∧ Bk W (w.heap.size + 1) 45 #[.int .u64 0] ∧ Bk W (w.heap.size + 2) 3 #[.int .i64 0] ∧ Bk W (w.heap.size + 3) 45 #[.int .u64 s'] ∧
    Keep NoF w W ∧ s' < 18446744073709551616 ∧ Hid (renL tt s' (l.drop pre.length) = r)
def RenX (w : World) (r : Nat × Int) (pre : List Nat) (W : World) : Prop :=
  Bk W (w.heap.size + 1) 45 #[.int .u64 r.1] ∧ Bk W (w.heap.size + 2) 3 #[.int .i64 r.2] ∧ Keep NoF w W

section
set_option maxRecDepth 100000
set_option maxHeartbeats 1000000
end
end Go.Proofs.YtmnhgeggojgflaaGreatDoor.Ws
namespace Go.Proofs.YtmnhgeggojgflaaGreatDoor.Ws
open Go.RowKit Go.Shelf
attribute [local go_sem] Oper.semAt_some

theorem and_one (m : Nat) (hm : m < 18446744073709551616) : (bits BinOp.and IntKind.u64 (m : Int) 1 == 1) = decide (m % 2 = 1) := by
  rw [show (1 : Int) = ((1 : Nat) : Int) from rfl, bits_and_u64_nat _ _ hm (by omega), Nat.and_one_is_mod]
  by_cases h : m % 2 = 1
  · simp [h]
  · have : m % 2 = 0 := by omega
    simp [this]

/-- Between two rounds. -/
def SubI (w : World) (r : Nat × Bool) (l pre : List Nat) (W : World) : Prop :=
  ∃ s' m : Nat, Bk W w.heap.size 45 #[.int .u64 s'] ∧ Bk W (w.heap.size + 1) 45 #[.int .u64 m] ∧
    Keep NoF w W ∧ s' < 18446744073709551616 ∧ m < 18446744073709551616 ∧ Hid (subL s' m (l.drop pre.length) = r)

section
set_option maxRecDepth 100000
set_option maxHeartbeats 1000000
end
end Go.Proofs.YtmnhgeggojgflaaGreatDoor.Ws
namespace Go.Proofs.YtmnhgeggojgflaaGreatDoor.Ws
open Go.RowKit Go.Shelf

/-- The numbers of a list, with spaces between. -/
def joinT (l : List Nat) : List UInt8 := Lib.join (l.map Lib.decDigits) [32]
theorem joinT_nil : joinT [] = [] := rfl
theorem joinT_one (x : Nat) : joinT [x] = Lib.decDigits x := Lib.join_one _ _
theorem joinT_snoc (y : Nat) (r : List Nat) (x : Nat) : joinT (y :: r ++ [x]) = joinT (y :: r) ++ [32] ++ Lib.decDigits x := by
  simp [joinT, Lib.join_cons, Lib.joinTail]
theorem dec_len {x : Nat} (h : x < 100) : (Lib.decDigits x).length ≤ 2 := by
  by_cases h1 : x < 10
  · rw [Lib.decDigits_one h1]; simp
  · rw [Lib.decDigits_two h1 h]; simp
theorem joinT_len : ∀ l : List Nat, (∀ x ∈ l, x < 100) → (joinT l).length ≤ 3 * l.length
  | [], _ => by simp [joinT_nil]
  | x :: r, h => by
    have h1 := dec_len (h x (by simp))
    have : ∀ r : List Nat, (∀ x ∈ r, x < 100) → (Lib.joinTail [32] (r.map Lib.decDigits)).length ≤ 3 * r.length := by
      intro r
      induction r with
      | nil => intro _; simp [Lib.joinTail]
      | cons y r ih =>
        intro hr
        have h2 := dec_len (hr y (by simp))
        have h3 := ih fun z hz => hr z (by simp [hz])
        simp only [Lib.joinTail, List.map_cons, List.flatten_cons, List.length_append, List.length_cons, List.length_nil] at h3 ⊢
        omega
    have h2 := this r fun y hy => h y (by simp [hy])
    rw [joinT, List.map_cons, Lib.join_cons, List.length_append, List.length_cons]
    omega
def txt (l : List UInt8) : ByteArray := ⟨l.toArray⟩
theorem txt_app (a b : List UInt8) : txt a ++ txt b = txt (a ++ b) := by
  apply ByteArray.ext
  simp [txt]
theorem txt_size (a : List UInt8) : (txt a).size = a.length := by simp [txt, ByteArray.size]
def fmtS (s : Nat) : List UInt8 := [123] ++ joinT (mem s) ++ [125]
theorem itoa_any (x : Nat) (hx : x < 100) (w : World) : Calls Tryz.prog 25 #[.int .i64 x] w fun e w' => e = .returned (.string (txt (Lib.decDigits x))) ∧ w' = w := Tryz.strconv_Itoa_small x hx w

section
set_option maxRecDepth 100000
set_option maxHeartbeats 1000000
theorem rFormat_any (s : Nat) (w : World) (hs : s < 18446744073709551616) :
    Calls Tryz.prog 30 #[.int .u64 s] w fun e w' => e = .returned (.string (txt (fmtS s))) ∧ Keep NoF w w' := by
  unfold fmtS
  have HM := Lib.hid (rMembers_any s hs w)
  have hml := mem_len s
  have hmm : ∀ k x, (mem s)[k]? = some x → x < 64 := fun k x h => (mem_lt (List.mem_of_getElem? h)).1
  have HMM := Lib.hid hmm
  clear hmm
  generalize mem s = l at *
  go_enter Tryz.func30, Tryz.ntmps30
  go_upto_region 2 with (go_at_call 64
                         (with_reducible refine HM.out.mono ?_)
                         rintro e w1 ⟨v, rfl, ho, hk1⟩
                         obtain ⟨B, cb, rfl⟩ := own_form ho)
  have hrl := Rd.of_own ho
  rw [inV_zV] at hrl
  go_wp2
  go_loopw [4, 5] (fun s i wr => ∃ (k : Nat) (b : ByteArray), i = .int .i64 k ∧ s = .string b ∧ Hid (b = txt ([123] ++ joinT (l.take k))) ∧ k ≤ l.length ∧ wr = w1) (fun _ i _ => l.length - (intOf i).toNat)
  case atStart => exact ⟨0, _, rfl, rfl, Lib.hid rfl, by omega, rfl⟩
  case round =>
    obtain ⟨k, b, rfl, rfl, hb, hk, hw⟩ := hrel
    obtain rfl := hw.symm; clear hw
    have hsz : b.size ≤ 300 := by
      have h1 := joinT_len (l.take k) fun x hx => by
        obtain ⟨j, hj⟩ := List.mem_iff_getElem?.1 (List.mem_of_mem_take hx)
        have := HMM.out j x hj
        omega
      rw [hb.out, txt_size, List.length_append, List.length_singleton]
      rw [List.length_take] at h1
      omega
    by_cases hlt : k < l.length
    · have hx : l[k]? = some l[k] := List.getElem?_eq_getElem hlt
      obtain ⟨-, bl, off, rfl, hc⟩ := Rd.int (l := l.map Int.ofNat) (k := k) (x := (l[k] : Nat)) (by simpa using hrl) (by simp [hx])
      have hx64 := HMM.out k _ hx
      have htk : Hid (l.take (k + 1) = l.take k ++ [l[k]]) := Lib.hid (by rw [List.take_add_one, hx]; rfl)
      clear hx hrl
      generalize l[k] = x at *
      have HI := Lib.hid (itoa_any x (by omega) w1)
      have hd := dec_len (show x < 100 by omega)
      rw [← txt_size] at hd
      generalize hD : txt (Lib.decDigits x) = d at *
      have HD := Lib.hid hD
      clear hD
      by_cases hk0 : k = 0
      · subst hk0
        rw [Nat.add_zero] at hc
        have HB : Hid (b ++ d = txt ([123] ++ joinT (l.take (0 + 1)))) := Lib.hid (by
          rw [hb.out, ← HD.out, txt_app, htk.out]
          simp [joinT_nil, joinT_one])
        clear hb htk
        go_wp2_with (go_at_call 25; (with_reducible refine HI.out.mono ?_); rintro e w' ⟨rfl, hw'⟩; obtain rfl := hw'.symm)
        go_roundw
        case rel => exact ⟨1, b ++ d, by go_num, rfl, HB, by omega, by trivial⟩
        case measure => simp only [intOf]; omega
      · have HB : Hid (b ++ ⟨#[32]⟩ ++ d = txt ([123] ++ joinT (l.take (k + 1)))) := Lib.hid (by
          rw [hb.out, ← HD.out, show (⟨#[32]⟩ : ByteArray) = txt [32] from rfl, txt_app, txt_app, htk.out]
          cases hl : l.take k with
          | nil =>
            have h1 := congrArg List.length hl
            rw [List.length_take, List.length_nil] at h1
            omega
          | cons y r => rw [joinT_snoc]; simp)
        clear hb htk
        go_wp2_with (go_at_call 25; (with_reducible refine HI.out.mono ?_); rintro e w' ⟨rfl, hw'⟩; obtain rfl := hw'.symm)
        go_roundw
        case rel => exact ⟨k + 1, b ++ ⟨#[32]⟩ ++ d, by go_num, rfl, HB, by omega, by trivial⟩
        case measure => simp only [intOf]; omega
    · obtain rfl : k = l.length := by omega
      have HB : Hid (b ++ ⟨#[125]⟩ = txt ([123] ++ joinT l ++ [125])) := Lib.hid (by
        rw [hb.out, show (⟨#[125]⟩ : ByteArray) = txt [125] from rfl, txt_app, List.take_length])
      clear hb
      go_wp2
      go_ret
      exact ⟨congrArg Ending.returned (congrArg Value.string HB.out), hk1⟩
end
end Go.Proofs.YtmnhgeggojgflaaGreatDoor.Ws
