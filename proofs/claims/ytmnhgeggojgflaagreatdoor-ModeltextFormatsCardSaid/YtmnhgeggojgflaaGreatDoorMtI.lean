/- The lines of a text, one after another: the library's iterator over the parts of a text between bytes; a loop over it. No condition. -/
import Derived.Test.YtmnhgeggojgflaaGreatDoorMtBC
import Derived.Test.YtmnhgeggojgflaaGreatDoorMtF
import Derived.Test.YtmnhgeggojgflaaGreatDoorWtEF
set_option linter.unusedVariables false
set_option linter.unusedSimpArgs false
namespace Mt
open Go (Lib.indexByte)
theorem lnL_cut : ∀ {u : List UInt8}, 10 ∈ u → lnL u = u.take (u.idxOf 10) :: lnL (u.drop (u.idxOf 10 + 1))
  | [], h => by simp at h
  | b :: l, h => by
    by_cases hb : b = 10
    · subst hb
      simp [lnL]
    · have h2 : 10 ∈ l := by
        rcases List.mem_cons.1 h with e | e
        · exact absurd e.symm hb
        · exact e
      rw [lnL, if_neg hb, lnL_cut h2, idx_cons_ne _ hb]
      rfl
end Mt
namespace Go.Proofs.YtmnhgeggojgflaaGreatDoor
open Go.RowKit Go.Shelf
open Mt
attribute [local go_sem] Oper.semAt_some

section
set_option maxRecDepth 100000
set_option maxHeartbeats 1000000
theorem splitSeq_any (t s : ByteArray) (w : World) : Calls Tryz.prog 65 #[.string t, .string s, .int .i64 0] w fun e w' => e = .returned (.func (.func 98) #[] #[.pointer (some ⟨w.heap.size + 1, 0, none⟩), .pointer (some ⟨w.heap.size, 0, none⟩), .pointer (some ⟨w.heap.size + 1 + 1, 0, none⟩)]) ∧ w' = ((w.alloc (.cells #[.string t] 9)).alloc (.cells #[.string s] 9)).alloc (.cells #[.int .i64 0] 3) := by
  go_enter Tryz.func65, Tryz.ntmps65
  go_wp2
  go_ret
  exact ⟨rfl, rfl⟩
theorem SplitSeq_any (t s : ByteArray) (w : World) : Calls Tryz.prog 31 #[.string t, .string s] w fun e w' => e = .returned (.func (.func 98) #[] #[.pointer (some ⟨w.heap.size + 1, 0, none⟩), .pointer (some ⟨w.heap.size, 0, none⟩), .pointer (some ⟨w.heap.size + 1 + 1, 0, none⟩)]) ∧ w' = ((w.alloc (.cells #[.string t] 9)).alloc (.cells #[.string s] 9)).alloc (.cells #[.int .i64 0] 3) := by
  have HS := Lib.hid (fun W => splitSeq_any t s W)
  go_enter Tryz.func31, Tryz.ntmps31
  go_wp2_with (go_at_call 65; (with_reducible refine (HS.out _).mono ?_); rintro e w2 ⟨rfl, hw2⟩; obtain rfl := hw2)
  go_ret
  exact ⟨rfl, rfl⟩

def leftS (B : Nat) (w : World) : Nat := match w.cell? ⟨B, 0, none⟩ with | some (.string t) => t.size | _ => 0
theorem leftS_eq {w : World} {B : Nat} {u : ByteArray} {t : TypeId} (h : Bk w B t #[.string u]) : leftS B w = u.size := by
  have := h.cell 0
  unfold leftS
  rw [this]
  rfl
theorem seq1_in (n l B : Nat) (hn : 1 ≤ n) (t : ByteArray) (ht : t.size ≤ 100000) (J Jx : List (List UInt8) → World → Prop)
    (hJ : ∀ pre W v, J pre W → J pre (W.setCell ⟨B, 0, none⟩ v))
    (hY : ∀ pre x W, pre ++ [x] <+: lnL t.data.toList → J pre W → YieldAt Fence.wide (n - 1) Tryz.prog l #[.string (txt x)] W fun e W' =>
      (e = .returned (.bool true) ∧ J (pre ++ [x]) W' ∧ W'.heap[B]? = W.heap[B]? ∧ W'.heap[B + 1]? = W.heap[B + 1]? ∧ W'.heap[B + 2]? = W.heap[B + 2]?) ∨ (e = .returned (.bool false) ∧ Jx (pre ++ [x]) W'))
    (W : World) (hB : Bk W B 9 #[.string t]) (hB1 : Bk W (B + 1) 9 #[.string ⟨#[10]⟩]) (hB2 : Bk W (B + 2) 3 #[.int .i64 0]) (h0 : J [] W) :
    CallsIn Fence.wide n Tryz.prog 98 #[.func (.yield l) #[] #[], .pointer (some ⟨B + 1, 0, none⟩), .pointer (some ⟨B, 0, none⟩), .pointer (some ⟨B + 2, 0, none⟩)] W fun e W' => (∃ v, e = .returned v) ∧
      (J (lnL t.data.toList) W' ∨ ∃ pre, pre <+: lnL t.data.toList ∧ Jx pre W') := by
  refine callsIn_of_wp Tryz.func98 rfl trivial ?_ rfl
  simp only [Tryz.ntmps98, List.size_toArray, List.length_cons, List.length_nil, Nat.reduceAdd, Nat.reduceSub, Array.replicate_succ, Array.replicate_zero, List.push_toArray, List.append_toArray, List.nil_append, List.cons_append]
  have hc1 : W.cell? ⟨B + 1, 0, none⟩ = some (.string ⟨#[10]⟩) := hB1.cell 0
  gi_wp2
  gi_loopw [7, 8] (fun _ _ wr => ∃ (u : ByteArray) (pre : List (List UInt8)), u.size ≤ 100000 ∧ lnL t.data.toList = pre ++ lnL u.data.toList ∧ Bk wr B 9 #[.string u] ∧ Bk wr (B + 1) 9 #[.string ⟨#[10]⟩] ∧ Bk wr (B + 2) 3 #[.int .i64 0] ∧ J pre wr) (fun _ _ wr => leftS B wr)
  case atStart => exact ⟨t, [], ht, rfl, hB, hB1, hB2, h0⟩
  case round =>
    obtain ⟨u, pre, hus, hm, hBr, hB1r, hB2r, hJr⟩ := hrel
    have HM := Lib.hid hm
    have hc0 : wr.cell? ⟨B, 0, none⟩ = some (.string u) := hBr.cell 0
    have hf0 : wr.frozen? ⟨B, 0, none⟩ = false := hBr.frozen 0
    have hc1 : wr.cell? ⟨B + 1, 0, none⟩ = some (.string ⟨#[10]⟩) := hB1r.cell 0
    have hc2 : wr.cell? ⟨B + 2, 0, none⟩ = some (.int .i64 0) := hB2r.cell 0
    have HI := Lib.hid fun W => Tryz.strings_Index_one u 10 W
    rw [byte_idx] at HI
    clear hm
    by_cases h10 : 10 ∈ u.data.toList
    · rw [if_pos h10] at HI
      have HC := Lib.hid (lnL_cut h10)
      have hlt : u.data.toList.idxOf 10 < u.size := by rw [← data_len]; exact List.idxOf_lt_length_of_mem h10
      clear h10
      generalize u.data.toList.idxOf 10 = k at *
      have hki : (k : Int) ≤ (u.size : Int) := by omega
      have hk1 : (k : Int) + 1 ≤ (u.size : Int) := by omega
      have hxt : u.extract 0 k = txt (u.data.toList.take k) := by have := ext_txt u 0 k; rwa [Nat.zero_add, List.drop_zero] at this
      have hy := hY pre (u.data.toList.take k) wr ⟨lnL (u.data.toList.drop (k + 1)), by rw [HM.out, HC.out, List.append_assoc]; rfl⟩ hJr
      have HL := Lib.hid (leftS_eq hBr)
      obtain ⟨fn, tmps, assign, body, hy, hR⟩ := hy
      rw [← hxt] at hy
      have HR := Lib.hid hR
      clear hR hxt
      gi_wp2_with (refine ⟨trivial, ?_⟩; gi_at_call 40; refine (callsIn_wide.2 (HI.out _)).mono ?_; rintro e w' ⟨rfl, hw'⟩; obtain rfl := hw'.symm)
      refine HR.out.mono ?_
      rintro e W3 (⟨rfl, hJ3, hk0, hk1', hk2⟩ | ⟨rfl, hJx3⟩)
      · have hB3 := hBr.block hk0
        have hB13 := hB1r.block hk1'
        have hB23 := hB2r.block hk2
        have d0 : W3.cell? ⟨B, 0, none⟩ = some (.string u) := hB3.cell 0
        have e0 : W3.frozen? ⟨B, 0, none⟩ = false := hB3.frozen 0
        have d1 : W3.cell? ⟨B + 1, 0, none⟩ = some (.string ⟨#[10]⟩) := hB13.cell 0
        have hxd := ext_drop u (k + 1)
        have hxs : (u.extract (k + 1) u.size).size = u.size - (k + 1) := by rw [← data_len, hxd, List.length_drop, data_len]
        have HX := Lib.hid hxd
        have HXS := Lib.hid hxs
        clear hxd hxs
        gi_wp2
        go_roundw
        case rel => exact ⟨u.extract (k + 1) u.size, pre ++ [u.data.toList.take k], by rw [HXS.out]; omega, by rw [HX.out, HM.out, HC.out, List.append_assoc]; rfl, hB3.put 0 _, hB13.far (p := ⟨B, 0, none⟩) (by show B + 1 ≠ B; omega) _, hB23.far (p := ⟨B, 0, none⟩) (by show B + 2 ≠ B; omega) _, hJ _ _ _ hJ3⟩
        case measure => rw [HL.out, leftS_eq (hB3.put 0 _), HXS.out]; omega
      · gi_wp2
        refine bodyPost_ret (results_none rfl _ _ _) rfl ?_
        exact ⟨⟨_, rfl⟩, .inr ⟨_, ⟨lnL (u.data.toList.drop (k + 1)), by rw [HM.out, HC.out, List.append_assoc]; rfl⟩, hJx3⟩⟩
    · rw [if_neg h10] at HI
      have hy := hY pre u.data.toList wr ⟨[], by rw [HM.out, lnL_one _ h10, List.append_nil]⟩ hJr
      obtain ⟨fn, tmps, assign, body, hy, hR⟩ := hy
      rw [show txt u.data.toList = u from ba_ext (data_txt _)] at hy
      have HR := Lib.hid hR
      have HD : Hid (lnL t.data.toList = pre ++ [u.data.toList]) := Lib.hid (by rw [HM.out, lnL_one _ h10])
      clear hR h10
      gi_wp2_with (refine ⟨trivial, ?_⟩; gi_at_call 40; refine (callsIn_wide.2 (HI.out _)).mono ?_; rintro e w' ⟨rfl, hw'⟩; obtain rfl := hw'.symm)
      refine HR.out.mono ?_
      rintro e W3 (⟨rfl, hJ3, -⟩ | ⟨rfl, hJx3⟩)
      · gi_wp2
        go_end0
        exact ⟨⟨_, rfl⟩, .inl (by rw [HD.out]; exact hJ3)⟩
      · gi_wp2
        go_end0
        exact ⟨⟨_, rfl⟩, .inr ⟨_, ⟨[], by rw [HD.out, List.append_nil]⟩, hJx3⟩⟩
/-- The blocks of the loop's own: what is left of the text, the byte, how much of it stays, the deferred calls, the record. -/
def Eb5 (B D : Nat) : Nat → Prop := fun k => k = B ∨ k = B + 1 ∨ k = B + 2 ∨ k = D ∨ k = D + 1
def Same5 (B D : Nat) (W W' : World) : Prop := ∀ k, Eb5 B D k → W'.heap[k]? = W.heap[k]?
theorem Same5.refl (B D : Nat) (W : World) : Same5 B D W W := fun _ _ => rfl
theorem Same5.trans {B D : Nat} {W W1 W2 : World} (h : Same5 B D W W1) (k : Same5 B D W1 W2) : Same5 B D W W2 := fun i hi => (k i hi).trans (h i hi)
theorem Same5.keep {B D : Nat} {F : Nat → Prop} {W W' : World} (h : Keep F W W') (hB : B + 2 < W.heap.size) (hD : D + 1 < W.heap.size) (hf : ∀ k, F k → ¬ Eb5 B D k) : Same5 B D W W' := fun k hk => by
  refine h.block k ?_ fun hF => hf k hF hk
  rcases hk with rfl | rfl | rfl | rfl | rfl <;> omega
def qPost (B D : Nat) (I Ix : List (List UInt8) → World → Prop) (xs : List (List UInt8)) (W : World) : Exit → Act → World → Prop
  | .normal, _, W' => Same5 B D W W' ∧ I xs W'
  | .ret, _, W' => Same5 B D W W' ∧ Ix xs W'
  | .exit _, _, _ => False
  | .goto _, _, _ => False
  | .panic _, _, _ => False
  | .outgrown, _, _ => False
theorem keep_put5 {B D l : Nat} {W : World} (o : Obj) (h : Eb5 B D l) : Keep (Eb5 B D) W (W.putObj l o) :=
  ⟨rfl, rfl, rfl, by simp, fun k _ hk => World.putObj_heap_other fun e => hk (e ▸ h)⟩
theorem seq_at {g : Operand} {ps : Array Tmp} {assign body : Code} {Q : Exit → Act → World → Prop} {a : Act} {w : World} {n B : Nat} {t : ByteArray} (D : Nat) (hwD : w.heap.size = D) (h2 : 2 ≤ n) (ht : t.size ≤ 100000)
    (hg : a.eval g = .func (.func 98) #[] #[.pointer (some ⟨B + 1, 0, none⟩), .pointer (some ⟨B, 0, none⟩), .pointer (some ⟨B + 2, 0, none⟩)])
    (hB : Bk w B 9 #[.string t]) (hBb : Bk w (B + 1) 9 #[.string ⟨#[10]⟩]) (hBc : Bk w (B + 2) 3 #[.int .i64 0]) (hps : ps.size = 1)
    (I Ix : List (List UInt8) → World → Prop) (hI : ∀ pre W W', I pre W → Keep (Eb5 B D) W W' → I pre W') (hIx : ∀ pre W W', Ix pre W → Keep (Eb5 B D) W W' → Ix pre W')
    (h0 : I [] w) (a₁ : List UInt8 → Act)
    (hassign : ∀ (l : Nat) (x : List UInt8) (W : World) (K : Act → World → Prop), K (a₁ x) W →
      assign.wpIn (Fence.wide.inRound l) (n - 1 - 1) Tryz.prog (Exit.then K (fun _ _ _ => False)) { tmps := (ps.zip #[Value.string (txt x)]).foldl (fun t (p, v) => t.setIfInBounds p v) a.tmps, defers := [] } W)
    (hbody : ∀ (l : Nat) (pre : List (List UInt8)) (x : List UInt8) (W : World), pre ++ [x] <+: lnL t.data.toList → I pre W → B + 2 < W.heap.size → D + 1 < W.heap.size → body.wpIn (Fence.wide.inRound l) (n - 1 - 1) Tryz.prog (qPost B D I Ix (pre ++ [x]) W) (a₁ x) W)
    (hdone : ∀ W : World, I (lnL t.data.toList) W → W.heap[D]? = some (.deferred (some [])) → Q .normal { a with defers := { target := .collected D, args := #[] } :: a.defers } W)
    (hstop : ∀ (pre : List (List UInt8)) (W : World), Ix pre W → W.heap[D]? = some (.deferred (some [])) → Code.ret.wpIn Fence.wide n Tryz.prog Q { a with defers := { target := .collected D, args := #[] } :: a.defers } W) :
    (Code.rangeFunc g ps assign body).wpIn Fence.wide n Tryz.prog Q a w := by
  refine wpIn_rangeFunc ?_
  intro fn hfn
  obtain ⟨rec, hrec⟩ : ∃ rec : LoopState → Option Code → Loop, rec = fun st pe => { state := st, pending := pe, fn, tmps := a.tmps, params := ps, assign, body, defers := D } := ⟨_, rfl⟩
  have hBD : B + 2 < D := by rw [← hwD]; exact hBc.lt
  have sz : ((w.alloc (.deferred (some []))).alloc (.loop (rec .ready none))).heap.size = D + 2 := by simp [hwD]
  have hL1 : ((w.alloc (.deferred (some []))).alloc (.loop (rec .ready none))).heap[D + 1]? = some (.loop (rec .ready none)) := by
    have := World.alloc_heap_new (w.alloc (.deferred (some []))) (.loop (rec .ready none))
    rwa [World.size_alloc, hwD] at this
  have hK1 : ((w.alloc (.deferred (some []))).alloc (.loop (rec .ready none))).heap[D]? = some (.deferred (some [])) :=
    (Below.heap_alloc _ _ _ (by simp; omega)).trans (by have := World.alloc_heap_new w (.deferred (some [])); rwa [hwD] at this)
  have hI1 : I [] ((w.alloc (.deferred (some []))).alloc (.loop (rec .ready none))) := hI _ _ _ h0 (((Keep.refl _ w).alloc _).alloc _)
  have hB1 : Bk ((w.alloc (.deferred (some []))).alloc (.loop (rec .ready none))) B 9 #[.string t] := (hB.alloc _).alloc _
  have hB1b : Bk ((w.alloc (.deferred (some []))).alloc (.loop (rec .ready none))) (B + 1) 9 #[.string ⟨#[10]⟩] := (hBb.alloc _).alloc _
  have hB1c : Bk ((w.alloc (.deferred (some []))).alloc (.loop (rec .ready none))) (B + 2) 3 #[.int .i64 0] := (hBc.alloc _).alloc _
  have hent := run_enterLoop_outer (P := Tryz.prog) (w := w) fn a.tmps ps assign body
  rw [hwD] at hent
  have hent' : (Instr.enterLoop fn a.tmps ps assign body Fence.wide.round).run Tryz.prog w = .ok (D + 1, [{ target := .collected D, args := #[] }]) ((w.alloc (.deferred (some []))).alloc (.loop (rec .ready none))) := by
    rw [hrec]; exact hent
  generalize (w.alloc (.deferred (some []))).alloc (.loop (rec .ready none)) = W1 at *
  clear hent
  refine ⟨D + 1, _, W1, { target := .fn (.func 98) #[.pointer (some ⟨B + 1, 0, none⟩), .pointer (some ⟨B, 0, none⟩), .pointer (some ⟨B + 2, 0, none⟩)], args := #[.func (.yield (D + 1)) #[] #[]] }, W1, 98,
    #[.func (.yield (D + 1)) #[] #[], .pointer (some ⟨B + 1, 0, none⟩), .pointer (some ⟨B, 0, none⟩), .pointer (some ⟨B + 2, 0, none⟩)], W1, hent', ?_, fun _ _ => trivial, ?_, fun h => absurd h (by decide), ?_⟩
  · simp only [resolve, hg]
    simp [go_sem]
  · simp [invoke, go_sem]
  · refine (seq1_in (n - 1) (D + 1) B (by omega) t ht
      (fun pre W => I pre W ∧ W.heap[D + 1]? = some (.loop (rec .ready none)) ∧ W.heap[D]? = some (.deferred (some [])))
      (fun pre W => Ix pre W ∧ W.heap[D + 1]? = some (.loop (rec .done (some .ret))) ∧ W.heap[D]? = some (.deferred (some [])))
      ?_ ?_ W1 hB1 hB1b hB1c ⟨hI1, hL1, hK1⟩).mono ?_
    · rintro pre W v ⟨hi, hl, hk⟩
      exact ⟨hI _ _ _ hi ((Keep.refl _ W).setCell (.inl (.inl rfl)) v), (Below.heap_setCell _ _ _ _ (by simp; omega)).trans hl, (Below.heap_setCell _ _ _ _ (by simp; omega)).trans hk⟩
    · rintro pre x W hpx ⟨hi, hl, hk⟩
      have hlt : D + 1 < W.heap.size := (Array.getElem?_eq_some_iff.1 hl).1
      have hy := run_yield (P := Tryz.prog) (args := #[.string (txt x)]) hl (by rw [hrec]; exact hps.symm)
      rw [hrec] at hy
      have e1 : Eb5 B D (D + 1) := .inr (.inr (.inr (.inr rfl)))
      refine ⟨fn, _, assign, body, hy, roundIn_of_wpIn hfn (hassign _ x W _ ⟨_, run_beginRound hl (by rw [hrec]), ?_⟩)⟩
      have hl2 : (W.putObj (D + 1) (.loop { rec .ready none with state := .busy })).heap[D + 1]? = some (.loop { rec .ready none with state := .busy }) := World.putObj_heap_same hlt
      have hk2 : (W.putObj (D + 1) (.loop { rec .ready none with state := .busy })).heap[D]? = some (.deferred (some [])) := (World.putObj_heap_other (by omega)).trans hk
      have hb2 : ∀ j, j ≤ B + 2 → (W.putObj (D + 1) (.loop { rec .ready none with state := .busy })).heap[j]? = W.heap[j]? := fun j hj => World.putObj_heap_other (by omega)
      have hs2 : (W.putObj (D + 1) (.loop { rec .ready none with state := .busy })).heap.size = W.heap.size := by simp
      have hi2 := hI _ _ _ hi (keep_put5 (W := W) (.loop { rec .ready none with state := .busy }) e1)
      generalize W.putObj (D + 1) (.loop { rec .ready none with state := .busy }) = W2 at *
      refine wpIn_mono (hbody _ pre x W2 hpx hi2 (by omega) (by omega)) ?_
      have fin : ∀ (jump : Option Code) (W3 : World), Same5 B D W2 W3 →
          (Instr.endRound (D + 1) jump).run Tryz.prog W3 = .ok (.bool jump.isNone) (W3.putObj (D + 1) (.loop (rec (if jump.isNone then .ready else .done) jump))) ∧
          (W3.putObj (D + 1) (.loop (rec (if jump.isNone then .ready else .done) jump))).heap[D + 1]? = some (.loop (rec (if jump.isNone then .ready else .done) jump)) ∧
          (W3.putObj (D + 1) (.loop (rec (if jump.isNone then .ready else .done) jump))).heap[D]? = some (.deferred (some [])) ∧
          (∀ j, j = B ∨ j = B + 1 ∨ j = B + 2 → (W3.putObj (D + 1) (.loop (rec (if jump.isNone then .ready else .done) jump))).heap[j]? = W.heap[j]?) := fun jump W3 h3 => by
        have hl3 := (h3 _ e1).trans hl2
        have := run_endRound (P := Tryz.prog) jump hl3
        rw [hrec] at this ⊢
        refine ⟨this, World.putObj_heap_same (Array.getElem?_eq_some_iff.1 hl3).1, (World.putObj_heap_other (by omega)).trans ((h3 _ (.inr (.inr (.inr (.inl rfl))))).trans hk2), fun j hj => (World.putObj_heap_other (by omega)).trans ((h3 j ?_).trans (hb2 j (by omega)))⟩
        rcases hj with rfl | rfl | rfl
        · exact .inl rfl
        · exact .inr (.inl rfl)
        · exact .inr (.inr (.inl rfl))
      rintro e a3 W3 hp
      cases e with
      | normal =>
        obtain ⟨h3, hi3⟩ := hp
        obtain ⟨hr, hl4, hk4, hb4⟩ := fin none W3 h3
        exact ⟨_, _, hr, .inl ⟨rfl, ⟨hI _ _ _ hi3 (keep_put5 _ e1), hl4, hk4⟩, hb4 B (.inl rfl), hb4 _ (.inr (.inl rfl)), hb4 _ (.inr (.inr rfl))⟩⟩
      | ret =>
        obtain ⟨h3, hi3⟩ := hp
        obtain ⟨hr, hl4, hk4, -⟩ := fin (some .ret) W3 h3
        exact ⟨_, _, hr, .inr ⟨rfl, hIx _ _ _ hi3 (keep_put5 _ e1), hl4, hk4⟩⟩
      | exit id => exact hp.elim
      | goto t => exact hp.elim
      | panic ch => exact hp.elim
      | outgrown => exact hp.elim
    · rintro e W2 ⟨⟨v, rfl⟩, (⟨hi, hl, hk⟩ | ⟨pre, hp, hi, hl, hk⟩)⟩
      · have := run_endLoop (P := Tryz.prog) hl (by rw [hrec]; simp)
        rw [hrec] at this
        exact ⟨none, _, this, hdone _ (hI _ _ _ hi (keep_put5 _ (.inr (.inr (.inr (.inr rfl)))))) ((World.putObj_heap_other (by omega)).trans hk)⟩
      · have := run_endLoop (P := Tryz.prog) hl (by rw [hrec]; simp)
        rw [hrec] at this
        exact ⟨some .ret, _, this, hstop pre _ (hIx _ _ _ hi (keep_put5 _ (.inr (.inr (.inr (.inr rfl)))))) ((World.putObj_heap_other (by omega)).trans hk)⟩
end
end Go.Proofs.YtmnhgeggojgflaaGreatDoor
