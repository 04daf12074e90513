/- What package relation's Converse does on a valid relation. Conditions: the library's table of trailing zeros lies in its variable. -/
import Derived.Test.YtgdmcidcappkpaaDoorRlG
set_option linter.unusedVariables false
set_option linter.unusedSimpArgs false
namespace Go.Proofs.YtgdmcidcappkpaaDoor
open Go.RowKit Go.Shelf
open Dd (enc)
attribute [local go_sem] Oper.semAt_some

/-- The reversed pairs while row j is entered. -/
def rvP (R : List Nat) (j : Nat) (pre : List Nat) : List Nat := (List.range R.length).map fun v => enc j (fun w => (R.getD w 0).testBit v) ||| (if v ∈ pre then 2 ^ j else 0)
theorem rvP_len (R : List Nat) (j : Nat) (pre : List Nat) : (rvP R j pre).length = R.length := by simp [rvP]
theorem rvP_start (R : List Nat) : rvP R 0 [] = List.replicate R.length 0 := by
  unfold rvP
  apply List.ext_getElem?
  intro i
  rw [List.getElem?_map, List.getElem?_replicate]
  by_cases h : i < R.length
  · rw [List.getElem?_range h, if_pos h]
    simp [enc]
  · rw [List.getElem?_eq_none (by simpa using h), if_neg h]
    rfl
theorem rvP_at {R : List Nat} {v : Nat} (h : v < R.length) (j : Nat) (pre : List Nat) : (rvP R j pre)[v]? = some (enc j (fun w => (R.getD w 0).testBit v) ||| (if v ∈ pre then 2 ^ j else 0)) := by
  unfold rvP
  rw [List.getElem?_map, List.getElem?_range h]
  rfl
theorem rvP_set {R : List Nat} {x : Nat} (h : x < R.length) (j : Nat) (pre : List Nat) : (rvP R j pre).set x ((rvP R j pre).getD x 0 ||| 2 ^ j) = rvP R j (pre ++ [x]) := by
  have hx : (rvP R j pre).getD x 0 = enc j (fun w => (R.getD w 0).testBit x) ||| (if x ∈ pre then 2 ^ j else 0) := by
    rw [List.getD_eq_getElem?_getD, rvP_at h]; rfl
  rw [hx]
  unfold rvP
  apply List.ext_getElem?
  intro v
  rw [List.getElem?_set, List.getElem?_map, List.getElem?_map, List.length_map, List.length_range]
  by_cases e : x = v
  · subst e
    rw [if_pos rfl, if_pos h, List.getElem?_range h]
    simp only [Option.map_some, List.mem_append, List.mem_singleton, or_true, if_true, Option.some.injEq]
    split
    · rw [Nat.or_assoc, Nat.or_self]
    · rw [Nat.or_zero]
  · rw [if_neg e]
    by_cases h2 : v < R.length
    · rw [List.getElem?_range h2]
      simp [Ne.symm e]
    · rw [List.getElem?_eq_none (by simpa using h2)]
      rfl
theorem rvP_next {R : List Nat} (hR : ∀ k, R.getD k 0 < 18446744073709551616) (j : Nat) : rvP R j (mem (R.getD j 0)) = rvP R (j + 1) [] := by
  unfold rvP
  refine List.map_congr_left fun v _ => ?_
  rw [Dd.enc_snoc]
  simp only [mem_iff (hR j), List.not_mem_nil, if_false, Nat.or_zero]
theorem rvP_end (R : List Nat) : rvP R R.length [] = rvN R := by
  unfold rvP rvN
  refine List.map_congr_left fun v _ => ?_
  simp
theorem rvP_lt {R : List Nat} {j : Nat} (hj : j < 64) (pre : List Nat) (v : Nat) : (rvP R j pre).getD v 0 < 18446744073709551616 := by
  rw [List.getD_eq_getElem?_getD]
  by_cases h : v < R.length
  · rw [rvP_at h]
    refine Nat.or_lt_two_pow (n := 64) (Nat.lt_trans (Dd.enc_lt j _) (Nat.pow_lt_pow_right (by omega) hj)) ?_
    split
    · exact Nat.pow_lt_pow_right (by omega) hj
    · exact Nat.two_pow_pos _
  · rw [List.getElem?_eq_none (by rw [rvP_len]; omega)]
    exact Nat.two_pow_pos 64

/-- The marks of finished loops. -/
def marks (ds : List Nat) : List Deferred := ds.map fun D => { target := .collected D, args := #[] }
theorem leaves_marks {F : Fence} {n : Nat} {fn : Func} {tmps : Array Value} {R : Ending → World → Prop} : ∀ (ds : List Nat) (W : World), (∀ D ∈ ds, W.heap[D]? = some (.deferred (some []))) → ds.Nodup →
    (∀ W', Keep (fun k => k ∈ ds) W W' → LeavesIn F n Tryd.prog fn tmps R [] .returning W') → LeavesInM F n Tryd.prog fn tmps R (marks ds) .returning W
  | [], W, _, _, h => h W (Keep.refl _ W)
  | D :: ds, W, hb, hnd, h => by
    obtain ⟨hD, hnd'⟩ := List.nodup_cons.1 hnd
    refine ⟨by simp, .inl ⟨D, _, rfl, run_takeDeferred (hb D (by simp)), leaves_marks ds _ (fun E hE => ?_) hnd' fun W' hk => h W' ?_⟩⟩
    · exact (World.putObj_heap_other (by rintro rfl; exact hD hE)).trans (hb E (by simp [hE]))
    · have k1 : Keep (fun k => k ∈ D :: ds) W (W.putObj D (.deferred none)) := ⟨rfl, rfl, rfl, by simp, fun k _ hk => World.putObj_heap_other fun e => hk (by simp [e])⟩
      exact k1.trans hk fun i _ hi => by simp [hi]

/-- Between two rounds of reversed, and within one. -/
structure RevI (w : World) (R : List Nat) (j : Nat) (pre : List Nat) (ds : List Nat) (W : World) : Prop where
  out : Bk W w.heap.size 31 (n64 (rvP R j pre)).toArray
  var : Bk W (w.heap.size + 1) 23 #[.slice (some ⟨w.heap.size, 0, none⟩) R.length R.length]
  defs : ∀ D ∈ ds, W.heap[D]? = some (.deferred (some []))
  nodup : ds.Nodup
  low : ∀ D ∈ ds, w.heap.size + 2 ≤ D ∧ D < W.heap.size
  keep : Keep NoF w W
theorem RevI.on {w : World} {R : List Nat} {j : Nat} {pre ds : List Nat} {W W' : World} {F : Nat → Prop} (h : RevI w R j pre ds W) (hk : Keep F W W') (hF : ∀ k, F k → w.heap.size + 2 ≤ k ∧ k ∉ ds) : RevI w R j pre ds W' := by
  refine ⟨h.out.keep hk fun hf => ?_, h.var.keep hk fun hf => ?_, fun D hD => ?_, h.nodup, fun D hD => ?_, h.keep.trans hk fun i hi hf => ?_⟩
  · have := (hF _ hf).1; omega
  · have := (hF _ hf).1; omega
  · exact (hk.block D (h.low D hD).2 fun hf => (hF _ hf).2 hD).trans (h.defs D hD)
  · have := h.low D hD
    have := hk.size
    omega
  · have := (hF _ hf).1
    omega
theorem same3_setx {B D b o : Nat} {W W' : World} (h : Same3 B D W W') (hb : ¬ Eb B D b) (u : Value) : Same3 B D W (W'.setCell ⟨b, o, none⟩ u) := fun k hk =>
  (Below.heap_setCell _ _ _ _ (by rintro rfl; exact hb hk)).trans (h k hk)
theorem RevI.store {w : World} {R : List Nat} {j : Nat} {pre ds : List Nat} {W : World} {x : Nat} (h : RevI w R j pre ds W) (hx : x < R.length) : RevI w R j (pre ++ [x]) ds (W.setCell ⟨w.heap.size, x, none⟩ (.int .u64 (((rvP R j pre).getD x 0 ||| 2 ^ j : Nat) : Int))) := by
  refine ⟨?_, h.var.far (by simp) _, fun D hD => (Below.heap_setCell _ _ _ _ ?_).trans (h.defs D hD), h.nodup, fun D hD => by simpa using h.low D hD, h.keep.setCell (.inr (by simp)) _⟩
  · have := h.out.put x (.int .u64 (((rvP R j pre).getD x 0 ||| 2 ^ j : Nat) : Int))
    rw [List.setIfInBounds_toArray] at this
    rw [← rvP_set hx]
    simpa [n64, List.map_set] using this
  · have := h.low D hD
    simp
    omega
theorem loop_down {F : Fence} {n : Nat} {P : Program} {Q : Exit → Act → World → Prop} {c : Code} (I : Nat → Act → World → Prop)
    (h : ∀ k a w, I k a w → c.wpIn F n P (Exit.then (fun a' w' => ∃ k', k = k' + 1 ∧ I k' a' w') Q) a w) (k : Nat) (a : Act) (w : World) (h0 : I k a w) : (Code.loop c).wpIn F n P Q a w := by
  refine wpIn_loop_rounds (k + 1) ?_
  induction k generalizing a w with
  | zero =>
    rw [roundsIn_succ]
    refine wpIn_mono (h 0 a w h0) fun e a' w' hp => ?_
    cases e with
    | normal => obtain ⟨k', e, -⟩ := hp; omega
    | _ => exact hp
  | succ k ih =>
    rw [roundsIn_succ]
    refine wpIn_mono (h (k + 1) a w h0) fun e a' w' hp => ?_
    cases e with
    | normal =>
      obtain ⟨k', e, hi⟩ := hp
      obtain rfl : k' = k := by omega
      exact ih a' w' hi
    | _ => exact hp
section
set_option maxRecDepth 100000
set_option maxHeartbeats 1000000
theorem reversed_any (R : List Nat) (hR : Ok R) (A : Option Addr) (c : Nat) (w : World) (hrd : Rd w (.slice A R.length c) 1 R.length (n64 R)) (ht : Tab w) :
    Calls Tryd.prog 43 #[.slice A R.length c] w fun e w' => ∃ A' c', e = .returned (.slice A' R.length c') ∧ Rd w' (.slice A' R.length c') 1 R.length (n64 (rvN R)) ∧ Keep NoF w w' := by
  have hmix : Tryd.prog.follows .mixedOrders = true := by kernel_rfl
  have hn := hR.1
  have hmk := fun w => run_make_u64 R.length (by omega) w
  have HZ : Hid (n64 (List.replicate R.length 0) = n64 (rvP R 0 [])) := Lib.hid (by rw [rvP_start])
  generalize n64 (List.replicate R.length 0) = Z at *
  refine (callsIn_wide (n := 3)).1 ?_
  refine callsIn_of_wp_marks Tryd.func43 rfl trivial ?_ rfl
  simp only [Tryd.ntmps43, List.size_toArray, List.length_cons, List.length_nil, Nat.reduceAdd, Nat.reduceSub, Array.replicate_succ, Array.replicate_zero, List.push_toArray, List.append_toArray, List.nil_append, List.cons_append]
  gi_wp2
  have hI0 : RevI w R 0 [] [] ((w.alloc (.cells Z.toArray 31)).alloc (.cells #[.slice (some ⟨w.heap.size, 0, none⟩) R.length R.length] 23)) :=
    ⟨by rw [← HZ.out]; exact (Bk.new w 31 _).alloc _, by simpa using Bk.new (w.alloc (.cells Z.toArray 31)) 23 #[.slice (some ⟨w.heap.size, 0, none⟩) R.length R.length], by simp, by simp, by simp, ((Keep.refl NoF w).alloc _).alloc _⟩
  generalize (w.alloc (.cells Z.toArray 31)).alloc (.cells #[.slice (some ⟨w.heap.size, 0, none⟩) R.length R.length] 23) = W0 at *
  refine loop_down (fun k a W => ∃ (j : Nat) (ds : List Nat) (u4 u5 u6 u13 u14 u15 u16 u17 u18 u19 u20 u21 u22 u23 u24 u25 u26 u27 u28 u29 : Value), j + k = R.length ∧ a = { tmps := #[.slice A R.length c, undef, .slice none 0 0, .pointer (some ⟨w.heap.size + 1, 0, none⟩), u4, u5, u6, .slice A R.length c, .int .i64 R.length, .slice (some ⟨w.heap.size, 0, none⟩) R.length R.length, .slice A R.length c, .int .i64 R.length, .int .i64 j, u13, u14, u15, u16, u17, u18, u19, u20, u21, u22, u23, u24, u25, u26, u27, u28, u29], defers := marks ds } ∧ RevI w R j [] ds W) ?round R.length _ _ ⟨0, [], _, _, _, _, _, _, _, _, _, _, _, _, _, _, _, _, _, _, _, _, by omega, rfl, hI0⟩
  case round =>
    rintro k a W ⟨j, ds, u4, u5, u6, u13, u14, u15, u16, u17, u18, u19, u20, u21, u22, u23, u24, u25, u26, u27, u28, u29, hjk, rfl, hI⟩
    have hj : j ≤ R.length := by omega
    have hsz : w.heap.size + 1 < W.heap.size := hI.var.lt
    by_cases hlt : j < R.length
    · obtain ⟨k', rfl⟩ : ∃ k', k = k' + 1 := ⟨k - 1, by omega⟩
      obtain ⟨bl, off, rfl, hc⟩ := (hrd.kept hI.keep fun _ _ h => h).nat hlt
      have hs := hR.lt64 j
      have hsm := mem_len_lt (hR.lt j)
      have HNX := Lib.hid (rvP_next hR.lt64 j)
      have HHI := Lib.hid hI
      have hlt' : (j : Int) < (R.length : Int) := by omega
      generalize R.getD j 0 = s at *
      gi_wp2_with (refine ⟨trivial, ?_⟩; gi_at_call 61; refine (callsIn_wide.2 (points_any s _)).mono ?_; rintro e w' ⟨rfl, rfl⟩)
      refine each_at (n := 3) (B := W.heap.size + 1) (s := s) (W.heap.size + 2) (by simp) (by omega) hs rfl (by simpa using Bk.new (W.alloc (.cells #[.int .i64 j] 3)) 31 #[.int .u64 s]) rfl
        (fun pre W' => RevI w R j pre ds W' ∧ Bk W' W.heap.size 3 #[.int .i64 j]) (fun _ _ => False) ?hI ?hIx ?hT ?h0
        (fun x => { tmps := #[.slice (some ⟨bl, off, none⟩) R.length c, undef, .slice none 0 0, .pointer (some ⟨w.heap.size + 1, 0, none⟩), .pointer (some ⟨W.heap.size, 0, none⟩), .int .u64 s, .int .i64 (x : Nat), .slice (some ⟨bl, off, none⟩) R.length c, .int .i64 R.length, .slice (some ⟨w.heap.size, 0, none⟩) R.length R.length, .slice (some ⟨bl, off, none⟩) R.length c, .int .i64 R.length, .int .i64 j, .bool true, .int .i64 j, .pointer (some ⟨bl, off + j, none⟩), .int .u64 s, .int .u64 s, .func (.func 76) #[] #[.pointer (some ⟨W.heap.size + 1, 0, none⟩)], .int .i64 (x : Nat), u20, u21, u22, u23, u24, u25, u26, u27, u28, u29], defers := [] }) ?assign ?body ?done ?stop
      case hI =>
        rintro pre W1 W2 ⟨h1, h2⟩ hk
        refine ⟨h1.on hk ?_, h2.keep hk (by rintro (h | h | h) <;> omega)⟩
        intro q hq
        have : W.heap.size < q := by rcases hq with h | h | h <;> omega
        exact ⟨by omega, fun hm => by have := (HHI.out.low q hm).2; omega⟩
      case hIx => rintro pre W W' h _; exact h
      case hT =>
        rintro pre W1 ⟨h1, h2⟩
        exact ht.keep0 h1.keep
      case h0 =>
        exact ⟨HHI.out.on (((Keep.refl NoF W).alloc _).alloc _) (fun _ h => h.elim), (Bk.new W 3 #[.int .i64 j]).alloc _⟩
      case assign =>
        intro l x W K hK
        gi_wp2
        exact hK
      case body =>
        rintro l pre x W1 hpx ⟨h1, h2⟩ hBW hDW
        have hxl : x < R.length := hsm x (hpx.subset (by simp))
        have hj64 : j < 64 := by omega
        have hy := rvP_lt (R := R) hj64 pre x
        have HV := Lib.hid (or_shl hy hj64)
        have hst := h1.store hxl
        have HST := Lib.hid hst
        have hc0 : W1.cell? ⟨w.heap.size, x, none⟩ = some (.int .u64 ((rvP R j pre).getD x 0 : Nat)) := by
          rw [h1.out.cell x, List.getElem?_toArray, List.getElem?_map, rvP_at hxl, List.getD_eq_getElem?_getD, rvP_at hxl]; rfl
        have hf0 := h1.out.frozen x
        have hc1 := h1.var.cell 0
        have hc2 := h2.cell 0
        have hxi : (x : Int) < (R.length : Int) := by omega
        have hx0 : (0 : Int) ≤ (x : Int) := by omega
        clear hst
        generalize hrow : (rvP R j pre).getD x 0 = y at *
        gi_wp2
        gi_region_with_o (fail)
        all_goals gi_wp2
        all_goals (try go_bits)
        all_goals (refine ⟨same3_setx (Same3.refl _ _ _) (by rintro (h | h | h) <;> omega) _, ?_⟩; rw [HV.out]; exact ⟨HST.out.on ((Keep.refl NoF _).drew) (fun _ h => h.elim), h2.far (by simp; omega) _⟩)
      case done =>
        rintro W1 ⟨h1, h2⟩ hD
        have hDl := (Array.getElem?_eq_some_iff.1 hD).1
        have ho1 : Bk W1 w.heap.size 31 (n64 (rvP R (j + 1) [])).toArray := by rw [← HNX.out]; exact h1.out
        gi_wp2
        refine ⟨k', rfl, j + 1, (W.heap.size + 2) :: ds, _, _, _, _, _, _, _, _, _, _, _, _, _, _, _, _, _, _, _, _, by omega, rfl, ?_⟩
        refine ⟨ho1, h1.var, fun D hD2 => ?_, List.nodup_cons.2 ⟨fun hm => by have := (HHI.out.low _ hm).2; omega, h1.nodup⟩, fun D hD2 => ?_, h1.keep⟩
        · rcases List.mem_cons.1 hD2 with rfl | hm
          · exact hD
          · exact h1.defs D hm
        · rcases List.mem_cons.1 hD2 with rfl | hm
          · exact ⟨by omega, hDl⟩
          · exact h1.low D hm
      case stop => rintro pre W h; exact h.elim
    · have hjn : j = R.length := by omega
      subst hjn
      have hc1 := hI.var.cell 0
      have hout := hI.out
      rw [rvP_end] at hout
      gi_wp2
      refine leaves_marks ds W hI.defs hI.nodup fun W' hk => ?_
      have hk2 : Keep NoF w W' := hI.keep.trans hk fun i hi hm => by have := (hI.low i hm).1; omega
      have hout2 : Bk W' w.heap.size 31 (n64 (rvN R)).toArray := hout.keep hk fun hm => by have := (hI.low _ hm).1; omega
      refine ⟨.slice (some ⟨w.heap.size, 0, none⟩) R.length R.length, by simp [results, Tryd.results43, go_sem], _, _, rfl, ?_, hk2⟩
      refine ⟨by simp [rvN], _, _, rfl, Nat.le_refl _, fun _ => ⟨_, _, rfl, fun i u hu => ?_⟩⟩
      rw [Nat.zero_add, hout2.cell i, List.getElem?_toArray, hu]
theorem rlConverse_gen (R : List Nat) (hR : Ok R) (A : Option Addr) (c : Nat) (w : World) (hrd : Rd w (.slice A R.length c) 1 R.length (n64 R)) (ht : Tab w) :
    Calls Tryd.prog 13 #[.slice A R.length c] w fun e w' => ∃ A' c', e = .returned (.tuple #[.slice A' R.length c', .int .i64 0]) ∧ Rd w' (.slice A' R.length c') 1 R.length (n64 (rvN R)) ∧ Keep NoF w w' := by
  have HC := Lib.hid (rlCheck_any R hR A c w hrd)
  have HV := Lib.hid (reversed_any R hR A c w hrd ht)
  go_enter Tryd.func13, Tryd.ntmps13
  go_wp2_with (first
    | (go_at_call 37; (with_reducible refine HC.out.mono ?_); rintro e w' ⟨rfl, hw'⟩; obtain rfl := hw'.symm)
    | (go_at_call 43; (with_reducible refine HV.out.mono ?_); rintro e w1 ⟨A', c', rfl, h1, hk⟩))
  go_ret2
  exact ⟨A', c', rfl, h1, hk⟩
theorem rlConverse_any (R : List Nat) (hR : Ok R) (hl : R.length = 8) (A : Option Addr) (c : Nat) (w : World) (hrd : Rd w (.slice A 8 c) 1 8 (n64 R)) (ht : Tab w) :
    Calls Tryd.prog 13 #[.slice A 8 c] w fun e w' => ∃ A' c', e = .returned (.tuple #[.slice A' 8 c', .int .i64 0]) ∧ Rd w' (.slice A' 8 c') 1 8 (n64 (Dd.cvN 3 R)) ∧ Keep NoF w w' := by
  have h := rlConverse_gen R hR A c w (by rw [hl]; exact hrd) ht
  rw [hl, rev_eq (k := 3) hl] at h
  exact h
end
end Go.Proofs.YtgdmcidcappkpaaDoor
