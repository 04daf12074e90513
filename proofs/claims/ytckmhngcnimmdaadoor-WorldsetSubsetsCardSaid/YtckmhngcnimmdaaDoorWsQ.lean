/- What the program's Rename does. Conditions: the library's table of trailing zeros lies in its variable. -/
import Derived.Test.YtckmhngcnimmdaaDoorWsP
import Derived.Test.YtckmhngcnimmdaaDoorWsR
set_option linter.unusedVariables false
set_option linter.unusedSimpArgs false
namespace Go.Proofs.YtckmhngcnimmdaaDoor
open Go.RowKit Go.Shelf
attribute [local go_sem] Oper.semAt_some

theorem same3_set {B D b : Nat} {W W' : World} (h : Same3 B D W W') (hb : ¬ Eb B D b) (u : Value) : Same3 B D W (W'.setCell ⟨b, 0, none⟩ u) := fun k hk =>
  (Below.heap_setCell _ _ _ _ (by rintro rfl; exact hb hk)).trans (h k hk)
theorem same3_drewN {B D n : Nat} {W W' : World} (h : Same3 B D W W') : Same3 B D W (W'.drewN n) := h
theorem keep_book {w W W' : World} {B D : Nat} (h : Keep NoF w W) (hk : Keep (Eb B D) W W') (hB : w.heap.size ≤ B) (hD : B < D) : Keep NoF w W' :=
  h.trans hk fun i hi he => by rcases he with rfl | rfl | rfl <;> omega

theorem bk_putD {W : World} {g D : Nat} {t : TypeId} {cs : Array Value} (h : Bk W g t cs) (o : Obj) (hg : g ≠ D) : Bk (W.putObj D o) g t cs := (World.putObj_heap_other hg).trans h
/-- Between two rounds of renaming. -/
def RenI (w : World) (sl : Value) (tt : List Int) (r : Nat × Int) (l pre : List Nat) (W : World) : Prop :=
  ∃ s' : Nat, Bk W w.heap.size 22 #[sl] ∧ Bk W (w.heap.size + 1) 23 #[.int .u64 0] ∧ Bk W (w.heap.size + 2) 3 #[.int .i64 0] ∧ Bk W (w.heap.size + 3) 23 #[.int .u64 s'] ∧
    Keep NoF w W ∧ s' < 18446744073709551616 ∧ Hid (renL tt s' (l.drop pre.length) = r)
def RenX (w : World) (r : Nat × Int) (pre : List Nat) (W : World) : Prop :=
  Bk W (w.heap.size + 1) 23 #[.int .u64 r.1] ∧ Bk W (w.heap.size + 2) 3 #[.int .i64 r.2] ∧ Keep NoF w W

section
set_option maxRecDepth 100000
set_option maxHeartbeats 1000000
theorem Rename_any (s : Nat) (tt : List Int) (A : Option Addr) (c : Nat) (w : World) (hs : s < 18446744073709551616) (hl : tt.length ≤ 9223372036854775807) (hrd : Rd w (.slice A tt.length c) 1 tt.length (tt.map zV)) (ht : Tab w) :
    Calls Tryd.prog 25 #[.int .u64 s, .slice A tt.length c] w fun e w' => e = .returned (.tuple #[.int .u64 (renL tt 0 (mem s)).1, .int .i64 (renL tt 0 (mem s)).2]) ∧ Keep NoF w w' := by
  generalize hr : renL tt 0 (mem s) = r
  have HR := Lib.hid hr
  clear hr
  have hmix : Tryd.prog.follows .mixedOrders = true := by kernel_rfl
  refine (callsIn_wide (n := 3)).1 ?_
  refine callsIn_of_wp_marks Tryd.func25 rfl trivial ?_ rfl
  simp only [Tryd.ntmps25, List.size_toArray, List.length_cons, List.length_nil, Nat.reduceAdd, Nat.reduceSub, Array.replicate_succ, Array.replicate_zero, List.push_toArray, List.append_toArray, List.nil_append, List.cons_append]
  gi_wp2_with (refine ⟨trivial, ?_⟩; gi_at_call 39; refine (callsIn_wide.2 (each_any s _)).mono ?_; rintro e w' ⟨rfl, rfl⟩)
  have hlx : (mem s).length ≤ 64 := mem_len s
  refine each_at (n := 3) (B := w.heap.size + 4) (s := s) (w.heap.size + 5) (by simp) (by omega) hs rfl (by simpa using Bk.new ((((w.alloc (.cells #[.slice A tt.length c] 22)).alloc (.cells #[.int .u64 0] 23)).alloc (.cells #[.int .i64 0] 3)).alloc (.cells #[.int .u64 0] 23)) 23 #[.int .u64 s]) rfl
    (RenI w (.slice A tt.length c) tt r (mem s)) (RenX w r) ?hI ?hIx ?hT ?h0
    (fun x => { tmps := #[.int .u64 s, .slice A tt.length c, undef, .pointer (some ⟨w.heap.size, 0, none⟩), .pointer (some ⟨w.heap.size + 1, 0, none⟩), .pointer (some ⟨w.heap.size + 2, 0, none⟩), .pointer (some ⟨w.heap.size + 3, 0, none⟩), .int .i64 (x : Nat), .int .u64 s, .func (.func 48) #[] #[.pointer (some ⟨w.heap.size + 4, 0, none⟩)], .int .i64 (x : Nat), undef, undef, undef, undef, undef, undef, undef, undef, undef, undef, undef, undef, undef, undef, undef, undef, undef, undef, undef, undef, undef, undef, undef, undef], defers := [] }) ?assign ?body ?done ?stop
  case hI =>
    rintro pre W W' ⟨s', h0, h1, h2, h3, hk, hs', ho⟩ hb
    exact ⟨s', h0.keep hb (by rintro (h | h | h) <;> omega), h1.keep hb (by rintro (h | h | h) <;> omega), h2.keep hb (by rintro (h | h | h) <;> omega), h3.keep hb (by rintro (h | h | h) <;> omega), keep_book hk hb (by omega) (by omega), hs', ho⟩
  case hIx =>
    rintro pre W W' ⟨h1, h2, hk⟩ hb
    exact ⟨h1.keep hb (by rintro (h | h | h) <;> omega), h2.keep hb (by rintro (h | h | h) <;> omega), keep_book hk hb (by omega) (by omega)⟩
  case hT =>
    rintro pre W ⟨s', h0, h1, h2, h3, hk, hs', ho⟩
    exact ht.keep0 hk
  case h0 => exact ⟨0, ((((Bk.new w 22 #[.slice A tt.length c]).alloc _).alloc _).alloc _).alloc _, (((by simpa using Bk.new (w.alloc (.cells #[.slice A tt.length c] 22)) 23 #[.int .u64 0] : Bk _ (w.heap.size + 1) _ _).alloc _).alloc _).alloc _, ((by simpa using Bk.new ((w.alloc (.cells #[.slice A tt.length c] 22)).alloc (.cells #[.int .u64 0] 23)) 3 #[.int .i64 0] : Bk _ (w.heap.size + 2) _ _).alloc _).alloc _, (by simpa using Bk.new (((w.alloc (.cells #[.slice A tt.length c] 22)).alloc (.cells #[.int .u64 0] 23)).alloc (.cells #[.int .i64 0] 3)) 23 #[.int .u64 0] : Bk _ (w.heap.size + 3) _ _).alloc _, (((((Keep.refl _ w).alloc _).alloc _).alloc _).alloc _).alloc _, by omega, HR⟩
  case assign =>
    intro l x W K hK
    gi_wp2
    exact hK
  case body =>
    rintro l pre x W hpx ⟨s', hb0, hb1, hb2, hb3, hk, hs', ho⟩ hBW hDW
    have hx64 : x < 64 := (mem_lt (hpx.subset (by simp))).1
    have hdr : (mem s).drop pre.length = x :: (mem s).drop (pre ++ [x]).length := by
      obtain ⟨suf, e⟩ := hpx
      rw [← e]
      simp
    have ho1 := ho.out
    rw [hdr] at ho1
    unfold renL at ho1
    have HO := Lib.hid ho1
    clear ho1 hdr ho HR
    have hN : RenI w (.slice A tt.length c) tt r (mem s) (pre ++ [x]) = fun W => ∃ s' : Nat, Bk W w.heap.size 22 #[.slice A tt.length c] ∧ Bk W (w.heap.size + 1) 23 #[.int .u64 0] ∧ Bk W (w.heap.size + 2) 3 #[.int .i64 0] ∧ Bk W (w.heap.size + 3) 23 #[.int .u64 s'] ∧
      Keep NoF w W ∧ s' < 18446744073709551616 ∧ Hid (renL tt s' ((mem s).drop (pre ++ [x]).length) = r) := rfl
    have HN := Lib.hid hN
    clear hN
    generalize (mem s).drop (pre ++ [x]).length = rest at *
    have hc0 := hb0.cell 0
    have hf0 := hb0.frozen 0
    have hc1 := hb1.cell 0
    have hf1 := hb1.frozen 0
    have hc2 := hb2.cell 0
    have hf2 := hb2.frozen 0
    have hc3 := hb3.cell 0
    have hf3 := hb3.frozen 0
    by_cases h1 : tt.length ≤ x
    · have HR6 : Hid (r = (0, 6)) := Lib.hid (by have := HO.out; rwa [if_pos h1, eq_comm] at this)
      gi_wp2
      rw [HR6.out]
      exact ⟨same3_set (same3_set (Same3.refl _ _ _) (by rintro (h | h | h) <;> omega) _) (by rintro (h | h | h) <;> omega) _, (bk_set hb1 _).far (by simp) _, bk_set (hb2.far (by simp) _) _, (hk.setCell (.inr (by simp)) _).setCell (.inr (by simp)) _⟩
    · have hxl : x < tt.length := by omega
      have hty : tt[x]? = some (tt.getD x 0) := by rw [List.getD_eq_getElem?_getD, List.getElem?_eq_getElem hxl]; rfl
      obtain ⟨-, bl, off, rfl, hc⟩ := (hrd.kept hk fun _ _ h => h).int hty
      have HO1 : Hid ((if tt.getD x 0 < 0 ∨ 63 < tt.getD x 0 then ((0, 2) : Nat × Int) else renL tt (s' ||| 2 ^ (tt.getD x 0).toNat) rest) = r) := Lib.hid (by have := HO.out; rwa [if_neg h1] at this)
      clear HO hty
      generalize tt.getD x 0 = y at *
      by_cases h2 : y < 0
      · have HR2 : Hid (r = (0, 2)) := Lib.hid (by have := HO1.out; rwa [if_pos (.inl h2), eq_comm] at this)
        gi_wp2
        rw [HR2.out]
        exact ⟨same3_set (same3_set (Same3.refl _ _ _) (by rintro (h | h | h) <;> omega) _) (by rintro (h | h | h) <;> omega) _, (bk_set hb1 _).far (by simp) _, bk_set (hb2.far (by simp) _) _, (hk.setCell (.inr (by simp)) _).setCell (.inr (by simp)) _⟩
      · by_cases h3 : 63 < y
        · have HR2 : Hid (r = (0, 2)) := Lib.hid (by have := HO1.out; rwa [if_pos (.inr h3), eq_comm] at this)
          gi_wp2
          rw [HR2.out]
          exact ⟨same3_set (same3_set (Same3.refl _ _ _) (by rintro (h | h | h) <;> omega) _) (by rintro (h | h | h) <;> omega) _, (bk_set hb1 _).far (by simp) _, bk_set (hb2.far (by simp) _) _, (hk.setCell (.inr (by simp)) _).setCell (.inr (by simp)) _⟩
        · obtain ⟨n, rfl⟩ : ∃ n : Nat, y = n := ⟨y.toNat, by omega⟩
          have hn : n < 64 := by omega
          have HO2 : Hid (renL tt (s' ||| 2 ^ n) rest = r) := Lib.hid (by have := HO1.out; rwa [if_neg (by omega), Int.toNat_natCast] at this)
          have HV := Lib.hid (or_shl hs' hn)
          clear HO1
          gi_wp2
          gi_region_with_o (fail)
          all_goals gi_wp2
          all_goals (try go_bits)
          all_goals (refine ⟨same3_set (Same3.refl _ _ _) (by rintro (h | h | h) <;> omega) _, ?_⟩; rw [HN.out, HV.out]; exact ⟨s' ||| 2 ^ n, hb0.far (by simp) _, hb1.far (by simp) _, hb2.far (by simp) _, bk_set hb3 _, (hk.setCell (.inr (by simp)) _).drew, or_lt64 hs' (pow_lt64 hn), HO2⟩)
  case done =>
    rintro W ⟨s', hb0, hb1, hb2, hb3, hk, hs', ho⟩ hD
    have hc1 := hb1.cell 0
    have hf1 := hb1.frozen 0
    have hc2 := hb2.cell 0
    have hf2 := hb2.frozen 0
    have hc3 := hb3.cell 0
    have HRr : Hid (r = (s', 0)) := Lib.hid (by have := ho.out; rwa [List.drop_length, eq_comm] at this)
    clear ho HR
    gi_wp2
    rw [HRr.out]
    have hD2 : ((W.setCell ⟨w.heap.size + 1, 0, none⟩ (.int .u64 s')).setCell ⟨w.heap.size + 1 + 1, 0, none⟩ (.int .i64 0)).heap[w.heap.size + 5]? = some (.deferred (some [])) := (Below.heap_setCell _ _ _ _ (by simp)).trans ((Below.heap_setCell _ _ _ _ (by simp)).trans hD)
    have hB1 : Bk ((W.setCell ⟨w.heap.size + 1, 0, none⟩ (.int .u64 s')).setCell ⟨w.heap.size + 1 + 1, 0, none⟩ (.int .i64 0)) (w.heap.size + 1) 23 #[.int .u64 s'] := (bk_set hb1 _).far (by simp) _
    have hB2 : Bk ((W.setCell ⟨w.heap.size + 1, 0, none⟩ (.int .u64 s')).setCell ⟨w.heap.size + 1 + 1, 0, none⟩ (.int .i64 0)) (w.heap.size + 1 + 1) 3 #[.int .i64 0] := bk_set (hb2.far (by simp) _) _
    have hK2 : Keep NoF w ((W.setCell ⟨w.heap.size + 1, 0, none⟩ (.int .u64 s')).setCell ⟨w.heap.size + 1 + 1, 0, none⟩ (.int .i64 0)) := (hk.setCell (.inr (by simp)) _).setCell (.inr (by simp; omega)) _
    refine ⟨by simp, .inl ⟨_, _, rfl, run_takeDeferred hD2, ?_⟩⟩
    have c1 := (bk_putD hB1 (.deferred none) (D := w.heap.size + 5) (by omega)).cell 0
    have c2 := (bk_putD hB2 (.deferred none) (D := w.heap.size + 5) (by omega)).cell 0
    exact ⟨.tuple #[.int .u64 s', .int .i64 0], by simp [results, Tryd.results25, go_sem, c1, c2], rfl, keep_end hK2 (by omega) _⟩
  case stop =>
    rintro pre W ⟨hb1, hb2, hk⟩ hD
    clear HR
    gi_wp2
    have hD2 : W.heap[w.heap.size + 5]? = some (.deferred (some [])) := hD
    have hB1 : Bk W (w.heap.size + 1) 23 #[.int .u64 r.1] := hb1
    have hB2 : Bk W (w.heap.size + 1 + 1) 3 #[.int .i64 r.2] := hb2
    have hK2 : Keep NoF w W := hk
    refine ⟨by simp, .inl ⟨_, _, rfl, run_takeDeferred hD2, ?_⟩⟩
    have c1 := (bk_putD hB1 (.deferred none) (D := w.heap.size + 5) (by omega)).cell 0
    have c2 := (bk_putD hB2 (.deferred none) (D := w.heap.size + 5) (by omega)).cell 0
    exact ⟨.tuple #[.int .u64 r.1, .int .i64 r.2], by simp [results, Tryd.results25, go_sem, c1, c2], rfl, keep_end hK2 (by omega) _⟩
end
end Go.Proofs.YtckmhngcnimmdaaDoor
