/- What the law's build does: the diagram of a table of values. No condition. -/
import Derived.Test.YtengdldkkmknpaaDia
import Derived.Deep.RegionHeld3
import Derived.Deep.DeepCutAuto
import Derived.Outline
set_option linter.unusedVariables false
set_option linter.unusedSimpArgs false
namespace Go.Proofs.Ytengdldkkmknpaa
open Go.RowKit
open Dd (Rn rat ofN toN checkErr den lo var Within Valid)

/-- DPost in one shape with a bool behind. -/
def BPost (w : World) (V : Nat) (f : BF) (e : Ending) (w' : World) : Prop :=
  ∃ A n c, ∃ r : Nat, e = .returned (.tuple #[.agg #[.int .i64 V, .slice A n c, .int .i64 r], .bool true]) ∧ IsD w' V f A n c r ∧ Keep NoF w w' ∧ ∀ k, (Value.slice A n c).ownBlock = some k → w.heap.size ≤ k

theorem valid_const (V : Nat) (hV : V ≤ 24) (t : Bool) : Valid V [] (if t then 1 else 0) := by
  refine ⟨hV, by simp, Dd.Good.nil, fun i h1 h2 => by simp at h2; omega, by cases t <;> simp, ?_⟩
  cases t <;> rfl
theorem good_var (i : Nat) (hi : i < 24) : Dd.Good [(i, 0, 1)] := by
  have h := Dd.Good.nil.snoc (v := i) (l := 0) (h := 1) hi (by simp) (by simp) (by omega) (by simp [var]; exact hi) (by simp [var]; exact hi) (by simp)
  simpa using h
theorem valid_var (V i : Nat) (hV : V ≤ 24) (hi : i < V) : Valid V [(i, 0, 1)] 2 := by
  refine ⟨hV, by simp, good_var i (by omega), fun j h1 h2 => ?_, by simp, rfl⟩
  have : j = 2 := by simp at h2; omega
  subst this
  simpa [var] using hi
theorem den_var (i : Nat) (hi : i < 24) (ρ : Nat → Bool) : den [(i, 0, 1)] 2 ρ = ρ i := by
  rw [Dd.den_node (good_var i hi) (by omega) (by simp)]
  simp [var, lo, Dd.hi]

theorem d_const (V : Nat) (hV : V ≤ 24) (t : Bool) (w : World) : Calls Try.prog 34 #[.int .i64 V, .bool t] w (DPost w V fun _ => t) := by
  refine (Const_any V t w).mono fun e w' ⟨he, hk⟩ => ?_
  rw [if_neg (by omega)] at he
  refine ⟨none, 0, 0, if t then 1 else 0, ?_, ⟨[], rfl, Rd.nil _ _, valid_const V hV t, fun ρ => ?_⟩, hk, fun k hk => by simp [Value.ownBlock] at hk⟩
  · rw [he]; cases t <;> rfl
  · cases t <;> rfl
theorem d_var (V i : Nat) (hV : V ≤ 24) (hi : i < V) (w : World) : Calls Try.prog 36 #[.int .i64 V, .int .i64 i] w (DPost w V fun ρ => ρ i) := by
  refine (Var_any V i w).mono fun e w' ⟨_, h2, hk⟩ => ?_
  obtain ⟨sl, he, hr, ho⟩ := h2 (by unfold varErr; rw [if_neg (by omega)])
  have hr2 := hr
  obtain ⟨_, A, c, rfl, _, _⟩ := hr2
  exact ⟨A, 1, c, 2, he, ⟨[(i, 0, 1)], rfl, hr, valid_var V i hV hi, den_var i (by omega)⟩, hk, ho⟩

/-! ### the table -/
/-- What a table that is given as the bits of t says at an assignment: from variable lv on, d more, what is before being a. -/
def tf (t : Nat) : Nat → Nat → Nat → BF
  | 0, _, a => fun _ => t.testBit a
  | d + 1, lv, a => fun ρ => if ρ lv then tf t d (lv + 1) (a + 2 ^ lv) ρ else tf t d (lv + 1) a ρ

theorem tf_at (t x : Nat) : ∀ d lv, x < 2 ^ (lv + d) → tf t d lv (x % 2 ^ lv) x.testBit = t.testBit x := by
  intro d
  induction d with
  | zero => intro lv h; simp only [tf]; rw [Nat.mod_eq_of_lt (by simpa using h)]
  | succ d ih =>
    intro lv h
    have := ih (lv + 1) (by rwa [Nat.add_right_comm])
    have e : x % 2 ^ (lv + 1) = x % 2 ^ lv + (if x.testBit lv then 2 ^ lv else 0) := by
      rw [Nat.mod_pow_succ, Nat.testBit_eq_decide_div_mod_eq]
      have : x / 2 ^ lv % 2 = 0 ∨ x / 2 ^ lv % 2 = 1 := by omega
      rcases this with h | h <;> simp [h]
    rw [e] at this
    simp only [tf]
    cases hb : x.testBit lv
    · rw [hb] at this; simpa using this
    · rw [hb] at this; simpa using this
theorem tf_zero (t V x : Nat) (h : x < 2 ^ V) : tf t V 0 0 x.testBit = t.testBit x := by
  have := tf_at t x V 0 (by simpa using h)
  simpa [Nat.mod_one] using this

structure BCap (w : World) (vb ab rb tb gb go cap V t : Nat) : Prop where
  v : w.cell? ⟨vb, 0, none⟩ = some (.int .i64 V)
  a : w.cell? ⟨ab, 0, none⟩ = some (.func (.func 74) #[] #[.pointer (some ⟨tb, 0, none⟩)])
  r : w.cell? ⟨rb, 0, none⟩ = some (.func (.func 75) #[] #[.pointer (some ⟨vb, 0, none⟩), .pointer (some ⟨ab, 0, none⟩), .pointer (some ⟨rb, 0, none⟩)])
  s : w.cell? ⟨tb, 0, none⟩ = some (.slice (some ⟨gb, go, none⟩) 1 cap)
  c : w.cell? ⟨gb, go, none⟩ = some (.int .u64 t)
theorem BCap.keep {w w' : World} {vb ab rb tb gb go cap V t : Nat} (h : BCap w vb ab rb tb gb go cap V t) (hk : Keep NoF w w') : BCap w' vb ab rb tb gb go cap V t :=
  ⟨hk.cellv h.v fun h => h, hk.cellv h.a fun h => h, hk.cellv h.r fun h => h, hk.cellv h.s fun h => h, hk.cellv h.c fun h => h⟩

set_option maxRecDepth 100000 in
set_option maxHeartbeats 400000 in
theorem build1_any {w : World} {vb ab rb tb gb go cap V t : Nat} (h : BCap w vb ab rb tb gb go cap V t) (ht : t < 18446744073709551616) (a : Nat) (ha : a < 64) :
    Calls Try.prog 74 #[.int .i64 a, .pointer (some ⟨tb, 0, none⟩)] w fun e w' => e = .returned (.bool (t.testBit a)) ∧ w' = w := by
  have h1 := h.s
  have h2 := h.c
  clear h
  have hb := bit_one t a ht
  generalize hq : t.testBit a = tb at *
  clear hq
  have e1 : (a : Int).tdiv 64 = 0 := by rw [Int.tdiv_eq_ediv_of_nonneg (by omega)]; omega
  have e2 : (a : Int) / 64 = 0 := by omega
  have e3 : (a : Int) % 64 = a := by omega
  go_enter Try.func74, Try.ntmps74
  go_wp2
  go_ret
  exact ⟨rfl, rfl⟩

theorem rise_stop (t lv a : Nat) : tf t 0 lv a = fun _ => t.testBit a := rfl

set_option maxRecDepth 100000 in
set_option maxHeartbeats 1000000 in
theorem rise_const {w : World} {vb ab rb tb gb go cap V t : Nat} (h : BCap w vb ab rb tb gb go cap V t) (ht : t < 18446744073709551616) (hV : V ≤ 6) (a : Nat) (ha : a < 64) :
    Calls Try.prog 75 #[.int .i64 V, .int .i64 a, .pointer (some ⟨vb, 0, none⟩), .pointer (some ⟨ab, 0, none⟩), .pointer (some ⟨rb, 0, none⟩)] w (BPost w V fun _ => t.testBit a) := by
  have HA := Lib.hid fun (W : World) (hk : Keep NoF w W) => build1_any (h.keep hk) ht a ha
  have HC := Lib.hid fun (W : World) => d_const V (by omega) (t.testBit a) W
  have hv := h.v
  have hat := h.a
  have hr := h.r
  have lv : vb < w.heap.size := World.block_lt_of_cell? w _ hv
  have la : ab < w.heap.size := World.block_lt_of_cell? w _ hat
  have lr : rb < w.heap.size := World.block_lt_of_cell? w _ hr
  generalize t.testBit a = tv at *
  have e0 : ((V : Int) == (V : Int)) = true := by simp
  go_enter Try.func75, Try.ntmps75
  go_upto_region 2 with (fail)
  have hk0 : Keep NoF w (w.alloc (.cells #[.int .i64 0, .slice none 0 0, .int .i64 0] 24)) := (Keep.refl _ _).alloc _
  have hb0 := Bk.new w 24 #[.int .i64 0, .slice none 0 0, .int .i64 0]
  have x0 := hk0.cellv hv (fun h => h)
  have x1 := hk0.cellv hat (fun h => h)
  have hls : w.heap.size < (w.alloc (.cells #[.int .i64 0, .slice none 0 0, .int .i64 0] 24)).heap.size := by simp
  clear hv hat hr
  generalize w.alloc (.cells #[.int .i64 0, .slice none 0 0, .int .i64 0] 24) = W0 at *
  have xd0 : W0.drew.cell? ⟨vb, 0, none⟩ = some (.int .i64 V) := x0
  have xd1 : W0.drew.cell? ⟨ab, 0, none⟩ = some (.func (.func 74) #[] #[.pointer (some ⟨tb, 0, none⟩)]) := x1
  have xa0 : ∀ o, (W0.alloc o).drew.cell? ⟨vb, 0, none⟩ = some (.int .i64 V) := fun o => ((Keep.refl NoF W0).alloc o).cellv x0 (fun h => h)
  have xa1 : ∀ o, (W0.alloc o).drew.cell? ⟨ab, 0, none⟩ = some (.func (.func 74) #[] #[.pointer (some ⟨tb, 0, none⟩)]) := fun o => ((Keep.refl NoF W0).alloc o).cellv x1 (fun h => h)
  have abk0 : Bk (W0.alloc (.cells #[.int .i64 0, .slice none 0 0, .int .i64 0] 24)).drew W0.heap.size 24 #[.int .i64 0, .slice none 0 0, .int .i64 0] := Bk.drew (Bk.new W0 _ _)
  go_cut [9, 10] (fun v9 v10 wc => ∃ (cb n c : Nat) (A : Option Addr) (r : Nat), v9 = .pointer (some ⟨cb, 0, none⟩) ∧ v10 = .int .i64 0 ∧ Bk wc cb 24 #[.int .i64 V, .slice A n c, .int .i64 r] ∧ IsD wc V (fun _ => tv) A n c r ∧ Keep NoF W0 wc ∧ ∀ k, (Value.slice A n c).ownBlock = some k → W0.heap.size ≤ k)
  case first =>
    go_region_held3 (fun w' => w'.cell? ⟨vb, 0, none⟩ = some (.int .i64 V) ∧ w'.cell? ⟨ab, 0, none⟩ = some (.func (.func 74) #[] #[.pointer (some ⟨tb, 0, none⟩)]))
      (first
        | with_reducible exact ⟨xd0, xd1⟩
        | with_reducible exact ⟨xa0 _, xa1 _⟩
        | with_reducible exact ⟨y0, y1⟩
        | with_reducible exact ⟨ya0 _, ya1 _⟩
        | (go_split_ands
           refine ⟨?_, ?_⟩
           all_goals exact Keep.cellv ((((Keep.refl (fun x => W0.heap.size ≤ x) _).setCell (.inl (by simp <;> omega)) _).setCell (.inl (by simp <;> omega)) _).setCell (.inl (by simp <;> omega)) _) (by first | assumption | exact ya0 _ | exact ya1 _) (by simp <;> omega)))
      (first
        | (go_at_call 74
           (with_reducible refine (HA.out _ (by first | exact hk0.drew | exact (hk0.alloc _).drew)).mono ?_)
           rintro e w3 ⟨rfl, rfl⟩)
        | (go_at_call 34
           have akk := abk0
           (with_reducible refine (HC.out (W0.alloc _).drew).mono ?_)
           rintro e w4 ⟨A, n, c, r, rfl, hd4, hk4, hf4⟩
           have k4 : Keep NoF W0 w4 := ((Keep.refl _ _).alloc _).drew.trans hk4 fun _ _ h => h
           have y0 : w4.cell? ⟨vb, 0, none⟩ = some (.int .i64 V) := k4.cellv x0 (fun h => h)
           have y1 : w4.cell? ⟨ab, 0, none⟩ = some (.func (.func 74) #[] #[.pointer (some ⟨tb, 0, none⟩)]) := k4.cellv x1 (fun h => h)
           have bbk : Bk w4 W0.heap.size 24 #[.int .i64 0, .slice none 0 0, .int .i64 0] := akk.keep hk4 (fun h => h)
           have g0 : w4.cell? ⟨W0.heap.size, 0, none⟩ = some (.int .i64 0) := bbk.cell 0
           have g1 : w4.cell? ⟨W0.heap.size, 1, none⟩ = some (.slice none 0 0) := bbk.cell 1
           have g2 : w4.cell? ⟨W0.heap.size, 2, none⟩ = some (.int .i64 0) := bbk.cell 2
           have gf0 := bbk.frozen 0
           have gf1 := bbk.frozen 1
           have gf2 := bbk.frozen 2)
        | (go_at_call 34
           (with_reducible refine (HC.out W0.drew).mono ?_)
           rintro e w4 ⟨A, n, c, r, rfl, hd4, hk4, hf4⟩
           have k4 : Keep NoF W0 w4 := (Keep.refl NoF W0).drew.trans hk4 fun _ _ h => h
           have y0 : w4.cell? ⟨vb, 0, none⟩ = some (.int .i64 V) := k4.cellv x0 (fun h => h)
           have y1 : w4.cell? ⟨ab, 0, none⟩ = some (.func (.func 74) #[] #[.pointer (some ⟨tb, 0, none⟩)]) := k4.cellv x1 (fun h => h)
           have ya0 : ∀ o, (w4.alloc o).cell? ⟨vb, 0, none⟩ = some (.int .i64 V) := fun o => ((Keep.refl NoF w4).alloc o).cellv y0 (fun h => h)
           have ya1 : ∀ o, (w4.alloc o).cell? ⟨ab, 0, none⟩ = some (.func (.func 74) #[] #[.pointer (some ⟨tb, 0, none⟩)]) := fun o => ((Keep.refl NoF w4).alloc o).cellv y1 (fun h => h)))
    all_goals go_wp2
    all_goals go_meet
    all_goals
      case rel =>
        first
        | exact ⟨w4.heap.size, n, c, A, r, rfl, rfl, Bk.new _ _ _, hd4.keep ((Keep.refl _ _).alloc _), k4.alloc _, hf4⟩
        | (have hs0 : W0.heap.size < (W0.alloc (.cells #[.int .i64 0, .slice none 0 0, .int .i64 0] 24)).drew.heap.size := by simp
           exact ⟨W0.heap.size, n, c, A, r, rfl, rfl, ((bbk.put 0 _).put 1 _).put 2 _, hd4.set3 (fun k hk => by have := hf4 k hk; omega) _ _ _, k4.set3 (Nat.le_refl _) _ _ _, fun k hk => by have := hf4 k hk; omega⟩)
  case rest =>
    obtain ⟨cb, n, c, A, r, rfl, rfl, hb1, hd1, hk1, hf1⟩ := hcut
    obtain ⟨wa, rfl⟩ : ∃ wa : World, wa = wc := ⟨_, rfl⟩
    have z0 := hb1.cell 0
    have z1 := hb1.cell 1
    have z2 := hb1.cell 2
    simp only [List.getElem?_toArray, List.getElem?_cons_zero, List.getElem?_cons_succ] at z0 z1 z2
    have hb2 := hb0.keep hk1 (fun h => h)
    have y0 : wa.cell? ⟨w.heap.size, 0, none⟩ = some (.int .i64 0) := hb2.cell 0
    have y1 : wa.cell? ⟨w.heap.size, 1, none⟩ = some (.slice none 0 0) := hb2.cell 1
    have y2 : wa.cell? ⟨w.heap.size, 2, none⟩ = some (.int .i64 0) := hb2.cell 2
    have f0 := hb2.frozen 0
    have f1 := hb2.frozen 1
    have f2 := hb2.frozen 2
    go_wp2
    have hne : ∀ k, (Value.slice A n c).ownBlock = some k → k ≠ w.heap.size := fun k hk => by have := hf1 k hk; omega
    have hx := ((hb2.put 0 (.int .i64 V)).put 1 (.slice A n c)).put 2 (.int .i64 r)
    have hd2 := hd1.set3 hne (.int .i64 V) (.slice A n c) (.int .i64 r)
    have hkf : Keep NoF w (((wa.setCell ⟨w.heap.size, 0, none⟩ (.int .i64 V)).setCell ⟨w.heap.size, 1, none⟩ (.slice A n c)).setCell ⟨w.heap.size, 2, none⟩ (.int .i64 r)) := (hk0.trans hk1 fun _ _ h => h).set3 (Nat.le_refl _) _ _ _
    generalize ((wa.setCell ⟨w.heap.size, 0, none⟩ (.int .i64 V)).setCell ⟨w.heap.size, 1, none⟩ (.slice A n c)).setCell ⟨w.heap.size, 2, none⟩ (.int .i64 r) = W6 at *
    have hx0 : W6.cell? ⟨w.heap.size, 0, none⟩ = some (.int .i64 V) := hx.cell 0
    have hx1 : W6.cell? ⟨w.heap.size, 1, none⟩ = some (.slice A n c) := hx.cell 1
    have hx2 : W6.cell? ⟨w.heap.size, 2, none⟩ = some (.int .i64 r) := hx.cell 2
    refine bodyPost_ret (v := .tuple #[.agg #[.int .i64 V, .slice A n c, .int .i64 r], .bool true]) (by simp [results, Try.results75, go_sem, hx0, hx1, hx2]) rfl ?_
    exact ⟨A, n, c, r, rfl, hd2, hkf, fun k hk => by have := hf1 k hk; omega⟩
end Go.Proofs.Ytengdldkkmknpaa
