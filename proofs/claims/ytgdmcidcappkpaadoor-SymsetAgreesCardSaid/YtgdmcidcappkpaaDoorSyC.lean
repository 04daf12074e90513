/- Valid diagrams of up to 12 variables as functions: what the operations make of them, the program's (d_) and the reference's (rd_). No condition. -/
import Derived.Test.YtgdmcidcappkpaaDoorDia
import Derived.Test.YtgdmcidcappkpaaDoorCmpD
import Derived.Test.YtgdmcidcappkpaaDoorSyB
set_option linter.unusedVariables false
set_option linter.unusedSimpArgs false
namespace Go.Proofs.YtgdmcidcappkpaaDoor
open Go.RowKit
open Dd (Rn rat ofN toN checkErr den lo var Within Valid supp canon)

/-- What an operation hands back: a diagram of f. -/
def DP (w : World) (V : Nat) (f : BF) (e : Ending) (w' : World) : Prop :=
  ∃ A n c, ∃ r : Nat, e = .returned (.tuple #[.agg #[.int .i64 V, .slice A n c, .int .i64 r], .int .i64 0]) ∧ IsD w' V f A n c r ∧ Keep NoF w w'
theorem DPost.dp {w : World} {V : Nat} {f : BF} {e : Ending} {w' : World} (h : DPost w V f e w') : DP w V f e w' := by
  obtain ⟨A, n, c, r, h1, h2, h3, _⟩ := h
  exact ⟨A, n, c, r, h1, h2, h3⟩
theorem DP.congr {w : World} {V : Nat} {f g : BF} {e : Ending} {w' : World} (h : DP w V f e w') (hg : ∀ ρ, f ρ = g ρ) : DP w V g e w' := by
  obtain ⟨A, n, c, r, h1, h2, h3⟩ := h
  exact ⟨A, n, c, r, h1, h2.congr hg, h3⟩
theorem OpPost.dp {w : World} {V : Nat} {ds : List Dg} {σ : List BF → BF} {f : BF} {e : Ending} {w' : World} (h : OpPost w V ds σ e w') (h0 : opErr V ds = 0) (hf : ∀ ρ, σ (ds.map Dg.fn) ρ = f ρ) (hw : Within V f) (hV : V ≤ 12) : DP w V f e w' :=
  (h.dia h0 hf hw hV).dp
theorem valid_const (V : Nat) (hV : V ≤ 24) (t : Bool) : Valid V [] (if t then 1 else 0) := by
  refine ⟨hV, by simp, Dd.Good.nil, fun i h1 h2 => by simp at h2; omega, by cases t <;> simp, ?_⟩
  cases t <;> rfl
theorem good_var (i : Nat) (hi : i < 24) : Dd.Good [(i, 0, 1)] := by
  have h := Dd.Good.nil.snoc (v := i) (l := 0) (h := 1) hi (by simp) (by simp) (by omega) (by simp [var]; exact hi) (by simp [var]; exact hi) (by simp)
  simpa using h
theorem valid_var (V i : Nat) (hV : V ≤ 24) (hi : i < V) : Valid V [(i, 0, 1)] 2 := by
  refine ⟨hV, by simp, good_var i (by omega), fun j h1 h2 => ?_, by simp, rfl⟩
  have : j = 2 := by simp at h2; omega
  subst this
  simpa [var] using hi
theorem den_var (i : Nat) (hi : i < 24) (ρ : Nat → Bool) : den [(i, 0, 1)] 2 ρ = ρ i := by
  rw [Dd.den_node (good_var i hi) (by omega) (by simp)]
  simp [var, lo, Dd.hi]
theorem x_const (V : Nat) (hV : V ≤ 24) (t : Bool) (w : World) : Calls Tryd.prog 28 #[.int .i64 V, .bool t] w (DP w V fun _ => t) := by
  refine (Const_any V t w).mono fun e w' ⟨he, hk⟩ => ?_
  rw [if_neg (by omega)] at he
  refine ⟨none, 0, 0, if t then 1 else 0, ?_, ⟨[], rfl, Rd.nil _ _, valid_const V hV t, fun ρ => ?_⟩, hk⟩
  · rw [he]; cases t <;> rfl
  · cases t <;> rfl
theorem x_var (V i : Nat) (hV : V ≤ 24) (hi : i < V) (w : World) : Calls Tryd.prog 40 #[.int .i64 V, .int .i64 i] w (DP w V fun ρ => ρ i) := by
  refine (Var_any V i w).mono fun e w' ⟨_, h2, hk⟩ => ?_
  obtain ⟨sl, he, hr, ho⟩ := h2 (by unfold varErr; rw [if_neg (by omega)])
  have hr2 := hr
  obtain ⟨_, A, c, rfl, _, _⟩ := hr2
  exact ⟨A, 1, c, 2, he, ⟨[(i, 0, 1)], rfl, hr, valid_var V i hV hi, den_var i (by omega)⟩, hk⟩

section
variable {w : World} {V : Nat} {f g h : BF} {A B D : Option Addr} {n c r n' c' r' n'' c'' r'' : Nat}
theorem x_not (hV : V ≤ 12) (ha : IsD w V f A n c r) : Calls Tryd.prog 27 #[.agg #[.int .i64 V, .slice A n c, .int .i64 r]] w (DP w V fun ρ => !f ρ) := by
  obtain ⟨d, e1, e2, e3, e4, e5, _⟩ := ha.dg
  have h := not_any d w e2
  rw [e1, e4] at h
  refine h.mono fun e w' hp => hp.dp (opErr_one e3 e4) (fun ρ => by simp [notSem, e5]) ?_ hV
  exact fun v hv ρ b => by rw [ha.within v hv]
theorem x_and (hV : V ≤ 12) (ha : IsD w V f A n c r) (hb : IsD w V g B n' c' r') : Calls Tryd.prog 31 #[.agg #[.int .i64 V, .slice A n c, .int .i64 r], .agg #[.int .i64 V, .slice B n' c', .int .i64 r']] w (DP w V fun ρ => f ρ && g ρ) := by
  obtain ⟨d, e1, e2, e3, e4, e5, _⟩ := ha.dg
  obtain ⟨d2, k1, k2, k3, k4, k5, _⟩ := hb.dg
  have h := and_any d d2 w e2 k2
  rw [e1, k1, e4] at h
  refine h.mono fun e w' hp => hp.dp (opErr_two e3 e4 k3 k4) (fun ρ => by simp [andSem, e5, k5]) ?_ hV
  exact fun v hv ρ b => by rw [ha.within v hv, hb.within v hv]
theorem x_or (hV : V ≤ 12) (ha : IsD w V f A n c r) (hb : IsD w V g B n' c' r') : Calls Tryd.prog 32 #[.agg #[.int .i64 V, .slice A n c, .int .i64 r], .agg #[.int .i64 V, .slice B n' c', .int .i64 r']] w (DP w V fun ρ => f ρ || g ρ) := by
  obtain ⟨d, e1, e2, e3, e4, e5, _⟩ := ha.dg
  obtain ⟨d2, k1, k2, k3, k4, k5, _⟩ := hb.dg
  have h := or_any d d2 w e2 k2
  rw [e1, k1, e4] at h
  refine h.mono fun e w' hp => hp.dp (opErr_two e3 e4 k3 k4) (fun ρ => by simp [orSem, e5, k5]) ?_ hV
  exact fun v hv ρ b => by rw [ha.within v hv, hb.within v hv]
theorem x_ite (hV : V ≤ 12) (ha : IsD w V f A n c r) (hb : IsD w V g B n' c' r') (hc : IsD w V h D n'' c'' r'') : Calls Tryd.prog 64 #[.agg #[.int .i64 V, .slice A n c, .int .i64 r], .agg #[.int .i64 V, .slice B n' c', .int .i64 r'], .agg #[.int .i64 V, .slice D n'' c'', .int .i64 r'']] w (DP w V fun ρ => if f ρ then g ρ else h ρ) := by
  obtain ⟨d, e1, e2, e3, e4, e5, _⟩ := ha.dg
  obtain ⟨d2, k1, k2, k3, k4, k5, _⟩ := hb.dg
  obtain ⟨d3, l1, l2, l3, l4, l5, _⟩ := hc.dg
  have h := iteD_any d d2 d3 w e2 k2 l2
  rw [e1, k1, l1, e4] at h
  exact h.mono fun e w' hp => hp.dp (opErr_three e3 e4 k3 k4 l3 l4) (fun ρ => by simp [ite3Sem, e5, k5, l5]) (ha.within.ite hb.within hc.within) hV
theorem x_restrict {i : Nat} {t : Bool} (hi : i < V) (hV : V ≤ 12) (ha : IsD w V f A n c r) : Calls Tryd.prog 63 #[.agg #[.int .i64 V, .slice A n c, .int .i64 r], .int .i64 i, .bool t] w (DP w V (Dd.rf i t f)) := by
  obtain ⟨d, e1, e2, e3, e4, e5, _⟩ := ha.dg
  have h := Restrict_any d i t w e2
  rw [e1, e4] at h
  refine h.mono fun e w' hp => OpPost.dp (hp.ok ?_) (opErr_one e3 e4) (fun ρ => by simp [rSem, e5]) ha.within.rf hV
  simp [resErr, e3, e4]; omega
theorem x_exists {S : Nat} (hS : S < 2 ^ V) (hV : V ≤ 12) (ha : IsD w V f A n c r) : Calls Tryd.prog 65 #[.agg #[.int .i64 V, .slice A n c, .int .i64 r], .int .u64 S] w (DP w V (Dd.qf true S.testBit f)) :=
  (d_exists hS hV ha).mono fun _ _ h => h.dp
theorem x_compose {i : Nat} (hi : i < V) (hV : V ≤ 12) (ha : IsD w V f A n c r) (hb : IsD w V g B n' c' r') : Calls Tryd.prog 78 #[.agg #[.int .i64 V, .slice A n c, .int .i64 r], .int .i64 i, .agg #[.int .i64 V, .slice B n' c', .int .i64 r']] w (DP w V fun ρ => if g ρ then Dd.rf i true f ρ else Dd.rf i false f ρ) := by
  obtain ⟨d, e1, e2, e3, e4, e5, _⟩ := ha.dg
  obtain ⟨d2, k1, k2, k3, k4, k5, _⟩ := hb.dg
  have h := Compose_any d d2 i w e2 k2
  rw [e1, k1, e4] at h
  have hce : cErr d d2 i = 0 := by
    have hdd : dgErr [d, d2] = 0 := by simp [dgErr, e3, k3]
    unfold cErr
    rw [if_neg (by simp [hdd]), if_neg (by rw [e4, k4]; simp), if_neg (by rw [e4]; omega)]
  refine h.mono fun e w' hp => OpPost.dp (hp.ok hce) (opErr_two e3 e4 k3 k4) (fun ρ => by simp [cSem, e5, k5]) ?_ hV
  exact hb.within.ite ha.within.rf ha.within.rf
theorem x_eval {s : Nat} (hs : s < 18446744073709551616) (ha : IsD w V f A n c r) : Calls Tryd.prog 35 #[.agg #[.int .i64 V, .slice A n c, .int .i64 r], .int .u64 s] w fun e w' => e = .returned (.bool (f s.testBit)) ∧ Keep NoF w w' := d_eval hs ha
end

/-- A diagram that comes in without an error. -/
theorem dg_isD {w : World} (d : Dg) (hin : d.In w) (h : d.err = 0) : ∃ (V : Nat) (M : List Dd.Nd) (r : Nat) (A : Option Addr) (c : Nat), d = ⟨V, ofN M, r, .slice A M.length c⟩ ∧ Valid V M r ∧ IsD w V (den M r) A M.length c r := by
  obtain ⟨V, R, root, sl⟩ := d
  obtain ⟨v, M, r, rfl, rfl, rfl, hv⟩ := Dd.valid_of h
  have h1 := hin.1
  simp only at h1
  rw [Dd.ofN_len, rnsC_ofN] at h1
  have h2 := h1
  obtain ⟨_, A, c, rfl, _, _⟩ := h2
  exact ⟨v, M, r, A, c, rfl, hv, M, rfl, h1, hv, fun _ => rfl⟩
theorem IsD.loc {w : World} {V : Nat} {f : BF} {A : Option Addr} {n c r : Nat} (h : IsD w V f A n c r) : Dd.Loc V f := by
  obtain ⟨M, h1, h2, h3, h4⟩ := h
  intro ρ ρ' hr
  rw [← h4, ← h4]
  exact h3.loc ρ ρ' hr
/-- A variable of the type of diagrams lies elsewhere than the nodes. -/
theorem IsD.ne_box {w : World} {V : Nat} {f : BF} {A : Option Addr} {n c r : Nat} (h : IsD w V f A n c r) {b : Nat} {t : TypeId} {x y z : Value} (hb : Bk w b t #[x, y, z]) (hy : ∀ k i, y ≠ .int k i) (hn : 0 < n) : (Value.slice A n c).ownBlock ≠ some b := by
  obtain ⟨M, rfl, h2, _⟩ := h
  obtain ⟨_, _, bl, off, rfl, hc⟩ := h2.at_ hn
  intro e
  have e : bl = b := by simpa [Value.ownBlock] using e
  subst e
  have hlen := h2.1
  have at_ : ∀ j, j < 3 → ∃ k i, w.cell? ⟨bl, off + j, none⟩ = some (.int k i) := fun j hj => by
    have hl : j < (ndsC M).length := by omega
    have hc1 := hc j _ (List.getElem?_eq_getElem hl)
    have hm : ∀ u ∈ ndsC M, ∃ k i, u = Value.int k i := by
      intro u hu
      rw [← rnsC_ofN] at hu
      obtain ⟨q, _, hq⟩ := List.mem_flatMap.1 hu
      simp [rnC] at hq
      rcases hq with rfl | rfl | rfl <;> exact ⟨_, _, rfl⟩
    obtain ⟨k, i, hk⟩ := hm _ (List.getElem_mem hl)
    rw [hk] at hc1
    exact ⟨k, i, hc1⟩
  by_cases ho : off = 0
  · subst ho
    obtain ⟨k, i, hk⟩ := at_ 1 (by omega)
    rw [hb.cell] at hk
    simp at hk
    exact hy k i hk
  · obtain ⟨k, i, hk⟩ := at_ 2 (by omega)
    rw [hb.cell] at hk
    rw [Array.getElem?_eq_none (by simp; omega)] at hk
    cases hk
/-- A step that turns a variable of the type of diagrams alone. -/
theorem IsD.far_box {w w' : World} {V : Nat} {f : BF} {A : Option Addr} {n c r : Nat} (h : IsD w V f A n c r) {b : Nat} {t : TypeId} {x y z : Value} (hb : Bk w b t #[x, y, z]) (hy : ∀ k i, y ≠ .int k i) (hk : Keep (fun k => k = b) w w') : IsD w' V f A n c r := by
  by_cases hn : 0 < n
  · exact h.far hk fun k hk' e => h.ne_box hb hy hn (e ▸ hk')
  · obtain ⟨M, h1, h2, h3, h4⟩ := h
    refine ⟨M, h1, ⟨h2.1, ?_⟩, h3, h4⟩
    obtain ⟨A', c', e, hc, _⟩ := h2.2
    exact ⟨A', c', e, hc, fun h => absurd h hn⟩
theorem set3_box {w : World} {b : Nat} {x y z : Value} (hb : Bk w b 26 #[x, y, z]) (hy : ∀ k i, y ≠ .int k i) {V : Nat} {f : BF} {A : Option Addr} {n c r : Nat} (h : IsD w V f A n c r) :
    Bk (((w.setCell ⟨b, 0, none⟩ (.int .i64 V)).setCell ⟨b, 1, none⟩ (.slice A n c)).setCell ⟨b, 2, none⟩ (.int .i64 r)) b 26 #[.int .i64 V, .slice A n c, .int .i64 r] ∧
    IsD (((w.setCell ⟨b, 0, none⟩ (.int .i64 V)).setCell ⟨b, 1, none⟩ (.slice A n c)).setCell ⟨b, 2, none⟩ (.int .i64 r)) V f A n c r ∧
    Keep (fun k => k = b) w (((w.setCell ⟨b, 0, none⟩ (.int .i64 V)).setCell ⟨b, 1, none⟩ (.slice A n c)).setCell ⟨b, 2, none⟩ (.int .i64 r)) :=
  ⟨((hb.put 0 _).put 1 _).put 2 _, h.far_box hb hy (keep_set3 w b _ _ _), keep_set3 w b _ _ _⟩
theorem sl_nint {A : Option Addr} {n c : Nat} : ∀ k i, Value.slice A n c ≠ .int k i := fun _ _ h => by cases h
end Go.Proofs.YtgdmcidcappkpaaDoor
