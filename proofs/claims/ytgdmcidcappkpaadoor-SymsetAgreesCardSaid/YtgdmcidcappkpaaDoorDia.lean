/- Valid diagrams of up to 12 variables as functions: what the program's operations make of them. No condition. -/
import Derived.Test.YtgdmcidcappkpaaDoorSame
import Derived.Test.YtgdmcidcappkpaaDoorCount
import Derived.Test.YtgdmcidcappkpaaDoorLaw
set_option linter.unusedVariables false
set_option linter.unusedSimpArgs false
namespace Go.Proofs.YtgdmcidcappkpaaDoor
open Go.RowKit
open Dd (Rn rat ofN toN checkErr den lo var Within Valid cn supp anyP)

/-- The struct (V, slice, r) is a valid diagram of the function f. -/
def IsD (w : World) (V : Nat) (f : BF) (A : Option Addr) (n c r : Nat) : Prop :=
  ∃ M, n = M.length ∧ Rd w (.slice A n c) 3 n (ndsC M) ∧ Valid V M r ∧ ∀ ρ, den M r ρ = f ρ

theorem IsD.keep {w w' : World} {V : Nat} {f : BF} {A : Option Addr} {n c r : Nat} (h : IsD w V f A n c r) (hk : Keep NoF w w') : IsD w' V f A n c r := by
  obtain ⟨M, h1, h2, h3, h4⟩ := h
  exact ⟨M, h1, h2.kept hk fun _ _ h => h, h3, h4⟩
theorem IsD.congr {w : World} {V : Nat} {f g : BF} {A : Option Addr} {n c r : Nat} (h : IsD w V f A n c r) (hg : ∀ ρ, f ρ = g ρ) : IsD w V g A n c r := by
  obtain ⟨M, h1, h2, h3, h4⟩ := h
  exact ⟨M, h1, h2, h3, fun ρ => (h4 ρ).trans (hg ρ)⟩
theorem IsD.within {w : World} {V : Nat} {f : BF} {A : Option Addr} {n c r : Nat} (h : IsD w V f A n c r) : Within V f := by
  obtain ⟨M, h1, h2, h3, h4⟩ := h
  exact (Dd.valid_within h3 r h3.root).congr fun ρ => (h4 ρ).symm

/-- A block turns that is not the slice's own. -/
theorem IsD.far {F : Nat → Prop} {w w' : World} {V : Nat} {f : BF} {A : Option Addr} {n c r : Nat} (h : IsD w V f A n c r) (hk : Keep F w w') (hf : ∀ k, (Value.slice A n c).ownBlock = some k → ¬ F k) : IsD w' V f A n c r := by
  obtain ⟨M, h1, h2, h3, h4⟩ := h
  exact ⟨M, h1, h2.kept hk hf, h3, h4⟩

theorem keep_set3 (w : World) (b : Nat) (x y z : Value) : Keep (fun k => k = b) w (((w.setCell ⟨b, 0, none⟩ x).setCell ⟨b, 1, none⟩ y).setCell ⟨b, 2, none⟩ z) :=
  (((Keep.refl (fun k => k = b) w).setCell (p := ⟨b, 0, none⟩) (.inl rfl) x).setCell (p := ⟨b, 1, none⟩) (.inl rfl) y).setCell (p := ⟨b, 2, none⟩) (.inl rfl) z
theorem Keep.set3 {w w1 : World} (h : Keep NoF w w1) {b : Nat} (hb : w.heap.size ≤ b) (x y z : Value) : Keep NoF w (((w1.setCell ⟨b, 0, none⟩ x).setCell ⟨b, 1, none⟩ y).setCell ⟨b, 2, none⟩ z) :=
  ((h.setCell (p := ⟨b, 0, none⟩) (.inr hb) x).setCell (p := ⟨b, 1, none⟩) (.inr hb) y).setCell (p := ⟨b, 2, none⟩) (.inr hb) z
theorem IsD.set3 {w : World} {V : Nat} {f : BF} {A : Option Addr} {n c r : Nat} (h : IsD w V f A n c r) {b : Nat} (hb : ∀ k, (Value.slice A n c).ownBlock = some k → k ≠ b) (x y z : Value) : IsD (((w.setCell ⟨b, 0, none⟩ x).setCell ⟨b, 1, none⟩ y).setCell ⟨b, 2, none⟩ z) V f A n c r :=
  h.far (keep_set3 w b x y z) hb

/-- As a diagram that comes in. -/
theorem IsD.dg {w : World} {V : Nat} {f : BF} {A : Option Addr} {n c r : Nat} (h : IsD w V f A n c r) :
    ∃ d : Dg, d.val = .agg #[.int .i64 V, .slice A n c, .int .i64 r] ∧ d.In w ∧ d.err = 0 ∧ d.V = V ∧ d.fn = f ∧ ∃ M, d = ⟨V, ofN M, r, .slice A n c⟩ ∧ Valid V M r ∧ (∀ ρ, den M r ρ = f ρ) := by
  obtain ⟨M, rfl, h2, h3, h4⟩ := h
  refine ⟨⟨V, ofN M, r, .slice A M.length c⟩, rfl, ⟨?_, ?_⟩, Dd.check_valid h3, rfl, ?_, M, rfl, h3, h4⟩
  · rw [rnsC_ofN, Dd.ofN_len]; exact h2
  · rw [Dd.ofN_len]; have := h3.len; omega
  · funext ρ
    simp only [Dg.fn, Dd.toN_ofN, Int.toNat_natCast]
    exact h4 ρ

/-- What an operation hands back: a diagram of f. -/
def DPost (w : World) (V : Nat) (f : BF) (e : Ending) (w' : World) : Prop :=
  ∃ A n c, ∃ r : Nat, e = .returned (.tuple #[.agg #[.int .i64 V, .slice A n c, .int .i64 r], .int .i64 0]) ∧ IsD w' V f A n c r ∧ Keep NoF w w' ∧ ∀ k, (Value.slice A n c).ownBlock = some k → w.heap.size ≤ k

theorem OpPost.dia {w : World} {V : Nat} {ds : List Dg} {σ : List BF → BF} {f : BF} {e : Ending} {w' : World} (h : OpPost w V ds σ e w') (h0 : opErr V ds = 0) (hf : ∀ ρ, σ (ds.map Dg.fn) ρ = f ρ) (hw : Within V f) (hV : V ≤ 12) : DPost w V f e w' := by
  obtain ⟨_, h2, h3⟩ := h
  obtain ⟨N, t, g1, g2, g3, g4⟩ := h2 h0
  have hwt : Within V (den N t) := hw.congr fun ρ => (g3 ρ).trans (hf ρ)
  have hs := Dd.canon_short g1 hV g2 hwt
  have hv := Dd.valid_canon g1 (by omega) g2 hwt hs
  rcases g4 with ⟨hl, _⟩ | ⟨hl, sl, he, hr, ho⟩
  · omega
  · have hr2 := hr
    obtain ⟨_, A, c, rfl, _, _⟩ := hr2
    exact ⟨A, _, c, _, he, ⟨_, rfl, hr, hv, fun ρ => by rw [Dd.canon_den g1 g2, g3, hf]⟩, h3, ho⟩

theorem opErr_one {V : Int} {a : Dg} (h : a.err = 0) (hv : a.V = V) : opErr V [a] = 0 := by simp [opErr, dgErr, h, hv]
theorem opErr_two {V : Int} {a b : Dg} (h : a.err = 0) (hv : a.V = V) (h2 : b.err = 0) (hv2 : b.V = V) : opErr V [a, b] = 0 := by simp [opErr, dgErr, h, hv, h2, hv2]
theorem opErr_three {V : Int} {a b c : Dg} (h : a.err = 0) (hv : a.V = V) (h2 : b.err = 0) (hv2 : b.V = V) (h3 : c.err = 0) (hv3 : c.V = V) : opErr V [a, b, c] = 0 := by simp [opErr, dgErr, h, hv, h2, hv2, h3, hv3]

section
variable {w : World} {V : Nat} {f g h : BF} {A B D : Option Addr} {n c r n' c' r' n'' c'' r'' : Nat}
theorem d_not (hV : V ≤ 12) (ha : IsD w V f A n c r) : Calls Tryd.prog 27 #[.agg #[.int .i64 V, .slice A n c, .int .i64 r]] w (DPost w V fun ρ => !f ρ) := by
  obtain ⟨d, e1, e2, e3, e4, e5, _⟩ := ha.dg
  have h := not_any d w e2
  rw [e1, e4] at h
  refine h.mono fun e w' hp => hp.dia (opErr_one e3 e4) (fun ρ => by simp [notSem, e5]) ?_ hV
  exact fun v hv ρ b => by rw [ha.within v hv]
theorem d_and (hV : V ≤ 12) (ha : IsD w V f A n c r) (hb : IsD w V g B n' c' r') : Calls Tryd.prog 31 #[.agg #[.int .i64 V, .slice A n c, .int .i64 r], .agg #[.int .i64 V, .slice B n' c', .int .i64 r']] w (DPost w V fun ρ => f ρ && g ρ) := by
  obtain ⟨d, e1, e2, e3, e4, e5, _⟩ := ha.dg
  obtain ⟨d2, k1, k2, k3, k4, k5, _⟩ := hb.dg
  have h := and_any d d2 w e2 k2
  rw [e1, k1, e4] at h
  refine h.mono fun e w' hp => hp.dia (opErr_two e3 e4 k3 k4) (fun ρ => by simp [andSem, e5, k5]) ?_ hV
  exact fun v hv ρ b => by rw [ha.within v hv, hb.within v hv]
theorem d_or (hV : V ≤ 12) (ha : IsD w V f A n c r) (hb : IsD w V g B n' c' r') : Calls Tryd.prog 32 #[.agg #[.int .i64 V, .slice A n c, .int .i64 r], .agg #[.int .i64 V, .slice B n' c', .int .i64 r']] w (DPost w V fun ρ => f ρ || g ρ) := by
  obtain ⟨d, e1, e2, e3, e4, e5, _⟩ := ha.dg
  obtain ⟨d2, k1, k2, k3, k4, k5, _⟩ := hb.dg
  have h := or_any d d2 w e2 k2
  rw [e1, k1, e4] at h
  refine h.mono fun e w' hp => hp.dia (opErr_two e3 e4 k3 k4) (fun ρ => by simp [orSem, e5, k5]) ?_ hV
  exact fun v hv ρ b => by rw [ha.within v hv, hb.within v hv]
theorem d_ite (hV : V ≤ 12) (ha : IsD w V f A n c r) (hb : IsD w V g B n' c' r') (hc : IsD w V h D n'' c'' r'') : Calls Tryd.prog 64 #[.agg #[.int .i64 V, .slice A n c, .int .i64 r], .agg #[.int .i64 V, .slice B n' c', .int .i64 r'], .agg #[.int .i64 V, .slice D n'' c'', .int .i64 r'']] w (DPost w V fun ρ => if f ρ then g ρ else h ρ) := by
  obtain ⟨d, e1, e2, e3, e4, e5, _⟩ := ha.dg
  obtain ⟨d2, k1, k2, k3, k4, k5, _⟩ := hb.dg
  obtain ⟨d3, l1, l2, l3, l4, l5, _⟩ := hc.dg
  have h := iteD_any d d2 d3 w e2 k2 l2
  rw [e1, k1, l1, e4] at h
  exact h.mono fun e w' hp => hp.dia (opErr_three e3 e4 k3 k4 l3 l4) (fun ρ => by simp [ite3Sem, e5, k5, l5]) (ha.within.ite hb.within hc.within) hV

theorem ErrOr.ok {err : Int} {P : Ending → World → Prop} {e : Ending} {w' : World} (h : ErrOr w err P e w') (h0 : err = 0) : P e w' := h.2 h0

theorem d_restrict {i : Nat} {t : Bool} (hi : i < V) (hV : V ≤ 12) (ha : IsD w V f A n c r) : Calls Tryd.prog 63 #[.agg #[.int .i64 V, .slice A n c, .int .i64 r], .int .i64 i, .bool t] w (DPost w V (Dd.rf i t f)) := by
  obtain ⟨d, e1, e2, e3, e4, e5, _⟩ := ha.dg
  have h := Restrict_any d i t w e2
  rw [e1, e4] at h
  refine h.mono fun e w' hp => OpPost.dia (hp.ok ?_) (opErr_one e3 e4) (fun ρ => by simp [rSem, e5]) ha.within.rf hV
  simp [resErr, e3, e4]; omega
theorem d_exists {S : Nat} (hS : S < 2 ^ V) (hV : V ≤ 12) (ha : IsD w V f A n c r) : Calls Tryd.prog 65 #[.agg #[.int .i64 V, .slice A n c, .int .i64 r], .int .u64 S] w (DPost w V (Dd.qf true S.testBit f)) := by
  obtain ⟨d, e1, e2, e3, e4, e5, _⟩ := ha.dg
  have hp2 : 2 ^ V ≤ 2 ^ 12 := Nat.pow_le_pow_right (by omega) hV
  have h := Exists_any d S (by omega) w e2
  rw [e1, e4] at h
  refine h.mono fun e w' hp => OpPost.dia (hp.ok ?_) (opErr_one e3 e4) (fun ρ => by simp [qSem, e5]) ha.within.qf hV
  have h0 : S / 2 ^ V = 0 := Nat.div_eq_of_lt hS
  simp only [qErr, e3, e4, Int.toNat_natCast, h0]
  simp
theorem d_same (ha : IsD w V f A n c r) (hb : IsD w V g B n' c' r') (s : Bool) (hs : s = true ↔ ∀ ρ, f ρ = g ρ) : Calls Tryd.prog 42 #[.agg #[.int .i64 V, .slice A n c, .int .i64 r], .agg #[.int .i64 V, .slice B n' c', .int .i64 r']] w fun e w' => e = .returned (.bool s) ∧ Keep NoF w w' := by
  obtain ⟨d, e1, e2, e3, e4, e5, M, rfl, hv, hd⟩ := ha.dg
  obtain ⟨d2, k1, k2, k3, k4, k5, M', rfl, hv', hd'⟩ := hb.dg
  have h := Same_any _ _ w e2 k2
  rw [e1, k1] at h
  refine h.mono fun e w' ⟨he, hk⟩ => ⟨?_, hk⟩
  rw [he]
  congr 2
  rw [Bool.eq_iff_iff, hs]
  simp only [sameD, decide_eq_true_eq]
  constructor
  · rintro ⟨_, h1, h2⟩ ρ
    have hM : M = M' := by have := congrArg toN h2; rwa [Dd.toN_ofN, Dd.toN_ofN] at this
    have hr : r = r' := by omega
    subst hM hr
    rw [← hd, ← hd']
  · intro hfg
    obtain ⟨h1, h2⟩ := Dd.valid_eq hv hv' fun ρ => by rw [hd, hd', hfg]
    exact ⟨trivial, by rw [h1], by rw [h2]⟩
theorem d_eval {s : Nat} (hs : s < 18446744073709551616) (ha : IsD w V f A n c r) : Calls Tryd.prog 35 #[.agg #[.int .i64 V, .slice A n c, .int .i64 r], .int .u64 s] w fun e w' => e = .returned (.bool (f s.testBit)) ∧ Keep NoF w w' := by
  obtain ⟨d, e1, e2, e3, e4, e5, _⟩ := ha.dg
  have h := Eval_any d s hs w e2
  rw [e1] at h
  refine h.mono fun e w' ⟨he, hk⟩ => ⟨?_, hk⟩
  rw [he]; simp [evalD, e3, e5]
theorem d_check (ha : IsD w V f A n c r) : Calls Tryd.prog 60 #[.agg #[.int .i64 V, .slice A n c, .int .i64 r]] w fun e w' => e = .returned (.int .i64 0) ∧ Keep NoF w w' := by
  obtain ⟨d, e1, e2, e3, e4, e5, _⟩ := ha.dg
  have h := check_any d.V d.R d.root d.sl w e2.2 e2.1
  have e1' : Value.agg #[.int .i64 d.V, d.sl, .int .i64 d.root] = _ := e1
  rw [e1'] at h
  refine h.mono fun e w' ⟨he, hk⟩ => ⟨?_, hk⟩
  rw [he, show checkErr d.V d.R d.root = 0 from e3]
end
end Go.Proofs.YtgdmcidcappkpaaDoor
