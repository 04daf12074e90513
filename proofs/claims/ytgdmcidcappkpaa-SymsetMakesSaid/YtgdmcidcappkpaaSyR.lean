/- Valid diagrams of up to 12 variables as functions: what the reference's operations make of them. No condition. -/
import Derived.Test.YtgdmcidcappkpaaSyC
import Derived.Test.YtgdmcidcappkpaaRQu
set_option linter.unusedVariables false
set_option linter.unusedSimpArgs false
namespace Go.Proofs.Ytgdmcidcappkpaa
open Go.RowKit
open Dd (Rn rat ofN toN checkErr den lo var Within Valid supp canon)
theorem WPost.dp {w : World} {V : Nat} {ds : List Dg} {σ : List BF → BF} {sl : Value} {f : BF} {e : Ending} {w' : World} (h : WPost w 0 V ds σ sl e w') (h0 : opErr V ds = 0) (hf : ∀ ρ, σ (ds.map Dg.fn) ρ = f ρ) (hw : Within V f) (hV : V ≤ 12) : DP w V f e w' := by
  obtain ⟨V', R, r, err, A, n, c, rfl, h⟩ := h
  obtain ⟨N, t, g1, g2, g3, g4⟩ := (h.det rfl).2 h0
  have hwt : Within V (den N t) := hw.congr fun ρ => (g3 ρ).trans (hf ρ)
  have hs := Dd.canon_short g1 hV g2 hwt
  have hv := Dd.valid_canon g1 (by omega) g2 hwt hs
  rw [if_neg (by omega)] at g4
  simp only [Prod.mk.injEq] at g4
  obtain ⟨rfl, rfl, rfl, rfl⟩ := g4
  have hl := h.len
  rw [Dd.ofN_len] at hl
  subst hl
  refine ⟨A, _, c, _, rfl, ⟨_, rfl, ?_, hv, fun ρ => by rw [Dd.canon_den g1 g2, g3, hf]⟩, h.keep⟩
  have := h.rd
  rwa [rnsC_ofN] at this

theorem rd_const (V : Nat) (hV : V ≤ 24) (t : Bool) (w : World) : Calls Try.prog 31 #[.int .i64 V, .bool t] w (DP w V fun _ => t) := by
  refine (rConst_any V t w).mono fun e w' ⟨he, hk⟩ => ?_
  rw [if_neg (by omega)] at he
  refine ⟨none, 0, 0, if t then 1 else 0, ?_, ⟨[], rfl, Rd.nil _ _, valid_const V hV t, fun ρ => ?_⟩, hk⟩
  · rw [he]; cases t <;> rfl
  · cases t <;> rfl
theorem rd_var (V i : Nat) (hV : V ≤ 24) (hi : i < V) (w : World) : Calls Try.prog 70 #[.int .i64 V, .int .i64 i] w (DP w V fun ρ => ρ i) := by
  refine (rVar_any V i w).mono fun e w' ⟨_, h2, hk⟩ => ?_
  obtain ⟨sl, he, hr, ho⟩ := h2 (by unfold varErr; rw [if_neg (by omega)])
  have hr2 := hr
  obtain ⟨_, A, c, rfl, _, _⟩ := hr2
  exact ⟨A, 1, c, 2, he, ⟨[(i, 0, 1)], rfl, hr, valid_var V i hV hi, den_var i (by omega)⟩, hk⟩

section
variable {w : World} {V : Nat} {f g h : BF} {A B D : Option Addr} {n c r n' c' r' n'' c'' r'' : Nat}
theorem rd_not (hV : V ≤ 12) (ha : IsD w V f A n c r) : Calls Try.prog 71 #[.agg #[.int .i64 V, .slice A n c, .int .i64 r]] w (DP w V fun ρ => !f ρ) := by
  obtain ⟨d, e1, e2, e3, e4, e5, _⟩ := ha.dg
  have h := rNot_any d w e2
  rw [e1, e4] at h
  refine h.mono fun e w' hp => hp.dp (opErr_one e3 e4) (fun ρ => by simp [notSem, e5]) ?_ hV
  exact fun v hv ρ b => by rw [ha.within v hv]
theorem rd_and (hV : V ≤ 12) (ha : IsD w V f A n c r) (hb : IsD w V g B n' c' r') : Calls Try.prog 42 #[.agg #[.int .i64 V, .slice A n c, .int .i64 r], .agg #[.int .i64 V, .slice B n' c', .int .i64 r']] w (DP w V fun ρ => f ρ && g ρ) := by
  obtain ⟨d, e1, e2, e3, e4, e5, _⟩ := ha.dg
  obtain ⟨d2, k1, k2, k3, k4, k5, _⟩ := hb.dg
  have h := rAnd_any d d2 w e2 k2
  rw [e1, k1, e4] at h
  refine h.mono fun e w' hp => hp.dp (opErr_two e3 e4 k3 k4) (fun ρ => by simp [andSem, e5, k5]) ?_ hV
  exact fun v hv ρ b => by rw [ha.within v hv, hb.within v hv]
theorem rd_or (hV : V ≤ 12) (ha : IsD w V f A n c r) (hb : IsD w V g B n' c' r') : Calls Try.prog 32 #[.agg #[.int .i64 V, .slice A n c, .int .i64 r], .agg #[.int .i64 V, .slice B n' c', .int .i64 r']] w (DP w V fun ρ => f ρ || g ρ) := by
  obtain ⟨d, e1, e2, e3, e4, e5, _⟩ := ha.dg
  obtain ⟨d2, k1, k2, k3, k4, k5, _⟩ := hb.dg
  have h := rOr_any d d2 w e2 k2
  rw [e1, k1, e4] at h
  refine h.mono fun e w' hp => hp.dp (opErr_two e3 e4 k3 k4) (fun ρ => by simp [orSem, e5, k5]) ?_ hV
  exact fun v hv ρ b => by rw [ha.within v hv, hb.within v hv]
theorem rd_eval {s : Nat} (hs : s < 18446744073709551616) (ha : IsD w V f A n c r) : Calls Try.prog 49 #[.agg #[.int .i64 V, .slice A n c, .int .i64 r], .int .u64 s] w fun e w' => e = .returned (.bool (f s.testBit)) ∧ Keep NoF w w' := by
  obtain ⟨d, e1, e2, e3, e4, e5, _⟩ := ha.dg
  have h := rEval_any d s hs w e2
  rw [e1] at h
  refine h.mono fun e w' ⟨he, hk⟩ => ⟨?_, hk⟩
  rw [he]; simp [evalD, e3, e5]
end
end Go.Proofs.Ytgdmcidcappkpaa
