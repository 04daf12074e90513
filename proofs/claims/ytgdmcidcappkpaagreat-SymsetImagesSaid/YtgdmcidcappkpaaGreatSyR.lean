/- Valid diagrams of up to 12 variables as functions: what the reference's operations make of them. No condition. -/
import Derived.Test.YtgdmcidcappkpaaGreatSyC
import Derived.Test.YtgdmcidcappkpaaGreatRQu
set_option linter.unusedVariables false
set_option linter.unusedSimpArgs false
namespace Go.Proofs.YtgdmcidcappkpaaGreat
open Go.RowKit
open Dd (Rn rat ofN toN checkErr den lo var Within Valid supp canon)
theorem WPost.dp {w : World} {V : Nat} {ds : List Dg} {σ : List BF → BF} {sl : Value} {f : BF} {e : Ending} {w' : World} (h : WPost w 0 V ds σ sl e w') (h0 : opErr V ds = 0) (hf : ∀ ρ, σ (ds.map Dg.fn) ρ = f ρ) (hw : Within V f) (hV : V ≤ 12) : DP w V f e w' := by
  obtain ⟨V', R, r, err, A, n, c, rfl, h⟩ := h
  obtain ⟨N, t, g1, g2, g3, g4⟩ := (h.det rfl).2 h0
  have hwt : Within V (den N t) := hw.congr fun ρ => (g3 ρ).trans (hf ρ)
  have hs := Dd.canon_short g1 hV g2 hwt
  have hv := Dd.valid_canon g1 (by omega) g2 hwt hs
  rw [if_neg (by omega)] at g4
  simp only [Prod.mk.injEq] at g4
  obtain ⟨rfl, rfl, rfl, rfl⟩ := g4
  have hl := h.len
  rw [Dd.ofN_len] at hl
  subst hl
  refine ⟨A, _, c, _, rfl, ⟨_, rfl, ?_, hv, fun ρ => by rw [Dd.canon_den g1 g2, g3, hf]⟩, h.keep⟩
  have := h.rd
  rwa [rnsC_ofN] at this

theorem rd_var (V i : Nat) (hV : V ≤ 24) (hi : i < V) (w : World) : Calls Tryz.prog 44 #[.int .i64 V, .int .i64 i] w (DP w V fun ρ => ρ i) := by
  refine (rVar_any V i w).mono fun e w' ⟨_, h2, hk⟩ => ?_
  obtain ⟨sl, he, hr, ho⟩ := h2 (by unfold varErr; rw [if_neg (by omega)])
  have hr2 := hr
  obtain ⟨_, A, c, rfl, _, _⟩ := hr2
  exact ⟨A, 1, c, 2, he, ⟨[(i, 0, 1)], rfl, hr, valid_var V i hV hi, den_var i (by omega)⟩, hk⟩

section
variable {w : World} {V : Nat} {f g h : BF} {A B D : Option Addr} {n c r n' c' r' n'' c'' r'' : Nat}
theorem rd_not (hV : V ≤ 12) (ha : IsD w V f A n c r) : Calls Tryz.prog 40 #[.agg #[.int .i64 V, .slice A n c, .int .i64 r]] w (DP w V fun ρ => !f ρ) := by
  obtain ⟨d, e1, e2, e3, e4, e5, _⟩ := ha.dg
  have h := rNot_any d w e2
  rw [e1, e4] at h
  refine h.mono fun e w' hp => hp.dp (opErr_one e3 e4) (fun ρ => by simp [notSem, e5]) ?_ hV
  exact fun v hv ρ b => by rw [ha.within v hv]
theorem rd_and (hV : V ≤ 12) (ha : IsD w V f A n c r) (hb : IsD w V g B n' c' r') : Calls Tryz.prog 34 #[.agg #[.int .i64 V, .slice A n c, .int .i64 r], .agg #[.int .i64 V, .slice B n' c', .int .i64 r']] w (DP w V fun ρ => f ρ && g ρ) := by
  obtain ⟨d, e1, e2, e3, e4, e5, _⟩ := ha.dg
  obtain ⟨d2, k1, k2, k3, k4, k5, _⟩ := hb.dg
  have h := rAnd_any d d2 w e2 k2
  rw [e1, k1, e4] at h
  refine h.mono fun e w' hp => hp.dp (opErr_two e3 e4 k3 k4) (fun ρ => by simp [andSem, e5, k5]) ?_ hV
  exact fun v hv ρ b => by rw [ha.within v hv, hb.within v hv]
theorem rd_ite (hV : V ≤ 12) (ha : IsD w V f A n c r) (hb : IsD w V g B n' c' r') (hc : IsD w V h D n'' c'' r'') : Calls Tryz.prog 46 #[.agg #[.int .i64 V, .slice A n c, .int .i64 r], .agg #[.int .i64 V, .slice B n' c', .int .i64 r'], .agg #[.int .i64 V, .slice D n'' c'', .int .i64 r'']] w (DP w V fun ρ => if f ρ then g ρ else h ρ) := by
  obtain ⟨d, e1, e2, e3, e4, e5, _⟩ := ha.dg
  obtain ⟨d2, k1, k2, k3, k4, k5, _⟩ := hb.dg
  obtain ⟨d3, l1, l2, l3, l4, l5, _⟩ := hc.dg
  have h := rIte_any d d2 d3 w e2 k2 l2
  rw [e1, k1, l1, e4] at h
  exact h.mono fun e w' hp => hp.dp (opErr_three e3 e4 k3 k4 l3 l4) (fun ρ => by simp [ite3Sem, e5, k5, l5]) (ha.within.ite hb.within hc.within) hV
theorem rd_restrict {i : Nat} {t : Bool} (hi : i < V) (hV : V ≤ 12) (ha : IsD w V f A n c r) : Calls Tryz.prog 45 #[.agg #[.int .i64 V, .slice A n c, .int .i64 r], .int .i64 i, .bool t] w (DP w V (Dd.rf i t f)) := by
  obtain ⟨d, e1, e2, e3, e4, e5, _⟩ := ha.dg
  have h := rRestrict_any d i t w e2
  rw [e1, e4] at h
  refine h.mono fun e w' hp => OpPost.dp (hp.ok ?_) (opErr_one e3 e4) (fun ρ => by simp [rSem, e5]) ha.within.rf hV
  simp [resErr, e3, e4]; omega
theorem rd_exists {S : Nat} (hS : S < 2 ^ V) (hV : V ≤ 12) (ha : IsD w V f A n c r) : Calls Tryz.prog 35 #[.agg #[.int .i64 V, .slice A n c, .int .i64 r], .int .u64 S] w (DP w V (Dd.qf true S.testBit f)) := by
  obtain ⟨d, e1, e2, e3, e4, e5, _⟩ := ha.dg
  have hp2 : 2 ^ V ≤ 2 ^ 12 := Nat.pow_le_pow_right (by omega) hV
  have h := rExists_any d S (by omega) w e2
  rw [e1, e4] at h
  have h0 : S / 2 ^ V = 0 := Nat.div_eq_of_lt hS
  have hq : qErr d S = 0 := by
    simp only [qErr, e3, e4, Int.toNat_natCast, h0]
    simp
  rw [hq] at h
  exact h.mono fun e w' hp => hp.dp (opErr_one e3 e4) (fun ρ => by simp [qSem, e5]) ha.within.qf hV
end
end Go.Proofs.YtgdmcidcappkpaaGreat
