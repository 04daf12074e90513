/- Two results of an operation at the same operands are the same. No condition. -/
import Derived.Test.YtgdmcidcappkpaaGreatRIt
import Derived.Test.YtgdmcidcappkpaaGreatSame
set_option linter.unusedVariables false
set_option linter.unusedSimpArgs false
namespace Go.Proofs.YtgdmcidcappkpaaGreat
open Go.RowKit
open Dd (Rn rat ofN toN checkErr den lo var vr mk BOp canon Within)

/-- What an operation hands back, as numbers. -/
def OpDet (V : Int) (ds : List Dg) (σ : List BF → BF) (x : Int × List Rn × Int × Int) : Prop :=
  (opErr V ds ≠ 0 → x = (0, [], 0, opErr V ds)) ∧
  (opErr V ds = 0 → ∃ N t, Dd.Good N ∧ t < N.length + 2 ∧ (∀ ρ, den N t ρ = σ (ds.map Dg.fn) ρ) ∧ x = if 4096 < (canon N t).2.length then (0, [], 0, 8) else (V, ofN (canon N t).2, ((canon N t).1 : Int), 0))
theorem OpDet.one {V : Int} {ds : List Dg} {σ : List BF → BF} {x y : Int × List Rn × Int × Int} (hx : OpDet V ds σ x) (hy : OpDet V ds σ y) : x = y := by
  by_cases h : opErr V ds = 0
  · obtain ⟨N, t, g, ht, hd, rfl⟩ := hx.2 h
    obtain ⟨N', t', g', ht', hd', rfl⟩ := hy.2 h
    rw [Dd.canon_eq g g' ht ht' fun ρ => (hd ρ).trans (hd' ρ).symm]
  · rw [hx.1 h, hy.1 h]

/-- A result: its numbers, its list in memory. -/
structure OpRes (w w' : World) (V : Int) (ds : List Dg) (σ : List BF → BF) (V' : Int) (R : List Rn) (r err : Int) (A : Option Addr) (n c : Nat) : Prop where
  det : OpDet V ds σ (V', R, r, err)
  len : n = R.length
  rd : Rd w' (.slice A n c) 3 n (rnsC R)
  short : R.length ≤ 4096
  keep : Keep NoF w w'
  fresh : ∀ k, (Value.slice A n c).ownBlock = some k → w.heap.size ≤ k

theorem rd_nil0 (w : World) : Rd w (.slice none 0 0) 3 0 (rnsC []) := Rd.of_own (World.ownsRow_nil w 0 47 3)

theorem OpPost.res {w w' : World} {V : Int} {ds : List Dg} {σ : List BF → BF} {e : Ending} (h : OpPost w V ds σ e w') :
    ∃ V' R r err A n c, e = .returned (.tuple #[.agg #[.int .i64 V', .slice A n c, .int .i64 r], .int .i64 err]) ∧ OpRes w w' V ds σ V' R r err A n c := by
  obtain ⟨h1, h2, hk⟩ := h
  by_cases h0 : opErr V ds = 0
  · obtain ⟨N, t, g, ht, hd, hres⟩ := h2 h0
    rcases hres with ⟨hl, rfl⟩ | ⟨hl, sl, rfl, hrd, hf⟩
    · exact ⟨0, [], 0, 8, none, 0, 0, rfl, ⟨fun h => absurd h0 h, fun _ => ⟨N, t, g, ht, hd, by rw [if_pos hl]⟩⟩, rfl, rd_nil0 _, by simp, hk, fun k hk => by simp [Value.ownBlock] at hk⟩
    · have hrd2 := hrd
      obtain ⟨_, A, c, rfl, _, _⟩ := hrd2
      refine ⟨V, ofN (canon N t).2, ((canon N t).1 : Int), 0, A, _, c, rfl, ⟨fun h => absurd h0 h, fun _ => ⟨N, t, g, ht, hd, by rw [if_neg (by omega)]⟩⟩, (Dd.ofN_len _).symm, by rw [rnsC_ofN]; exact hrd, by rw [Dd.ofN_len]; exact hl, hk, hf⟩
  · exact ⟨0, [], 0, opErr V ds, none, 0, 0, h1 h0, ⟨fun _ => rfl, fun h => absurd h h0⟩, rfl, rd_nil0 _, by simp, hk, fun k hk => by simp [Value.ownBlock] at hk⟩

/-- A result as it stands in a later world; its blocks are not below lo. -/
structure Got (W : World) (lo : Nat) (V : Int) (ds : List Dg) (σ : List BF → BF) (V' : Int) (R : List Rn) (r err : Int) (A : Option Addr) (n c : Nat) : Prop where
  det : OpDet V ds σ (V', R, r, err)
  len : n = R.length
  rd : Rd W (.slice A n c) 3 n (rnsC R)
  short : R.length ≤ 4096
  fresh : ∀ k, (Value.slice A n c).ownBlock = some k → lo ≤ k
theorem OpRes.got {w w' : World} {V : Int} {ds : List Dg} {σ : List BF → BF} {V' : Int} {R : List Rn} {r err : Int} {A : Option Addr} {n c : Nat} (h : OpRes w w' V ds σ V' R r err A n c) : Got w' w.heap.size V ds σ V' R r err A n c :=
  ⟨h.det, h.len, h.rd, h.short, h.fresh⟩
theorem Got.keep {F : Nat → Prop} {W W' : World} {lo : Nat} {V : Int} {ds : List Dg} {σ : List BF → BF} {V' : Int} {R : List Rn} {r err : Int} {A : Option Addr} {n c : Nat} (h : Got W lo V ds σ V' R r err A n c) (hk : Keep F W W') (hF : ∀ i, F i → i < lo) : Got W' lo V ds σ V' R r err A n c :=
  ⟨h.det, h.len, h.rd.kept hk fun k hk' hf => by have := h.fresh k hk'; have := hF k hf; omega, h.short, h.fresh⟩
/-- Same says that two results at the same operands are the same. -/
theorem same_got {w : World} {lo1 lo2 : Nat} {V : Int} {ds : List Dg} {σ : List BF → BF} {V1 r1 e1 V2 r2 e2 : Int} {R1 R2 : List Rn} {A1 A2 : Option Addr} {n1 c1 n2 c2 : Nat} (H1 : Got w lo1 V ds σ V1 R1 r1 e1 A1 n1 c1) (H2 : Got w lo2 V ds σ V2 R2 r2 e2 A2 n2 c2) :
    e1 = e2 ∧ Calls Tryz.prog 8 #[.agg #[.int .i64 V1, .slice A1 n1 c1, .int .i64 r1], .agg #[.int .i64 V2, .slice A2 n2 c2, .int .i64 r2]] w fun e w' => e = .returned (.bool true) ∧ Keep NoF w w' := by
  have he := H1.det.one H2.det
  simp only [Prod.mk.injEq] at he
  obtain ⟨rfl, rfl, rfl, rfl⟩ := he
  refine ⟨rfl, ?_⟩
  have hs := Same_any ⟨V1, R1, r1, .slice A1 n1 c1⟩ ⟨V1, R1, r1, .slice A2 n2 c2⟩ w ⟨by have := H1.rd; rw [H1.len] at this ⊢; exact this, by have := H1.short; show R1.length ≤ _; omega⟩ ⟨by have := H2.rd; rw [H2.len] at this ⊢; exact this, by have := H1.short; show R1.length ≤ _; omega⟩
  refine hs.mono ?_
  rintro e w' ⟨rfl, hk⟩
  exact ⟨by simp [sameD], hk⟩
end Go.Proofs.YtgdmcidcappkpaaGreat
