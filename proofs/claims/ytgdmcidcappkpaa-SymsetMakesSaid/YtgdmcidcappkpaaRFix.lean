/- What the reference's fix does. What the reference's restrict does. What the reference's Restrict does. No condition. -/
import Derived.Test.YtgdmcidcappkpaaRCo
import Derived.Test.YtgdmcidcappkpaaLaw
import Derived.Test.YtgdmcidcappkpaaROps
set_option linter.unusedVariables false
set_option linter.unusedSimpArgs false
namespace Go.Proofs.Ytgdmcidcappkpaa
open Go.RowKit
open Dd (Rn rat ofN toN checkErr den lo var vr mk FxRel FxMemo rf canon)

/-- What does not change while fix runs. -/
structure Fk where
  ab : Nat
  ob : Nat
  db : Nat
  V : Nat
  A : List Dd.Nd
  ra : Int
  sa : Value
  v : Nat
  t : Bool
structure Fk.Ok (k : Fk) : Prop where
  gA : Dd.Good k.A
  lA : k.A.length ≤ 1200000
  v : k.v < 24
/-- The state of fix: K are its own blocks. -/
def FSt (w : World) (k : Fk) (N : List Dd.Nd) (G : Nat → Option Nat) (K : Nat → Prop) : Prop :=
  ∃ dv P, Bk w k.ob 27 #[.int .i64 k.V, dv, .int .i64 0] ∧ w.ownsRow 0 61 3 dv N.length (ndsC N) ∧ Bk w k.db 3 (inA P) ∧ P.length = k.A.length ∧ (∀ x, 2 ≤ x → x < k.A.length + 2 → G x = AP P (x - 2)) ∧ ∀ i, K i ↔ (i = k.ob ∨ i = k.db ∨ dv.ownBlock = some i)
section
variable {w w' : World} {k : Fk} {N : List Dd.Nd} {G : Nat → Option Nat} {K F : Nat → Prop} {x : Nat}
theorem FSt.lt (h : FSt w k N G K) : ∀ i, K i → i < w.heap.size := by
  obtain ⟨dv, P, hd, ho, hp, _, _, hK⟩ := h
  intro i hi
  rcases (hK i).1 hi with rfl | rfl | h
  · exact hd.lt
  · exact hp.lt
  · exact (ho.lt i h).2
theorem FSt.block (h : FSt w k N G K) (hb : ∀ i, K i → w'.heap[i]? = w.heap[i]?) : FSt w' k N G K := by
  obtain ⟨dv, P, hd, ho, hp, hl, hs, hK⟩ := h
  exact ⟨dv, P, hd.block (hb _ ((hK _).2 (.inl rfl))), own_keep ho fun i h => hb i ((hK _).2 (.inr (.inr h))), hp.block (hb _ ((hK _).2 (.inr (.inl rfl)))), hl, hs, hK⟩
theorem FSt.kept (h : FSt w k N G K) (hk : Keep F w w') (hf : ∀ i, K i → ¬ F i) : FSt w' k N G K := h.block fun i hi => hk.block i (h.lt i hi) (hf i hi)
theorem FSt.ob (h : FSt w k N G K) : K k.ob := by
  obtain ⟨dv, P, hd, ho, hp, hl, hs, hK⟩ := h
  exact (hK _).2 (.inl rfl)
theorem FSt.db (h : FSt w k N G K) : K k.db := by
  obtain ⟨dv, P, hd, ho, hp, hl, hs, hK⟩ := h
  exact (hK _).2 (.inr (.inl rfl))
/-- What the places say. -/
theorem FSt.at_ (h : FSt w k N G K) (h2 : 2 ≤ x) (hx : x < k.A.length + 2) : w.frozen? ⟨k.db, x - 2, none⟩ = false ∧ ∃ q : Nat, w.cell? ⟨k.db, x - 2, none⟩ = some (.int .i64 q) ∧ (∀ r, G x = some r → q = r + 1) ∧ (G x = none → q = 0) := by
  obtain ⟨dv, P, hd, ho, hp, hl, hs, hK⟩ := h
  have hj : x - 2 < P.length := by omega
  have hg := hs x h2 hx
  refine ⟨hp.frozen _, P[x - 2], ?_, fun r hr => ?_, fun hr => ?_⟩
  · rw [hp.cell]
    simp [inA, List.getElem?_eq_getElem hj, inV]
  · have := AP_some (hg.symm.trans hr)
    rw [List.getD_eq_getElem?_getD, List.getElem?_eq_getElem hj] at this
    simpa using this
  · have := AP_none (hg.symm.trans hr)
    rw [List.getD_eq_getElem?_getD, List.getElem?_eq_getElem hj] at this
    simpa using this
/-- A result is remembered. -/
theorem FSt.put (h : FSt w k N G K) (h2 : 2 ≤ x) (hx : x < k.A.length + 2) (r : Nat) : FSt (w.setCell ⟨k.db, x - 2, none⟩ (.int .i64 ((r : Int) + 1))) k N (fun y => if y = x then some r else G y) K := by
  obtain ⟨dv, P, hd, ho, hp, hl, hs, hK⟩ := h
  have hj : x - 2 < P.length := by omega
  have hdd : dv.ownBlock ≠ some k.db := own_ne_bk ho hp (by decide)
  have hwd : k.ob ≠ k.db := hd.ne_type hp (by decide)
  refine ⟨dv, P.set (x - 2) (r + 1), hd.far hwd _, own_keep ho fun i hi => Below.heap_setCell _ _ _ _ (fun e => hdd (by rw [hi]; exact congrArg some e)), ?_, by rw [List.length_set]; exact hl, fun y y2 hy => ?_, hK⟩
  · have h := hp.put (x - 2) (.int .i64 ((r : Int) + 1))
    have e : (inA P).setIfInBounds (x - 2) (.int .i64 ((r : Int) + 1)) = inA (P.set (x - 2) (r + 1)) := by
      unfold inA
      rw [List.setIfInBounds_toArray, List.map_set]
      congr 2
    rwa [e] at h
  · rw [AP_set hj, ← hs y y2 hy]
    show (if y = x then some r else G y) = _
    by_cases he : y = x
    · rw [if_pos he, if_pos (by omega)]
    · rw [if_neg he, if_neg (by omega)]
/-- A node is added. -/
theorem FSt.node {e : Ending} (h : FSt w k N G K) {v l r : Nat} (hn : ∀ dv, Bk w k.ob 27 #[.int .i64 k.V, dv, .int .i64 0] → w.ownsRow 0 61 3 dv N.length (ndsC N) → NdPost w k.ob 0 27 #[.int .i64 k.V, dv, .int .i64 0] dv N v l r e w') :
    e = .returned (.int .i64 ((mk N v l r).1 : Nat)) ∧ ∃ K', FSt w' k (mk N v l r).2 G K' ∧ Keep K w w' ∧ ∀ i, K' i → K i ∨ w.heap.size ≤ i := by
  obtain ⟨dv, P, hd, ho, hp, hl, hs, hK⟩ := h
  have hdd : dv.ownBlock ≠ some k.db := own_ne_bk ho hp (by decide)
  have hwd : k.ob ≠ k.db := hd.ne_type hp (by decide)
  obtain ⟨dv', he, hO, hk, hf⟩ := hn dv hd ho
  obtain ⟨hd', hat, ho', hne⟩ := hO
  have hcs : (#[.int .i64 (k.V : Int), dv, .int .i64 0] : Array Value).setIfInBounds (0 + 1) dv' = #[.int .i64 k.V, dv', .int .i64 0] := rfl
  rw [hcs] at hd'
  refine ⟨he, fun i => i = k.ob ∨ i = k.db ∨ dv'.ownBlock = some i, ⟨dv', P, hd', ho', hp.keep hk (fun h => ?_), hl, hs, fun _ => Iff.rfl⟩, hk.mono fun i _ h => ?_, fun i hi => ?_⟩
  · rcases h with h | h
    · exact hwd h.symm
    · exact hdd h
  · rcases h with rfl | h
    · exact (hK _).2 (.inl rfl)
    · exact (hK _).2 (.inr (.inr h))
  · rcases hi with h | h | h
    · exact .inl ((hK i).2 (.inl h))
    · exact .inl ((hK i).2 (.inr (.inl h)))
    · rcases hf i h with h | h
      · exact .inl ((hK i).2 (.inr (.inr h)))
      · exact .inr h
end

/-- The operand stands, apart from the own blocks. -/
def Fk.Rds (k : Fk) (w : World) (K : Nat → Prop) : Prop :=
  Bk w k.ab 27 #[.int .i64 k.V, k.sa, .int .i64 k.ra] ∧ Rd w k.sa 3 k.A.length (ndsC k.A) ∧ ¬ K k.ab ∧ (0 < k.A.length → ∀ i, k.sa.ownBlock = some i → ¬ K i)
theorem Fk.Rds.next {k : Fk} {w w' : World} {K K1 : Nat → Prop} (h : k.Rds w K) (hk : Keep K w w') (hK : ∀ i, K1 i → K i ∨ w.heap.size ≤ i) : k.Rds w' K1 := by
  obtain ⟨b, a, n, c⟩ := h
  refine ⟨b.keep hk n, a.kept0 hk c, fun h1 => ?_, fun h0 i hi h1 => ?_⟩
  · rcases hK _ h1 with h | h
    · exact n h
    · have := b.lt; omega
  · rcases hK i h1 with h | h
    · exact c h0 i hi h
    · have := a.blk_lt h0 (by omega) i hi; omega

def FixPost (k : Fk) (x : Nat) (N : List Dd.Nd) (K : Nat → Prop) (w : World) (e : Ending) (w' : World) : Prop :=
  ∃ (r : Nat) (N' : List Dd.Nd) (G' : Nat → Option Nat) (K' : Nat → Prop), e = .returned (.int .i64 (r : Nat)) ∧ FxRel (rf k.v k.t) k.A N x r N' G' ∧ FSt w' k N' G' K' ∧ Keep K w w' ∧ ∀ i, K' i → K i ∨ w.heap.size ≤ i
section
variable {ab ob db V : Nat} {A : List Dd.Nd} {ra : Int} {sa : Value} {v : Nat} {t : Bool} {w : World} {N : List Dd.Nd} {G : Nat → Option Nat} {K : Nat → Prop} {x : Nat}

end
end Go.Proofs.Ytgdmcidcappkpaa
namespace Go.Proofs.Ytgdmcidcappkpaa
open Go.RowKit
open Dd (Rn rat ofN toN checkErr den lo var vr mk FxRel FxMemo rf canon Within)

theorem within_rf {V i : Nat} {t : Bool} {f : (Nat → Bool) → Bool} (h : Within V f) (hi : i < V) : Within V (rf i t f) := by
  intro v hv ρ b
  unfold rf
  rw [show Dd.upd (Dd.upd ρ v b) i t = Dd.upd (Dd.upd ρ i t) v b from ?_]
  · exact h v hv _ b
  · funext x
    unfold Dd.upd
    by_cases h1 : x = i
    · by_cases h2 : x = v
      · omega
      · simp [h1, h2]; intro h3; omega
    · by_cases h2 : x = v
      · simp [h2, show ¬ v = i by omega]
      · simp [h1, h2]

end Go.Proofs.Ytgdmcidcappkpaa
namespace Go.Proofs.Ytgdmcidcappkpaa
open Go.RowKit
open Dd (Rn rat ofN toN checkErr den lo var vr mk BOp canon rf)

end Go.Proofs.Ytgdmcidcappkpaa
