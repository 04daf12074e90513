/- What the reference's quantify does. What the reference's Exists and Forall do. No condition. -/
import Derived.Test.YtgdmcidcappkpaaRFix
import Derived.Test.YtgdmcidcappkpaaRIt
import Derived.Test.YtgdmcidcappkpaaComp
set_option linter.unusedVariables false
set_option linter.unusedSimpArgs false
namespace Go.Proofs.Ytgdmcidcappkpaa.Dd

open Classical in
/-- One variable more. -/
theorem qf_add (any : Bool) (S : Nat → Bool) (v : Nat) (f : BFn) (ρ : Nat → Bool) :
    (if any then rf v false (qf any S f) ρ || rf v true (qf any S f) ρ else rf v false (qf any S f) ρ && rf v true (qf any S f) ρ) = qf any (fun x => S x || decide (x = v)) f ρ := by
  have up : ∀ (σ : Nat → Bool) (b : Bool), (∀ x, S x = false → σ x = upd ρ v b x) → ∀ x, (S x || decide (x = v)) = false → σ x = ρ x := fun σ b h x hx => by
    simp only [Bool.or_eq_false_iff, decide_eq_false_iff_not] at hx
    rw [h x hx.1, upd_ne ρ b hx.2]
  have dn : ∀ (σ : Nat → Bool), (∀ x, (S x || decide (x = v)) = false → σ x = ρ x) → ∀ x, S x = false → σ x = upd ρ v (σ v) x := fun σ h x hx => by
    by_cases hv : x = v
    · subst hv; simp [upd]
    · rw [upd_ne ρ _ hv]
      exact h x (by simp [hx, hv])
  unfold rf qf
  cases any
  · simp only [if_false, Bool.false_eq_true]
    rw [← Bool.decide_and]
    congr 1
    refine propext ⟨fun ⟨h0, h1⟩ σ hσ => ?_, fun h => ⟨fun σ hσ => h σ (up σ _ hσ), fun σ hσ => h σ (up σ _ hσ)⟩⟩
    have hd := dn σ hσ
    cases hv : σ v
    · rw [hv] at hd; exact h0 σ hd
    · rw [hv] at hd; exact h1 σ hd
  · simp only [if_true]
    rw [← Bool.decide_or]
    congr 1
    refine propext ⟨fun h => ?_, fun ⟨σ, hσ, h⟩ => ?_⟩
    · rcases h with ⟨σ, hσ, h⟩ | ⟨σ, hσ, h⟩
      · exact ⟨σ, up σ _ hσ, h⟩
      · exact ⟨σ, up σ _ hσ, h⟩
    · have hd := dn σ hσ
      cases hv : σ v
      · rw [hv] at hd; exact .inl ⟨σ, hd, h⟩
      · rw [hv] at hd; exact .inr ⟨σ, hd, h⟩

theorem qf_no (any : Bool) (S : Nat → Bool) (hS : ∀ x, S x = false) (f : BFn) : qf any S f = f := by
  funext ρ
  have key : ∀ σ : Nat → Bool, (∀ x, S x = false → σ x = ρ x) → σ = ρ := fun σ h => funext fun x => h x (hS x)
  unfold qf
  cases any
  · simp only [Bool.false_eq_true, if_false]
    cases hρ : f ρ
    · simp only [decide_eq_false_iff_not]
      intro h
      have := h ρ fun _ _ => rfl
      rw [hρ] at this; cases this
    · simp only [decide_eq_true_eq]
      intro σ hσ
      rw [key σ hσ, hρ]
  · simp only [if_true]
    cases hρ : f ρ
    · simp only [decide_eq_false_iff_not]
      rintro ⟨σ, hσ, h⟩
      rw [key σ hσ, hρ] at h; cases h
    · simp only [decide_eq_true_eq]
      exact ⟨ρ, fun _ _ => rfl, hρ⟩

/-- The variables of S from j on. -/
def upS (S j : Nat) : Nat → Bool := fun x => S.testBit x && decide (j ≤ x)
theorem upS_end {S V : Nat} (h : S / 2 ^ V = 0) : ∀ x, upS S V x = false := fun x => by
  unfold upS
  by_cases hx : V ≤ x
  · have : S < 2 ^ V := (Nat.div_eq_zero_iff.1 h).resolve_left (by have := Nat.two_pow_pos V; omega)
    have := Nat.testBit_lt_two_pow (Nat.lt_of_lt_of_le this (Nat.pow_le_pow_right (by omega) hx))
    simp [this]
  · simp [hx]
theorem upS_zero (S : Nat) : upS S 0 = S.testBit := by funext x; simp [upS]
theorem upS_off {S j : Nat} (h : S.testBit j = false) : upS S (j + 1) = upS S j := by
  funext x
  unfold upS
  by_cases hx : x = j
  · subst hx; simp [h]
  · by_cases h2 : j ≤ x
    · simp [h2, show j + 1 ≤ x by omega]
    · simp [h2, show ¬ j + 1 ≤ x by omega]
theorem upS_on {S j : Nat} (h : S.testBit j = true) : (fun x => upS S (j + 1) x || decide (x = j)) = upS S j := by
  funext x
  unfold upS
  by_cases hx : x = j
  · subst hx; simp [h]
  · by_cases h2 : j ≤ x
    · simp [h2, hx, show j + 1 ≤ x by omega]
    · simp [h2, hx, show ¬ j + 1 ≤ x by omega]
end Go.Proofs.Ytgdmcidcappkpaa.Dd
namespace Go.Proofs.Ytgdmcidcappkpaa
open Go.RowKit
open Dd (Rn rat ofN toN checkErr den lo var vr mk BOp canon rf qf Within upS)

/-- A block of a slice that is not empty. -/
def sblk (v : Value) (k : Nat) : Prop := ∃ A n c, v = .slice A n c ∧ 0 < n ∧ v.ownBlock = some k

/-- A result that may be the operand itself: its list is the operand's, or new. -/
structure ResW (w w' : World) (er V : Int) (ds : List Dg) (σ : List BF → BF) (sl : Value) (V' : Int) (R : List Rn) (r err : Int) (A : Option Addr) (n c : Nat) : Prop where
  bad : er ≠ 0 → (V', R, r, err) = (0, [], 0, er)
  det : er = 0 → OpDet V ds σ (V', R, r, err)
  len : n = R.length
  rd : Rd w' (.slice A n c) 3 n (rnsC R)
  short : R.length ≤ 4096
  keep : Keep NoF w w'
  fresh : 0 < n → ∀ k, (Value.slice A n c).ownBlock = some k → sblk sl k ∨ w.heap.size ≤ k
def WPost (w : World) (er V : Int) (ds : List Dg) (σ : List BF → BF) (sl : Value) (e : Ending) (w' : World) : Prop :=
  ∃ V' R r err A n c, e = .returned (.tuple #[.agg #[.int .i64 V', .slice A n c, .int .i64 r], .int .i64 err]) ∧ ResW w w' er V ds σ sl V' R r err A n c
theorem WPost.bad {w w' : World} {er V : Int} {ds : List Dg} {σ : List BF → BF} {sl : Value} (h : er ≠ 0) (hk : Keep NoF w w') : WPost w er V ds σ sl (.returned (.tuple #[dgZero, .int .i64 er])) w' :=
  ⟨0, [], 0, er, none, 0, 0, rfl, ⟨fun _ => rfl, fun h' => absurd h' h, rfl, rd_nil0 _, by simp, hk, fun h => by omega⟩⟩
theorem ErrOr.wpost {w w' : World} {er V : Int} {ds : List Dg} {σ : List BF → BF} {sl : Value} {e : Ending} (h : ErrOr w er (OpPost w V ds σ) e w') : WPost w er V ds σ sl e w' := by
  by_cases h0 : er = 0
  · obtain ⟨V', R, r, err, A, n, c, rfl, ho⟩ := (h.2 h0).res
    exact ⟨V', R, r, err, A, n, c, rfl, ⟨fun h' => absurd h0 h', fun _ => ho.det, ho.len, ho.rd, ho.short, ho.keep, fun _ k hk => .inr (ho.fresh k hk)⟩⟩
  · obtain ⟨rfl, hk⟩ := h.1 h0
    exact WPost.bad h0 hk

theorem within_op {V op : Nat} {f g : (Nat → Bool) → Bool} (wf : Within V f) (wg : Within V g) : Within V (fun ρ => opF op (f ρ) (g ρ)) := fun v hv ρ b => by simp only [wf v hv, wg v hv]
theorem comb_op {f g : (Nat → Bool) → Bool} {A1 A2 : Option Addr} {n1 c1 r1 n2 c2 r2 : Nat} {M1 M2 : List Dd.Nd} {w : World} (op V : Nat) (hop : op < 3) (hV : V ≤ 24) (wf : Within V f) (wg : Within V g) (H1 : Opd w V f A1 n1 c1 r1 M1) (H2 : Opd w V g A2 n2 c2 r2 M2) :
    Calls Try.prog 69 #[.int .i64 op, .agg #[.int .i64 V, .slice A1 n1 c1, .int .i64 r1], .agg #[.int .i64 V, .slice A2 n2 c2, .int .i64 r2]] w (QPost w V fun ρ => opF op (f ρ) (g ρ)) :=
  (combine_any op V hop hV H1 H2).mono fun _ _ h => FPost.out (f := fun ρ => opF op (f ρ) (g ρ)) h (within_op wf wg)
theorem rd_keep0 {w w' : World} {v : Value} {size n : Nat} {xs : List Value} (h : Rd w v size n xs) (hk : 0 < n → ∀ k, v.ownBlock = some k → w'.heap[k]? = w.heap[k]?) : Rd w' v size n xs := by
  by_cases h0 : 0 < n
  · exact h.keep fun k hs _ => hk h0 k hs
  · obtain ⟨h1, A, c, hv, hc, h2⟩ := h
    exact ⟨h1, A, c, hv, hc, fun h => absurd h h0⟩

/-- What the box holds while the loop runs. -/
structure QBox (w0 : World) (sl0 : Value) (W : World) (V : Nat) (f : (Nat → Bool) → Bool) (A : Option Addr) (n c r : Nat) (M : List Dd.Nd) : Prop where
  opd : Opd W V f A n c r M
  within : Within V f
  canon : Dd.canon M r = (r, M)
  fresh : 0 < n → ∀ k, (Value.slice A n c).ownBlock = some k → sblk sl0 k ∨ w0.heap.size + 2 ≤ k
theorem QBox.keep {w0 W W' : World} {sl0 : Value} {V : Nat} {f : (Nat → Bool) → Bool} {A : Option Addr} {n c r : Nat} {M : List Dd.Nd} (h : QBox w0 sl0 W V f A n c r M) (hk : Keep NoF W W') : QBox w0 sl0 W' V f A n c r M := ⟨h.opd.keep hk, h.within, h.canon, h.fresh⟩

/-- The last look: limited. -/
theorem qbox_lim {w0 W : World} {V S : Nat} {any : Bool} {a : Dg} {A : Option Addr} {n c r : Nat} {M : List Dd.Nd} (hq : qErr a S = 0) (he : a.err = 0) (hV : a.V = V) (h : QBox w0 a.sl W V (qf any S.testBit a.fn) A n c r M) :
    Calls Try.prog 68 #[.agg #[.int .i64 V, .slice A n c, .int .i64 r]] W fun e w' => ∃ (V' : Int) (R : List Rn) (r' err : Int) (A' : Option Addr) (n' c' : Nat), e = .returned (.tuple #[.agg #[.int .i64 V', .slice A' n' c', .int .i64 r'], .int .i64 err]) ∧ Keep NoF W w' ∧
      ∀ wf, Keep NoF w0 wf → (∀ k, k ≠ w0.heap.size + 1 → wf.heap[k]? = w'.heap[k]?) → (∀ k, sblk a.sl k → k < w0.heap.size) → ResW w0 wf (qErr a S) a.V [a] (qSem any S) a.sl V' R r' err A' n' c' := by
  refine (limited_any V r A n c W).mono ?_
  rintro e w' ⟨rfl, hk⟩
  have ho := h.opd
  have hop : opErr a.V [a] = 0 := by simp [opErr, dgErr, he]
  have hden : ∀ ρ, den M r ρ = qSem any S ([a].map Dg.fn) ρ := fun ρ => by rw [ho.den]; simp [qSem]
  by_cases hl : 4096 < n
  · rw [if_pos hl]
    refine ⟨0, [], 0, 8, none, 0, 0, rfl, hk, fun wf hkf _ _ => ⟨fun h => absurd hq h, fun _ => ⟨fun h => absurd hop h, fun _ => ⟨M, r, ho.good, ho.root, hden, ?_⟩⟩, rfl, rd_nil0 _, by simp, hkf, fun h => by omega⟩⟩
    rw [h.canon, if_pos (by have := ho.len; show 4096 < M.length; omega)]
  · rw [if_neg hl]
    have hML : (ofN M).length = M.length := Dd.ofN_len M
    have hln := ho.len
    refine ⟨V, ofN M, r, 0, A, n, c, rfl, hk, fun wf hkf hb hsl => ⟨fun h => absurd hq h, fun _ => ⟨fun h => absurd hop h, fun _ => ⟨M, r, ho.good, ho.root, hden, ?_⟩⟩, by omega, ?_, by omega, hkf, fun h0 k hk' => ?_⟩⟩
    · rw [h.canon, if_neg (by show ¬ 4096 < M.length; omega), hV]
    · rw [rnsC_ofN]
      exact rd_keep0 (ho.rd.kept hk fun _ _ h => h) fun h0 k hk' => hb k (fun e => by
        rcases h.fresh h0 k hk' with h | h
        · have := hsl k h; omega
        · omega)
    · rcases h.fresh h0 k hk' with h | h
      · exact .inl h
      · exact .inr (by omega)

end Go.Proofs.Ytgdmcidcappkpaa
namespace Go.Proofs.Ytgdmcidcappkpaa
open Go.RowKit
open Dd (Rn rat ofN toN checkErr den lo var vr mk BOp canon rf qf Within upS)

theorem ResW.move {w w1 w' wf : World} {er V : Int} {ds : List Dg} {σ : List BF → BF} {sl : Value} {V' : Int} {R : List Rn} {r err : Int} {A : Option Addr} {n c : Nat} (h : ResW w1 w' er V ds σ sl V' R r err A n c) (hk : Keep NoF w wf) (h0 : w.heap.size ≤ w1.heap.size)
    (hb : ∀ k, k < w.heap.size ∨ w1.heap.size ≤ k → wf.heap[k]? = w'.heap[k]?) (hsl : ∀ k, sblk sl k → k < w.heap.size) : ResW w wf er V ds σ sl V' R r err A n c :=
  ⟨h.bad, h.det, h.len, rd_keep0 h.rd fun hn k hs => hb k ((h.fresh hn k hs).imp (hsl k) id), h.short, hk, fun hn k hs => (h.fresh hn k hs).imp id fun h => Nat.le_trans h0 h⟩
theorem sblk_lt {a : Dg} {w : World} (ha : a.In w) : ∀ k, sblk a.sl k → k < w.heap.size := by
  rintro k ⟨A, n, c, e, h0, hk⟩
  have hrd := ha.1
  have hrd2 := hrd
  obtain ⟨_, A', c', e', _, _⟩ := hrd2
  rw [e] at e' hk
  cases e'
  rw [e] at hrd
  exact hrd.blk_lt h0 (by omega) k hk

end Go.Proofs.Ytgdmcidcappkpaa
