/- What the reference's quantify does. What the reference's Exists and Forall do. No condition. -/
import Derived.Test.YtgdmcidcappkpaaGreatRFix
import Derived.Test.YtgdmcidcappkpaaGreatRIt
import Derived.Test.YtgdmcidcappkpaaGreatComp
set_option linter.unusedVariables false
set_option linter.unusedSimpArgs false
namespace Go.Proofs.YtgdmcidcappkpaaGreat.Dd

open Classical in
/-- One variable more. -/
theorem qf_add (any : Bool) (S : Nat → Bool) (v : Nat) (f : BFn) (ρ : Nat → Bool) :
    (if any then rf v false (qf any S f) ρ || rf v true (qf any S f) ρ else rf v false (qf any S f) ρ && rf v true (qf any S f) ρ) = qf any (fun x => S x || decide (x = v)) f ρ := by
  have up : ∀ (σ : Nat → Bool) (b : Bool), (∀ x, S x = false → σ x = upd ρ v b x) → ∀ x, (S x || decide (x = v)) = false → σ x = ρ x := fun σ b h x hx => by
    simp only [Bool.or_eq_false_iff, decide_eq_false_iff_not] at hx
    rw [h x hx.1, upd_ne ρ b hx.2]
  have dn : ∀ (σ : Nat → Bool), (∀ x, (S x || decide (x = v)) = false → σ x = ρ x) → ∀ x, S x = false → σ x = upd ρ v (σ v) x := fun σ h x hx => by
    by_cases hv : x = v
    · subst hv; simp [upd]
    · rw [upd_ne ρ _ hv]
      exact h x (by simp [hx, hv])
  unfold rf qf
  cases any
  · simp only [if_false, Bool.false_eq_true]
    rw [← Bool.decide_and]
    congr 1
    refine propext ⟨fun ⟨h0, h1⟩ σ hσ => ?_, fun h => ⟨fun σ hσ => h σ (up σ _ hσ), fun σ hσ => h σ (up σ _ hσ)⟩⟩
    have hd := dn σ hσ
    cases hv : σ v
    · rw [hv] at hd; exact h0 σ hd
    · rw [hv] at hd; exact h1 σ hd
  · simp only [if_true]
    rw [← Bool.decide_or]
    congr 1
    refine propext ⟨fun h => ?_, fun ⟨σ, hσ, h⟩ => ?_⟩
    · rcases h with ⟨σ, hσ, h⟩ | ⟨σ, hσ, h⟩
      · exact ⟨σ, up σ _ hσ, h⟩
      · exact ⟨σ, up σ _ hσ, h⟩
    · have hd := dn σ hσ
      cases hv : σ v
      · rw [hv] at hd; exact .inl ⟨σ, hd, h⟩
      · rw [hv] at hd; exact .inr ⟨σ, hd, h⟩

theorem qf_no (any : Bool) (S : Nat → Bool) (hS : ∀ x, S x = false) (f : BFn) : qf any S f = f := by
  funext ρ
  have key : ∀ σ : Nat → Bool, (∀ x, S x = false → σ x = ρ x) → σ = ρ := fun σ h => funext fun x => h x (hS x)
  unfold qf
  cases any
  · simp only [Bool.false_eq_true, if_false]
    cases hρ : f ρ
    · simp only [decide_eq_false_iff_not]
      intro h
      have := h ρ fun _ _ => rfl
      rw [hρ] at this; cases this
    · simp only [decide_eq_true_eq]
      intro σ hσ
      rw [key σ hσ, hρ]
  · simp only [if_true]
    cases hρ : f ρ
    · simp only [decide_eq_false_iff_not]
      rintro ⟨σ, hσ, h⟩
      rw [key σ hσ, hρ] at h; cases h
    · simp only [decide_eq_true_eq]
      exact ⟨ρ, fun _ _ => rfl, hρ⟩

/-- The variables of S from j on. -/
def upS (S j : Nat) : Nat → Bool := fun x => S.testBit x && decide (j ≤ x)
theorem upS_end {S V : Nat} (h : S / 2 ^ V = 0) : ∀ x, upS S V x = false := fun x => by
  unfold upS
  by_cases hx : V ≤ x
  · have : S < 2 ^ V := (Nat.div_eq_zero_iff.1 h).resolve_left (by have := Nat.two_pow_pos V; omega)
    have := Nat.testBit_lt_two_pow (Nat.lt_of_lt_of_le this (Nat.pow_le_pow_right (by omega) hx))
    simp [this]
  · simp [hx]
theorem upS_zero (S : Nat) : upS S 0 = S.testBit := by funext x; simp [upS]
theorem upS_off {S j : Nat} (h : S.testBit j = false) : upS S (j + 1) = upS S j := by
  funext x
  unfold upS
  by_cases hx : x = j
  · subst hx; simp [h]
  · by_cases h2 : j ≤ x
    · simp [h2, show j + 1 ≤ x by omega]
    · simp [h2, show ¬ j + 1 ≤ x by omega]
theorem upS_on {S j : Nat} (h : S.testBit j = true) : (fun x => upS S (j + 1) x || decide (x = j)) = upS S j := by
  funext x
  unfold upS
  by_cases hx : x = j
  · subst hx; simp [h]
  · by_cases h2 : j ≤ x
    · simp [h2, hx, show j + 1 ≤ x by omega]
    · simp [h2, hx, show ¬ j + 1 ≤ x by omega]
end Go.Proofs.YtgdmcidcappkpaaGreat.Dd
namespace Go.Proofs.YtgdmcidcappkpaaGreat
open Go.RowKit
open Dd (Rn rat ofN toN checkErr den lo var vr mk BOp canon rf qf Within upS)

/-- A block of a slice that is not empty. -/
def sblk (v : Value) (k : Nat) : Prop := ∃ A n c, v = .slice A n c ∧ 0 < n ∧ v.ownBlock = some k

/-- A result that may be the operand itself: its list is the operand's, or new. -/
structure ResW (w w' : World) (er V : Int) (ds : List Dg) (σ : List BF → BF) (sl : Value) (V' : Int) (R : List Rn) (r err : Int) (A : Option Addr) (n c : Nat) : Prop where
  bad : er ≠ 0 → (V', R, r, err) = (0, [], 0, er)
  det : er = 0 → OpDet V ds σ (V', R, r, err)
  len : n = R.length
  rd : Rd w' (.slice A n c) 3 n (rnsC R)
  short : R.length ≤ 4096
  keep : Keep NoF w w'
  fresh : 0 < n → ∀ k, (Value.slice A n c).ownBlock = some k → sblk sl k ∨ w.heap.size ≤ k
def WPost (w : World) (er V : Int) (ds : List Dg) (σ : List BF → BF) (sl : Value) (e : Ending) (w' : World) : Prop :=
  ∃ V' R r err A n c, e = .returned (.tuple #[.agg #[.int .i64 V', .slice A n c, .int .i64 r], .int .i64 err]) ∧ ResW w w' er V ds σ sl V' R r err A n c
theorem WPost.bad {w w' : World} {er V : Int} {ds : List Dg} {σ : List BF → BF} {sl : Value} (h : er ≠ 0) (hk : Keep NoF w w') : WPost w er V ds σ sl (.returned (.tuple #[dgZero, .int .i64 er])) w' :=
  ⟨0, [], 0, er, none, 0, 0, rfl, ⟨fun _ => rfl, fun h' => absurd h' h, rfl, rd_nil0 _, by simp, hk, fun h => by omega⟩⟩
theorem ErrOr.wpost {w w' : World} {er V : Int} {ds : List Dg} {σ : List BF → BF} {sl : Value} {e : Ending} (h : ErrOr w er (OpPost w V ds σ) e w') : WPost w er V ds σ sl e w' := by
  by_cases h0 : er = 0
  · obtain ⟨V', R, r, err, A, n, c, rfl, ho⟩ := (h.2 h0).res
    exact ⟨V', R, r, err, A, n, c, rfl, ⟨fun h' => absurd h0 h', fun _ => ho.det, ho.len, ho.rd, ho.short, ho.keep, fun _ k hk => .inr (ho.fresh k hk)⟩⟩
  · obtain ⟨rfl, hk⟩ := h.1 h0
    exact WPost.bad h0 hk

theorem within_op {V op : Nat} {f g : (Nat → Bool) → Bool} (wf : Within V f) (wg : Within V g) : Within V (fun ρ => opF op (f ρ) (g ρ)) := fun v hv ρ b => by simp only [wf v hv, wg v hv]
theorem comb_op {f g : (Nat → Bool) → Bool} {A1 A2 : Option Addr} {n1 c1 r1 n2 c2 r2 : Nat} {M1 M2 : List Dd.Nd} {w : World} (op V : Nat) (hop : op < 3) (hV : V ≤ 24) (wf : Within V f) (wg : Within V g) (H1 : Opd w V f A1 n1 c1 r1 M1) (H2 : Opd w V g A2 n2 c2 r2 M2) :
    Calls Tryz.prog 69 #[.int .i64 op, .agg #[.int .i64 V, .slice A1 n1 c1, .int .i64 r1], .agg #[.int .i64 V, .slice A2 n2 c2, .int .i64 r2]] w (QPost w V fun ρ => opF op (f ρ) (g ρ)) :=
  (combine_any op V hop hV H1 H2).mono fun _ _ h => FPost.out (f := fun ρ => opF op (f ρ) (g ρ)) h (within_op wf wg)
theorem restr_out {f : (Nat → Bool) → Bool} {A : Option Addr} {n c r : Nat} {M : List Dd.Nd} {w : World} (V : Nat) (hV : V ≤ 24) (wf : Within V f) (H : Opd w V f A n c r M) (i : Nat) (hi : i < V) (t : Bool) :
    Calls Tryz.prog 76 #[.agg #[.int .i64 V, .slice A n c, .int .i64 r], .int .i64 i, .bool t] w (QPost w V (rf i t f)) :=
  (rrestrict_any V hV H i hi t).mono fun _ _ h => FPost.out h wf.rf

theorem rd_keep0 {w w' : World} {v : Value} {size n : Nat} {xs : List Value} (h : Rd w v size n xs) (hk : 0 < n → ∀ k, v.ownBlock = some k → w'.heap[k]? = w.heap[k]?) : Rd w' v size n xs := by
  by_cases h0 : 0 < n
  · exact h.keep fun k hs _ => hk h0 k hs
  · obtain ⟨h1, A, c, hv, hc, h2⟩ := h
    exact ⟨h1, A, c, hv, hc, fun h => absurd h h0⟩

/-- What the box holds while the loop runs. -/
structure QBox (w0 : World) (sl0 : Value) (W : World) (V : Nat) (f : (Nat → Bool) → Bool) (A : Option Addr) (n c r : Nat) (M : List Dd.Nd) : Prop where
  opd : Opd W V f A n c r M
  within : Within V f
  canon : Dd.canon M r = (r, M)
  fresh : 0 < n → ∀ k, (Value.slice A n c).ownBlock = some k → sblk sl0 k ∨ w0.heap.size + 2 ≤ k
theorem QBox.keep {w0 W W' : World} {sl0 : Value} {V : Nat} {f : (Nat → Bool) → Bool} {A : Option Addr} {n c r : Nat} {M : List Dd.Nd} (h : QBox w0 sl0 W V f A n c r M) (hk : Keep NoF W W') : QBox w0 sl0 W' V f A n c r M := ⟨h.opd.keep hk, h.within, h.canon, h.fresh⟩

/-- The last look: limited. -/
theorem qbox_lim {w0 W : World} {V S : Nat} {any : Bool} {a : Dg} {A : Option Addr} {n c r : Nat} {M : List Dd.Nd} (hq : qErr a S = 0) (he : a.err = 0) (hV : a.V = V) (h : QBox w0 a.sl W V (qf any S.testBit a.fn) A n c r M) :
    Calls Tryz.prog 68 #[.agg #[.int .i64 V, .slice A n c, .int .i64 r]] W fun e w' => ∃ (V' : Int) (R : List Rn) (r' err : Int) (A' : Option Addr) (n' c' : Nat), e = .returned (.tuple #[.agg #[.int .i64 V', .slice A' n' c', .int .i64 r'], .int .i64 err]) ∧ Keep NoF W w' ∧
      ∀ wf, Keep NoF w0 wf → (∀ k, k ≠ w0.heap.size + 1 → wf.heap[k]? = w'.heap[k]?) → (∀ k, sblk a.sl k → k < w0.heap.size) → ResW w0 wf (qErr a S) a.V [a] (qSem any S) a.sl V' R r' err A' n' c' := by
  refine (limited_any V r A n c W).mono ?_
  rintro e w' ⟨rfl, hk⟩
  have ho := h.opd
  have hop : opErr a.V [a] = 0 := by simp [opErr, dgErr, he]
  have hden : ∀ ρ, den M r ρ = qSem any S ([a].map Dg.fn) ρ := fun ρ => by rw [ho.den]; simp [qSem]
  by_cases hl : 4096 < n
  · rw [if_pos hl]
    refine ⟨0, [], 0, 8, none, 0, 0, rfl, hk, fun wf hkf _ _ => ⟨fun h => absurd hq h, fun _ => ⟨fun h => absurd hop h, fun _ => ⟨M, r, ho.good, ho.root, hden, ?_⟩⟩, rfl, rd_nil0 _, by simp, hkf, fun h => by omega⟩⟩
    rw [h.canon, if_pos (by have := ho.len; show 4096 < M.length; omega)]
  · rw [if_neg hl]
    have hML : (ofN M).length = M.length := Dd.ofN_len M
    have hln := ho.len
    refine ⟨V, ofN M, r, 0, A, n, c, rfl, hk, fun wf hkf hb hsl => ⟨fun h => absurd hq h, fun _ => ⟨fun h => absurd hop h, fun _ => ⟨M, r, ho.good, ho.root, hden, ?_⟩⟩, by omega, ?_, by omega, hkf, fun h0 k hk' => ?_⟩⟩
    · rw [h.canon, if_neg (by show ¬ 4096 < M.length; omega), hV]
    · rw [rnsC_ofN]
      exact rd_keep0 (ho.rd.kept hk fun _ _ h => h) fun h0 k hk' => hb k (fun e => by
        rcases h.fresh h0 k hk' with h | h
        · have := hsl k h; omega
        · omega)
    · rcases h.fresh h0 k hk' with h | h
      · exact .inl h
      · exact .inr (by omega)

set_option maxRecDepth 100000 in
set_option maxHeartbeats 4000000 in
theorem rquantify_any (a : Dg) (S op : Nat) (hS : S < 18446744073709551616) (hop : op < 2) (w : World) (ha : a.In w) : Calls Tryz.prog 70 #[a.val, .int .u64 S, .int .i64 op] w (WPost w (qErr a S) a.V [a] (qSem (decide (op = 1)) S) a.sl) := by
  have HT := Lib.hid fun (w1 : World) (hk : Keep NoF w w1) => (show Calls Tryz.prog 71 #[a.val] w1 (fun e w' => e = .returned (.int .i64 a.err) ∧ Keep NoF w1 w') from rcheck_any a.V a.R a.root a.sl w1 ha.2 (ha.1.kept hk fun _ _ h => h))
  by_cases hte : a.err = 0
  · have hqe : qErr a S = if S / 2 ^ a.V.toNat ≠ 0 then 2 else 0 := by unfold qErr; rw [if_neg (by simp [hte])]
    rw [hte] at HT
    obtain ⟨v', M1, r1, A1, c1, e1, f1, O1, v1, hden⟩ := opd_of a w ha hte
    have hsl : a.sl = .slice A1 M1.length c1 := by
      have : a.val = .agg #[.int .i64 a.V, a.sl, .int .i64 a.root] := rfl
      rw [this] at f1
      simp only [Value.agg.injEq] at f1
      have f2 := congrArg (fun cs : Array Value => cs[1]?) f1
      simpa using f2
    have hwi : Within v' a.fn := by rw [← funext hden]; exact Dd.valid_within v1 _ v1.root
    have hbw : ∀ k, sblk (.slice A1 M1.length c1) k → k < w.heap.size := fun k hk => by
      obtain ⟨A', n', c', e, h0, hk⟩ := hk
      cases e
      exact O1.rd.blk_lt h0 (by omega) k hk
    have hv24 := v1.vars
    have hcan := v1.own
    rw [e1, Int.toNat_natCast] at hqe
    have HLIM := Lib.hid fun (W : World) (A : Option Addr) (n c r : Nat) (M : List Dd.Nd) (h0 : qErr a S = 0) (h : QBox w a.sl W v' (qf (decide (op = 1)) S.testBit a.fn) A n c r M) => qbox_lim h0 hte e1 h
    have HP : Hid (qErr a S ≠ 0 → ∀ w', Keep NoF w w' → WPost w (qErr a S) a.V [a] (qSem (decide (op = 1)) S) a.sl (.returned (.tuple #[dgZero, .int .i64 (qErr a S)])) w') := Lib.hid fun h w' hk => WPost.bad h hk
    have HP2 : Hid (∀ e w', (∃ V' R r err A n c, e = .returned (.tuple #[.agg #[.int .i64 V', .slice A n c, .int .i64 r], .int .i64 err]) ∧ ResW w w' (qErr a S) a.V [a] (qSem (decide (op = 1)) S) a.sl V' R r err A n c) → WPost w (qErr a S) a.V [a] (qSem (decide (op = 1)) S) a.sl e w') := Lib.hid fun e w' h => h
    generalize hPP : WPost w (qErr a S) a.V [a] (qSem (decide (op = 1)) S) a.sl = PP at *
    clear hPP
    rw [f1] at HT ⊢
    generalize hfr : ResW w = RW at *
    clear hfr
    generalize qErr a S = qe at *
    have HQE := Lib.hid hqe
    rw [hsl] at HLIM HP2
    have hsd : ((S : Int) / 2 ^ v' != 0) = decide (qe ≠ 0) := by
      rw [HQE.out]
      have e : (S : Int) / 2 ^ v' = ((S / 2 ^ v' : Nat) : Int) := by push_cast; rfl
      rw [e]
      by_cases h : S / 2 ^ v' = 0
      · simp [h]
      · have h' : ((S / 2 ^ v' : Nat) : Int) ≠ 0 := by omega
        rw [if_pos h]
        simp only [bne_iff_ne, ne_eq, h', not_false_eq_true, decide_true, show ¬ (2 : Int) = 0 by omega]
    generalize a.V = aV at *
    generalize hfa : a.fn = fa at *
    clear hqe f1 hsl hte ha v1 hden hfa e1
    have k1 : Keep NoF w ((w.alloc (.cells #[.int .i64 v', .slice A1 M1.length c1, .int .i64 r1] 24)).alloc (.cells #[.int .i64 0, .slice none 0 0, .int .i64 0] 24)) := ((Keep.refl _ _).alloc _).alloc _
    have qa : Bk ((w.alloc (.cells #[.int .i64 v', .slice A1 M1.length c1, .int .i64 r1] 24)).alloc (.cells #[.int .i64 0, .slice none 0 0, .int .i64 0] 24)) w.heap.size 24 #[.int .i64 v', .slice A1 M1.length c1, .int .i64 r1] := (Bk.new' _ _ _ (by simp)).alloc _
    have qz : Bk ((w.alloc (.cells #[.int .i64 v', .slice A1 M1.length c1, .int .i64 r1] 24)).alloc (.cells #[.int .i64 0, .slice none 0 0, .int .i64 0] 24)) (w.heap.size + 1) 24 #[.int .i64 0, .slice none 0 0, .int .i64 0] := Bk.new' _ _ _ (by simp)
    go_enter Tryz.func70, Tryz.ntmps70
    go_upto_region 1 with (fail)
    generalize (w.alloc (.cells #[.int .i64 v', .slice A1 M1.length c1, .int .i64 r1] 24)).alloc (.cells #[.int .i64 0, .slice none 0 0, .int .i64 0] 24) = W2 at *
    have a0 : W2.cell? ⟨w.heap.size, 0, none⟩ = some (.int .i64 v') := qa.cell 0
    have a1 : W2.cell? ⟨w.heap.size, 1, none⟩ = some (.slice A1 M1.length c1) := qa.cell 1
    have a2 : W2.cell? ⟨w.heap.size, 2, none⟩ = some (.int .i64 r1) := qa.cell 2
    have HT2 := Lib.hid (HT.out _ k1)
    have HSD := Lib.hid hsd
    clear hsd
    go_upto_region 2 with (go_at_call 71
                           (with_reducible refine HT2.out.mono ?_)
                           rintro e w4 ⟨rfl, hk4⟩)
    have k4 := k1.trans hk4 fun _ _ h => h
    have qa4 := qa.keep hk4 (fun h => h)
    have qz4 := qz.keep hk4 (fun h => h)
    have g0 : w4.cell? ⟨w.heap.size, 0, none⟩ = some (.int .i64 v') := qa4.cell 0
    have g1 : w4.cell? ⟨w.heap.size, 1, none⟩ = some (.slice A1 M1.length c1) := qa4.cell 1
    have g2 : w4.cell? ⟨w.heap.size, 2, none⟩ = some (.int .i64 r1) := qa4.cell 2
    have hs4 := k4.size
    have hv64 : v' < 64 := by omega
    have hzl : w.heap.size + 1 < w4.heap.size := qz4.lt
    by_cases hq0 : qe = 0
    · have hsd : ((S : Int) / 2 ^ v' != 0) = false := by rw [HSD.out, hq0]; rfl
      have hS0 : S / 2 ^ v' = 0 := by
        by_cases h : S / 2 ^ v' = 0
        · exact h
        · have := HQE.out; rw [if_pos h] at this; omega
      have HB0 : QBox w (.slice A1 M1.length c1) w4 v' (qf (decide (op = 1)) (upS S v') fa) A1 M1.length c1 r1 M1 := by
        rw [Dd.qf_no _ _ (Dd.upS_end hS0)]
        exact ⟨O1.keep k4, hwi, hcan, fun h0 k hk => .inl ⟨_, _, _, rfl, h0, hk⟩⟩
      have HQ0 := Lib.hid hq0
      clear hq0 hS0 O1 hwi hcan HT HT2 HQE HSD
      go_upto_region 7 with (fail)
      go_loopw [9] (fun i wr => ∃ (i' : Int) (j : Nat), i = .int .i64 i' ∧ i' = (j : Int) - 1 ∧ j ≤ v' ∧ ∃ (A : Option Addr) (n c r : Nat) (M : List Dd.Nd), Bk wr w.heap.size 24 #[.int .i64 v', .slice A n c, .int .i64 r] ∧ QBox w (.slice A1 M1.length c1) wr v' (qf (decide (op = 1)) (upS S j) fa) A n c r M ∧ Bk wr (w.heap.size + 1) 24 #[.int .i64 0, .slice none 0 0, .int .i64 0] ∧ Keep NoF w wr) (fun i _ => (intOf i + 1).toNat)
      case atStart => exact ⟨_, v', rfl, by omega, by omega, A1, M1.length, c1, r1, M1, qa4, HB0, qz4, k4⟩
      case round =>
        obtain ⟨i', j, rfl, hij, hj, A, n, c, r, M, hbx, hqb, hbz, hkr⟩ := hrel
        have b0 : wr.cell? ⟨w.heap.size, 0, none⟩ = some (.int .i64 v') := hbx.cell 0
        have b1 : wr.cell? ⟨w.heap.size, 1, none⟩ = some (.slice A n c) := hbx.cell 1
        have b2 : wr.cell? ⟨w.heap.size, 2, none⟩ = some (.int .i64 r) := hbx.cell 2
        clear g0 g1 g2 hsd HB0 qa4 qz4 qa qz
        cases j with
        | zero =>
          obtain rfl : i' = -1 := by omega
          rw [Dd.upS_zero] at hqb
          have HL := Lib.hid (HLIM.out wr A n c r M HQ0.out hqb)
          clear hij HLIM
          go_wp2_with (go_at_call 68
                       (with_reducible refine HL.out.mono ?_)
                       rintro e w8 ⟨V', R', r', err, A'', n'', cc', rfl, hk8, hout⟩
                       have qz8 := hbz.keep hk8 (fun h => h)
                       have z0 : w8.cell? ⟨w.heap.size + 1, 0, none⟩ = some (.int .i64 0) := qz8.cell 0
                       have z1 : w8.cell? ⟨w.heap.size + 1, 1, none⟩ = some (.slice none 0 0) := qz8.cell 1
                       have z2 : w8.cell? ⟨w.heap.size + 1, 2, none⟩ = some (.int .i64 0) := qz8.cell 2
                       have f0 := qz8.frozen 0
                       have f1 := qz8.frozen 1
                       have f2 := qz8.frozen 2)
          have hx := ((qz8.put 0 (.int .i64 V')).put 1 (.slice A'' n'' cc')).put 2 (.int .i64 r')
          have A8 : Keep NoF w w8 := hkr.trans hk8 fun _ _ h => h
          have hkf := A8.set3 (b := w.heap.size + 1) (by omega) (.int .i64 V') (.slice A'' n'' cc') (.int .i64 r')
          have hset : ∀ k, k ≠ w.heap.size + 1 → (((w8.setCell ⟨w.heap.size + 1, 0, none⟩ (.int .i64 V')).setCell ⟨w.heap.size + 1, 1, none⟩ (.slice A'' n'' cc')).setCell ⟨w.heap.size + 1, 2, none⟩ (.int .i64 r')).heap[k]? = w8.heap[k]? := fun k hne => ((Below.heap_setCell _ _ _ k hne).trans (Below.heap_setCell _ _ _ k hne)).trans (Below.heap_setCell _ _ _ k hne)
          generalize ((w8.setCell ⟨w.heap.size + 1, 0, none⟩ (.int .i64 V')).setCell ⟨w.heap.size + 1, 1, none⟩ (.slice A'' n'' cc')).setCell ⟨w.heap.size + 1, 2, none⟩ (.int .i64 r') = W6 at *
          have hx0 : W6.cell? ⟨w.heap.size + 1, 0, none⟩ = some (.int .i64 V') := hx.cell 0
          have hx1 : W6.cell? ⟨w.heap.size + 1, 1, none⟩ = some (.slice A'' n'' cc') := hx.cell 1
          have hx2 : W6.cell? ⟨w.heap.size + 1, 2, none⟩ = some (.int .i64 r') := hx.cell 2
          refine bodyPost_ret (v := .tuple #[.agg #[.int .i64 V', .slice A'' n'' cc', .int .i64 r'], .int .i64 err]) (by simp [results, Tryz.results70, go_sem, hx0, hx1, hx2]) rfl (HP2.out _ _ ⟨_, _, _, _, _, _, _, rfl, hout W6 hkf hset hbw⟩)
        | succ j =>
          obtain rfl : i' = (j : Int) := by omega
          have hbit := bit_one S j hS
          have hj64 : j < 64 := by omega
          cases hbt : S.testBit j
          · rw [hbt] at hbit
            rw [Dd.upS_off hbt] at hqb
            clear hbt hij
            go_wp2
            go_roundw
            case rel => exact ⟨_, j, rfl, by omega, by omega, A, n, c, r, M, hbx, hqb, hbz, hkr⟩
            case measure => simp only [intOf]; omega
          · rw [hbt] at hbit
            have hbt' := Lib.hid hbt
            clear hbt hij
            have kd : Keep NoF wr wr.drew := (Keep.refl _ _).drew
            have hjv : j < v' := by omega
            have p1 := hqb.keep kd
            have q1 := hbx.keep kd (fun h => h)
            have qz := hbz.keep kd (fun h => h)
            have kk0 := hkr.trans kd fun _ _ h => h
            have hrl : w.heap.size + 1 < wr.drew.heap.size := qz.lt
            clear kd
            go_upto_region 10 with (fail)
            go_region_law (first
              | (go_simp
                 go_at_call 69
                 (with_reducible refine (comb_op op v' (by omega) hv24 p1.within.rf p1.within.rf s1 s2).mono ?_)
                 rintro e x3 ⟨B3, m3, d3, t3, L3, rfl, s3, hk3, hf3, hc3⟩
                 have kk0 := kk0.trans hk3 fun _ _ h => h
                 have q1 := q1.keep hk3 (fun h => h)
                 have qz := qz.keep hk3 (fun h => h)
                 have hz3 := hk3.size
                 have b0 : x3.cell? ⟨w.heap.size, 0, none⟩ = some (.int .i64 v') := q1.cell 0
                 have b1 : x3.cell? ⟨w.heap.size, 1, none⟩ = some (.slice A n c) := q1.cell 1
                 have b2 : x3.cell? ⟨w.heap.size, 2, none⟩ = some (.int .i64 r) := q1.cell 2
                 have f0 := q1.frozen 0
                 have f1 := q1.frozen 1
                 have f2 := q1.frozen 2)
              | (go_simp
                 go_at_call 76
                 (with_reducible refine (restr_out v' hv24 p1.within p1.opd j hjv true).mono ?_)
                 rintro e x2 ⟨B2, m2, d2, t2, L2, rfl, s2, hk2, hf2, hc2⟩
                 have kk0 := kk0.trans hk2 fun _ _ h => h
                 have p1 := p1.keep hk2
                 have q1 := q1.keep hk2 (fun h => h)
                 have qz := qz.keep hk2 (fun h => h)
                 have hz2 := hk2.size
                 try have s1 := s1.keep hk2
                 have b0 : x2.cell? ⟨w.heap.size, 0, none⟩ = some (.int .i64 v') := q1.cell 0
                 have b1 : x2.cell? ⟨w.heap.size, 1, none⟩ = some (.slice A n c) := q1.cell 1
                 have b2 : x2.cell? ⟨w.heap.size, 2, none⟩ = some (.int .i64 r) := q1.cell 2)
              | (go_simp
                 go_at_call 76
                 (with_reducible refine (restr_out v' hv24 p1.within p1.opd j hjv false).mono ?_)
                 rintro e x1 ⟨B1, m1, d1, t1, L1, rfl, s1, hk1, hf1, hc1⟩
                 have kk0 := kk0.trans hk1 fun _ _ h => h
                 have p1 := p1.keep hk1
                 have q1 := q1.keep hk1 (fun h => h)
                 have qz := qz.keep hk1 (fun h => h)
                 have hz1 := hk1.size
                 try have s2 := s2.keep hk1
                 have b0 : x1.cell? ⟨w.heap.size, 0, none⟩ = some (.int .i64 v') := q1.cell 0
                 have b1 : x1.cell? ⟨w.heap.size, 1, none⟩ = some (.slice A n c) := q1.cell 1
                 have b2 : x1.cell? ⟨w.heap.size, 2, none⟩ = some (.int .i64 r) := q1.cell 2))
            all_goals
              have hW3 : Keep (fun k => k = w.heap.size) x3 (((x3.setCell ⟨w.heap.size, 0, none⟩ (.int .i64 v')).setCell ⟨w.heap.size, 1, none⟩ (.slice B3 m3 d3)).setCell ⟨w.heap.size, 2, none⟩ (.int .i64 t3)) := keep_set3 x3 w.heap.size _ _ _
              have hfun : (fun ρ => opF op (rf j false (qf (decide (op = 1)) (upS S (j + 1)) fa) ρ) (rf j true (qf (decide (op = 1)) (upS S (j + 1)) fa) ρ)) = qf (decide (op = 1)) (upS S j) fa := by
                funext ρ
                rw [← Dd.upS_on hbt'.out, ← Dd.qf_add]
                have : op = 0 ∨ op = 1 := by omega
                rcases this with rfl | rfl <;> simp [opF]
              have hwin := within_op (op := op) (p1.within.rf (i := j) (t := false)) (p1.within.rf (i := j) (t := true))
              rw [hfun] at hwin s3
              have hbn : Bk (((x3.setCell ⟨w.heap.size, 0, none⟩ (.int .i64 v')).setCell ⟨w.heap.size, 1, none⟩ (.slice B3 m3 d3)).setCell ⟨w.heap.size, 2, none⟩ (.int .i64 t3)) w.heap.size 24 #[.int .i64 v', .slice B3 m3 d3, .int .i64 t3] := ((q1.put 0 (.int .i64 v')).put 1 (.slice B3 m3 d3)).put 2 (.int .i64 t3)
              have hqn : QBox w (.slice A1 M1.length c1) (((x3.setCell ⟨w.heap.size, 0, none⟩ (.int .i64 v')).setCell ⟨w.heap.size, 1, none⟩ (.slice B3 m3 d3)).setCell ⟨w.heap.size, 2, none⟩ (.int .i64 t3)) v' (qf (decide (op = 1)) (upS S j) fa) B3 m3 d3 t3 L3 :=
                ⟨⟨s3.len, s3.rd.kept hW3 (fun k hk (e : k = w.heap.size) => by have := hf3 k hk; omega), s3.good, s3.vars, s3.root, s3.den, s3.small⟩, hwin, hc3, fun _ k hk => .inr (by have := hf3 k hk; omega)⟩
              have hzn := qz.keep hW3 (by omega)
              have hkn := kk0.set3 (b := w.heap.size) (by omega) (.int .i64 v') (.slice B3 m3 d3) (.int .i64 t3)
              clear hW3 hfun hwin s1 s2 s3
              generalize ((x3.setCell ⟨w.heap.size, 0, none⟩ (.int .i64 v')).setCell ⟨w.heap.size, 1, none⟩ (.slice B3 m3 d3)).setCell ⟨w.heap.size, 2, none⟩ (.int .i64 t3) = W9 at *
              clear b0 b1 b2 f0 f1 f2 hbit
              go_wp2
              go_roundw
              case rel => exact ⟨_, j, rfl, by omega, by omega, B3, m3, d3, t3, L3, hbn, hqn, hzn, hkn⟩
              case measure => simp only [intOf]; omega
    · have hsd : ((S : Int) / 2 ^ v' != 0) = true := by rw [HSD.out]; simp [hq0]
      have hre : qe = 2 := by
        have := HQE.out
        split at this
        · exact this
        · omega
      have HREE := Lib.hid hre
      have HQ0 := Lib.hid hq0
      clear hre hq0
      have z0 : w4.cell? ⟨w.heap.size + 1, 0, none⟩ = some (.int .i64 0) := qz4.cell 0
      have z1 : w4.cell? ⟨w.heap.size + 1, 1, none⟩ = some (.slice none 0 0) := qz4.cell 1
      have z2 : w4.cell? ⟨w.heap.size + 1, 2, none⟩ = some (.int .i64 0) := qz4.cell 2
      have f0 := qz4.frozen 0
      have f1 := qz4.frozen 1
      have f2 := qz4.frozen 2
      go_wp2
      have hx := ((qz4.put 0 (.int .i64 0)).put 1 (.slice none 0 0)).put 2 (.int .i64 0)
      have hkf := k4.set3 (b := w.heap.size + 1) (by omega) (.int .i64 0) (.slice none 0 0) (.int .i64 0)
      generalize ((w4.setCell ⟨w.heap.size + 1, 0, none⟩ (.int .i64 0)).setCell ⟨w.heap.size + 1, 1, none⟩ (.slice none 0 0)).setCell ⟨w.heap.size + 1, 2, none⟩ (.int .i64 0) = W6 at *
      have hx0 : W6.cell? ⟨w.heap.size + 1, 0, none⟩ = some (.int .i64 0) := hx.cell 0
      have hx1 : W6.cell? ⟨w.heap.size + 1, 1, none⟩ = some (.slice none 0 0) := hx.cell 1
      have hx2 : W6.cell? ⟨w.heap.size + 1, 2, none⟩ = some (.int .i64 0) := hx.cell 2
      refine bodyPost_ret (v := .tuple #[.agg #[.int .i64 0, .slice none 0 0, .int .i64 0], .int .i64 2]) (by simp [results, Tryz.results70, go_sem, hx0, hx1, hx2]) rfl ?_
      have := HP.out HQ0.out W6 hkf
      rw [HREE.out] at this
      exact this
  · have hre : qErr a S = a.err := by unfold qErr; rw [if_pos hte]
    have HP : Hid (∀ e w', e = .returned (.tuple #[dgZero, .int .i64 a.err]) → Keep NoF w w' → WPost w (qErr a S) a.V [a] (qSem (decide (op = 1)) S) a.sl e w') := Lib.hid fun e w' he hk => by rw [he, hre]; exact WPost.bad hte hk
    have ha1 := ha.1
    generalize WPost w (qErr a S) a.V [a] (qSem (decide (op = 1)) S) a.sl = PP at *
    clear hre
    generalize a.err = te at *
    obtain ⟨V1, R1, r1, s1⟩ := a
    simp only at ha1
    obtain ⟨_, A1, c1, rfl, _, _⟩ := ha1
    simp only [Dg.val] at HT ⊢
    clear ha
    have e1 : (te != 0) = true := by simp [hte]
    have k1 : Keep NoF w ((w.alloc (.cells #[.int .i64 V1, .slice A1 R1.length c1, .int .i64 r1] 24)).alloc (.cells #[.int .i64 0, .slice none 0 0, .int .i64 0] 24)) := ((Keep.refl _ _).alloc _).alloc _
    have qa : Bk ((w.alloc (.cells #[.int .i64 V1, .slice A1 R1.length c1, .int .i64 r1] 24)).alloc (.cells #[.int .i64 0, .slice none 0 0, .int .i64 0] 24)) w.heap.size 24 #[.int .i64 V1, .slice A1 R1.length c1, .int .i64 r1] := (Bk.new' _ _ _ (by simp)).alloc _
    have qz : Bk ((w.alloc (.cells #[.int .i64 V1, .slice A1 R1.length c1, .int .i64 r1] 24)).alloc (.cells #[.int .i64 0, .slice none 0 0, .int .i64 0] 24)) (w.heap.size + 1) 24 #[.int .i64 0, .slice none 0 0, .int .i64 0] := Bk.new' _ _ _ (by simp)
    go_enter Tryz.func70, Tryz.ntmps70
    go_upto_region 1 with (fail)
    generalize (w.alloc (.cells #[.int .i64 V1, .slice A1 R1.length c1, .int .i64 r1] 24)).alloc (.cells #[.int .i64 0, .slice none 0 0, .int .i64 0] 24) = W2 at *
    have a0 : W2.cell? ⟨w.heap.size, 0, none⟩ = some (.int .i64 V1) := qa.cell 0
    have a1 : W2.cell? ⟨w.heap.size, 1, none⟩ = some (.slice A1 R1.length c1) := qa.cell 1
    have a2 : W2.cell? ⟨w.heap.size, 2, none⟩ = some (.int .i64 r1) := qa.cell 2
    have HT2 := Lib.hid (HT.out _ k1)
    have HTE := Lib.hid hte
    clear hte
    go_upto_region 2 with (go_at_call 71
                           (with_reducible refine HT2.out.mono ?_)
                           rintro e w4 ⟨rfl, hk4⟩)
    have k4 := k1.trans hk4 fun _ _ h => h
    have qz4 := qz.keep hk4 (fun h => h)
    have z0 : w4.cell? ⟨w.heap.size + 1, 0, none⟩ = some (.int .i64 0) := qz4.cell 0
    have z1 : w4.cell? ⟨w.heap.size + 1, 1, none⟩ = some (.slice none 0 0) := qz4.cell 1
    have z2 : w4.cell? ⟨w.heap.size + 1, 2, none⟩ = some (.int .i64 0) := qz4.cell 2
    have f0 := qz4.frozen 0
    have f1 := qz4.frozen 1
    have f2 := qz4.frozen 2
    go_wp2
    have hx := ((qz4.put 0 (.int .i64 0)).put 1 (.slice none 0 0)).put 2 (.int .i64 0)
    have hkf := k4.set3 (b := w.heap.size + 1) (by omega) (.int .i64 0) (.slice none 0 0) (.int .i64 0)
    generalize ((w4.setCell ⟨w.heap.size + 1, 0, none⟩ (.int .i64 0)).setCell ⟨w.heap.size + 1, 1, none⟩ (.slice none 0 0)).setCell ⟨w.heap.size + 1, 2, none⟩ (.int .i64 0) = W6 at *
    have hx0 : W6.cell? ⟨w.heap.size + 1, 0, none⟩ = some (.int .i64 0) := hx.cell 0
    have hx1 : W6.cell? ⟨w.heap.size + 1, 1, none⟩ = some (.slice none 0 0) := hx.cell 1
    have hx2 : W6.cell? ⟨w.heap.size + 1, 2, none⟩ = some (.int .i64 0) := hx.cell 2
    refine bodyPost_ret (v := .tuple #[.agg #[.int .i64 0, .slice none 0 0, .int .i64 0], .int .i64 te]) (by simp [results, Tryz.results70, go_sem, hx0, hx1, hx2]) rfl ?_
    exact HP.out _ _ rfl hkf
end Go.Proofs.YtgdmcidcappkpaaGreat
namespace Go.Proofs.YtgdmcidcappkpaaGreat
open Go.RowKit
open Dd (Rn rat ofN toN checkErr den lo var vr mk BOp canon rf qf Within upS)

theorem ResW.move {w w1 w' wf : World} {er V : Int} {ds : List Dg} {σ : List BF → BF} {sl : Value} {V' : Int} {R : List Rn} {r err : Int} {A : Option Addr} {n c : Nat} (h : ResW w1 w' er V ds σ sl V' R r err A n c) (hk : Keep NoF w wf) (h0 : w.heap.size ≤ w1.heap.size)
    (hb : ∀ k, k < w.heap.size ∨ w1.heap.size ≤ k → wf.heap[k]? = w'.heap[k]?) (hsl : ∀ k, sblk sl k → k < w.heap.size) : ResW w wf er V ds σ sl V' R r err A n c :=
  ⟨h.bad, h.det, h.len, rd_keep0 h.rd fun hn k hs => hb k ((h.fresh hn k hs).imp (hsl k) id), h.short, hk, fun hn k hs => (h.fresh hn k hs).imp id fun h => Nat.le_trans h0 h⟩
theorem sblk_lt {a : Dg} {w : World} (ha : a.In w) : ∀ k, sblk a.sl k → k < w.heap.size := by
  rintro k ⟨A, n, c, e, h0, hk⟩
  have hrd := ha.1
  have hrd2 := hrd
  obtain ⟨_, A', c', e', _, _⟩ := hrd2
  rw [e] at e' hk
  cases e'
  rw [e] at hrd
  exact hrd.blk_lt h0 (by omega) k hk

set_option maxRecDepth 100000 in
set_option maxHeartbeats 1000000 in
theorem rExists_any (a : Dg) (S : Nat) (hS : S < 18446744073709551616) (w : World) (ha : a.In w) : Calls Tryz.prog 35 #[a.val, .int .u64 S] w (WPost w (qErr a S) a.V [a] (qSem true S) a.sl) := by
  have HQ := Lib.hid fun (w1 : World) (hk : Keep NoF w w1) => (show Calls Tryz.prog 70 #[a.val, .int .u64 S, .int .i64 1] w1 _ from rquantify_any a S 1 hS (by omega) w1 ⟨ha.1.kept hk fun _ _ h => h, ha.2⟩)
  have hsl := sblk_lt ha
  have HMV : Hid (∀ w1 w' wf V' R r err A n c, ResW w1 w' (qErr a S) a.V [a] (qSem (decide (1 = 1)) S) a.sl V' R r err A n c → Keep NoF w wf → w.heap.size ≤ w1.heap.size → (∀ k, k < w.heap.size ∨ w1.heap.size ≤ k → wf.heap[k]? = w'.heap[k]?) → WPost w (qErr a S) a.V [a] (qSem true S) a.sl (.returned (.tuple #[.agg #[.int .i64 V', .slice A n c, .int .i64 r], .int .i64 err])) wf) := Lib.hid fun w1 w' wf V' R r err A n c h hk h0 hb => ⟨V', R, r, err, A, n, c, rfl, h.move hk h0 hb hsl⟩
  have HKP : Hid (∀ w1 w' V' R r err A n c, ResW w1 w' (qErr a S) a.V [a] (qSem (decide (1 = 1)) S) a.sl V' R r err A n c → Keep NoF w1 w') := Lib.hid fun w1 w' V' R r err A n c h => h.keep
  have ha1 := ha.1
  unfold WPost at HQ
  generalize WPost w (qErr a S) a.V [a] (qSem true S) a.sl = PP at *
  obtain ⟨V1, R1, r1, s1⟩ := a
  simp only at ha1
  obtain ⟨_, A1, c1, rfl, _, _⟩ := ha1
  simp only [Dg.val] at HQ HMV HKP ⊢
  clear ha hsl
  have k1 : Keep NoF w ((w.alloc (.cells #[.int .i64 V1, .slice A1 R1.length c1, .int .i64 r1] 24)).alloc (.cells #[.int .i64 0, .slice none 0 0, .int .i64 0] 24)) := ((Keep.refl _ _).alloc _).alloc _
  have qa : Bk ((w.alloc (.cells #[.int .i64 V1, .slice A1 R1.length c1, .int .i64 r1] 24)).alloc (.cells #[.int .i64 0, .slice none 0 0, .int .i64 0] 24)) w.heap.size 24 #[.int .i64 V1, .slice A1 R1.length c1, .int .i64 r1] := (Bk.new' _ _ _ (by simp)).alloc _
  have qz : Bk ((w.alloc (.cells #[.int .i64 V1, .slice A1 R1.length c1, .int .i64 r1] 24)).alloc (.cells #[.int .i64 0, .slice none 0 0, .int .i64 0] 24)) (w.heap.size + 1) 24 #[.int .i64 0, .slice none 0 0, .int .i64 0] := Bk.new' _ _ _ (by simp)
  have hz1 : ((w.alloc (.cells #[.int .i64 V1, .slice A1 R1.length c1, .int .i64 r1] 24)).alloc (.cells #[.int .i64 0, .slice none 0 0, .int .i64 0] 24)).heap.size = w.heap.size + 1 + 1 := by simp
  have HZ1 := Lib.hid hz1
  clear hz1
  go_enter Tryz.func35, Tryz.ntmps35
  go_upto_region 1 with (fail)
  generalize (w.alloc (.cells #[.int .i64 V1, .slice A1 R1.length c1, .int .i64 r1] 24)).alloc (.cells #[.int .i64 0, .slice none 0 0, .int .i64 0] 24) = W2 at *
  have a0 : W2.cell? ⟨w.heap.size, 0, none⟩ = some (.int .i64 V1) := qa.cell 0
  have a1 : W2.cell? ⟨w.heap.size, 1, none⟩ = some (.slice A1 R1.length c1) := qa.cell 1
  have a2 : W2.cell? ⟨w.heap.size, 2, none⟩ = some (.int .i64 r1) := qa.cell 2
  have HC := Lib.hid (HQ.out _ k1)
  go_wp2_with (go_at_call 70
               (with_reducible refine HC.out.mono ?_)
               rintro e w4 ⟨V', R', r', err, A', n', c', rfl, hres⟩
               have hk4 := HKP.out _ _ _ _ _ _ _ _ _ hres
               have qz4 := qz.keep hk4 (fun h => h)
               have z0 : w4.cell? ⟨w.heap.size + 1, 0, none⟩ = some (.int .i64 0) := qz4.cell 0
               have z1 : w4.cell? ⟨w.heap.size + 1, 1, none⟩ = some (.slice none 0 0) := qz4.cell 1
               have z2 : w4.cell? ⟨w.heap.size + 1, 2, none⟩ = some (.int .i64 0) := qz4.cell 2
               have f0 := qz4.frozen 0
               have f1 := qz4.frozen 1
               have f2 := qz4.frozen 2)
  have hx := ((qz4.put 0 (.int .i64 V')).put 1 (.slice A' n' c')).put 2 (.int .i64 r')
  have k4 := k1.trans hk4 fun _ _ h => h
  have hkf := k4.set3 (b := w.heap.size + 1) (by omega) (.int .i64 V') (.slice A' n' c') (.int .i64 r')
  have hset : ∀ k, k ≠ w.heap.size + 1 → (((w4.setCell ⟨w.heap.size + 1, 0, none⟩ (.int .i64 V')).setCell ⟨w.heap.size + 1, 1, none⟩ (.slice A' n' c')).setCell ⟨w.heap.size + 1, 2, none⟩ (.int .i64 r')).heap[k]? = w4.heap[k]? := fun k hne => ((Below.heap_setCell _ _ _ k hne).trans (Below.heap_setCell _ _ _ k hne)).trans (Below.heap_setCell _ _ _ k hne)
  generalize ((w4.setCell ⟨w.heap.size + 1, 0, none⟩ (.int .i64 V')).setCell ⟨w.heap.size + 1, 1, none⟩ (.slice A' n' c')).setCell ⟨w.heap.size + 1, 2, none⟩ (.int .i64 r') = W6 at *
  have hx0 : W6.cell? ⟨w.heap.size + 1, 0, none⟩ = some (.int .i64 V') := hx.cell 0
  have hx1 : W6.cell? ⟨w.heap.size + 1, 1, none⟩ = some (.slice A' n' c') := hx.cell 1
  have hx2 : W6.cell? ⟨w.heap.size + 1, 2, none⟩ = some (.int .i64 r') := hx.cell 2
  refine bodyPost_ret (v := .tuple #[.agg #[.int .i64 V', .slice A' n' c', .int .i64 r'], .int .i64 err]) (by simp [results, Tryz.results35, go_sem, hx0, hx1, hx2]) rfl ?_
  have hz := HZ1.out
  exact HMV.out W2 w4 W6 _ _ _ _ _ _ _ hres hkf (by omega) fun k hk => hset k (by omega)

end Go.Proofs.YtgdmcidcappkpaaGreat
