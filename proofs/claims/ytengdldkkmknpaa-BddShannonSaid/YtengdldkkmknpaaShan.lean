/- Expansion in a variable: plain facts, and contracts at five variables. No condition. -/
import Derived.Test.YtengdldkkmknpaaWBddFirst
set_option linter.unusedVariables false
set_option linter.unusedSimpArgs false
namespace Go.Proofs.Ytengdldkkmknpaa.Dd

/-- A function does not depend on v. -/
def Indep (v : Nat) (f : BFn) : Prop := ∀ ρ b, f (upd ρ v b) = f ρ
theorem upd_upd (ρ : Nat → Bool) (v : Nat) (a b : Bool) : upd (upd ρ v a) v b = upd ρ v b := by
  funext x; unfold upd; by_cases h : x = v <;> simp [h]
theorem rf_indep (v : Nat) (t : Bool) (f : BFn) : Indep v (rf v t f) := fun ρ b => by unfold rf; rw [upd_upd]
theorem indep_iff (v : Nat) (f : BFn) : Indep v f ↔ ∀ ρ, rf v false f ρ = rf v true f ρ := by
  unfold rf
  constructor
  · intro h ρ; rw [h, h]
  · intro h ρ b
    have e := upd_self ρ v
    have h1 := h ρ
    cases hb : b <;> cases hv : ρ v <;> rw [hv] at e
    · rw [e]
    · rw [h1, e]
    · rw [← h1, e]
    · rw [e]
theorem expand (v : Nat) (f : BFn) (ρ : Nat → Bool) : (if ρ v then rf v true f ρ else rf v false f ρ) = f ρ := by
  unfold rf
  have e := upd_self ρ v
  cases hv : ρ v <;> rw [hv] at e <;> simp [e]
theorem qf_alone (any : Bool) (S : Nat → Bool) (v : Nat) (hS : ∀ x, S x = true → x = v) (g : BFn) (hg : Indep v g) (ρ : Nat → Bool) : qf any S g ρ = g ρ := by
  have key : ∀ σ : Nat → Bool, (∀ x, S x = false → σ x = ρ x) → g σ = g ρ := fun σ h => by
    have e : σ = upd ρ v (σ v) := by
      funext x
      unfold upd
      by_cases hx : x = v
      · simp [hx]
      · simp only [hx, if_false]
        refine h x ?_
        cases hs : S x with
        | false => rfl
        | true => exact absurd (hS x hs) hx
    rw [e, hg]
  unfold qf
  cases any
  · simp only [Bool.false_eq_true, if_false]
    cases hρ : g ρ
    · simp only [decide_eq_false_iff_not]
      intro h
      have := h ρ fun _ _ => rfl
      rw [hρ] at this; cases this
    · simp only [decide_eq_true_eq]
      intro σ hσ
      rw [key σ hσ, hρ]
  · simp only [if_true]
    cases hρ : g ρ
    · simp only [decide_eq_false_iff_not]
      rintro ⟨σ, hσ, h⟩
      rw [key σ hσ, hρ] at h; cases h
    · simp only [decide_eq_true_eq]
      exact ⟨ρ, fun _ _ => rfl, hρ⟩
theorem qf_one (any : Bool) (i : Nat) (f : BFn) (ρ : Nat → Bool) : qf any (2 ^ i).testBit f ρ = if any then rf i false f ρ || rf i true f ρ else rf i false f ρ && rf i true f ρ := by
  have hS : ∀ x, (2 ^ i).testBit x = true → x = i := fun x h => by rw [Nat.testBit_two_pow] at h; simpa using (of_decide_eq_true h).symm
  have e : f = fun σ => if σ i then rf i true f σ else rf i false f σ := funext fun σ => (expand i f σ).symm
  have h := qf_in any (2 ^ i).testBit i (by rw [Nat.testBit_two_pow]; simp) (rf i false f) (rf i true f) (rf_indep i false f) (rf_indep i true f) ρ
  rw [← e, qf_alone any _ i hS _ (rf_indep i false f), qf_alone any _ i hS _ (rf_indep i true f)] at h
  exact h

section
variable {N : List Nd}
theorem indep_var (G : Good N) {v i : Nat} (h2 : 2 ≤ i) (hi : i < N.length + 2) (hw : Indep v (den N i)) : var N i ≠ v := by
  intro h
  have a1 := G.lo_lt i h2 hi
  have a2 := G.hi_lt i h2 hi
  refine G.ne i h2 hi (inj G (by omega) (by omega) fun ρ => ?_)
  rw [← cof_lo G h2 hi, ← cof_hi G h2 hi, h, hw, hw]
theorem indep_lo (G : Good N) {v i : Nat} (h2 : 2 ≤ i) (hi : i < N.length + 2) (hw : Indep v (den N i)) : Indep v (den N (lo N i)) := by
  intro ρ b
  have hne := indep_var G h2 hi hw
  rw [← cof_lo G h2 hi, ← cof_lo G h2 hi, upd_comm ρ b false (Ne.symm hne), hw]
theorem indep_hi (G : Good N) {v i : Nat} (h2 : 2 ≤ i) (hi : i < N.length + 2) (hw : Indep v (den N i)) : Indep v (den N (Dd.hi N i)) := by
  intro ρ b
  have hne := indep_var G h2 hi hw
  rw [← cof_hi G h2 hi, ← cof_hi G h2 hi, upd_comm ρ b true (Ne.symm hne), hw]
theorem visit_indep (G : Good N) (v : Nat) : ∀ f i s, i < f → i < N.length + 2 → Indep v (den N i) → s.2 0 = some 0 → s.2 1 = some 1 → (∀ n ∈ s.1, n.1 ≠ v) →
    (∀ n ∈ (visit N f i s).2.1, n.1 ≠ v) ∧ (visit N f i s).2.2 0 = some 0 ∧ (visit N f i s).2.2 1 = some 1 := by
  intro f
  induction f with
  | zero => intro i s h; omega
  | succ f ih =>
    intro i s hif hil hw z0 z1 hs
    cases hsi : s.2 i with
    | some k =>
      simp only [visit, hsi]
      exact ⟨hs, z0, z1⟩
    | none =>
      have h2 : 2 ≤ i := by
        by_cases h : i = 0
        · subst h; rw [z0] at hsi; cases hsi
        · by_cases h' : i = 1
          · subst h'; rw [z1] at hsi; cases hsi
          · omega
      have a1 := G.lo_lt i h2 hil
      have a2 := G.hi_lt i h2 hil
      obtain ⟨p1, p3, p4⟩ := ih (lo N i) s (by omega) (by omega) (indep_lo G h2 hil hw) z0 z1 hs
      obtain ⟨q1, q3, q4⟩ := ih (Dd.hi N i) (visit N f (lo N i) s).2 (by omega) (by omega) (indep_hi G h2 hil hw) p3 p4 p1
      simp only [visit, hsi]
      refine ⟨fun n hn => ?_, ?_, ?_⟩
      · rcases List.mem_append.1 hn with h | h
        · exact q1 n h
        · have : n = _ := List.mem_singleton.1 h
          rw [this]; exact indep_var G h2 hil hw
      · simp only [show (0 : Nat) ≠ i by omega, if_false]; exact q3
      · simp only [show (1 : Nat) ≠ i by omega, if_false]; exact q4
/-- A variable is tested exactly if the function depends on it. -/
theorem valid_supp {V : Nat} {r : Nat} (H : Valid V N r) (v : Nat) : (supp N).testBit v = true ↔ ¬ Indep v (den N r) := by
  rw [supp_bit]
  constructor
  · rintro ⟨n, hn, rfl⟩ hi
    have h := (visit_indep H.good n.1 (r + 1) r start (by omega) H.root hi rfl rfl (by simp [start])).1
    have e : (visit N (r + 1) r start).2.1 = N := congrArg Prod.snd H.own
    rw [e] at h
    exact h n hn rfl
  · intro h
    refine Classical.byContradiction fun hn => h ?_
    have key : ∀ i, i < N.length + 2 → Indep v (den N i) := by
      intro i
      induction i using Nat.strongRecOn with
      | _ i ih =>
        intro hi ρ b
        by_cases h2 : 2 ≤ i
        · have a1 := H.good.lo_lt i h2 hi
          have a2 := H.good.hi_lt i h2 hi
          have hne : var N i ≠ v := fun e => hn ⟨_, List.mem_of_getElem? (node_at h2 hi), e⟩
          rw [den_node H.good h2 hi, den_node H.good h2 hi, upd_ne ρ b hne, ih _ a1 (by omega), ih _ a2 (by omega)]
        · have : i = 0 ∨ i = 1 := by omega
          rcases this with rfl | rfl <;> rfl
    exact key r H.root
end
end Go.Proofs.Ytengdldkkmknpaa.Dd
namespace Go.Proofs.Ytengdldkkmknpaa
open Go.RowKit
open Dd (Rn rat ofN toN checkErr den lo var Within Valid cn supp anyP cnt rf)

/-- Support, whose bit i says whether the function depends on i. -/
theorem d_supp {w : World} {V : Nat} {f : BF} {A : Option Addr} {n c r : Nat} (ha : IsD w V f A n c r) : Calls Try.prog 21 #[.agg #[.int .i64 V, .slice A n c, .int .i64 r]] w fun e w' => ∃ S : Nat, e = .returned (.int .u64 S) ∧ S < 18446744073709551616 ∧ (∀ v, S.testBit v = true ↔ ¬ Dd.Indep v f) ∧ Keep NoF w w' := by
  obtain ⟨d, e1, e2, e3, e4, e5, M, rfl, hv, hd⟩ := ha.dg
  have h := Support_any _ w e2
  rw [e1] at h
  refine h.mono fun e w' ⟨he, hk⟩ => ⟨supp M, ?_, ?_, fun v => ?_, hk⟩
  · rw [he]
    unfold suppD
    rw [if_pos e3]
    simp only [Dd.toN_ofN]
  · have := Dd.supp_lt M fun n hn => by
      obtain ⟨i, hi, rfl⟩ := List.getElem_of_mem hn
      have := hv.good.bound (i + 2) (by omega) (by omega)
      simpa [var, show ¬ i + 2 < 2 by omega, List.getD_eq_getElem?_getD, List.getElem?_eq_getElem hi] using this
    omega
  · rw [Dd.valid_supp hv, show den M r = f from funext hd]

def E5 (w : World) (f : BF) (e : Ending) (w' : World) : Prop :=
  ∃ A n c, ∃ r : Nat, e = .returned (.tuple #[.agg #[.int .i64 5, .slice A n c, .int .i64 r], .int .i64 0]) ∧ IsD w' 5 f A n c r ∧ Keep NoF w w' ∧ ∀ k, (Value.slice A n c).ownBlock = some k → w.heap.size ≤ k
theorem DPost.e5 {w : World} {f : BF} {e : Ending} {w' : World} (h : DPost w 5 f e w') : E5 w f e w' := h
section
variable {W : World} {f g h : BF} {A B C : Option Addr} {n c r n' c' r' n'' c'' r'' : Nat}
theorem s5_var (W : World) {i : Nat} (hi : i < 5) : Calls Try.prog 36 #[.int .i64 5, .int .i64 i] W (E5 W fun ρ => ρ i) := (d_var 5 i (by omega) hi W).mono fun _ _ h => h.e5
theorem s5_res {i : Nat} (hi : i < 5) (t : Bool) (ha : IsD W 5 f A n c r) : Calls Try.prog 43 #[.agg #[.int .i64 5, .slice A n c, .int .i64 r], .int .i64 i, .bool t] W (E5 W (rf i t f)) := (d_restrict hi (by omega) ha).mono fun _ _ h => h.e5
theorem s5_ite (ha : IsD W 5 f A n c r) (hb : IsD W 5 g B n' c' r') (hc : IsD W 5 h C n'' c'' r'') : Calls Try.prog 32 #[.agg #[.int .i64 5, .slice A n c, .int .i64 r], .agg #[.int .i64 5, .slice B n' c', .int .i64 r'], .agg #[.int .i64 5, .slice C n'' c'', .int .i64 r'']] W (E5 W fun ρ => if f ρ then g ρ else h ρ) := (d_ite (by omega) ha hb hc).mono fun _ _ h => h.e5
theorem s5_exp {i : Nat} (ha : IsD W 5 (fun ρ => ρ i) A n c r) (hb : IsD W 5 (rf i true f) B n' c' r') (hc : IsD W 5 (rf i false f) C n'' c'' r'') : Calls Try.prog 32 #[.agg #[.int .i64 5, .slice A n c, .int .i64 r], .agg #[.int .i64 5, .slice B n' c', .int .i64 r'], .agg #[.int .i64 5, .slice C n'' c'', .int .i64 r'']] W (E5 W f) :=
  (s5_ite ha hb hc).mono fun e w' ⟨A, n, c, r, he, hd, hk⟩ => ⟨A, n, c, r, he, hd.congr (Dd.expand i f), hk⟩
theorem s5_or (ha : IsD W 5 f A n c r) (hb : IsD W 5 g B n' c' r') : Calls Try.prog 26 #[.agg #[.int .i64 5, .slice A n c, .int .i64 r], .agg #[.int .i64 5, .slice B n' c', .int .i64 r']] W (E5 W fun ρ => f ρ || g ρ) := (d_or (by omega) ha hb).mono fun _ _ h => h.e5
theorem s5_and (ha : IsD W 5 f A n c r) (hb : IsD W 5 g B n' c' r') : Calls Try.prog 23 #[.agg #[.int .i64 5, .slice A n c, .int .i64 r], .agg #[.int .i64 5, .slice B n' c', .int .i64 r']] W (E5 W fun ρ => f ρ && g ρ) := (d_and (by omega) ha hb).mono fun _ _ h => h.e5
theorem s5_some {i : Nat} (hi : i < 5) (ha : IsD W 5 f A n c r) : Calls Try.prog 47 #[.agg #[.int .i64 5, .slice A n c, .int .i64 r], .int .u64 ((2 : Int) ^ i)] W (E5 W fun ρ => rf i false f ρ || rf i true f ρ) := by
  have e : (2 : Int) ^ i = ((2 ^ i : Nat) : Int) := by norm_cast
  rw [e]
  exact (d_exists (S := 2 ^ i) (Nat.pow_lt_pow_right (by omega) hi) (by omega) ha).mono fun e w' ⟨A, n, c, r, he, hd, hk⟩ => ⟨A, n, c, r, he, hd.congr fun ρ => by rw [Dd.qf_one]; simp, hk⟩
theorem s5_all {i : Nat} (hi : i < 5) (ha : IsD W 5 f A n c r) : Calls Try.prog 49 #[.agg #[.int .i64 5, .slice A n c, .int .i64 r], .int .u64 ((2 : Int) ^ i)] W (E5 W fun ρ => rf i false f ρ && rf i true f ρ) := by
  have e : (2 : Int) ^ i = ((2 ^ i : Nat) : Int) := by norm_cast
  rw [e]
  exact (d_forall (S := 2 ^ i) (Nat.pow_lt_pow_right (by omega) hi) (by omega) ha).mono fun e w' ⟨A, n, c, r, he, hd, hk⟩ => ⟨A, n, c, r, he, hd.congr fun ρ => by rw [Dd.qf_one]; simp, hk⟩
theorem s5_same (ha : IsD W 5 f A n c r) (hb : IsD W 5 g B n' c' r') (h : ∀ ρ, f ρ = g ρ) : Calls Try.prog 25 #[.agg #[.int .i64 5, .slice A n c, .int .i64 r], .agg #[.int .i64 5, .slice B n' c', .int .i64 r']] W fun e w' => e = .returned (.bool true) ∧ Keep NoF W w' := d_same ha hb true (by simp [h])
theorem s5_sameb (ha : IsD W 5 f A n c r) (hb : IsD W 5 g B n' c' r') (s : Bool) (h : s = true ↔ ∀ ρ, f ρ = g ρ) : Calls Try.prog 25 #[.agg #[.int .i64 5, .slice A n c, .int .i64 r], .agg #[.int .i64 5, .slice B n' c', .int .i64 r']] W fun e w' => e = .returned (.bool s) ∧ Keep NoF W w' := d_same ha hb s h
theorem s5_supp (ha : IsD W 5 f A n c r) : Calls Try.prog 21 #[.agg #[.int .i64 5, .slice A n c, .int .i64 r]] W fun e w' => ∃ S : Nat, e = .returned (.int .u64 S) ∧ S < 18446744073709551616 ∧ (∀ v, S.testBit v = true ↔ ¬ Dd.Indep v f) ∧ Keep NoF W w' := d_supp ha
end
end Go.Proofs.Ytengdldkkmknpaa
