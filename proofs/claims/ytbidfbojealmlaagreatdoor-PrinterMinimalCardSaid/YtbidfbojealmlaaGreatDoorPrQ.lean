/- What is read has names for all of its actions; it is printed, unless it is too long, plain. No condition. -/
import Derived.Test.YtbidfbojealmlaaGreatDoorPrX
set_option linter.unusedVariables false
set_option linter.unusedSimpArgs false
namespace Ps
open Fm
open Fm.Form

/-- All actions have names. -/
def AC (n : Nat) : Form → Prop
  | leaf op i _ _ => op = 17 → i < n
  | un op i _ _ x => (op = 17 → i < n) ∧ AC n x
  | bin op i _ _ x y => (op = 17 → i < n) ∧ AC n x ∧ AC n y
section
variable {S : Sig} {nA nF nC : Nat}
theorem ne17 {op : Int} {i : Int} (h : op ≠ 17) : op = 17 → i < nC := fun e => absurd e h
theorem ac_loop {op : Int} {s : W} {p : P Form} (ho : op ≠ 17) (hp : Val p (AC nC)) : ∀ n f, AC nC f → Val (loopP op s p n f) (AC nC)
  | 0, _, _ => val_out
  | n + 1, f, hf => val_bind (val_any _) fun b _ => val_if (val_bind hp fun g hg => ac_loop ho hp n _ ⟨ne17 ho, hf, hg⟩) (val_ret hf)
theorem ac_chain {op : Int} {s : W} {p : P Form} (ho : op ≠ 17) (hp : Val p (AC nC)) (n : Nat) : Val (chainP op s p n) (AC nC) := val_bind hp fun f hf => ac_loop ho hp n f hf
theorem ac_imp {p : P Form} (hp : Val p (AC nC)) : ∀ n, Val (impP p n) (AC nC)
  | 0 => val_out
  | n + 1 => val_bind hp fun f hf => val_bind (val_any _) fun b _ => val_if (val_bind (ac_imp hp n) fun g hg => val_ret ⟨ne17 (by decide), hf, hg⟩) (val_ret hf)
theorem ac_time {p : P Form} (hp : Val p (AC nC)) : ∀ n, Val (timeP p n) (AC nC)
  | 0 => val_out
  | n + 1 => val_bind hp fun f hf => val_bind (val_any _) fun b _ => val_if (val_bind (ac_time hp n) fun g hg => val_ret ⟨ne17 (by decide), hf, hg⟩)
      (val_bind (val_any _) fun b _ => val_if (val_bind (ac_time hp n) fun g hg => val_ret ⟨ne17 (by decide), hf, hg⟩) (val_ret hf))
theorem ac_fP {q : P Form} (h : Val q (AC nC)) (n : Nat) : Val (fP q n) (AC nC) :=
  ac_chain (by decide) (ac_imp (ac_time (ac_chain (by decide) (ac_chain (by decide) h n) n) n) n) n
theorem ac_body (hC : ∀ t, S.ac t < nC) {form q : P Form} (hf : Val form (AC nC)) (hq : Val q (AC nC)) (n : Nat) : ∀ k, KindOk nF k → Val (body S form q n k) (AC nC)
  | .un op, hk => val_bind hq fun f h => val_ret ⟨ne17 (by rcases hk with rfl | rfl | rfl <;> decide), h⟩
  | .leaf op i, hk => val_ret (ne17 (by rcases hk with ⟨rfl, _⟩ | ⟨rfl, _⟩ | ⟨rfl, _⟩ <;> decide) : AC nC (leaf op i 0 0))
  | .par, _ => val_bind hf fun f h => val_bind (val_any _) fun _ _ => val_ret h
  | .ag op, hk => val_bind (val_any _) fun _ _ => val_bind (val_any _) fun a _ => val_bind (val_any _) fun _ _ => val_bind hq fun f h =>
      val_ret ⟨ne17 (by rcases hk with rfl | rfl | rfl <;> decide), h⟩
  | .bel, _ => val_bind (val_any _) fun _ _ => val_bind (val_any _) fun a _ => val_bind (val_bind (val_any _) fun b _ => val_if hf (val_ret (ne17 (by decide) : AC nC (leaf 1 0 0 0)))) fun c hc => val_bind (val_any _) fun _ _ => val_bind hq fun f h =>
      val_ret ⟨ne17 (by decide), hc, h⟩
  | .gr op, hk => val_bind (val_any _) fun _ _ => val_bind (val_any _) fun g _ => val_bind (val_any _) fun _ _ => val_bind hq fun f h =>
      val_ret ⟨ne17 (by rcases hk with rfl | rfl <;> decide), h⟩
  | .com, _ => val_bind (val_any _) fun _ _ => val_bind (val_any _) fun g _ => val_bind (val_bind (val_any _) fun b _ => val_if hf (val_ret (ne17 (by decide) : AC nC (leaf 1 0 0 0)))) fun c hc => val_bind (val_any _) fun _ _ => val_bind hq fun f h =>
      val_ret ⟨ne17 (by decide), hc, h⟩
  | .dyn, _ => val_bind (val_any _) fun b _ => val_if (val_bind hf fun f h => val_bind (val_any _) fun _ _ => val_bind hq fun g h' => val_ret ⟨ne17 (by decide), h, h'⟩)
      (val_bind (val_name hC) fun i hi => val_bind (val_any _) fun _ _ => val_bind (val_any _) fun e _ => val_bind (val_any _) fun _ _ => val_bind hq fun f h => val_ret ⟨fun _ => by exact_mod_cast hi, h⟩)
theorem ac_pref (B : Bd S nA nF) (hC : ∀ t, S.ac t < nC) : ∀ n, Val (prefP S n) (AC nC)
  | 0 => val_out
  | n + 1 => fun ts a r e => by
    have e' : operP S (fP (prefP S n) n) (prefP S n) n ts = .ok a r := e
    unfold operP at e'
    cases ts with
    | nil => cases e'
    | cons t r1 =>
      cases hk : kindE S t with
      | ok k => rw [byTok_ok (p := body S (fP (prefP S n) n) (prefP S n) n k) (by simp only [hk])] at e'; exact ac_body hC (ac_fP (ac_pref B hC n) n) (ac_pref B hC n) n k (kindE_ok B hk) r1 a r e'
      | error x => rw [byTok_err (e := x) (by simp only [hk])] at e'; cases e'
theorem ac_form (B : Bd S nA nF) (hC : ∀ t, S.ac t < nC) (n : Nat) : Val (formP S n) (AC nC) := ac_fP (ac_pref B hC n) n
end
end Ps
namespace Go.Proofs.YtbidfbojealmlaaGreatDoor
open Go.RowKit
open Fm (Nd own usesX usesY usesAgent usesFact usesGroup usesEvent put ins cl checkE compactL tr)
open Fm.Form

theorem ac_ins {n : Nat} : ∀ {t : Fm.Form} {o : List Nd}, Ps.AC n t → (∀ m ∈ o, m.op = 17 → m.i < n) → ∀ m ∈ (ins t o).2, m.op = 17 → m.i < n
  | leaf .., o, h, ho => ac_put ho h
  | un .., o, h, ho => ac_put (ac_ins h.2 ho) h.1
  | bin .., o, h, ho => ac_put (ac_ins h.2.2 (ac_ins h.2.1 ho)) h.1
where
  ac_put {n : Nat} {m : Nd} {o : List Nd} (ho : ∀ m ∈ o, m.op = 17 → m.i < n) (h : m.op = 17 → m.i < n) : ∀ k ∈ (put m o).2, k.op = 17 → k.i < n := by
    unfold put
    split
    · exact ho
    · intro k hk
      rcases List.mem_append.1 hk with hk | hk
      · exact ho k hk
      · rw [List.mem_singleton.1 hk]; exact h
theorem bd7_S {S : Sg} (h0 : checkS S = 0) : Ps.Bd (sigP S) S.A.length S.F.length ∧ ∀ t, (sigP S).ac t < (S.C.length : Int) := by
  have hk := checkS_ok h0
  have h : ∀ (l : List ByteArray) (m : Nat), l.length ≤ m → ∀ t, findS S l t < (m : Int) := fun l m hl t => by
    rw [findS_ok h0]
    rcases idx_cases l t with ⟨h, _⟩ | ⟨k, h, hk, _⟩ <;> rw [h] <;> omega
  exact ⟨⟨hk.lA, hk.lF, h S.A _ (Nat.le_refl _), h S.F _ (Nat.le_refl _), h S.C 8 hk.lC⟩, h S.C _ (Nat.le_refl _)⟩
/-- What is read: a formula of the signature. -/
theorem parse_form (S : Sg) (t : ByteArray) : (∃ l p x, parseF S t = (l, p, x) ∧ x ≠ 0 ∧ l = []) ∨
    ∃ f, parseF S t = (cl f, 0, 0) ∧ checkS S = 0 ∧ (cl f).length ≤ 200 ∧ checkE (cl f) = 0 ∧ tr (cl f) = f ∧ okN S (cl f) = true ∧ ∃ cs, tokF t = .ok cs ∧ Ps.whole (sigP S) (tW cs) = .ok f [] := by
  by_cases hc : checkS S = 0
  · cases h : tokF t with
    | error px =>
      obtain ⟨p, x⟩ := px
      refine .inl ⟨[], p, x, by unfold parseF; rw [if_neg (by rw [hc]; simp), h], ?_, rfl⟩
      unfold tokF at h
      by_cases hs : 4000 < t.size
      · rw [if_pos hs] at h; cases h; decide
      · rw [if_neg hs] at h
        cases ht : tokens t.data.toList 0 with
        | error p => rw [ht] at h; cases h; decide
        | ok cs' => rw [ht] at h; cases h
    | ok cs =>
      have hp : parseF S t = if (readF (sigP S) (tW cs)).2.2 = 0 then ((readF (sigP S) (tW cs)).1, 0, 0) else ([], (placeF t cs (readF (sigP S) (tW cs)).2.1 : Int), ((readF (sigP S) (tW cs)).2.2 : Int)) := by
        unfold parseF
        rw [if_neg (by rw [hc]; simp), h]
      rw [hp]
      by_cases h0 : (readF (sigP S) (tW cs)).2.2 = 0
      · rw [if_pos h0]
        cases hw : Ps.whole (sigP S) (tW cs) with
        | bad r e =>
          unfold readF at h0
          rw [hw] at h0
          exact absurd h0 (Ps.whole_err hw).1
        | ok f r =>
          have hr : readF (sigP S) (tW cs) = if 200 < (cl f).length then ([], (tW cs).length, 8) else (cl f, 0, 0) := by
            unfold readF
            rw [hw]
          by_cases hl : 200 < (cl f).length
          · rw [hr, if_pos hl] at h0; cases h0
          · rw [if_neg hl] at hr
            have hl' : (cl f).length ≤ 200 := by omega
            obtain ⟨B, hC⟩ := bd7_S hc
            have hfm := (Ps.whole_ok hw).1
            have hv := Ps.val_form B _ _ _ _ hfm
            have ha := Ps.ac_form B hC _ _ _ _ hfm
            have hg := hv.good
            have hce := Fm.cl_check hg hl'
            have hco : compactL (cl f) = cl f := by rw [Fm.compactL_ok hce, Fm.tr_cl hg.fit]
            refine .inr ⟨f, by rw [hr], hc, hl', hce, Fm.tr_cl hg.fit, ?_, cs, rfl, by rw [hw, (Ps.whole_ok hw).2]⟩
            have hq := cl_q hv
            unfold okN fitsB actsB
            rw [hco]
            simp only [Bool.and_eq_true, decide_eq_true_eq, List.all_eq_true, Bool.not_eq_true', Bool.and_eq_false_iff, decide_eq_false_iff_not]
            refine ⟨⟨hce, orA_lt.2 fun n hn => (q_masks (hq n hn)).1, orF_lt.2 fun n hn => (q_masks (x := n.x) (y := n.y) (hq n hn)).2⟩, fun n hn => ?_⟩
            by_cases h17 : n.op = 17
            · have := ac_ins ha (fun m hm => by simp at hm) n hn h17
              exact .inr (by omega)
            · exact .inl h17
      · refine .inl ⟨[], _, _, if_neg h0, ?_, rfl⟩
        omega
  · refine .inl ⟨[], 0, _, by unfold parseF; rw [if_pos hc], ?_, rfl⟩
    omega
/-- What is read is printed, unless it is too long, and is read again. -/
theorem texts_law (S : Sg) (t : ByteArray) : (∃ l p x, parseF S t = (l, p, x) ∧ x ≠ 0) ∨
    ∃ l s, parseF S t = (l, 0, 0) ∧ l.length ≤ 200 ∧ s.length ≤ 4000 ∧ (printF S l = (s, 8) ∨ (printF S l = (s, 0) ∧ parseF S (txt s) = (l, 0, 0))) ∧ sameB l l = true := by
  rcases parse_form S t with ⟨l, p, x, h, hx, _⟩ | ⟨f, h1, hc, hl, hce, htr, hok, -⟩
  · exact .inl ⟨l, p, x, h, hx⟩
  · have hpr : printF S (cl f) = if 4000 < (prL S f).length then ([], 8) else (prL S f, 0) := by
      unfold printF
      rw [if_neg (by rw [hc]; simp), if_neg (by rw [hce]; simp), if_neg (by rw [hok]; simp), htr]
    have hsb : sameB (cl f) (cl f) = true := by unfold sameB; rw [hce]; simp
    by_cases hb : 4000 < (prL S f).length
    · rw [if_pos hb] at hpr
      exact .inr ⟨cl f, [], h1, hl, Nat.zero_le _, .inl hpr, hsb⟩
    · rw [if_neg hb] at hpr
      refine .inr ⟨cl f, prL S f, h1, hl, by omega, .inr ⟨hpr, ?_⟩, hsb⟩
      have := print_parse hpr
      rwa [Fm.compactL_ok hce, htr] at this
end Go.Proofs.YtbidfbojealmlaaGreatDoor
