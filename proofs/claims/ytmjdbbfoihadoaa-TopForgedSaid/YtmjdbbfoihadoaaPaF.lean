/- The grammar as a parser of tokens: what is read is right and in the signature. Plain. -/
import Derived.Test.YtmjdbbfoihadoaaPaE
set_option linter.unusedVariables false
set_option linter.unusedSimpArgs false
namespace Ps
open Fm
open Fm.Form

/-- A node's own fields are right, and in the signature. -/
def Q (nA nF : Nat) (op i e g : Int) : Prop := own op i e g = true ∧ (usesAgent op = true → i < nA) ∧ (usesFact op = true → i < nF) ∧ (usesGroup op = true → g < 2 ^ nA)
def TG (nA nF : Nat) : Form → Prop
  | leaf op i e g => usesX op = false ∧ Q nA nF op i e g
  | un op i e g x => usesX op = true ∧ usesY op = false ∧ Q nA nF op i e g ∧ TG nA nF x
  | bin op i e g x y => usesY op = true ∧ Q nA nF op i e g ∧ TG nA nF x ∧ TG nA nF y
theorem TG.good {nA nF : Nat} : ∀ {t : Form}, TG nA nF t → Good t
  | leaf .., h => ⟨h.1, h.2.1⟩
  | un .., h => ⟨h.1, h.2.1, h.2.2.1.1, TG.good h.2.2.2⟩
  | bin .., h => ⟨h.1, h.2.1.1, TG.good h.2.2.1, TG.good h.2.2.2⟩
/-- The bounds of what finds names. -/
structure Bd (S : Sig) (nA nF : Nat) : Prop where
  la : nA ≤ 4
  lf : nF ≤ 8
  ag : ∀ t, S.ag t < nA
  fa : ∀ t, S.fa t < nF
  ac : ∀ t, S.ac t < 8
section
variable {α β : Type}
def Val (p : P α) (R : α → Prop) : Prop := ∀ ts a r, p ts = .ok a r → R a
theorem val_ret {a : α} {R : α → Prop} (h : R a) : Val (ret a) R := fun ts b r e => by cases e; exact h
theorem val_out {R : α → Prop} : Val out R := fun ts b r e => by cases e
theorem val_bind {p : P α} {f : α → P β} {R : α → Prop} {R' : β → Prop} (h : Val p R) (hf : ∀ a, R a → Val (f a) R') : Val (bind p f) R' := fun ts b r e => by
  unfold bind at e
  cases h1 : p ts with
  | ok a r1 => rw [h1] at e; exact hf a (h ts a r1 h1) r1 b r e
  | bad r1 x => rw [h1] at e; cases e
theorem val_any (p : P α) : Val p fun _ => True := fun _ _ _ _ => trivial
theorem val_tok {g : W → Except Nat α} {R : α → Prop} (h : ∀ t i, g t = .ok i → R i) : Val (tok g) R := fun ts a r e => by
  cases ts with
  | nil => cases e
  | cons t r1 =>
    cases hg : g t with
    | ok i => rw [tok_ok hg] at e; cases e; exact h t _ hg
    | error x => rw [tok_err hg] at e; cases e
theorem val_if {b : Bool} {p q : P α} {R : α → Prop} (hp : Val p R) (hq : Val q R) : Val (if b = true then p else q) R := by split <;> assumption
end
theorem nameE_lt {find : W → Int} {m : Nat} (h : ∀ t, find t < m) {t : W} {i : Nat} (e : nameE find t = .ok i) : i < m := by
  unfold nameE at e
  split at e
  · cases e
  · split at e
    · cases e
    · have := h t
      cases e
      omega
theorem memE_lt {find : W → Int} {m : Nat} (h : ∀ t, find t < m) {g : Nat} {t : W} {i : Nat} (e : memE find g t = .ok i) : i < m := by
  unfold memE at e
  cases hn : nameE find t with
  | ok a =>
    rw [hn] at e
    simp only at e
    split at e
    · cases e
    · cases e; exact nameE_lt h hn
  | error x => rw [hn] at e; cases e
theorem numE_lt {t : W} {i : Nat} (e : numE t = .ok i) : i < 8 := by
  unfold numE at e
  split at e
  · cases e
  · split at e
    · cases e
    · cases e; omega
section
variable {S : Sig} {nA nF : Nat}
theorem val_name {find : W → Int} {m : Nat} (h : ∀ t, find t < m) : Val (name find) (· < m) := val_tok fun t i e => nameE_lt h e
theorem val_group {find : W → Int} {m : Nat} (h : ∀ t, find t < m) : ∀ (n g : Nat), g < 2 ^ m → Val (groupP find n g) fun g => 0 < g ∧ g < 2 ^ m
  | 0, g, _ => val_out
  | n + 1, g, hg => val_bind (val_tok fun t i e => memE_lt h e) fun a ha => by
    have h1 : g ||| 2 ^ a < 2 ^ m := Nat.or_lt_two_pow hg (Nat.pow_lt_pow_right (by omega) ha)
    have h2 : 0 < g ||| 2 ^ a := Nat.lt_of_lt_of_le (Nat.two_pow_pos a) Nat.right_le_or
    exact val_bind (val_any _) fun b _ => val_if (val_group h n _ h1) (val_ret ⟨h2, h1⟩)
theorem own_plain {op : Int} (h : own op 0 0 0 = true) (hg : usesGroup op = false) (ha : usesAgent op = false) (hf : usesFact op = false) : Q nA nF op 0 0 0 := ⟨h, by rw [ha]; simp, by rw [hf]; simp, by rw [hg]; simp⟩
theorem q_plain {op : Int} (h : op = 1 ∨ op = 2 ∨ op = 4 ∨ op = 5 ∨ op = 6 ∨ op = 7 ∨ op = 8 ∨ op = 16 ∨ op = 18 ∨ op = 19 ∨ op = 20 ∨ op = 21) : Q nA nF op 0 0 0 := by
  rcases h with rfl | rfl | rfl | rfl | rfl | rfl | rfl | rfl | rfl | rfl | rfl | rfl <;> exact own_plain (by decide) (by decide) (by decide) (by decide)
theorem q_agent (B : Bd S nA nF) {op : Int} (h : op = 9 ∨ op = 10 ∨ op = 14 ∨ op = 15) {a : Nat} (ha : a < nA) : Q nA nF op a 0 0 := by
  have := B.la
  have h1 : usesFact op = false := by rcases h with rfl | rfl | rfl | rfl <;> decide
  have h2 : usesGroup op = false := by rcases h with rfl | rfl | rfl | rfl <;> decide
  refine ⟨?_, fun _ => by omega, by rw [h1]; simp, by rw [h2]; simp⟩
  have h4 : a = 0 ∨ a = 1 ∨ a = 2 ∨ a = 3 := by omega
  rcases h with rfl | rfl | rfl | rfl <;> rcases h4 with rfl | rfl | rfl | rfl <;> decide
theorem q_group (B : Bd S nA nF) {op : Int} (h : op = 11 ∨ op = 12 ∨ op = 13) {g : Nat} (h0 : 0 < g) (hg : g < 2 ^ nA) : Q nA nF op 0 0 g := by
  have h1 : usesFact op = false := by rcases h with rfl | rfl | rfl <;> decide
  have h2 : usesAgent op = false := by rcases h with rfl | rfl | rfl <;> decide
  have h3 : usesEvent op = false := by rcases h with rfl | rfl | rfl <;> decide
  have h4 : usesGroup op = true := by rcases h with rfl | rfl | rfl <;> decide
  have h5 : isOp op = true := by rcases h with rfl | rfl | rfl <;> decide
  have hle : 2 ^ nA ≤ 2 ^ 4 := Nat.pow_le_pow_right (by omega) B.la
  refine ⟨?_, by rw [h2]; simp, by rw [h1]; simp, fun _ => by exact_mod_cast hg⟩
  simp [own, zeroed, ranged, within, h1, h2, h3, h4, h5]
  omega
theorem q_fact (B : Bd S nA nF) {i : Nat} (h : i < nF) : Q nA nF 3 i 0 0 := by
  have := B.lf
  refine ⟨?_, by simp [usesAgent], fun _ => by omega, by simp [usesGroup]⟩
  simp [own, isOp, zeroed, ranged, within, usesFact, usesAgent, usesEvent, usesGroup]
  omega
theorem q_act {i e : Nat} (h : i < 8) (h' : e < 8) : Q nA nF 17 i e 0 := by
  refine ⟨?_, by simp [usesAgent], by simp [usesFact], by simp [usesGroup]⟩
  simp [own, isOp, zeroed, ranged, within, usesFact, usesAgent, usesEvent, usesGroup]
  omega
theorem val_loop {op : Int} {s : W} {p : P Form} (hy : usesY op = true) (ho : Q nA nF op 0 0 0) (hp : Val p (TG nA nF)) : ∀ n f, TG nA nF f → Val (loopP op s p n f) (TG nA nF)
  | 0, _, _ => val_out
  | n + 1, f, hf => val_bind (val_any _) fun b _ => val_if (val_bind hp fun g hg => val_loop hy ho hp n _ ⟨hy, ho, hf, hg⟩) (val_ret hf)
theorem val_chain {op : Int} {s : W} {p : P Form} (hy : usesY op = true) (ho : Q nA nF op 0 0 0) (hp : Val p (TG nA nF)) (n : Nat) : Val (chainP op s p n) (TG nA nF) := val_bind hp fun f hf => val_loop hy ho hp n f hf
theorem val_imp {p : P Form} (hp : Val p (TG nA nF)) : ∀ n, Val (impP p n) (TG nA nF)
  | 0 => val_out
  | n + 1 => val_bind hp fun f hf => val_bind (val_any _) fun b _ => val_if (val_bind (val_imp hp n) fun g hg => val_ret ⟨by decide, q_plain (by decide), hf, hg⟩) (val_ret hf)
theorem val_time {p : P Form} (hp : Val p (TG nA nF)) : ∀ n, Val (timeP p n) (TG nA nF)
  | 0 => val_out
  | n + 1 => val_bind hp fun f hf => val_bind (val_any _) fun b _ => val_if (val_bind (val_time hp n) fun g hg => val_ret ⟨by decide, q_plain (by decide), hf, hg⟩)
      (val_bind (val_any _) fun b _ => val_if (val_bind (val_time hp n) fun g hg => val_ret ⟨by decide, q_plain (by decide), hf, hg⟩) (val_ret hf))
theorem val_fP {q : P Form} (h : Val q (TG nA nF)) (n : Nat) : Val (fP q n) (TG nA nF) :=
  val_chain (by decide) (q_plain (by decide)) (val_imp (val_time (val_chain (by decide) (q_plain (by decide)) (val_chain (by decide) (q_plain (by decide)) h n) n) n) n) n
/-- The announced kinds. -/
def KindOk (nF : Nat) : Kind → Prop
  | .un op => op = 4 ∨ op = 18 ∨ op = 20
  | .leaf op i => (op = 1 ∧ i = 0) ∨ (op = 2 ∧ i = 0) ∨ (op = 3 ∧ i < nF)
  | .ag op => op = 9 ∨ op = 10 ∨ op = 15
  | .gr op => op = 11 ∨ op = 12
  | _ => True
theorem if_case {α : Type} {c : Prop} [Decidable c] {a b r : α} (h : (if c then a else b) = r) : (c ∧ a = r) ∨ (¬ c ∧ b = r) := by
  by_cases hc : c
  · rw [if_pos hc] at h; exact .inl ⟨hc, h⟩
  · rw [if_neg hc] at h; exact .inr ⟨hc, h⟩
theorem kindE_ok (B : Bd S nA nF) {t : W} {k : Kind} (h : kindE S t = .ok k) : KindOk nF k := by
  unfold kindE at h
  rcases if_case h with ⟨_, e⟩ | ⟨_, h⟩
  · cases e; simp [KindOk]
  rcases if_case h with ⟨_, e⟩ | ⟨_, h⟩
  · cases e; simp [KindOk]
  rcases if_case h with ⟨_, e⟩ | ⟨_, h⟩
  · cases e; simp [KindOk]
  rcases if_case h with ⟨_, e⟩ | ⟨_, h⟩
  · cases e; simp [KindOk]
  rcases if_case h with ⟨_, e⟩ | ⟨_, h⟩
  · cases e; simp [KindOk]
  rcases if_case h with ⟨_, e⟩ | ⟨_, h⟩
  · cases e; simp [KindOk]
  rcases if_case h with ⟨_, e⟩ | ⟨_, h⟩
  · cases e; simp [KindOk]
  rcases if_case h with ⟨_, e⟩ | ⟨_, h⟩
  · cases e; simp [KindOk]
  rcases if_case h with ⟨_, e⟩ | ⟨_, h⟩
  · cases e; simp [KindOk]
  rcases if_case h with ⟨_, e⟩ | ⟨_, h⟩
  · cases e; simp [KindOk]
  rcases if_case h with ⟨_, e⟩ | ⟨_, h⟩
  · cases e; simp [KindOk]
  rcases if_case h with ⟨_, e⟩ | ⟨_, h⟩
  · cases e; simp [KindOk]
  rcases if_case h with ⟨_, e⟩ | ⟨_, h⟩
  · cases e; simp [KindOk]
  rcases if_case h with ⟨_, e⟩ | ⟨_, h⟩
  · cases e; simp [KindOk]
  cases hn : nameE S.fa t with
  | ok i => rw [hn] at h; cases h; exact .inr (.inr ⟨rfl, nameE_lt B.fa hn⟩)
  | error e => rw [hn] at h; cases h
theorem val_body (B : Bd S nA nF) {form q : P Form} (hf : Val form (TG nA nF)) (hq : Val q (TG nA nF)) (n : Nat) : ∀ k, KindOk nF k → Val (body S form q n k) (TG nA nF)
  | .un op, hk => val_bind hq fun f h => val_ret ⟨by rcases hk with rfl | rfl | rfl <;> decide, by rcases hk with rfl | rfl | rfl <;> decide, q_plain (by rcases hk with rfl | rfl | rfl <;> decide), h⟩
  | .leaf op i, hk => val_ret (by
    rcases hk with ⟨rfl, rfl⟩ | ⟨rfl, rfl⟩ | ⟨rfl, hi⟩
    · exact ⟨by decide, q_plain (by decide)⟩
    · exact ⟨by decide, q_plain (by decide)⟩
    · exact ⟨by decide, q_fact B hi⟩)
  | .par, _ => val_bind hf fun f h => val_bind (val_any _) fun _ _ => val_ret h
  | .ag op, hk => val_bind (val_any _) fun _ _ => val_bind (val_name B.ag) fun a ha => val_bind (val_any _) fun _ _ => val_bind hq fun f h =>
      val_ret ⟨by rcases hk with rfl | rfl | rfl <;> decide, by rcases hk with rfl | rfl | rfl <;> decide, q_agent B (by rcases hk with rfl | rfl | rfl <;> decide) ha, h⟩
  | .bel, _ => val_bind (val_any _) fun _ _ => val_bind (val_name B.ag) fun a ha => val_bind (val_bind (val_any _) fun b _ => val_if hf (val_ret ⟨by decide, q_plain (by decide)⟩)) fun c hc => val_bind (val_any _) fun _ _ => val_bind hq fun f h =>
      val_ret ⟨by decide, q_agent B (by decide) ha, hc, h⟩
  | .gr op, hk => val_bind (val_any _) fun _ _ => val_bind (val_group B.ag n 0 (Nat.two_pow_pos _)) fun g hg => val_bind (val_any _) fun _ _ => val_bind hq fun f h =>
      val_ret ⟨by rcases hk with rfl | rfl <;> decide, by rcases hk with rfl | rfl <;> decide, q_group B (by rcases hk with rfl | rfl <;> decide) hg.1 hg.2, h⟩
  | .com, _ => val_bind (val_any _) fun _ _ => val_bind (val_group B.ag n 0 (Nat.two_pow_pos _)) fun g hg => val_bind (val_bind (val_any _) fun b _ => val_if hf (val_ret ⟨by decide, q_plain (by decide)⟩)) fun c hc => val_bind (val_any _) fun _ _ => val_bind hq fun f h =>
      val_ret ⟨by decide, q_group B (by decide) hg.1 hg.2, hc, h⟩
  | .dyn, _ => val_bind (val_any _) fun b _ => val_if (val_bind hf fun f h => val_bind (val_any _) fun _ _ => val_bind hq fun g h' => val_ret ⟨by decide, q_plain (by decide), h, h'⟩)
      (val_bind (val_name B.ac) fun i hi => val_bind (val_any _) fun _ _ => val_bind (val_tok fun t i e => numE_lt e) fun e he => val_bind (val_any _) fun _ _ => val_bind hq fun f h => val_ret ⟨by decide, by decide, q_act hi he, h⟩)
theorem val_pref (B : Bd S nA nF) : ∀ n, Val (prefP S n) (TG nA nF)
  | 0 => val_out
  | n + 1 => fun ts a r e => by
    have e' : operP S (fP (prefP S n) n) (prefP S n) n ts = .ok a r := e
    unfold operP at e'
    cases ts with
    | nil => cases e'
    | cons t r1 =>
      cases hk : kindE S t with
      | ok k => rw [byTok_ok (p := body S (fP (prefP S n) n) (prefP S n) n k) (by simp only [hk])] at e'; exact val_body B (val_fP (val_pref B n) n) (val_pref B n) n k (kindE_ok B hk) r1 a r e'
      | error x => rw [byTok_err (e := x) (by simp only [hk])] at e'; cases e'
theorem val_form (B : Bd S nA nF) (n : Nat) : Val (formP S n) (TG nA nF) := val_fP (val_pref B n) n
end
end Ps
