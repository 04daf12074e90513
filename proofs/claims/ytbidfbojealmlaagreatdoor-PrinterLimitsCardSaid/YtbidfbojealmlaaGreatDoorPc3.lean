/- What texts that are put together are read as, plain. No condition. -/
import Derived.Test.YtbidfbojealmlaaGreatDoorPaU
set_option linter.unusedVariables false
set_option linter.unusedSimpArgs false
namespace Ps
open Fm (Form cl Good)
open Fm.Form

section
variable {S : Sig}
theorem form_fuel {n m : Nat} {ts : List W} (h1 : ts.length < n) (h2 : ts.length < m) : formP S n ts = formP S m ts := same_form S (k := ts.length + 1) h1 h2 ts (Nat.lt_succ_self _)
theorem pref_fuel {n m : Nat} {ts : List W} (h1 : ts.length < n) (h2 : ts.length < m) : prefP S n ts = prefP S m ts := same_pref S n m (ts.length + 1) h1 h2 ts (Nat.lt_succ_self _)
theorem nop_nil : nop [] := fun t r e => by cases e
theorem nop_R (r : List W) : nop (wR :: r) := fun t r e => by cases e; decide
theorem form_end {n : Nat} {ws vs : List W} {t : Form} (h : formP S n ws = .ok t []) : formP S n (ws ++ wR :: vs) = .ok t (wR :: vs) := by
  have h' : formP S n (ws ++ []) = .ok t [] := by rw [List.append_nil]; exact h
  obtain ⟨q, hq, e⟩ := (fine_form S n).loc.okv (vs := wR :: vs) h' (.inr ⟨rfl, nop_nil, nop_R vs⟩)
  have : q = [] := by simpa using hq.symm
  subst this
  exact e
theorem want_yes' (s : W) (r : List W) : want s (s :: r) = .ok () r := tok_ok (by rw [if_pos rfl]) r
/-- Parentheses. -/
theorem pref_paren {n : Nat} {ws vs : List W} {t : Form} (h : formP S n ws = .ok t []) : prefP S (n + 1) (wL :: (ws ++ wR :: vs)) = .ok t vs := by
  show operP S (formP S n) (prefP S n) n (wL :: (ws ++ wR :: vs)) = _
  unfold operP
  rw [byTok_ok (p := body S (formP S n) (prefP S n) n .par) (by rw [show kindE S wL = .ok .par from rfl])]
  show parP (formP S n) (ws ++ wR :: vs) = _
  simp only [parP, bind, form_end h, want_yes', ret]
section
variable {p q : P Form} {ts r : List W} {t : Form} {n : Nat}
theorem take_not' {s : W} {r : List W} (hw : ∀ r', r ≠ s :: r') : take s r = .ok false r := by
  cases r with
  | nil => rfl
  | cons y r => exact take_no (fun e => hw r (by rw [e])) r
theorem chain_pass {op : Int} {s : W} (h : p ts = .ok t r) (hw : ∀ r', r ≠ s :: r') : chainP op s p (n + 1) ts = .ok t r := by
  simp only [chainP, bind, h, loopP, take_not' hw, Bool.false_eq_true, if_false, ret]
theorem chain_one {op : Int} {s : W} {u : Form} {r' : List W} (h : p ts = .ok t (s :: r)) (h2 : p r = .ok u r') (hw : ∀ x, r' ≠ s :: x) : chainP op s p (n + 2) ts = .ok (bin op 0 0 0 t u) r' := by
  simp only [chainP, bind, h, loopP, take_yes, if_true, h2, take_not' hw, Bool.false_eq_true, if_false, ret]
theorem time_pass (h : p ts = .ok t r) (h1 : ∀ r', r ≠ wUntil :: r') (h2 : ∀ r', r ≠ wSince :: r') : timeP p (n + 1) ts = .ok t r := by
  simp only [timeP, bind, h, take_not' h1, take_not' h2, Bool.false_eq_true, if_false, ret]
theorem imp_pass (h : p ts = .ok t r) (h1 : ∀ r', r ≠ wImp :: r') : impP p (n + 1) ts = .ok t r := by
  simp only [impP, bind, h, take_not' h1, Bool.false_eq_true, if_false, ret]
theorem imp_one {u : Form} {r' : List W} (h : p ts = .ok t (wImp :: r)) (h2 : impP p n r = .ok u r') : impP p (n + 1) ts = .ok (bin 7 0 0 0 t u) r' := by
  simp only [impP, bind, h, take_yes, if_true, h2, ret]
theorem time_until {u : Form} {r' : List W} (h : p ts = .ok t (wUntil :: r)) (h2 : timeP p n r = .ok u r') : timeP p (n + 1) ts = .ok (bin 19 0 0 0 t u) r' := by
  simp only [timeP, bind, h, take_yes, if_true, h2, ret]
theorem time_since {u : Form} {r' : List W} (h : p ts = .ok t (wSince :: r)) (h2 : timeP p n r = .ok u r') : timeP p (n + 1) ts = .ok (bin 21 0 0 0 t u) r' := by
  have : take wUntil (wSince :: r) = .ok false (wSince :: r) := take_no (by decide) r
  simp only [timeP, bind, h, this, take_yes, if_true, h2, ret, Bool.false_eq_true, if_false]
/-- No operator behind it. -/
def stopR (r : List W) : Prop := ∀ t r', r = t :: r' → t ∉ [wAnd, wOr, wUntil, wSince, wImp, wIff]
theorem stop_ne {s : W} (h : stopR r) (hs : s ∈ [wAnd, wOr, wUntil, wSince, wImp, wIff]) : ∀ r', r ≠ s :: r' := fun r' e => h s r' e hs
theorem stop_nil : stopR [] := fun t r e => by cases e
theorem and_p (h : q ts = .ok t r) (hr : stopR r) : andP q (n + 1) ts = .ok t r := chain_pass h (stop_ne hr (by decide))
theorem or_p (h : q ts = .ok t r) (hr : stopR r) : orP q (n + 1) ts = .ok t r := chain_pass (and_p h hr) (stop_ne hr (by decide))
theorem t_p (h : q ts = .ok t r) (hr : stopR r) : tP q (n + 1) ts = .ok t r := time_pass (or_p h hr) (stop_ne hr (by decide)) (stop_ne hr (by decide))
theorem i_p (h : q ts = .ok t r) (hr : stopR r) : iP q (n + 1) ts = .ok t r := imp_pass (t_p h hr) (stop_ne hr (by decide))
theorem f_p (h : q ts = .ok t r) (hr : stopR r) : fP q (n + 1) ts = .ok t r := chain_pass (i_p h hr) (stop_ne hr (by decide))
/-- The operators with two operands, and their signs. -/
def opOf (k : Nat) : Int := if k = 0 then 5 else if k = 1 then 6 else if k = 2 then 7 else if k = 3 then 8 else if k = 4 then 19 else 21
def signOf (k : Nat) : W := if k = 0 then wAnd else if k = 1 then wOr else if k = 2 then wImp else if k = 3 then wIff else if k = 4 then wUntil else wSince
theorem f_join {k : Nat} (hk : k < 6) {u : Form} (h : q ts = .ok t (signOf k :: r)) (h2 : q r = .ok u []) : fP q (n + 2) ts = .ok (bin (opOf k) 0 0 0 t u) [] := by
  have e : ∀ {s s' : W}, s ≠ s' → ∀ {x : List W} (r' : List W), s :: x ≠ s' :: r' := fun hne x r' he => hne (List.cons.inj he).1
  have e0 : ∀ {s : W} (r' : List W), ([] : List W) ≠ s :: r' := fun r' he => by cases he
  have hk6 : k = 0 ∨ k = 1 ∨ k = 2 ∨ k = 3 ∨ k = 4 ∨ k = 5 := by omega
  rcases hk6 with rfl | rfl | rfl | rfl | rfl | rfl
  · have h1 : andP q (n + 2) ts = .ok (bin 5 0 0 0 t u) [] := chain_one h h2 e0
    exact chain_pass (imp_pass (time_pass (chain_pass h1 e0) e0 e0) e0) e0
  · have h1 : andP q (n + 2) ts = .ok t (wOr :: r) := chain_pass h (e (by decide))
    have h3 : orP q (n + 2) ts = .ok (bin 6 0 0 0 t u) [] := chain_one h1 (and_p h2 stop_nil) e0
    exact chain_pass (imp_pass (time_pass h3 e0 e0) e0) e0
  · have h1 : tP q (n + 2) ts = .ok t (wImp :: r) := time_pass (chain_pass (chain_pass h (e (by decide))) (e (by decide))) (e (by decide)) (e (by decide))
    have h2' : impP (tP q (n + 2)) (n + 1) r = .ok u [] := imp_pass (t_p h2 stop_nil) e0
    exact chain_pass (imp_one h1 h2') e0
  · have h1 : iP q (n + 2) ts = .ok t (wIff :: r) := imp_pass (time_pass (chain_pass (chain_pass h (e (by decide))) (e (by decide))) (e (by decide)) (e (by decide))) (e (by decide))
    exact chain_one h1 (i_p h2 stop_nil) e0
  · have h1 : orP q (n + 2) ts = .ok t (wUntil :: r) := chain_pass (chain_pass h (e (by decide))) (e (by decide))
    have h2' : timeP (orP q (n + 2)) (n + 1) r = .ok u [] := time_pass (or_p h2 stop_nil) e0 e0
    exact chain_pass (imp_pass (time_until h1 h2') e0) e0
  · have h1 : orP q (n + 2) ts = .ok t (wSince :: r) := chain_pass (chain_pass h (e (by decide))) (e (by decide))
    have h2' : timeP (orP q (n + 2)) (n + 1) r = .ok u [] := time_pass (or_p h2 stop_nil) e0 e0
    exact chain_pass (imp_pass (time_since h1 h2') e0) e0
end
theorem whole_ok {ws : List W} {t : Form} {r : List W} (h : whole S ws = .ok t r) : formP S (ws.length + 1) ws = .ok t [] ∧ r = [] := by
  unfold whole at h
  cases hf : formP S (ws.length + 1) ws with
  | bad r x => rw [hf] at h; cases h
  | ok t' r' =>
    rw [hf] at h
    cases r' with
    | cons y r' => cases h
    | nil => cases h; exact ⟨rfl, rfl⟩
theorem whole_of {ws : List W} {t : Form} {n : Nat} (hn : ws.length < n) (h : formP S n ws = .ok t []) : whole S ws = .ok t [] := by
  unfold whole
  rw [form_fuel (n := ws.length + 1) (m := n) (by omega) hn, h]
theorem whole_paren {ws : List W} {t : Form} {r : List W} (h : whole S ws = .ok t r) : whole S (wL :: (ws ++ [wR])) = .ok t [] := by
  obtain ⟨h1, _⟩ := whole_ok h
  have h2 : formP S (ws.length + 3) ws = .ok t [] := by rw [form_fuel (m := ws.length + 1) (by omega) (by omega)]; exact h1
  exact whole_of (n := ws.length + 4) (by simp) (f_p (n := ws.length + 3) (pref_paren h2) stop_nil)
theorem whole_join {k : Nat} (hk : k < 6) {asx bsx : List W} {t u : Form} {r r' : List W} (h : whole S asx = .ok t r) (h' : whole S bsx = .ok u r') :
    whole S (wL :: (asx ++ wR :: signOf k :: wL :: (bsx ++ [wR]))) = .ok (bin (opOf k) 0 0 0 t u) [] := by
  obtain ⟨h1, _⟩ := whole_ok h
  obtain ⟨h2, _⟩ := whole_ok h'
  have h3 : formP S (asx.length + bsx.length + 9) asx = .ok t [] := by rw [form_fuel (m := asx.length + 1) (by omega) (by omega)]; exact h1
  have h4 : formP S (asx.length + bsx.length + 9) bsx = .ok u [] := by rw [form_fuel (m := bsx.length + 1) (by omega) (by omega)]; exact h2
  exact whole_of (n := asx.length + bsx.length + 10) (by simp; omega) (f_join (n := asx.length + bsx.length + 8) hk (pref_paren h3) (pref_paren h4))
/-- An error depends on the tokens up to it. -/
theorem whole_stop {pre us vs : List W} {x : W} {e : Nat} {r : List W} (h : whole S (pre ++ x :: us) = .bad r e) (hr : r.length = (x :: us).length) : whole S (pre ++ x :: vs) = .bad (x :: vs) e := by
  have hN1 : (pre ++ x :: us).length < pre.length + us.length + vs.length + 2 := by simp; omega
  have hN2 : (pre ++ x :: vs).length < pre.length + us.length + vs.length + 2 := by simp; omega
  unfold whole at h ⊢
  rw [form_fuel (m := pre.length + us.length + vs.length + 2) (by omega) hN1] at h
  rw [form_fuel (m := pre.length + us.length + vs.length + 2) (by omega) hN2]
  have hx : ∀ {r : List W}, (∃ u, pre ++ x :: us = u ++ r) → r.length = (x :: us).length → r = x :: us := fun {r} ⟨u, hu⟩ hl => (List.append_inj_right' hu hl.symm).symm
  generalize pre.length + us.length + vs.length + 2 = N at *
  have ea : ∀ zs : List W, pre ++ x :: zs = (pre ++ [x]) ++ zs := fun zs => by simp
  cases hf : formP S N (pre ++ x :: us) with
  | bad r' y =>
    rw [hf] at h
    cases h
    have e1 := hx ((fine_form S N).shr.badv hf) hr
    subst e1
    rw [ea us] at hf
    obtain ⟨q, hq, e2⟩ := (fine_form S N).loc.badv (vs := vs) hf (by simp)
    have hq' : q = [x] := by
      have : [x] ++ us = q ++ us := hq
      exact (List.append_cancel_right this).symm
    subst hq'
    rw [ea vs, e2]
    rfl
  | ok t r' =>
    rw [hf] at h
    cases r' with
    | nil => cases h
    | cons y r' =>
      cases h
      have e1 := hx ((fine_form S N).shr.okv hf) hr
      rw [e1] at hf
      rw [ea us] at hf
      obtain ⟨q, hq, e2⟩ := (fine_form S N).loc.okv (vs := vs) hf (.inl (by simp))
      have hq' : q = [x] := by
        have : [x] ++ us = q ++ us := hq
        exact (List.append_cancel_right this).symm
      subst hq'
      rw [ea vs, e2]
      rfl
/-- An error has a number; at the end of the tokens it is one of syntax. -/
def Err0 {α : Type} (p : P α) : Prop := ∀ ts r x, p ts = .bad r x → x ≠ 0 ∧ (r = [] → x = 4 ∨ x = 99)
section
variable {α β : Type}
theorem err_ret (a : α) : Err0 (ret a) := fun ts r x e => by cases e
theorem err_out : Err0 (out : P α) := fun ts r x e => by unfold out at e; cases e; exact ⟨by decide, fun _ => .inr rfl⟩
theorem err_bind {p : P α} {f : α → P β} (hp : Err0 p) (hf : ∀ a, Err0 (f a)) : Err0 (bind p f) := fun ts r x e => by
  unfold bind at e
  cases h : p ts with
  | ok a r1 => rw [h] at e; exact hf a r1 r x e
  | bad r1 y => rw [h] at e; cases e; exact hp ts _ _ h
theorem err_byTok {f : W → Except Nat (P α)} (hf : ∀ t p, f t = .ok p → Err0 p) (he : ∀ t e, f t = .error e → e ≠ 0) : Err0 (byTok f) := fun ts r x e => by
  cases ts with
  | nil => cases e; exact ⟨by decide, fun _ => .inl rfl⟩
  | cons t r1 =>
    cases h : f t with
    | ok p => rw [byTok_ok h] at e; exact hf t p h r1 r x e
    | error y => rw [byTok_err h] at e; cases e; exact ⟨he t _ h, fun h => by cases h⟩
theorem err_take (s : W) : Err0 (take s) := fun ts r x e => by
  cases ts with
  | nil => cases e
  | cons t r1 =>
    by_cases h : t = s
    · subst h; rw [take_yes] at e; cases e
    · rw [take_no h] at e; cases e
theorem err_if {b : Bool} {p q : P α} (hp : Err0 p) (hq : Err0 q) : Err0 (if b = true then p else q) := by split <;> assumption
theorem err_tok {g : W → Except Nat α} (he : ∀ t e, g t = .error e → e ≠ 0) : Err0 (tok g) := err_byTok (fun t p h => by
  cases hg : g t with
  | ok i => rw [hg] at h; cases h; exact err_ret i
  | error e => rw [hg] at h; cases h) (fun t e h => by
  cases hg : g t with
  | ok i => rw [hg] at h; cases h
  | error e => rw [hg] at h; cases h; exact he t _ hg)
end
theorem nz_name {find : W → Int} (t : W) (e : Nat) (h : nameE find t = .error e) : e ≠ 0 := by
  unfold nameE at h
  split at h
  · cases h; decide
  · split at h
    · cases h; decide
    · cases h
theorem nz_mem {find : W → Int} {g : Nat} (t : W) (e : Nat) (h : memE find g t = .error e) : e ≠ 0 := by
  unfold memE at h
  cases hn : nameE find t with
  | ok i =>
    rw [hn] at h
    simp only at h
    split at h
    · cases h; decide
    · cases h
  | error x => rw [hn] at h; cases h; exact nz_name t _ hn
theorem nz_num (t : W) (e : Nat) (h : numE t = .error e) : e ≠ 0 := by
  unfold numE at h
  split at h
  · cases h; decide
  · split at h
    · cases h; decide
    · cases h
theorem err_want (s : W) : Err0 (want s) := err_tok fun t e h => by
  split at h
  · cases h
  · cases h; decide
theorem err_name (find : W → Int) : Err0 (name find) := err_tok nz_name
theorem err_num : Err0 number := err_tok nz_num
theorem err_group (find : W → Int) : ∀ n g, Err0 (groupP find n g)
  | 0, _ => err_out
  | n + 1, g => err_bind (err_tok nz_mem) fun a => err_bind (err_take _) fun b => err_if (err_group find n _) (err_ret _)
theorem err_loop {op : Int} {s : W} {p : P Form} (hp : Err0 p) : ∀ n f, Err0 (loopP op s p n f)
  | 0, _ => err_out
  | n + 1, f => err_bind (err_take _) fun b => err_if (err_bind hp fun g => err_loop hp n _) (err_ret _)
theorem err_chain {op : Int} {s : W} {p : P Form} (hp : Err0 p) (n : Nat) : Err0 (chainP op s p n) := err_bind hp fun f => err_loop hp n f
theorem err_imp {p : P Form} (hp : Err0 p) : ∀ n, Err0 (impP p n)
  | 0 => err_out
  | n + 1 => err_bind hp fun f => err_bind (err_take _) fun b => err_if (err_bind (err_imp hp n) fun g => err_ret _) (err_ret _)
theorem err_time {p : P Form} (hp : Err0 p) : ∀ n, Err0 (timeP p n)
  | 0 => err_out
  | n + 1 => err_bind hp fun f => err_bind (err_take _) fun b => err_if (err_bind (err_time hp n) fun g => err_ret _) (err_bind (err_take _) fun b => err_if (err_bind (err_time hp n) fun g => err_ret _) (err_ret _))
theorem err_fP {q : P Form} (h : Err0 q) (n : Nat) : Err0 (fP q n) := err_chain (err_imp (err_time (err_chain (err_chain h n) n) n) n) n
theorem err_bar {p : P Form} (h : Err0 p) : Err0 (barP p) := err_bind (err_take _) fun b => err_if h (err_ret _)
theorem err_body {form q : P Form} (hf : Err0 form) (hq : Err0 q) (n : Nat) : ∀ k, Err0 (body S form q n k)
  | .un op => err_bind hq fun f => err_ret _
  | .leaf op i => err_ret _
  | .par => err_bind hf fun f => err_bind (err_want _) fun _ => err_ret _
  | .ag op => err_bind (err_want _) fun _ => err_bind (err_name _) fun a => err_bind (err_want _) fun _ => err_bind hq fun f => err_ret _
  | .bel => err_bind (err_want _) fun _ => err_bind (err_name _) fun a => err_bind (err_bar hf) fun c => err_bind (err_want _) fun _ => err_bind hq fun f => err_ret _
  | .gr op => err_bind (err_want _) fun _ => err_bind (err_group _ _ _) fun a => err_bind (err_want _) fun _ => err_bind hq fun f => err_ret _
  | .com => err_bind (err_want _) fun _ => err_bind (err_group _ _ _) fun a => err_bind (err_bar hf) fun c => err_bind (err_want _) fun _ => err_bind hq fun f => err_ret _
  | .dyn => err_bind (err_take _) fun b => err_if (err_bind hf fun f => err_bind (err_want _) fun _ => err_bind hq fun g => err_ret _)
    (err_bind (err_name _) fun i => err_bind (err_want _) fun _ => err_bind err_num fun e => err_bind (err_want _) fun _ => err_bind hq fun f => err_ret _)
theorem nz_kind {t : W} {e : Nat} (h : kindE S t = .error e) : e ≠ 0 := by
  unfold kindE at h
  rcases if_case h with ⟨_, h⟩ | ⟨_, h⟩
  · cases h
  rcases if_case h with ⟨_, h⟩ | ⟨_, h⟩
  · cases h
  rcases if_case h with ⟨_, h⟩ | ⟨_, h⟩
  · cases h
  rcases if_case h with ⟨_, h⟩ | ⟨_, h⟩
  · cases h
  rcases if_case h with ⟨_, h⟩ | ⟨_, h⟩
  · cases h
  rcases if_case h with ⟨_, h⟩ | ⟨_, h⟩
  · cases h
  rcases if_case h with ⟨_, h⟩ | ⟨_, h⟩
  · cases h
  rcases if_case h with ⟨_, h⟩ | ⟨_, h⟩
  · cases h
  rcases if_case h with ⟨_, h⟩ | ⟨_, h⟩
  · cases h
  rcases if_case h with ⟨_, h⟩ | ⟨_, h⟩
  · cases h
  rcases if_case h with ⟨_, h⟩ | ⟨_, h⟩
  · cases h
  rcases if_case h with ⟨_, h⟩ | ⟨_, h⟩
  · cases h
  rcases if_case h with ⟨_, h⟩ | ⟨_, h⟩
  · cases h
  rcases if_case h with ⟨_, h⟩ | ⟨_, h⟩
  · cases h
  cases hn : nameE S.fa t with
  | ok i => rw [hn] at h; cases h
  | error x => rw [hn] at h; cases h; exact nz_name t _ hn
theorem err_pref : ∀ n, Err0 (prefP S n)
  | 0 => err_out
  | n + 1 => err_byTok (fun t p h => by
    cases hk : kindE S t with
    | ok k => rw [hk] at h; cases h; exact err_body (err_fP (err_pref n) n) (err_pref n) n k
    | error e => rw [hk] at h; cases h) (fun t e h => by
    cases hk : kindE S t with
    | ok k => rw [hk] at h; cases h
    | error x => rw [hk] at h; cases h; exact nz_kind hk)
theorem whole_err {ws r : List W} {x : Nat} (h : whole S ws = .bad r x) : x ≠ 0 ∧ (r = [] → x = 4 ∨ x = 99) := by
  unfold whole at h
  cases hf : formP S (ws.length + 1) ws with
  | bad r' y => rw [hf] at h; cases h; exact err_fP (err_pref _) _ ws _ _ hf
  | ok t r' =>
    rw [hf] at h
    cases r' with
    | nil => cases h
    | cons y r' => cases h; exact ⟨by decide, fun h => by cases h⟩
end
end Ps
