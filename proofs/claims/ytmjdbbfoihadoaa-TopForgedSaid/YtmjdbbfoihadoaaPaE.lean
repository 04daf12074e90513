/- The grammar as a parser of tokens, plain: what is read, or the error and where. No condition. -/
import Derived.Test.YtmjdbbfoihadoaaPaA
import Derived.Test.YtmjdbbfoihadoaaFmAB
set_option linter.unusedVariables false
set_option linter.unusedSimpArgs false
namespace Ps
open Fm (Form)
open Fm.Form
open Go.Proofs.Ytmjdbbfoihadoaa (letN digN)

abbrev W := ByteArray
instance decMem (t : ByteArray) (l : List ByteArray) : Decidable (t ∈ l) := decidable_of_iff (l.any (fun x => decide (x = t)) = true) (by simp)
/-- What is read and the tokens behind it; or the tokens from the error on, and the error. -/
inductive Res (α : Type) where
  | ok (a : α) (r : List W)
  | bad (r : List W) (e : Nat)
abbrev P (α : Type) := List W → Res α
section
variable {α β : Type}
def ret (a : α) : P α := fun ts => .ok a ts
def bind (p : P α) (f : α → P β) : P β := fun ts => match p ts with | .ok a r => f a r | .bad r e => .bad r e
def out : P α := fun ts => .bad ts 99
def byTok (f : W → Except Nat (P α)) : P α
  | [] => .bad [] 4
  | t :: r => match f t with | .ok p => p r | .error e => .bad (t :: r) e
theorem byTok_ok {f : W → Except Nat (P α)} {t : W} {p : P α} (h : f t = .ok p) (r : List W) : byTok f (t :: r) = p r := by simp only [byTok, h]
theorem byTok_err {f : W → Except Nat (P α)} {t : W} {e : Nat} (h : f t = .error e) (r : List W) : byTok f (t :: r) = .bad (t :: r) e := by simp only [byTok, h]
def take (s : W) : P Bool
  | [] => .ok false []
  | t :: r => if t = s then .ok true r else .ok false (t :: r)
def lift : Except Nat α → Except Nat (P α)
  | .ok i => .ok (ret i)
  | .error e => .error e
/-- One token that says a value. -/
def tok (g : W → Except Nat α) : P α := byTok fun t => lift (g t)
theorem tok_ok {g : W → Except Nat α} {t : W} {i : α} (h : g t = .ok i) (r : List W) : tok g (t :: r) = .ok i r := by unfold tok; rw [byTok_ok (p := ret i) (by rw [h]; rfl)]; rfl
theorem tok_err {g : W → Except Nat α} {t : W} {e : Nat} (h : g t = .error e) (r : List W) : tok g (t :: r) = .bad (t :: r) e := byTok_err (by rw [h]; rfl) r
theorem take_yes (s : W) (r : List W) : take s (s :: r) = .ok true r := if_pos rfl
theorem take_no {s t : W} (h : t ≠ s) (r : List W) : take s (t :: r) = .ok false (t :: r) := if_neg h
end
def wIff : W := ⟨#[60, 45, 62]⟩
def wImp : W := ⟨#[45, 62]⟩
def wOr : W := ⟨#[124]⟩
def wAnd : W := ⟨#[38]⟩
def wUntil : W := ⟨#[117, 110, 116, 105, 108]⟩
def wSince : W := ⟨#[115, 105, 110, 99, 101]⟩
def wNot : W := ⟨#[126]⟩
def wNext : W := ⟨#[110, 101, 120, 116]⟩
def wPrev : W := ⟨#[112, 114, 101, 118]⟩
def wTrue : W := ⟨#[116, 114, 117, 101]⟩
def wFalse : W := ⟨#[102, 97, 108, 115, 101]⟩
def wL : W := ⟨#[40]⟩
def wR : W := ⟨#[41]⟩
def wLB : W := ⟨#[91]⟩
def wRB : W := ⟨#[93]⟩
def wK : W := ⟨#[75]⟩
def wM : W := ⟨#[77]⟩
def wS : W := ⟨#[83]⟩
def wB : W := ⟨#[66]⟩
def wE : W := ⟨#[69]⟩
def wD : W := ⟨#[68]⟩
def wC : W := ⟨#[67]⟩
def wBang : W := ⟨#[33]⟩
def wComma : W := ⟨#[44]⟩
def wDot : W := ⟨#[46]⟩
def specials : List W := [wTrue, wFalse, wNext, wPrev, wUntil, wSince, wK, wM, wS, wB, wE, wD, wC]
/-- What finds agents, facts and actions by their names. -/
structure Sig where
  ag : W → Int
  fa : W → Int
  ac : W → Int
def hd (t : W) : Nat := (t.data.toList.headD 0).toNat
def want (s : W) : P Unit := tok fun t => if t = s then .ok () else .error 4
def nameE (find : W → Int) (t : W) : Except Nat Nat := if letN (hd t) = false ∨ t ∈ specials then .error 4 else if find t < 0 then .error 5 else .ok (find t).toNat
def name (find : W → Int) : P Nat := tok (nameE find)
def memE (find : W → Int) (g : Nat) (t : W) : Except Nat Nat := match nameE find t with | .ok i => if g.testBit i = true then .error 7 else .ok i | .error e => .error e
def mem (find : W → Int) (g : Nat) : P Nat := tok (memE find g)
def groupP (find : W → Int) : Nat → Nat → P Nat
  | 0, _ => out
  | n + 1, g => bind (mem find g) fun a => bind (take wComma) fun b => if b = true then groupP find n (g ||| 2 ^ a) else ret (g ||| 2 ^ a)
def numE (t : W) : Except Nat Nat := if digN (hd t) = false then .error 4 else if 1 < t.size ∨ 56 ≤ hd t then .error 2 else .ok (hd t - 48)
def number : P Nat := tok numE
def loopP (op : Int) (s : W) (p : P Form) : Nat → Form → P Form
  | 0, _ => out
  | n + 1, f => bind (take s) fun b => if b = true then bind p fun g => loopP op s p n (bin op 0 0 0 f g) else ret f
def chainP (op : Int) (s : W) (p : P Form) (n : Nat) : P Form := bind p (loopP op s p n)
def impP (p : P Form) : Nat → P Form
  | 0 => out
  | n + 1 => bind p fun f => bind (take wImp) fun b => if b = true then bind (impP p n) fun g => ret (bin 7 0 0 0 f g) else ret f
def timeP (p : P Form) : Nat → P Form
  | 0 => out
  | n + 1 => bind p fun f => bind (take wUntil) fun b => if b = true then bind (timeP p n) fun g => ret (bin 19 0 0 0 f g) else
      bind (take wSince) fun b => if b = true then bind (timeP p n) fun g => ret (bin 21 0 0 0 f g) else ret f
def andP (q : P Form) (n : Nat) : P Form := chainP 5 wAnd q n
def orP (q : P Form) (n : Nat) : P Form := chainP 6 wOr (andP q n) n
def tP (q : P Form) (n : Nat) : P Form := timeP (orP q n) n
def iP (q : P Form) (n : Nat) : P Form := impP (tP q n) n
def fP (q : P Form) (n : Nat) : P Form := chainP 8 wIff (iP q n) n
def barP (form : P Form) : P Form := bind (take wOr) fun b => if b = true then form else ret (leaf 1 0 0 0)
def agP (S : Sig) (op : Int) (q : P Form) : P Form := bind (want wLB) fun _ => bind (name S.ag) fun a => bind (want wRB) fun _ => bind q fun f => ret (un op a 0 0 f)
def belP (S : Sig) (form q : P Form) : P Form := bind (want wLB) fun _ => bind (name S.ag) fun a => bind (barP form) fun c => bind (want wRB) fun _ => bind q fun f => ret (bin 14 a 0 0 c f)
def grP (S : Sig) (op : Int) (q : P Form) (n : Nat) : P Form := bind (want wLB) fun _ => bind (groupP S.ag n 0) fun g => bind (want wRB) fun _ => bind q fun f => ret (un op 0 0 g f)
def comP (S : Sig) (form q : P Form) (n : Nat) : P Form := bind (want wLB) fun _ => bind (groupP S.ag n 0) fun g => bind (barP form) fun c => bind (want wRB) fun _ => bind q fun f => ret (bin 13 0 0 g c f)
def annP (form q : P Form) : P Form := bind form fun f => bind (want wRB) fun _ => bind q fun g => ret (bin 16 0 0 0 f g)
def actP (S : Sig) (q : P Form) : P Form := bind (name S.ac) fun i => bind (want wDot) fun _ => bind number fun e => bind (want wRB) fun _ => bind q fun f => ret (un 17 i e 0 f)
def dynP (S : Sig) (form q : P Form) : P Form := bind (take wBang) fun b => if b = true then annP form q else actP S q
def parP (form : P Form) : P Form := bind form fun f => bind (want wR) fun _ => ret f
def unP (op : Int) (q : P Form) : P Form := bind q fun f => ret (un op 0 0 0 f)
/-- What the first token of an operand announces. -/
inductive Kind where
  | un (op : Int)
  | leaf (op : Int) (i : Nat)
  | par
  | ag (op : Int)
  | bel
  | gr (op : Int)
  | com
  | dyn
def kindE (S : Sig) (t : W) : Except Nat Kind :=
  if t = wNot then .ok (.un 4) else if t = wNext then .ok (.un 18) else if t = wPrev then .ok (.un 20)
  else if t = wTrue then .ok (.leaf 1 0) else if t = wFalse then .ok (.leaf 2 0) else if t = wL then .ok .par
  else if t = wK then .ok (.ag 9) else if t = wM then .ok (.ag 10) else if t = wS then .ok (.ag 15) else if t = wB then .ok .bel
  else if t = wE then .ok (.gr 11) else if t = wD then .ok (.gr 12) else if t = wC then .ok .com
  else if t = wLB then .ok .dyn
  else match nameE S.fa t with | .ok i => .ok (.leaf 3 i) | .error e => .error e
/-- What stands behind the first token of an operand. -/
def body (S : Sig) (form q : P Form) (n : Nat) : Kind → P Form
  | .un op => unP op q
  | .leaf op i => ret (.leaf op i 0 0)
  | .par => parP form
  | .ag op => agP S op q
  | .bel => belP S form q
  | .gr op => grP S op q n
  | .com => comP S form q n
  | .dyn => dynP S form q
def operP (S : Sig) (form q : P Form) (n : Nat) : P Form := byTok fun t => match kindE S t with | .ok k => .ok (body S form q n k) | .error e => .error e
def prefP (S : Sig) : Nat → P Form
  | 0 => out
  | n + 1 => operP S (fP (prefP S n) n) (prefP S n) n
def formP (S : Sig) (n : Nat) : P Form := fP (prefP S n) n
/-- A whole text: its tokens read, and none left. -/
def whole (S : Sig) (ts : List W) : Res Form := match formP S (ts.length + 1) ts with | .ok t [] => .ok t [] | .ok _ (x :: r) => .bad (x :: r) 4 | .bad r e => .bad r e

section
variable {α β : Type}
/-- What is left stands at the end of what was there. -/
def Shr (p : P α) : Prop := ∀ ts, match p ts with | .ok _ r => ∃ u, ts = u ++ r | .bad r _ => ∃ u, ts = u ++ r
theorem Shr.okv {p : P α} (h : Shr p) {ts r : List W} {a : α} (e : p ts = .ok a r) : ∃ u, ts = u ++ r := by have := h ts; rw [e] at this; exact this
theorem Shr.badv {p : P α} (h : Shr p) {ts r : List W} {x : Nat} (e : p ts = .bad r x) : ∃ u, ts = u ++ r := by have := h ts; rw [e] at this; exact this
theorem Shr.ok {p : P α} (h : Shr p) {ts r : List W} {a : α} (e : p ts = .ok a r) : r.length ≤ ts.length := by obtain ⟨u, rfl⟩ := h.okv e; simp
theorem Shr.bad {p : P α} (h : Shr p) {ts r : List W} {x : Nat} (e : p ts = .bad r x) : r.length ≤ ts.length := by obtain ⟨u, rfl⟩ := h.badv e; simp
/-- Tokens that are taken only if they stand there. -/
def taken : List W := [wIff, wImp, wOr, wAnd, wUntil, wSince, wBang, wComma]
def nop (us : List W) : Prop := ∀ t r, us = t :: r → t ∉ taken
/-- Only the tokens that are looked at count. -/
def Loc (p : P α) : Prop := ∀ pre us vs, match p (pre ++ us) with
  | .ok a r => us.length < r.length ∨ (us.length = r.length ∧ nop us ∧ nop vs) → ∃ q, r = q ++ us ∧ p (pre ++ vs) = .ok a (q ++ vs)
  | .bad r e => us.length < r.length → ∃ q, r = q ++ us ∧ p (pre ++ vs) = .bad (q ++ vs) e
theorem Loc.okv {p : P α} (h : Loc p) {pre us vs r : List W} {a : α} (e : p (pre ++ us) = .ok a r) (hr : us.length < r.length ∨ (us.length = r.length ∧ nop us ∧ nop vs)) : ∃ q, r = q ++ us ∧ p (pre ++ vs) = .ok a (q ++ vs) := by have := h pre us vs; rw [e] at this; exact this hr
theorem Loc.badv {p : P α} (h : Loc p) {pre us vs r : List W} {x : Nat} (e : p (pre ++ us) = .bad r x) (hr : us.length < r.length) : ∃ q, r = q ++ us ∧ p (pre ++ vs) = .bad (q ++ vs) x := by have := h pre us vs; rw [e] at this; exact this hr
structure Fine (p : P α) : Prop where
  shr : Shr p
  loc : Loc p
theorem fine_ret (a : α) : Fine (ret a) := ⟨fun ts => ⟨[], rfl⟩, fun pre us vs => fun _ => ⟨pre, rfl, rfl⟩⟩
theorem fine_out : Fine (out : P α) := ⟨fun ts => ⟨[], rfl⟩, fun pre us vs => fun _ => ⟨pre, rfl, rfl⟩⟩
theorem fine_bind {p : P α} {f : α → P β} (hp : Fine p) (hf : ∀ a, Fine (f a)) : Fine (bind p f) := by
  constructor
  · intro ts
    unfold bind
    cases h : p ts with
    | ok a r =>
      obtain ⟨u, rfl⟩ := hp.shr.okv h
      simp only
      cases h2 : f a r with
      | ok b r2 => obtain ⟨v, rfl⟩ := (hf a).shr.okv h2; exact ⟨u ++ v, by simp⟩
      | bad r2 e => obtain ⟨v, rfl⟩ := (hf a).shr.badv h2; exact ⟨u ++ v, by simp⟩
    | bad r e => exact hp.shr.badv h
  · intro pre us vs
    unfold bind
    cases h : p (pre ++ us) with
    | ok a r =>
      simp only
      cases h2 : f a r with
      | ok b r2 =>
        simp only
        intro hr
        have hle := (hf a).shr.ok h2
        obtain ⟨q, rfl, h3⟩ := hp.loc.okv (vs := vs) h (by
          rcases hr with hr | ⟨hr, hn⟩
          · exact .inl (by omega)
          · by_cases he : us.length = r.length
            · exact .inr ⟨he, hn⟩
            · exact .inl (by omega))
        obtain ⟨q2, rfl, h4⟩ := (hf a).loc.okv (vs := vs) h2 hr
        exact ⟨q2, rfl, by rw [h3]; exact h4⟩
      | bad r2 e =>
        simp only
        intro hr
        have hle := (hf a).shr.bad h2
        obtain ⟨q, rfl, h3⟩ := hp.loc.okv (vs := vs) h (.inl (by omega))
        obtain ⟨q2, rfl, h4⟩ := (hf a).loc.badv (vs := vs) h2 hr
        exact ⟨q2, rfl, by rw [h3]; exact h4⟩
    | bad r e =>
      simp only
      intro hr
      obtain ⟨q, rfl, h3⟩ := hp.loc.badv (vs := vs) h hr
      exact ⟨q, rfl, by rw [h3]⟩
theorem fine_byTok {f : W → Except Nat (P α)} (hf : ∀ t p, f t = .ok p → Fine p) : Fine (byTok f) := by
  constructor
  · intro ts
    cases ts with
    | nil => exact ⟨[], rfl⟩
    | cons t r =>
      cases h : f t with
      | ok p =>
        rw [byTok_ok h]
        have hp := (hf t p h).shr
        cases h2 : p r with
        | ok b r2 => obtain ⟨v, rfl⟩ := hp.okv h2; exact ⟨t :: v, rfl⟩
        | bad r2 e => obtain ⟨v, rfl⟩ := hp.badv h2; exact ⟨t :: v, rfl⟩
      | error e => rw [byTok_err h]; exact ⟨[], rfl⟩
  · intro pre us vs
    cases pre with
    | nil =>
      rw [List.nil_append]
      cases us with
      | nil => simp [byTok]
      | cons t r =>
        cases h : f t with
        | ok p =>
          rw [byTok_ok h]
          have hp := (hf t p h).shr
          cases h2 : p r with
          | ok b r2 =>
            have := hp.ok h2
            intro hr
            simp only [List.length_cons] at hr
            omega
          | bad r2 e =>
            have := hp.bad h2
            intro hr
            simp only [List.length_cons] at hr
            omega
        | error e =>
          rw [byTok_err h]
          intro hr
          exact absurd hr (Nat.lt_irrefl _)
    | cons t pre =>
      rw [List.cons_append, List.cons_append]
      cases h : f t with
      | ok p => rw [byTok_ok h, byTok_ok h]; exact (hf t p h).loc pre us vs
      | error e => rw [byTok_err h, byTok_err h]; exact fun _ => ⟨t :: pre, rfl, rfl⟩
theorem fine_take {s : W} (hs : s ∈ taken) : Fine (take s) := by
  constructor
  · intro ts
    cases ts with
    | nil => exact ⟨[], rfl⟩
    | cons t r =>
      by_cases h : t = s
      · subst h; rw [take_yes]; exact ⟨[t], rfl⟩
      · rw [take_no h]; exact ⟨[], rfl⟩
  · intro pre us vs
    have hnv : nop vs → take s vs = .ok false vs := fun hn => by
      cases vs with
      | nil => rfl
      | cons t r => exact take_no (by rintro rfl; exact hn _ _ rfl hs) r
    cases pre with
    | nil =>
      rw [List.nil_append]
      cases us with
      | nil => simp only [take, List.length_nil, Nat.lt_irrefl, false_or]; exact fun ⟨_, _, hn⟩ => ⟨[], rfl, hnv hn⟩
      | cons t r =>
        by_cases h : t = s
        · subst h
          rw [take_yes]
          simp only [List.length_cons]
          intro hr
          omega
        · rw [take_no h]
          simp only [List.length_cons, Nat.lt_irrefl, false_or]
          exact fun ⟨_, _, hn⟩ => ⟨[], rfl, hnv hn⟩
    | cons t pre =>
      rw [List.cons_append, List.cons_append]
      by_cases h : t = s
      · subst h; rw [take_yes, take_yes]; exact fun _ => ⟨pre, rfl, rfl⟩
      · rw [take_no h, take_no h]; exact fun _ => ⟨t :: pre, rfl, rfl⟩
theorem fine_if {b : Bool} {p q : P α} (hp : Fine p) (hq : Fine q) : Fine (if b = true then p else q) := by split <;> assumption
theorem fine_tok (g : W → Except Nat α) : Fine (tok g) := fine_byTok fun t p h => by
  cases hg : g t with
  | ok i => rw [hg] at h; cases h; exact fine_ret i
  | error e => rw [hg] at h; cases h
end
theorem fine_want (s : W) : Fine (want s) := fine_tok _
theorem fine_name (find : W → Int) : Fine (name find) := fine_tok _
theorem fine_mem (find : W → Int) (g : Nat) : Fine (mem find g) := fine_tok _
theorem fine_number : Fine number := fine_tok _
theorem fine_group (find : W → Int) : ∀ n g, Fine (groupP find n g)
  | 0, _ => fine_out
  | n + 1, g => fine_bind (fine_mem find g) fun a => fine_bind (fine_take (by decide)) fun b => fine_if (fine_group find n _) (fine_ret _)
theorem fine_loop {op : Int} {s : W} (hs : s ∈ taken) {p : P Form} (hp : Fine p) : ∀ n f, Fine (loopP op s p n f)
  | 0, _ => fine_out
  | n + 1, f => fine_bind (fine_take hs) fun b => fine_if (fine_bind hp fun g => fine_loop hs hp n _) (fine_ret _)
theorem fine_chain {op : Int} {s : W} (hs : s ∈ taken) {p : P Form} (hp : Fine p) (n : Nat) : Fine (chainP op s p n) := fine_bind hp fun f => fine_loop hs hp n f
theorem fine_imp {p : P Form} (hp : Fine p) : ∀ n, Fine (impP p n)
  | 0 => fine_out
  | n + 1 => fine_bind hp fun f => fine_bind (fine_take (by decide)) fun b => fine_if (fine_bind (fine_imp hp n) fun g => fine_ret _) (fine_ret _)
theorem fine_time {p : P Form} (hp : Fine p) : ∀ n, Fine (timeP p n)
  | 0 => fine_out
  | n + 1 => fine_bind hp fun f => fine_bind (fine_take (by decide)) fun b => fine_if (fine_bind (fine_time hp n) fun g => fine_ret _) (fine_bind (fine_take (by decide)) fun b => fine_if (fine_bind (fine_time hp n) fun g => fine_ret _) (fine_ret _))
theorem fine_and {q : P Form} (h : Fine q) (n : Nat) : Fine (andP q n) := fine_chain (by decide) h n
theorem fine_or {q : P Form} (h : Fine q) (n : Nat) : Fine (orP q n) := fine_chain (by decide) (fine_and h n) n
theorem fine_tP {q : P Form} (h : Fine q) (n : Nat) : Fine (tP q n) := fine_time (fine_or h n) n
theorem fine_iP {q : P Form} (h : Fine q) (n : Nat) : Fine (iP q n) := fine_imp (fine_tP h n) n
theorem fine_fP {q : P Form} (h : Fine q) (n : Nat) : Fine (fP q n) := fine_chain (by decide) (fine_iP h n) n
theorem fine_bar {p : P Form} (h : Fine p) : Fine (barP p) := fine_bind (fine_take (by decide)) fun b => fine_if h (fine_ret _)
theorem fine_body {S : Sig} {form q : P Form} (hf : Fine form) (hq : Fine q) (n : Nat) : ∀ k, Fine (body S form q n k)
  | .un op => fine_bind hq fun f => fine_ret _
  | .leaf op i => fine_ret _
  | .par => fine_bind hf fun f => fine_bind (fine_want _) fun _ => fine_ret _
  | .ag op => fine_bind (fine_want _) fun _ => fine_bind (fine_name _) fun a => fine_bind (fine_want _) fun _ => fine_bind hq fun f => fine_ret _
  | .bel => fine_bind (fine_want _) fun _ => fine_bind (fine_name _) fun a => fine_bind (fine_bar hf) fun c => fine_bind (fine_want _) fun _ => fine_bind hq fun f => fine_ret _
  | .gr op => fine_bind (fine_want _) fun _ => fine_bind (fine_group _ _ _) fun a => fine_bind (fine_want _) fun _ => fine_bind hq fun f => fine_ret _
  | .com => fine_bind (fine_want _) fun _ => fine_bind (fine_group _ _ _) fun a => fine_bind (fine_bar hf) fun c => fine_bind (fine_want _) fun _ => fine_bind hq fun f => fine_ret _
  | .dyn => fine_bind (fine_take (by decide)) fun b => fine_if (fine_bind hf fun f => fine_bind (fine_want _) fun _ => fine_bind hq fun g => fine_ret _)
    (fine_bind (fine_name _) fun i => fine_bind (fine_want _) fun _ => fine_bind fine_number fun e => fine_bind (fine_want _) fun _ => fine_bind hq fun f => fine_ret _)
theorem fine_oper {S : Sig} {form q : P Form} (hf : Fine form) (hq : Fine q) (n : Nat) : Fine (operP S form q n) := fine_byTok fun t p h => by
  cases hk : kindE S t with
  | ok k => rw [hk] at h; cases h; exact fine_body hf hq n k
  | error e => rw [hk] at h; cases h
theorem fine_pref (S : Sig) : ∀ n, Fine (prefP S n)
  | 0 => fine_out
  | n + 1 => fine_oper (fine_fP (fine_pref S n) n) (fine_pref S n) n
theorem fine_form (S : Sig) (n : Nat) : Fine (formP S n) := fine_fP (fine_pref S n) n

/-- Two parsers answer alike at short texts. -/
def Same {α : Type} (p p' : P α) (k : Nat) : Prop := ∀ ts, ts.length < k → p ts = p' ts
section
variable {α β : Type} {k n m : Nat}
theorem Same.rfl' (p : P α) (k : Nat) : Same p p k := fun _ _ => rfl
theorem Same.mono {p p' : P α} (h : Same p p' k) (hn : n ≤ k) : Same p p' n := fun ts ht => h ts (by omega)
theorem same_bind {p p' : P α} {f f' : α → P β} (h : Same p p' k) (hs : Shr p) (hf : ∀ a, Same (f a) (f' a) k) : Same (bind p f) (bind p' f') k := fun ts ht => by
  unfold bind
  rw [← h ts ht]
  cases e : p ts with
  | ok a r => exact hf a r (by have := hs.ok e; omega)
  | bad r x => rfl
theorem same_take {s : W} {f f' : Bool → P β} (h1 : Same (f true) (f' true) (k - 1)) (h2 : Same (f false) (f' false) k) : Same (bind (take s) f) (bind (take s) f') k := fun ts ht => by
  unfold bind
  cases ts with
  | nil => exact h2 [] ht
  | cons t r =>
    by_cases h : t = s
    · subst h; rw [take_yes]; exact h1 r (by simp at ht; omega)
    · rw [take_no h]; exact h2 _ ht
theorem same_byTok {f f' : W → Except Nat (P α)} (h : ∀ t, (∃ p p', f t = .ok p ∧ f' t = .ok p' ∧ Same p p' (k - 1)) ∨ ∃ e, f t = .error e ∧ f' t = .error e) : Same (byTok f) (byTok f') k := fun ts ht => by
  cases ts with
  | nil => rfl
  | cons t r =>
    rcases h t with ⟨p, p', h1, h2, h3⟩ | ⟨e, h1, h2⟩
    · rw [byTok_ok h1, byTok_ok h2]; exact h3 r (by simp at ht; omega)
    · rw [byTok_err h1, byTok_err h2]
theorem same_group (find : W → Int) : ∀ (n m k g : Nat), k ≤ n → k ≤ m → Same (groupP find n g) (groupP find m g) k
  | n, m, 0, g, _, _ => fun ts h => by omega
  | 0, m, k + 1, g, h, _ => by omega
  | n + 1, 0, k + 1, g, _, h => by omega
  | n + 1, m + 1, k + 1, g, h1, h2 => same_bind (Same.rfl' _ _) (fine_mem find g).shr fun a => same_take (same_group find n m k _ (by omega) (by omega)) (Same.rfl' _ _)
theorem same_loop {op : Int} {s : W} {p p' : P Form} (hp : Shr p) : ∀ (n m k : Nat) (f : Form), k ≤ n → k ≤ m → Same p p' k → Same (loopP op s p n f) (loopP op s p' m f) k
  | n, m, 0, f, _, _, _ => fun ts h => by omega
  | 0, m, k + 1, f, h, _, _ => by omega
  | n + 1, 0, k + 1, f, _, h, _ => by omega
  | n + 1, m + 1, k + 1, f, h1, h2, h => same_take (same_bind (h.mono (by omega)) hp fun g => same_loop hp n m k _ (by omega) (by omega) (h.mono (by omega))) (Same.rfl' _ _)
theorem same_chain {op : Int} {s : W} {p p' : P Form} (hp : Shr p) {n m k : Nat} (h1 : k ≤ n) (h2 : k ≤ m) (h : Same p p' k) : Same (chainP op s p n) (chainP op s p' m) k := same_bind h hp fun f => same_loop hp n m k f h1 h2 h
theorem same_imp {p p' : P Form} (hp : Fine p) : ∀ (n m k : Nat), k ≤ n → k ≤ m → Same p p' k → Same (impP p n) (impP p' m) k
  | n, m, 0, _, _, _ => fun ts h => by omega
  | 0, m, k + 1, h, _, _ => by omega
  | n + 1, 0, k + 1, _, h, _ => by omega
  | n + 1, m + 1, k + 1, h1, h2, h => same_bind h hp.shr fun f => same_take (same_bind (same_imp hp n m k (by omega) (by omega) (h.mono (by omega))) (fine_imp hp n).shr fun g => Same.rfl' _ _) (Same.rfl' _ _)
theorem same_time {p p' : P Form} (hp : Fine p) : ∀ (n m k : Nat), k ≤ n → k ≤ m → Same p p' k → Same (timeP p n) (timeP p' m) k
  | n, m, 0, _, _, _ => fun ts h => by omega
  | 0, m, k + 1, h, _, _ => by omega
  | n + 1, 0, k + 1, _, h, _ => by omega
  | n + 1, m + 1, k + 1, h1, h2, h => same_bind h hp.shr fun f => same_take (same_bind (same_time hp n m k (by omega) (by omega) (h.mono (by omega))) (fine_time hp n).shr fun g => Same.rfl' _ _)
      (same_take (same_bind (same_time hp n m k (by omega) (by omega) (h.mono (by omega))) (fine_time hp n).shr fun g => Same.rfl' _ _) (Same.rfl' _ _))
theorem same_fP {q q' : P Form} (hq : Fine q) {n m k : Nat} (h1 : k ≤ n) (h2 : k ≤ m) (h : Same q q' k) : Same (fP q n) (fP q' m) k :=
  same_chain (fine_iP hq n).shr h1 h2 (same_imp (fine_tP hq n) n m k h1 h2 (same_time (fine_or hq n) n m k h1 h2 (same_chain (fine_and hq n).shr h1 h2 (same_chain hq.shr h1 h2 h))))
theorem same_body {S : Sig} {form form' q q' : P Form} (ff : Fine form) (fq : Fine q) {n m k : Nat} (h1 : k ≤ n) (h2 : k ≤ m) (hf : Same form form' k) (hq : Same q q' k) : ∀ x, Same (body S form q n x) (body S form' q' m x) k
  | .un op => same_bind hq fq.shr fun f => Same.rfl' _ _
  | .leaf op i => Same.rfl' _ _
  | .par => same_bind hf ff.shr fun f => Same.rfl' _ _
  | .ag op => same_bind (Same.rfl' _ _) (fine_want _).shr fun _ => same_bind (Same.rfl' _ _) (fine_name _).shr fun a => same_bind (Same.rfl' _ _) (fine_want _).shr fun _ => same_bind hq fq.shr fun f => Same.rfl' _ _
  | .bel => same_bind (Same.rfl' _ _) (fine_want _).shr fun _ => same_bind (Same.rfl' _ _) (fine_name _).shr fun a => same_bind (same_take (hf.mono (by omega)) (Same.rfl' _ _)) (fine_bar ff).shr fun c => same_bind (Same.rfl' _ _) (fine_want _).shr fun _ => same_bind hq fq.shr fun f => Same.rfl' _ _
  | .gr op => same_bind (Same.rfl' _ _) (fine_want _).shr fun _ => same_bind (same_group _ n m k 0 h1 h2) (fine_group _ _ _).shr fun a => same_bind (Same.rfl' _ _) (fine_want _).shr fun _ => same_bind hq fq.shr fun f => Same.rfl' _ _
  | .com => same_bind (Same.rfl' _ _) (fine_want _).shr fun _ => same_bind (same_group _ n m k 0 h1 h2) (fine_group _ _ _).shr fun a => same_bind (same_take (hf.mono (by omega)) (Same.rfl' _ _)) (fine_bar ff).shr fun c => same_bind (Same.rfl' _ _) (fine_want _).shr fun _ => same_bind hq fq.shr fun f => Same.rfl' _ _
  | .dyn => same_take (same_bind (hf.mono (by omega)) ff.shr fun f => same_bind (Same.rfl' _ _) (fine_want _).shr fun _ => same_bind (hq.mono (by omega)) fq.shr fun g => Same.rfl' _ _)
    (same_bind (Same.rfl' _ _) (fine_name _).shr fun i => same_bind (Same.rfl' _ _) (fine_want _).shr fun _ => same_bind (Same.rfl' _ _) fine_number.shr fun e => same_bind (Same.rfl' _ _) (fine_want _).shr fun _ => same_bind hq fq.shr fun f => Same.rfl' _ _)
theorem same_pref (S : Sig) : ∀ (n m k : Nat), k ≤ n → k ≤ m → Same (prefP S n) (prefP S m) k
  | n, m, 0, _, _ => fun ts h => by omega
  | 0, m, k + 1, h, _ => by omega
  | n + 1, 0, k + 1, _, h => by omega
  | n + 1, m + 1, k + 1, h1, h2 => same_byTok fun t => by
    have hq := same_pref S n m k (by omega) (by omega)
    cases hk : kindE S t with
    | ok x => exact .inl ⟨_, _, rfl, rfl, same_body (fine_fP (fine_pref S n) n) (fine_pref S n) (by omega) (by omega) (same_fP (fine_pref S n) (by omega) (by omega) hq) hq x⟩
    | error e => exact .inr ⟨e, rfl, rfl⟩
theorem same_form (S : Sig) {n m k : Nat} (h1 : k ≤ n) (h2 : k ≤ m) : Same (formP S n) (formP S m) k := same_fP (fine_pref S n) h1 h2 (same_pref S n m k h1 h2)
end
end Ps
