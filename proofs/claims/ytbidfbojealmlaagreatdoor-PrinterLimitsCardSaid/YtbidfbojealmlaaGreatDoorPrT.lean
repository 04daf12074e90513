/- The levels of the grammar, plain: what is read at a level, put together. The text of a formula, plain: its bytes and its tokens; the tokens are read as the formula. The text of a formula, plain: its tokens are read as the formula; the tokens of the text are these. The text of a formula, plain: the tokens of the text are those of the formula. Parentheses: a text that is read as a formula has at least as many as the printed one, plain. No condition. -/
import Derived.Test.YtbidfbojealmlaaGreatDoorPc3
import Derived.Test.YtbidfbojealmlaaGreatDoorPc1
import Derived.Test.YtbidfbojealmlaaGreatDoorPaS
set_option linter.unusedVariables false
set_option linter.unusedSimpArgs false
namespace Ps
open Fm (Form)
open Fm.Form

/-- What stands behind does not go on at a level. -/
def noS (l : List W) (r : List W) : Prop := ∀ t r', r = t :: r' → t ∉ l
def st4 : List W := [wAnd]
def st3 : List W := [wAnd, wOr]
def st2 : List W := [wAnd, wOr, wUntil, wSince]
def st1 : List W := [wAnd, wOr, wUntil, wSince, wImp]
theorem noS_ne {l r : List W} {s : W} (h : noS l r) (hs : s ∈ l) : ∀ r', r ≠ s :: r' := fun r' e => h s r' e hs
theorem noS_cons {l r : List W} {s : W} (h : s ∉ l) : noS l (s :: r) := fun t r' e => by cases e; exact h
theorem noS_sub {l l' r : List W} (h : noS l' r) (hs : ∀ x ∈ l, x ∈ l') : noS l r := fun t r' e hm => h t r' e (hs t hm)
/-- What is read at each level, with the fuel N. -/
def P5 (p : P Form) (X : List W) (t : Form) : Prop := ∀ r, p (X ++ r) = .ok t r
def P4 (p : P Form) (X : List W) (t : Form) : Prop := ∀ n r, X.length < n → ∃ m, n ≤ m + X.length ∧ chainP 5 wAnd p n (X ++ r) = loopP 5 wAnd p m t r
def P3 (p : P Form) (N : Nat) (X : List W) (t : Form) : Prop := ∀ n r, X.length < n → noS st4 r → ∃ m, n ≤ m + X.length ∧ chainP 6 wOr (andP p N) n (X ++ r) = loopP 6 wOr (andP p N) m t r
def P2 (p : P Form) (N : Nat) (X : List W) (t : Form) : Prop := ∀ n r, X.length < n → noS st2 r → timeP (orP p N) n (X ++ r) = .ok t r
def P1 (p : P Form) (N : Nat) (X : List W) (t : Form) : Prop := ∀ n r, X.length < n → noS st1 r → impP (tP p N) n (X ++ r) = .ok t r
def P0 (p : P Form) (N : Nat) (X : List W) (t : Form) : Prop := ∀ n r, X.length < n → noS st1 r → ∃ m, n ≤ m + X.length ∧ chainP 8 wIff (iP p N) n (X ++ r) = loopP 8 wIff (iP p N) m t r
section
variable {p : P Form} {N n m : Nat} {X Y : List W} {t u : Form} {r : List W}
theorem loop_end {op : Int} {s : W} (hm : 0 < m) (h : ∀ r', r ≠ s :: r') : loopP op s p m t r = .ok t r := by
  obtain ⟨k, rfl⟩ : ∃ k, m = k + 1 := ⟨m - 1, by omega⟩
  simp only [loopP, bind, take_not' h, Bool.false_eq_true, if_false, ret]
theorem loop_go {op : Int} {s : W} (hm : 0 < m) {r' : List W} (h : p r = .ok u r') : loopP op s p m t (s :: r) = loopP op s p (m - 1) (bin op 0 0 0 t u) r' := by
  obtain ⟨k, rfl⟩ : ∃ k, m = k + 1 := ⟨m - 1, by omega⟩
  simp only [loopP, bind, take_yes, if_true, h, Nat.add_sub_cancel]
theorem chain_in {op : Int} {s : W} {ts : List W} (h : p ts = .ok t r) : chainP op s p n ts = loopP op s p n t r := by
  simp only [chainP, bind, h]
theorem P5.p4 (h : P5 p X t) : P4 p X t := fun n r _ => ⟨n, by omega, chain_in (h r)⟩
theorem P4.end_ (h : P4 p X t) {n : Nat} {r : List W} (hn : X.length < n) (hr : noS st4 r) : chainP 5 wAnd p n (X ++ r) = .ok t r := by
  obtain ⟨m, h1, h2⟩ := h n r hn
  rw [h2]
  exact loop_end (by omega) (noS_ne hr (by decide))
theorem P4.and_ (h : P4 p X t) (h' : P5 p Y u) : P4 p (X ++ wAnd :: Y) (bin 5 0 0 0 t u) := fun n r hn => by
  simp only [List.length_append, List.length_cons] at hn
  obtain ⟨m, h1, h2⟩ := h n (wAnd :: (Y ++ r)) (by omega)
  refine ⟨m - 1, by simp only [List.length_append, List.length_cons]; omega, ?_⟩
  rw [List.append_assoc, List.cons_append, h2]
  exact loop_go (by omega) (h' r)
theorem P4.p3 (h : P4 p X t) (hN : X.length < N) : P3 p N X t := fun n r _ hr => ⟨n, by omega, chain_in (h.end_ hN hr)⟩
theorem P3.end_ (h : P3 p N X t) {n : Nat} {r : List W} (hn : X.length < n) (hr : noS st3 r) : chainP 6 wOr (andP p N) n (X ++ r) = .ok t r := by
  obtain ⟨m, h1, h2⟩ := h n r hn (noS_sub hr (by decide))
  rw [h2]
  exact loop_end (by omega) (noS_ne hr (by decide))
theorem P3.or_ (h : P3 p N X t) (h' : P4 p Y u) (hN : Y.length < N) : P3 p N (X ++ wOr :: Y) (bin 6 0 0 0 t u) := fun n r hn hr => by
  simp only [List.length_append, List.length_cons] at hn
  obtain ⟨m, h1, h2⟩ := h n (wOr :: (Y ++ r)) (by omega) (noS_cons (by decide))
  refine ⟨m - 1, by simp only [List.length_append, List.length_cons]; omega, ?_⟩
  rw [List.append_assoc, List.cons_append, h2]
  exact loop_go (by omega) (h'.end_ hN hr)
theorem P3.p2 (h : P3 p N X t) (hN : X.length < N) : P2 p N X t := fun n r hn hr => by
  obtain ⟨k, rfl⟩ : ∃ k, n = k + 1 := ⟨n - 1, by omega⟩
  exact time_pass (h.end_ hN (noS_sub hr (by decide))) (noS_ne hr (by decide)) (noS_ne hr (by decide))
theorem P3.until_ (h : P3 p N X t) (hN : X.length < N) (h' : P2 p N Y u) : P2 p N (X ++ wUntil :: Y) (bin 19 0 0 0 t u) := fun n r hn hr => by
  obtain ⟨k, rfl⟩ : ∃ k, n = k + 1 := ⟨n - 1, by omega⟩
  simp only [List.length_append, List.length_cons] at hn
  rw [List.append_assoc, List.cons_append]
  exact time_until (h.end_ hN (noS_cons (by decide))) (h' k r (by omega) hr)
theorem P3.since_ (h : P3 p N X t) (hN : X.length < N) (h' : P2 p N Y u) : P2 p N (X ++ wSince :: Y) (bin 21 0 0 0 t u) := fun n r hn hr => by
  obtain ⟨k, rfl⟩ : ∃ k, n = k + 1 := ⟨n - 1, by omega⟩
  simp only [List.length_append, List.length_cons] at hn
  rw [List.append_assoc, List.cons_append]
  exact time_since (h.end_ hN (noS_cons (by decide))) (h' k r (by omega) hr)
theorem P2.p1 (h : P2 p N X t) (hN : X.length < N) : P1 p N X t := fun n r hn hr => by
  obtain ⟨k, rfl⟩ : ∃ k, n = k + 1 := ⟨n - 1, by omega⟩
  exact imp_pass (h N r hN (noS_sub hr (by decide))) (noS_ne hr (by decide))
theorem P2.imp_ (h : P2 p N X t) (hN : X.length < N) (h' : P1 p N Y u) : P1 p N (X ++ wImp :: Y) (bin 7 0 0 0 t u) := fun n r hn hr => by
  obtain ⟨k, rfl⟩ : ∃ k, n = k + 1 := ⟨n - 1, by omega⟩
  simp only [List.length_append, List.length_cons] at hn
  rw [List.append_assoc, List.cons_append]
  exact imp_one (h N (wImp :: (Y ++ r)) hN (noS_cons (by decide))) (h' k r (by omega) hr)
theorem P1.p0 (h : P1 p N X t) (hN : X.length < N) : P0 p N X t := fun n r _ hr => ⟨n, by omega, chain_in (h N r hN hr)⟩
theorem P0.end_ (h : P0 p N X t) (hN : X.length < N) {r : List W} (hr : stopR r) : fP p N (X ++ r) = .ok t r := by
  obtain ⟨m, h1, h2⟩ := h N r hN (noS_sub hr (by decide))
  exact h2.trans (loop_end (by omega) (stop_ne hr (by decide)))
theorem P0.iff_ (h : P0 p N X t) (h' : P1 p N Y u) (hN : Y.length < N) : P0 p N (X ++ wIff :: Y) (bin 8 0 0 0 t u) := fun n r hn hr => by
  simp only [List.length_append, List.length_cons] at hn
  obtain ⟨m, h1, h2⟩ := h n (wIff :: (Y ++ r)) (by omega) (noS_cons (by decide))
  refine ⟨m - 1, by simp only [List.length_append, List.length_cons]; omega, ?_⟩
  rw [List.append_assoc, List.cons_append, h2]
  exact loop_go (by omega) (h' N r hN hr)
/-- What is read at the level L. -/
def Lv (p : P Form) (N L : Nat) (X : List W) (t : Form) : Prop :=
  if L = 5 then P5 p X t else if L = 4 then P4 p X t else if L = 3 then P3 p N X t else if L = 2 then P2 p N X t else if L = 1 then P1 p N X t else P0 p N X t
theorem Lv.down {L M : Nat} (h : Lv p N L X t) (hN : X.length < N) (hL : L ≤ 5) (hM : M ≤ L) : Lv p N M X t := by
  have h4 : Lv p N 5 X t → Lv p N 4 X t := fun h => P5.p4 h
  have h3 : Lv p N 4 X t → Lv p N 3 X t := fun h => P4.p3 h hN
  have h2 : Lv p N 3 X t → Lv p N 2 X t := fun h => P3.p2 h hN
  have h1 : Lv p N 2 X t → Lv p N 1 X t := fun h => P2.p1 h hN
  have h0 : Lv p N 1 X t → Lv p N 0 X t := fun h => P1.p0 h hN
  have hl : L = 5 ∨ L = 4 ∨ L = 3 ∨ L = 2 ∨ L = 1 ∨ L = 0 := by omega
  have hm : M = 5 ∨ M = 4 ∨ M = 3 ∨ M = 2 ∨ M = 1 ∨ M = 0 := by omega
  rcases hl with rfl | rfl | rfl | rfl | rfl | rfl <;> rcases hm with rfl | rfl | rfl | rfl | rfl | rfl <;> first | exact absurd hM (by decide) | exact h | exact h4 h | exact h3 h | exact h2 h | exact h1 h | exact h0 h | exact h3 (h4 h) | exact h2 (h3 h) | exact h1 (h2 h) | exact h0 (h1 h) | exact h2 (h3 (h4 h)) | exact h1 (h2 (h3 h)) | exact h0 (h1 (h2 h)) | exact h1 (h2 (h3 (h4 h))) | exact h0 (h1 (h2 (h3 h))) | exact h0 (h1 (h2 (h3 (h4 h))))
end
section
variable {S : Sig} {N : Nat} {X : List W} {t : Form}
/-- Parentheses. -/
theorem Lv.paren (h : Lv (prefP S N) N 0 X t) (hN : X.length < N) : Lv (prefP S (N + 1)) (N + 1) 5 (wL :: (X ++ [wR])) t := fun r => by
  show operP S (formP S N) (prefP S N) N ((wL :: (X ++ [wR])) ++ r) = _
  unfold operP
  rw [List.cons_append, byTok_ok (p := body S (formP S N) (prefP S N) N .par) (by rw [show kindE S wL = .ok .par from rfl])]
  show parP (formP S N) _ = _
  have hs : stopR (wR :: r) := fun x r' e => by cases e; decide
  have hf : formP S N (X ++ (wR :: r)) = .ok t (wR :: r) := P0.end_ h hN hs
  rw [List.append_assoc]
  simp only [List.singleton_append]
  simp only [parP, bind, hf, want_yes', ret]
end
end Ps
namespace Go.Proofs.YtbidfbojealmlaaGreatDoor
open Go.RowKit
open Fm (own usesX usesY usesAgent usesFact usesGroup usesEvent)
open Fm.Form
open Ps (W)

/-- The operator of a formula; the levels of operators, and those that their operands need. -/
def top : Fm.Form → Int
  | leaf op _ _ _ => op
  | un op _ _ _ _ => op
  | bin op _ _ _ _ _ => op
def lvO (op : Int) : Nat := if op = 5 then 4 else if op = 6 then 3 else if op = 19 ∨ op = 21 then 2 else if op = 7 then 1 else if op = 8 then 0 else 5
def ltO (op : Int) : Nat := if op = 5 then 4 else if op = 6 then 3 else if op = 19 ∨ op = 21 then 3 else if op = 7 then 2 else 0
def rtO (op : Int) : Nat := if op = 5 then 5 else if op = 6 then 4 else if op = 19 ∨ op = 21 then 2 else 1
def sgL (op : Int) : List UInt8 := if op = 5 then [32, 38, 32] else if op = 6 then [32, 124, 32] else if op = 19 then [32, 117, 110, 116, 105, 108, 32] else if op = 21 then [32, 115, 105, 110, 99, 101, 32] else if op = 7 then [32, 45, 62, 32] else [32, 60, 45, 62, 32]
def sgW (op : Int) : W := if op = 5 then Ps.wAnd else if op = 6 then Ps.wOr else if op = 19 then Ps.wUntil else if op = 21 then Ps.wSince else if op = 7 then Ps.wImp else Ps.wIff
def nmB (l : List ByteArray) (i : Int) : ByteArray := l.getD i.toNat ⟨#[]⟩
def digW (e : Int) : W := ⟨#[UInt8.ofNat (48 + e.toNat)]⟩
def commas : List W → List W
  | [] => []
  | [x] => [x]
  | x :: y :: r => x :: Ps.wComma :: commas (y :: r)
def parW (own level : Nat) (l : List W) : List W := if level ≤ own then l else Ps.wL :: (l ++ [Ps.wR])
def parL (own level : Nat) (l : List UInt8) : List UInt8 := if level ≤ own then l else 40 :: (l ++ [41])
def hdW (S : Sg) (op i e g : Int) : List W :=
  if op = 4 then [Ps.wNot] else if op = 9 then [Ps.wK, Ps.wLB, nmB S.A i, Ps.wRB] else if op = 10 then [Ps.wM, Ps.wLB, nmB S.A i, Ps.wRB] else if op = 15 then [Ps.wS, Ps.wLB, nmB S.A i, Ps.wRB]
  else if op = 11 then Ps.wE :: Ps.wLB :: (commas (sel g.toNat S.A 0) ++ [Ps.wRB]) else if op = 12 then Ps.wD :: Ps.wLB :: (commas (sel g.toNat S.A 0) ++ [Ps.wRB])
  else if op = 17 then [Ps.wLB, nmB S.C i, Ps.wDot, digW e, Ps.wRB] else if op = 18 then [Ps.wNext] else [Ps.wPrev]
def grL (S : Sg) (g : Int) : List UInt8 := (joinC (sel g.toNat S.A 0)).data.toList
def hdL (S : Sg) (op i e g : Int) : List UInt8 :=
  if op = 4 then [126] else if op = 9 then [75, 91] ++ (nmB S.A i).data.toList ++ [93] else if op = 10 then [77, 91] ++ (nmB S.A i).data.toList ++ [93] else if op = 15 then [83, 91] ++ (nmB S.A i).data.toList ++ [93]
  else if op = 11 then [69, 91] ++ grL S g ++ [93] else if op = 12 then [68, 91] ++ grL S g ++ [93]
  else if op = 17 then [91] ++ (nmB S.C i).data.toList ++ [46] ++ (digW e).data.toList ++ [93] else if op = 18 then [110, 101, 120, 116, 32] else [112, 114, 101, 118, 32]
def cnW (S : Sg) (op i g : Int) : List W := if op = 13 then Ps.wC :: Ps.wLB :: commas (sel g.toNat S.A 0) else [Ps.wB, Ps.wLB, nmB S.A i]
def cnL (S : Sg) (op i g : Int) : List UInt8 := if op = 13 then [67, 91] ++ grL S g else [66, 91] ++ (nmB S.A i).data.toList
def cdW (t : Fm.Form) (l : List W) : List W := if top t = 1 then [] else Ps.wOr :: l
def cdL (t : Fm.Form) (l : List UInt8) : List UInt8 := if top t = 1 then [] else 124 :: l
/-- The tokens of a formula. -/
def prW (S : Sg) : Fm.Form → List W
  | leaf op i _ _ => if op = 1 then [Ps.wTrue] else if op = 2 then [Ps.wFalse] else [nmB S.F i]
  | un op i e g x => hdW S op i e g ++ parW (lvO (top x)) 5 (prW S x)
  | bin op i _ g x y => if op = 16 then Ps.wLB :: Ps.wBang :: (prW S x ++ Ps.wRB :: parW (lvO (top y)) 5 (prW S y))
    else if op = 13 ∨ op = 14 then cnW S op i g ++ (cdW x (prW S x) ++ Ps.wRB :: parW (lvO (top y)) 5 (prW S y))
    else parW (lvO (top x)) (ltO op) (prW S x) ++ sgW op :: parW (lvO (top y)) (rtO op) (prW S y)
/-- The text of a formula. -/
def prL (S : Sg) : Fm.Form → List UInt8
  | leaf op i _ _ => if op = 1 then [116, 114, 117, 101] else if op = 2 then [102, 97, 108, 115, 101] else (nmB S.F i).data.toList
  | un op i e g x => hdL S op i e g ++ parL (lvO (top x)) 5 (prL S x)
  | bin op i _ g x y => if op = 16 then [91, 33] ++ (prL S x ++ ([93] ++ parL (lvO (top y)) 5 (prL S y)))
    else if op = 13 ∨ op = 14 then cnL S op i g ++ (cdL x (prL S x) ++ ([93] ++ parL (lvO (top y)) 5 (prL S y)))
    else parL (lvO (top x)) (ltO op) (prL S x) ++ (sgL op ++ parL (lvO (top y)) (rtO op) (prL S y))
/-- A formula whose agents, facts and actions have names. -/
def QS (S : Sg) (op i e g : Int) : Prop := Ps.Q S.A.length S.F.length op i e g ∧ (usesEvent op = true → i < S.C.length)
def Nm (S : Sg) : Fm.Form → Prop
  | leaf op i e g => usesX op = false ∧ QS S op i e g
  | un op i e g x => usesX op = true ∧ usesY op = false ∧ QS S op i e g ∧ Nm S x
  | bin op i e g x y => usesY op = true ∧ QS S op i e g ∧ Nm S x ∧ Nm S y
section
variable {S : Sg} {op i e g : Int}
theorem leaf_cases (hx : usesX op = false) (q : QS S op i e g) : ((op = 1 ∨ op = 2) ∧ i = 0 ∧ e = 0 ∧ g = 0) ∨ (op = 3 ∧ e = 0 ∧ g = 0 ∧ ∃ a : Nat, i = a ∧ a < S.F.length) := by
  obtain ⟨⟨ho, _, hf, _⟩, _⟩ := q
  have hop : op = 1 ∨ op = 2 ∨ op = 3 := by
    have : Fm.isOp op = true := by unfold own at ho; simp only [Bool.and_eq_true] at ho; exact ho.1.1
    simp only [Fm.isOp, usesX, Bool.and_eq_true, decide_eq_true_eq, Bool.and_eq_false_iff, decide_eq_false_iff_not] at this hx
    omega
  rcases hop with rfl | rfl | rfl
  · simp [own, Fm.isOp, Fm.zeroed, Fm.ranged, Fm.within, usesFact, usesAgent, usesEvent, usesGroup] at ho
    exact .inl ⟨.inl rfl, by omega, by omega, by omega⟩
  · simp [own, Fm.isOp, Fm.zeroed, Fm.ranged, Fm.within, usesFact, usesAgent, usesEvent, usesGroup] at ho
    exact .inl ⟨.inr rfl, by omega, by omega, by omega⟩
  · simp [own, Fm.isOp, Fm.zeroed, Fm.ranged, Fm.within, usesFact, usesAgent, usesEvent, usesGroup] at ho
    have := hf rfl
    exact .inr ⟨rfl, by omega, by omega, i.toNat, by omega, by omega⟩
theorem un_cases (hx : usesX op = true) (hy : usesY op = false) (q : QS S op i e g) :
    ((op = 4 ∨ op = 18 ∨ op = 20) ∧ i = 0 ∧ e = 0 ∧ g = 0) ∨ ((op = 9 ∨ op = 10 ∨ op = 15) ∧ e = 0 ∧ g = 0 ∧ ∃ a : Nat, i = a ∧ a < S.A.length)
    ∨ ((op = 11 ∨ op = 12) ∧ i = 0 ∧ e = 0 ∧ ∃ n : Nat, g = n ∧ 0 < n ∧ n < 2 ^ S.A.length) ∨ (op = 17 ∧ g = 0 ∧ ∃ a b : Nat, i = a ∧ e = b ∧ a < S.C.length ∧ b < 8) := by
  obtain ⟨⟨ho, ha, _, hg⟩, he⟩ := q
  have hop : op = 4 ∨ op = 9 ∨ op = 10 ∨ op = 11 ∨ op = 12 ∨ op = 15 ∨ op = 17 ∨ op = 18 ∨ op = 20 := by
    simp only [usesX, usesY, Bool.and_eq_true, decide_eq_true_eq, Bool.and_eq_false_iff, Bool.or_eq_false_iff, decide_eq_false_iff_not] at hx hy
    omega
  have hgn : ∀ k : Int, k < 2 ^ S.A.length → 1 ≤ k → ∃ n : Nat, k = n ∧ 0 < n ∧ n < 2 ^ S.A.length := fun k h1 h2 => by
    obtain ⟨n, rfl⟩ := Int.eq_ofNat_of_zero_le (show 0 ≤ k by omega)
    exact ⟨n, rfl, by omega, by exact_mod_cast h1⟩
  rcases hop with rfl | rfl | rfl | rfl | rfl | rfl | rfl | rfl | rfl <;> simp [own, Fm.isOp, Fm.zeroed, Fm.ranged, Fm.within, usesFact, usesAgent, usesEvent, usesGroup] at ho
  · exact .inl ⟨.inl rfl, by omega, by omega, by omega⟩
  · have := ha rfl
    exact .inr (.inl ⟨.inl rfl, by omega, by omega, i.toNat, by omega, by omega⟩)
  · have := ha rfl
    exact .inr (.inl ⟨.inr (.inl rfl), by omega, by omega, i.toNat, by omega, by omega⟩)
  · exact .inr (.inr (.inl ⟨.inl rfl, by omega, by omega, hgn g (hg rfl) (by omega)⟩))
  · exact .inr (.inr (.inl ⟨.inr rfl, by omega, by omega, hgn g (hg rfl) (by omega)⟩))
  · have := ha rfl
    exact .inr (.inl ⟨.inr (.inr rfl), by omega, by omega, i.toNat, by omega, by omega⟩)
  · have := he rfl
    exact .inr (.inr (.inr ⟨rfl, by omega, i.toNat, e.toNat, by omega, by omega, by omega, by omega⟩))
  · exact .inl ⟨.inr (.inl rfl), by omega, by omega, by omega⟩
  · exact .inl ⟨.inr (.inr rfl), by omega, by omega, by omega⟩
theorem bin_cases (hy : usesY op = true) (q : QS S op i e g) :
    ((op = 5 ∨ op = 6 ∨ op = 7 ∨ op = 8 ∨ op = 19 ∨ op = 21 ∨ op = 16) ∧ i = 0 ∧ e = 0 ∧ g = 0)
    ∨ (op = 13 ∧ i = 0 ∧ e = 0 ∧ ∃ n : Nat, g = n ∧ 0 < n ∧ n < 2 ^ S.A.length) ∨ (op = 14 ∧ e = 0 ∧ g = 0 ∧ ∃ a : Nat, i = a ∧ a < S.A.length) := by
  obtain ⟨⟨ho, ha, _, hg⟩, he⟩ := q
  have hop : op = 5 ∨ op = 6 ∨ op = 7 ∨ op = 8 ∨ op = 13 ∨ op = 14 ∨ op = 16 ∨ op = 19 ∨ op = 21 := by
    simp only [usesY, Bool.and_eq_true, Bool.or_eq_true, decide_eq_true_eq] at hy
    omega
  have hgn : ∀ k : Int, k < 2 ^ S.A.length → 1 ≤ k → ∃ n : Nat, k = n ∧ 0 < n ∧ n < 2 ^ S.A.length := fun k h1 h2 => by
    obtain ⟨n, rfl⟩ := Int.eq_ofNat_of_zero_le (show 0 ≤ k by omega)
    exact ⟨n, rfl, by omega, by exact_mod_cast h1⟩
  rcases hop with rfl | rfl | rfl | rfl | rfl | rfl | rfl | rfl | rfl <;> simp [own, Fm.isOp, Fm.zeroed, Fm.ranged, Fm.within, usesFact, usesAgent, usesEvent, usesGroup] at ho
  · exact .inl ⟨by omega, by omega, by omega, by omega⟩
  · exact .inl ⟨by omega, by omega, by omega, by omega⟩
  · exact .inl ⟨by omega, by omega, by omega, by omega⟩
  · exact .inl ⟨by omega, by omega, by omega, by omega⟩
  · exact .inr (.inl ⟨rfl, by omega, by omega, hgn g (hg rfl) (by omega)⟩)
  · have := ha rfl
    exact .inr (.inr ⟨rfl, by omega, by omega, i.toNat, by omega, by omega⟩)
  · exact .inl ⟨by omega, by omega, by omega, by omega⟩
  · exact .inl ⟨by omega, by omega, by omega, by omega⟩
  · exact .inl ⟨by omega, by omega, by omega, by omega⟩
end
theorem top_one {S : Sg} {t : Fm.Form} (h : Nm S t) (h1 : top t = 1) : t = leaf 1 0 0 0 := by
  cases t with
  | leaf op i e g =>
    obtain rfl : op = 1 := h1
    rcases leaf_cases h.1 h.2 with ⟨_, rfl, rfl, rfl⟩ | ⟨h, _⟩
    · rfl
    · cases h
  | un op i e g x => obtain rfl : op = 1 := h1; have := h.1; cases this
  | bin op i e g x y => obtain rfl : op = 1 := h1; have := h.1; cases this
/-- A name of the signature. -/
structure NameOk (x : ByteArray) : Prop where
  name : nameB x = true
  res : reserved x = false
theorem all_name {S : Sg} (h : checkS S = 0) {x : ByteArray} (hx : x ∈ S.all) : NameOk x := ⟨((checkS_ok h).name x hx).1, ((checkS_ok h).name x hx).2⟩
theorem nameL_head {l : List UInt8} (h : nameL l = true) : ∃ b r, l = b :: r ∧ 97 ≤ b.toNat ∧ b.toNat ≤ 122 ∧ (∀ c ∈ l, isNC c = true) ∧ l.length ≤ 8 := by
  unfold nameL at h
  simp only [Bool.and_eq_true, decide_eq_true_eq, List.all_eq_true] at h
  obtain ⟨⟨h1, h8, h2, h3⟩, h4⟩ := h
  cases l with
  | nil => simp at h1
  | cons b r => exact ⟨b, r, rfl, by simpa using h2, by simpa using h3, h4, h8⟩
theorem nc_word (b : UInt8) (h : isNC b = true) : wordB b = true := by
  have hh : ∀ n : Fin 256, isNC (UInt8.ofNat n.val) = true → wordB (UInt8.ofNat n.val) = true := by decide +kernel
  have := hh ⟨b.toNat, b.toNat_lt⟩
  simp only [UInt8.ofNat_toNat] at this
  exact this h
theorem tw_self {p : UInt8 → Bool} : ∀ {l : List UInt8}, (∀ c ∈ l, p c = true) → l.takeWhile p = l
  | [], _ => rfl
  | a :: l, h => by rw [List.takeWhile_cons, if_pos (h a (by simp)), tw_self fun c hc => h c (by simp [hc])]
theorem wd_name {x : ByteArray} (h : NameOk x) : Wd x.data.toList := by
  obtain ⟨b, r, e, h1, h2, h3, _⟩ := nameL_head h.name
  refine ⟨?_, by rw [e]; simp, fun c s e2 => ?_⟩
  · unfold lenT
    rw [e] at h3 ⊢
    have p1 : ¬ Lib.hasPrefix (b :: r) [60, 45, 62] = true := fun hp => by have := pre_head hp; subst this; exact absurd h1 (by decide)
    have p2 : ¬ Lib.hasPrefix (b :: r) [45, 62] = true := fun hp => by have := pre_head hp; subst this; exact absurd h1 (by decide)
    rw [if_neg p1, if_neg p2]
    have p3 : b ∉ signs := fun hm => by
      simp only [signs, List.mem_cons, List.not_mem_nil, or_false] at hm
      rcases hm with rfl | rfl | rfl | rfl | rfl | rfl | rfl | rfl | rfl | rfl <;> first | exact absurd h1 (by decide) | exact absurd h2 (by decide)
    have p4 : letN b.toNat = true := by unfold letN; simp; omega
    simp only [if_neg p3, if_pos p4]
    rw [tw_self fun c hc => nc_word c (h3 c hc)]
  · rw [e] at e2
    cases e2
    unfold spaceB
    simp only [Bool.or_eq_false_iff, beq_eq_false_iff_ne]
    refine ⟨⟨?_, ?_⟩, ?_⟩ <;> (rintro rfl; exact absurd h1 (by decide))
theorem name_hd {x : ByteArray} (h : NameOk x) : 97 ≤ Ps.hd x ∧ Ps.hd x ≤ 122 := by
  obtain ⟨b, r, e, h1, h2, _⟩ := nameL_head h.name
  unfold Ps.hd
  rw [e]
  exact ⟨h1, h2⟩
theorem name_not {x : ByteArray} (h : NameOk x) : x ∉ [Ps.wTrue, Ps.wFalse, Ps.wNext, Ps.wPrev, Ps.wUntil, Ps.wSince, Ps.wNot, Ps.wL, Ps.wK, Ps.wM, Ps.wS, Ps.wB, Ps.wE, Ps.wD, Ps.wC, Ps.wLB, Ps.wBang, Ps.wComma, Ps.wAnd, Ps.wOr, Ps.wR, Ps.wRB, Ps.wImp, Ps.wIff, Ps.wDot] := fun hm => by
  have h1 := name_hd h
  have h2 : x ∉ resW := fun hr => by have := h.res; unfold reserved at this; rw [(Lib.containsS_iff _ _).2 hr] at this; cases this
  simp only [List.mem_cons, List.not_mem_nil, or_false] at hm
  rcases hm with rfl | rfl | rfl | rfl | rfl | rfl | rfl | rfl | rfl | rfl | rfl | rfl | rfl | rfl | rfl | rfl | rfl | rfl | rfl | rfl | rfl | rfl | rfl | rfl | rfl <;> first | exact absurd h1 (by decide) | exact h2 (by decide)
theorem name_at {S : Sg} (h : checkS S = 0) {l : List ByteArray} (hl : l.Nodup) (hs : ∀ x ∈ l, x ∈ S.all) {a : Nat} {x : ByteArray} (hx : l[a]? = some x) : Ps.nameE (findS S l) x = .ok a := by
  have hn := all_name h (hs x (List.mem_of_getElem? hx))
  have hd := name_hd hn
  have hno := name_not hn
  have hf : findS S l x = a := by rw [findS_ok h]; exact idx_at hl hx
  unfold Ps.nameE
  rw [if_neg, hf, if_neg (by omega)]
  · rfl
  · rintro (h1 | h1)
    · unfold letN at h1; simp at h1; omega
    · refine hno ?_
      simp only [Ps.specials, List.mem_cons, List.not_mem_nil, or_false] at h1 ⊢
      rcases h1 with h | h | h | h | h | h | h | h | h | h | h | h | h <;> simp [h]
section
variable {S : Sg}
theorem nodup_parts (h : checkS S = 0) : S.A.Nodup ∧ S.F.Nodup ∧ S.C.Nodup := by
  have := (checkS_ok h).nodup
  unfold Sg.all at this
  rw [List.nodup_append, List.nodup_append] at this
  exact ⟨this.1.1, this.1.2.1, this.2.1⟩
theorem subA : ∀ x ∈ S.A, x ∈ S.all := fun x h => by unfold Sg.all; simp [h]
theorem subF : ∀ x ∈ S.F, x ∈ S.all := fun x h => by unfold Sg.all; simp [h]
theorem subC : ∀ x ∈ S.C, x ∈ S.all := fun x h => by unfold Sg.all; simp [h]
theorem nm_at {l : List ByteArray} {a : Nat} (h : a < l.length) : l[a]? = some (nmB l a) := by
  unfold nmB
  rw [List.getD_eq_getElem?_getD, Int.toNat_natCast, List.getElem?_eq_getElem h]
  rfl
theorem nm_mem {l : List ByteArray} {a : Nat} (h : a < l.length) : nmB l a ∈ l := List.mem_of_getElem? (nm_at h)
/-- The names of a group are read as the group. -/
theorem low_bits {g i : Nat} (h : g.testBit i = true) : (g % 2 ^ i) ||| 2 ^ i = g % 2 ^ (i + 1) ∧ (g % 2 ^ i).testBit i = false := by
  constructor
  · apply Nat.eq_of_testBit_eq
    intro j
    rw [Nat.testBit_or, Nat.testBit_mod_two_pow, Nat.testBit_mod_two_pow, Nat.testBit_two_pow]
    by_cases h1 : j = i
    · subst h1; simp [h]
    · by_cases h2 : j < i
      · simp [h2, show j < i + 1 by omega, show ¬ i = j by omega]
      · simp [h2, show ¬ j < i + 1 by omega, show ¬ i = j by omega]
  · rw [Nat.testBit_mod_two_pow]; simp
theorem low_no {g i : Nat} (h : g.testBit i = false) : g % 2 ^ (i + 1) = g % 2 ^ i := by
  apply Nat.eq_of_testBit_eq
  intro j
  rw [Nat.testBit_mod_two_pow, Nat.testBit_mod_two_pow]
  by_cases h1 : j = i
  · subst h1; simp [h]
  · by_cases h2 : j < i
    · simp [h2, show j < i + 1 by omega]
    · simp [h2, show ¬ j < i + 1 by omega]
theorem sel_none (g : Nat) : ∀ (l : List ByteArray) (i : Nat), sel g l i = [] → g % 2 ^ (i + l.length) = g % 2 ^ i
  | [], i, _ => by simp
  | x :: l, i, h => by
    unfold sel at h
    cases hb : g.testBit i with
    | true => rw [if_pos hb] at h; cases h
    | false =>
      rw [if_neg (by simp [hb])] at h
      rw [List.length_cons, show i + (l.length + 1) = (i + 1) + l.length by omega, sel_none g l (i + 1) h, low_no hb]
theorem group_sel (h : checkS S = 0) (g : Nat) (hg : g < 2 ^ S.A.length) (R : List W) (hR : ∀ r', R ≠ Ps.wComma :: r') : ∀ (l : List ByteArray) (i n : Nat), S.A.drop i = l → sel g l i ≠ [] → l.length ≤ n →
    Ps.groupP (findS S S.A) n (g % 2 ^ i) (commas (sel g l i) ++ R) = .ok g R
  | [], i, n, _, hs, _ => absurd rfl hs
  | x :: l, i, n, hd, hs, hn => by
    have hx : S.A[i]? = some x := by
      have : (S.A.drop i)[0]? = some x := by rw [hd]; rfl
      rwa [List.getElem?_drop, Nat.add_zero] at this
    have hd' : S.A.drop (i + 1) = l := by rw [← List.drop_drop, hd]; rfl
    have hlen : i + (l.length + 1) = S.A.length := by
      have := congrArg List.length hd
      rw [List.length_drop, List.length_cons] at this
      have := (List.getElem?_eq_some_iff.1 hx).1
      omega
    obtain ⟨m, rfl⟩ : ∃ m, n = m + 1 := ⟨n - 1, by simp at hn; omega⟩
    simp only [List.length_cons] at hn
    cases hb : g.testBit i with
    | false =>
      have e1 : sel g (x :: l) i = sel g l (i + 1) := by rw [sel, if_neg (by simp [hb])]
      rw [e1] at hs ⊢
      rw [← low_no hb]
      exact group_sel h g hg R hR l (i + 1) (m + 1) hd' hs (by omega)
    | true =>
      have e1 : sel g (x :: l) i = x :: sel g l (i + 1) := by rw [sel, if_pos hb]
      obtain ⟨b1, b2⟩ := low_bits hb
      have hn1 := name_at h (nodup_parts h).1 subA hx
      have hm : ∀ ts, Ps.mem (findS S S.A) (g % 2 ^ i) (x :: ts) = .ok i ts := fun ts => Ps.tok_ok (by simp only [Ps.memE, hn1, b2, Bool.false_eq_true, if_false]) ts
      rw [e1]
      cases hq : sel g l (i + 1) with
      | nil =>
        have e2 : g % 2 ^ (i + 1) = g := by
          rw [← sel_none g l (i + 1) hq, show i + 1 + l.length = S.A.length by omega]
          exact Nat.mod_eq_of_lt hg
        show Ps.groupP (findS S S.A) (m + 1) (g % 2 ^ i) (x :: R) = _
        have ht : Ps.take Ps.wComma R = .ok false R := Ps.take_not' hR
        simp only [Ps.groupP, Ps.bind, hm, ht, Bool.false_eq_true, if_false, Ps.ret]
        rw [b1, e2]
      | cons y q =>
        have hr : sel g l (i + 1) ≠ [] := by rw [hq]; simp
        have ih := group_sel h g hg R hR l (i + 1) m hd' hr (by omega)
        rw [hq] at ih
        show Ps.groupP (findS S S.A) (m + 1) (g % 2 ^ i) (x :: Ps.wComma :: (commas (y :: q) ++ R)) = _
        simp only [Ps.groupP, Ps.bind, hm, Ps.take_yes, if_true]
        rw [b1]
        exact ih
theorem sel_some {g : Nat} (h0 : 0 < g) (hg : g < 2 ^ S.A.length) : sel g S.A 0 ≠ [] := fun h => by
  have := sel_none g S.A 0 h
  rw [Nat.zero_add, Nat.mod_eq_of_lt hg] at this
  simp at this
  omega
theorem group_read (h : checkS S = 0) {g n : Nat} (h0 : 0 < g) (hg : g < 2 ^ S.A.length) (hn : S.A.length ≤ n) {R : List W} (hR : ∀ r', R ≠ Ps.wComma :: r') : Ps.groupP (findS S S.A) n 0 (commas (sel g S.A 0) ++ R) = .ok g R := by
  have := group_sel h g hg R hR S.A 0 n rfl (sel_some h0 hg) hn
  rwa [Nat.pow_zero, Nat.mod_one] at this
end
end Go.Proofs.YtbidfbojealmlaaGreatDoor
namespace Go.Proofs.YtbidfbojealmlaaGreatDoor
open Go.RowKit
open Fm (own usesX usesY usesAgent usesFact usesGroup usesEvent)
open Fm.Form
open Ps (W)

theorem hdW_pos (S : Sg) (op i e g : Int) : 0 < (hdW S op i e g).length := by
  unfold hdW
  repeat' split
  all_goals simp
theorem parW_len (o l : Nat) (ts : List W) : ts.length ≤ (parW o l ts).length ∧ (parW o l ts).length ≤ ts.length + 2 := by
  unfold parW
  split
  · omega
  · simp only [List.length_cons, List.length_append, List.length_nil]; omega
theorem prW_pos (S : Sg) : ∀ t, 0 < (prW S t).length
  | leaf op i e g => by unfold prW; repeat' split
                        all_goals simp
  | un op i e g x => by unfold prW; have := hdW_pos S op i e g; simp; omega
  | bin op i e g x y => by
    unfold prW
    split
    · simp
    · split
      · unfold cnW; split <;> simp
      · simp only [List.length_append, List.length_cons]; omega
theorem lvO_le (op : Int) : lvO op ≤ 5 := by unfold lvO; repeat' split
                                             all_goals omega
/-- What is read in parentheses or without. -/
theorem enc_read {S : Sg} {t : Fm.Form} (h : ∀ N, 3 * (prW S t).length < N → Ps.Lv (Ps.prefP (sigP S) N) N (lvO (top t)) (prW S t) t) {N L : Nat} (hL : L ≤ 5) (hN : 3 * (prW S t).length + 1 < N) : Ps.Lv (Ps.prefP (sigP S) N) N L (parW (lvO (top t)) L (prW S t)) t := by
  have hp := prW_pos S t
  have hv := lvO_le (top t)
  unfold parW
  split
  · next hl => exact (h N (by omega)).down (by omega) hv hl
  · obtain ⟨M, rfl⟩ : ∃ M, N = M + 1 := ⟨N - 1, by omega⟩
    have h0 := (h M (by omega)).down (M := 0) (by omega) hv (by omega)
    exact (h0.paren (by omega)).down (by simp; omega) (by omega) hL
section
variable {S : Sg}
theorem name_tok {find : W → Int} {x : W} {a : Nat} (h : Ps.nameE find x = .ok a) (r : List W) : Ps.name find (x :: r) = .ok a r := Ps.tok_ok h r
theorem dig_tok {b : Nat} (h : b < 8) (r : List W) : Ps.number (digW (b : Int) :: r) = .ok b r := by
  refine Ps.tok_ok ?_ r
  have h8 : b = 0 ∨ b = 1 ∨ b = 2 ∨ b = 3 ∨ b = 4 ∨ b = 5 ∨ b = 6 ∨ b = 7 := by omega
  rcases h8 with rfl | rfl | rfl | rfl | rfl | rfl | rfl | rfl <;> rfl
theorem oper_k {form q : Ps.P Fm.Form} {n : Nat} {t : W} {k : Ps.Kind} (h : Ps.kindE (sigP S) t = .ok k) (r : List W) : Ps.operP (sigP S) form q n (t :: r) = Ps.body (sigP S) form q n k r := Ps.byTok_ok (by simp only [h]) r
variable (hS : checkS S = 0)
include hS
theorem ag_at {a : Nat} (h : a < S.A.length) : Ps.nameE (sigP S).ag (nmB S.A a) = .ok a := name_at hS (nodup_parts hS).1 subA (nm_at h)
theorem fa_at {a : Nat} (h : a < S.F.length) : Ps.nameE (sigP S).fa (nmB S.F a) = .ok a := name_at hS (nodup_parts hS).2.1 subF (nm_at h)
theorem ac_at {a : Nat} (h : a < S.C.length) : Ps.nameE (sigP S).ac (nmB S.C a) = .ok a := name_at hS (nodup_parts hS).2.2 subC (nm_at h)
theorem act_not {a : Nat} (h : a < S.C.length) (r : List W) : ∀ r', nmB S.C a :: r ≠ Ps.wBang :: r' := fun r' e => by
  have := name_not (all_name hS (subC _ (nm_mem h)))
  rw [(List.cons.inj e).1] at this
  exact this (by decide)
/-- The tokens of a formula are read as the formula. -/
theorem pr_read : ∀ (t : Fm.Form), Nm S t → ∀ N, 3 * (prW S t).length < N → Ps.Lv (Ps.prefP (sigP S) N) N (lvO (top t)) (prW S t) t
  | leaf op i e g, h, N, hN => by
    have hp := prW_pos S (leaf op i e g)
    obtain ⟨M, rfl⟩ : ∃ M, N = M + 1 := ⟨N - 1, by omega⟩
    rcases leaf_cases h.1 h.2 with ⟨rfl | rfl, rfl, rfl, rfl⟩ | ⟨rfl, rfl, rfl, a, rfl, ha⟩
    · exact fun r => (oper_k (k := .leaf 1 0) rfl r).trans rfl
    · exact fun r => (oper_k (k := .leaf 2 0) rfl r).trans rfl
    · intro r
      have hk : Ps.kindE (sigP S) (nmB S.F a) = .ok (.leaf 3 a) := by
        have hno := name_not (all_name hS (subF _ (nm_mem ha)))
        rw [kind_not (fun hm => hno (by simp only [List.mem_cons, List.not_mem_nil, or_false] at hm ⊢; rcases hm with h | h | h | h | h | h | h | h | h | h | h | h | h | h <;> simp [h])), fa_at hS ha]
      exact (oper_k hk r).trans rfl
  | un op i e g x, h, N, hN => by
    have hp := prW_pos S x
    obtain ⟨M, rfl⟩ : ∃ M, N = M + 1 := ⟨N - 1, by omega⟩
    have ih := pr_read x h.2.2.2
    have hl := hdW_pos S op i e g
    have hpl := parW_len (lvO (top x)) 5 (prW S x)
    have hN' : 3 * (hdW S op i e g).length + 3 * (parW (lvO (top x)) 5 (prW S x)).length < M + 1 := by
      have : (prW S (un op i e g x)).length = (hdW S op i e g).length + (parW (lvO (top x)) 5 (prW S x)).length := by rw [prW, List.length_append]
      omega
    have hx : ∀ r, Ps.prefP (sigP S) M (parW (lvO (top x)) 5 (prW S x) ++ r) = .ok x r := enc_read ih (Nat.le_refl 5) (by omega)
    have e0 : ∀ r, prW S (un op i e g x) ++ r = hdW S op i e g ++ (parW (lvO (top x)) 5 (prW S x) ++ r) := fun r => by rw [prW, List.append_assoc]
    clear hN ih hpl
    generalize parW (lvO (top x)) 5 (prW S x) = X at *
    rcases un_cases h.1 h.2.1 h.2.2.1 with ⟨ho, rfl, rfl, rfl⟩ | ⟨ho, rfl, rfl, a, rfl, ha⟩ | ⟨ho, rfl, rfl, n, rfl, h0, hn⟩ | ⟨rfl, rfl, a, b, rfl, rfl, ha, hb⟩
    · rcases ho with rfl | rfl | rfl
      · exact fun r => by
          rw [e0]
          refine (oper_k (k := .un 4) rfl (X ++ r)).trans ?_
          simp only [Ps.body, Ps.unP, Ps.bind, hx, Ps.ret]
      · exact fun r => by
          rw [e0]
          refine (oper_k (k := .un 18) rfl (X ++ r)).trans ?_
          simp only [Ps.body, Ps.unP, Ps.bind, hx, Ps.ret]
      · exact fun r => by
          rw [e0]
          refine (oper_k (k := .un 20) rfl (X ++ r)).trans ?_
          simp only [Ps.body, Ps.unP, Ps.bind, hx, Ps.ret]
    · have hna := fun r => name_tok (ag_at hS ha) r
      rcases ho with rfl | rfl | rfl
      · exact fun r => by
          rw [e0]
          refine (oper_k (k := .ag 9) rfl (Ps.wLB :: nmB S.A a :: Ps.wRB :: (X ++ r))).trans ?_
          simp only [Ps.body, Ps.agP, Ps.bind, Ps.want_yes', hna, hx, Ps.ret]
      · exact fun r => by
          rw [e0]
          refine (oper_k (k := .ag 10) rfl (Ps.wLB :: nmB S.A a :: Ps.wRB :: (X ++ r))).trans ?_
          simp only [Ps.body, Ps.agP, Ps.bind, Ps.want_yes', hna, hx, Ps.ret]
      · exact fun r => by
          rw [e0]
          refine (oper_k (k := .ag 15) rfl (Ps.wLB :: nmB S.A a :: Ps.wRB :: (X ++ r))).trans ?_
          simp only [Ps.body, Ps.agP, Ps.bind, Ps.want_yes', hna, hx, Ps.ret]
    · have hA := (checkS_ok hS).lA
      have hM : S.A.length ≤ M := by
        rcases ho with rfl | rfl <;> simp [hdW] at hN' <;> omega
      have hgr : ∀ r, Ps.groupP (sigP S).ag M 0 (commas (sel n S.A 0) ++ (Ps.wRB :: r)) = .ok n (Ps.wRB :: r) := fun r => group_read hS h0 hn hM (fun r' e => absurd (List.cons.inj e).1 (by decide))
      rcases ho with rfl | rfl
      · exact fun r => by
          rw [e0]
          have e1 : hdW S 11 0 0 (n : Int) ++ (X ++ r) = Ps.wE :: Ps.wLB :: (commas (sel n S.A 0) ++ (Ps.wRB :: (X ++ r))) := by simp [hdW]
          rw [e1]
          refine (oper_k (k := .gr 11) rfl _).trans ?_
          simp only [Ps.body, Ps.grP, Ps.bind, Ps.want_yes', hgr, hx, Ps.ret]
      · exact fun r => by
          rw [e0]
          have e1 : hdW S 12 0 0 (n : Int) ++ (X ++ r) = Ps.wD :: Ps.wLB :: (commas (sel n S.A 0) ++ (Ps.wRB :: (X ++ r))) := by simp [hdW]
          rw [e1]
          refine (oper_k (k := .gr 12) rfl _).trans ?_
          simp only [Ps.body, Ps.grP, Ps.bind, Ps.want_yes', hgr, hx, Ps.ret]
    · have hna := fun r => name_tok (ac_at hS ha) r
      exact fun r => by
        rw [e0]
        refine (oper_k (k := .dyn) rfl (nmB S.C a :: Ps.wDot :: digW b :: Ps.wRB :: (X ++ r))).trans ?_
        have ht := Ps.take_not' (act_not hS ha (Ps.wDot :: digW b :: Ps.wRB :: (X ++ r)))
        simp only [Ps.body, Ps.dynP, Ps.bind, ht, Bool.false_eq_true, if_false, Ps.actP, Ps.want_yes', hna, dig_tok hb, hx, Ps.ret]
  | bin op i e g x y, h, N, hN => by
    have hpx := prW_pos S x
    have hpy := prW_pos S y
    have ihx := pr_read x h.2.2.1
    have ihy := pr_read y h.2.2.2
    have hlx := fun L => parW_len (lvO (top x)) L (prW S x)
    have hly := fun L => parW_len (lvO (top y)) L (prW S y)
    have hvx := lvO_le (top x)
    obtain ⟨M, rfl⟩ : ∃ M, N = M + 1 := ⟨N - 1, by omega⟩
    have key : ∀ op' : Int, op' ≠ 16 → op' ≠ 13 → op' ≠ 14 → op = op' → (prW S x).length + (prW S y).length + 1 ≤ (prW S (bin op i e g x y)).length ∧ prW S (bin op i e g x y) = parW (lvO (top x)) (ltO op') (prW S x) ++ sgW op' :: parW (lvO (top y)) (rtO op') (prW S y) := by
      rintro op' h1 h2 h3 rfl
      have e : prW S (bin op i e g x y) = parW (lvO (top x)) (ltO op) (prW S x) ++ sgW op :: parW (lvO (top y)) (rtO op) (prW S y) := by
        rw [prW, if_neg h1, if_neg (by omega)]
      refine ⟨?_, e⟩
      rw [e, List.length_append, List.length_cons]
      have := (hlx (ltO op)).1
      have := (hly (rtO op)).1
      omega
    have ex : ∀ L, L ≤ 5 → 3 * (prW S x).length + 1 < M + 1 → Ps.Lv (Ps.prefP (sigP S) (M + 1)) (M + 1) L (parW (lvO (top x)) L (prW S x)) x := fun L hL hn => enc_read ihx hL hn
    have ey : ∀ L, L ≤ 5 → 3 * (prW S y).length + 1 < M + 1 → Ps.Lv (Ps.prefP (sigP S) (M + 1)) (M + 1) L (parW (lvO (top y)) L (prW S y)) y := fun L hL hn => enc_read ihy hL hn
    have hxM : 3 * (prW S x).length < M → ∀ r, Ps.stopR r → Ps.formP (sigP S) M (prW S x ++ r) = .ok x r := fun hn r hr => Ps.P0.end_ ((ihx M hn).down (M := 0) (by omega) hvx (by omega)) (by omega) hr
    have hyM : 3 * (prW S y).length + 1 < M → ∀ r, Ps.prefP (sigP S) M (parW (lvO (top y)) 5 (prW S y) ++ r) = .ok y r := fun hn => enc_read ihy (Nat.le_refl 5) hn
    have sRB : ∀ r, Ps.stopR (Ps.wRB :: r) := fun r t r' e => by cases e; decide
    rcases bin_cases h.1 h.2.1 with ⟨ho, rfl, rfl, rfl⟩ | ⟨rfl, rfl, rfl, n, rfl, h0, hn⟩ | ⟨rfl, rfl, rfl, a, rfl, ha⟩
    · rcases ho with rfl | rfl | rfl | rfl | rfl | rfl | rfl
      · obtain ⟨k1, k2⟩ := key 5 (by decide) (by decide) (by decide) rfl
        rw [k2]
        exact Ps.P4.and_ (ex 4 (by omega) (by omega)) (ey 5 (by omega) (by omega))
      · obtain ⟨k1, k2⟩ := key 6 (by decide) (by decide) (by decide) rfl
        rw [k2]
        exact Ps.P3.or_ (ex 3 (by omega) (by omega)) (ey 4 (by omega) (by omega)) (by have := (hly 4).2; show (parW (lvO (top y)) 4 (prW S y)).length < M + 1; omega)
      · obtain ⟨k1, k2⟩ := key 7 (by decide) (by decide) (by decide) rfl
        rw [k2]
        exact Ps.P2.imp_ (ex 2 (by omega) (by omega)) (by have := (hlx 2).2; show (parW (lvO (top x)) 2 (prW S x)).length < M + 1; omega) (ey 1 (by omega) (by omega))
      · obtain ⟨k1, k2⟩ := key 8 (by decide) (by decide) (by decide) rfl
        rw [k2]
        exact Ps.P0.iff_ (ex 0 (by omega) (by omega)) (ey 1 (by omega) (by omega)) (by have := (hly 1).2; show (parW (lvO (top y)) 1 (prW S y)).length < M + 1; omega)
      · obtain ⟨k1, k2⟩ := key 19 (by decide) (by decide) (by decide) rfl
        rw [k2]
        exact Ps.P3.until_ (ex 3 (by omega) (by omega)) (by have := (hlx 3).2; show (parW (lvO (top x)) 3 (prW S x)).length < M + 1; omega) (ey 2 (by omega) (by omega))
      · obtain ⟨k1, k2⟩ := key 21 (by decide) (by decide) (by decide) rfl
        rw [k2]
        exact Ps.P3.since_ (ex 3 (by omega) (by omega)) (by have := (hlx 3).2; show (parW (lvO (top x)) 3 (prW S x)).length < M + 1; omega) (ey 2 (by omega) (by omega))
      · have e1 : prW S (bin 16 0 0 0 x y) = Ps.wLB :: Ps.wBang :: (prW S x ++ Ps.wRB :: parW (lvO (top y)) 5 (prW S y)) := by rw [prW, if_pos rfl]
        have hl : (prW S (bin 16 0 0 0 x y)).length = (prW S x).length + (parW (lvO (top y)) 5 (prW S y)).length + 3 := by rw [e1]; simp; omega
        have := (hly 5).1
        exact fun r => by
          rw [e1]
          have e2 : (Ps.wLB :: Ps.wBang :: (prW S x ++ Ps.wRB :: parW (lvO (top y)) 5 (prW S y))) ++ r = Ps.wLB :: Ps.wBang :: (prW S x ++ (Ps.wRB :: (parW (lvO (top y)) 5 (prW S y) ++ r))) := by simp
          rw [e2]
          refine (oper_k (k := .dyn) rfl _).trans ?_
          have hf := hxM (by omega) (Ps.wRB :: (parW (lvO (top y)) 5 (prW S y) ++ r)) (sRB _)
          have hq := hyM (by omega) r
          unfold Ps.formP at hf
          simp only [Ps.body, Ps.dynP, Ps.bind, Ps.take_yes, if_true, Ps.annP, hf, Ps.want_yes', hq, Ps.ret]
    · have e1 : prW S (bin 13 0 0 (n : Int) x y) = Ps.wC :: Ps.wLB :: (commas (sel n S.A 0) ++ (cdW x (prW S x) ++ Ps.wRB :: parW (lvO (top y)) 5 (prW S y))) := by rw [prW, if_neg (by decide), if_pos (.inl rfl)]; simp [cnW]
      have hl : (prW S (bin 13 0 0 (n : Int) x y)).length = (commas (sel n S.A 0)).length + (cdW x (prW S x)).length + (parW (lvO (top y)) 5 (prW S y)).length + 3 := by rw [e1]; simp; omega
      have := (hly 5).1
      have hA := (checkS_ok hS).lA
      have hbar : ∀ r, 3 * (cdW x (prW S x)).length < M + 2 → Ps.barP (Ps.fP (Ps.prefP (sigP S) M) M) (cdW x (prW S x) ++ Ps.wRB :: r) = .ok x (Ps.wRB :: r) := fun r hc => by
        unfold cdW at hc ⊢
        split
        · next h1 =>
          rw [top_one h.2.2.1 h1]
          have ht : Ps.take Ps.wOr (Ps.wRB :: r) = .ok false (Ps.wRB :: r) := Ps.take_no (by decide) r
          simp only [List.nil_append, Ps.barP, Ps.bind, ht, Bool.false_eq_true, if_false, Ps.ret]
        · next h1 =>
          rw [if_neg h1] at hc
          simp only [List.length_cons] at hc
          have hf := hxM (by omega) (Ps.wRB :: r) (sRB _)
          unfold Ps.formP at hf
          simp only [List.cons_append, Ps.barP, Ps.bind, Ps.take_yes, if_true, hf]
      exact fun r => by
        rw [e1]
        have e2 : (Ps.wC :: Ps.wLB :: (commas (sel n S.A 0) ++ (cdW x (prW S x) ++ Ps.wRB :: parW (lvO (top y)) 5 (prW S y)))) ++ r = Ps.wC :: Ps.wLB :: (commas (sel n S.A 0) ++ (cdW x (prW S x) ++ (Ps.wRB :: (parW (lvO (top y)) 5 (prW S y) ++ r)))) := by simp
        rw [e2]
        refine (oper_k (k := .com) rfl _).trans ?_
        have hq := hyM (by omega) r
        have hgr : Ps.groupP (sigP S).ag M 0 (commas (sel n S.A 0) ++ (cdW x (prW S x) ++ (Ps.wRB :: (parW (lvO (top y)) 5 (prW S y) ++ r)))) = .ok n (cdW x (prW S x) ++ (Ps.wRB :: (parW (lvO (top y)) 5 (prW S y) ++ r))) := group_read hS h0 hn (by omega) (fun r' e => by
          unfold cdW at e
          split at e
          · exact absurd (List.cons.inj e).1 (by decide)
          · exact absurd (List.cons.inj e).1 (by decide))
        have hb := hbar (parW (lvO (top y)) 5 (prW S y) ++ r) (by omega)
        simp only [Ps.body, Ps.comP, Ps.bind, Ps.want_yes', hgr, hb, hq, Ps.ret]
    · have e1 : prW S (bin 14 (a : Int) 0 0 x y) = Ps.wB :: Ps.wLB :: nmB S.A a :: (cdW x (prW S x) ++ Ps.wRB :: parW (lvO (top y)) 5 (prW S y)) := by rw [prW, if_neg (by decide), if_pos (.inr rfl)]; simp [cnW]
      have hl : (prW S (bin 14 (a : Int) 0 0 x y)).length = (cdW x (prW S x)).length + (parW (lvO (top y)) 5 (prW S y)).length + 4 := by rw [e1]; simp; omega
      have := (hly 5).1
      have hbar : ∀ r, 3 * (cdW x (prW S x)).length < M + 2 → Ps.barP (Ps.fP (Ps.prefP (sigP S) M) M) (cdW x (prW S x) ++ Ps.wRB :: r) = .ok x (Ps.wRB :: r) := fun r hc => by
        unfold cdW at hc ⊢
        split
        · next h1 =>
          rw [top_one h.2.2.1 h1]
          have ht : Ps.take Ps.wOr (Ps.wRB :: r) = .ok false (Ps.wRB :: r) := Ps.take_no (by decide) r
          simp only [List.nil_append, Ps.barP, Ps.bind, ht, Bool.false_eq_true, if_false, Ps.ret]
        · next h1 =>
          rw [if_neg h1] at hc
          simp only [List.length_cons] at hc
          have hf := hxM (by omega) (Ps.wRB :: r) (sRB _)
          unfold Ps.formP at hf
          simp only [List.cons_append, Ps.barP, Ps.bind, Ps.take_yes, if_true, hf]
      have hna := fun r => name_tok (ag_at hS ha) r
      exact fun r => by
        rw [e1]
        have e2 : (Ps.wB :: Ps.wLB :: nmB S.A a :: (cdW x (prW S x) ++ Ps.wRB :: parW (lvO (top y)) 5 (prW S y))) ++ r = Ps.wB :: Ps.wLB :: nmB S.A a :: (cdW x (prW S x) ++ (Ps.wRB :: (parW (lvO (top y)) 5 (prW S y) ++ r))) := by simp
        rw [e2]
        refine (oper_k (k := .bel) rfl _).trans ?_
        have hq := hyM (by omega) r
        have hb := hbar (parW (lvO (top y)) 5 (prW S y) ++ r) (by omega)
        simp only [Ps.body, Ps.belP, Ps.bind, Ps.want_yes', hna, hb, hq, Ps.ret]
/-- The whole of the tokens. -/
theorem pr_whole {t : Fm.Form} (h : Nm S t) : Ps.whole (sigP S) (prW S t) = .ok t [] := by
  have h1 := (pr_read hS t h (3 * (prW S t).length + 1) (by omega)).down (M := 0) (by omega) (lvO_le _) (by omega)
  have h2 := Ps.P0.end_ h1 (by omega) Ps.stop_nil
  rw [List.append_nil] at h2
  exact Ps.whole_of (n := 3 * (prW S t).length + 1) (by omega) h2
end
end Go.Proofs.YtbidfbojealmlaaGreatDoor
namespace Go.Proofs.YtbidfbojealmlaaGreatDoor
open Go.RowKit
open Fm (own usesX usesY usesAgent usesFact usesGroup usesEvent)
open Fm.Form
open Ps (W)

def dW (l : List W) : List (List UInt8) := l.map (·.data.toList)
theorem dW_app (a b : List W) : dW (a ++ b) = dW a ++ dW b := by simp [dW]
theorem dW_inj {a b : List W} (h : dW a = dW b) : a = b := (List.map_inj_right fun _ _ e => ba_ext e).1 h
theorem cutR {s m : List UInt8} {c : UInt8} (hs : s.getLast? = some c) (hc : wordB c = false) : Cut2 s m := .inr ⟨c, hs, hc⟩
theorem cutL {s r : List UInt8} {c : UInt8} (hc : wordB c = false) : Cut2 s (c :: r) := .inl fun b r' e => by cases e; exact hc
/-- A text that ends in no letter and no digit. -/
def Shut (s : List UInt8) : Prop := ∃ c, s.getLast? = some c ∧ wordB c = false
theorem Shut.cut {s m : List UInt8} (h : Shut s) : Cut2 s m := .inr h
theorem Shut.app {s m : List UInt8} (h : Shut m) : Shut (s ++ m) := by
  obtain ⟨c, h1, h2⟩ := h
  refine ⟨c, ?_, h2⟩
  rw [List.getLast?_append, h1]
  rfl
theorem wrds_name {x : ByteArray} (h : NameOk x) : wrds x.data.toList = some (dW [x]) := wrds_word (wd_name h)
theorem joinC_one1 (x : ByteArray) : joinC [x] = x := by
  unfold joinC
  rw [List.map_cons, List.map_nil, Lib.join_one, txt_data]
theorem sel_sub1 (g : Nat) : ∀ (l : List ByteArray) (i : Nat), ∀ x ∈ sel g l i, x ∈ l
  | [], i, x, h => by simp [sel] at h
  | y :: l, i, x, h => by
    unfold sel at h
    split at h
    · rcases List.mem_cons.1 h with rfl | h
      · simp
      · exact List.mem_cons_of_mem _ (sel_sub1 g l (i + 1) x h)
    · exact List.mem_cons_of_mem _ (sel_sub1 g l (i + 1) x h)
theorem wrds_commas : ∀ (l : List ByteArray), l ≠ [] → (∀ x ∈ l, NameOk x) → wrds (joinC l).data.toList = some (dW (commas l))
  | [], h, _ => absurd rfl h
  | [x], _, hn => by rw [joinC_one1]; exact wrds_name (hn x (by simp))
  | x :: y :: r, _, hn => by
    have ih := wrds_commas (y :: r) (by simp) (fun z hz => hn z (by simp [hz]))
    have e : (joinC (x :: y :: r)).data.toList = x.data.toList ++ ([44] ++ (joinC (y :: r)).data.toList) := by
      unfold joinC
      rw [data_txt, data_txt]
      simp only [List.map_cons]
      rw [Lib.join_cons, Lib.join_cons]
      simp [Lib.joinTail]
    rw [e]
    have h1 : wrds ([44] ++ (joinC (y :: r)).data.toList) = some (dW [Ps.wComma] ++ dW (commas (y :: r))) := wrds_app (by rfl) (Shut.cut ⟨44, rfl, by decide⟩) ih
    exact wrds_app (wrds_name (hn x (by simp))) (cutL (by decide)) h1
theorem wrds_par {o L : Nat} {l : List UInt8} {ws : List W} (h : wrds l = some (dW ws)) : wrds (parL o L l) = some (dW (parW o L ws)) := by
  unfold parL parW
  split
  · exact h
  · have h1 : wrds (l ++ [41]) = some (dW ws ++ dW [Ps.wR]) := wrds_app h (cutL (by decide)) (by rfl)
    have h2 : wrds ([40] ++ (l ++ [41])) = some (dW [Ps.wL] ++ (dW ws ++ dW [Ps.wR])) := wrds_app (by rfl) (Shut.cut ⟨40, rfl, by decide⟩) h1
    rw [show dW (Ps.wL :: (ws ++ [Ps.wR])) = dW [Ps.wL] ++ (dW ws ++ dW [Ps.wR]) by simp [dW]]
    exact h2
/-- Between brackets. -/
theorem wrds_br {a l : List UInt8} {u ws : List W} (ha : wrds a = some (dW u)) (hc : Shut a) (h : wrds l = some (dW ws)) : wrds (a ++ l ++ [93]) = some (dW (u ++ (ws ++ [Ps.wRB]))) := by
  rw [List.append_assoc, dW_app, dW_app]
  exact wrds_app ha hc.cut (wrds_app h (cutL (by decide)) (by rfl))
theorem wrds_cd {x : Fm.Form} {l : List UInt8} {ws : List W} (h : wrds l = some (dW ws)) : wrds (cdL x l) = some (dW (cdW x ws)) := by
  unfold cdL cdW
  split
  · rfl
  · exact wrds_app (l := [124]) (ws := dW [Ps.wOr]) (by rfl) (Shut.cut ⟨124, rfl, by decide⟩) h
section
variable {S : Sg} (hS : checkS S = 0)
include hS
theorem nm_ok {l : List ByteArray} (hs : ∀ x ∈ l, x ∈ S.all) {a : Nat} (h : a < l.length) : NameOk (nmB l a) := all_name hS (hs _ (nm_mem h))
theorem wrds_group {n : Nat} (h0 : 0 < n) (hn : n < 2 ^ S.A.length) : wrds (grL S n) = some (dW (commas (sel n S.A 0))) :=
  wrds_commas _ (sel_some h0 hn) fun x hx => all_name hS (subA x (sel_sub1 _ _ _ x hx))
theorem wrds_hd {op i e g : Int} (hx : usesX op = true) (hy : usesY op = false) (q : QS S op i e g) : wrds (hdL S op i e g) = some (dW (hdW S op i e g)) ∧ Shut (hdL S op i e g) := by
  have sh : ∀ l : List UInt8, Shut (l ++ [93]) := fun l => Shut.app ⟨93, rfl, by decide⟩
  rcases un_cases hx hy q with ⟨ho, rfl, rfl, rfl⟩ | ⟨ho, rfl, rfl, a, rfl, ha⟩ | ⟨ho, rfl, rfl, n, rfl, h0, hn⟩ | ⟨rfl, rfl, a, b, rfl, rfl, ha, hb⟩
  · rcases ho with rfl | rfl | rfl
    · exact ⟨by rfl, 126, rfl, by decide⟩
    · exact ⟨by rfl, 32, rfl, by decide⟩
    · exact ⟨by rfl, 32, rfl, by decide⟩
  · have hw := wrds_name (nm_ok hS subA ha)
    rcases ho with rfl | rfl | rfl
    · exact ⟨wrds_br (a := [75, 91]) (u := [Ps.wK, Ps.wLB]) (by rfl) ⟨91, rfl, by decide⟩ hw, sh _⟩
    · exact ⟨wrds_br (a := [77, 91]) (u := [Ps.wM, Ps.wLB]) (by rfl) ⟨91, rfl, by decide⟩ hw, sh _⟩
    · exact ⟨wrds_br (a := [83, 91]) (u := [Ps.wS, Ps.wLB]) (by rfl) ⟨91, rfl, by decide⟩ hw, sh _⟩
  · have hw := wrds_group hS h0 hn
    rcases ho with rfl | rfl
    · exact ⟨wrds_br (a := [69, 91]) (u := [Ps.wE, Ps.wLB]) (by rfl) ⟨91, rfl, by decide⟩ hw, sh _⟩
    · exact ⟨wrds_br (a := [68, 91]) (u := [Ps.wD, Ps.wLB]) (by rfl) ⟨91, rfl, by decide⟩ hw, sh _⟩
  · have hw := wrds_name (nm_ok hS subC ha)
    have h8 : ∀ k : Fin 8, wrds (digW (k.val : Int)).data.toList = some (dW [digW (k.val : Int)]) := by decide +kernel
    have hd := h8 ⟨b, hb⟩
    have e : hdL S 17 (a : Int) (b : Int) 0 = [91] ++ ((nmB S.C a).data.toList ++ ([46] ++ ((digW b).data.toList ++ [93]))) := by simp [hdL]
    refine ⟨?_, by rw [e]; exact Shut.app (Shut.app (Shut.app (sh _)))⟩
    rw [e]
    have h1 : wrds ((digW b).data.toList ++ [93]) = some (dW [digW b] ++ dW [Ps.wRB]) := wrds_app hd (cutL (by decide)) (by rfl)
    have h2 : wrds ([46] ++ ((digW b).data.toList ++ [93])) = some (dW [Ps.wDot] ++ (dW [digW b] ++ dW [Ps.wRB])) := wrds_app (by rfl) (Shut.cut ⟨46, rfl, by decide⟩) h1
    have h3 := wrds_app hw (cutL (c := 46) (by decide)) h2
    exact wrds_app (l := [91]) (ws := dW [Ps.wLB]) (by rfl) (Shut.cut ⟨91, rfl, by decide⟩) h3
/-- The tokens of a formula's text. -/
theorem wrds_pr : ∀ (t : Fm.Form), Nm S t → wrds (prL S t) = some (dW (prW S t))
  | leaf op i e g, h => by
    rcases leaf_cases h.1 h.2 with ⟨rfl | rfl, rfl, rfl, rfl⟩ | ⟨rfl, rfl, rfl, a, rfl, ha⟩
    · rfl
    · rfl
    · exact wrds_name (nm_ok hS subF ha)
  | un op i e g x, h => by
    have ih := wrds_pr x h.2.2.2
    obtain ⟨h1, h2⟩ := wrds_hd hS h.1 h.2.1 h.2.2.1
    rw [prL, prW, dW_app]
    exact wrds_app h1 h2.cut (wrds_par ih)
  | bin op i e g x y, h => by
    have ihx := wrds_pr x h.2.2.1
    have ihy := wrds_pr y h.2.2.2
    have hq : wrds ([93] ++ parL (lvO (top y)) 5 (prL S y)) = some (dW [Ps.wRB] ++ dW (parW (lvO (top y)) 5 (prW S y))) := wrds_app (by rfl) (Shut.cut ⟨93, rfl, by decide⟩) (wrds_par ihy)
    have key : (op = 5 ∨ op = 6 ∨ op = 7 ∨ op = 8 ∨ op = 19 ∨ op = 21) → wrds (prL S (bin op i e g x y)) = some (dW (prW S (bin op i e g x y))) := fun ho => by
      rw [prL, prW, if_neg (by omega), if_neg (by omega), if_neg (by omega), if_neg (by omega)]
      have hs : wrds (sgL op) = some (dW [sgW op]) ∧ Shut (sgL op) ∧ ∃ r, sgL op = 32 :: r := by
        rcases ho with rfl | rfl | rfl | rfl | rfl | rfl <;> exact ⟨by rfl, ⟨32, rfl, by decide⟩, _, rfl⟩
      obtain ⟨s1, s2, r, s3⟩ := hs
      have h1 := wrds_app s1 s2.cut (wrds_par (o := lvO (top y)) (L := rtO op) ihy)
      rw [show dW (parW (lvO (top x)) (ltO op) (prW S x) ++ sgW op :: parW (lvO (top y)) (rtO op) (prW S y)) = dW (parW (lvO (top x)) (ltO op) (prW S x)) ++ (dW [sgW op] ++ dW (parW (lvO (top y)) (rtO op) (prW S y))) by simp [dW]]
      refine wrds_app (wrds_par ihx) ?_ h1
      rw [s3]
      exact cutL (by decide)
    rcases bin_cases h.1 h.2.1 with ⟨ho, rfl, rfl, rfl⟩ | ⟨rfl, rfl, rfl, n, rfl, h0, hn⟩ | ⟨rfl, rfl, rfl, a, rfl, ha⟩
    · by_cases h16 : op = 16
      · subst h16
        rw [prL, prW, if_pos rfl, if_pos rfl]
        rw [show dW (Ps.wLB :: Ps.wBang :: (prW S x ++ Ps.wRB :: parW (lvO (top y)) 5 (prW S y))) = dW [Ps.wLB, Ps.wBang] ++ (dW (prW S x) ++ (dW [Ps.wRB] ++ dW (parW (lvO (top y)) 5 (prW S y)))) by simp [dW]]
        exact wrds_app (by rfl) (Shut.cut ⟨33, rfl, by decide⟩) (wrds_app ihx (cutL (by decide)) hq)
      · exact key (by omega)
    · rw [prL, prW, if_neg (by decide), if_pos (.inl rfl), if_neg (by decide), if_pos (.inl rfl)]
      have h1 : wrds (cdL x (prL S x) ++ ([93] ++ parL (lvO (top y)) 5 (prL S y))) = some (dW (cdW x (prW S x)) ++ (dW [Ps.wRB] ++ dW (parW (lvO (top y)) 5 (prW S y)))) := wrds_app (wrds_cd ihx) (cutL (by decide)) hq
      have h2 : wrds (cnL S 13 0 (n : Int)) = some (dW (cnW S 13 0 (n : Int))) := wrds_app (l := [67, 91]) (ws := dW [Ps.wC, Ps.wLB]) (by rfl) (Shut.cut ⟨91, rfl, by decide⟩) (wrds_group hS h0 hn)
      rw [show dW (cnW S 13 0 (n : Int) ++ (cdW x (prW S x) ++ Ps.wRB :: parW (lvO (top y)) 5 (prW S y))) = dW (cnW S 13 0 (n : Int)) ++ (dW (cdW x (prW S x)) ++ (dW [Ps.wRB] ++ dW (parW (lvO (top y)) 5 (prW S y)))) by simp [dW]]
      refine wrds_app h2 ?_ h1
      unfold cdL
      split
      · exact cutL (by decide)
      · exact cutL (by decide)
    · rw [prL, prW, if_neg (by decide), if_pos (.inr rfl), if_neg (by decide), if_pos (.inr rfl)]
      have h1 : wrds (cdL x (prL S x) ++ ([93] ++ parL (lvO (top y)) 5 (prL S y))) = some (dW (cdW x (prW S x)) ++ (dW [Ps.wRB] ++ dW (parW (lvO (top y)) 5 (prW S y)))) := wrds_app (wrds_cd ihx) (cutL (by decide)) hq
      have h2 : wrds (cnL S 14 (a : Int) 0) = some (dW (cnW S 14 (a : Int) 0)) := wrds_app (l := [66, 91]) (ws := dW [Ps.wB, Ps.wLB]) (by rfl) (Shut.cut ⟨91, rfl, by decide⟩) (wrds_name (nm_ok hS subA ha))
      rw [show dW (cnW S 14 (a : Int) 0 ++ (cdW x (prW S x) ++ Ps.wRB :: parW (lvO (top y)) 5 (prW S y))) = dW (cnW S 14 (a : Int) 0) ++ (dW (cdW x (prW S x)) ++ (dW [Ps.wRB] ++ dW (parW (lvO (top y)) 5 (prW S y)))) by simp [dW]]
      refine wrds_app h2 ?_ h1
      unfold cdL
      split
      · exact cutL (by decide)
      · exact cutL (by decide)
theorem pr_tok {t : Fm.Form} (h : Nm S t) (hl : (prL S t).length ≤ 4000) : ∃ cs, tokF (txt (prL S t)) = .ok cs ∧ tW cs = prW S t := by
  have hw := wrds_pr hS t h
  unfold wrds at hw
  cases ht : tokens (prL S t) 0 with
  | error p => rw [ht] at hw; cases hw
  | ok cs =>
    rw [ht] at hw
    have e2 : cs.map (·.2) = dW (prW S t) := Option.some.inj hw
    have e3 : dW (tW cs) = cs.map (·.2) := by unfold dW tW; rw [List.map_map]; exact List.map_congr_left fun c _ => data_txt c.2
    refine ⟨cs, ?_, dW_inj (e3.trans e2)⟩
    unfold tokF
    rw [txt_size, if_neg (by omega), data_txt, ht]
/-- The text of a formula is read as the formula. -/
theorem pr_parse {t : Fm.Form} (h : Nm S t) (hl : (prL S t).length ≤ 4000) (hc : (Fm.cl t).length ≤ 200) : parseF S (txt (prL S t)) = (Fm.cl t, 0, 0) := by
  obtain ⟨cs, e4, e1⟩ := pr_tok hS h hl
  have e5 : readF (sigP S) (tW cs) = (Fm.cl t, 0, 0) := by
    unfold readF
    rw [e1, pr_whole hS h]
    simp only
    rw [if_neg (by omega)]
  unfold parseF
  rw [if_neg (by rw [hS]; simp), e4]
  simp only [e5, if_true]
end
end Go.Proofs.YtbidfbojealmlaaGreatDoor
namespace Go.Proofs.YtbidfbojealmlaaGreatDoor
open Go.RowKit
open Fm (own usesX usesY usesAgent usesFact usesGroup usesEvent)
open Fm.Form
open Ps (W)

/-- The parentheses that a formula needs, at a level. -/
def enN (own level k : Nat) : Nat := if level ≤ own then k else k + 1
def pcN : Fm.Form → Nat
  | leaf .. => 0
  | un _ _ _ _ x => enN (lvO (top x)) 5 (pcN x)
  | bin op _ _ _ x y => if op = 16 then pcN x + enN (lvO (top y)) 5 (pcN y) else if op = 13 ∨ op = 14 then (if top x = 1 then 0 else pcN x) + enN (lvO (top y)) 5 (pcN y)
    else enN (lvO (top x)) (ltO op) (pcN x) + enN (lvO (top y)) (rtO op) (pcN y)
def enF (L : Nat) (t : Fm.Form) : Nat := enN (lvO (top t)) L (pcN t)
theorem enF_mono {L M : Nat} (h : L ≤ M) (t : Fm.Form) : enF L t ≤ enF M t := by
  unfold enF enN
  by_cases h1 : L ≤ lvO (top t)
  · rw [if_pos h1]
    split <;> omega
  · rw [if_neg h1, if_neg (by omega)]
    exact Nat.le_refl _
theorem enF_zero (t : Fm.Form) : enF 0 t = pcN t := by unfold enF enN; rw [if_pos (Nat.zero_le _)]
theorem enF_top {t : Fm.Form} {L : Nat} (h : L ≤ lvO (top t)) : enF L t = pcN t := by unfold enF enN; rw [if_pos h]
theorem enF_le (L : Nat) (t : Fm.Form) : enF L t ≤ pcN t + 1 := by unfold enF enN; split <;> omega
/-- How many opening parentheses there are. -/
def cW (l : List W) : Nat := l.countP fun x => decide (x = Ps.wL)
theorem cW_app (a b : List W) : cW (a ++ b) = cW a + cW b := List.countP_append
theorem cW_cons (t : W) (l : List W) : cW l ≤ cW (t :: l) := by unfold cW; rw [List.countP_cons]; omega
theorem cW_self (l : List W) : cW (Ps.wL :: l) = cW l + 1 := by unfold cW; rw [List.countP_cons]; simp
/-- What is read costs as many opening parentheses as it says, less a credit. -/
def Mn {α : Type} (k : Nat) (p : Ps.P α) (m : α → Nat) : Prop := ∀ ts a r, p ts = .ok a r → m a + cW r ≤ cW ts + k
section
variable {α β : Type} {k : Nat}
theorem mn_ret {a : α} {m : α → Nat} (h : m a ≤ k) : Mn k (Ps.ret a) m := fun ts b r e => by cases e; omega
theorem mn_out {m : α → Nat} : Mn k (Ps.out : Ps.P α) m := fun ts b r e => by cases e
theorem mn_bind {p : Ps.P α} {f : α → Ps.P β} {m : α → Nat} {m' : β → Nat} (h : Mn 0 p m) (hf : ∀ a, Mn (k + m a) (f a) m') : Mn k (Ps.bind p f) m' := fun ts b r e => by
  unfold Ps.bind at e
  cases h1 : p ts with
  | ok a r1 =>
    rw [h1] at e
    have := h ts a r1 h1
    have := hf a r1 b r e
    omega
  | bad r1 x => rw [h1] at e; cases e
theorem mn_shr {p : Ps.P α} (h : Ps.Shr p) : Mn 0 p fun _ => 0 := fun ts a r e => by
  obtain ⟨u, rfl⟩ := h.okv e
  show 0 + cW r ≤ cW (u ++ r) + 0
  rw [cW_app]
  omega
theorem mn_if {b : Bool} {p q : Ps.P α} {m : α → Nat} (hp : Mn k p m) (hq : Mn k q m) : Mn k (if b = true then p else q) m := by split <;> assumption
theorem mn_skip {p : Ps.P α} {f : α → Ps.P β} {m' : β → Nat} (h : Ps.Fine p) (hf : ∀ a, Mn k (f a) m') : Mn k (Ps.bind p f) m' := mn_bind (mn_shr h.shr) fun a => hf a
end
theorem mn_loop {op : Int} {s : W} (hs : s ∈ Ps.taken) {p : Ps.P Fm.Form} {L M : Nat} (hv : lvO op = L) (hl : ltO op = L) (hr : rtO op = M) (hb : op ≠ 16 ∧ op ≠ 13 ∧ op ≠ 14) (hp : Mn 0 p (enF M)) : ∀ n f k, enF L f ≤ k → Mn k (Ps.loopP op s p n f) (enF L)
  | 0, f, k, _ => mn_out
  | n + 1, f, k, hk => mn_skip (Ps.fine_take hs) fun b => mn_if (mn_bind hp fun g => mn_loop hs hv hl hr hb hp n _ _ (by
      rw [enF_top (t := bin op 0 0 0 f g) (L := L) (by show L ≤ lvO op; omega)]
      show pcN (bin op 0 0 0 f g) ≤ _
      rw [pcN, if_neg hb.1, if_neg (by omega), hl, hr]
      show enF L f + enF M g ≤ _
      omega)) (mn_ret hk)
theorem mn_chain {op : Int} {s : W} (hs : s ∈ Ps.taken) {p : Ps.P Fm.Form} {L M : Nat} (hv : lvO op = L) (hl : ltO op = L) (hr : rtO op = M) (hb : op ≠ 16 ∧ op ≠ 13 ∧ op ≠ 14) (hLM : L ≤ M) (hp : Mn 0 p (enF M)) (n : Nat) : Mn 0 (Ps.chainP op s p n) (enF L) :=
  mn_bind hp fun f => mn_loop hs hv hl hr hb hp n f _ (by have := enF_mono hLM f; omega)
theorem mn_imp {p : Ps.P Fm.Form} (hp : Mn 0 p (enF 2)) : ∀ n, Mn 0 (Ps.impP p n) (enF 1)
  | 0 => mn_out
  | n + 1 => mn_bind hp fun f => mn_skip (Ps.fine_take (by decide)) fun b => mn_if (mn_bind (mn_imp hp n) fun g => mn_ret (by
      rw [enF_top (t := bin 7 0 0 0 f g) (L := 1) (by show 1 ≤ lvO 7; decide)]
      show enF 2 f + enF 1 g ≤ _
      omega)) (mn_ret (by have := enF_mono (show 1 ≤ 2 by omega) f; omega))
theorem mn_time {p : Ps.P Fm.Form} (hp : Mn 0 p (enF 3)) : ∀ n, Mn 0 (Ps.timeP p n) (enF 2)
  | 0 => mn_out
  | n + 1 => mn_bind hp fun f => mn_skip (Ps.fine_take (by decide)) fun b => mn_if (mn_bind (mn_time hp n) fun g => mn_ret (by
      rw [enF_top (t := bin 19 0 0 0 f g) (L := 2) (by show 2 ≤ lvO 19; decide)]
      show enF 3 f + enF 2 g ≤ _
      omega)) (mn_skip (Ps.fine_take (by decide)) fun b => mn_if (mn_bind (mn_time hp n) fun g => mn_ret (by
      rw [enF_top (t := bin 21 0 0 0 f g) (L := 2) (by show 2 ≤ lvO 21; decide)]
      show enF 3 f + enF 2 g ≤ _
      omega)) (mn_ret (by have := enF_mono (show 2 ≤ 3 by omega) f; omega)))
theorem mn_fP {q : Ps.P Fm.Form} (h : Mn 0 q (enF 5)) (n : Nat) : Mn 0 (Ps.fP q n) (enF 0) := by
  have h4 : Mn 0 (Ps.andP q n) (enF 4) := mn_chain (op := 5) (s := Ps.wAnd) (L := 4) (M := 5) (by decide) (by decide) (by decide) (by decide) (by decide) (by decide) h n
  have h3 : Mn 0 (Ps.orP q n) (enF 3) := mn_chain (op := 6) (s := Ps.wOr) (L := 3) (M := 4) (by decide) (by decide) (by decide) (by decide) (by decide) (by decide) h4 n
  have h1 : Mn 0 (Ps.iP q n) (enF 1) := mn_imp (mn_time h3 n) n
  exact mn_chain (op := 8) (s := Ps.wIff) (L := 0) (M := 1) (by decide) (by decide) (by decide) (by decide) (by decide) (by decide) h1 n
/-- The condition's parentheses. -/
def cdN (t : Fm.Form) : Nat := if top t = 1 then 0 else pcN t
theorem mn_bar {form : Ps.P Fm.Form} (h : Mn 0 form (enF 0)) : Mn 0 (Ps.barP form) cdN :=
  mn_skip (Ps.fine_take (by decide)) fun b => mn_if (fun ts a r e => by
    have := h ts a r e
    rw [enF_zero] at this
    unfold cdN
    split <;> omega) (mn_ret (Nat.le_refl 0))
/-- The operators of operands are of the highest level. -/
def KOk : Ps.Kind → Prop
  | .un op => lvO op = 5
  | .leaf op _ => lvO op = 5
  | .ag op => lvO op = 5
  | .gr op => lvO op = 5
  | _ => True
theorem kind_ok {S : Ps.Sig} {t : W} {k : Ps.Kind} (h : Ps.kindE S t = .ok k) : KOk k := by
  unfold Ps.kindE at h
  by_cases hwNot : t = Ps.wNot
  · rw [if_pos hwNot] at h
    cases h; show lvO _ = 5; decide
  rw [if_neg hwNot] at h
  by_cases hwNext : t = Ps.wNext
  · rw [if_pos hwNext] at h
    cases h; show lvO _ = 5; decide
  rw [if_neg hwNext] at h
  by_cases hwPrev : t = Ps.wPrev
  · rw [if_pos hwPrev] at h
    cases h; show lvO _ = 5; decide
  rw [if_neg hwPrev] at h
  by_cases hwTrue : t = Ps.wTrue
  · rw [if_pos hwTrue] at h
    cases h; show lvO _ = 5; decide
  rw [if_neg hwTrue] at h
  by_cases hwFalse : t = Ps.wFalse
  · rw [if_pos hwFalse] at h
    cases h; show lvO _ = 5; decide
  rw [if_neg hwFalse] at h
  by_cases hwL : t = Ps.wL
  · rw [if_pos hwL] at h
    cases h; trivial
  rw [if_neg hwL] at h
  by_cases hwK : t = Ps.wK
  · rw [if_pos hwK] at h
    cases h; show lvO _ = 5; decide
  rw [if_neg hwK] at h
  by_cases hwM : t = Ps.wM
  · rw [if_pos hwM] at h
    cases h; show lvO _ = 5; decide
  rw [if_neg hwM] at h
  by_cases hwS : t = Ps.wS
  · rw [if_pos hwS] at h
    cases h; show lvO _ = 5; decide
  rw [if_neg hwS] at h
  by_cases hwB : t = Ps.wB
  · rw [if_pos hwB] at h
    cases h; trivial
  rw [if_neg hwB] at h
  by_cases hwE : t = Ps.wE
  · rw [if_pos hwE] at h
    cases h; show lvO _ = 5; decide
  rw [if_neg hwE] at h
  by_cases hwD : t = Ps.wD
  · rw [if_pos hwD] at h
    cases h; show lvO _ = 5; decide
  rw [if_neg hwD] at h
  by_cases hwC : t = Ps.wC
  · rw [if_pos hwC] at h
    cases h; trivial
  rw [if_neg hwC] at h
  by_cases hwLB : t = Ps.wLB
  · rw [if_pos hwLB] at h
    cases h; trivial
  rw [if_neg hwLB] at h
  cases hn : Ps.nameE S.fa t with
  | ok i => rw [hn] at h; cases h; show lvO _ = 5; decide
  | error e => rw [hn] at h; cases h
theorem mn_body {S : Ps.Sig} {form q : Ps.P Fm.Form} (hf : Mn 0 form (enF 0)) (hq : Mn 0 q (enF 5)) (n : Nat) : ∀ k : Ps.Kind, (∀ t, Ps.kindE S t = .ok k → k = .par → t = Ps.wL) → KOk k → Mn (match k with | .par => 1 | _ => 0) (Ps.body S form q n k) (enF 5)
  | .un op, _, h => mn_bind hq fun f => mn_ret (by
      have : lvO op = 5 := h
      rw [enF_top (by show 5 ≤ lvO op; omega)]
      show enF 5 f ≤ _
      omega)
  | .leaf op i, _, h => mn_ret (by
      have : lvO op = 5 := h
      rw [enF_top (by show 5 ≤ lvO op; omega)]
      exact Nat.le_refl 0)
  | .par, _, _ => mn_bind hf fun f => mn_skip (Ps.fine_want _) fun _ => mn_ret (by
      have := enF_le 5 f
      rw [enF_zero]
      show enF 5 f ≤ 1 + pcN f
      omega)
  | .ag op, _, h => mn_skip (Ps.fine_want _) fun _ => mn_skip (Ps.fine_name _) fun a => mn_skip (Ps.fine_want _) fun _ => mn_bind hq fun f => mn_ret (by
      have : lvO op = 5 := h
      rw [enF_top (by show 5 ≤ lvO op; omega)]
      show enF 5 f ≤ _
      omega)
  | .bel, _, _ => mn_skip (Ps.fine_want _) fun _ => mn_skip (Ps.fine_name _) fun a => mn_bind (mn_bar hf) fun c => mn_skip (Ps.fine_want _) fun _ => mn_bind hq fun f => mn_ret (by
      rw [enF_top (Nat.le_refl 5)]
      show cdN c + enF 5 f ≤ _
      omega)
  | .gr op, _, h => mn_skip (Ps.fine_want _) fun _ => mn_skip (Ps.fine_group _ _ _) fun a => mn_skip (Ps.fine_want _) fun _ => mn_bind hq fun f => mn_ret (by
      have : lvO op = 5 := h
      rw [enF_top (by show 5 ≤ lvO op; omega)]
      show enF 5 f ≤ _
      omega)
  | .com, _, _ => mn_skip (Ps.fine_want _) fun _ => mn_skip (Ps.fine_group _ _ _) fun a => mn_bind (mn_bar hf) fun c => mn_skip (Ps.fine_want _) fun _ => mn_bind hq fun f => mn_ret (by
      rw [enF_top (Nat.le_refl 5)]
      show cdN c + enF 5 f ≤ _
      omega)
  | .dyn, _, _ => mn_skip (Ps.fine_take (by decide)) fun b => mn_if (mn_bind hf fun f => mn_skip (Ps.fine_want _) fun _ => mn_bind hq fun g => mn_ret (by
      rw [enF_top (Nat.le_refl 5), enF_zero]
      show pcN f + enF 5 g ≤ _
      omega)) (mn_skip (Ps.fine_name _) fun i => mn_skip (Ps.fine_want _) fun _ => mn_skip Ps.fine_number fun e => mn_skip (Ps.fine_want _) fun _ => mn_bind hq fun f => mn_ret (by
      rw [enF_top (Nat.le_refl 5)]
      show enF 5 f ≤ _
      omega))
theorem kind_par {S : Ps.Sig} {t : W} (h : Ps.kindE S t = .ok .par) : t = Ps.wL := by
  unfold Ps.kindE at h
  by_cases hwNot : t = Ps.wNot
  · rw [if_pos hwNot] at h
    cases h
  rw [if_neg hwNot] at h
  by_cases hwNext : t = Ps.wNext
  · rw [if_pos hwNext] at h
    cases h
  rw [if_neg hwNext] at h
  by_cases hwPrev : t = Ps.wPrev
  · rw [if_pos hwPrev] at h
    cases h
  rw [if_neg hwPrev] at h
  by_cases hwTrue : t = Ps.wTrue
  · rw [if_pos hwTrue] at h
    cases h
  rw [if_neg hwTrue] at h
  by_cases hwFalse : t = Ps.wFalse
  · rw [if_pos hwFalse] at h
    cases h
  rw [if_neg hwFalse] at h
  by_cases hwL : t = Ps.wL
  · rw [if_pos hwL] at h
    exact hwL
  rw [if_neg hwL] at h
  by_cases hwK : t = Ps.wK
  · rw [if_pos hwK] at h
    cases h
  rw [if_neg hwK] at h
  by_cases hwM : t = Ps.wM
  · rw [if_pos hwM] at h
    cases h
  rw [if_neg hwM] at h
  by_cases hwS : t = Ps.wS
  · rw [if_pos hwS] at h
    cases h
  rw [if_neg hwS] at h
  by_cases hwB : t = Ps.wB
  · rw [if_pos hwB] at h
    cases h
  rw [if_neg hwB] at h
  by_cases hwE : t = Ps.wE
  · rw [if_pos hwE] at h
    cases h
  rw [if_neg hwE] at h
  by_cases hwD : t = Ps.wD
  · rw [if_pos hwD] at h
    cases h
  rw [if_neg hwD] at h
  by_cases hwC : t = Ps.wC
  · rw [if_pos hwC] at h
    cases h
  rw [if_neg hwC] at h
  by_cases hwLB : t = Ps.wLB
  · rw [if_pos hwLB] at h
    cases h
  rw [if_neg hwLB] at h
  cases hn : Ps.nameE S.fa t with
  | ok i => rw [hn] at h; cases h
  | error e => rw [hn] at h; cases h
theorem mn_oper {S : Ps.Sig} {form q : Ps.P Fm.Form} (hf : Mn 0 form (enF 0)) (hq : Mn 0 q (enF 5)) (n : Nat) : Mn 0 (Ps.operP S form q n) (enF 5) := fun ts a r e => by
  cases ts with
  | nil => cases e
  | cons t ts =>
    cases hk : Ps.kindE S t with
    | error x => rw [show Ps.operP S form q n (t :: ts) = .bad (t :: ts) x from Ps.byTok_err (by simp only [hk]) ts] at e; cases e
    | ok k =>
      rw [show Ps.operP S form q n (t :: ts) = Ps.body S form q n k ts from Ps.byTok_ok (by simp only [hk]) ts] at e
      have h := mn_body (S := S) hf hq n k (fun t h1 h2 => kind_par (h2 ▸ h1)) (kind_ok hk) ts a r e
      by_cases hp : k = .par
      · subst hp
        obtain rfl := kind_par hk
        rw [cW_self]
        have h' : enF 5 a + cW r ≤ cW ts + 1 := h
        omega
      · have h0 : (match k with | .par => 1 | _ => 0) = 0 := by cases k <;> first | rfl | exact absurd rfl hp
        rw [h0] at h
        have := cW_cons t ts
        omega
theorem mn_pref (S : Ps.Sig) : ∀ n, Mn 0 (Ps.prefP S n) (enF 5)
  | 0 => mn_out
  | n + 1 => mn_oper (mn_fP (mn_pref S n) n) (mn_pref S n) n
/-- What is read as a formula has at least the formula's parentheses. -/
theorem mn_whole {S : Ps.Sig} {ws : List W} {t : Fm.Form} {r : List W} (h : Ps.whole S ws = .ok t r) : pcN t ≤ cW ws := by
  obtain ⟨h1, rfl⟩ := Ps.whole_ok h
  have := mn_fP (mn_pref S (ws.length + 1)) (ws.length + 1) ws t [] h1
  rw [enF_zero] at this
  exact Nat.le_trans (Nat.le_add_right _ _) this
/-- The tokens that are parentheses are no more than the bytes. -/
theorem toks_count (l : List UInt8) : ∀ (f i : Nat) (ts : Tk), toks l f i = .ok ts → (ts.map (·.2)).count [40] ≤ (l.drop i).count 40
  | 0, i, ts, h => by cases h; simp
  | f + 1, i, ts, h => by
    unfold toks at h
    cases hd : l.drop i with
    | nil => rw [hd] at h; cases h; simp
    | cons b r =>
      rw [hd] at h
      simp only at h
      by_cases hs : spaceB b = true
      · rw [if_pos hs] at h
        have ih := toks_count l f (i + 1) ts h
        rw [← List.drop_drop, hd, List.drop_one, List.tail_cons] at ih
        have := List.count_le_count_cons (a := (40 : UInt8)) (b := b) (l := r)
        omega
      · rw [if_neg hs] at h
        by_cases hn : lenT (b :: r) = 0
        · rw [if_pos hn] at h; cases h
        · rw [if_neg hn] at h
          cases hr : toks l f (i + lenT (b :: r)) with
          | error p => rw [hr] at h; cases h
          | ok ts2 =>
            rw [hr] at h
            cases h
            have ih := toks_count l f _ ts2 hr
            rw [← List.drop_drop, hd] at ih
            have hsp : (b :: r).count 40 = ((b :: r).take (lenT (b :: r))).count 40 + ((b :: r).drop (lenT (b :: r))).count 40 := by
              rw [← List.count_append, List.take_append_drop]
            rw [List.map_cons, List.count_cons, hsp]
            show _ + (if ((b :: r).take (lenT (b :: r)) == [40]) = true then 1 else 0) ≤ _
            generalize (b :: r).take (lenT (b :: r)) = x at *
            have hx : (if x == [40] then 1 else 0) ≤ x.count 40 := by
              split
              · next he => rw [beq_iff_eq.1 he]; decide
              · omega
            omega
theorem wrds_count {l : List UInt8} {ws : List (List UInt8)} (h : wrds l = some ws) : ws.count [40] ≤ l.count 40 := by
  unfold wrds at h
  cases ht : tokens l 0 with
  | error p => rw [ht] at h; cases h
  | ok ts =>
    rw [ht] at h
    cases h
    have := toks_count l _ 0 ts ht
    simpa using this
theorem nc_not {b : UInt8} (h : isNC b = true) : b ≠ 40 ∧ b ≠ 41 := by constructor <;> (rintro rfl; exact absurd h (by decide))
/-- Opening less closing parentheses: none at the end, never less than none. -/
def dpB (b : UInt8) : Int := if b = 40 then 1 else if b = 41 then -1 else 0
def dpL (l : List UInt8) : Int := (l.map dpB).sum
structure Bal (l : List UInt8) (n : Nat) : Prop where
  sum : dpL l = 0
  pre : ∀ k, 0 ≤ dpL (l.take k)
  cnt : l.count 40 = n
theorem dp_app (a b : List UInt8) : dpL (a ++ b) = dpL a + dpL b := by simp [dpL]
theorem Bal.app {a b : List UInt8} {n m : Nat} (h : Bal a n) (h' : Bal b m) : Bal (a ++ b) (n + m) := by
  refine ⟨by rw [dp_app, h.sum, h'.sum]; rfl, fun k => ?_, by rw [List.count_append, h.cnt, h'.cnt]⟩
  rw [List.take_append, dp_app]
  have := h.pre k
  have := h'.pre (k - a.length)
  omega
theorem bal_nil : Bal [] 0 := ⟨rfl, fun k => by simp [dpL], rfl⟩
theorem bal_flat : ∀ {l : List UInt8}, (∀ b ∈ l, b ≠ 40 ∧ b ≠ 41) → Bal l 0
  | [], _ => bal_nil
  | b :: l, h => by
    obtain ⟨h1, h2⟩ := h b (by simp)
    have h0 : dpB b = 0 := by unfold dpB; rw [if_neg h1, if_neg h2]
    have ih := bal_flat (l := l) fun c hc => h c (by simp [hc])
    refine ⟨?_, fun k => ?_, ?_⟩
    · show dpL (b :: l) = 0
      have := ih.sum
      unfold dpL at this ⊢
      rw [List.map_cons, List.sum_cons, h0, this]; rfl
    · cases k with
      | zero => simp [dpL]
      | succ k =>
        have := ih.pre k
        unfold dpL at this ⊢
        rw [List.take_succ_cons, List.map_cons, List.sum_cons, h0]
        omega
    · rw [List.count_cons_of_ne h1]; exact ih.cnt
theorem Bal.par {l : List UInt8} {n : Nat} (h : Bal l n) : Bal (40 :: (l ++ [41])) (n + 1) := by
  have h40 : dpB 40 = 1 := rfl
  have h41 : dpB 41 = -1 := rfl
  refine ⟨?_, fun k => ?_, ?_⟩
  · have := h.sum
    unfold dpL at this ⊢
    rw [List.map_cons, List.sum_cons, List.map_append, List.sum_append, this, h40]
    rfl
  · cases k with
    | zero => simp [dpL]
    | succ k =>
      have hk := h.pre k
      have h1 : -1 ≤ dpL (([41] : List UInt8).take (k - l.length)) := by
        cases k - l.length with
        | zero => decide
        | succ j => rw [List.take_succ_cons]; simp [dpL, h41]
      rw [List.take_succ_cons, List.take_append]
      have e : dpL (40 :: (l.take k ++ ([41] : List UInt8).take (k - l.length))) = 1 + (dpL (l.take k) + dpL (([41] : List UInt8).take (k - l.length))) := by
        rw [← dp_app]
        unfold dpL
        rw [List.map_cons, List.sum_cons, h40]
      rw [e]
      omega
  · rw [List.count_cons_self, List.count_append, h.cnt]; rfl
theorem Bal.enc {l : List UInt8} {n o L : Nat} (h : Bal l n) : Bal (parL o L l) (enN o L n) := by
  unfold parL enN
  split
  · exact h
  · exact h.par
theorem flat_name {x : ByteArray} (h : NameOk x) : ∀ b ∈ x.data.toList, b ≠ 40 ∧ b ≠ 41 := by
  obtain ⟨b, r, e, _, _, h3, _⟩ := nameL_head h.name
  exact fun c hc => nc_not (h3 c hc)
theorem flat_join : ∀ (l : List ByteArray), (∀ x ∈ l, NameOk x) → ∀ b ∈ (joinC l).data.toList, b ≠ 40 ∧ b ≠ 41
  | [], _ => fun b hb => by simp [joinC, txt, Lib.join_nil] at hb
  | [x], hn => by rw [joinC_one1]; exact flat_name (hn x (by simp))
  | x :: y :: r, hn => by
    have ih := flat_join (y :: r) (fun z hz => hn z (by simp [hz]))
    have e : (joinC (x :: y :: r)).data.toList = x.data.toList ++ ([44] ++ (joinC (y :: r)).data.toList) := by
      unfold joinC
      rw [data_txt, data_txt]
      simp only [List.map_cons]
      rw [Lib.join_cons, Lib.join_cons]
      simp [Lib.joinTail]
    rw [e]
    intro b hb
    simp only [List.mem_append, List.mem_singleton] at hb
    rcases hb with hb | rfl | hb
    · exact flat_name (hn x (by simp)) b hb
    · decide
    · exact ih b hb
theorem flat_dig {b : Nat} (h : b < 8) : ∀ c ∈ (digW (b : Int)).data.toList, c ≠ 40 ∧ c ≠ 41 := by
  have h8 : b = 0 ∨ b = 1 ∨ b = 2 ∨ b = 3 ∨ b = 4 ∨ b = 5 ∨ b = 6 ∨ b = 7 := by omega
  rcases h8 with rfl | rfl | rfl | rfl | rfl | rfl | rfl | rfl <;> decide
section
variable {S : Sg} (hS : checkS S = 0)
include hS
theorem flat_group (n : Int) : ∀ b ∈ grL S n, b ≠ 40 ∧ b ≠ 41 := flat_join _ fun x hx => all_name hS (subA x (sel_sub1 _ _ _ x hx))
theorem flat_hd {op i e g : Int} (hx : usesX op = true) (hy : usesY op = false) (q : QS S op i e g) : ∀ b ∈ hdL S op i e g, b ≠ 40 ∧ b ≠ 41 := by
  have ap : ∀ {a b : List UInt8}, (∀ c ∈ a, c ≠ 40 ∧ c ≠ 41) → (∀ c ∈ b, c ≠ 40 ∧ c ≠ 41) → ∀ c ∈ a ++ b, c ≠ 40 ∧ c ≠ 41 := fun h1 h2 c hc => (List.mem_append.1 hc).elim (h1 c) (h2 c)
  rcases un_cases hx hy q with ⟨ho, rfl, rfl, rfl⟩ | ⟨ho, rfl, rfl, a, rfl, ha⟩ | ⟨ho, rfl, rfl, n, rfl, h0, hn⟩ | ⟨rfl, rfl, a, b, rfl, rfl, ha, hb⟩
  · rcases ho with rfl | rfl | rfl
    · exact (by decide : ∀ b ∈ ([126] : List UInt8), b ≠ 40 ∧ b ≠ 41)
    · exact (by decide : ∀ b ∈ ([110, 101, 120, 116, 32] : List UInt8), b ≠ 40 ∧ b ≠ 41)
    · exact (by decide : ∀ b ∈ ([112, 114, 101, 118, 32] : List UInt8), b ≠ 40 ∧ b ≠ 41)
  · have hw := flat_name (nm_ok hS subA ha)
    rcases ho with rfl | rfl | rfl
    · exact ap (ap (a := [75, 91]) (by decide) hw) (by decide)
    · exact ap (ap (a := [77, 91]) (by decide) hw) (by decide)
    · exact ap (ap (a := [83, 91]) (by decide) hw) (by decide)
  · have hw := flat_group hS (n : Int)
    rcases ho with rfl | rfl
    · exact ap (ap (a := [69, 91]) (by decide) hw) (by decide)
    · exact ap (ap (a := [68, 91]) (by decide) hw) (by decide)
  · have hw := flat_name (nm_ok hS subC ha)
    exact ap (ap (ap (ap (a := [91]) (by decide) hw) (b := [46]) (by decide)) (flat_dig hb)) (b := [93]) (by decide)
/-- A printed text is balanced. -/
theorem bal_pr : ∀ (t : Fm.Form), Nm S t → Bal (prL S t) (pcN t)
  | leaf op i e g, h => by
    rcases leaf_cases h.1 h.2 with ⟨rfl | rfl, rfl, rfl, rfl⟩ | ⟨rfl, rfl, rfl, a, rfl, ha⟩
    · exact bal_flat (l := [116, 114, 117, 101]) (by decide)
    · exact bal_flat (l := [102, 97, 108, 115, 101]) (by decide)
    · exact bal_flat (flat_name (nm_ok hS subF ha))
  | un op i e g x, h => by
    have := (bal_flat (flat_hd hS h.1 h.2.1 h.2.2.1)).app ((bal_pr x h.2.2.2).enc (o := lvO (top x)) (L := 5))
    rw [Nat.zero_add] at this
    exact this
  | bin op i e g x y, h => by
    have ihx := bal_pr x h.2.2.1
    have ihy := (bal_pr y h.2.2.2)
    have hq := (bal_flat (l := [93]) (by decide)).app (ihy.enc (o := lvO (top y)) (L := 5))
    rw [Nat.zero_add] at hq
    have hcd : Bal (cdL x (prL S x)) (cdN x) := by
      unfold cdL cdN
      split
      · exact bal_nil
      · have := (bal_flat (l := [124]) (by decide)).app ihx
        rw [Nat.zero_add] at this
        exact this
    have key : (op = 5 ∨ op = 6 ∨ op = 7 ∨ op = 8 ∨ op = 19 ∨ op = 21) → Bal (prL S (bin op i e g x y)) (pcN (bin op i e g x y)) := fun ho => by
      rw [prL, pcN, if_neg (by omega), if_neg (by omega), if_neg (by omega), if_neg (by omega)]
      have hs : ∀ b ∈ sgL op, b ≠ 40 ∧ b ≠ 41 := by rcases ho with rfl | rfl | rfl | rfl | rfl | rfl <;> decide
      have h1 := (bal_flat hs).app (ihy.enc (o := lvO (top y)) (L := rtO op))
      rw [Nat.zero_add] at h1
      exact (ihx.enc (o := lvO (top x)) (L := ltO op)).app h1
    rcases bin_cases h.1 h.2.1 with ⟨ho, rfl, rfl, rfl⟩ | ⟨rfl, rfl, rfl, n, rfl, h0, hn⟩ | ⟨rfl, rfl, rfl, a, rfl, ha⟩
    · by_cases h16 : op = 16
      · subst h16
        rw [prL, pcN, if_pos rfl, if_pos rfl]
        have := (bal_flat (l := [91, 33]) (by decide)).app (ihx.app hq)
        rw [Nat.zero_add] at this
        exact this
      · exact key (by omega)
    · rw [prL, pcN, if_neg (by decide), if_pos (.inl rfl), if_neg (by decide), if_pos (.inl rfl)]
      have := ((bal_flat (l := [67, 91]) (by decide)).app (bal_flat (flat_group hS (n : Int)))).app (hcd.app hq)
      rw [Nat.zero_add] at this
      exact this
    · rw [prL, pcN, if_neg (by decide), if_pos (.inr rfl), if_neg (by decide), if_pos (.inr rfl)]
      have := ((bal_flat (l := [66, 91]) (by decide)).app (bal_flat (flat_name (nm_ok hS subA ha)))).app (hcd.app hq)
      rw [Nat.zero_add] at this
      exact this
end
end Go.Proofs.YtbidfbojealmlaaGreatDoor
