/- The levels of the grammar, plain: what is read at a level, put together. The text of a formula, plain: its bytes and its tokens; the tokens are read as the formula. The text of a formula, plain: its tokens are read as the formula; the tokens of the text are these. The text of a formula, plain: the tokens of the text are those of the formula. Parentheses: a text that is read as a formula has at least as many as the printed one, plain. No condition. -/
import Derived.Test.YtbidfbojealmlaaGreatDoorPc3
import Derived.Test.YtbidfbojealmlaaGreatDoorPc1
import Derived.Test.YtbidfbojealmlaaGreatDoorPaS
set_option linter.unusedVariables false
set_option linter.unusedSimpArgs false
namespace Ps
open Fm (Form)
open Fm.Form

/-- What stands behind does not go on at a level. -/
def noS (l : List W) (r : List W) : Prop := ∀ t r', r = t :: r' → t ∉ l
def st4 : List W := [wAnd]
def st3 : List W := [wAnd, wOr]
def st2 : List W := [wAnd, wOr, wUntil, wSince]
def st1 : List W := [wAnd, wOr, wUntil, wSince, wImp]
theorem noS_ne {l r : List W} {s : W} (h : noS l r) (hs : s ∈ l) : ∀ r', r ≠ s :: r' := fun r' e => h s r' e hs
theorem noS_sub {l l' r : List W} (h : noS l' r) (hs : ∀ x ∈ l, x ∈ l') : noS l r := fun t r' e hm => h t r' e (hs t hm)
/-- What is read at each level, with the fuel N. -/
def P5 (p : P Form) (X : List W) (t : Form) : Prop := ∀ r, p (X ++ r) = .ok t r
def P4 (p : P Form) (X : List W) (t : Form) : Prop := ∀ n r, X.length < n → ∃ m, n ≤ m + X.length ∧ chainP 5 wAnd p n (X ++ r) = loopP 5 wAnd p m t r
def P3 (p : P Form) (N : Nat) (X : List W) (t : Form) : Prop := ∀ n r, X.length < n → noS st4 r → ∃ m, n ≤ m + X.length ∧ chainP 6 wOr (andP p N) n (X ++ r) = loopP 6 wOr (andP p N) m t r
def P2 (p : P Form) (N : Nat) (X : List W) (t : Form) : Prop := ∀ n r, X.length < n → noS st2 r → timeP (orP p N) n (X ++ r) = .ok t r
def P1 (p : P Form) (N : Nat) (X : List W) (t : Form) : Prop := ∀ n r, X.length < n → noS st1 r → impP (tP p N) n (X ++ r) = .ok t r
def P0 (p : P Form) (N : Nat) (X : List W) (t : Form) : Prop := ∀ n r, X.length < n → noS st1 r → ∃ m, n ≤ m + X.length ∧ chainP 8 wIff (iP p N) n (X ++ r) = loopP 8 wIff (iP p N) m t r
section
variable {p : P Form} {N n m : Nat} {X Y : List W} {t u : Form} {r : List W}
theorem loop_end {op : Int} {s : W} (hm : 0 < m) (h : ∀ r', r ≠ s :: r') : loopP op s p m t r = .ok t r := by
  obtain ⟨k, rfl⟩ : ∃ k, m = k + 1 := ⟨m - 1, by omega⟩
  simp only [loopP, bind, take_not' h, Bool.false_eq_true, if_false, ret]
theorem chain_in {op : Int} {s : W} {ts : List W} (h : p ts = .ok t r) : chainP op s p n ts = loopP op s p n t r := by
  simp only [chainP, bind, h]
theorem P5.p4 (h : P5 p X t) : P4 p X t := fun n r _ => ⟨n, by omega, chain_in (h r)⟩
theorem P4.end_ (h : P4 p X t) {n : Nat} {r : List W} (hn : X.length < n) (hr : noS st4 r) : chainP 5 wAnd p n (X ++ r) = .ok t r := by
  obtain ⟨m, h1, h2⟩ := h n r hn
  rw [h2]
  exact loop_end (by omega) (noS_ne hr (by decide))
theorem P4.p3 (h : P4 p X t) (hN : X.length < N) : P3 p N X t := fun n r _ hr => ⟨n, by omega, chain_in (h.end_ hN hr)⟩
theorem P3.end_ (h : P3 p N X t) {n : Nat} {r : List W} (hn : X.length < n) (hr : noS st3 r) : chainP 6 wOr (andP p N) n (X ++ r) = .ok t r := by
  obtain ⟨m, h1, h2⟩ := h n r hn (noS_sub hr (by decide))
  rw [h2]
  exact loop_end (by omega) (noS_ne hr (by decide))
theorem P3.p2 (h : P3 p N X t) (hN : X.length < N) : P2 p N X t := fun n r hn hr => by
  obtain ⟨k, rfl⟩ : ∃ k, n = k + 1 := ⟨n - 1, by omega⟩
  exact time_pass (h.end_ hN (noS_sub hr (by decide))) (noS_ne hr (by decide)) (noS_ne hr (by decide))
theorem P2.p1 (h : P2 p N X t) (hN : X.length < N) : P1 p N X t := fun n r hn hr => by
  obtain ⟨k, rfl⟩ : ∃ k, n = k + 1 := ⟨n - 1, by omega⟩
  exact imp_pass (h N r hN (noS_sub hr (by decide))) (noS_ne hr (by decide))
theorem P1.p0 (h : P1 p N X t) (hN : X.length < N) : P0 p N X t := fun n r _ hr => ⟨n, by omega, chain_in (h N r hN hr)⟩
theorem P0.end_ (h : P0 p N X t) (hN : X.length < N) {r : List W} (hr : stopR r) : fP p N (X ++ r) = .ok t r := by
  obtain ⟨m, h1, h2⟩ := h N r hN (noS_sub hr (by decide))
  exact h2.trans (loop_end (by omega) (stop_ne hr (by decide)))
end
section
variable {S : Sig} {N : Nat} {X : List W} {t : Form}
end
end Ps
namespace Go.Proofs.YtbidfbojealmlaaGreatDoor
open Go.RowKit
open Fm (own usesX usesY usesAgent usesFact usesGroup usesEvent)
open Fm.Form
open Ps (W)

/-- The operator of a formula; the levels of operators, and those that their operands need. -/
def top : Fm.Form → Int
  | leaf op _ _ _ => op
  | un op _ _ _ _ => op
  | bin op _ _ _ _ _ => op
def lvO (op : Int) : Nat := if op = 5 then 4 else if op = 6 then 3 else if op = 19 ∨ op = 21 then 2 else if op = 7 then 1 else if op = 8 then 0 else 5
def ltO (op : Int) : Nat := if op = 5 then 4 else if op = 6 then 3 else if op = 19 ∨ op = 21 then 3 else if op = 7 then 2 else 0
def rtO (op : Int) : Nat := if op = 5 then 5 else if op = 6 then 4 else if op = 19 ∨ op = 21 then 2 else 1
def sgL (op : Int) : List UInt8 := if op = 5 then [32, 38, 32] else if op = 6 then [32, 124, 32] else if op = 19 then [32, 117, 110, 116, 105, 108, 32] else if op = 21 then [32, 115, 105, 110, 99, 101, 32] else if op = 7 then [32, 45, 62, 32] else [32, 60, 45, 62, 32]
def nmB (l : List ByteArray) (i : Int) : ByteArray := l.getD i.toNat ⟨#[]⟩
def digW (e : Int) : W := ⟨#[UInt8.ofNat (48 + e.toNat)]⟩
def parL (own level : Nat) (l : List UInt8) : List UInt8 := if level ≤ own then l else 40 :: (l ++ [41])
def grL (S : Sg) (g : Int) : List UInt8 := (joinC (sel g.toNat S.A 0)).data.toList
def hdL (S : Sg) (op i e g : Int) : List UInt8 :=
  if op = 4 then [126] else if op = 9 then [75, 91] ++ (nmB S.A i).data.toList ++ [93] else if op = 10 then [77, 91] ++ (nmB S.A i).data.toList ++ [93] else if op = 15 then [83, 91] ++ (nmB S.A i).data.toList ++ [93]
  else if op = 11 then [69, 91] ++ grL S g ++ [93] else if op = 12 then [68, 91] ++ grL S g ++ [93]
  else if op = 17 then [91] ++ (nmB S.C i).data.toList ++ [46] ++ (digW e).data.toList ++ [93] else if op = 18 then [110, 101, 120, 116, 32] else [112, 114, 101, 118, 32]
def cnL (S : Sg) (op i g : Int) : List UInt8 := if op = 13 then [67, 91] ++ grL S g else [66, 91] ++ (nmB S.A i).data.toList
def cdL (t : Fm.Form) (l : List UInt8) : List UInt8 := if top t = 1 then [] else 124 :: l
/-- The text of a formula. -/
def prL (S : Sg) : Fm.Form → List UInt8
  | leaf op i _ _ => if op = 1 then [116, 114, 117, 101] else if op = 2 then [102, 97, 108, 115, 101] else (nmB S.F i).data.toList
  | un op i e g x => hdL S op i e g ++ parL (lvO (top x)) 5 (prL S x)
  | bin op i _ g x y => if op = 16 then [91, 33] ++ (prL S x ++ ([93] ++ parL (lvO (top y)) 5 (prL S y)))
    else if op = 13 ∨ op = 14 then cnL S op i g ++ (cdL x (prL S x) ++ ([93] ++ parL (lvO (top y)) 5 (prL S y)))
    else parL (lvO (top x)) (ltO op) (prL S x) ++ (sgL op ++ parL (lvO (top y)) (rtO op) (prL S y))
/-- A formula whose agents, facts and actions have names. -/
def QS (S : Sg) (op i e g : Int) : Prop := Ps.Q S.A.length S.F.length op i e g ∧ (usesEvent op = true → i < S.C.length)
def Nm (S : Sg) : Fm.Form → Prop
  | leaf op i e g => usesX op = false ∧ QS S op i e g
  | un op i e g x => usesX op = true ∧ usesY op = false ∧ QS S op i e g ∧ Nm S x
  | bin op i e g x y => usesY op = true ∧ QS S op i e g ∧ Nm S x ∧ Nm S y
section
variable {S : Sg} {op i e g : Int}
theorem leaf_cases (hx : usesX op = false) (q : QS S op i e g) : ((op = 1 ∨ op = 2) ∧ i = 0 ∧ e = 0 ∧ g = 0) ∨ (op = 3 ∧ e = 0 ∧ g = 0 ∧ ∃ a : Nat, i = a ∧ a < S.F.length) := by
  obtain ⟨⟨ho, _, hf, _⟩, _⟩ := q
  have hop : op = 1 ∨ op = 2 ∨ op = 3 := by
    have : Fm.isOp op = true := by unfold own at ho; simp only [Bool.and_eq_true] at ho; exact ho.1.1
    simp only [Fm.isOp, usesX, Bool.and_eq_true, decide_eq_true_eq, Bool.and_eq_false_iff, decide_eq_false_iff_not] at this hx
    omega
  rcases hop with rfl | rfl | rfl
  · simp [own, Fm.isOp, Fm.zeroed, Fm.ranged, Fm.within, usesFact, usesAgent, usesEvent, usesGroup] at ho
    exact .inl ⟨.inl rfl, by omega, by omega, by omega⟩
  · simp [own, Fm.isOp, Fm.zeroed, Fm.ranged, Fm.within, usesFact, usesAgent, usesEvent, usesGroup] at ho
    exact .inl ⟨.inr rfl, by omega, by omega, by omega⟩
  · simp [own, Fm.isOp, Fm.zeroed, Fm.ranged, Fm.within, usesFact, usesAgent, usesEvent, usesGroup] at ho
    have := hf rfl
    exact .inr ⟨rfl, by omega, by omega, i.toNat, by omega, by omega⟩
theorem un_cases (hx : usesX op = true) (hy : usesY op = false) (q : QS S op i e g) :
    ((op = 4 ∨ op = 18 ∨ op = 20) ∧ i = 0 ∧ e = 0 ∧ g = 0) ∨ ((op = 9 ∨ op = 10 ∨ op = 15) ∧ e = 0 ∧ g = 0 ∧ ∃ a : Nat, i = a ∧ a < S.A.length)
    ∨ ((op = 11 ∨ op = 12) ∧ i = 0 ∧ e = 0 ∧ ∃ n : Nat, g = n ∧ 0 < n ∧ n < 2 ^ S.A.length) ∨ (op = 17 ∧ g = 0 ∧ ∃ a b : Nat, i = a ∧ e = b ∧ a < S.C.length ∧ b < 8) := by
  obtain ⟨⟨ho, ha, _, hg⟩, he⟩ := q
  have hop : op = 4 ∨ op = 9 ∨ op = 10 ∨ op = 11 ∨ op = 12 ∨ op = 15 ∨ op = 17 ∨ op = 18 ∨ op = 20 := by
    simp only [usesX, usesY, Bool.and_eq_true, decide_eq_true_eq, Bool.and_eq_false_iff, Bool.or_eq_false_iff, decide_eq_false_iff_not] at hx hy
    omega
  have hgn : ∀ k : Int, k < 2 ^ S.A.length → 1 ≤ k → ∃ n : Nat, k = n ∧ 0 < n ∧ n < 2 ^ S.A.length := fun k h1 h2 => by
    obtain ⟨n, rfl⟩ := Int.eq_ofNat_of_zero_le (show 0 ≤ k by omega)
    exact ⟨n, rfl, by omega, by exact_mod_cast h1⟩
  rcases hop with rfl | rfl | rfl | rfl | rfl | rfl | rfl | rfl | rfl <;> simp [own, Fm.isOp, Fm.zeroed, Fm.ranged, Fm.within, usesFact, usesAgent, usesEvent, usesGroup] at ho
  · exact .inl ⟨.inl rfl, by omega, by omega, by omega⟩
  · have := ha rfl
    exact .inr (.inl ⟨.inl rfl, by omega, by omega, i.toNat, by omega, by omega⟩)
  · have := ha rfl
    exact .inr (.inl ⟨.inr (.inl rfl), by omega, by omega, i.toNat, by omega, by omega⟩)
  · exact .inr (.inr (.inl ⟨.inl rfl, by omega, by omega, hgn g (hg rfl) (by omega)⟩))
  · exact .inr (.inr (.inl ⟨.inr rfl, by omega, by omega, hgn g (hg rfl) (by omega)⟩))
  · have := ha rfl
    exact .inr (.inl ⟨.inr (.inr rfl), by omega, by omega, i.toNat, by omega, by omega⟩)
  · have := he rfl
    exact .inr (.inr (.inr ⟨rfl, by omega, i.toNat, e.toNat, by omega, by omega, by omega, by omega⟩))
  · exact .inl ⟨.inr (.inl rfl), by omega, by omega, by omega⟩
  · exact .inl ⟨.inr (.inr rfl), by omega, by omega, by omega⟩
theorem bin_cases (hy : usesY op = true) (q : QS S op i e g) :
    ((op = 5 ∨ op = 6 ∨ op = 7 ∨ op = 8 ∨ op = 19 ∨ op = 21 ∨ op = 16) ∧ i = 0 ∧ e = 0 ∧ g = 0)
    ∨ (op = 13 ∧ i = 0 ∧ e = 0 ∧ ∃ n : Nat, g = n ∧ 0 < n ∧ n < 2 ^ S.A.length) ∨ (op = 14 ∧ e = 0 ∧ g = 0 ∧ ∃ a : Nat, i = a ∧ a < S.A.length) := by
  obtain ⟨⟨ho, ha, _, hg⟩, he⟩ := q
  have hop : op = 5 ∨ op = 6 ∨ op = 7 ∨ op = 8 ∨ op = 13 ∨ op = 14 ∨ op = 16 ∨ op = 19 ∨ op = 21 := by
    simp only [usesY, Bool.and_eq_true, Bool.or_eq_true, decide_eq_true_eq] at hy
    omega
  have hgn : ∀ k : Int, k < 2 ^ S.A.length → 1 ≤ k → ∃ n : Nat, k = n ∧ 0 < n ∧ n < 2 ^ S.A.length := fun k h1 h2 => by
    obtain ⟨n, rfl⟩ := Int.eq_ofNat_of_zero_le (show 0 ≤ k by omega)
    exact ⟨n, rfl, by omega, by exact_mod_cast h1⟩
  rcases hop with rfl | rfl | rfl | rfl | rfl | rfl | rfl | rfl | rfl <;> simp [own, Fm.isOp, Fm.zeroed, Fm.ranged, Fm.within, usesFact, usesAgent, usesEvent, usesGroup] at ho
  · exact .inl ⟨by omega, by omega, by omega, by omega⟩
  · exact .inl ⟨by omega, by omega, by omega, by omega⟩
  · exact .inl ⟨by omega, by omega, by omega, by omega⟩
  · exact .inl ⟨by omega, by omega, by omega, by omega⟩
  · exact .inr (.inl ⟨rfl, by omega, by omega, hgn g (hg rfl) (by omega)⟩)
  · have := ha rfl
    exact .inr (.inr ⟨rfl, by omega, by omega, i.toNat, by omega, by omega⟩)
  · exact .inl ⟨by omega, by omega, by omega, by omega⟩
  · exact .inl ⟨by omega, by omega, by omega, by omega⟩
  · exact .inl ⟨by omega, by omega, by omega, by omega⟩
end
/-- A name of the signature. -/
structure NameOk (x : ByteArray) : Prop where
  name : nameB x = true
  res : reserved x = false
theorem all_name {S : Sg} (h : checkS S = 0) {x : ByteArray} (hx : x ∈ S.all) : NameOk x := ⟨((checkS_ok h).name x hx).1, ((checkS_ok h).name x hx).2⟩
theorem nameL_head {l : List UInt8} (h : nameL l = true) : ∃ b r, l = b :: r ∧ 97 ≤ b.toNat ∧ b.toNat ≤ 122 ∧ (∀ c ∈ l, isNC c = true) ∧ l.length ≤ 8 := by
  unfold nameL at h
  simp only [Bool.and_eq_true, decide_eq_true_eq, List.all_eq_true] at h
  obtain ⟨⟨h1, h8, h2, h3⟩, h4⟩ := h
  cases l with
  | nil => simp at h1
  | cons b r => exact ⟨b, r, rfl, by simpa using h2, by simpa using h3, h4, h8⟩
theorem nc_word (b : UInt8) (h : isNC b = true) : wordB b = true := by
  have hh : ∀ n : Fin 256, isNC (UInt8.ofNat n.val) = true → wordB (UInt8.ofNat n.val) = true := by decide +kernel
  have := hh ⟨b.toNat, b.toNat_lt⟩
  simp only [UInt8.ofNat_toNat] at this
  exact this h
theorem tw_self {p : UInt8 → Bool} : ∀ {l : List UInt8}, (∀ c ∈ l, p c = true) → l.takeWhile p = l
  | [], _ => rfl
  | a :: l, h => by rw [List.takeWhile_cons, if_pos (h a (by simp)), tw_self fun c hc => h c (by simp [hc])]
theorem wd_name {x : ByteArray} (h : NameOk x) : Wd x.data.toList := by
  obtain ⟨b, r, e, h1, h2, h3, _⟩ := nameL_head h.name
  refine ⟨?_, by rw [e]; simp, fun c s e2 => ?_⟩
  · unfold lenT
    rw [e] at h3 ⊢
    have p1 : ¬ Lib.hasPrefix (b :: r) [60, 45, 62] = true := fun hp => by have := pre_head hp; subst this; exact absurd h1 (by decide)
    have p2 : ¬ Lib.hasPrefix (b :: r) [45, 62] = true := fun hp => by have := pre_head hp; subst this; exact absurd h1 (by decide)
    rw [if_neg p1, if_neg p2]
    have p3 : b ∉ signs := fun hm => by
      simp only [signs, List.mem_cons, List.not_mem_nil, or_false] at hm
      rcases hm with rfl | rfl | rfl | rfl | rfl | rfl | rfl | rfl | rfl | rfl <;> first | exact absurd h1 (by decide) | exact absurd h2 (by decide)
    have p4 : letN b.toNat = true := by unfold letN; simp; omega
    simp only [if_neg p3, if_pos p4]
    rw [tw_self fun c hc => nc_word c (h3 c hc)]
  · rw [e] at e2
    cases e2
    unfold spaceB
    simp only [Bool.or_eq_false_iff, beq_eq_false_iff_ne]
    refine ⟨⟨?_, ?_⟩, ?_⟩ <;> (rintro rfl; exact absurd h1 (by decide))
section
variable {S : Sg}
theorem subA : ∀ x ∈ S.A, x ∈ S.all := fun x h => by unfold Sg.all; simp [h]
theorem subF : ∀ x ∈ S.F, x ∈ S.all := fun x h => by unfold Sg.all; simp [h]
theorem subC : ∀ x ∈ S.C, x ∈ S.all := fun x h => by unfold Sg.all; simp [h]
theorem nm_at {l : List ByteArray} {a : Nat} (h : a < l.length) : l[a]? = some (nmB l a) := by
  unfold nmB
  rw [List.getD_eq_getElem?_getD, Int.toNat_natCast, List.getElem?_eq_getElem h]
  rfl
theorem nm_mem {l : List ByteArray} {a : Nat} (h : a < l.length) : nmB l a ∈ l := List.mem_of_getElem? (nm_at h)
end
end Go.Proofs.YtbidfbojealmlaaGreatDoor
namespace Go.Proofs.YtbidfbojealmlaaGreatDoor
open Go.RowKit
open Fm (own usesX usesY usesAgent usesFact usesGroup usesEvent)
open Fm.Form
open Ps (W)

section
variable {S : Sg}
variable (hS : checkS S = 0)
include hS
end
end Go.Proofs.YtbidfbojealmlaaGreatDoor
namespace Go.Proofs.YtbidfbojealmlaaGreatDoor
open Go.RowKit
open Fm (own usesX usesY usesAgent usesFact usesGroup usesEvent)
open Fm.Form
open Ps (W)

section
variable {S : Sg} (hS : checkS S = 0)
include hS
theorem nm_ok {l : List ByteArray} (hs : ∀ x ∈ l, x ∈ S.all) {a : Nat} (h : a < l.length) : NameOk (nmB l a) := all_name hS (hs _ (nm_mem h))
end
end Go.Proofs.YtbidfbojealmlaaGreatDoor
namespace Go.Proofs.YtbidfbojealmlaaGreatDoor
open Go.RowKit
open Fm (own usesX usesY usesAgent usesFact usesGroup usesEvent)
open Fm.Form
open Ps (W)

/-- The parentheses that a formula needs, at a level. -/
def enN (own level k : Nat) : Nat := if level ≤ own then k else k + 1
section
variable {α β : Type} {k : Nat}
end
/-- Opening less closing parentheses: none at the end, never less than none. -/
def dpB (b : UInt8) : Int := if b = 40 then 1 else if b = 41 then -1 else 0
def dpL (l : List UInt8) : Int := (l.map dpB).sum
structure Bal (l : List UInt8) (n : Nat) : Prop where
  sum : dpL l = 0
  pre : ∀ k, 0 ≤ dpL (l.take k)
  cnt : l.count 40 = n
theorem dp_app (a b : List UInt8) : dpL (a ++ b) = dpL a + dpL b := by simp [dpL]
theorem Bal.par {l : List UInt8} {n : Nat} (h : Bal l n) : Bal (40 :: (l ++ [41])) (n + 1) := by
  have h40 : dpB 40 = 1 := rfl
  have h41 : dpB 41 = -1 := rfl
  refine ⟨?_, fun k => ?_, ?_⟩
  · have := h.sum
    unfold dpL at this ⊢
    rw [List.map_cons, List.sum_cons, List.map_append, List.sum_append, this, h40]
    rfl
  · cases k with
    | zero => simp [dpL]
    | succ k =>
      have hk := h.pre k
      have h1 : -1 ≤ dpL (([41] : List UInt8).take (k - l.length)) := by
        cases k - l.length with
        | zero => decide
        | succ j => rw [List.take_succ_cons]; simp [dpL, h41]
      rw [List.take_succ_cons, List.take_append]
      have e : dpL (40 :: (l.take k ++ ([41] : List UInt8).take (k - l.length))) = 1 + (dpL (l.take k) + dpL (([41] : List UInt8).take (k - l.length))) := by
        rw [← dp_app]
        unfold dpL
        rw [List.map_cons, List.sum_cons, h40]
      rw [e]
      omega
  · rw [List.count_cons_self, List.count_append, h.cnt]; rfl
theorem Bal.enc {l : List UInt8} {n o L : Nat} (h : Bal l n) : Bal (parL o L l) (enN o L n) := by
  unfold parL enN
  split
  · exact h
  · exact h.par
section
variable {S : Sg} (hS : checkS S = 0)
include hS
end
end Go.Proofs.YtbidfbojealmlaaGreatDoor
