/- Evidence: what Explain makes, as plain functions; its steps are about different places. No condition. -/
import Derived.Test.YtmjdbbfoihadoaaEvAC
set_option linter.unusedVariables false
set_option linter.unusedSimpArgs false
namespace Ev
open Fm (Nd usesX usesY Ord)

/-- A world and a node. -/
abbrev Pl := Nat × Nat
def hasN (S : List Nat) (w k : Nat) : Bool := (S.getD k 0).testBit w
def boolN (S : List Nat) (m : Nd) (w : Nat) (h : Bool) : List Pl :=
  if ((decide (m.op = 5) && !h) || ((decide (m.op = 6) || decide (m.op = 7)) && h)) = true then
    (if (hasN S w m.x.toNat == decide (m.op = 6)) = true then [(w, m.x.toNat)] else [(w, m.y.toNat)])
  else [(w, m.x.toNat), (w, m.y.toNat)]
def modalN (M : Md) (S : List Nat) (m : Nd) (w : Nat) (h : Bool) : List Pl :=
  (if (h == decide (m.op = 10)) = true then ((mem (succN M m w)).filter fun v => hasN S v m.x.toNat == h).take 1 else mem (succN M m w)).map fun v => (v, m.x.toNat)
/-- The search for a path: the worlds that were reached, the worlds at the edge, from where each was reached, and what is to be done. -/
structure BS where
  set : Nat
  edge : Nat
  bef : List (Nat × Int)
  todo : List Int
def inN (S : List Nat) (x y : Nat) (h : Bool) (from_ : Int) : List Nat → BS → Option Nat × BS
  | [], s => (none, s)
  | v :: l, s =>
    if hasN S v x = false then inN S x y h from_ l { s with edge := s.edge ||| 2 ^ v }
    else if s.set.testBit v = true then inN S x y h from_ l s
    else if (!h && !hasN S v y) = true then (some v, { s with set := s.set ||| 2 ^ v, bef := (v, from_) :: s.bef })
    else inN S x y h from_ l { s with set := s.set ||| 2 ^ v, bef := (v, from_) :: s.bef, todo := s.todo ++ [(v : Int)] }
def outN (M : Md) (S : List Nat) (m : Nd) (w : Nat) (h : Bool) : Nat → BS → Option Nat × BS
  | 0, s => (none, s)
  | F + 1, s => match s.todo with
    | [] => (none, s)
    | a :: r => match inN S m.x.toNat m.y.toNat h a (mem (succN M m (if a < 0 then w else a.toNat))) { s with todo := r } with
      | (some v, s') => (some v, s')
      | (none, s') => outN M S m w h F s'
def befAt (l : List (Nat × Int)) (v : Nat) : Int := match l.find? fun p => p.1 == v with
  | some p => p.2
  | none => 0
def pathN (x : Nat) (bef : List (Nat × Int)) : Nat → Int → List Pl
  | 0, _ => []
  | F + 1, v => if v < 0 then [] else (v.toNat, x) :: pathN x bef F (befAt bef v.toNat)
def commonN (M : Md) (S : List Nat) (m : Nd) (w : Nat) (h : Bool) : List Pl × Nat :=
  match outN M S m w h 66 ⟨0, 0, [], [-1]⟩ with
  | (some v, s) => (((v, m.y.toNat) :: pathN m.x.toNat s.bef 66 v).reverse, 0)
  | (none, s) => ((mem s.set).map (fun v => (v, m.y.toNat)) ++ (mem (adN s.edge s.set)).map (fun v => (v, m.x.toNat)), s.set)
/-- The premises of a claim, and the set. -/
def needsN (M : Md) (S : List Nat) (m : Nd) (w : Nat) (h : Bool) : List Pl × Nat :=
  if m.op = 4 then ([(w, m.x.toNat)], 0) else if 5 ≤ m.op ∧ m.op ≤ 8 then (boolN S m w h, 0) else if 9 ≤ m.op ∧ m.op ≤ 12 then (modalN M S m w h, 0) else if m.op = 13 then commonN M S m w h else ([], 0)
/-- The steps so far, and which step is about a place. -/
structure ES where
  steps : List Rs
  done : Pl → Option Nat
def exL (f : Nat → Nat → ES → Nat × ES) (l : List Pl) (s : ES) : List Int × ES := l.foldl (fun acc q => let a := f q.1 q.2 acc.2; (acc.1 ++ [(a.1 : Int)], a.2)) ([], s)
theorem exL_snoc (f : Nat → Nat → ES → Nat × ES) (l : List Pl) (q : Pl) (s : ES) : exL f (l ++ [q]) s = ((exL f l s).1 ++ [((f q.1 q.2 (exL f l s).2).1 : Int)], (f q.1 q.2 (exL f l s).2).2) := by
  unfold exL
  rw [List.foldl_append]
  rfl
def exN (M : Md) (c : List Nd) (S : List Nat) : Nat → Nat → Nat → ES → Nat × ES
  | 0, _, _, s => (0, s)
  | F + 1, w, k, s => match s.done (w, k) with
    | some i => (i, s)
    | none =>
      let q := needsN M S (c.getD k default) w (hasN S w k)
      let a := exL (exN M c S F) q.1 s
      (a.2.steps.length, ⟨a.2.steps ++ [⟨w, k, hasN S w k, a.1, q.2⟩], fun p => if p = (w, k) then some a.2.steps.length else a.2.done p⟩)

theorem nodup_le : ∀ (N : Nat) (l : List Nat), l.Nodup → (∀ x ∈ l, x < N) → l.length ≤ N
  | 0, l, _, h => by
    cases l with
    | nil => simp
    | cons a l => exact absurd (h a (by simp)) (by omega)
  | N + 1, l, hd, h => by
    have h1 := nodup_le N (l.erase N) (hd.erase _) fun x hx => by
      have h2 := h x (List.mem_of_mem_erase hx)
      have h3 : x ≠ N := by
        rintro rfl
        exact hd.not_mem_erase hx
      omega
    by_cases hN : N ∈ l
    · rw [List.length_erase_of_mem hN] at h1
      omega
    · rw [List.erase_of_not_mem hN] at h1
      omega
/-- Each step is about a place of its own. -/
structure Inv (n cl : Nat) (s : ES) : Prop where
  st : ∀ (i : Nat) (r : Rs), s.steps[i]? = some r → ∃ w k : Nat, r.w = (w : Int) ∧ r.k = (k : Int) ∧ w < n ∧ k < cl ∧ s.done (w, k) = some i
  dn : ∀ (w k i : Nat), s.done (w, k) = some i → ∃ r, s.steps[i]? = some r ∧ r.w = (w : Int) ∧ r.k = (k : Int)
theorem Inv.len {n cl : Nat} {s : ES} (h : Inv n cl s) : s.steps.length ≤ n * cl := by
  have h1 := nodup_le (n * cl) (s.steps.map fun r => r.k.toNat * n + r.w.toNat) (by
    rw [List.nodup_iff_pairwise_ne, List.pairwise_map, List.pairwise_iff_getElem]
    intro i j hi hj hij he
    obtain ⟨w, k, e1, e2, e3, e4, e5⟩ := h.st i _ (List.getElem?_eq_getElem hi)
    obtain ⟨w', k', f1, f2, f3, f4, f5⟩ := h.st j _ (List.getElem?_eq_getElem hj)
    rw [e1, e2, f1, f2] at he
    simp only [Int.toNat_natCast] at he
    have hk : k = k' := by
      have a1 : (k * n + w) / n = k := by rw [Nat.mul_comm, Nat.mul_add_div (by omega), Nat.div_eq_of_lt e3]; rfl
      have a2 : (k' * n + w') / n = k' := by rw [Nat.mul_comm, Nat.mul_add_div (by omega), Nat.div_eq_of_lt f3]; rfl
      rw [← a1, ← a2, he]
    subst hk
    have hw : w = w' := by omega
    subst hw
    rw [e5] at f5
    injection f5 with f5
    omega) (by
    intro x hx
    rw [List.mem_map] at hx
    obtain ⟨r, hr, rfl⟩ := hx
    obtain ⟨i, hi, rfl⟩ := List.getElem_of_mem hr
    obtain ⟨w, k, e1, e2, e3, e4, _⟩ := h.st i _ (List.getElem?_eq_getElem hi)
    rw [e1, e2]
    simp only [Int.toNat_natCast]
    have : (k + 1) * n ≤ cl * n := Nat.mul_le_mul_right n e4
    rw [Nat.add_mul, Nat.one_mul, Nat.mul_comm cl n] at this
    omega)
  rwa [List.length_map] at h1
theorem Inv.nil (n cl : Nat) : Inv n cl ⟨[], fun _ => none⟩ := ⟨fun i r h => by simp at h, fun w k i h => by cases h⟩
/-- What one call adds: places with nodes up to k. -/
structure Ext (k : Nat) (s t : ES) : Prop where
  pre : s.steps <+: t.steps
  dn : ∀ p i, s.done p = some i → t.done p = some i
  new : ∀ p, k < p.2 → t.done p = s.done p
theorem Ext.refl (k : Nat) (s : ES) : Ext k s s := ⟨List.prefix_refl _, fun _ _ h => h, fun _ _ => rfl⟩
theorem Ext.trans {k k' k'' : Nat} {s t u : ES} (h : Ext k s t) (g : Ext k' t u) (h1 : k ≤ k'') (h2 : k' ≤ k'') : Ext k'' s u :=
  ⟨h.pre.trans g.pre, fun p i e => g.dn p i (h.dn p i e), fun p hp => (g.new p (by omega)).trans (h.new p (by omega))⟩
/-- The premises are about nodes below, at worlds of the model. -/
def Below_ (n k : Nat) (l : List Pl) : Prop := ∀ q ∈ l, q.1 < n ∧ q.2 < k
theorem exL_ok {n cl k : Nat} (f : Nat → Nat → ES → Nat × ES) (hf : ∀ w j s, w < n → j < k → Inv n cl s → Inv n cl (f w j s).2 ∧ Ext j s (f w j s).2 ∧ (f w j s).2.done (w, j) = some (f w j s).1) (s : ES) (hs : Inv n cl s) :
    ∀ (l : List Pl), Below_ n k l → Inv n cl (exL f l s).2 ∧ (0 < k → Ext (k - 1) s (exL f l s).2) ∧ (exL f l s).1.length = l.length := by
  intro l
  suffices h : ∀ (j : Nat), j ≤ l.length → Below_ n k l → Inv n cl (exL f (l.take j) s).2 ∧ (0 < k → Ext (k - 1) s (exL f (l.take j) s).2) ∧ (exL f (l.take j) s).1.length = j by
    intro hl
    have := h l.length (Nat.le_refl _) hl
    rwa [List.take_length] at this
  intro j
  induction j with
  | zero => exact fun _ _ => ⟨hs, fun _ => Ext.refl _ _, rfl⟩
  | succ j ih =>
    intro hj hl
    obtain ⟨h1, h2, h3⟩ := ih (by omega) hl
    rw [List.take_succ_eq_append_getElem (by omega), exL_snoc]
    obtain ⟨q1, q2⟩ := hl _ (List.getElem_mem (show j < l.length by omega))
    obtain ⟨g1, g2, g3⟩ := hf _ _ _ q1 q2 h1
    exact ⟨g1, fun hk => (h2 hk).trans g2 (Nat.le_refl _) (by omega), by simp [h3]⟩
/-- One call. -/
theorem exN_ok {M : Md} {c : List Nd} {S : List Nat} (hb : ∀ w k, w < M.n → k < c.length → Below_ M.n k (needsN M S (c.getD k default) w (hasN S w k)).1) : ∀ (F w k : Nat) (s : ES), k < F → w < M.n → k < c.length → Inv M.n c.length s →
    Inv M.n c.length (exN M c S F w k s).2 ∧ Ext k s (exN M c S F w k s).2 ∧ (exN M c S F w k s).2.done (w, k) = some (exN M c S F w k s).1
  | 0, _, _, _, h, _, _, _ => absurd h (by omega)
  | F + 1, w, k, s, hF, hw, hk, hs => by
    unfold exN
    cases hd : s.done (w, k) with
    | some i => exact ⟨hs, Ext.refl _ _, hd⟩
    | none =>
      simp only
      have hl := hb w k hw hk
      generalize needsN M S (c.getD k default) w (hasN S w k) = q at *
      obtain ⟨h1, h2, _⟩ := exL_ok (k := k) (exN M c S F) (fun w j s hw hj hs => exN_ok hb F w j s (by omega) hw (by omega) hs) s hs q.1 hl
      have h3 : Ext k s (exL (exN M c S F) q.1 s).2 ∧ (exL (exN M c S F) q.1 s).2.done (w, k) = none := by
        by_cases hk0 : 0 < k
        · have h4 := h2 hk0
          exact ⟨h4.trans (Ext.refl (k - 1) _) (by omega) (by omega), (h4.new (w, k) (show k - 1 < k by omega)).trans hd⟩
        · have hq : q.1 = [] := by
            cases hq : q.1 with
            | nil => rfl
            | cons a l => have := (hl a (by rw [hq]; simp)).2; omega
          rw [hq]
          exact ⟨Ext.refl _ _, hd⟩
      generalize exL (exN M c S F) q.1 s = a at *
      obtain ⟨h3, h4⟩ := h3
      refine ⟨⟨fun i r hi => ?_, fun w' k' i hi => ?_⟩, ⟨h3.pre.trans (List.prefix_append _ _), fun p i hp => ?_, fun p hp => ?_⟩, ?_⟩
      · by_cases hia : i < a.2.steps.length
        · rw [List.getElem?_append_left hia] at hi
          obtain ⟨w', k', e1, e2, e3, e4, e5⟩ := h1.st i r hi
          refine ⟨w', k', e1, e2, e3, e4, ?_⟩
          show (if (w', k') = (w, k) then _ else _) = _
          rw [if_neg (fun e => by rw [e, h4] at e5; cases e5)]
          exact e5
        · rw [List.getElem?_append_right (by omega)] at hi
          obtain ⟨hi0, rfl⟩ : i - a.2.steps.length = 0 ∧ (⟨w, k, hasN S w k, a.1, q.2⟩ : Rs) = r := by
            cases hx : i - a.2.steps.length with
            | zero => rw [hx] at hi; exact ⟨rfl, by simpa using hi⟩
            | succ x => rw [hx] at hi; simp at hi
          refine ⟨w, k, rfl, rfl, hw, hk, ?_⟩
          show (if (w, k) = (w, k) then _ else _) = _
          rw [if_pos rfl, show i = a.2.steps.length by omega]
      · change (if (w', k') = (w, k) then _ else _) = _ at hi
        by_cases e : (w', k') = (w, k)
        · rw [if_pos e] at hi
          injection hi with hi
          injection e with e1 e2
          subst e1 e2 hi
          exact ⟨_, by rw [List.getElem?_append_right (Nat.le_refl _), Nat.sub_self]; rfl, rfl, rfl⟩
        · rw [if_neg e] at hi
          obtain ⟨r, g1, g2⟩ := h1.dn _ _ _ hi
          exact ⟨r, by rw [List.getElem?_append_left (List.getElem?_eq_some_iff.1 g1).1]; exact g1, g2⟩
      · have h5 := h3.dn p i hp
        show (if p = (w, k) then _ else _) = _
        rw [if_neg (fun e => by rw [e, h4] at h5; cases h5)]
        exact h5
      · show (if p = (w, k) then _ else _) = _
        rw [if_neg (fun e => by rw [e] at hp; simp at hp)]
        exact h3.new p hp
      · exact if_pos trivial
end Ev
