/- A set is restored from its members and from its text: plain facts. No condition. -/
import Derived.Test.YtmnhgeggojgflaaGreatDoorWtEF
import Derived.Test.YtmnhgeggojgflaaGreatDoorWtXZ
import Derived.Test.YtmnhgeggojgflaaGreatDoorWtPab
set_option linter.unusedVariables false
set_option linter.unusedSimpArgs false
namespace Go.Proofs.YtmnhgeggojgflaaGreatDoor.Ws
open Go.RowKit

theorem mem_sorted (s : Nat) : (mem s).Pairwise (· < ·) := List.Pairwise.filter _ List.pairwise_lt_range
theorem bad_sorted : ∀ (l : List Nat) (last : Option Nat), l.Pairwise (· < ·) → (∀ x ∈ l, x ≤ 63) → (∀ m, last = some m → ∀ x ∈ l, m < x) → bad l last = none
  | [], _, _, _, _ => rfl
  | n :: r, last, hp, h63, hl => by
    have hn : n ≤ 63 := h63 n (by simp)
    have hp2 := List.pairwise_cons.1 hp
    rw [bad_cons, if_neg (by omega)]
    have hr := bad_sorted r (some n) hp2.2 (fun x hx => h63 x (by simp [hx])) fun m hm x hx => by
      injection hm with hm
      subst hm
      exact hp2.1 x hx
    cases last with
    | none => exact hr
    | some m =>
      have := hl m rfl n (by simp)
      show (if n ≤ m then some 9 else bad r (some n)) = none
      rw [if_neg (by omega), hr]
theorem or_top (s j : Nat) (h : s.testBit j = true) : s % 2 ^ j ||| 2 ^ j = s % 2 ^ (j + 1) := by
  apply Nat.eq_of_testBit_eq
  intro i
  rw [Nat.testBit_or, Nat.testBit_mod_two_pow, Nat.testBit_mod_two_pow, Nat.testBit_two_pow]
  by_cases hij : j = i
  · subst hij
    simp [h]
  · by_cases hl : i < j
    · simp [hij, hl, show i < j + 1 by omega]
    · simp [hij, hl, show ¬ i < j + 1 by omega]
theorem mod_top (s j : Nat) (h : s.testBit j = false) : s % 2 ^ (j + 1) = s % 2 ^ j := by
  apply Nat.eq_of_testBit_eq
  intro i
  rw [Nat.testBit_mod_two_pow, Nat.testBit_mod_two_pow]
  by_cases hij : j = i
  · subst hij
    simp [h]
  · by_cases hl : i < j
    · simp [hl, show i < j + 1 by omega]
    · simp [hl, show ¬ i < j + 1 by omega]
theorem ofL_from (s : Nat) (hs : s < 18446744073709551616) : ∀ d j, j + d = 64 → ofL (s % 2 ^ j) ((((List.range d).map (j + ·)).filter s.testBit).map Int.ofNat) = (s, 0)
  | 0, j, hj => by
    obtain rfl : j = 64 := by omega
    show (s % 2 ^ 64, (0 : Int)) = (s, 0)
    rw [Nat.mod_eq_of_lt hs]
  | d + 1, j, hj => by
    have ih := ofL_from s hs d (j + 1) (by omega)
    have hr : (List.range (d + 1)).map (j + ·) = j :: (List.range d).map (j + 1 + ·) := by
      rw [List.range_succ_eq_map, List.map_cons, List.map_map]
      congr 1
      apply List.map_congr_left
      intro x _
      simp only [Function.comp]
      omega
    rw [hr, List.filter_cons]
    cases hb : s.testBit j
    · rw [if_neg (by simp), ← mod_top s j hb]
      exact ih
    · rw [if_pos rfl, List.map_cons]
      have hlt : s % 2 ^ j < 2 ^ j := Nat.mod_lt _ (Nat.two_pow_pos j)
      have hz : (s % 2 ^ j).testBit (Int.ofNat j).toNat = false := Nat.testBit_lt_two_pow hlt
      unfold ofL
      rw [if_neg (by simp; omega), hz, if_neg (by simp)]
      show ofL (s % 2 ^ j ||| 2 ^ j) _ = _
      rw [or_top s j hb]
      exact ih
theorem ofL_mem (s : Nat) (hs : s < 18446744073709551616) : ofL 0 ((mem s).map Int.ofNat) = (s, 0) := by
  have := ofL_from s hs 64 0 rfl
  rw [Nat.pow_zero, Nat.mod_one] at this
  rw [← this]
  congr 3
theorem chk_mem (s : Nat) (hs : s < 18446744073709551616) : chk (mem s) 0 (-1) = (s, 0) := by
  rw [chk_eq, bad_sorted _ none (mem_sorted s) (fun x hx => by have := (mem_lt hx).1; omega) (by simp)]
  exact ofL_mem s hs

theorem numF_dec : ∀ x, x < 64 → numF (Lib.decDigits x) = some x := by decide +kernel
theorem dec_no : ∀ x, x < 64 → ∀ c ∈ Lib.decDigits x, c ≠ 32 := by decide +kernel
theorem dec_ne : ∀ x, x < 64 → Lib.decDigits x ≠ [] := by decide +kernel
theorem joinT_cons (x y : Nat) (r : List Nat) : joinT (x :: y :: r) = Lib.decDigits x ++ 32 :: joinT (y :: r) := by
  simp [joinT, Lib.join_cons, Lib.joinTail]
theorem flds_join : ∀ (r : List Nat) (x : Nat), (∀ y ∈ x :: r, y < 64) → flds (joinT (x :: r)) = (x :: r).map Lib.decDigits
  | [], x, h => by
    have := flds_app (Lib.decDigits x) [] (dec_no x (h x (by simp)))
    rw [List.append_nil] at this
    rw [joinT_one, this]
    simp [flds]
  | y :: r, x, h => by
    have ih := flds_join r y fun z hz => h z (by simp [List.mem_cons.1 hz])
    rw [joinT_cons, flds_app _ _ (dec_no x (h x (by simp))), flds_sp, ih]
    simp
theorem nums_dec : ∀ l : List Nat, (∀ x ∈ l, x < 64) → nums (l.map Lib.decDigits) = some l
  | [], _ => rfl
  | x :: l, h => by
    rw [List.map_cons]
    unfold nums
    rw [numF_dec x (h x (by simp)), nums_dec l fun y hy => h y (by simp [hy])]
    rfl
theorem parse_fmt (s : Nat) (hs : s < 18446744073709551616) : parseS (fmtS s) = (s, 0) := by
  have hx : ∀ x ∈ mem s, x < 64 := fun x h => (mem_lt h).1
  have hm : midL (fmtS s) = joinT (mem s) := by
    simp [midL, fmtS]
  unfold parseS
  have hlast : (fmtS s).getLastD 0 = 125 := by
    rw [fmtS, List.getLastD_eq_getLast?, List.getLast?_concat]
    rfl
  rw [if_neg (by rw [hlast]; simp [fmtS]), hm]
  cases hl : mem s with
  | nil =>
    rw [joinT_nil, if_pos rfl]
    by_cases h0 : s = 0
    · rw [h0]
    · rw [mem_step h0 hs] at hl
      cases hl
  | cons x r =>
    rw [hl] at hx
    have hne : joinT (x :: r) ≠ [] := by
      have h1 := dec_ne x (hx x (by simp))
      cases r with
      | nil => rw [joinT_one]; exact h1
      | cons y r => rw [joinT_cons]; simp
    rw [if_neg hne, flds_join r x hx, nums_dec _ hx, ← hl]
    exact chk_mem s hs

/-- The k-th member. -/
theorem mem_at (s w : Nat) (hw : w < 64) (h : s.testBit w = true) : (mem s)[(memTo s w).length]? = some w := by
  have e : mem s = memTo s (w + 1 + (63 - w)) := by rw [show w + 1 + (63 - w) = 64 by omega]; rfl
  rw [e, memTo_add s (w + 1), memTo_succ, h]
  simp
theorem memTo_le (s w : Nat) (hw : w ≤ 64) : (memTo s w).length ≤ (mem s).length := by
  have e : mem s = memTo s (w + (64 - w)) := by rw [show w + (64 - w) = 64 by omega]; rfl
  rw [e, memTo_add s w, List.length_append]
  omega
end Go.Proofs.YtmnhgeggojgflaaGreatDoor.Ws
