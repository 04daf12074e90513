/- Renaming by a permutation: plain facts. No condition. -/
import Derived.Test.YtckmhngcnimmdaaDoorWsR
import Derived.Test.YtckmhngcnimmdaaDoorWsRa
set_option linter.unusedVariables false
set_option linter.unusedSimpArgs false
namespace Go.Proofs.YtckmhngcnimmdaaDoor
open Go.RowKit

/-- Numbers below 64, none of them twice. -/
def PermF (p : Nat → Nat) : Prop := (∀ k, k < 64 → p k < 64) ∧ ∀ k k', k < 64 → k' < 64 → p k = p k' → k = k'
theorem permF_id : PermF fun k => k := ⟨fun _ h => h, fun _ _ _ _ h => h⟩
/-- Two of them are exchanged. -/
def swapF (p : Nat → Nat) (i j : Nat) : Nat → Nat := fun k => if k = j then p i else if k = i then p j else p k
theorem swapF_perm {p : Nat → Nat} (h : PermF p) {i j : Nat} (hi : i < 64) (hj : j < 64) : PermF (swapF p i j) := by
  constructor
  · intro k hk
    unfold swapF
    split
    · exact h.1 i hi
    · split
      · exact h.1 j hj
      · exact h.1 k hk
  · intro k k' hk hk' he
    unfold swapF at he
    split at he <;> split at he <;> (try split at he) <;> (try split at he) <;> (have := h.2 _ _ (by assumption) (by assumption) he; omega)

/-- The new numbers of a list. -/
def orP (p : Nat → Nat) : List Nat → Nat
  | [] => 0
  | x :: l => 2 ^ p x ||| orP p l
theorem orP_bit (p : Nat → Nat) : ∀ (l : List Nat) (j : Nat), (orP p l).testBit j = decide (∃ x, x ∈ l ∧ p x = j)
  | [], j => by simp [orP]
  | x :: l, j => by
    unfold orP
    rw [Nat.testBit_or, Nat.testBit_two_pow, orP_bit p l j]
    by_cases h : p x = j
    · simp [h]
    · simp [h]
theorem orP_lt (p : Nat → Nat) : ∀ l : List Nat, (∀ x ∈ l, p x < 64) → orP p l < 18446744073709551616
  | [], _ => by simp [orP]
  | x :: l, h => or_lt64 (pow_lt64 (h x (by simp))) (orP_lt p l fun y hy => h y (by simp [hy]))
theorem renL_orP (p : Nat → Nat) (tt : List Int) (hl : tt.length = 64) : ∀ (l : List Nat) (t : Nat), (∀ x ∈ l, x < 64 ∧ p x < 64 ∧ tt.getD x 0 = (p x : Int)) → renL tt t l = (t ||| orP p l, 0)
  | [], t, _ => by
    show (t, (0 : Int)) = (t ||| 0, 0)
    rw [Nat.or_zero]
  | x :: l, t, h => by
    obtain ⟨h1, h2, h3⟩ := h x (by simp)
    unfold renL orP
    rw [if_neg (by omega), h3, if_neg (by omega), Int.toNat_natCast, renL_orP p tt hl l _ fun y hy => h y (by simp [hy]), Nat.or_assoc]

section
variable {p q : Nat → Nat} {s : Nat}
theorem perm_mem (hp : PermF p) (j : Nat) : j ∈ mem (orP p (mem s)) ↔ ∃ x, x ∈ mem s ∧ p x = j := by
  constructor
  · intro h
    have := (mem_lt h).2
    rw [orP_bit] at this
    simpa using this
  · rintro ⟨x, hx, rfl⟩
    refine List.mem_filter.2 ⟨List.mem_range.2 (hp.1 x (mem_lt hx).1), ?_⟩
    rw [orP_bit]
    simp only [decide_eq_true_eq]
    exact ⟨x, hx, rfl⟩
theorem mem_iff (s j : Nat) : j ∈ mem s ↔ j < 64 ∧ s.testBit j = true := ⟨fun h => mem_lt h, fun h => List.mem_filter.2 ⟨List.mem_range.2 h.1, h.2⟩⟩
theorem mem_nodup (s : Nat) : (mem s).Nodup := List.Pairwise.imp (fun h => Nat.ne_of_lt h) (mem_sorted s)
/-- As many. -/
theorem perm_len (hp : PermF p) : (mem (orP p (mem s))).length = (mem s).length := by
  have hn : ((mem s).map p).Nodup := by
    rw [List.Nodup, List.pairwise_map]
    refine List.Pairwise.imp_of_mem ?_ (mem_nodup s)
    intro a b ha hb hab he
    exact hab (hp.2 a b (mem_lt ha).1 (mem_lt hb).1 he)
  have hP : (mem (orP p (mem s))).Perm ((mem s).map p) := (List.perm_ext_iff_of_nodup (mem_nodup _) hn).2 fun j => by
    rw [perm_mem hp, List.mem_map]
  rw [hP.length_eq, List.length_map]
/-- And back. -/
theorem perm_back (hp : PermF p) (hs : s < 18446744073709551616) (hq : ∀ x, x < 64 → q (p x) = x) : orP q (mem (orP p (mem s))) = s := by
  apply Nat.eq_of_testBit_eq
  intro j
  rw [orP_bit]
  cases hb : s.testBit j
  · rw [decide_eq_false]
    rintro ⟨y, hy, hqy⟩
    obtain ⟨x, hx, rfl⟩ := (perm_mem hp y).1 hy
    rw [hq x (mem_lt hx).1] at hqy
    subst hqy
    rw [(mem_lt hx).2] at hb
    cases hb
  · rw [decide_eq_true]
    have hj : j < 64 := by
      apply Nat.lt_of_not_le
      intro hle
      rw [Nat.testBit_lt_two_pow (Nat.lt_of_lt_of_le hs (Nat.pow_le_pow_right (n := 2) (by omega) hle))] at hb
      cases hb
    exact ⟨p j, (perm_mem hp _).2 ⟨j, (mem_iff s j).2 ⟨hj, hb⟩, rfl⟩, hq j hj⟩
end
end Go.Proofs.YtckmhngcnimmdaaDoor
