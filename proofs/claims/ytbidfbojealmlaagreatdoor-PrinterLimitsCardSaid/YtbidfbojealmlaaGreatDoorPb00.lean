/- The length of a token by its first byte, plain. No condition. -/
import Derived.Test.YtbidfbojealmlaaGreatDoorPaU
set_option linter.unusedVariables false
set_option linter.unusedSimpArgs false
namespace Go.Proofs.YtbidfbojealmlaaGreatDoor
open Go.RowKit

theorem not_pre {l : List UInt8} {b : UInt8} {r s : List UInt8} {c : UInt8} (hl : l = b :: r) (hs : s.head? = some c) (hne : b ≠ c) : Lib.hasPrefix l s = false := by
  cases s with
  | nil => cases hs
  | cons a s =>
    obtain rfl : a = c := by simpa using hs
    subst hl
    rw [Bool.eq_false_iff]
    intro h
    have := List.isPrefixOf_iff_prefix.1 (show List.isPrefixOf _ _ = true from h)
    exact hne (List.cons_prefix_cons.1 this).1.symm
theorem let_signs : ∀ n : Fin 256, letN n.val = true → UInt8.ofNat n.val ∉ signs ∧ UInt8.ofNat n.val ≠ 60 ∧ UInt8.ofNat n.val ≠ 45 := by decide +kernel
theorem dig_signs : ∀ n : Fin 256, digN n.val = true → UInt8.ofNat n.val ∉ signs ∧ UInt8.ofNat n.val ≠ 60 ∧ UInt8.ofNat n.val ≠ 45 ∧ letN n.val = false := by decide +kernel
theorem lenT_let {b : UInt8} {r : List UInt8} (h : letN b.toNat = true) : lenT (b :: r) = ((b :: r).takeWhile wordB).length := by
  obtain ⟨h1, h2, h3⟩ := let_signs ⟨b.toNat, b.toNat_lt⟩ h
  simp at h1 h2 h3
  unfold lenT
  rw [not_pre rfl rfl h2, not_pre rfl rfl h3, if_neg (by simp), if_neg (by simp)]
  simp only
  rw [if_neg h1, if_pos h]
theorem lenT_dig {b : UInt8} {r : List UInt8} (h : digN b.toNat = true) : lenT (b :: r) = ((b :: r).takeWhile digB).length := by
  obtain ⟨h1, h2, h3, h4⟩ := dig_signs ⟨b.toNat, b.toNat_lt⟩ h
  simp at h1 h2 h3 h4
  unfold lenT
  rw [not_pre rfl rfl h2, not_pre rfl rfl h3, if_neg (by simp), if_neg (by simp)]
  simp only
  rw [if_neg h1, if_neg (by rw [h4]; simp)]
theorem lenT_oth {b : UInt8} {r : List UInt8} (h : letN b.toNat = false) (h' : digN b.toNat = false) : lenT (b :: r) = if Lib.hasPrefix (b :: r) [60, 45, 62] = true then 3 else if Lib.hasPrefix (b :: r) [45, 62] = true then 2 else if b ∈ signs then 1 else 0 := by
  unfold lenT
  simp only
  rw [if_neg (show ¬ letN b.toNat = true by rw [h]; simp)]
  have : ((b :: r).takeWhile digB).length = 0 := by rw [List.takeWhile_cons, if_neg (by unfold digB; rw [h']; simp)]; rfl
  rw [this]
theorem pre_ext (t : ByteArray) (i n : Nat) (s : List UInt8) (hn : s.length = n) (hi : i + n ≤ t.size) : ((t.extract i (i + n)).toList == s) = Lib.hasPrefix (t.data.toList.drop i) s := by
  rw [ByteArray.toList_eq, Lib.extract_data, Nat.add_sub_cancel_left]
  rw [Bool.eq_iff_iff, beq_iff_eq]
  have hp : Lib.hasPrefix (t.data.toList.drop i) s = true ↔ s <+: t.data.toList.drop i := List.isPrefixOf_iff_prefix
  rw [hp, List.prefix_iff_eq_take, hn]
  exact eq_comm
theorem pre_short (l s : List UInt8) (h : l.length < s.length) : Lib.hasPrefix l s = false := by
  rw [Bool.eq_false_iff]
  intro hp
  have := (List.isPrefixOf_iff_prefix.1 (show List.isPrefixOf _ _ = true from hp)).length_le
  omega
end Go.Proofs.YtbidfbojealmlaaGreatDoor
