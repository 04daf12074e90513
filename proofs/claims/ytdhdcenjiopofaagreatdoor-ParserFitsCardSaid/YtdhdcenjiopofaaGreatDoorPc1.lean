/- The words of texts that are put together, plain. No condition. -/
import Derived.Test.YtdhdcenjiopofaaGreatDoorPaU
import Derived.Test.YtdhdcenjiopofaaGreatDoorPb00
set_option linter.unusedVariables false
set_option linter.unusedSimpArgs false
namespace Go.Proofs.YtdhdcenjiopofaaGreatDoor
open Go.RowKit

/-- What stands behind a text cannot lengthen its last token. -/
def Cut2 (s m : List UInt8) : Prop := (∀ b r, m = b :: r → wordB b = false) ∨ ∃ b, s.getLast? = some b ∧ wordB b = false
theorem tw_app {p : UInt8 → Bool} : ∀ {s m : List UInt8}, ((∀ b r, m = b :: r → p b = false) ∨ ∃ b, s.getLast? = some b ∧ p b = false) → (s ++ m).takeWhile p = s.takeWhile p
  | [], m, h => by
    rcases h with h | ⟨b, hb, _⟩
    · cases m with
      | nil => rfl
      | cons b r => simp [List.takeWhile_cons, h b r rfl]
    · cases hb
  | a :: s, m, h => by
    rw [List.cons_append, List.takeWhile_cons, List.takeWhile_cons]
    by_cases ha : p a = true
    · rw [if_pos ha, if_pos ha]
      congr 1
      refine tw_app ?_
      rcases h with h | ⟨b, hb, hp⟩
      · exact .inl h
      · cases s with
        | nil =>
          have : a = b := by simpa using hb
          subst this
          rw [ha] at hp; cases hp
        | cons c s => exact .inr ⟨b, by simpa using hb, hp⟩
    · rw [if_neg ha, if_neg ha]
theorem tw_tw (p : UInt8 → Bool) : ∀ l : List UInt8, (l.takeWhile p).takeWhile p = l.takeWhile p
  | [] => rfl
  | a :: l => by
    rw [List.takeWhile_cons]
    by_cases ha : p a = true
    · rw [if_pos ha, List.takeWhile_cons, if_pos ha, tw_tw p l]
    · rw [if_neg ha]; rfl
theorem cut_dig {s m : List UInt8} (h : Cut2 s m) : (∀ b r, m = b :: r → digB b = false) ∨ ∃ b, s.getLast? = some b ∧ digB b = false := by
  have hd : ∀ b, wordB b = false → digB b = false := fun b hb => by
    unfold wordB at hb
    unfold digB
    cases hd : digN b.toNat
    · rfl
    · rw [hd, Bool.or_true] at hb; cases hb
  rcases h with h | ⟨b, hb, hp⟩
  · exact .inl fun b r e => hd b (h b r e)
  · exact .inr ⟨b, hb, hd b hp⟩
theorem pre_app {s m t : List UInt8} (h : Lib.hasPrefix s t = true) : Lib.hasPrefix (s ++ m) t = true := by
  have := List.isPrefixOf_iff_prefix.1 (show List.isPrefixOf _ _ = true from h)
  exact List.isPrefixOf_iff_prefix.2 (this.trans (List.prefix_append s m))
theorem pre_head {b c : UInt8} {r s : List UInt8} (h : Lib.hasPrefix (b :: r) (c :: s) = true) : c = b := by
  have := List.isPrefixOf_iff_prefix.1 (show List.isPrefixOf _ _ = true from h)
  exact (List.cons_prefix_cons.1 this).1
theorem pre3 {r : List UInt8} : Lib.hasPrefix (60 :: r) [45, 62] = false := not_pre rfl rfl (by decide)
theorem pre2 {r : List UInt8} : Lib.hasPrefix (45 :: r) [60, 45, 62] = false := not_pre rfl rfl (by decide)
theorem sign_ne {b : UInt8} (h : b ∈ signs) : b ≠ 60 ∧ b ≠ 45 := by
  constructor <;> rintro rfl <;> exact absurd h (by decide)
/-- The kinds of tokens. -/
theorem lenT_kinds {b : UInt8} {r : List UInt8} (hn : lenT (b :: r) ≠ 0) :
    (Lib.hasPrefix (b :: r) [60, 45, 62] = true ∧ lenT (b :: r) = 3) ∨ (Lib.hasPrefix (b :: r) [45, 62] = true ∧ lenT (b :: r) = 2) ∨ (b ∈ signs ∧ lenT (b :: r) = 1) ∨
    (letN b.toNat = true ∧ lenT (b :: r) = ((b :: r).takeWhile wordB).length) ∨ (digN b.toNat = true ∧ lenT (b :: r) = ((b :: r).takeWhile digB).length) := by
  cases hl : letN b.toNat with
  | true => exact .inr (.inr (.inr (.inl ⟨rfl, lenT_let hl⟩)))
  | false =>
    cases hd : digN b.toNat with
    | true => exact .inr (.inr (.inr (.inr ⟨rfl, lenT_dig hd⟩)))
    | false =>
      have h := lenT_oth (r := r) hl hd
      rw [h] at hn ⊢
      by_cases h3 : Lib.hasPrefix (b :: r) [60, 45, 62] = true
      · rw [if_pos h3]; exact .inl ⟨h3, rfl⟩
      · rw [if_neg h3] at hn ⊢
        by_cases h2 : Lib.hasPrefix (b :: r) [45, 62] = true
        · rw [if_pos h2]; exact .inr (.inl ⟨h2, rfl⟩)
        · rw [if_neg h2] at hn ⊢
          by_cases h1 : b ∈ signs
          · rw [if_pos h1]; exact .inr (.inr (.inl ⟨h1, rfl⟩))
          · rw [if_neg h1] at hn; exact absurd rfl hn
theorem lenT_3 {l : List UInt8} (h : Lib.hasPrefix l [60, 45, 62] = true) : lenT l = 3 := by unfold lenT; rw [if_pos h]
theorem lenT_2 {r : List UInt8} (h : Lib.hasPrefix (45 :: r) [45, 62] = true) : lenT (45 :: r) = 2 := by
  unfold lenT; rw [pre2, if_neg (by simp), if_pos h]
theorem lenT_1 {b : UInt8} {r : List UInt8} (h : b ∈ signs) : lenT (b :: r) = 1 := by
  obtain ⟨h1, h2⟩ := sign_ne h
  unfold lenT
  rw [not_pre rfl rfl h1, not_pre rfl rfl h2, if_neg (by simp), if_neg (by simp)]
  simp only
  rw [if_pos h]
theorem lenT_app {s m : List UInt8} (hn : lenT s ≠ 0) (hc : Cut2 s m) : lenT (s ++ m) = lenT s := by
  cases s with
  | nil => exact absurd rfl hn
  | cons b r =>
    rcases lenT_kinds hn with ⟨h, e⟩ | ⟨h, e⟩ | ⟨h, e⟩ | ⟨h, e⟩ | ⟨h, e⟩
    · rw [e]; exact lenT_3 (pre_app h)
    · obtain rfl := pre_head h
      rw [e]; exact lenT_2 (pre_app h)
    · rw [e]; exact lenT_1 h
    · rw [e, List.cons_append, lenT_let h, ← List.cons_append, tw_app hc]
    · rw [e, List.cons_append, lenT_dig h, ← List.cons_append, tw_app (cut_dig hc)]
/-- A token alone. -/
theorem lenT_self {s : List UInt8} (hn : lenT s ≠ 0) : lenT (s.take (lenT s)) = lenT s := by
  cases s with
  | nil => exact absurd rfl hn
  | cons b r =>
    rcases lenT_kinds hn with ⟨h, e⟩ | ⟨h, e⟩ | ⟨h, e⟩ | ⟨h, e⟩ | ⟨h, e⟩
    · rw [e, show (3 : Nat) = ([60, 45, 62] : List UInt8).length from rfl, pre_take h]; decide
    · rw [e, show (2 : Nat) = ([45, 62] : List UInt8).length from rfl, pre_take h]; decide
    · rw [e]; exact lenT_1 h
    · have hb : wordB b = true := by unfold wordB; rw [h]; rfl
      have hall : ((b :: r).takeWhile wordB).takeWhile wordB = (b :: r).takeWhile wordB := tw_tw _ _
      rw [e, tw_take]
      have hcons : (b :: r).takeWhile wordB = b :: r.takeWhile wordB := by rw [List.takeWhile_cons, if_pos hb]
      conv => lhs; rw [hcons, lenT_let h, ← hcons, hall]
    · have hb : digB b = true := h
      have hall : ((b :: r).takeWhile digB).takeWhile digB = (b :: r).takeWhile digB := tw_tw _ _
      rw [e, tw_take]
      have hcons : (b :: r).takeWhile digB = b :: r.takeWhile digB := by rw [List.takeWhile_cons, if_pos hb]
      conv => lhs; rw [hcons, lenT_dig h, ← hcons, hall]
theorem take_tw {p : UInt8 → Bool} {s : List UInt8} {n : Nat} (h : (s.takeWhile p).length ≤ n) : ((s.take n).takeWhile p) = s.takeWhile p := by
  induction s generalizing n with
  | nil => simp
  | cons a s ih =>
    rw [List.takeWhile_cons] at h ⊢
    by_cases ha : p a = true
    · rw [if_pos ha] at h ⊢
      cases n with
      | zero => simp at h
      | succ n => rw [List.take_succ_cons, List.takeWhile_cons, if_pos ha, ih (by simpa using h)]
    · rw [if_neg ha]
      cases n with
      | zero => rfl
      | succ n => rw [List.take_succ_cons, List.takeWhile_cons, if_neg ha]
theorem pre_of_take {s t : List UInt8} {n : Nat} (h : Lib.hasPrefix s t = true) (hn : t.length ≤ n) : Lib.hasPrefix (s.take n) t = true := by
  have h1 := List.isPrefixOf_iff_prefix.1 (show List.isPrefixOf _ _ = true from h)
  refine List.isPrefixOf_iff_prefix.2 ?_
  obtain ⟨r, rfl⟩ := h1
  rw [List.take_append]
  rw [List.take_of_length_le hn]
  exact List.prefix_append _ _
/-- A token of a beginning of a text. -/
theorem lenT_take {s : List UInt8} {n : Nat} (hn : lenT s ≠ 0) (hl : lenT s ≤ n) : lenT (s.take n) = lenT s := by
  cases s with
  | nil => exact absurd rfl hn
  | cons b r =>
    obtain ⟨m, rfl⟩ : ∃ m, n = m + 1 := ⟨n - 1, by omega⟩
    rcases lenT_kinds hn with ⟨h, e⟩ | ⟨h, e⟩ | ⟨h, e⟩ | ⟨h, e⟩ | ⟨h, e⟩
    · rw [e]; exact lenT_3 (pre_of_take h (by rw [e] at hl; exact hl))
    · obtain rfl := pre_head h
      have h2 := pre_of_take (n := m + 1) h (by rw [e] at hl; exact hl)
      rw [e]; exact lenT_2 h2
    · rw [e]; exact lenT_1 h
    · rw [e] at hl ⊢
      rw [List.take_succ_cons, lenT_let h, ← List.take_succ_cons, take_tw hl]
    · rw [e] at hl ⊢
      rw [List.take_succ_cons, lenT_dig h, ← List.take_succ_cons, take_tw hl]
end Go.Proofs.YtdhdcenjiopofaaGreatDoor
