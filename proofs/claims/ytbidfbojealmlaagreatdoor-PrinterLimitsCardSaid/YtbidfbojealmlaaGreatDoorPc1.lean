/- The words of texts that are put together, plain. The tokens of texts that are put together, plain. No condition. -/
import Derived.Test.YtbidfbojealmlaaGreatDoorPaU
import Derived.Test.YtbidfbojealmlaaGreatDoorPb00
set_option linter.unusedVariables false
set_option linter.unusedSimpArgs false
namespace Go.Proofs.YtbidfbojealmlaaGreatDoor
open Go.RowKit

/-- What stands behind a text cannot lengthen its last token. -/
def Cut2 (s m : List UInt8) : Prop := (∀ b r, m = b :: r → wordB b = false) ∨ ∃ b, s.getLast? = some b ∧ wordB b = false
theorem tw_app {p : UInt8 → Bool} : ∀ {s m : List UInt8}, ((∀ b r, m = b :: r → p b = false) ∨ ∃ b, s.getLast? = some b ∧ p b = false) → (s ++ m).takeWhile p = s.takeWhile p
  | [], m, h => by
    rcases h with h | ⟨b, hb, _⟩
    · cases m with
      | nil => rfl
      | cons b r => simp [List.takeWhile_cons, h b r rfl]
    · cases hb
  | a :: s, m, h => by
    rw [List.cons_append, List.takeWhile_cons, List.takeWhile_cons]
    by_cases ha : p a = true
    · rw [if_pos ha, if_pos ha]
      congr 1
      refine tw_app ?_
      rcases h with h | ⟨b, hb, hp⟩
      · exact .inl h
      · cases s with
        | nil =>
          have : a = b := by simpa using hb
          subst this
          rw [ha] at hp; cases hp
        | cons c s => exact .inr ⟨b, by simpa using hb, hp⟩
    · rw [if_neg ha, if_neg ha]
theorem tw_tw (p : UInt8 → Bool) : ∀ l : List UInt8, (l.takeWhile p).takeWhile p = l.takeWhile p
  | [] => rfl
  | a :: l => by
    rw [List.takeWhile_cons]
    by_cases ha : p a = true
    · rw [if_pos ha, List.takeWhile_cons, if_pos ha, tw_tw p l]
    · rw [if_neg ha]; rfl
theorem cut_dig {s m : List UInt8} (h : Cut2 s m) : (∀ b r, m = b :: r → digB b = false) ∨ ∃ b, s.getLast? = some b ∧ digB b = false := by
  have hd : ∀ b, wordB b = false → digB b = false := fun b hb => by
    unfold wordB at hb
    unfold digB
    cases hd : digN b.toNat
    · rfl
    · rw [hd, Bool.or_true] at hb; cases hb
  rcases h with h | ⟨b, hb, hp⟩
  · exact .inl fun b r e => hd b (h b r e)
  · exact .inr ⟨b, hb, hd b hp⟩
theorem pre_app {s m t : List UInt8} (h : Lib.hasPrefix s t = true) : Lib.hasPrefix (s ++ m) t = true := by
  have := List.isPrefixOf_iff_prefix.1 (show List.isPrefixOf _ _ = true from h)
  exact List.isPrefixOf_iff_prefix.2 (this.trans (List.prefix_append s m))
theorem pre_head {b c : UInt8} {r s : List UInt8} (h : Lib.hasPrefix (b :: r) (c :: s) = true) : c = b := by
  have := List.isPrefixOf_iff_prefix.1 (show List.isPrefixOf _ _ = true from h)
  exact (List.cons_prefix_cons.1 this).1
theorem pre3 {r : List UInt8} : Lib.hasPrefix (60 :: r) [45, 62] = false := not_pre rfl rfl (by decide)
theorem pre2 {r : List UInt8} : Lib.hasPrefix (45 :: r) [60, 45, 62] = false := not_pre rfl rfl (by decide)
theorem sign_ne {b : UInt8} (h : b ∈ signs) : b ≠ 60 ∧ b ≠ 45 := by
  constructor <;> rintro rfl <;> exact absurd h (by decide)
/-- The kinds of tokens. -/
theorem lenT_kinds {b : UInt8} {r : List UInt8} (hn : lenT (b :: r) ≠ 0) :
    (Lib.hasPrefix (b :: r) [60, 45, 62] = true ∧ lenT (b :: r) = 3) ∨ (Lib.hasPrefix (b :: r) [45, 62] = true ∧ lenT (b :: r) = 2) ∨ (b ∈ signs ∧ lenT (b :: r) = 1) ∨
    (letN b.toNat = true ∧ lenT (b :: r) = ((b :: r).takeWhile wordB).length) ∨ (digN b.toNat = true ∧ lenT (b :: r) = ((b :: r).takeWhile digB).length) := by
  cases hl : letN b.toNat with
  | true => exact .inr (.inr (.inr (.inl ⟨rfl, lenT_let hl⟩)))
  | false =>
    cases hd : digN b.toNat with
    | true => exact .inr (.inr (.inr (.inr ⟨rfl, lenT_dig hd⟩)))
    | false =>
      have h := lenT_oth (r := r) hl hd
      rw [h] at hn ⊢
      by_cases h3 : Lib.hasPrefix (b :: r) [60, 45, 62] = true
      · rw [if_pos h3]; exact .inl ⟨h3, rfl⟩
      · rw [if_neg h3] at hn ⊢
        by_cases h2 : Lib.hasPrefix (b :: r) [45, 62] = true
        · rw [if_pos h2]; exact .inr (.inl ⟨h2, rfl⟩)
        · rw [if_neg h2] at hn ⊢
          by_cases h1 : b ∈ signs
          · rw [if_pos h1]; exact .inr (.inr (.inl ⟨h1, rfl⟩))
          · rw [if_neg h1] at hn; exact absurd rfl hn
theorem lenT_3 {l : List UInt8} (h : Lib.hasPrefix l [60, 45, 62] = true) : lenT l = 3 := by unfold lenT; rw [if_pos h]
theorem lenT_2 {r : List UInt8} (h : Lib.hasPrefix (45 :: r) [45, 62] = true) : lenT (45 :: r) = 2 := by
  unfold lenT; rw [pre2, if_neg (by simp), if_pos h]
theorem lenT_1 {b : UInt8} {r : List UInt8} (h : b ∈ signs) : lenT (b :: r) = 1 := by
  obtain ⟨h1, h2⟩ := sign_ne h
  unfold lenT
  rw [not_pre rfl rfl h1, not_pre rfl rfl h2, if_neg (by simp), if_neg (by simp)]
  simp only
  rw [if_pos h]
theorem lenT_app {s m : List UInt8} (hn : lenT s ≠ 0) (hc : Cut2 s m) : lenT (s ++ m) = lenT s := by
  cases s with
  | nil => exact absurd rfl hn
  | cons b r =>
    rcases lenT_kinds hn with ⟨h, e⟩ | ⟨h, e⟩ | ⟨h, e⟩ | ⟨h, e⟩ | ⟨h, e⟩
    · rw [e]; exact lenT_3 (pre_app h)
    · obtain rfl := pre_head h
      rw [e]; exact lenT_2 (pre_app h)
    · rw [e]; exact lenT_1 h
    · rw [e, List.cons_append, lenT_let h, ← List.cons_append, tw_app hc]
    · rw [e, List.cons_append, lenT_dig h, ← List.cons_append, tw_app (cut_dig hc)]
/-- A token alone. -/
theorem lenT_self {s : List UInt8} (hn : lenT s ≠ 0) : lenT (s.take (lenT s)) = lenT s := by
  cases s with
  | nil => exact absurd rfl hn
  | cons b r =>
    rcases lenT_kinds hn with ⟨h, e⟩ | ⟨h, e⟩ | ⟨h, e⟩ | ⟨h, e⟩ | ⟨h, e⟩
    · rw [e, show (3 : Nat) = ([60, 45, 62] : List UInt8).length from rfl, pre_take h]; decide
    · rw [e, show (2 : Nat) = ([45, 62] : List UInt8).length from rfl, pre_take h]; decide
    · rw [e]; exact lenT_1 h
    · have hb : wordB b = true := by unfold wordB; rw [h]; rfl
      have hall : ((b :: r).takeWhile wordB).takeWhile wordB = (b :: r).takeWhile wordB := tw_tw _ _
      rw [e, tw_take]
      have hcons : (b :: r).takeWhile wordB = b :: r.takeWhile wordB := by rw [List.takeWhile_cons, if_pos hb]
      conv => lhs; rw [hcons, lenT_let h, ← hcons, hall]
    · have hb : digB b = true := h
      have hall : ((b :: r).takeWhile digB).takeWhile digB = (b :: r).takeWhile digB := tw_tw _ _
      rw [e, tw_take]
      have hcons : (b :: r).takeWhile digB = b :: r.takeWhile digB := by rw [List.takeWhile_cons, if_pos hb]
      conv => lhs; rw [hcons, lenT_dig h, ← hcons, hall]
theorem take_tw {p : UInt8 → Bool} {s : List UInt8} {n : Nat} (h : (s.takeWhile p).length ≤ n) : ((s.take n).takeWhile p) = s.takeWhile p := by
  induction s generalizing n with
  | nil => simp
  | cons a s ih =>
    rw [List.takeWhile_cons] at h ⊢
    by_cases ha : p a = true
    · rw [if_pos ha] at h ⊢
      cases n with
      | zero => simp at h
      | succ n => rw [List.take_succ_cons, List.takeWhile_cons, if_pos ha, ih (by simpa using h)]
    · rw [if_neg ha]
      cases n with
      | zero => rfl
      | succ n => rw [List.take_succ_cons, List.takeWhile_cons, if_neg ha]
theorem pre_of_take {s t : List UInt8} {n : Nat} (h : Lib.hasPrefix s t = true) (hn : t.length ≤ n) : Lib.hasPrefix (s.take n) t = true := by
  have h1 := List.isPrefixOf_iff_prefix.1 (show List.isPrefixOf _ _ = true from h)
  refine List.isPrefixOf_iff_prefix.2 ?_
  obtain ⟨r, rfl⟩ := h1
  rw [List.take_append]
  rw [List.take_of_length_le hn]
  exact List.prefix_append _ _
/-- A token of a beginning of a text. -/
theorem lenT_take {s : List UInt8} {n : Nat} (hn : lenT s ≠ 0) (hl : lenT s ≤ n) : lenT (s.take n) = lenT s := by
  cases s with
  | nil => exact absurd rfl hn
  | cons b r =>
    obtain ⟨m, rfl⟩ : ∃ m, n = m + 1 := ⟨n - 1, by omega⟩
    rcases lenT_kinds hn with ⟨h, e⟩ | ⟨h, e⟩ | ⟨h, e⟩ | ⟨h, e⟩ | ⟨h, e⟩
    · rw [e]; exact lenT_3 (pre_of_take h (by rw [e] at hl; exact hl))
    · obtain rfl := pre_head h
      have h2 := pre_of_take (n := m + 1) h (by rw [e] at hl; exact hl)
      rw [e]; exact lenT_2 h2
    · rw [e]; exact lenT_1 h
    · rw [e] at hl ⊢
      rw [List.take_succ_cons, lenT_let h, ← List.take_succ_cons, take_tw hl]
    · rw [e] at hl ⊢
      rw [List.take_succ_cons, lenT_dig h, ← List.take_succ_cons, take_tw hl]
end Go.Proofs.YtbidfbojealmlaaGreatDoor
namespace Go.Proofs.YtbidfbojealmlaaGreatDoor
open Go.RowKit

def shiftT (k : Nat) (cs : Tk) : Tk := cs.map fun c => (k + c.1, c.2)
def shiftE (k : Nat) : Except Nat Tk → Except Nat Tk
  | .ok cs => .ok (shiftT k cs)
  | .error p => .error (k + p)
theorem toks_shift (p l : List UInt8) : ∀ (f i : Nat), toks (p ++ l) f (p.length + i) = shiftE p.length (toks l f i)
  | 0, i => rfl
  | f + 1, i => by
    unfold toks
    have hd : (p ++ l).drop (p.length + i) = l.drop i := by rw [← List.drop_drop, List.drop_left]
    rw [hd]
    cases hl : l.drop i with
    | nil => rfl
    | cons b r =>
      simp only
      by_cases hs : spaceB b = true
      · rw [if_pos hs, if_pos hs, Nat.add_assoc, toks_shift p l f (i + 1)]
      · rw [if_neg hs, if_neg hs]
        by_cases hn : lenT (b :: r) = 0
        · rw [if_pos hn, if_pos hn]; rfl
        · rw [if_neg hn, if_neg hn, Nat.add_assoc, toks_shift p l f (i + lenT (b :: r))]
          cases toks l f (i + lenT (b :: r)) <;> rfl
theorem tokens_shift (p l : List UInt8) : tokens (p ++ l) p.length = shiftE p.length (tokens l 0) := by
  unfold tokens
  have := toks_shift p l ((p ++ l).length - p.length) 0
  rw [Nat.add_zero] at this
  rw [this]
  congr 1
  exact toks_fuel l _ _ 0 (by simp) (by simp)
theorem last_drop {l : List UInt8} {i : Nat} (h : i < l.length) : (l.drop i).getLast? = l.getLast? := by
  rw [List.getLast?_drop, if_neg (by omega)]
theorem cut_drop {l m : List UInt8} {i : Nat} (h : i < l.length) (hc : Cut2 l m) : Cut2 (l.drop i) m := by
  rcases hc with hc | ⟨b, hb, hw⟩
  · exact .inl hc
  · exact .inr ⟨b, by rw [last_drop h]; exact hb, hw⟩
/-- A text, and more behind it. -/
theorem toks_app (l m : List UInt8) (hc : Cut2 l m) : ∀ (f g i : Nat) (ts : Tk), i ≤ l.length → toks l f i = .ok ts → l.length - i ≤ f → (l ++ m).length - i ≤ g → toks (l ++ m) g i = preE ts (tokens (l ++ m) l.length)
  | f, g, i, ts, hi, h, hf, hg => by
    by_cases hlt : i < l.length
    · obtain ⟨f, rfl⟩ : ∃ k, f = k + 1 := ⟨f - 1, by omega⟩
      have hll : (l ++ m).length = l.length + m.length := List.length_append
      obtain ⟨g, rfl⟩ : ∃ k, g = k + 1 := ⟨g - 1, by omega⟩
      unfold toks at h ⊢
      have hd : (l ++ m).drop i = l.drop i ++ m := List.drop_append_of_le_length hi
      rw [hd]
      cases hl : l.drop i with
      | nil =>
        have := List.drop_eq_nil_iff.1 hl
        omega
      | cons b r =>
        rw [hl] at h
        rw [List.cons_append]
        simp only at h ⊢
        by_cases hs : spaceB b = true
        · rw [if_pos hs] at h ⊢
          exact toks_app l m hc f g (i + 1) ts (by omega) h (by omega) (by omega)
        · rw [if_neg hs] at h ⊢
          by_cases hn : lenT (b :: r) = 0
          · rw [if_pos hn] at h; cases h
          · rw [if_neg hn] at h
            have hla : lenT (b :: (r ++ m)) = lenT (b :: r) := by
              have := lenT_app hn (hl ▸ cut_drop hlt hc)
              rwa [List.cons_append] at this
            have hle := lenT_le (b :: r)
            have hlen : (b :: r).length = l.length - i := by rw [← hl, List.length_drop]
            rw [hla, if_neg hn]
            cases hr : toks l f (i + lenT (b :: r)) with
            | error p => rw [hr] at h; cases h
            | ok ts2 =>
              rw [hr] at h
              cases h
              rw [toks_app l m hc f g (i + lenT (b :: r)) ts2 (by omega) hr (by omega) (by omega)]
              have htk : (b :: (r ++ m)).take (lenT (b :: r)) = (b :: r).take (lenT (b :: r)) := by rw [← List.cons_append, List.take_append_of_le_length hle]
              rw [htk]
              cases tokens (l ++ m) l.length <;> rfl
    · obtain rfl : i = l.length := by omega
      have h0 : toks l f l.length = .ok [] := by
        cases f with
        | zero => rfl
        | succ f => unfold toks; rw [List.drop_length]
      rw [h0] at h
      cases h
      have : toks (l ++ m) g l.length = tokens (l ++ m) l.length := toks_fuel _ _ _ _ hg (Nat.le_refl _)
      rw [this]
      cases tokens (l ++ m) l.length <;> rfl
theorem tokens_app {l m : List UInt8} {ts : Tk} (h : tokens l 0 = .ok ts) (hc : Cut2 l m) : tokens (l ++ m) 0 = preE ts (shiftE l.length (tokens m 0)) := by
  rw [← tokens_shift]
  exact toks_app l m hc _ _ 0 ts (by omega) h (Nat.le_refl _) (Nat.le_refl _)
/-- The words of a text that is in order. -/
def wrds (l : List UInt8) : Option (List (List UInt8)) := match tokens l 0 with | .ok ts => some (ts.map (·.2)) | .error _ => none
theorem wrds_app {l m : List UInt8} {ws us : List (List UInt8)} (h : wrds l = some ws) (hc : Cut2 l m) (hm : wrds m = some us) : wrds (l ++ m) = some (ws ++ us) := by
  unfold wrds at h hm ⊢
  cases h1 : tokens l 0 with
  | error p => rw [h1] at h; cases h
  | ok ts =>
    rw [h1] at h
    cases h
    rw [tokens_app h1 hc]
    cases h2 : tokens m 0 with
    | error p => rw [h2] at hm; cases hm
    | ok ts2 =>
      rw [h2] at hm
      cases hm
      simp [shiftE, preE, shiftT]
theorem wrds_of {l : List UInt8} {cs : Tk} (h : tokens l 0 = .ok cs) : wrds l = some (cs.map (·.2)) := by unfold wrds; rw [h]
/-- A word of a text, alone. -/
structure Wd (s : List UInt8) : Prop where
  len : lenT s = s.length
  ne : s ≠ []
  sp : ∀ b r, s = b :: r → spaceB b = false
theorem wrds_word {s : List UInt8} (h : Wd s) : wrds s = some [s] := by
  cases s with
  | nil => exact absurd rfl h.ne
  | cons b r =>
    have h0 : (b :: r)[0]? = some b := rfl
    have hn : lenT ((b :: r).drop 0) ≠ 0 := by rw [List.drop_zero, h.len]; simp
    have := tokens_word h0 (h.sp b r rfl) hn
    rw [List.drop_zero, h.len, Nat.zero_add, tokens_end (Nat.le_refl _), List.take_length] at this
    unfold wrds
    rw [this]
    rfl
theorem toks_words (l : List UInt8) : ∀ (f i : Nat) (ts : Tk), toks l f i = .ok ts → ∀ c ∈ ts, Wd c.2
  | 0, i, ts, h => by cases h; simp
  | f + 1, i, ts, h => by
    unfold toks at h
    cases hd : l.drop i with
    | nil => rw [hd] at h; cases h; simp
    | cons b r =>
      rw [hd] at h
      simp only at h
      by_cases hs : spaceB b = true
      · rw [if_pos hs] at h
        exact toks_words l f (i + 1) ts h
      · rw [if_neg hs] at h
        by_cases hn : lenT (b :: r) = 0
        · rw [if_pos hn] at h; cases h
        · rw [if_neg hn] at h
          cases hr : toks l f (i + lenT (b :: r)) with
          | error p => rw [hr] at h; cases h
          | ok ts2 =>
            rw [hr] at h
            cases h
            intro c hc
            rcases List.mem_cons.1 hc with rfl | hc
            · have hle := lenT_le (b :: r)
              obtain ⟨m, hm⟩ : ∃ m, lenT (b :: r) = m + 1 := ⟨lenT (b :: r) - 1, by omega⟩
              refine ⟨?_, ?_, ?_⟩
              · show lenT ((b :: r).take (lenT (b :: r))) = _
                rw [lenT_self hn]
                show _ = ((b :: r).take (lenT (b :: r))).length
                rw [List.length_take]
                omega
              · show (b :: r).take (lenT (b :: r)) ≠ []
                rw [hm]; simp
              · intro b' r' e
                have e' : (b :: r).take (lenT (b :: r)) = b' :: r' := e
                rw [hm, List.take_succ_cons] at e'
                have : b = b' := (List.cons.inj e').1
                subst this
                cases hq : spaceB b
                · rfl
                · exact absurd hq hs
            · exact toks_words l f _ ts2 hr c hc
theorem tokens_words {l : List UInt8} {ts : Tk} (h : tokens l 0 = .ok ts) : ∀ c ∈ ts, Wd c.2 := toks_words l _ 0 ts h
/-- Words with spaces between them. -/
def piece (k : Nat) (w : List UInt8) : List UInt8 := if k % 3 = 0 then 32 :: (w ++ [9]) else if k % 3 = 1 then w ++ [32, 32] else 10 :: (w ++ [32])
def spreadL (k : Nat) : List (List UInt8) → List UInt8
  | [] => []
  | w :: ws => piece k w ++ spreadL (k + 1) ws
theorem piece_last (k : Nat) (w : List UInt8) : ∃ b, (piece k w).getLast? = some b ∧ wordB b = false := by
  unfold piece
  split
  · exact ⟨9, by rw [← List.cons_append, List.getLast?_append]; rfl, by decide⟩
  · split
    · exact ⟨32, by rw [List.getLast?_append]; rfl, by decide⟩
    · exact ⟨32, by rw [← List.cons_append, List.getLast?_append]; rfl, by decide⟩
theorem wrds_sp {b : UInt8} (h : b = 32 ∨ b = 9 ∨ b = 10) : wrds [b] = some [] := by rcases h with rfl | rfl | rfl <;> rfl
theorem wrds_piece (k : Nat) {w : List UInt8} (h : Wd w) : wrds (piece k w) = some [w] := by
  have hw := wrds_word h
  have h32 : wordB 32 = false := by decide
  have h9 : wordB 9 = false := by decide
  have h10 : wordB 10 = false := by decide
  unfold piece
  split
  · have h1 := wrds_app hw (m := [9]) (us := []) (.inl (by intro b r e; cases e; exact h9)) rfl
    have h2 := wrds_app (l := [32]) (ws := []) rfl (m := w ++ [9]) (.inr ⟨32, rfl, h32⟩) h1
    simpa using h2
  · split
    · have h1 := wrds_app hw (m := [32, 32]) (us := []) (.inl (by intro b r e; cases e; exact h32)) rfl
      simpa using h1
    · have h1 := wrds_app hw (m := [32]) (us := []) (.inl (by intro b r e; cases e; exact h32)) rfl
      have h2 := wrds_app (l := [10]) (ws := []) rfl (m := w ++ [32]) (.inr ⟨10, rfl, h10⟩) h1
      simpa using h2
theorem wrds_spread : ∀ (k : Nat) (ws : List (List UInt8)), (∀ w ∈ ws, Wd w) → wrds (spreadL k ws) = some ws
  | k, [], _ => rfl
  | k, w :: ws, h => by
    exact wrds_app (wrds_piece k (h w (by simp))) (.inr (piece_last k w)) (wrds_spread (k + 1) ws fun x hx => h x (by simp [hx]))
theorem spread_len : ∀ (k : Nat) (ws : List (List UInt8)), (spreadL k ws).length = (ws.map List.length).sum + 2 * ws.length
  | k, [] => rfl
  | k, w :: ws => by
    have hp : (piece k w).length = w.length + 2 := by unfold piece; split; simp; split <;> simp
    rw [spreadL, List.length_append, hp, spread_len (k + 1) ws, List.map_cons, List.sum_cons, List.length_cons]
    omega
/-- The words of a text are not longer than the text. -/
theorem toks_sum (l : List UInt8) : ∀ (f i : Nat) (ts : Tk), toks l f i = .ok ts → (ts.map (fun c => c.2.length)).sum ≤ l.length - i
  | 0, i, ts, h => by cases h; simp
  | f + 1, i, ts, h => by
    unfold toks at h
    cases hd : l.drop i with
    | nil => rw [hd] at h; cases h; simp
    | cons b r =>
      rw [hd] at h
      simp only at h
      by_cases hs : spaceB b = true
      · rw [if_pos hs] at h
        have := toks_sum l f (i + 1) ts h
        omega
      · rw [if_neg hs] at h
        by_cases hn : lenT (b :: r) = 0
        · rw [if_pos hn] at h; cases h
        · rw [if_neg hn] at h
          cases hr : toks l f (i + lenT (b :: r)) with
          | error p => rw [hr] at h; cases h
          | ok ts2 =>
            rw [hr] at h
            cases h
            have := toks_sum l f _ ts2 hr
            have hle := lenT_le (b :: r)
            have hlen : (b :: r).length = l.length - i := by rw [← hd, List.length_drop]
            rw [List.map_cons, List.sum_cons]
            show ((b :: r).take (lenT (b :: r))).length + _ ≤ _
            rw [List.length_take]
            omega
end Go.Proofs.YtbidfbojealmlaaGreatDoor
