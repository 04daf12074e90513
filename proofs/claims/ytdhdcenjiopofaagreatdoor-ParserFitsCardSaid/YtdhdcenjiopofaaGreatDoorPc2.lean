/- The tokens of texts that are put together, plain. No condition. -/
import Derived.Test.YtdhdcenjiopofaaGreatDoorPc1
set_option linter.unusedVariables false
set_option linter.unusedSimpArgs false
namespace Go.Proofs.YtdhdcenjiopofaaGreatDoor
open Go.RowKit

def shiftT (k : Nat) (cs : Tk) : Tk := cs.map fun c => (k + c.1, c.2)
def shiftE (k : Nat) : Except Nat Tk → Except Nat Tk
  | .ok cs => .ok (shiftT k cs)
  | .error p => .error (k + p)
theorem toks_shift (p l : List UInt8) : ∀ (f i : Nat), toks (p ++ l) f (p.length + i) = shiftE p.length (toks l f i)
  | 0, i => rfl
  | f + 1, i => by
    unfold toks
    have hd : (p ++ l).drop (p.length + i) = l.drop i := by rw [← List.drop_drop, List.drop_left]
    rw [hd]
    cases hl : l.drop i with
    | nil => rfl
    | cons b r =>
      simp only
      by_cases hs : spaceB b = true
      · rw [if_pos hs, if_pos hs, Nat.add_assoc, toks_shift p l f (i + 1)]
      · rw [if_neg hs, if_neg hs]
        by_cases hn : lenT (b :: r) = 0
        · rw [if_pos hn, if_pos hn]; rfl
        · rw [if_neg hn, if_neg hn, Nat.add_assoc, toks_shift p l f (i + lenT (b :: r))]
          cases toks l f (i + lenT (b :: r)) <;> rfl
theorem tokens_shift (p l : List UInt8) : tokens (p ++ l) p.length = shiftE p.length (tokens l 0) := by
  unfold tokens
  have := toks_shift p l ((p ++ l).length - p.length) 0
  rw [Nat.add_zero] at this
  rw [this]
  congr 1
  exact toks_fuel l _ _ 0 (by simp) (by simp)
theorem last_drop {l : List UInt8} {i : Nat} (h : i < l.length) : (l.drop i).getLast? = l.getLast? := by
  rw [List.getLast?_drop, if_neg (by omega)]
theorem cut_drop {l m : List UInt8} {i : Nat} (h : i < l.length) (hc : Cut2 l m) : Cut2 (l.drop i) m := by
  rcases hc with hc | ⟨b, hb, hw⟩
  · exact .inl hc
  · exact .inr ⟨b, by rw [last_drop h]; exact hb, hw⟩
/-- A text, and more behind it. -/
theorem toks_app (l m : List UInt8) (hc : Cut2 l m) : ∀ (f g i : Nat) (ts : Tk), i ≤ l.length → toks l f i = .ok ts → l.length - i ≤ f → (l ++ m).length - i ≤ g → toks (l ++ m) g i = preE ts (tokens (l ++ m) l.length)
  | f, g, i, ts, hi, h, hf, hg => by
    by_cases hlt : i < l.length
    · obtain ⟨f, rfl⟩ : ∃ k, f = k + 1 := ⟨f - 1, by omega⟩
      have hll : (l ++ m).length = l.length + m.length := List.length_append
      obtain ⟨g, rfl⟩ : ∃ k, g = k + 1 := ⟨g - 1, by omega⟩
      unfold toks at h ⊢
      have hd : (l ++ m).drop i = l.drop i ++ m := List.drop_append_of_le_length hi
      rw [hd]
      cases hl : l.drop i with
      | nil =>
        have := List.drop_eq_nil_iff.1 hl
        omega
      | cons b r =>
        rw [hl] at h
        rw [List.cons_append]
        simp only at h ⊢
        by_cases hs : spaceB b = true
        · rw [if_pos hs] at h ⊢
          exact toks_app l m hc f g (i + 1) ts (by omega) h (by omega) (by omega)
        · rw [if_neg hs] at h ⊢
          by_cases hn : lenT (b :: r) = 0
          · rw [if_pos hn] at h; cases h
          · rw [if_neg hn] at h
            have hla : lenT (b :: (r ++ m)) = lenT (b :: r) := by
              have := lenT_app hn (hl ▸ cut_drop hlt hc)
              rwa [List.cons_append] at this
            have hle := lenT_le (b :: r)
            have hlen : (b :: r).length = l.length - i := by rw [← hl, List.length_drop]
            rw [hla, if_neg hn]
            cases hr : toks l f (i + lenT (b :: r)) with
            | error p => rw [hr] at h; cases h
            | ok ts2 =>
              rw [hr] at h
              cases h
              rw [toks_app l m hc f g (i + lenT (b :: r)) ts2 (by omega) hr (by omega) (by omega)]
              have htk : (b :: (r ++ m)).take (lenT (b :: r)) = (b :: r).take (lenT (b :: r)) := by rw [← List.cons_append, List.take_append_of_le_length hle]
              rw [htk]
              cases tokens (l ++ m) l.length <;> rfl
    · obtain rfl : i = l.length := by omega
      have h0 : toks l f l.length = .ok [] := by
        cases f with
        | zero => rfl
        | succ f => unfold toks; rw [List.drop_length]
      rw [h0] at h
      cases h
      have : toks (l ++ m) g l.length = tokens (l ++ m) l.length := toks_fuel _ _ _ _ hg (Nat.le_refl _)
      rw [this]
      cases tokens (l ++ m) l.length <;> rfl
theorem tokens_app {l m : List UInt8} {ts : Tk} (h : tokens l 0 = .ok ts) (hc : Cut2 l m) : tokens (l ++ m) 0 = preE ts (shiftE l.length (tokens m 0)) := by
  rw [← tokens_shift]
  exact toks_app l m hc _ _ 0 ts (by omega) h (Nat.le_refl _) (Nat.le_refl _)
/-- The words of a text that is in order. -/
def wrds (l : List UInt8) : Option (List (List UInt8)) := match tokens l 0 with | .ok ts => some (ts.map (·.2)) | .error _ => none
theorem wrds_app {l m : List UInt8} {ws us : List (List UInt8)} (h : wrds l = some ws) (hc : Cut2 l m) (hm : wrds m = some us) : wrds (l ++ m) = some (ws ++ us) := by
  unfold wrds at h hm ⊢
  cases h1 : tokens l 0 with
  | error p => rw [h1] at h; cases h
  | ok ts =>
    rw [h1] at h
    cases h
    rw [tokens_app h1 hc]
    cases h2 : tokens m 0 with
    | error p => rw [h2] at hm; cases hm
    | ok ts2 =>
      rw [h2] at hm
      cases hm
      simp [shiftE, preE, shiftT]
theorem wrds_of {l : List UInt8} {cs : Tk} (h : tokens l 0 = .ok cs) : wrds l = some (cs.map (·.2)) := by unfold wrds; rw [h]
/-- A word of a text, alone. -/
structure Wd (s : List UInt8) : Prop where
  len : lenT s = s.length
  ne : s ≠ []
  sp : ∀ b r, s = b :: r → spaceB b = false
theorem wrds_word {s : List UInt8} (h : Wd s) : wrds s = some [s] := by
  cases s with
  | nil => exact absurd rfl h.ne
  | cons b r =>
    have h0 : (b :: r)[0]? = some b := rfl
    have hn : lenT ((b :: r).drop 0) ≠ 0 := by rw [List.drop_zero, h.len]; simp
    have := tokens_word h0 (h.sp b r rfl) hn
    rw [List.drop_zero, h.len, Nat.zero_add, tokens_end (Nat.le_refl _), List.take_length] at this
    unfold wrds
    rw [this]
    rfl
theorem toks_words (l : List UInt8) : ∀ (f i : Nat) (ts : Tk), toks l f i = .ok ts → ∀ c ∈ ts, Wd c.2
  | 0, i, ts, h => by cases h; simp
  | f + 1, i, ts, h => by
    unfold toks at h
    cases hd : l.drop i with
    | nil => rw [hd] at h; cases h; simp
    | cons b r =>
      rw [hd] at h
      simp only at h
      by_cases hs : spaceB b = true
      · rw [if_pos hs] at h
        exact toks_words l f (i + 1) ts h
      · rw [if_neg hs] at h
        by_cases hn : lenT (b :: r) = 0
        · rw [if_pos hn] at h; cases h
        · rw [if_neg hn] at h
          cases hr : toks l f (i + lenT (b :: r)) with
          | error p => rw [hr] at h; cases h
          | ok ts2 =>
            rw [hr] at h
            cases h
            intro c hc
            rcases List.mem_cons.1 hc with rfl | hc
            · have hle := lenT_le (b :: r)
              obtain ⟨m, hm⟩ : ∃ m, lenT (b :: r) = m + 1 := ⟨lenT (b :: r) - 1, by omega⟩
              refine ⟨?_, ?_, ?_⟩
              · show lenT ((b :: r).take (lenT (b :: r))) = _
                rw [lenT_self hn]
                show _ = ((b :: r).take (lenT (b :: r))).length
                rw [List.length_take]
                omega
              · show (b :: r).take (lenT (b :: r)) ≠ []
                rw [hm]; simp
              · intro b' r' e
                have e' : (b :: r).take (lenT (b :: r)) = b' :: r' := e
                rw [hm, List.take_succ_cons] at e'
                have : b = b' := (List.cons.inj e').1
                subst this
                cases hq : spaceB b
                · rfl
                · exact absurd hq hs
            · exact toks_words l f _ ts2 hr c hc
theorem tokens_words {l : List UInt8} {ts : Tk} (h : tokens l 0 = .ok ts) : ∀ c ∈ ts, Wd c.2 := toks_words l _ 0 ts h
/-- Words with spaces between them. -/
def piece (k : Nat) (w : List UInt8) : List UInt8 := if k % 3 = 0 then 32 :: (w ++ [9]) else if k % 3 = 1 then w ++ [32, 32] else 10 :: (w ++ [32])
def spreadL (k : Nat) : List (List UInt8) → List UInt8
  | [] => []
  | w :: ws => piece k w ++ spreadL (k + 1) ws
theorem piece_last (k : Nat) (w : List UInt8) : ∃ b, (piece k w).getLast? = some b ∧ wordB b = false := by
  unfold piece
  split
  · exact ⟨9, by rw [← List.cons_append, List.getLast?_append]; rfl, by decide⟩
  · split
    · exact ⟨32, by rw [List.getLast?_append]; rfl, by decide⟩
    · exact ⟨32, by rw [← List.cons_append, List.getLast?_append]; rfl, by decide⟩
theorem wrds_sp {b : UInt8} (h : b = 32 ∨ b = 9 ∨ b = 10) : wrds [b] = some [] := by rcases h with rfl | rfl | rfl <;> rfl
theorem wrds_piece (k : Nat) {w : List UInt8} (h : Wd w) : wrds (piece k w) = some [w] := by
  have hw := wrds_word h
  have h32 : wordB 32 = false := by decide
  have h9 : wordB 9 = false := by decide
  have h10 : wordB 10 = false := by decide
  unfold piece
  split
  · have h1 := wrds_app hw (m := [9]) (us := []) (.inl (by intro b r e; cases e; exact h9)) rfl
    have h2 := wrds_app (l := [32]) (ws := []) rfl (m := w ++ [9]) (.inr ⟨32, rfl, h32⟩) h1
    simpa using h2
  · split
    · have h1 := wrds_app hw (m := [32, 32]) (us := []) (.inl (by intro b r e; cases e; exact h32)) rfl
      simpa using h1
    · have h1 := wrds_app hw (m := [32]) (us := []) (.inl (by intro b r e; cases e; exact h32)) rfl
      have h2 := wrds_app (l := [10]) (ws := []) rfl (m := w ++ [32]) (.inr ⟨10, rfl, h10⟩) h1
      simpa using h2
theorem wrds_spread : ∀ (k : Nat) (ws : List (List UInt8)), (∀ w ∈ ws, Wd w) → wrds (spreadL k ws) = some ws
  | k, [], _ => rfl
  | k, w :: ws, h => by
    exact wrds_app (wrds_piece k (h w (by simp))) (.inr (piece_last k w)) (wrds_spread (k + 1) ws fun x hx => h x (by simp [hx]))
theorem spread_len : ∀ (k : Nat) (ws : List (List UInt8)), (spreadL k ws).length = (ws.map List.length).sum + 2 * ws.length
  | k, [] => rfl
  | k, w :: ws => by
    have hp : (piece k w).length = w.length + 2 := by unfold piece; split; simp; split <;> simp
    rw [spreadL, List.length_append, hp, spread_len (k + 1) ws, List.map_cons, List.sum_cons, List.length_cons]
    omega
/-- The words of a text are not longer than the text. -/
theorem toks_sum (l : List UInt8) : ∀ (f i : Nat) (ts : Tk), toks l f i = .ok ts → (ts.map (fun c => c.2.length)).sum ≤ l.length - i
  | 0, i, ts, h => by cases h; simp
  | f + 1, i, ts, h => by
    unfold toks at h
    cases hd : l.drop i with
    | nil => rw [hd] at h; cases h; simp
    | cons b r =>
      rw [hd] at h
      simp only at h
      by_cases hs : spaceB b = true
      · rw [if_pos hs] at h
        have := toks_sum l f (i + 1) ts h
        omega
      · rw [if_neg hs] at h
        by_cases hn : lenT (b :: r) = 0
        · rw [if_pos hn] at h; cases h
        · rw [if_neg hn] at h
          cases hr : toks l f (i + lenT (b :: r)) with
          | error p => rw [hr] at h; cases h
          | ok ts2 =>
            rw [hr] at h
            cases h
            have := toks_sum l f _ ts2 hr
            have hle := lenT_le (b :: r)
            have hlen : (b :: r).length = l.length - i := by rw [← hd, List.length_drop]
            rw [List.map_cons, List.sum_cons]
            show ((b :: r).take (lenT (b :: r))).length + _ ≤ _
            rw [List.length_take]
            omega
end Go.Proofs.YtdhdcenjiopofaaGreatDoor
