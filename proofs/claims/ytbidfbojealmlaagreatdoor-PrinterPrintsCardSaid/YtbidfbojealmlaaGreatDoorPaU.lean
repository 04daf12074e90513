/- Tokens: what they are made of; what Parse answers, plain. No condition. -/
import Derived.Test.YtbidfbojealmlaaGreatDoorPaT
import Derived.Test.YtbidfbojealmlaaGreatDoorPaF
import Derived.Test.YtbidfbojealmlaaGreatDoorPaI
set_option linter.unusedVariables false
set_option linter.unusedSimpArgs false
namespace Go.Proofs.YtbidfbojealmlaaGreatDoor
open Go.RowKit
open Fm (Nd cl)

theorem tw_take {p : UInt8 → Bool} (l : List UInt8) : l.take (l.takeWhile p).length = l.takeWhile p := by
  have := List.takeWhile_prefix p (l := l)
  exact (List.prefix_iff_eq_take.1 this).symm
theorem tw_all {p : UInt8 → Bool} : ∀ {l : List UInt8} {b : UInt8}, b ∈ l.takeWhile p → p b = true
  | [], _, h => by simp at h
  | a :: l, b, h => by
    rw [List.takeWhile_cons] at h
    split at h
    · next ha =>
      rcases List.mem_cons.1 h with rfl | h
      · exact ha
      · exact tw_all h
    · simp at h
theorem pre_take {l s : List UInt8} (h : Lib.hasPrefix l s = true) : l.take s.length = s := by
  obtain ⟨r, rfl⟩ := List.isPrefixOf_iff_prefix.1 (show List.isPrefixOf _ _ = true from h)
  simp
/-- A token has no space. -/
theorem lenT_word (l : List UInt8) : (32 : UInt8) ∉ l.take (lenT l) := by
  unfold lenT
  split
  · next h => rw [show (3 : Nat) = ([60, 45, 62] : List UInt8).length from rfl, pre_take h]; decide
  · split
    · next h => rw [show (2 : Nat) = ([45, 62] : List UInt8).length from rfl, pre_take h]; decide
    · cases l with
      | nil => simp
      | cons b r =>
        simp only
        split
        · next hb =>
          simp only [List.take_succ_cons, List.take_zero, List.mem_singleton]
          rintro rfl
          exact absurd hb (by decide)
        · split
          · rw [tw_take]
            intro hm
            have := tw_all hm
            exact absurd this (by decide)
          · rw [tw_take]
            intro hm
            have := tw_all hm
            exact absurd this (by decide)
theorem toks_facts (l : List UInt8) : ∀ (f i : Nat) (ts : Tk), toks l f i = .ok ts → (∀ c ∈ ts, c.2 ≠ [] ∧ (32 : UInt8) ∉ c.2 ∧ c.2.length ≤ l.length ∧ i ≤ c.1 ∧ c.1 + c.2.length ≤ l.length) ∧ ts.length ≤ l.length - i
  | 0, i, ts, h => by cases h; simp
  | f + 1, i, ts, h => by
    unfold toks at h
    cases hd : l.drop i with
    | nil => rw [hd] at h; cases h; simp
    | cons b r =>
      have hlt : i < l.length := by
        false_or_by_contra
        rw [List.drop_eq_nil_of_le (by omega)] at hd
        cases hd
      rw [hd] at h
      simp only at h
      by_cases hs : spaceB b = true
      · rw [if_pos hs] at h
        obtain ⟨h1, h2⟩ := toks_facts l f (i + 1) ts h
        exact ⟨fun c hc => by obtain ⟨a1, a2, a3, a4, a5⟩ := h1 c hc; exact ⟨a1, a2, a3, by omega, a5⟩, by omega⟩
      · rw [if_neg hs] at h
        by_cases hn : lenT (b :: r) = 0
        · rw [if_pos hn] at h; cases h
        · rw [if_neg hn] at h
          have hle := lenT_le (b :: r)
          have hlen : (b :: r).length = l.length - i := by rw [← hd, List.length_drop]
          cases hr : toks l f (i + lenT (b :: r)) with
          | error p => rw [hr] at h; cases h
          | ok ts2 =>
            rw [hr] at h
            cases h
            obtain ⟨h1, h2⟩ := toks_facts l f _ ts2 hr
            have hl2 : ((b :: r).take (lenT (b :: r))).length = lenT (b :: r) := by rw [List.length_take]; omega
            refine ⟨fun c hc => ?_, by simp only [List.length_cons]; omega⟩
            rcases List.mem_cons.1 hc with rfl | hc
            · refine ⟨fun e => ?_, lenT_word _, by simp only [hl2]; omega, Nat.le_refl _, by simp only [hl2]; omega⟩
              have e2 : (b :: r).take (lenT (b :: r)) = [] := e
              rw [e2] at hl2
              exact hn hl2.symm
            · obtain ⟨a1, a2, a3, a4, a5⟩ := h1 c hc
              exact ⟨a1, a2, a3, by omega, a5⟩
theorem tokens_facts {l : List UInt8} {ts : Tk} (h : tokens l 0 = .ok ts) : (∀ c ∈ ts, c.2 ≠ [] ∧ (32 : UInt8) ∉ c.2 ∧ c.2.length ≤ l.length ∧ c.1 + c.2.length ≤ l.length) ∧ ts.length ≤ l.length := by
  obtain ⟨h1, h2⟩ := toks_facts l _ 0 ts h
  exact ⟨fun c hc => by obtain ⟨a1, a2, a3, _, a5⟩ := h1 c hc; exact ⟨a1, a2, a3, a5⟩, h2⟩
theorem tok_ok {t : ByteArray} {cs : Tk} (h : tokens t.data.toList 0 = .ok cs) (hs : t.size ≤ 4000) : (∀ x ∈ tW cs, TokOk x) ∧ (tW cs).length ≤ 4000 := by
  obtain ⟨h1, h2⟩ := tokens_facts h
  rw [data_len] at h2
  refine ⟨fun x hx => ?_, by rw [tW_len]; omega⟩
  obtain ⟨c, hc, rfl⟩ := List.mem_map.1 hx
  obtain ⟨a1, a2, a3, _⟩ := h1 c hc
  rw [data_len] at a3
  exact ⟨by rw [txt_size]; omega, by rw [data_txt]; exact a1, by rw [data_txt]; exact a2⟩
/-- The tokens of a text that is not too long, or an error with its place. -/
def tokF (t : ByteArray) : Except (Int × Int) Tk := if 4000 < t.size then .error (0, 8) else match tokens t.data.toList 0 with | .error q => .error ((q : Int), 4) | .ok cs => .ok cs
def placeF (t : ByteArray) (cs : Tk) (m : Nat) : Nat := if m = 0 then t.size else (cs.map (·.1)).getD ((tW cs).length - m) 0
/-- What a whole list of tokens is read as: nodes and an error, and how many tokens are left at the error. -/
def readF (S : Ps.Sig) (ws : List ByteArray) : List Nd × Nat × Nat := match Ps.whole S ws with
  | .ok tr _ => if 200 < (cl tr).length then ([], ws.length, 8) else (cl tr, 0, 0)
  | .bad r e => ([], r.length, e)
/-- What Parse answers. -/
def parseF (S : Sg) (t : ByteArray) : List Nd × Int × Int := if checkS S ≠ 0 then ([], 0, (checkS S : Int)) else match tokF t with
  | .error (p, x) => ([], p, x)
  | .ok cs => if (readF (sigP S) (tW cs)).2.2 = 0 then ((readF (sigP S) (tW cs)).1, 0, 0) else ([], (placeF t cs (readF (sigP S) (tW cs)).2.1 : Int), ((readF (sigP S) (tW cs)).2.2 : Int))
theorem TokR.tokF {t : ByteArray} {cs : Tk} {p x : Int} (h : TokR t cs p x) : tokF t = if x = 0 then .ok cs else .error (p, x) := by
  unfold Go.Proofs.YtbidfbojealmlaaGreatDoor.tokF
  rcases h with ⟨h0, rfl, rfl, rfl⟩ | ⟨h0, ⟨q, hq, rfl, rfl, rfl⟩ | ⟨hq, rfl, rfl⟩⟩
  · rw [if_pos h0]; rfl
  · rw [if_neg (by omega), hq]; rfl
  · rw [if_neg (by omega), hq]; rfl
theorem readF_nil (S : Ps.Sig) : Ps.formP S 1 [] = .bad [] 4 := by rfl
end Go.Proofs.YtbidfbojealmlaaGreatDoor
