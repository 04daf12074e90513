/- The laws of the parser on texts, plain. No condition. -/
import Derived.Test.YtdhdcenjiopofaaDoorPaX
import Derived.Test.YtdhdcenjiopofaaDoorPc3
import Derived.Test.YtdhdcenjiopofaaDoorPc4
set_option linter.unusedVariables false
set_option linter.unusedSimpArgs false
namespace Go.Proofs.YtdhdcenjiopofaaDoor
open Go.RowKit
open Fm (Nd cl)

theorem words_data (cs : Tk) : dataL (tW cs) = cs.map (·.2) := by simp [dataL, tW, data_txt]
theorem tokF_of {l : List UInt8} {ws : List (List UInt8)} (h : wrds l = some ws) (hl : l.length ≤ 4000) : ∃ cs, tokF (txt l) = .ok cs ∧ tW cs = ws.map txt := by
  unfold wrds at h
  unfold tokF
  rw [txt_size, if_neg (by omega), data_txt]
  cases ht : tokens l 0 with
  | error p => rw [ht] at h; cases h
  | ok cs => rw [ht] at h; cases h; exact ⟨cs, rfl, by simp [tW]⟩
theorem tokF_wrds {t : ByteArray} {cs : Tk} (h : tokF t = .ok cs) : wrds t.data.toList = some (cs.map (·.2)) ∧ t.size ≤ 4000 ∧ tokens t.data.toList 0 = .ok cs := by
  unfold tokF at h
  by_cases hs : 4000 < t.size
  · rw [if_pos hs] at h; cases h
  · rw [if_neg hs] at h
    cases ht : tokens t.data.toList 0 with
    | error p => rw [ht] at h; cases h
    | ok cs' => rw [ht] at h; cases h; exact ⟨wrds_of ht, by omega, rfl⟩
theorem tokF_err {t : ByteArray} {p x : Int} (h : tokF t = .error (p, x)) : x ≠ 0 := by
  unfold tokF at h
  by_cases hs : 4000 < t.size
  · rw [if_pos hs] at h; cases h; decide
  · rw [if_neg hs] at h
    cases ht : tokens t.data.toList 0 with
    | error p => rw [ht] at h; cases h; decide
    | ok cs' => rw [ht] at h; cases h
theorem parseF_chk {S : Sg} (h : checkS S ≠ 0) (t : ByteArray) : parseF S t = ([], 0, (checkS S : Int)) := by unfold parseF; rw [if_pos h]
theorem parseF_err {S : Sg} {t : ByteArray} {p x : Int} (h : tokF t = .error (p, x)) : (parseF S t).2.2 ≠ 0 := by
  by_cases hc : checkS S = 0
  · unfold parseF
    rw [if_neg (by rw [hc]; simp), h]
    exact tokF_err h
  · rw [parseF_chk hc]; simp; omega
theorem parseF_tok {S : Sg} {t : ByteArray} {cs : Tk} (hc : checkS S = 0) (h : tokF t = .ok cs) : parseF S t = if (readF (sigP S) (tW cs)).2.2 = 0 then ((readF (sigP S) (tW cs)).1, 0, 0) else ([], (placeF t cs (readF (sigP S) (tW cs)).2.1 : Int), ((readF (sigP S) (tW cs)).2.2 : Int)) := by
  unfold parseF
  rw [if_neg (by rw [hc]; simp), h]
/-- Only the words count, but for the place. -/
theorem parseF_words {S : Sg} {t t' : ByteArray} {cs cs' : Tk} (h : tokF t = .ok cs) (h' : tokF t' = .ok cs') (hw : tW cs' = tW cs) : (parseF S t').1 = (parseF S t).1 ∧ (parseF S t').2.2 = (parseF S t).2.2 := by
  by_cases hc : checkS S = 0
  · rw [parseF_tok hc h, parseF_tok hc h', hw]
    by_cases h0 : (readF (sigP S) (tW cs)).2.2 = 0
    · rw [if_pos h0, if_pos h0]; exact ⟨rfl, rfl⟩
    · rw [if_neg h0, if_neg h0]; exact ⟨rfl, rfl⟩
  · rw [parseF_chk hc, parseF_chk hc]; exact ⟨rfl, rfl⟩
theorem read_whole {S : Ps.Sig} {ws : List ByteArray} {tr : Fm.Form} {r : List ByteArray} (h : Ps.whole S ws = .ok tr r) : readF S ws = if 200 < (cl tr).length then ([], ws.length, 8) else (cl tr, 0, 0) := by
  unfold readF
  rw [h]
theorem whole_bad_ne {S : Ps.Sig} {ws r : List ByteArray} {e : Nat} (h : Ps.whole S ws = .bad r e) : readF S ws = ([], r.length, e) := by
  unfold readF
  rw [h]
theorem parseF_ok {S : Sg} {t : ByteArray} {cs : Tk} (h : tokF t = .ok cs) (h0 : (parseF S t).2.2 = 0) : checkS S = 0 ∧ (readF (sigP S) (tW cs)).2.2 = 0 ∧ parseF S t = ((readF (sigP S) (tW cs)).1, 0, 0) := by
  by_cases hc : checkS S = 0
  · rw [parseF_tok hc h] at h0 ⊢
    by_cases h1 : (readF (sigP S) (tW cs)).2.2 = 0
    · rw [if_pos h1]; exact ⟨hc, h1, rfl⟩
    · rw [if_neg h1] at h0
      simp at h0
      exact absurd h0 h1
  · rw [parseF_chk hc] at h0
    simp at h0
    exact absurd h0 hc
/-- What is read without an error. -/
theorem read_zero {S : Ps.Sig} {ws : List ByteArray} (h : (readF S ws).2.2 = 0) : ∃ tr, Ps.whole S ws = .ok tr [] ∧ (cl tr).length ≤ 200 ∧ readF S ws = (cl tr, 0, 0) := by
  cases hw : Ps.whole S ws with
  | bad r e =>
    rw [whole_bad_ne hw] at h
    exact absurd h (Ps.whole_err hw).1
  | ok tr r =>
    have h2 := read_whole hw
    by_cases hl : 200 < (cl tr).length
    · rw [h2, if_pos hl] at h; cases h
    · rw [if_neg hl] at h2
      obtain ⟨_, rfl⟩ := Ps.whole_ok hw
      exact ⟨tr, rfl, by omega, h2⟩
theorem spaces_law (S : Sg) (t : ByteArray) (n : Nat) (ht : t.size ≤ 300) {cs : Tk} (h : tokF t = .ok cs) : cs.length ≤ 300 ∧ (spreadL n (dataL (tW cs))).length ≤ 4000 ∧
    (parseF S (txt (spreadL n (dataL (tW cs))))).1 = (parseF S t).1 ∧ (parseF S (txt (spreadL n (dataL (tW cs))))).2.2 = (parseF S t).2.2 ∧
    ((parseF S t).2.2 = 0 → (parseF S ((⟨#[40]⟩ : ByteArray) ++ t ++ ⟨#[41]⟩)).2.2 = 0 ∧ (parseF S ((⟨#[40]⟩ : ByteArray) ++ t ++ ⟨#[41]⟩)).1 = (parseF S t).1) := by
  obtain ⟨hw, h40, htk⟩ := tokF_wrds h
  have hd := words_data cs
  have hcl := (tokens_facts htk).2
  rw [data_len] at hcl
  have hsum := toks_sum t.data.toList _ 0 cs htk
  rw [Nat.sub_zero, data_len] at hsum
  have hlen : (spreadL n (dataL (tW cs))).length ≤ 4000 := by
    rw [spread_len, hd, List.map_map]
    have e : (cs.map (List.length ∘ fun c : Nat × List UInt8 => c.2)) = cs.map fun c => c.2.length := rfl
    rw [e, List.length_map]
    omega
  have hwd := tokens_words htk
  have hsp := wrds_spread n (dataL (tW cs)) (by rw [hd]; intro w hw; obtain ⟨c, hc, rfl⟩ := List.mem_map.1 hw; exact hwd c hc)
  obtain ⟨cs2, h2, hw2⟩ := tokF_of hsp hlen
  have hw2' : tW cs2 = tW cs := by rw [hw2, hd, List.map_map]; rfl
  obtain ⟨p1, p2⟩ := parseF_words (S := S) h h2 hw2'
  refine ⟨by omega, hlen, p1, p2, fun h0 => ?_⟩
  obtain ⟨hc, hr0, hp⟩ := parseF_ok h h0
  obtain ⟨tr, hwh, hl, hrd⟩ := read_zero hr0
  have hb : ∀ b r, [41] = b :: r → wordB b = false := by intro b r e; cases e; decide
  have hw3 : wrds ([40] ++ (t.data.toList ++ [41])) = some ([[40]] ++ (cs.map (·.2) ++ [[41]])) := wrds_app (l := [40]) (ws := [[40]]) rfl (.inr ⟨40, rfl, by decide⟩) (wrds_app hw (.inl hb) rfl)
  obtain ⟨cs3, h3, hw4⟩ := tokF_of hw3 (by simp [data_len]; omega)
  have e3 : txt ([40] ++ (t.data.toList ++ [41])) = (⟨#[40]⟩ : ByteArray) ++ t ++ ⟨#[41]⟩ := ba_ext (by rw [data_txt]; simp)
  rw [e3] at h3
  have hw5 : tW cs3 = Ps.wL :: (tW cs ++ [Ps.wR]) := by rw [hw4]; simp [tW]; exact ⟨rfl, rfl⟩
  have hq := Ps.whole_paren hwh
  have hr3 := read_whole hq
  rw [if_neg (by omega)] at hr3
  rw [parseF_tok hc h3, hw5, hr3, if_pos rfl, hp, hrd]
  exact ⟨rfl, rfl⟩
end Go.Proofs.YtdhdcenjiopofaaDoor
