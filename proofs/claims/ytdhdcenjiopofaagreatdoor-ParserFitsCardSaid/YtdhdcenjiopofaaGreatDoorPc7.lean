/- Words with spaces between them: what spread makes. Conditions: the words are short. The laws of the parser on texts, plain. The laws of joined and of prefixed texts, plain. The law of an error's place, plain. No condition. -/
import Derived.Test.YtdhdcenjiopofaaGreatDoorPaY
import Derived.Test.YtdhdcenjiopofaaGreatDoorPc2
import Derived.Test.YtdhdcenjiopofaaGreatDoorPaX
import Derived.Test.YtdhdcenjiopofaaGreatDoorPc3
set_option linter.unusedVariables false
set_option linter.unusedSimpArgs false
namespace Go.Proofs.YtdhdcenjiopofaaGreatDoor
open Go.RowKit

theorem spread_snoc : ∀ (k : Nat) (ws : List (List UInt8)) (x : List UInt8), spreadL k (ws ++ [x]) = spreadL k ws ++ piece (k + ws.length) x
  | k, [], x => by simp [spreadL]
  | k, w :: ws, x => by
    rw [List.cons_append, spreadL, spreadL, spread_snoc (k + 1) ws x, List.append_assoc, List.length_cons, show k + 1 + ws.length = k + (ws.length + 1) by omega]
theorem spread_take_le (k : Nat) (ws : List (List UInt8)) (j : Nat) : (spreadL k (ws.take j)).length ≤ (spreadL k ws).length := by
  rw [spread_len, spread_len]
  have h : ∀ (l : List (List UInt8)) (j : Nat), ((l.take j).map List.length).sum ≤ (l.map List.length).sum ∧ (l.take j).length ≤ l.length := fun l => by
    induction l with
    | nil => intro j; simp
    | cons a l ih =>
      intro j
      cases j with
      | zero => simp
      | succ j => have := ih j; simp only [List.take_succ_cons, List.map_cons, List.sum_cons, List.length_cons] at *; omega
  have := h ws j
  omega
theorem piece_len (k : Nat) (w : List UInt8) : (piece k w).length = w.length + 2 := by unfold piece; split; simp; split <;> simp
def dataL (l : List ByteArray) : List (List UInt8) := l.map (·.data.toList)
section
set_option maxRecDepth 100000
set_option maxHeartbeats 2000000
end
end Go.Proofs.YtdhdcenjiopofaaGreatDoor
namespace Go.Proofs.YtdhdcenjiopofaaGreatDoor
open Go.RowKit
open Fm (Nd cl)

theorem words_data (cs : Tk) : dataL (tW cs) = cs.map (·.2) := by simp [dataL, tW, data_txt]
theorem tokF_of {l : List UInt8} {ws : List (List UInt8)} (h : wrds l = some ws) (hl : l.length ≤ 4000) : ∃ cs, tokF (txt l) = .ok cs ∧ tW cs = ws.map txt := by
  unfold wrds at h
  unfold tokF
  rw [txt_size, if_neg (by omega), data_txt]
  cases ht : tokens l 0 with
  | error p => rw [ht] at h; cases h
  | ok cs => rw [ht] at h; cases h; exact ⟨cs, rfl, by simp [tW]⟩
theorem tokF_wrds {t : ByteArray} {cs : Tk} (h : tokF t = .ok cs) : wrds t.data.toList = some (cs.map (·.2)) ∧ t.size ≤ 4000 ∧ tokens t.data.toList 0 = .ok cs := by
  unfold tokF at h
  by_cases hs : 4000 < t.size
  · rw [if_pos hs] at h; cases h
  · rw [if_neg hs] at h
    cases ht : tokens t.data.toList 0 with
    | error p => rw [ht] at h; cases h
    | ok cs' => rw [ht] at h; cases h; exact ⟨wrds_of ht, by omega, rfl⟩
theorem tokF_err {t : ByteArray} {p x : Int} (h : tokF t = .error (p, x)) : x ≠ 0 := by
  unfold tokF at h
  by_cases hs : 4000 < t.size
  · rw [if_pos hs] at h; cases h; decide
  · rw [if_neg hs] at h
    cases ht : tokens t.data.toList 0 with
    | error p => rw [ht] at h; cases h; decide
    | ok cs' => rw [ht] at h; cases h
theorem parseF_chk {S : Sg} (h : checkS S ≠ 0) (t : ByteArray) : parseF S t = ([], 0, (checkS S : Int)) := by unfold parseF; rw [if_pos h]
theorem parseF_err {S : Sg} {t : ByteArray} {p x : Int} (h : tokF t = .error (p, x)) : (parseF S t).2.2 ≠ 0 := by
  by_cases hc : checkS S = 0
  · unfold parseF
    rw [if_neg (by rw [hc]; simp), h]
    exact tokF_err h
  · rw [parseF_chk hc]; simp; omega
theorem parseF_tok {S : Sg} {t : ByteArray} {cs : Tk} (hc : checkS S = 0) (h : tokF t = .ok cs) : parseF S t = if (readF (sigP S) (tW cs)).2.2 = 0 then ((readF (sigP S) (tW cs)).1, 0, 0) else ([], (placeF t cs (readF (sigP S) (tW cs)).2.1 : Int), ((readF (sigP S) (tW cs)).2.2 : Int)) := by
  unfold parseF
  rw [if_neg (by rw [hc]; simp), h]
/-- Only the words count, but for the place. -/
theorem parseF_words {S : Sg} {t t' : ByteArray} {cs cs' : Tk} (h : tokF t = .ok cs) (h' : tokF t' = .ok cs') (hw : tW cs' = tW cs) : (parseF S t').1 = (parseF S t).1 ∧ (parseF S t').2.2 = (parseF S t).2.2 := by
  by_cases hc : checkS S = 0
  · rw [parseF_tok hc h, parseF_tok hc h', hw]
    by_cases h0 : (readF (sigP S) (tW cs)).2.2 = 0
    · rw [if_pos h0, if_pos h0]; exact ⟨rfl, rfl⟩
    · rw [if_neg h0, if_neg h0]; exact ⟨rfl, rfl⟩
  · rw [parseF_chk hc, parseF_chk hc]; exact ⟨rfl, rfl⟩
theorem read_whole {S : Ps.Sig} {ws : List ByteArray} {tr : Fm.Form} {r : List ByteArray} (h : Ps.whole S ws = .ok tr r) : readF S ws = if 200 < (cl tr).length then ([], ws.length, 8) else (cl tr, 0, 0) := by
  unfold readF
  rw [h]
theorem whole_bad_ne {S : Ps.Sig} {ws r : List ByteArray} {e : Nat} (h : Ps.whole S ws = .bad r e) : readF S ws = ([], r.length, e) := by
  unfold readF
  rw [h]
theorem parseF_ok {S : Sg} {t : ByteArray} {cs : Tk} (h : tokF t = .ok cs) (h0 : (parseF S t).2.2 = 0) : checkS S = 0 ∧ (readF (sigP S) (tW cs)).2.2 = 0 ∧ parseF S t = ((readF (sigP S) (tW cs)).1, 0, 0) := by
  by_cases hc : checkS S = 0
  · rw [parseF_tok hc h] at h0 ⊢
    by_cases h1 : (readF (sigP S) (tW cs)).2.2 = 0
    · rw [if_pos h1]; exact ⟨hc, h1, rfl⟩
    · rw [if_neg h1] at h0
      simp at h0
      exact absurd h0 h1
  · rw [parseF_chk hc] at h0
    simp at h0
    exact absurd h0 hc
/-- What is read without an error. -/
theorem read_zero {S : Ps.Sig} {ws : List ByteArray} (h : (readF S ws).2.2 = 0) : ∃ tr, Ps.whole S ws = .ok tr [] ∧ (cl tr).length ≤ 200 ∧ readF S ws = (cl tr, 0, 0) := by
  cases hw : Ps.whole S ws with
  | bad r e =>
    rw [whole_bad_ne hw] at h
    exact absurd h (Ps.whole_err hw).1
  | ok tr r =>
    have h2 := read_whole hw
    by_cases hl : 200 < (cl tr).length
    · rw [h2, if_pos hl] at h; cases h
    · rw [if_neg hl] at h2
      obtain ⟨_, rfl⟩ := Ps.whole_ok hw
      exact ⟨tr, rfl, by omega, h2⟩
theorem spaces_law (S : Sg) (t : ByteArray) (n : Nat) (ht : t.size ≤ 300) {cs : Tk} (h : tokF t = .ok cs) : cs.length ≤ 300 ∧ (spreadL n (dataL (tW cs))).length ≤ 4000 ∧
    (parseF S (txt (spreadL n (dataL (tW cs))))).1 = (parseF S t).1 ∧ (parseF S (txt (spreadL n (dataL (tW cs))))).2.2 = (parseF S t).2.2 ∧
    ((parseF S t).2.2 = 0 → (parseF S ((⟨#[40]⟩ : ByteArray) ++ t ++ ⟨#[41]⟩)).2.2 = 0 ∧ (parseF S ((⟨#[40]⟩ : ByteArray) ++ t ++ ⟨#[41]⟩)).1 = (parseF S t).1) := by
  obtain ⟨hw, h40, htk⟩ := tokF_wrds h
  have hd := words_data cs
  have hcl := (tokens_facts htk).2
  rw [data_len] at hcl
  have hsum := toks_sum t.data.toList _ 0 cs htk
  rw [Nat.sub_zero, data_len] at hsum
  have hlen : (spreadL n (dataL (tW cs))).length ≤ 4000 := by
    rw [spread_len, hd, List.map_map]
    have e : (cs.map (List.length ∘ fun c : Nat × List UInt8 => c.2)) = cs.map fun c => c.2.length := rfl
    rw [e, List.length_map]
    omega
  have hwd := tokens_words htk
  have hsp := wrds_spread n (dataL (tW cs)) (by rw [hd]; intro w hw; obtain ⟨c, hc, rfl⟩ := List.mem_map.1 hw; exact hwd c hc)
  obtain ⟨cs2, h2, hw2⟩ := tokF_of hsp hlen
  have hw2' : tW cs2 = tW cs := by rw [hw2, hd, List.map_map]; rfl
  obtain ⟨p1, p2⟩ := parseF_words (S := S) h h2 hw2'
  refine ⟨by omega, hlen, p1, p2, fun h0 => ?_⟩
  obtain ⟨hc, hr0, hp⟩ := parseF_ok h h0
  obtain ⟨tr, hwh, hl, hrd⟩ := read_zero hr0
  have hb : ∀ b r, [41] = b :: r → wordB b = false := by intro b r e; cases e; decide
  have hw3 : wrds ([40] ++ (t.data.toList ++ [41])) = some ([[40]] ++ (cs.map (·.2) ++ [[41]])) := wrds_app (l := [40]) (ws := [[40]]) rfl (.inr ⟨40, rfl, by decide⟩) (wrds_app hw (.inl hb) rfl)
  obtain ⟨cs3, h3, hw4⟩ := tokF_of hw3 (by simp [data_len]; omega)
  have e3 : txt ([40] ++ (t.data.toList ++ [41])) = (⟨#[40]⟩ : ByteArray) ++ t ++ ⟨#[41]⟩ := ba_ext (by rw [data_txt]; simp)
  rw [e3] at h3
  have hw5 : tW cs3 = Ps.wL :: (tW cs ++ [Ps.wR]) := by rw [hw4]; simp [tW]; exact ⟨rfl, rfl⟩
  have hq := Ps.whole_paren hwh
  have hr3 := read_whole hq
  rw [if_neg (by omega)] at hr3
  rw [parseF_tok hc h3, hw5, hr3, if_pos rfl, hp, hrd]
  exact ⟨rfl, rfl⟩
end Go.Proofs.YtdhdcenjiopofaaGreatDoor
namespace Go.Proofs.YtdhdcenjiopofaaGreatDoor
open Go.RowKit
open Fm (Nd cl mk1 mk2 tr Good)
open Fm.Form

theorem bd_SE : Ps.Bd (sigP SE) 2 3 := by
  have h0 : checkS SE = 0 := by decide +kernel
  have h : ∀ (l : List ByteArray) (m : Nat), l.length ≤ m → ∀ t, findS SE l t < (m : Int) := fun l m hl t => by
    rw [findS_ok h0]
    rcases idx_cases l t with ⟨h, _⟩ | ⟨k, h, hk, _⟩ <;> rw [h] <;> omega
  exact ⟨by omega, by omega, h SE.A 2 (by decide), h SE.F 3 (by decide), h SE.C 8 (by decide)⟩
theorem good_SE {ws : List ByteArray} {t : Fm.Form} {r : List ByteArray} (h : Ps.whole (sigP SE) ws = .ok t r) : Fm.Good t := (Ps.val_form bd_SE _ _ _ _ (Ps.whole_ok h).1).good
theorem len_un (op i e g : Int) (x : Fm.Form) : (cl (un op i e g x)).length ≤ (cl x).length + 1 := Fm.put_len _ _
theorem len_bin {op i e g : Int} {x y : Fm.Form} (hy : Fm.usesY op = true) (fx : Fm.Fit x) (fy : Fm.Fit y) : (cl (bin op i e g x y)).length ≤ (cl x).length + (cl y).length + 1 := by
  have h0 := Fm.cl_pos x
  have h1 := Fm.cl_pos y
  have hl : (cl x ++ Fm.shiftL (cl x).length (cl y)).length = (cl x).length + (cl y).length := by simp [Fm.shiftL]
  have hr : Fm.Rep (bin op i e g x y) ((cl x ++ Fm.shiftL (cl x).length (cl y)) ++ [⟨op, i, e, g, (((cl x).length - 1 : Nat) : Int), (((cl x).length + ((cl y).length - 1) : Nat) : Int)⟩]) (cl x ++ Fm.shiftL (cl x).length (cl y)).length :=
    ⟨_, _, ((Fm.cl_rep fx).mono (List.prefix_append _ _)).mono (List.prefix_append _ _), (Fm.rep_shift fy (Fm.cl_rep fy)).mono (List.prefix_append _ _), Fm.at_snoc _ _⟩
  have := Fm.cl_le_of_rep (show Fm.Fit (bin op i e g x y) from ⟨hy, fx, fy⟩) hr
  rw [List.length_append, hl] at this
  simpa using this
theorem uses_op {k : Nat} (h : k < 6) : Fm.usesY (Ps.opOf k) = true ∧ Fm.own (Ps.opOf k) 0 0 0 = true := by
  have hk : k = 0 ∨ k = 1 ∨ k = 2 ∨ k = 3 ∨ k = 4 ∨ k = 5 := by omega
  rcases hk with rfl | rfl | rfl | rfl | rfl | rfl <;> decide
/-- The program's equality of formulas that are canonical. -/
theorem same_cl {t : Fm.Form} (hg : Fm.Good t) (h : (cl t).length ≤ 200) : sameB (cl t) (cl t) = true := by
  unfold sameB
  rw [Fm.cl_check hg h]
  simp
theorem mk2_cl {op i e g : Int} {x y : Fm.Form} (hg : Fm.Good (bin op i e g x y)) (hx : (cl x).length ≤ 200) (hy : (cl y).length ≤ 200) (h : (cl (bin op i e g x y)).length ≤ 200) : mk2 op i e g (cl x) (cl y) = cl (bin op i e g x y) := by
  obtain ⟨_, ho, gx, gy⟩ := hg
  unfold mk2
  rw [if_neg (by simp [Fm.cl_check gx hx, Fm.cl_check gy hy, ho]), Fm.tr_cl gx.fit, Fm.tr_cl gy.fit]
  unfold Fm.capped
  rw [if_neg (by omega)]
theorem mk1_cl {op i e g : Int} {x : Fm.Form} (hg : Fm.Good (un op i e g x)) (hx : (cl x).length ≤ 200) (h : (cl (un op i e g x)).length ≤ 200) : mk1 op i e g (cl x) = cl (un op i e g x) := by
  obtain ⟨_, _, ho, gx⟩ := hg
  unfold mk1
  rw [if_neg (by simp [Fm.cl_check gx hx, ho]), Fm.tr_cl gx.fit]
  unfold Fm.capped
  rw [if_neg (by omega)]
theorem zero_tok {S : Sg} {t : ByteArray} (h0 : (parseF S t).2.2 = 0) : ∃ cs, tokF t = .ok cs := by
  cases h : tokF t with
  | ok cs => exact ⟨cs, rfl⟩
  | error q => obtain ⟨p, x⟩ := q; exact absurd h0 (parseF_err h)
theorem chk_SE : checkS SE = 0 := by decide +kernel
theorem zero_form {t : ByteArray} (h0 : (parseF SE t).2.2 = 0) : ∃ (cs : Tk) (tr : Fm.Form), tokF t = .ok cs ∧ Ps.whole (sigP SE) (tW cs) = .ok tr [] ∧ (cl tr).length ≤ 200 ∧ Fm.Good tr ∧ parseF SE t = (cl tr, 0, 0) := by
  obtain ⟨cs, h⟩ := zero_tok h0
  obtain ⟨_, hr, hp⟩ := parseF_ok h h0
  obtain ⟨tr, hw, hl, hrd⟩ := read_zero hr
  exact ⟨cs, tr, h, hw, hl, good_SE hw, by rw [hp, hrd]⟩
theorem parse_of_whole {t : ByteArray} {cs : Tk} {tr : Fm.Form} (h : tokF t = .ok cs) (hw : Ps.whole (sigP SE) (tW cs) = .ok tr []) : (200 < (cl tr).length → (parseF SE t).2.2 = 8) ∧ ((cl tr).length ≤ 200 → parseF SE t = (cl tr, 0, 0)) := by
  have hr := read_whole hw
  rw [parseF_tok chk_SE h]
  refine ⟨fun hl => ?_, fun hl => ?_⟩
  · rw [if_pos hl] at hr; rw [hr]; rfl
  · rw [if_neg (by omega)] at hr; rw [hr]; rfl
theorem nw41 : ∀ b r, (41 : UInt8) :: ([] : List UInt8) = b :: r → wordB b = false := by intro b r e; cases e; decide
theorem sign_wd {k : Nat} (h : k < 6) : wrds (Ps.signOf k).data.toList = some [(Ps.signOf k).data.toList] ∧ (Ps.signOf k).size ≤ 5 := by
  have hk : k = 0 ∨ k = 1 ∨ k = 2 ∨ k = 3 ∨ k = 4 ∨ k = 5 := by omega
  rcases hk with rfl | rfl | rfl | rfl | rfl | rfl <;> exact ⟨by decide +kernel, by decide⟩
def joinT (a b s : ByteArray) : ByteArray := (((((⟨#[40]⟩ : ByteArray) ++ a) ++ ⟨#[41]⟩) ++ s) ++ ⟨#[40]⟩) ++ b ++ ⟨#[41]⟩
theorem joins_law {a b : ByteArray} {k : Nat} (hk : k < 6) (ha : a.size ≤ 200) (hb : b.size ≤ 200) (h1 : (parseF SE a).2.2 = 0) (h2 : (parseF SE b).2.2 = 0) :
    ∃ ta tb : Fm.Form, parseF SE a = (cl ta, 0, 0) ∧ parseF SE b = (cl tb, 0, 0) ∧ (cl ta).length ≤ 200 ∧ (cl tb).length ≤ 200 ∧ Fm.Good (bin (Ps.opOf k) 0 0 0 ta tb) ∧
      (200 < (cl (bin (Ps.opOf k) 0 0 0 ta tb)).length → (parseF SE (joinT a b (Ps.signOf k))).2.2 = 8 ∧ 200 ≤ (cl ta).length + (cl tb).length) ∧
      ((cl (bin (Ps.opOf k) 0 0 0 ta tb)).length ≤ 200 → parseF SE (joinT a b (Ps.signOf k)) = (cl (bin (Ps.opOf k) 0 0 0 ta tb), 0, 0)) := by
  obtain ⟨ca, ta, t1, w1, l1, g1, p1⟩ := zero_form h1
  obtain ⟨cb, tb, t2, w2, l2, g2, p2⟩ := zero_form h2
  obtain ⟨u1, u2⟩ := uses_op hk
  obtain ⟨s1, s2⟩ := sign_wd hk
  have wa := (tokF_wrds t1).1
  have wb := (tokF_wrds t2).1
  have hw : wrds ([40] ++ (a.data.toList ++ ([41] ++ ((Ps.signOf k).data.toList ++ ([40] ++ (b.data.toList ++ [41])))))) = some ([[40]] ++ (ca.map (·.2) ++ ([[41]] ++ ([(Ps.signOf k).data.toList] ++ ([[40]] ++ (cb.map (·.2) ++ [[41]])))))) :=
    wrds_app (l := [40]) (ws := [[40]]) rfl (.inr ⟨40, rfl, by decide⟩) (wrds_app wa (.inl (by intro x r e; cases e; decide)) (wrds_app (l := [41]) (ws := [[41]]) rfl (.inr ⟨41, rfl, by decide⟩)
      (wrds_app s1 (.inl (by intro x r e; cases e; decide)) (wrds_app (l := [40]) (ws := [[40]]) rfl (.inr ⟨40, rfl, by decide⟩) (wrds_app wb (.inl nw41) rfl)))))
  obtain ⟨cs, h3, hw3⟩ := tokF_of hw (by simp [data_len]; omega)
  have e3 : txt ([40] ++ (a.data.toList ++ ([41] ++ ((Ps.signOf k).data.toList ++ ([40] ++ (b.data.toList ++ [41])))))) = joinT a b (Ps.signOf k) := ba_ext (by rw [data_txt]; simp [joinT])
  rw [e3] at h3
  have hw5 : tW cs = Ps.wL :: (tW ca ++ Ps.wR :: Ps.signOf k :: Ps.wL :: (tW cb ++ [Ps.wR])) := by
    rw [hw3]
    simp only [List.map_append, List.map_cons, List.map_nil, List.map_map, txt_data, tW]
    rfl
  have hq := Ps.whole_join hk w1 w2
  rw [← hw5] at hq
  obtain ⟨q1, q2⟩ := parse_of_whole h3 hq
  have hlen := len_bin (i := 0) (e := 0) (g := 0) u1 g1.fit g2.fit
  exact ⟨ta, tb, p1, p2, l1, l2, ⟨u1, u2, g1, g2⟩, fun hl => ⟨q1 hl, by omega⟩, q2⟩
/-- The prefixes, and what they are. -/
def preT (k : Nat) : ByteArray := if k = 0 then ⟨#[126]⟩ else if k = 1 then ⟨#[75, 91, 98, 93]⟩ else if k = 2 then ⟨#[77, 91, 97, 93]⟩ else if k = 3 then ⟨#[83, 91, 97, 93]⟩ else if k = 4 then ⟨#[110, 101, 120, 116, 32]⟩ else ⟨#[112, 114, 101, 118, 32]⟩
def preW (k : Nat) : List ByteArray := if k = 0 then [Ps.wNot] else if k = 1 then [Ps.wK, Ps.wLB, ⟨#[98]⟩, Ps.wRB] else if k = 2 then [Ps.wM, Ps.wLB, ⟨#[97]⟩, Ps.wRB] else if k = 3 then [Ps.wS, Ps.wLB, ⟨#[97]⟩, Ps.wRB] else if k = 4 then [Ps.wNext] else [Ps.wPrev]
def preO (k : Nat) : Int := if k = 0 then 4 else if k = 1 then 9 else if k = 2 then 10 else if k = 3 then 15 else if k = 4 then 18 else 20
def preI (k : Nat) : Int := if k = 1 then 1 else 0
theorem pre_wd {k : Nat} (h : k < 6) : wrds (preT k).data.toList = some ((preW k).map (·.data.toList)) ∧ (preT k).size ≤ 5 ∧ ∃ b, (preT k).data.toList.getLast? = some b ∧ wordB b = false := by
  have hk : k = 0 ∨ k = 1 ∨ k = 2 ∨ k = 3 ∨ k = 4 ∨ k = 5 := by omega
  rcases hk with rfl | rfl | rfl | rfl | rfl | rfl <;> exact ⟨by decide +kernel, by decide, _, rfl, by decide⟩
theorem pre_good {k : Nat} (h : k < 6) {t : Fm.Form} (hg : Fm.Good t) : Fm.Good (un (preO k) (preI k) 0 0 t) := by
  have hk : k = 0 ∨ k = 1 ∨ k = 2 ∨ k = 3 ∨ k = 4 ∨ k = 5 := by omega
  rcases hk with rfl | rfl | rfl | rfl | rfl | rfl <;> exact ⟨by decide, by decide, by decide, hg⟩
theorem name_b : Ps.nameE (sigP SE).ag ⟨#[98]⟩ = .ok 1 := by kernel_rfl
theorem name_a : Ps.nameE (sigP SE).ag ⟨#[97]⟩ = .ok 0 := by kernel_rfl
theorem kind_p : Ps.kindE (sigP SE) ⟨#[112]⟩ = .ok (.leaf 3 0) := by kernel_rfl
theorem pref_un {n : Nat} {op : Int} {s : ByteArray} {ts r : List ByteArray} {t : Fm.Form} (hk : Ps.kindE (sigP SE) s = .ok (.un op)) (h : Ps.prefP (sigP SE) n ts = .ok t r) : Ps.prefP (sigP SE) (n + 1) (s :: ts) = .ok (un op 0 0 0 t) r := by
  show Ps.operP _ _ _ _ _ = _
  unfold Ps.operP
  rw [Ps.byTok_ok (p := Ps.body (sigP SE) _ _ _ (.un op)) (by rw [hk])]
  show Ps.unP op _ ts = _
  simp only [Ps.unP, Ps.bind, h, Ps.ret]
theorem pref_ag {n : Nat} {op : Int} {s y : ByteArray} {i : Nat} {ts r : List ByteArray} {t : Fm.Form} (hk : Ps.kindE (sigP SE) s = .ok (.ag op)) (hn : Ps.nameE (sigP SE).ag y = .ok i) (h : Ps.prefP (sigP SE) n ts = .ok t r) :
    Ps.prefP (sigP SE) (n + 1) (s :: Ps.wLB :: y :: Ps.wRB :: ts) = .ok (un op (i : Int) 0 0 t) r := by
  show Ps.operP _ _ _ _ _ = _
  unfold Ps.operP
  rw [Ps.byTok_ok (p := Ps.body (sigP SE) _ _ _ (.ag op)) (by rw [hk])]
  show Ps.agP _ op _ _ = _
  simp only [Ps.agP, Ps.bind, Ps.want_yes', Ps.name, Ps.tok_ok hn, h, Ps.ret]
theorem pref_p {n : Nat} {r : List ByteArray} : Ps.prefP (sigP SE) (n + 1) (⟨#[112]⟩ :: r) = .ok (leaf 3 0 0 0) r := by
  show Ps.operP _ _ _ _ _ = _
  unfold Ps.operP
  rw [Ps.byTok_ok (p := Ps.body (sigP SE) _ _ _ (.leaf 3 0)) (by rw [kind_p])]
  rfl
theorem pref_pre {k n : Nat} (hk : k < 6) {ts r : List ByteArray} {t : Fm.Form} (h : Ps.prefP (sigP SE) n ts = .ok t r) : Ps.prefP (sigP SE) (n + 1) (preW k ++ ts) = .ok (un (preO k) (preI k) 0 0 t) r := by
  have hk6 : k = 0 ∨ k = 1 ∨ k = 2 ∨ k = 3 ∨ k = 4 ∨ k = 5 := by omega
  rcases hk6 with rfl | rfl | rfl | rfl | rfl | rfl
  · exact pref_un (s := Ps.wNot) (op := 4) rfl h
  · exact pref_ag (s := Ps.wK) (op := 9) (i := 1) rfl name_b h
  · exact pref_ag (s := Ps.wM) (op := 10) (i := 0) rfl name_a h
  · exact pref_ag (s := Ps.wS) (op := 15) (i := 0) rfl name_a h
  · exact pref_un (s := Ps.wNext) (op := 18) rfl h
  · exact pref_un (s := Ps.wPrev) (op := 20) rfl h
def prefT (a s : ByteArray) : ByteArray := ((s ++ ⟨#[40]⟩) ++ a) ++ ⟨#[41, 32, 38, 32, 112]⟩
theorem prefixes_law {a : ByteArray} {k : Nat} (hk : k < 6) (ha : a.size ≤ 200) (h1 : (parseF SE a).2.2 = 0) (hl : (parseF SE a).1.length ≤ 100) :
    ∃ ta : Fm.Form, parseF SE a = (cl ta, 0, 0) ∧ (cl ta).length ≤ 100 ∧ Fm.Good (bin 5 0 0 0 (un (preO k) (preI k) 0 0 ta) (leaf 3 0 0 0)) ∧
      (cl (un (preO k) (preI k) 0 0 ta)).length ≤ 101 ∧ (cl (bin 5 0 0 0 (un (preO k) (preI k) 0 0 ta) (leaf 3 0 0 0))).length ≤ 103 ∧
      parseF SE (prefT a (preT k)) = (cl (bin 5 0 0 0 (un (preO k) (preI k) 0 0 ta) (leaf 3 0 0 0)), 0, 0) := by
  obtain ⟨ca, ta, t1, w1, l1, g1, p1⟩ := zero_form h1
  obtain ⟨s1, s2, s3⟩ := pre_wd hk
  have wa := (tokF_wrds t1).1
  have hla : (cl ta).length ≤ 100 := by rw [p1] at hl; exact hl
  have hg := pre_good hk g1
  have hgb : Fm.Good (bin 5 0 0 0 (un (preO k) (preI k) 0 0 ta) (leaf 3 0 0 0)) := ⟨by decide, by decide, hg, ⟨by decide, by decide⟩⟩
  have hlu := len_un (preO k) (preI k) 0 0 ta
  have hlb := len_bin (op := 5) (i := 0) (e := 0) (g := 0) (by decide) hg.fit (show Fm.Fit (leaf 3 0 0 0) from (by decide : Fm.usesX 3 = false))
  have hl3 : (cl (leaf 3 0 0 0)).length = 1 := by decide +kernel
  have hw : wrds ((preT k).data.toList ++ ([40] ++ (a.data.toList ++ [41, 32, 38, 32, 112]))) = some ((preW k).map (·.data.toList) ++ ([[40]] ++ (ca.map (·.2) ++ [[41], [38], [112]]))) :=
    wrds_app s1 (.inr s3) (wrds_app (l := [40]) (ws := [[40]]) rfl (.inr ⟨40, rfl, by decide⟩) (wrds_app wa (.inl (by intro x r e; cases e; decide)) (by decide +kernel)))
  obtain ⟨cs, h3, hw3⟩ := tokF_of hw (by simp [data_len]; omega)
  have e3 : txt ((preT k).data.toList ++ ([40] ++ (a.data.toList ++ [41, 32, 38, 32, 112]))) = prefT a (preT k) := ba_ext (by rw [data_txt]; simp [prefT])
  rw [e3] at h3
  have hw5 : tW cs = preW k ++ (Ps.wL :: (tW ca ++ Ps.wR :: Ps.wAnd :: [⟨#[112]⟩])) := by
    rw [hw3]
    simp only [List.map_append, List.map_cons, List.map_nil, List.map_map, tW]
    congr 1
    conv => rhs; rw [← List.map_id (preW k)]
    exact List.map_congr_left fun x _ => txt_data x
  obtain ⟨f1, _⟩ := Ps.whole_ok w1
  have hpw : (preW k).length ≤ 4 := by
    have hk6 : k = 0 ∨ k = 1 ∨ k = 2 ∨ k = 3 ∨ k = 4 ∨ k = 5 := by omega
    rcases hk6 with rfl | rfl | rfl | rfl | rfl | rfl <;> decide
  have f2 : Ps.formP (sigP SE) ((tW ca).length + 20) (tW ca) = .ok ta [] := by rw [Ps.form_fuel (m := (tW ca).length + 1) (by omega) (by omega)]; exact f1
  have f3 := pref_pre hk (Ps.pref_paren (vs := Ps.wAnd :: [⟨#[112]⟩]) f2)
  have f4 : Ps.fP (Ps.prefP (sigP SE) ((tW ca).length + 20 + 1 + 1)) ((tW ca).length + 20 + 2) (preW k ++ (Ps.wL :: (tW ca ++ Ps.wR :: Ps.wAnd :: [⟨#[112]⟩]))) = .ok (bin 5 0 0 0 (un (preO k) (preI k) 0 0 ta) (leaf 3 0 0 0)) [] := Ps.f_join (k := 0) (by omega) f3 pref_p
  have hq : Ps.whole (sigP SE) (tW cs) = .ok (bin 5 0 0 0 (un (preO k) (preI k) 0 0 ta) (leaf 3 0 0 0)) [] := by
    rw [hw5]
    exact Ps.whole_of (n := (tW ca).length + 22) (by simp; omega) f4
  exact ⟨ta, p1, hla, hgb, by omega, by omega, (parse_of_whole h3 hq).2 (by omega)⟩
end Go.Proofs.YtdhdcenjiopofaaGreatDoor
namespace Go.Proofs.YtdhdcenjiopofaaGreatDoor
open Go.RowKit
open Fm (Nd cl)

theorem toks_sorted (l : List UInt8) : ∀ (f i : Nat) (ts : Tk), toks l f i = .ok ts → ts.Pairwise fun a b => a.1 < b.1
  | 0, i, ts, h => by cases h; exact List.Pairwise.nil
  | f + 1, i, ts, h => by
    unfold toks at h
    cases hd : l.drop i with
    | nil => rw [hd] at h; cases h; exact List.Pairwise.nil
    | cons b r =>
      rw [hd] at h
      simp only at h
      by_cases hs : spaceB b = true
      · rw [if_pos hs] at h
        exact toks_sorted l f (i + 1) ts h
      · rw [if_neg hs] at h
        by_cases hn : lenT (b :: r) = 0
        · rw [if_pos hn] at h; cases h
        · rw [if_neg hn] at h
          cases hr : toks l f (i + lenT (b :: r)) with
          | error p => rw [hr] at h; cases h
          | ok ts2 =>
            rw [hr] at h
            cases h
            refine List.Pairwise.cons (fun c hc => ?_) (toks_sorted l f _ ts2 hr)
            have := ((toks_facts l f _ ts2 hr).1 c hc).2.2.2.1
            show i < c.1
            omega
/-- The tokens of a beginning of a text, up to the end of a token. -/
theorem toks_take (l : List UInt8) : ∀ (f g i : Nat) (ts : Tk) (k : Nat) (c : Nat × List UInt8), toks l f i = .ok ts → ts[k]? = some c → c.1 + c.2.length - i ≤ g → toks (l.take (c.1 + c.2.length)) g i = .ok (ts.take (k + 1))
  | 0, g, i, ts, k, c, h, hc, _ => by cases h; cases hc
  | f + 1, g, i, ts, k, c, h, hc, hg => by
    obtain ⟨c1, c2, c3, c4, c5⟩ := (toks_facts l (f + 1) i ts h).1 c (List.mem_of_getElem? hc)
    have hcl : 0 < c.2.length := List.length_pos_iff.2 c1
    obtain ⟨g, rfl⟩ : ∃ k, g = k + 1 := ⟨g - 1, by omega⟩
    unfold toks at h ⊢
    rw [List.drop_take]
    cases hd : l.drop i with
    | nil => rw [hd] at h; cases h; cases hc
    | cons b r =>
      rw [hd] at h
      simp only at h
      obtain ⟨m, hm⟩ : ∃ m, c.1 + c.2.length - i = m + 1 := ⟨c.1 + c.2.length - i - 1, by omega⟩
      rw [hm, List.take_succ_cons]
      simp only
      by_cases hs : spaceB b = true
      · rw [if_pos hs] at h ⊢
        exact toks_take l f g (i + 1) ts k c h hc (by omega)
      · rw [if_neg hs] at h ⊢
        by_cases hn : lenT (b :: r) = 0
        · rw [if_pos hn] at h; cases h
        · rw [if_neg hn] at h
          cases hr : toks l f (i + lenT (b :: r)) with
          | error p => rw [hr] at h; cases h
          | ok ts2 =>
            rw [hr] at h
            cases h
            have hle := lenT_le (b :: r)
            have hmn : lenT (b :: r) ≤ m + 1 := by
              cases k with
              | zero =>
                have : c = (i, (b :: r).take (lenT (b :: r))) := by simpa using hc.symm
                subst this
                have e : ((b :: r).take (lenT (b :: r))).length = lenT (b :: r) := by rw [List.length_take]; omega
                simp only [e] at hm
                omega
              | succ k =>
                have hc' : ts2[k]? = some c := by simpa using hc
                have := ((toks_facts l f _ ts2 hr).1 c (List.mem_of_getElem? hc')).2.2.2.1
                omega
            have hlt : lenT (b :: r.take m) = lenT (b :: r) := by
              have := lenT_take hn hmn
              rwa [List.take_succ_cons] at this
            have htk : (b :: r.take m).take (lenT (b :: r)) = (b :: r).take (lenT (b :: r)) := by
              rw [← List.take_succ_cons, List.take_take]
              congr 1
              omega
            rw [hlt, if_neg hn, htk]
            cases k with
            | zero =>
              have hce : c = (i, (b :: r).take (lenT (b :: r))) := by simpa using hc.symm
              have e : ((b :: r).take (lenT (b :: r))).length = lenT (b :: r) := by rw [List.length_take]; omega
              have h0 : toks (l.take (c.1 + c.2.length)) g (i + lenT (b :: r)) = .ok [] := by
                have hdn : (l.take (c.1 + c.2.length)).drop (i + lenT (b :: r)) = [] := by
                  refine List.drop_eq_nil_of_le ?_
                  rw [List.length_take, hce]
                  simp only [e]
                  omega
                cases g with
                | zero => rfl
                | succ g => unfold toks; rw [hdn]
              rw [h0]
              rfl
            | succ k =>
              have hc' : ts2[k]? = some c := by simpa using hc
              have := toks_take l f g (i + lenT (b :: r)) ts2 k c hr hc' (by omega)
              rw [this]
              rfl
theorem whole_suf {S : Ps.Sig} {ws r : List ByteArray} {e : Nat} (h : Ps.whole S ws = .bad r e) : ∃ u, ws = u ++ r := by
  unfold Ps.whole at h
  cases hf : Ps.formP S (ws.length + 1) ws with
  | bad r' y => rw [hf] at h; cases h; exact (Ps.fine_form S _).shr.badv hf
  | ok t r' =>
    rw [hf] at h
    cases r' with
    | nil => cases h
    | cons y r' => cases h; exact (Ps.fine_form S _).shr.okv hf
/-- The text up to a token, and another text behind it. -/
def stopT (t m : ByteArray) (e : Nat) : ByteArray := (t.extract 0 e ++ ⟨#[32]⟩) ++ m
theorem stops_law {t m : ByteArray} {cs ds : Tk} {p x : Int} {f : List Nd} (ht : t.size ≤ 300) (hm : m.size ≤ 300) (h1 : tokF t = .ok cs) (h2 : tokF m = .ok ds) (hp : parseF SE t = (f, p, x)) (hx : x = 4 ∨ x = 5) :
    (p = (t.size : Int) ∧ x = 4 ∧ ∀ (i : Nat) c, cs[i]? = some c → (c.1 : Int) ≠ p) ∨
    (∃ (i0 : Nat) (c0 : Nat × List UInt8), cs[i0]? = some c0 ∧ p = (c0.1 : Int) ∧ c0.1 + c0.2.length ≤ t.size ∧ (∀ (i : Nat) c, cs[i]? = some c → (c.1 : Int) = p → i = i0) ∧ ∃ g, parseF SE (stopT t m (c0.1 + c0.2.length)) = (g, p, x)) := by
  obtain ⟨_, h40, htk⟩ := tokF_wrds h1
  obtain ⟨_, _, htm⟩ := tokF_wrds h2
  obtain ⟨tf1, tf2⟩ := tokens_facts htk
  rw [parseF_tok chk_SE h1] at hp
  have h0 : (readF (sigP SE) (tW cs)).2.2 ≠ 0 := by
    intro h0
    rw [if_pos h0] at hp
    have := congrArg (fun r => r.2.2) hp
    simp at this
    omega
  rw [if_neg h0] at hp
  cases hw : Ps.whole (sigP SE) (tW cs) with
  | ok tr r =>
    have hr := read_whole hw
    by_cases hl : 200 < (cl tr).length
    · rw [if_pos hl] at hr
      rw [hr] at hp
      have := congrArg (fun r => r.2.2) hp
      simp at this
      omega
    · rw [if_neg hl] at hr
      rw [hr] at h0
      exact absurd rfl h0
  | bad r e =>
    have hr := whole_bad_ne hw
    rw [hr] at hp
    have hpp : p = (placeF t cs r.length : Int) := (congrArg (fun r => r.2.1) hp).symm
    have hxe : x = (e : Int) := (congrArg (fun r => r.2.2) hp).symm
    obtain ⟨u, hu⟩ := whole_suf hw
    cases r with
    | nil =>
      left
      obtain ⟨_, he⟩ := Ps.whole_err hw
      have h4 := he rfl
      have hps : p = (t.size : Int) := hpp
      refine ⟨hps, by omega, fun i c hc => ?_⟩
      obtain ⟨c1, _, _, c4⟩ := tf1 c (List.mem_of_getElem? hc)
      rw [data_len] at c4
      have := List.length_pos_iff.2 c1
      omega
    | cons y us =>
      right
      have hul : (tW cs).length = u.length + (us.length + 1) := by rw [hu]; simp
      rw [tW_len] at hul
      have hi0 : u.length < cs.length := by omega
      obtain ⟨c0, hc0⟩ : ∃ c0, cs[u.length]? = some c0 := ⟨_, List.getElem?_eq_getElem hi0⟩
      have hpc : p = (c0.1 : Int) := by
        rw [hpp]
        unfold placeF
        rw [if_neg (by simp), tW_len, show cs.length - (y :: us).length = u.length by simp; omega, List.getD_eq_getElem?_getD, List.getElem?_map, hc0]
        rfl
      obtain ⟨c1, _, _, c4⟩ := tf1 c0 (List.mem_of_getElem? hc0)
      rw [data_len] at c4
      have hwy : txt c0.2 = y := by
        have e1 : (tW cs)[u.length]? = some (txt c0.2) := by unfold tW; rw [List.getElem?_map, hc0]; rfl
        rw [hu, List.getElem?_append_right (Nat.le_refl _), Nat.sub_self] at e1
        simpa using e1.symm
      refine ⟨u.length, c0, hc0, hpc, c4, fun i c hc hcp => ?_, ?_⟩
      · have hsrt := toks_sorted _ _ _ _ htk
        have hci : c.1 = c0.1 := by omega
        have hil := (List.getElem?_eq_some_iff.1 hc).1
        have hie := (List.getElem?_eq_some_iff.1 hc).2
        have h0e := (List.getElem?_eq_some_iff.1 hc0).2
        rcases Nat.lt_trichotomy i u.length with hlt | heq | hlt
        · have := List.pairwise_iff_getElem.1 hsrt i u.length hil hi0 hlt
          rw [hie, h0e] at this
          omega
        · exact heq
        · have := List.pairwise_iff_getElem.1 hsrt u.length i hi0 hil hlt
          rw [hie, h0e] at this
          omega
      · have hlc : (t.data.toList.take (c0.1 + c0.2.length)).length = c0.1 + c0.2.length := by rw [List.length_take, data_len]; omega
        have k1 : tokens (t.data.toList.take (c0.1 + c0.2.length)) 0 = .ok (cs.take (u.length + 1)) := toks_take _ _ _ 0 cs u.length c0 htk hc0 (by rw [hlc]; exact Nat.le_refl _)
        have k2 : tokens (32 :: m.data.toList) 0 = .ok (shiftT 1 ds) := by
          rw [tokens_space (l := 32 :: m.data.toList) (i := 0) (b := 32) rfl (by decide)]
          have := tokens_shift [32] m.data.toList
          rw [show ([32] : List UInt8) ++ m.data.toList = 32 :: m.data.toList from rfl, htm] at this
          exact this
        have k3 := tokens_app (m := 32 :: m.data.toList) k1 (.inl (by intro b r e; cases e; decide))
        rw [k2] at k3
        have hst : (stopT t m (c0.1 + c0.2.length)).data.toList = t.data.toList.take (c0.1 + c0.2.length) ++ 32 :: m.data.toList := by
          simp [stopT, Lib.extract_data]
        have hsz : (stopT t m (c0.1 + c0.2.length)).size ≤ 4000 := by
          rw [← data_len, hst, List.length_append, hlc, List.length_cons, data_len]; omega
        have k4 : tokF (stopT t m (c0.1 + c0.2.length)) = .ok (cs.take (u.length + 1) ++ shiftT (t.data.toList.take (c0.1 + c0.2.length)).length (shiftT 1 ds)) := by
          unfold tokF
          rw [if_neg (by omega), hst, k3]
          rfl
        have hpre : tW (cs.take (u.length + 1)) = u ++ [y] := by
          have e1 : tW (cs.take (u.length + 1)) = (tW cs).take (u.length + 1) := by unfold tW; rw [List.map_take]
          rw [e1, hu, List.take_append, List.take_of_length_le (by omega), Nat.add_sub_cancel_left]
          rfl
        generalize hvs : shiftT (t.data.toList.take (c0.1 + c0.2.length)).length (shiftT 1 ds) = vs0 at *
        have hws : tW (cs.take (u.length + 1) ++ vs0) = u ++ y :: tW vs0 := by
          have : tW (cs.take (u.length + 1) ++ vs0) = tW (cs.take (u.length + 1)) ++ tW vs0 := by unfold tW; rw [List.map_append]
          rw [this, hpre]
          simp
        rw [hu] at hw
        have hst2 := Ps.whole_stop (vs := tW vs0) hw rfl
        rw [← hws] at hst2
        have hr2 := whole_bad_ne hst2
        have hne : e ≠ 0 := by omega
        refine ⟨[], ?_⟩
        rw [parseF_tok chk_SE k4, hr2, if_neg hne, hpc, hxe]
        have hpl : placeF (stopT t m (c0.1 + c0.2.length)) (cs.take (u.length + 1) ++ vs0) (y :: tW vs0).length = c0.1 := by
          unfold placeF
          rw [if_neg (by simp), hws]
          have e1 : (u ++ y :: tW vs0).length - (y :: tW vs0).length = u.length := by simp
          rw [e1, List.getD_eq_getElem?_getD, List.getElem?_map, List.getElem?_append_left (by rw [List.length_take]; omega), List.getElem?_take_of_lt (by omega), hc0]
          rfl
        rw [hpl]
end Go.Proofs.YtdhdcenjiopofaaGreatDoor
