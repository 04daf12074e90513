/- A printed text without a pair of its parentheses is no text of the formula, plain. No condition. -/
import Derived.Test.YtbidfbojealmlaaGreatDoorPrQ
set_option linter.unusedVariables false
set_option linter.unusedSimpArgs false
namespace Go.Proofs.YtbidfbojealmlaaGreatDoor
open Go.RowKit
open Fm (Nd cl checkE compactL tr)
open Ps (W)

/-- Where a depth comes back to zero. -/
def cloG (d : Int) (i : Nat) : List UInt8 → Int
  | [] => -1
  | b :: r => if d + dpB b = 0 then (i : Int) else cloG (d + dpB b) (i + 1) r
theorem clo_ex : ∀ (r : List UInt8) (d : Int) (i : Nat), 0 < d → d + dpL r ≤ 0 → ∃ k : Nat, cloG d i r = k ∧ i ≤ k ∧ r[k - i]? = some 41
  | [], d, i, h, h' => by unfold dpL at h'; simp at h'; omega
  | b :: r, d, i, h, h' => by
    have hs : dpL (b :: r) = dpB b + dpL r := by simp [dpL]
    rw [hs] at h'
    unfold cloG
    by_cases h0 : d + dpB b = 0
    · rw [if_pos h0]
      refine ⟨i, rfl, Nat.le_refl _, ?_⟩
      rw [Nat.sub_self]
      have : b = 41 := by
        unfold dpB at h0
        split at h0
        · omega
        · split at h0
          · assumption
          · omega
      rw [this]
      rfl
    · rw [if_neg h0]
      have hd : -1 ≤ dpB b := by unfold dpB; split; decide; split <;> decide
      obtain ⟨k, h1, h2, h3⟩ := clo_ex r (d + dpB b) (i + 1) (by omega) (by omega)
      refine ⟨k, h1, by omega, ?_⟩
      rw [show k - i = (k - (i + 1)) + 1 by omega]
      exact h3
theorem cut_two {s : List UInt8} {i k : Nat} (hi : s[i]? = some 40) (hk : s[k]? = some 41) (h : i < k) :
    s.count 40 = (s.take i ++ ((s.drop (i + 1)).take (k - (i + 1)) ++ s.drop (k + 1))).count 40 + 1 := by
  have hl : k < s.length := (List.getElem?_eq_some_iff.1 hk).1
  have h1 : s = s.take i ++ 40 :: s.drop (i + 1) := by
    conv => lhs; rw [← List.take_append_drop i s]
    rw [List.drop_eq_getElem_cons (by omega)]
    rw [(List.getElem?_eq_some_iff.1 hi).2]
  have h2 : s.drop (i + 1) = (s.drop (i + 1)).take (k - (i + 1)) ++ 41 :: s.drop (k + 1) := by
    conv => lhs; rw [← List.take_append_drop (k - (i + 1)) (s.drop (i + 1))]
    rw [List.drop_drop, show i + 1 + (k - (i + 1)) = k by omega, List.drop_eq_getElem_cons hl]
    rw [(List.getElem?_eq_some_iff.1 hk).2]
  have e1 : s.count 40 = (s.take i).count 40 + ((s.drop (i + 1)).count 40 + 1) := by
    conv => lhs; rw [h1]
    rw [List.count_append, List.count_cons_self]
  have e2 : (s.drop (i + 1)).count 40 = ((s.drop (i + 1)).take (k - (i + 1))).count 40 + (s.drop (k + 1)).count 40 := by
    conv => lhs; rw [h2]
    rw [List.count_append, List.count_cons_of_ne (by decide)]
  rw [List.count_append, List.count_append]
  omega
theorem cW_count (cs : Tk) : cW (tW cs) = (cs.map (·.2)).count [40] := by
  have : cs.map (·.2) = (tW cs).map (·.data.toList) := by simp [tW, data_txt]
  rw [this, List.count_eq_countP, List.countP_map]
  unfold cW
  refine List.countP_congr fun x _ => ?_
  simp only [decide_eq_true_eq, Function.comp, beq_iff_eq]
  exact ⟨fun h => by rw [h]; rfl, fun h => ba_ext h⟩
/-- Without a pair of parentheses it is not the same formula. -/
theorem minimal_law {S : Sg} {l : List Nd} {s : List UInt8} (hp : printF S l = (s, 0)) {i : Nat} (hi : s[i]? = some 40) :
    ∃ k : Nat, cloG 0 i (s.drop i) = k ∧ i < k ∧ k < s.length ∧ ∀ (t : ByteArray), t.data.toList = s.take i ++ ((s.drop (i + 1)).take (k - (i + 1)) ++ s.drop (k + 1)) →
      ∃ g p x, parseF S t = (g, p, x) ∧ g.length ≤ 200 ∧ (x = 0 → sameB l g = false) := by
  obtain ⟨h1, h2, h3, h4, h5⟩ := printF_ok hp
  obtain ⟨hn, _, hl⟩ := nm_of h3
  have hb := bal_pr h1 (tr l) hn
  rw [← h4] at hb
  have hlt : i < s.length := (List.getElem?_eq_some_iff.1 hi).1
  have hd : s.drop i = 40 :: s.drop (i + 1) := by
    rw [List.drop_eq_getElem_cons hlt, (List.getElem?_eq_some_iff.1 hi).2]
  have hsum : dpL (s.take i) + (1 + dpL (s.drop (i + 1))) = 0 := by
    have e := hb.sum
    rw [← List.take_append_drop i s, dp_app, hd] at e
    have : dpL ((40 : UInt8) :: s.drop (i + 1)) = 1 + dpL (s.drop (i + 1)) := by simp [dpL, show dpB 40 = 1 from rfl]
    omega
  have hpre := hb.pre i
  obtain ⟨k, e1, e2, e3⟩ := clo_ex (s.drop (i + 1)) 1 (i + 1) (by decide) (by omega)
  have hk : s[k]? = some 41 := by
    rw [List.getElem?_drop, show i + 1 + (k - (i + 1)) = k by omega] at e3
    exact e3
  have hkl : k < s.length := (List.getElem?_eq_some_iff.1 hk).1
  refine ⟨k, ?_, by omega, hkl, fun t ht => ?_⟩
  · rw [hd]
    unfold cloG
    rw [show (0 : Int) + dpB 40 = 1 from rfl, if_neg (by decide)]
    exact e1
  · rcases parse_form S t with ⟨g, p, x, hq, hx, hgl⟩ | ⟨f, hq, _, hl', hce, htr, _, cs, hcs, hw⟩
    · exact ⟨g, p, x, hq, by rw [hgl]; exact Nat.zero_le _, fun h => absurd h hx⟩
    · refine ⟨cl f, 0, 0, hq, hl', fun _ => ?_⟩
      false_or_by_contra
      rename_i hs
      have hs' : sameB l (cl f) = true := by simpa using hs
      unfold sameB at hs'
      rw [hce, h2] at hs'
      have hcc : compactL l = compactL (cl f) := by simpa using hs'
      rw [Fm.compactL_ok h2, Fm.compactL_ok hce, htr] at hcc
      have htt : tr l = f := by rw [← htr, ← hcc, Fm.tr_cl (Fm.tr_good h2).fit]
      have hm := mn_whole hw
      have hwr : wrds t.data.toList = some (cs.map (·.2)) := by
        unfold tokF at hcs
        by_cases hs : 4000 < t.size
        · rw [if_pos hs] at hcs; cases hcs
        · rw [if_neg hs] at hcs
          cases htk : tokens t.data.toList 0 with
          | error p => rw [htk] at hcs; cases hcs
          | ok cs' => rw [htk] at hcs; cases hcs; exact wrds_of htk
      have hc := wrds_count hwr
      rw [← cW_count, ht] at hc
      have hct := cut_two hi hk (by omega)
      rw [hb.cnt, htt] at hct
      omega
end Go.Proofs.YtbidfbojealmlaaGreatDoor
