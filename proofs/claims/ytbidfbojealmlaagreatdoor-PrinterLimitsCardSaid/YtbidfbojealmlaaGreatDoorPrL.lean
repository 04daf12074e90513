/- The text of a conjunction of a formula with itself, plain. No condition. -/
import Derived.Test.YtbidfbojealmlaaGreatDoorPrX
set_option linter.unusedVariables false
set_option linter.unusedSimpArgs false
namespace Go.Proofs.YtbidfbojealmlaaGreatDoor
open Go.RowKit
open Fm (Nd own usesX usesY usesAgent usesFact usesGroup usesEvent put ins cl checkE compactL tr mk2)
open Fm.Form

def SL : Sg := ⟨[⟨#[97]⟩, ⟨#[98]⟩, ⟨#[99]⟩, ⟨#[100]⟩], [⟨#[112]⟩, ⟨#[113]⟩, ⟨#[114]⟩, ⟨#[115]⟩, ⟨#[116]⟩, ⟨#[117]⟩, ⟨#[118]⟩, ⟨#[119]⟩], [⟨#[120, 48]⟩, ⟨#[120, 49]⟩, ⟨#[120, 50]⟩, ⟨#[120, 51]⟩, ⟨#[120, 52]⟩, ⟨#[120, 53]⟩, ⟨#[120, 54]⟩, ⟨#[120, 55]⟩]⟩
theorem chk_SL : checkS SL = 0 := by decide +kernel
theorem parL_len (o k : Nat) (l : List UInt8) : l.length ≤ (parL o k l).length ∧ (parL o k l).length ≤ l.length + 2 := by
  unfold parL
  split
  · omega
  · simp only [List.length_cons, List.length_append, List.length_nil]
    omega
theorem lim_len (S : Sg) (u : Fm.Form) : 2 * (prL S u).length + 3 ≤ (prL S (bin 5 0 0 0 u u)).length ∧ (prL S (bin 5 0 0 0 u u)).length ≤ 2 * (prL S u).length + 7 := by
  rw [prL, if_neg (by decide), if_neg (by decide), List.length_append, List.length_append]
  have h1 := parL_len (lvO (top u)) (ltO 5) (prL S u)
  have h2 := parL_len (lvO (top u)) (rtO 5) (prL S u)
  have h3 : (sgL 5).length = 3 := rfl
  omega
theorem prL_pos {S : Sg} (hS : checkS S = 0) : ∀ t : Fm.Form, Nm S t → 0 < (prL S t).length
  | leaf op i e g, h => by
    rcases leaf_cases h.1 h.2 with ⟨rfl | rfl, rfl, rfl, rfl⟩ | ⟨rfl, rfl, rfl, a, rfl, ha⟩
    · exact Nat.succ_pos _
    · exact Nat.succ_pos _
    · have hn := all_name hS (subF _ (nm_mem ha))
      obtain ⟨b, r, e, _⟩ := nameL_head hn.name
      rw [prL, if_neg (by decide), if_neg (by decide), e]
      exact Nat.succ_pos _
  | un op i e g x, h => by
    have := prL_pos hS x h.2.2.2
    have := parL_len (lvO (top x)) 5 (prL S x)
    rw [prL, List.length_append]
    omega
  | bin op i e g x y, h => by
    have := prL_pos hS y h.2.2.2
    have h1 := parL_len (lvO (top y)) 5 (prL S y)
    have h2 := parL_len (lvO (top y)) (rtO op) (prL S y)
    rw [prL]
    split
    · simp only [List.length_append]; omega
    · split
      · simp only [List.length_append]; omega
      · simp only [List.length_append]; omega
theorem okN_SL {L : List Nd} (h : checkE L = 0) : okN SL L = true := by
  have ho : ∀ n ∈ compactL L, Fm.own n.op n.i n.e n.g = true := compact_own
  unfold okN fitsB actsB
  simp only [Bool.and_eq_true, decide_eq_true_eq, List.all_eq_true, Bool.not_eq_true', Bool.and_eq_false_iff, decide_eq_false_iff_not]
  refine ⟨⟨h, (orA_lt (b := 4)).2 fun n hn => ?_, (orF_lt (b := 8)).2 fun n hn => mF_lt (ho n hn)⟩, fun n hn => ?_⟩
  · obtain ⟨h1, h2, h3, h4, h5⟩ := own_ranges (ho n hn)
    unfold mA
    split
    · next ha =>
      obtain ⟨a1, a2⟩ := h1 ha
      exact Nat.pow_lt_pow_right (by decide) (by omega)
    · omega
  · by_cases h17 : n.op = 17
    · have := ho n hn
      rw [h17] at this
      simp only [Fm.own, Fm.zeroed, Fm.ranged, Fm.within] at this
      simp [usesFact, usesAgent, usesEvent, usesGroup] at this
      refine .inr ?_
      rw [show ((SL.C.length : Nat) : Int) = 8 from rfl]
      omega
    · exact .inl h17
theorem lim_print {L : List Nd} (h : checkE L = 0) : printF SL L = (if 4000 < (prL SL (tr L)).length then ([], 8) else (prL SL (tr L), 0)) ∧ 0 < (prL SL (tr L)).length := by
  have hok := okN_SL h
  refine ⟨?_, prL_pos chk_SL _ (nm_of hok).1⟩
  unfold printF
  rw [if_neg (by rw [chk_SL]; simp), if_neg (by rw [h]; simp), if_neg (by rw [hok]; simp)]
theorem cl_twice (t : Fm.Form) : (cl (bin 5 0 0 0 t t)).length ≤ (cl t).length + 1 := by
  have hr : ins t (cl t) = ((ins t []).1, cl t) := Fm.ins_rep (Fm.cl_nodup t) (Fm.rep_ins t [])
  show (put ⟨5, 0, 0, 0, _, _⟩ (ins t (ins t []).2).2).2.length ≤ _
  rw [show (ins t []).2 = cl t from rfl, hr]
  exact Fm.put_len _ _
theorem lim_step {L : List Nd} (h : checkE L = 0) (hl : (cl (tr L)).length ≤ 199) :
    checkE (mk2 5 0 0 0 L L) = 0 ∧ tr (mk2 5 0 0 0 L L) = bin 5 0 0 0 (tr L) (tr L) ∧ (cl (bin 5 0 0 0 (tr L) (tr L))).length ≤ (cl (tr L)).length + 1 ∧ 0 < (mk2 5 0 0 0 L L).length ∧ (mk2 5 0 0 0 L L).length ≤ 200 := by
  have hg := Fm.tr_good h
  have hb : Fm.Good (bin 5 0 0 0 (tr L) (tr L)) := ⟨by decide, by decide, hg, hg⟩
  have hc := cl_twice (tr L)
  have hm : mk2 5 0 0 0 L L = cl (bin 5 0 0 0 (tr L) (tr L)) := by
    unfold mk2 Fm.capped
    rw [if_neg (by rw [h]; simp; decide), if_neg (by omega)]
  rw [hm]
  exact ⟨Fm.cl_check hb (by omega), Fm.tr_cl hb.fit, hc, Fm.cl_pos _, by omega⟩
/-- What holds at the beginning of a round. -/
structure LimI (L : List Nd) (j u : Nat) : Prop where
  chk : checkE L = 0
  len : (cl (tr L)).length ≤ 60 + j
  was : u = 0 ∨ 0 < u ∧ ∃ t, tr L = bin 5 0 0 0 t t ∧ u = (prL SL t).length
theorem LimI.start {L : List Nd} (h : checkE L = 0) (hl : L.length ≤ 60) : LimI L 0 0 := ⟨h, by have := Fm.cl_tr_le h; omega, .inl rfl⟩
theorem LimI.next {L : List Nd} {j u : Nat} (h : LimI L j u) (hj : j < 12) : LimI (mk2 5 0 0 0 L L) (j + 1) (prL SL (tr L)).length ∧ 0 < (mk2 5 0 0 0 L L).length ∧ (mk2 5 0 0 0 L L).length ≤ 200 := by
  have hl := h.len
  obtain ⟨h1, h2, h3, h4, h5⟩ := lim_step h.chk (by omega)
  exact ⟨⟨h1, by rw [h2]; omega, .inr ⟨(lim_print h.chk).2, tr L, h2, rfl⟩⟩, h4, h5⟩
/-- What is printed in a round: too long, or as long as it must be. -/
theorem LimI.round {L : List Nd} {j u : Nat} (h : LimI L j u) : (printF SL L = ([], 8) ∧ (u = 0 ∨ 4000 < 2 * u + 7)) ∨
    ∃ s, printF SL L = (s, 0) ∧ s.length = (prL SL (tr L)).length ∧ 0 < s.length ∧ s.length ≤ 4000 ∧ (u = 0 ∨ 0 < u ∧ 2 * u + 3 ≤ s.length ∧ s.length ≤ 2 * u + 7) := by
  obtain ⟨hp, h0⟩ := lim_print h.chk
  have hw : u = 0 ∨ 0 < u ∧ 2 * u + 3 ≤ (prL SL (tr L)).length ∧ (prL SL (tr L)).length ≤ 2 * u + 7 := by
    rcases h.was with h1 | ⟨h1, t, ht, rfl⟩
    · exact .inl h1
    · rw [ht]
      exact .inr ⟨h1, lim_len SL t⟩
  by_cases hb : 4000 < (prL SL (tr L)).length
  · rw [if_pos hb] at hp
    exact .inl ⟨hp, by omega⟩
  · rw [if_neg hb] at hp
    exact .inr ⟨_, hp, rfl, h0, by omega, hw⟩
end Go.Proofs.YtbidfbojealmlaaGreatDoor
