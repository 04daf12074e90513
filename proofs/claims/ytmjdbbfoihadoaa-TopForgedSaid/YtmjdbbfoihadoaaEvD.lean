/- What is asked of a model and a formula together: plain facts. No condition. -/
import Derived.Test.YtmjdbbfoihadoaaEvAC
import Derived.Test.YtmjdbbfoihadoaaPrU
set_option linter.unusedVariables false
set_option linter.unusedSimpArgs false
namespace Go.Proofs.Ytmjdbbfoihadoaa
open Fm (Nd checkE compactL usesX usesY usesAgent usesFact usesGroup usesEvent)
open Ev

/-- The fragments of a formula. -/
def orG (l : List Nd) : Nat := l.foldl (fun m n => m ||| (fragN n.op).toNat) 0
theorem orG_snoc {l : List Nd} {k : Nat} {n : Nd} (h : l[k]? = some n) : orG (l.take (k + 1)) = orG (l.take k) ||| (fragN n.op).toNat := by rw [take_snoc1 h]; simp [orG]
theorem fragN_lt (o : Int) : 0 ≤ fragN o ∧ fragN o < 512 := by
  unfold fragN
  repeat' split
  all_goals omega
theorem orG_lt {l : List Nd} {b : Nat} : orG l < 2 ^ b ↔ ∀ n ∈ l, (fragN n.op).toNat < 2 ^ b := by
  unfold orG
  rw [or_le_iff]
  exact ⟨fun h => h.2, fun h => ⟨Nat.two_pow_pos _, h⟩⟩
theorem orG_512 (l : List Nd) : orG l < 512 := (orG_lt (b := 9)).2 fun n _ => by have := fragN_lt n.op; omega
def statB (f : List Nd) : Bool := decide (orG (compactL f) < 16)
/-- The error of a model and a formula. -/
def requestE (M : Md) (f : List Nd) : Int := if modelE M ≠ 0 then modelE M else if checkE f ≠ 0 then checkE f else if statB f = false then 10 else if fitsB f M.R.length M.V.length = false then 2 else 0
theorem request_zero {M : Md} {f : List Nd} : requestE M f = 0 ↔ modelE M = 0 ∧ checkE f = 0 ∧ statB f = true ∧ fitsB f M.R.length M.V.length = true := by
  unfold requestE
  by_cases h1 : modelE M = 0
  · rw [if_neg (by simp [h1])]
    by_cases h2 : checkE f = 0
    · rw [if_neg (by simp [h2])]
      cases h3 : statB f with
      | false => simp
      | true =>
        cases h4 : fitsB f M.R.length M.V.length <;> simp [h1, h2]
    · rw [if_pos h2]
      exact ⟨fun h => absurd h h2, fun h => absurd h.2.1 h2⟩
  · rw [if_pos h1]
    exact ⟨fun h => absurd h h1, fun h => absurd h.1 h1⟩
theorem compact_idem {f : List Nd} (h : checkE f = 0) : checkE (compactL f) = 0 ∧ compactL (compactL f) = compactL f := by
  have hl := (Fm.compactL_len h).1
  have h1 : checkE (compactL f) = 0 := by
    rw [Fm.compactL_ok h] at hl ⊢
    exact Fm.cl_check (Fm.tr_good h) hl
  refine ⟨h1, ?_⟩
  rw [Fm.compactL_ok h1, Fm.compactL_ok h, Fm.tr_cl (Fm.tr_good h).fit]
theorem request_compact {M : Md} {f : List Nd} (h : checkE f = 0) : requestE M (compactL f) = requestE M f := by
  obtain ⟨h1, h2⟩ := compact_idem h
  unfold requestE statB fitsB
  rw [h1, h2, h]
theorem okc_of {M : Md} {f : List Nd} (h1 : checkE f = 0) (h2 : statB f = true) (h3 : fitsB f M.R.length M.V.length = true) : Okc M (compactL f) := by
  have hown := compact_own (f := f)
  unfold fitsB at h3
  simp only [Bool.and_eq_true, decide_eq_true_eq] at h3
  obtain ⟨_, hA, hF⟩ := h3
  have hG : orG (compactL f) < 2 ^ 4 := by unfold statB at h2; exact of_decide_eq_true h2
  have pw : ∀ {a b : Nat}, 2 ^ a < 2 ^ b → a < b := fun h => (Nat.pow_lt_pow_iff_right (by decide)).1 h
  have hop : ∀ (k : Nat) (m : Nd), (compactL f)[k]? = some m → 1 ≤ m.op ∧ m.op ≤ 13 := fun k m hm => by
    have ho := hown m (List.mem_of_getElem? hm)
    have hg := orG_lt.1 hG m (List.mem_of_getElem? hm)
    have hi : Fm.isOp m.op = true := by
      unfold Fm.own at ho
      simp only [Bool.and_eq_true] at ho
      first | exact ho.1 | exact ho.1.1 | exact ho.1.1.1
    unfold Fm.isOp at hi
    simp only [Bool.and_eq_true, decide_eq_true_eq] at hi
    refine ⟨hi.1, ?_⟩
    false_or_by_contra
    unfold fragN at hg
    rw [if_neg (by omega), if_neg (by omega), if_neg (by omega), if_neg (by omega)] at hg
    repeat' (split at hg)
    all_goals simp at hg <;> omega
  refine ⟨Fm.compactL_ord h1, hop, fun k m hm h => ?_, fun k m hm h => ?_, fun k m hm h => ?_⟩
  · have ho := hown m (List.mem_of_getElem? hm)
    obtain ⟨_, r2, _⟩ := own_ranges ho
    have hu : usesFact m.op = true := by unfold Fm.usesFact; exact decide_eq_true h
    have := r2 hu
    have hf := orF_lt.1 hF m (List.mem_of_getElem? hm)
    unfold mF at hf
    rw [if_pos hu] at hf
    have := pw hf
    omega
  · have ho := hown m (List.mem_of_getElem? hm)
    obtain ⟨r1, _⟩ := own_ranges ho
    have hu : usesAgent m.op = true := by
      unfold Fm.usesAgent
      rcases h with h | h <;> rw [h] <;> rfl
    have := r1 hu
    have hf := orA_lt.1 hA m (List.mem_of_getElem? hm)
    unfold mA at hf
    rw [if_pos hu] at hf
    have := pw hf
    omega
  · have ho := hown m (List.mem_of_getElem? hm)
    have hu : usesAgent m.op = false := by
      unfold Fm.usesAgent
      rcases h with h | h | h <;> rw [h] <;> rfl
    have hf := orA_lt.1 hA m (List.mem_of_getElem? hm)
    unfold mA at hf
    rw [if_neg (by rw [hu]; simp)] at hf
    have h1g : 1 ≤ m.g := by
      obtain ⟨op, i, e, g, x, y⟩ := m
      simp only at h ho ⊢
      rcases h with rfl | rfl | rfl <;> simp [Fm.own, Fm.isOp, Fm.zeroed, Fm.ranged, Fm.within, Fm.usesFact, Fm.usesAgent, Fm.usesEvent, Fm.usesGroup] at ho <;> omega
    refine ⟨h1g, ?_⟩
    have : ((m.g.toNat : Nat) : Int) < ((2 ^ M.R.length : Nat) : Int) := by exact_mod_cast hf
    omega
end Go.Proofs.Ytmjdbbfoihadoaa
