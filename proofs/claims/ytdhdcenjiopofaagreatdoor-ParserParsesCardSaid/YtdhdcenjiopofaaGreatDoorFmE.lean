/- Package formula: what nodeError and Check do. No condition. -/
import Derived.Test.YtdhdcenjiopofaaGreatDoorFmD
set_option linter.unusedVariables false
set_option linter.unusedSimpArgs false
namespace Go.Proofs.YtdhdcenjiopofaaGreatDoor
open Go.RowKit
open Fm (Nd isOp usesX usesY usesFact usesAgent usesGroup usesEvent zeroed within ranged operandB nodeE nodesE checkE)

section
variable (w : World)
set_option maxRecDepth 100000
set_option maxHeartbeats 2000000
theorem nodeError_any (n : Nd) (k : Int) : Calls Tryz.prog 23 #[ndV n, .int .i64 k] w fun e w' => e = .returned (.int .i64 (nodeE n k)) ∧ Keep NoF w w' := by
  obtain ⟨op, i, e, g, x, y⟩ := n
  have HU := Lib.hid fun w => uses_any w op
  unfold nodeE
  simp only
  by_cases h0 : isOp op = false
  · rw [if_pos h0]
    simp only [h0] at HU
    exact ne_op w op i e g x y k _ _ _ _ _ _ _ HU
  · rw [if_neg h0]
    have h0' : isOp op = true := by simpa using h0
    simp only [h0'] at HU
    cases hx : operandB (usesX op) x k with
    | false => exact ne_x w op i e g x y k _ _ _ _ _ _ _ HU hx
    | true =>
      cases hy : operandB (usesY op) y k with
      | false => exact ne_y w op i e g x y k _ _ _ _ _ _ _ HU hx hy
      | true =>
        rw [if_neg (by simp)]
        unfold zeroed ranged
        simp only
        rcases cls_of op with h | h | h | h | h | h
        · exact absurd h h0
        · obtain ⟨_, f1, f2, f3, f4⟩ := h
          simp only [useV, useC, f1, f2, f3, f4] at HU ⊢
          by_cases hze : e ≠ 0
          · have e1 : (e != 0) = true := by simpa using hze
            rw [if_pos (by simp [hze])]
            exact ne_fact_e w op i e g x y k _ _ _ HU hx hy e1
          replace hze : e = 0 := by simpa using hze
          have be : (e != 0) = false := by simpa using hze
          by_cases hzg : g ≠ 0
          · have e1 : (g != 0) = true := by simpa using hzg
            rw [if_pos (by simp [hzg])]
            exact ne_fact_g w op i e g x y k _ _ _ HU hx hy be e1
          replace hzg : g = 0 := by simpa using hzg
          have bg : (g != 0) = false := by simpa using hzg
          rw [if_neg (by simp [hze, hzg])]
          cases hw0 : within true i 0 7 with
          | false =>
            rw [if_pos (by simp [hw0, show ∀ v a b, within false v a b = true from fun _ _ _ => rfl])]
            exact ne_fact_r0 w op i e g x y k _ _ _ HU hx hy be bg hw0
          | true =>
            rw [if_neg (by simp [hw0, show ∀ v a b, within false v a b = true from fun _ _ _ => rfl])]
            exact ne_fact_ok w op i e g x y k _ _ _ HU hx hy be bg hw0
        · obtain ⟨_, f1, f2, f3, f4⟩ := h
          simp only [useV, useC, f1, f2, f3, f4] at HU ⊢
          by_cases hze : e ≠ 0
          · have e1 : (e != 0) = true := by simpa using hze
            rw [if_pos (by simp [hze])]
            exact ne_agent_e w op i e g x y k _ _ _ HU hx hy e1
          replace hze : e = 0 := by simpa using hze
          have be : (e != 0) = false := by simpa using hze
          by_cases hzg : g ≠ 0
          · have e1 : (g != 0) = true := by simpa using hzg
            rw [if_pos (by simp [hzg])]
            exact ne_agent_g w op i e g x y k _ _ _ HU hx hy be e1
          replace hzg : g = 0 := by simpa using hzg
          have bg : (g != 0) = false := by simpa using hzg
          rw [if_neg (by simp [hze, hzg])]
          cases hw0 : within true i 0 3 with
          | false =>
            rw [if_pos (by simp [hw0, show ∀ v a b, within false v a b = true from fun _ _ _ => rfl])]
            exact ne_agent_r0 w op i e g x y k _ _ _ HU hx hy be bg hw0
          | true =>
            rw [if_neg (by simp [hw0, show ∀ v a b, within false v a b = true from fun _ _ _ => rfl])]
            exact ne_agent_ok w op i e g x y k _ _ _ HU hx hy be bg hw0
        · obtain ⟨_, f1, f2, f3, f4⟩ := h
          simp only [useV, useC, f1, f2, f3, f4] at HU ⊢
          by_cases hzi : i ≠ 0
          · have e1 : (i != 0) = true := by simpa using hzi
            rw [if_pos (by simp [hzi])]
            exact ne_group_i w op i e g x y k _ _ _ HU hx hy e1
          replace hzi : i = 0 := by simpa using hzi
          have bi : (i != 0) = false := by simpa using hzi
          by_cases hze : e ≠ 0
          · have e1 : (e != 0) = true := by simpa using hze
            rw [if_pos (by simp [hze])]
            exact ne_group_e w op i e g x y k _ _ _ HU hx hy bi e1
          replace hze : e = 0 := by simpa using hze
          have be : (e != 0) = false := by simpa using hze
          rw [if_neg (by simp [hzi, hze])]
          cases hw0 : within true g 1 15 with
          | false =>
            rw [if_pos (by simp [hw0, show ∀ v a b, within false v a b = true from fun _ _ _ => rfl])]
            exact ne_group_r0 w op i e g x y k _ _ _ HU hx hy bi be hw0
          | true =>
            rw [if_neg (by simp [hw0, show ∀ v a b, within false v a b = true from fun _ _ _ => rfl])]
            exact ne_group_ok w op i e g x y k _ _ _ HU hx hy bi be hw0
        · obtain ⟨_, f1, f2, f3, f4⟩ := h
          simp only [useV, useC, f1, f2, f3, f4] at HU ⊢
          by_cases hzg : g ≠ 0
          · have e1 : (g != 0) = true := by simpa using hzg
            rw [if_pos (by simp [hzg])]
            exact ne_event_g w op i e g x y k _ _ _ HU hx hy e1
          replace hzg : g = 0 := by simpa using hzg
          have bg : (g != 0) = false := by simpa using hzg
          rw [if_neg (by simp [hzg])]
          cases hw0 : within true i 0 7 with
          | false =>
            rw [if_pos (by simp [hw0, show ∀ v a b, within false v a b = true from fun _ _ _ => rfl])]
            exact ne_event_r0 w op i e g x y k _ _ _ HU hx hy bg hw0
          | true =>
            cases hw1 : within true e 0 7 with
            | false =>
              rw [if_pos (by simp [hw0, hw1, show ∀ v a b, within false v a b = true from fun _ _ _ => rfl])]
              exact ne_event_r1 w op i e g x y k _ _ _ HU hx hy bg hw0 hw1
            | true =>
              rw [if_neg (by simp [hw0, hw1, show ∀ v a b, within false v a b = true from fun _ _ _ => rfl])]
              exact ne_event_ok w op i e g x y k _ _ _ HU hx hy bg hw0 hw1
        · obtain ⟨_, f1, f2, f3, f4⟩ := h
          simp only [useV, useC, f1, f2, f3, f4] at HU ⊢
          by_cases hzi : i ≠ 0
          · have e1 : (i != 0) = true := by simpa using hzi
            rw [if_pos (by simp [hzi])]
            exact ne_none_i w op i e g x y k _ _ _ HU hx hy e1
          replace hzi : i = 0 := by simpa using hzi
          have bi : (i != 0) = false := by simpa using hzi
          by_cases hze : e ≠ 0
          · have e1 : (e != 0) = true := by simpa using hze
            rw [if_pos (by simp [hze])]
            exact ne_none_e w op i e g x y k _ _ _ HU hx hy bi e1
          replace hze : e = 0 := by simpa using hze
          have be : (e != 0) = false := by simpa using hze
          by_cases hzg : g ≠ 0
          · have e1 : (g != 0) = true := by simpa using hzg
            rw [if_pos (by simp [hzg])]
            exact ne_none_g w op i e g x y k _ _ _ HU hx hy bi be e1
          replace hzg : g = 0 := by simpa using hzg
          have bg : (g != 0) = false := by simpa using hzg
          rw [if_neg (by simp [hzi, hze, hzg])]
          rw [if_neg (by simp [show ∀ v a b, within false v a b = true from fun _ _ _ => rfl])]
          exact ne_none_ok w op i e g x y k _ _ _ HU hx hy bi be bg
/- CHECK -/
end
theorem fmC_len (l : List Nd) : (fmC l).length = l.length * 6 := by
  induction l with
  | nil => rfl
  | cons n l ih => simp only [fmC, List.flatMap_cons, List.length_append, List.length_cons] at ih ⊢; rw [ih]; simp [ndC]; omega
theorem fmC_at : ∀ (l : List Nd) (k : Nat) (n : Nd), l[k]? = some n → ∀ j, j < 6 → (fmC l)[k * 6 + j]? = (ndC n)[j]?
  | [], k, n, h, j, hj => by simp at h
  | m :: l, 0, n, h, j, hj => by
    simp at h
    subst h
    simp only [fmC, List.flatMap_cons]
    rw [Nat.zero_mul, Nat.zero_add, List.getElem?_append_left (by simp [ndC]; omega)]
  | m :: l, k + 1, n, h, j, hj => by
    simp only [fmC, List.flatMap_cons]
    rw [List.getElem?_append_right (by simp [ndC]; omega)]
    have := fmC_at l k n (by simpa using h) j hj
    rw [← this]
    congr 1
    simp [ndC]
    omega
/-- The cells of a node of a list that came in. -/
theorem Rd.nd {w : World} {A : Option Addr} {m c : Nat} {l : List Nd} (h : Rd w (.slice A m c) 6 l.length (fmC l)) {k : Nat} {n : Nd} (hk : l[k]? = some n) :
    ∃ bl off, A = some ⟨bl, off, none⟩ ∧ m = l.length ∧ l.length ≤ c ∧ w.cell? ⟨bl, off + k * 6, none⟩ = some (.int .i64 n.op) ∧ w.cell? ⟨bl, off + k * 6 + 1, none⟩ = some (.int .i64 n.i) ∧ w.cell? ⟨bl, off + k * 6 + 2, none⟩ = some (.int .i64 n.e) ∧
      w.cell? ⟨bl, off + k * 6 + 3, none⟩ = some (.int .i64 n.g) ∧ w.cell? ⟨bl, off + k * 6 + 4, none⟩ = some (.int .i64 n.x) ∧ w.cell? ⟨bl, off + k * 6 + 5, none⟩ = some (.int .i64 n.y) := by
  have hlt : k < l.length := (List.getElem?_eq_some_iff.1 hk).1
  obtain ⟨hm, hc', bl, off, rfl, hc⟩ := h.at_ (by omega)
  have g : ∀ j v, j < 6 → (ndC n)[j]? = some v → w.cell? ⟨bl, off + k * 6 + j, none⟩ = some v := fun j v hj hv => by
    have := hc (k * 6 + j) v (by rw [fmC_at l k n hk j hj]; exact hv)
    rwa [← Nat.add_assoc] at this
  exact ⟨bl, off, rfl, hm, hc', g 0 _ (by omega) rfl, g 1 _ (by omega) rfl, g 2 _ (by omega) rfl, g 3 _ (by omega) rfl, g 4 _ (by omega) rfl, g 5 _ (by omega) rfl⟩
section
set_option maxRecDepth 100000
set_option maxHeartbeats 2000000
theorem fmCheck_any (l : List Nd) (A : Option Addr) (c : Nat) (w : World) (hll : l.length ≤ 9223372036854775807) (hrd : Rd w (.slice A l.length c) 6 l.length (fmC l)) : Calls Tryz.prog 10 #[.slice A l.length c] w fun e w' => e = .returned (.int .i64 (checkE l)) ∧ Keep NoF w w' := by
  by_cases h0 : l.length = 0
  · have e0 : checkE l = 3 := by unfold checkE; rw [if_pos h0]
    have e1 : ((l.length : Int) == 0) = true := by rw [h0]; rfl
    rw [e0]
    generalize l.length = n at *
    go_enter Tryz.func10, Tryz.ntmps10
    go_wp2
    go_ret
    exact ⟨rfl, Keep.refl _ _⟩
  · by_cases h1 : 200 < l.length
    · have e0 : checkE l = 8 := by unfold checkE; rw [if_neg h0, if_pos h1]
      have e1 : ((l.length : Int) == 0) = false := beq_eq_false_iff_ne.2 (by omega)
      have e2 : (200 : Int) < (l.length : Int) := by omega
      rw [e0]
      generalize l.length = n at *
      go_enter Tryz.func10, Tryz.ntmps10
      go_wp2
      go_ret
      exact ⟨rfl, Keep.refl _ _⟩
    · have e0 : checkE l = nodesE l 0 := by unfold checkE; rw [if_neg h0, if_neg h1]
      have e1 : ((l.length : Int) == 0) = false := beq_eq_false_iff_ne.2 (by omega)
      have e2 : ¬ (200 : Int) < (l.length : Int) := by omega
      rw [e0]
      have HR : Hid (nodesE (l.drop 0) 0 = nodesE l 0) := Lib.hid rfl
      generalize nodesE l 0 = r at *
      clear e0
      go_enter Tryz.func10, Tryz.ntmps10
      go_wp2
      go_loopw [14] (fun i wr => ∃ j : Nat, i = .int .i64 j ∧ j ≤ l.length ∧ Hid (nodesE (l.drop j) j = r) ∧ Keep NoF w wr) (fun i _ => l.length - (intOf i).toNat)
      case atStart => exact ⟨0, rfl, by omega, HR, Keep.refl _ _⟩
      case round =>
        obtain ⟨j, rfl, hj, hr, hk⟩ := hrel
        by_cases hlt : j < l.length
        · have hn := List.getElem?_eq_getElem hlt
          have hd : l.drop j = l[j] :: l.drop (j + 1) := List.drop_eq_getElem_cons hlt
          have hr2 := hr.out
          rw [hd] at hr2
          unfold nodesE at hr2
          have HR2 := Lib.hid hr2
          clear hr2 hd hr
          obtain ⟨bl, off, rfl, _, hcap, c0, c1, c2, c3, c4, c5⟩ := (hrd.kept hk fun _ _ h => h).nd hn
          generalize l[j] = n at *
          have HNE := Lib.hid fun W => nodeError_any W n j
          generalize hne : nodeE n (j : Int) = en at *
          have hlt' : (j : Int) < (l.length : Int) := by omega
          obtain ⟨op, i, e, g, x, y⟩ := n
          simp only at c0 c1 c2 c3 c4 c5
          clear hne hn
          by_cases hz : en = 0
          · subst hz
            have HR3 : Hid (nodesE (l.drop (j + 1)) (j + 1) = r) := Lib.hid (by have := HR2.out; rwa [if_neg (by simp)] at this)
            clear HR2
            generalize l.length = L at *
            go_wp2_with (go_at_call 23; (with_reducible refine (HNE.out _).mono ?_); rintro e w2 ⟨rfl, K2⟩)
            go_roundw
            case rel => exact ⟨j + 1, by go_num, by omega, HR3, (hk.alloc _).trans K2 fun _ _ h => h⟩
            case measure => simp only [intOf]; omega
          · have HR3 : Hid (en = r) := Lib.hid (by have := HR2.out; rwa [if_pos hz] at this)
            have hz' : (en != 0) = true := by simpa using hz
            clear HR2
            generalize l.length = L at *
            go_wp2_with (go_at_call 23; (with_reducible refine (HNE.out _).mono ?_); rintro e w2 ⟨rfl, K2⟩)
            go_ret
            exact ⟨by rw [HR3.out]; rfl, (hk.alloc _).trans K2 fun _ _ h => h⟩
        · have hlt' : ¬ (j : Int) < (l.length : Int) := by omega
          have HR3 : Hid (r = 0) := Lib.hid (by have := hr.out; rw [List.drop_eq_nil_of_le (by omega)] at this; exact this.symm)
          clear hr HR
          generalize l.length = L at *
          go_wp2
          go_ret
          exact ⟨by rw [HR3.out]; rfl, hk⟩
end
end Go.Proofs.YtdhdcenjiopofaaGreatDoor
