/- Package formula: what nodeError and Check do. Package formula: the state of a walk that makes a canonical list: keys, maps, what is known. No condition. -/
import Derived.Test.YtmjdbbfoihadoaaFmD
import Derived.DeepKeys4
import Derived.Laws.EntriesVeiled
import Derived.Laws.Cover1
set_option linter.unusedVariables false
set_option linter.unusedSimpArgs false
namespace Go.Proofs.Ytmjdbbfoihadoaa
open Go.RowKit
open Fm (Nd isOp usesX usesY usesFact usesAgent usesGroup usesEvent zeroed within ranged operandB nodeE nodesE checkE)

section
variable (w : World)
set_option maxRecDepth 100000
set_option maxHeartbeats 2000000
theorem nodeError_any (n : Nd) (k : Int) : Calls Try.prog 39 #[ndV n, .int .i64 k] w fun e w' => e = .returned (.int .i64 (nodeE n k)) ∧ Keep NoF w w' := by
  obtain ⟨op, i, e, g, x, y⟩ := n
  have HU := Lib.hid fun w => uses_any w op
  unfold nodeE
  simp only
  by_cases h0 : isOp op = false
  · rw [if_pos h0]
    simp only [h0] at HU
    exact ne_op w op i e g x y k _ _ _ _ _ _ _ HU
  · rw [if_neg h0]
    have h0' : isOp op = true := by simpa using h0
    simp only [h0'] at HU
    cases hx : operandB (usesX op) x k with
    | false => exact ne_x w op i e g x y k _ _ _ _ _ _ _ HU hx
    | true =>
      cases hy : operandB (usesY op) y k with
      | false => exact ne_y w op i e g x y k _ _ _ _ _ _ _ HU hx hy
      | true =>
        rw [if_neg (by simp)]
        unfold zeroed ranged
        simp only
        rcases cls_of op with h | h | h | h | h | h
        · exact absurd h h0
        · obtain ⟨_, f1, f2, f3, f4⟩ := h
          simp only [useV, useC, f1, f2, f3, f4] at HU ⊢
          by_cases hze : e ≠ 0
          · have e1 : (e != 0) = true := by simpa using hze
            rw [if_pos (by simp [hze])]
            exact ne_fact_e w op i e g x y k _ _ _ HU hx hy e1
          replace hze : e = 0 := by simpa using hze
          have be : (e != 0) = false := by simpa using hze
          by_cases hzg : g ≠ 0
          · have e1 : (g != 0) = true := by simpa using hzg
            rw [if_pos (by simp [hzg])]
            exact ne_fact_g w op i e g x y k _ _ _ HU hx hy be e1
          replace hzg : g = 0 := by simpa using hzg
          have bg : (g != 0) = false := by simpa using hzg
          rw [if_neg (by simp [hze, hzg])]
          cases hw0 : within true i 0 7 with
          | false =>
            rw [if_pos (by simp [hw0, show ∀ v a b, within false v a b = true from fun _ _ _ => rfl])]
            exact ne_fact_r0 w op i e g x y k _ _ _ HU hx hy be bg hw0
          | true =>
            rw [if_neg (by simp [hw0, show ∀ v a b, within false v a b = true from fun _ _ _ => rfl])]
            exact ne_fact_ok w op i e g x y k _ _ _ HU hx hy be bg hw0
        · obtain ⟨_, f1, f2, f3, f4⟩ := h
          simp only [useV, useC, f1, f2, f3, f4] at HU ⊢
          by_cases hze : e ≠ 0
          · have e1 : (e != 0) = true := by simpa using hze
            rw [if_pos (by simp [hze])]
            exact ne_agent_e w op i e g x y k _ _ _ HU hx hy e1
          replace hze : e = 0 := by simpa using hze
          have be : (e != 0) = false := by simpa using hze
          by_cases hzg : g ≠ 0
          · have e1 : (g != 0) = true := by simpa using hzg
            rw [if_pos (by simp [hzg])]
            exact ne_agent_g w op i e g x y k _ _ _ HU hx hy be e1
          replace hzg : g = 0 := by simpa using hzg
          have bg : (g != 0) = false := by simpa using hzg
          rw [if_neg (by simp [hze, hzg])]
          cases hw0 : within true i 0 3 with
          | false =>
            rw [if_pos (by simp [hw0, show ∀ v a b, within false v a b = true from fun _ _ _ => rfl])]
            exact ne_agent_r0 w op i e g x y k _ _ _ HU hx hy be bg hw0
          | true =>
            rw [if_neg (by simp [hw0, show ∀ v a b, within false v a b = true from fun _ _ _ => rfl])]
            exact ne_agent_ok w op i e g x y k _ _ _ HU hx hy be bg hw0
        · obtain ⟨_, f1, f2, f3, f4⟩ := h
          simp only [useV, useC, f1, f2, f3, f4] at HU ⊢
          by_cases hzi : i ≠ 0
          · have e1 : (i != 0) = true := by simpa using hzi
            rw [if_pos (by simp [hzi])]
            exact ne_group_i w op i e g x y k _ _ _ HU hx hy e1
          replace hzi : i = 0 := by simpa using hzi
          have bi : (i != 0) = false := by simpa using hzi
          by_cases hze : e ≠ 0
          · have e1 : (e != 0) = true := by simpa using hze
            rw [if_pos (by simp [hze])]
            exact ne_group_e w op i e g x y k _ _ _ HU hx hy bi e1
          replace hze : e = 0 := by simpa using hze
          have be : (e != 0) = false := by simpa using hze
          rw [if_neg (by simp [hzi, hze])]
          cases hw0 : within true g 1 15 with
          | false =>
            rw [if_pos (by simp [hw0, show ∀ v a b, within false v a b = true from fun _ _ _ => rfl])]
            exact ne_group_r0 w op i e g x y k _ _ _ HU hx hy bi be hw0
          | true =>
            rw [if_neg (by simp [hw0, show ∀ v a b, within false v a b = true from fun _ _ _ => rfl])]
            exact ne_group_ok w op i e g x y k _ _ _ HU hx hy bi be hw0
        · obtain ⟨_, f1, f2, f3, f4⟩ := h
          simp only [useV, useC, f1, f2, f3, f4] at HU ⊢
          by_cases hzg : g ≠ 0
          · have e1 : (g != 0) = true := by simpa using hzg
            rw [if_pos (by simp [hzg])]
            exact ne_event_g w op i e g x y k _ _ _ HU hx hy e1
          replace hzg : g = 0 := by simpa using hzg
          have bg : (g != 0) = false := by simpa using hzg
          rw [if_neg (by simp [hzg])]
          cases hw0 : within true i 0 7 with
          | false =>
            rw [if_pos (by simp [hw0, show ∀ v a b, within false v a b = true from fun _ _ _ => rfl])]
            exact ne_event_r0 w op i e g x y k _ _ _ HU hx hy bg hw0
          | true =>
            cases hw1 : within true e 0 7 with
            | false =>
              rw [if_pos (by simp [hw0, hw1, show ∀ v a b, within false v a b = true from fun _ _ _ => rfl])]
              exact ne_event_r1 w op i e g x y k _ _ _ HU hx hy bg hw0 hw1
            | true =>
              rw [if_neg (by simp [hw0, hw1, show ∀ v a b, within false v a b = true from fun _ _ _ => rfl])]
              exact ne_event_ok w op i e g x y k _ _ _ HU hx hy bg hw0 hw1
        · obtain ⟨_, f1, f2, f3, f4⟩ := h
          simp only [useV, useC, f1, f2, f3, f4] at HU ⊢
          by_cases hzi : i ≠ 0
          · have e1 : (i != 0) = true := by simpa using hzi
            rw [if_pos (by simp [hzi])]
            exact ne_none_i w op i e g x y k _ _ _ HU hx hy e1
          replace hzi : i = 0 := by simpa using hzi
          have bi : (i != 0) = false := by simpa using hzi
          by_cases hze : e ≠ 0
          · have e1 : (e != 0) = true := by simpa using hze
            rw [if_pos (by simp [hze])]
            exact ne_none_e w op i e g x y k _ _ _ HU hx hy bi e1
          replace hze : e = 0 := by simpa using hze
          have be : (e != 0) = false := by simpa using hze
          by_cases hzg : g ≠ 0
          · have e1 : (g != 0) = true := by simpa using hzg
            rw [if_pos (by simp [hzg])]
            exact ne_none_g w op i e g x y k _ _ _ HU hx hy bi be e1
          replace hzg : g = 0 := by simpa using hzg
          have bg : (g != 0) = false := by simpa using hzg
          rw [if_neg (by simp [hzi, hze, hzg])]
          rw [if_neg (by simp [show ∀ v a b, within false v a b = true from fun _ _ _ => rfl])]
          exact ne_none_ok w op i e g x y k _ _ _ HU hx hy bi be bg
/- CHECK -/
end
theorem fmC_len (l : List Nd) : (fmC l).length = l.length * 6 := by
  induction l with
  | nil => rfl
  | cons n l ih => simp only [fmC, List.flatMap_cons, List.length_append, List.length_cons] at ih ⊢; rw [ih]; simp [ndC]; omega
theorem fmC_at : ∀ (l : List Nd) (k : Nat) (n : Nd), l[k]? = some n → ∀ j, j < 6 → (fmC l)[k * 6 + j]? = (ndC n)[j]?
  | [], k, n, h, j, hj => by simp at h
  | m :: l, 0, n, h, j, hj => by
    simp at h
    subst h
    simp only [fmC, List.flatMap_cons]
    rw [Nat.zero_mul, Nat.zero_add, List.getElem?_append_left (by simp [ndC]; omega)]
  | m :: l, k + 1, n, h, j, hj => by
    simp only [fmC, List.flatMap_cons]
    rw [List.getElem?_append_right (by simp [ndC]; omega)]
    have := fmC_at l k n (by simpa using h) j hj
    rw [← this]
    congr 1
    simp [ndC]
    omega
/-- The cells of a node of a list that came in. -/
theorem Rd.nd {w : World} {A : Option Addr} {m c : Nat} {l : List Nd} (h : Rd w (.slice A m c) 6 l.length (fmC l)) {k : Nat} {n : Nd} (hk : l[k]? = some n) :
    ∃ bl off, A = some ⟨bl, off, none⟩ ∧ m = l.length ∧ l.length ≤ c ∧ w.cell? ⟨bl, off + k * 6, none⟩ = some (.int .i64 n.op) ∧ w.cell? ⟨bl, off + k * 6 + 1, none⟩ = some (.int .i64 n.i) ∧ w.cell? ⟨bl, off + k * 6 + 2, none⟩ = some (.int .i64 n.e) ∧
      w.cell? ⟨bl, off + k * 6 + 3, none⟩ = some (.int .i64 n.g) ∧ w.cell? ⟨bl, off + k * 6 + 4, none⟩ = some (.int .i64 n.x) ∧ w.cell? ⟨bl, off + k * 6 + 5, none⟩ = some (.int .i64 n.y) := by
  have hlt : k < l.length := (List.getElem?_eq_some_iff.1 hk).1
  obtain ⟨hm, hc', bl, off, rfl, hc⟩ := h.at_ (by omega)
  have g : ∀ j v, j < 6 → (ndC n)[j]? = some v → w.cell? ⟨bl, off + k * 6 + j, none⟩ = some v := fun j v hj hv => by
    have := hc (k * 6 + j) v (by rw [fmC_at l k n hk j hj]; exact hv)
    rwa [← Nat.add_assoc] at this
  exact ⟨bl, off, rfl, hm, hc', g 0 _ (by omega) rfl, g 1 _ (by omega) rfl, g 2 _ (by omega) rfl, g 3 _ (by omega) rfl, g 4 _ (by omega) rfl, g 5 _ (by omega) rfl⟩
section
set_option maxRecDepth 100000
set_option maxHeartbeats 2000000
theorem fmCheck_any (l : List Nd) (A : Option Addr) (c : Nat) (w : World) (hll : l.length ≤ 9223372036854775807) (hrd : Rd w (.slice A l.length c) 6 l.length (fmC l)) : Calls Try.prog 21 #[.slice A l.length c] w fun e w' => e = .returned (.int .i64 (checkE l)) ∧ Keep NoF w w' := by
  by_cases h0 : l.length = 0
  · have e0 : checkE l = 3 := by unfold checkE; rw [if_pos h0]
    have e1 : ((l.length : Int) == 0) = true := by rw [h0]; rfl
    rw [e0]
    generalize l.length = n at *
    go_enter Try.func21, Try.ntmps21
    go_wp2
    go_ret
    exact ⟨rfl, Keep.refl _ _⟩
  · by_cases h1 : 200 < l.length
    · have e0 : checkE l = 8 := by unfold checkE; rw [if_neg h0, if_pos h1]
      have e1 : ((l.length : Int) == 0) = false := beq_eq_false_iff_ne.2 (by omega)
      have e2 : (200 : Int) < (l.length : Int) := by omega
      rw [e0]
      generalize l.length = n at *
      go_enter Try.func21, Try.ntmps21
      go_wp2
      go_ret
      exact ⟨rfl, Keep.refl _ _⟩
    · have e0 : checkE l = nodesE l 0 := by unfold checkE; rw [if_neg h0, if_neg h1]
      have e1 : ((l.length : Int) == 0) = false := beq_eq_false_iff_ne.2 (by omega)
      have e2 : ¬ (200 : Int) < (l.length : Int) := by omega
      rw [e0]
      have HR : Hid (nodesE (l.drop 0) 0 = nodesE l 0) := Lib.hid rfl
      generalize nodesE l 0 = r at *
      clear e0
      go_enter Try.func21, Try.ntmps21
      go_wp2
      go_loopw [14] (fun i wr => ∃ j : Nat, i = .int .i64 j ∧ j ≤ l.length ∧ Hid (nodesE (l.drop j) j = r) ∧ Keep NoF w wr) (fun i _ => l.length - (intOf i).toNat)
      case atStart => exact ⟨0, rfl, by omega, HR, Keep.refl _ _⟩
      case round =>
        obtain ⟨j, rfl, hj, hr, hk⟩ := hrel
        by_cases hlt : j < l.length
        · have hn := List.getElem?_eq_getElem hlt
          have hd : l.drop j = l[j] :: l.drop (j + 1) := List.drop_eq_getElem_cons hlt
          have hr2 := hr.out
          rw [hd] at hr2
          unfold nodesE at hr2
          have HR2 := Lib.hid hr2
          clear hr2 hd hr
          obtain ⟨bl, off, rfl, _, hcap, c0, c1, c2, c3, c4, c5⟩ := (hrd.kept hk fun _ _ h => h).nd hn
          generalize l[j] = n at *
          have HNE := Lib.hid fun W => nodeError_any W n j
          generalize hne : nodeE n (j : Int) = en at *
          have hlt' : (j : Int) < (l.length : Int) := by omega
          obtain ⟨op, i, e, g, x, y⟩ := n
          simp only at c0 c1 c2 c3 c4 c5
          clear hne hn
          by_cases hz : en = 0
          · subst hz
            have HR3 : Hid (nodesE (l.drop (j + 1)) (j + 1) = r) := Lib.hid (by have := HR2.out; rwa [if_neg (by simp)] at this)
            clear HR2
            generalize l.length = L at *
            go_wp2_with (go_at_call 39; (with_reducible refine (HNE.out _).mono ?_); rintro e w2 ⟨rfl, K2⟩)
            go_roundw
            case rel => exact ⟨j + 1, by go_num, by omega, HR3, (hk.alloc _).trans K2 fun _ _ h => h⟩
            case measure => simp only [intOf]; omega
          · have HR3 : Hid (en = r) := Lib.hid (by have := HR2.out; rwa [if_pos hz] at this)
            have hz' : (en != 0) = true := by simpa using hz
            clear HR2
            generalize l.length = L at *
            go_wp2_with (go_at_call 39; (with_reducible refine (HNE.out _).mono ?_); rintro e w2 ⟨rfl, K2⟩)
            go_ret
            exact ⟨by rw [HR3.out]; rfl, (hk.alloc _).trans K2 fun _ _ h => h⟩
        · have hlt' : ¬ (j : Int) < (l.length : Int) := by omega
          have HR3 : Hid (r = 0) := Lib.hid (by have := hr.out; rw [List.drop_eq_nil_of_le (by omega)] at this; exact this.symm)
          clear hr HR
          generalize l.length = L at *
          go_wp2
          go_ret
          exact ⟨by rw [HR3.out]; rfl, hk⟩
end
end Go.Proofs.Ytmjdbbfoihadoaa
namespace Fm
open Form
def okI (v : Int) : Prop := -9223372036854775808 ≤ v ∧ v ≤ 9223372036854775807
def okN (n : Nd) : Prop := okI n.op ∧ okI n.i ∧ okI n.e ∧ okI n.g ∧ okI n.x ∧ okI n.y
theorem own_small {op i e g : Int} (h : own op i e g = true) : 1 ≤ op ∧ op ≤ 21 ∧ 0 ≤ i ∧ i ≤ 7 ∧ 0 ≤ e ∧ e ≤ 7 ∧ 0 ≤ g ∧ g ≤ 15 := by
  unfold own zeroed ranged within isOp at h
  simp only at h
  cases h1 : usesFact op <;> cases h2 : usesAgent op <;> cases h3 : usesEvent op <;> cases h4 : usesGroup op <;> simp [h1, h2, h3, h4] at h <;> omega
theorem ok_own {op i e g : Int} (h : own op i e g = true) {a b : Int} (ha : okI a) (hb : okI b) : okN ⟨op, i, e, g, a, b⟩ := by
  have := own_small h
  unfold okN okI at *
  simp only
  omega
/-- The place of a node in a list. -/
def numb (o : List Nd) (n : Nd) : Option Nat := if n ∈ o then some (o.idxOf n) else none
theorem numb_snoc {o : List Nd} {n : Nd} (h : n ∉ o) : ∀ y, numb (o ++ [n]) y = if y = n then some o.length else numb o y := fun y => by
  unfold numb
  by_cases hy : y = n
  · subst hy
    rw [if_pos rfl, if_pos (by simp), List.idxOf_append, if_neg h]
    simp
  · rw [if_neg hy]
    by_cases hm : y ∈ o
    · rw [if_pos hm, if_pos (by simp [hm]), List.idxOf_append, if_pos hm]
    · rw [if_neg hm, if_neg (by simp [hm, hy])]
/-- What is known of the list, and of the places that are done. -/
structure Inv (f out : List Nd) (g : Nat → Option Nat) (ds : List Nat) : Prop where
  nodup : out.Nodup
  sound : ∀ i k, g i = some k → Rep (tree f i) out k
  dom : ∀ i, (∃ k, g i = some k) ↔ i ∈ ds
  dsn : ds.Nodup
  dsl : ∀ i ∈ ds, i < f.length
  len : out.length ≤ ds.length
  ok : ∀ n ∈ out, okN n
theorem Inv.congr {f out : List Nd} {g g' : Nat → Option Nat} {ds : List Nat} (h : Inv f out g ds) (hg : ∀ y, g y = g' y) : Inv f out g' ds := by
  have : g = g' := funext hg
  exact this ▸ h
theorem Inv.start (f : List Nd) : Inv f [] (fun _ => none) [] := ⟨List.nodup_nil, fun _ _ h => (by cases h), fun i => (by simp), List.nodup_nil, by simp, by simp, by simp⟩
theorem Inv.small {f out : List Nd} {g : Nat → Option Nat} {ds : List Nat} (h : Inv f out g ds) : out.length ≤ f.length := by
  have := len_sub ds (List.range f.length) h.dsn fun x hx => List.mem_range.2 (h.dsl x hx)
  have h2 := h.len
  simp at this
  omega
theorem Inv.put {f out : List Nd} {g : Nat → Option Nat} {ds : List Nat} (h : Inv f out g ds) {i : Nat} (hi : i < f.length) (hn : i ∉ ds) {n : Nd} (hok : okN n) (hr : Rep (tree f i) (put n out).2 (put n out).1) :
    Inv f (put n out).2 (fun y => @ite _ (y = i) (Classical.propDecidable _) (some (put n out).1) (g y)) (i :: ds) := by
  refine ⟨put_nodup h.nodup, fun j k hj => ?_, fun j => ?_, List.nodup_cons.2 ⟨hn, h.dsn⟩, fun j hj => ?_, ?_, fun m hm => ?_⟩
  · by_cases e : j = i
    · subst e
      simp only [if_true, Option.some.injEq] at hj
      subst hj
      exact hr
    · simp only [if_neg e] at hj
      exact (h.sound j k hj).mono (put_prefix _ _)
  · by_cases e : j = i
    · subst e; simp
    · simp only [if_neg e, List.mem_cons, e, false_or]
      exact h.dom j
  · rcases List.mem_cons.1 hj with rfl | hj
    · exact hi
    · exact h.dsl j hj
  · have := put_len n out
    have := h.len
    simp only [List.length_cons]
    omega
  · unfold Fm.put at hm
    split at hm
    · exact h.ok m hm
    · rcases List.mem_append.1 hm with hm | hm
      · exact h.ok m hm
      · rw [List.mem_singleton.1 hm]; exact hok
end Fm
namespace Go.Proofs.Ytmjdbbfoihadoaa
open Go.RowKit
open Fm (Nd okI okN numb Inv tree ins put Rep usesX usesY checkE)

def tiny (x : Nat) : Prop := x < 4611686018427387904
def inV (n : Nat) : Value := .int .i64 n
theorem laid : laidOutB Try.prog = true := by kernel_rfl
theorem keyNode : Maps.Keyed Try.prog 53 := Maps.Keyed.of_law (deep_law_laid laid (m := 5) (by omega) (of_decide_eq_true (by kernel_rfl)) (by kernel_rfl) (by kernel_rfl))
theorem typesSize : Try.prog.types.size + 1 = (Try.prog.types.size - 1) + 2 := by kernel_rfl
theorem kt1 : Try.prog.keyType 53 = true := by kernel_rfl
theorem cellsNode : Try.prog.cellsOf 53 = 6 := by kernel_rfl
theorem cellsInt : Try.prog.cellsOf 3 = 1 := by kernel_rfl
theorem wf_ok {x : Int} (h : okI x) : (Lit.int .i64 x).wf = true := by
  unfold okI at h
  have h1 : IntKind.i64.min = -9223372036854775808 := by decide
  have h2 : IntKind.i64.max = 9223372036854775807 := by decide
  simp only [Lit.wf, h1, h2, Bool.and_eq_true, decide_eq_true_eq]; omega
theorem wf_tiny {x : Nat} (h : tiny x) : (Lit.int .i64 (x : Int)).wf = true := wf_ok (by unfold tiny at h; unfold okI; omega)
theorem lits_int (d : Nat) {x : Int} (h : okI x) : Try.prog.keyLits (d + 1) 3 [.int .i64 x] = some [.int .i64 x] := by
  simp [Program.keyLits, Try.underlying3, wf_ok h]
theorem lits_node (d : Nat) (n : Nd) (h : okN n) : ∃ l, Try.prog.keyLits (d + 2) 53 (ndC n) = some l := by
  have h1 := lits_int d h.1
  have h2 := lits_int d h.2.1
  have h3 := lits_int d h.2.2.1
  have h4 := lits_int d h.2.2.2.1
  have h5 := lits_int d h.2.2.2.2.1
  have h6 := lits_int d h.2.2.2.2.2
  unfold Program.keyLits
  rw [Try.underlying53]
  simp only [ndC, cellsNode]
  simp [cellsInt, h1, h2, h3, h4, h5, h6]
theorem key_node (n : Nd) (h : okN n) : ∃ l, keyOf Try.prog 53 (ndV n) = some l := by
  obtain ⟨l, hl⟩ := lits_node (Try.prog.types.size - 1) n h
  refine ⟨.string (keyBytes l), ?_⟩
  have hf : (ndV n).formed Try.prog 53 = true := by simp [ndV, Value.formed, Try.underlying53, cellsNode]
  have hc : (ndV n).cells.toList = ndC n := rfl
  unfold keyOf
  rw [Try.underlying53]
  simp only [kt1, hf, typesSize, hc]
  rw [hl]
  rfl
theorem ndV_inj (x y : Nd) (h : ndV x = ndV y) : x = y := by
  obtain ⟨a, b, c, d, e, f⟩ := x
  obtain ⟨a', b', c', d', e', f'⟩ := y
  simp only [ndV, Value.agg.injEq, Array.mk.injEq, List.cons.injEq, Value.int.injEq, true_and, and_true] at h
  obtain ⟨rfl, rfl, rfl, rfl, rfl, rfl⟩ := h
  rfl
theorem encNode : KeyEnc Try.prog 53 ndV okN := ⟨keyNode, ndV_inj, key_node⟩
theorem keyInt : Maps.Keyed Try.prog 3 := Maps.int_keyed Try.underlying3
theorem key_int (n : Nat) (h : tiny n) : ∃ l, keyOf Try.prog 3 (inV n) = some l := by
  refine ⟨.int .i64 n, ?_⟩
  unfold keyOf
  rw [Try.underlying3]
  simp [mapKey, Try.underlying3, inV, wf_tiny h]
theorem inV_inj (x y : Nat) (h : inV x = inV y) : x = y := by
  simp only [inV, Value.int.injEq, Int.natCast_inj, true_and] at h
  exact h
theorem encInt : KeyEnc Try.prog 3 inV tiny := ⟨keyInt, inV_inj, key_int⟩
abbrev MapInt (w : World) (b : Nat) (g : Nat → Option Nat) : Prop := MapT Try.prog 3 inV inV tiny w b g
abbrev MapNum (w : World) (b : Nat) (g : Nd → Option Nat) : Prop := MapT Try.prog 53 ndV inV okN w b g
theorem infoNode : (Try.prog.info? 53).map (fun i => (i.zero, i.size, i.bytes)) = some (some (.agg #[.int .i64 0, .int .i64 0, .int .i64 0, .int .i64 0, .int .i64 0, .int .i64 0]), 6, 48) := by kernel_rfl
theorem eNodes : ElemT Try.prog 26 53 (.agg #[.int .i64 0, .int .i64 0, .int .i64 0, .int .i64 0, .int .i64 0, .int .i64 0]) 6 48 := ⟨Try.underlying26, info_parts infoNode, rfl, by omega⟩

/-- The variables of the walk: the function's own captured cells. -/
def finV (db fb vb nb ob : Nat) : Value := .func (.func 44) #[] #[.pointer (some ⟨db, 0, none⟩), .pointer (some ⟨fb, 0, none⟩), .pointer (some ⟨vb, 0, none⟩), .pointer (some ⟨nb, 0, none⟩), .pointer (some ⟨ob, 0, none⟩)]
structure FV (w : World) (db fb vb nb ob m1 m2 : Nat) (A : Option Addr) (n c : Nat) : Prop where
  fv : Bk w fb 26 #[.slice A n c]
  nv : Bk w nb 93 #[.map (some m1)]
  dv : Bk w db 94 #[.map (some m2)]
  vv : Bk w vb 95 #[finV db fb vb nb ob]
/-- The state of the walk: K are its own blocks. -/
def FS (w : World) (ob m1 m2 : Nat) (out : List Nd) (g : Nat → Option Nat) (K : Nat → Prop) : Prop :=
  ∃ ov, Bk w ob 26 #[ov] ∧ w.ownsRow 0 53 6 ov out.length (fmC out) ∧ MapNum w m1 (numb out) ∧ MapInt w m2 g ∧ m1 ≠ m2 ∧ ∀ k, K k ↔ (k = ob ∨ k = m1 ∨ k = m2 ∨ ov.ownBlock = some k)
theorem FV.keep {w w' : World} {db fb vb nb ob m1 m2 : Nat} {A : Option Addr} {n c : Nat} {K : Nat → Prop} (h : FV w db fb vb nb ob m1 m2 A n c) (hk : Keep K w w') (h1 : ¬ K db) (h2 : ¬ K fb) (h3 : ¬ K vb) (h4 : ¬ K nb) : FV w' db fb vb nb ob m1 m2 A n c :=
  ⟨h.fv.keep hk h2, h.nv.keep hk h4, h.dv.keep hk h1, h.vv.keep hk h3⟩
theorem FS.lt {w : World} {ob m1 m2 : Nat} {out : List Nd} {g : Nat → Option Nat} {K : Nat → Prop} (h : FS w ob m1 m2 out g K) : ∀ k, K k → k < w.heap.size := by
  obtain ⟨ov, hd, ho, hm1, hm2, _, hK⟩ := h
  intro k hk
  rcases (hK k).1 hk with rfl | rfl | rfl | h
  · exact hd.lt
  · exact hm1.lt
  · exact hm2.lt
  · exact (ho.lt k h).2
theorem FS.block {w w' : World} {ob m1 m2 : Nat} {out : List Nd} {g : Nat → Option Nat} {K : Nat → Prop} (h : FS w ob m1 m2 out g K) (hb : ∀ k, K k → w'.heap[k]? = w.heap[k]?) : FS w' ob m1 m2 out g K := by
  obtain ⟨ov, hd, ho, hm1, hm2, hne, hK⟩ := h
  exact ⟨ov, hd.block (hb _ ((hK _).2 (.inl rfl))), own_keep ho fun k h => hb k ((hK _).2 (.inr (.inr (.inr h)))), hm1.block (hb _ ((hK _).2 (.inr (.inl rfl)))), hm2.block (hb _ ((hK _).2 (.inr (.inr (.inl rfl))))), hne, hK⟩
theorem FS.keep0 {w w' : World} {ob m1 m2 : Nat} {out : List Nd} {g : Nat → Option Nat} {K : Nat → Prop} (h : FS w ob m1 m2 out g K) (hk : Keep NoF w w') : FS w' ob m1 m2 out g K := h.block fun k hK => hk.block k (h.lt k hK) fun h => h
end Go.Proofs.Ytmjdbbfoihadoaa
