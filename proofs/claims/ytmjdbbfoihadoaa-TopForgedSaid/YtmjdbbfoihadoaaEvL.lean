/- The checker: what Sets does. No condition. -/
import Derived.Test.YtmjdbbfoihadoaaEvK
import Derived.Deep.OwnRows
import Derived.BigRegion
set_option linter.unusedVariables false
set_option linter.unusedSimpArgs false
namespace Go.Proofs.Ytmjdbbfoihadoaa
open Go.RowKit
open Ev
open Fm (Nd checkE compactL)
attribute [local go_sem] Oper.semAt_some
theorem valF_lt {M : Md} (hok : Okm M) (n : Nd) (hg : n.op = 11 ∨ n.op = 12 ∨ n.op = 13 → 1 ≤ n.g) {x y v : Nat} (hx : x < 18446744073709551616) (hy : y < 18446744073709551616) (h : valF M n x y = some v) : v < 18446744073709551616 := by
  have hn := hok.n1
  have ha : 2 ^ M.n - 1 < 2 ^ 64 := Ev.lt64 hn.2.1 (allN_lt M.n)
  have hrow : ∀ k : Nat, (M.R.getD k []).length ≤ 64 := fun k => by
    rw [List.getD_eq_getElem?_getD]
    cases hk : M.R[k]? with
    | none => exact Nat.zero_le _
    | some r => have := hok.len r (List.mem_of_getElem? hk); show r.length ≤ 64; omega
  have hb : ∀ (R : List Nat) (s : Nat), R.length ≤ 64 → bxN R s < 18446744073709551616 := fun R s hR => Ev.lt64 hR (encN_lt _ _)
  have hd : ∀ (R : List Nat) (s : Nat), R.length ≤ 64 → dmN R s < 18446744073709551616 := fun R s hR => Ev.lt64 hR (adN_lt (allN_lt _))
  unfold valF at h
  by_cases c : n.op = 1
  · rw [if_pos c] at h
    cases h; exact ha
  rw [if_neg c] at h
  clear c
  by_cases c : n.op = 2
  · rw [if_pos c] at h
    cases h; decide
  rw [if_neg c] at h
  clear c
  by_cases c : n.op = 3
  · rw [if_pos c] at h
    by_cases d : (M.V.length : Int) ≤ n.i
    · rw [if_pos d] at h; cases h
    · rw [if_neg d] at h
      cases h
      rw [List.getD_eq_getElem?_getD]
      cases hk : M.V[n.i.toNat]? with
      | none => decide
      | some u => exact Ev.lt64 hn.2.1 (hok.val u (List.mem_of_getElem? hk))
  rw [if_neg c] at h
  clear c
  by_cases c : n.op = 4
  · rw [if_pos c] at h
    cases h; exact adN_lt ha
  rw [if_neg c] at h
  clear c
  by_cases c : n.op = 5
  · rw [if_pos c] at h
    cases h; exact Nat.lt_of_le_of_lt Nat.and_le_left hx
  rw [if_neg c] at h
  clear c
  by_cases c : n.op = 6
  · rw [if_pos c] at h
    cases h; exact Nat.or_lt_two_pow (n := 64) hx hy
  rw [if_neg c] at h
  clear c
  by_cases c : n.op = 7
  · rw [if_pos c] at h
    cases h; exact Nat.or_lt_two_pow (n := 64) (adN_lt ha) hy
  rw [if_neg c] at h
  clear c
  by_cases c : n.op = 8
  · rw [if_pos c] at h
    cases h; exact adN_lt ha
  rw [if_neg c] at h
  clear c
  by_cases c : n.op = 9 ∨ n.op = 10
  · rw [if_pos c] at h
    by_cases d : (M.R.length : Int) ≤ n.i
    · rw [if_pos d] at h; cases h
    · rw [if_neg d] at h
      cases h
      split
      · exact hb _ _ (hrow _)
      · exact hd _ _ (hrow _)
  rw [if_neg c] at h
  clear c
  by_cases c : n.op = 11 ∨ n.op = 12 ∨ n.op = 13
  · rw [if_pos c] at h
    by_cases d : ((2 ^ M.R.length : Nat) : Int) ≤ n.g
    · rw [if_pos d] at h; cases h
    · rw [if_neg d] at h
      have h1 := hg c
      have hgl : n.g.toNat < 2 ^ M.R.length := by omega
      cases h
      split
      · exact hb _ _ (by rw [(okr_and hok (g := n.g.toNat) (by omega) hgl).len]; exact hn.2.1)
      · split
        · exact hb _ _ (by rw [(okr_or hok (g := n.g.toNat) (by omega) hgl).len]; exact hn.2.1)
        · exact Ev.lt64 hn.2.1 (cmN_lt _ _ _ _)
  · rw [if_neg c] at h; cases h
theorem stepS_eq (M : Md) (l : List (Nat × Bool)) (m : Nd) : stepS M l m = if ((if 4 ≤ m.op then (l.getD m.x.toNat (0, false)).2 else true) && (if (5 ≤ m.op ∧ m.op ≤ 8) ∨ m.op = 13 then (l.getD m.y.toNat (0, false)).2 else true)) = true then valP M m (l.getD m.x.toNat (0, false)).1 (l.getD m.y.toNat (0, false)).1 else (0, false) := rfl
theorem valP_lt {M : Md} (hok : Okm M) (n : Nd) (hg : n.op = 11 ∨ n.op = 12 ∨ n.op = 13 → 1 ≤ n.g) {x y : Nat} (hx : x < 18446744073709551616) (hy : y < 18446744073709551616) : (valP M n x y).1 < 18446744073709551616 := by
  cases hv : valF M n x y with
  | none => rw [valP_none hv]; decide
  | some v => rw [valP_some hv]; exact valF_lt hok n hg hx hy hv
theorem setsN_lt {M : Md} (hok : Okm M) {f : List Nd} (hf : ∀ (k : Nat) (n : Nd), f[k]? = some n → Fm.own n.op n.i n.e n.g = true) : ∀ k, k ≤ f.length → ∀ j, ((setsN M f k).getD j (0, false)).1 < 18446744073709551616
  | 0, _, j => by simp [setsN]
  | k + 1, hk, j => by
    have ih := setsN_lt hok hf k (by omega)
    unfold setsN
    rw [List.getD_eq_getElem?_getD]
    by_cases h1 : j < k
    · rw [List.getElem?_append_left (by rw [setsN_len]; exact h1), ← List.getD_eq_getElem?_getD]
      exact ih j
    · by_cases h2 : j = k
      · subst h2
        rw [List.getElem?_append_right (by rw [setsN_len]; omega), setsN_len, Nat.sub_self]
        show (stepS M (setsN M f j) (f.getD j default)).1 < _
        have hn := List.getElem?_eq_getElem (show j < f.length by omega)
        have e : f.getD j default = f[j] := by rw [List.getD_eq_getElem?_getD, hn]; rfl
        rw [e]
        rw [stepS_eq]
        generalize ((if 4 ≤ f[j].op then ((setsN M f j).getD f[j].x.toNat (0, false)).2 else true) && (if (5 ≤ f[j].op ∧ f[j].op ≤ 8) ∨ f[j].op = 13 then ((setsN M f j).getD f[j].y.toNat (0, false)).2 else true)) = ok
        cases ok
        · exact (by decide : (0 : Nat) < 18446744073709551616)
        · exact valP_lt hok _ (fun h => (own_nat (hf j _ hn)).2.2.2 h) (ih _) (ih _)
      · rw [List.getElem?_eq_none (by rw [List.length_append, setsN_len]; simp; omega)]
        decide
def pad1 (l : List (Nat × Bool)) (n : Nat) : List Nat := l.map (·.1) ++ List.replicate (n - l.length) 0
def pad2 (l : List (Nat × Bool)) (n : Nat) : List Bool := l.map (·.2) ++ List.replicate (n - l.length) false
theorem pad1_at {l : List (Nat × Bool)} {n j : Nat} (hj : j < n) : (pad1 l n)[j]? = some (l.getD j (0, false)).1 := by
  unfold pad1
  by_cases h : j < l.length
  · rw [List.getElem?_append_left (by rw [List.length_map]; exact h), List.getElem?_map, List.getD_eq_getElem?_getD, List.getElem?_eq_getElem h]; rfl
  · rw [List.getElem?_append_right (by rw [List.length_map]; omega), List.getElem?_replicate, if_pos (by rw [List.length_map]; omega), List.getD_eq_getElem?_getD, List.getElem?_eq_none (by omega)]; rfl
theorem pad2_at {l : List (Nat × Bool)} {n j : Nat} (hj : j < n) : (pad2 l n)[j]? = some (l.getD j (0, false)).2 := by
  unfold pad2
  by_cases h : j < l.length
  · rw [List.getElem?_append_left (by rw [List.length_map]; exact h), List.getElem?_map, List.getD_eq_getElem?_getD, List.getElem?_eq_getElem h]; rfl
  · rw [List.getElem?_append_right (by rw [List.length_map]; omega), List.getElem?_replicate, if_pos (by rw [List.length_map]; omega), List.getD_eq_getElem?_getD, List.getElem?_eq_none (by omega)]; rfl
theorem pad1_set {l : List (Nat × Bool)} {n : Nat} (h : l.length < n) (v : Nat) (b : Bool) : (pad1 l n).set l.length v = pad1 (l ++ [(v, b)]) n := by
  unfold pad1
  rw [List.set_append_right _ _ (by rw [List.length_map]; omega), List.length_map, Nat.sub_self, List.map_append, List.length_append, List.append_assoc]
  obtain ⟨d, hd⟩ : ∃ d, n - l.length = d + 1 := ⟨n - l.length - 1, by omega⟩
  rw [hd, List.replicate_succ, List.set_cons_zero, show n - (l.length + [(v, b)].length) = d by simp; omega]
  rfl
theorem pad2_set {l : List (Nat × Bool)} {n : Nat} (h : l.length < n) (v : Nat) (b : Bool) : (pad2 l n).set l.length b = pad2 (l ++ [(v, b)]) n := by
  unfold pad2
  rw [List.set_append_right _ _ (by rw [List.length_map]; omega), List.length_map, Nat.sub_self, List.map_append, List.length_append, List.append_assoc]
  obtain ⟨d, hd⟩ : ∃ d, n - l.length = d + 1 := ⟨n - l.length - 1, by omega⟩
  rw [hd, List.replicate_succ, List.set_cons_zero, show n - (l.length + [(v, b)].length) = d by simp; omega]
  rfl
/-- A step where nothing is right leaves what there was. -/
theorem pad1_skip {l : List (Nat × Bool)} {n : Nat} (h : l.length < n) : pad1 l n = pad1 (l ++ [(0, false)]) n := by
  rw [← pad1_set h 0 false]
  refine (List.ext_getElem? fun i => ?_)
  rw [List.getElem?_set]
  split
  · rename_i he
    subst he
    rw [pad1_at h, if_pos (by unfold pad1; rw [List.length_append, List.length_map, List.length_replicate]; omega), List.getD_eq_getElem?_getD, List.getElem?_eq_none (by omega)]
    rfl
  · rfl
theorem pad2_skip {l : List (Nat × Bool)} {n : Nat} (h : l.length < n) : pad2 l n = pad2 (l ++ [(0, false)]) n := by
  rw [← pad2_set h 0 false]
  refine (List.ext_getElem? fun i => ?_)
  rw [List.getElem?_set]
  split
  · rename_i he
    subst he
    rw [pad2_at h, if_pos (by unfold pad2; rw [List.length_append, List.length_map, List.length_replicate]; omega), List.getD_eq_getElem?_getD, List.getElem?_eq_none (by omega)]
    rfl
  · rfl
def bl (l : List Bool) : List Value := l.map .bool
theorem infoBool : (Try.prog.info? 4).map (fun i => (i.zero, i.size, i.bytes)) = some (some (.bool false), 1, 1) := by kernel_rfl
theorem run_make_u6 (n : Nat) (h : n ≤ 1000) (w : World) : (Instr.makeSlice 22 (.int .i64 (n : Int)) (.int .i64 (n : Int))).run Try.prog w = .ok (.slice (some ⟨w.heap.size, 0, none⟩) n n) (w.alloc (.cells (u6 (pad1 [] n)).toArray 38)) := by
  have e : madeCells #[.int .u64 0] n = (u6 (pad1 [] n)).toArray := by
    apply Array.ext_getElem?
    intro i
    by_cases hi : i < n
    · simp [madeCells, u6, pad1, List.getElem?_replicate, hi, Nat.mod_one]
    · simp [madeCells, u6, pad1, List.getElem?_replicate, hi]
  rw [← e]
  exact run_make_row' 22 38 (.int .u64 0) 8 Try.underlying22 infoU6 rfl .i64 .i64 n (by omega) (by omega) w
theorem run_make_bl (n : Nat) (h : n ≤ 1000) (w : World) : (Instr.makeSlice 51 (.int .i64 (n : Int)) (.int .i64 (n : Int))).run Try.prog w = .ok (.slice (some ⟨w.heap.size, 0, none⟩) n n) (w.alloc (.cells (bl (pad2 [] n)).toArray 4)) := by
  have e : madeCells #[.bool false] n = (bl (pad2 [] n)).toArray := by
    apply Array.ext_getElem?
    intro i
    by_cases hi : i < n
    · simp [madeCells, bl, pad2, List.getElem?_replicate, hi, Nat.mod_one]
    · simp [madeCells, bl, pad2, List.getElem?_replicate, hi]
  rw [← e]
  exact run_make_row' 51 4 (.bool false) 1 Try.underlying51 infoBool rfl .i64 .i64 n (by omega) (by omega) w
end Go.Proofs.Ytmjdbbfoihadoaa
