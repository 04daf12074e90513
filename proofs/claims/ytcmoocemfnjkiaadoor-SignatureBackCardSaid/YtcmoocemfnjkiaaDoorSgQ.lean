/- Names and groups: a group is restored from its text; the order of names does not matter; each name has one place. Plain laws. No condition. -/
import Derived.Test.YtcmoocemfnjkiaaDoorSgL
import Derived.Test.YtcmoocemfnjkiaaDoorSgJ
set_option linter.unusedVariables false
set_option linter.unusedSimpArgs false
namespace Go.Proofs.YtcmoocemfnjkiaaDoor
open Go.RowKit

/-- Parts that have no comma are restored from what joins them. -/
theorem flds_plain : ∀ (x r : List UInt8), (44 : UInt8) ∉ x → flds (x ++ r) = (x ++ (flds r).headD []) :: (flds r).tail
  | [], r, _ => by simpa using flds_ne r
  | b :: x, r, h => by
    simp only [List.mem_cons, not_or] at h
    rw [List.cons_append, flds_ch _ (Ne.symm h.1), flds_plain x r h.2]
    rfl
theorem flds_tail : ∀ (x : List UInt8) (L : List (List UInt8)), (∀ y ∈ x :: L, (44 : UInt8) ∉ y) → flds (x ++ Lib.joinTail [44] L) = x :: L
  | x, [], h => by
    have := flds_plain x [] (h x (by simp))
    simpa [Lib.joinTail, flds] using this
  | x, y :: L, h => by
    have ih := flds_tail y L fun z hz => h z (List.mem_cons_of_mem _ hz)
    have e : Lib.joinTail [44] (y :: L) = 44 :: (y ++ Lib.joinTail [44] L) := by simp [Lib.joinTail]
    rw [e, flds_plain x _ (h x (by simp)), flds_sp, ih]
    simp
theorem name_comma {x : ByteArray} (h : nameB x = true) : (44 : UInt8) ∉ x.data.toList := by
  intro hm
  unfold nameB nameL at h
  rw [Bool.and_eq_true] at h
  have := List.all_eq_true.1 h.2 _ hm
  revert this
  decide
theorem parts_join (y : ByteArray) (l : List ByteArray) (h : ∀ x ∈ y :: l, nameB x = true) : partsS (joinC (y :: l)) = y :: l := by
  unfold partsS joinC
  rw [data_txt, List.map_cons, Lib.join_cons, flds_tail _ _ fun z hz => by
    rw [← List.map_cons (f := fun x : ByteArray => x.data.toList)] at hz
    obtain ⟨x, hx, rfl⟩ := List.mem_map.1 hz
    exact name_comma (h x hx)]
  rw [List.map_cons, List.map_map, txt_data]
  congr 1
  conv => rhs; rw [← List.map_id l]
  exact List.map_congr_left fun x _ => txt_data x

theorem testBit_add_pow {m k : Nat} (hb : m.testBit k = false) (j : Nat) : (m + 2 ^ k).testBit j = (m.testBit j || decide (j = k)) := by
  rcases Nat.lt_trichotomy j k with h | rfl | h
  · rw [Nat.add_comm, Nat.testBit_two_pow_add_gt h, decide_eq_false (by omega), Bool.or_false]
  · rw [Nat.add_comm, Nat.testBit_two_pow_add_eq, hb]
    simp
  · rw [decide_eq_false (by omega), Bool.or_false]
    have hm := Nat.mod_pow_succ (x := m) (b := 2) (k := k)
    rw [Nat.testBit_eq_decide_div_mod_eq] at hb
    have hb0 := of_decide_eq_false hb
    rw [show m / 2 ^ k % 2 = 0 by omega] at hm
    have hl : m % 2 ^ k < 2 ^ k := Nat.mod_lt _ (Nat.two_pow_pos k)
    have hp : 2 ^ (k + 1) = 2 ^ k + 2 ^ k := by rw [Nat.pow_succ]; omega
    simp only [Nat.mul_zero, Nat.add_zero] at hm
    have hd := Nat.div_add_mod m (2 ^ (k + 1))
    have e1 := Nat.testBit_two_pow_mul_add (m / 2 ^ (k + 1)) (b := m % 2 ^ (k + 1)) (i := k + 1) (by omega) j
    have e2 := Nat.testBit_two_pow_mul_add (m / 2 ^ (k + 1)) (b := m % 2 ^ (k + 1) + 2 ^ k) (i := k + 1) (by omega) j
    rw [if_neg (by omega)] at e1 e2
    rw [hd] at e1
    rw [← Nat.add_assoc, hd] at e2
    rw [e1, e2]
/-- The mask of a list of different names. -/
theorem grp_spec (A : List ByteArray) (hA : A.Nodup) : ∀ (l : List ByteArray) (m : Nat), (∀ x ∈ l, x ∈ A) → l.Nodup → (∀ x ∈ l, m.testBit (Lib.idxOfS A x).toNat = false) →
    ∃ m', grp A l m = (m', 0) ∧ ∀ j, m'.testBit j = (m.testBit j || l.any fun x => decide (Lib.idxOfS A x = j))
  | [], m, _, _, _ => ⟨m, rfl, by simp⟩
  | x :: r, m, hin, hn, hm => by
    obtain ⟨k, hk⟩ := List.mem_iff_getElem?.1 (hin x (by simp))
    have hx := idx_at hA hk
    have hb := hm x (by simp)
    rw [grp_cons, if_neg (by rw [hx]; omega), if_neg (by rw [hb]; simp)]
    obtain ⟨m', h1, h2⟩ := grp_spec A hA r (m + 2 ^ (Lib.idxOfS A x).toNat) (fun y hy => hin y (by simp [hy])) (List.nodup_cons.1 hn).2 fun y hy => by
      rw [testBit_add_pow hb, hm y (by simp [hy]), Bool.false_or, decide_eq_false_iff_not]
      intro e
      obtain ⟨i, hi⟩ := List.mem_iff_getElem?.1 (hin y (by simp [hy]))
      rw [idx_at hA hi, hx, Int.toNat_natCast, Int.toNat_natCast] at e
      subst e
      rw [hi] at hk
      have := Option.some.inj hk
      subst this
      exact (List.nodup_cons.1 hn).1 hy
    refine ⟨m', h1, fun j => ?_⟩
    rw [h2, testBit_add_pow hb, List.any_cons, Bool.or_assoc, hx, Int.toNat_natCast]
    congr 2
    exact decide_eq_decide.2 ⟨fun h => by rw [h], fun h => by omega⟩
/-- What is no list of different names has an error and no mask. -/
theorem grp_bad (A : List ByteArray) (hA : A.Nodup) : ∀ (l : List ByteArray) (m : Nat), ¬ ((∀ x ∈ l, x ∈ A) ∧ l.Nodup ∧ ∀ x ∈ l, m.testBit (Lib.idxOfS A x).toNat = false) →
    (grp A l m).1 = 0 ∧ (grp A l m).2 ≠ 0
  | [], m, h => absurd ⟨by simp, by simp, by simp⟩ h
  | x :: r, m, h => by
    rw [grp_cons]
    by_cases h1 : Lib.idxOfS A x < 0
    · rw [if_pos h1]
      exact ⟨rfl, by simp⟩
    · rw [if_neg h1]
      by_cases h2 : m.testBit (Lib.idxOfS A x).toNat = true
      · rw [if_pos h2]
        exact ⟨rfl, by simp⟩
      · rw [if_neg h2]
        have hb : m.testBit (Lib.idxOfS A x).toNat = false := by simpa using h2
        refine grp_bad A hA r _ fun ⟨g1, g2, g3⟩ => h ⟨?_, ?_, ?_⟩
        · intro y hy
          rcases List.mem_cons.1 hy with rfl | hy
          · rcases idx_cases A y with ⟨e, _⟩ | ⟨k, _, _, hk, _⟩
            · rw [e] at h1
              exact absurd (by omega) h1
            · exact List.mem_of_getElem? hk
          · exact g1 y hy
        · refine List.nodup_cons.2 ⟨fun hx => ?_, g2⟩
          have := g3 x hx
          rw [testBit_add_pow hb] at this
          simp at this
        · intro y hy
          rcases List.mem_cons.1 hy with rfl | hy
          · exact hb
          · have := g3 y hy
            rw [testBit_add_pow hb] at this
            simp at this
            exact this.1
/-- How many bits below n are set. -/
def cntB (m : Nat) : Nat → Nat
  | 0 => 0
  | n + 1 => cntB m n + if m.testBit n = true then 1 else 0
theorem cntB_succ (m n : Nat) : cntB m (n + 1) = cntB m n + if m.testBit n = true then 1 else 0 := rfl
theorem cntB_le (m : Nat) : ∀ n, cntB m n ≤ n
  | 0 => by simp [cntB]
  | n + 1 => by
    have := cntB_le m n
    rw [cntB_succ]
    split <;> omega
theorem sel_cnt (m : Nat) : ∀ (l : List ByteArray), (sel m l 0).length = cntB m l.length := by
  intro l
  have h : ∀ k, k ≤ l.length → (sel m (l.take k) 0).length = cntB m k := by
    intro k
    induction k with
    | zero => intro _; simp [sel, cntB]
    | succ k ih =>
      intro hk
      rw [sel_at (List.getElem?_eq_getElem (show k < l.length by omega)), List.length_append, ih (by omega), cntB_succ]
      split <;> simp
  have := h l.length (Nat.le_refl _)
  rwa [List.take_length] at this
theorem sel_mem (m : Nat) (x : ByteArray) : ∀ (l : List ByteArray) (i : Nat), x ∈ sel m l i ↔ ∃ k, l[k]? = some x ∧ m.testBit (i + k) = true
  | [], i => by simp [sel]
  | y :: l, i => by
    have ih := sel_mem m x l (i + 1)
    have hs : (∃ k, (y :: l)[k]? = some x ∧ m.testBit (i + k) = true) ↔ (y = x ∧ m.testBit i = true) ∨ ∃ k, l[k]? = some x ∧ m.testBit (i + 1 + k) = true := by
      constructor
      · rintro ⟨k, h1, h2⟩
        cases k with
        | zero => exact .inl ⟨by simpa using h1, h2⟩
        | succ k => exact .inr ⟨k, by simpa using h1, by rw [show i + 1 + k = i + (k + 1) by omega]; exact h2⟩
      · rintro (⟨rfl, h2⟩ | ⟨k, h1, h2⟩)
        · exact ⟨0, by simp, h2⟩
        · exact ⟨k + 1, by simpa using h1, by rw [show i + (k + 1) = i + 1 + k by omega]; exact h2⟩
    rw [hs, ← ih, show sel m (y :: l) i = if m.testBit i = true then y :: sel m l (i + 1) else sel m l (i + 1) from rfl]
    by_cases h : m.testBit i = true
    · rw [if_pos h, List.mem_cons]
      constructor
      · rintro (rfl | h1)
        · exact .inl ⟨rfl, h⟩
        · exact .inr h1
      · rintro (⟨rfl, _⟩ | h1)
        · exact .inl rfl
        · exact .inr h1
    · rw [if_neg h]
      exact ⟨.inr, fun h1 => h1.resolve_left fun h2 => h h2.2⟩
theorem sel_sublist (m : Nat) : ∀ (l : List ByteArray) (i : Nat), List.Sublist (sel m l i) l
  | [], i => by simp [sel]
  | y :: l, i => by
    rw [show sel m (y :: l) i = if m.testBit i = true then y :: sel m l (i + 1) else sel m l (i + 1) from rfl]
    split
    · exact (sel_sublist m l (i + 1)).cons_cons y
    · exact (sel_sublist m l (i + 1)).cons y
/-- A group is restored from its text. -/
theorem back_law {S : Sg} (h : checkS S = 0) {n : Nat} (h1 : 1 ≤ n) (h2 : n < 2 ^ S.A.length) :
    parseS S (joinC (sel n S.A 0)) = (n, 0) ∧ (partsS (joinC (sel n S.A 0))).length = cntB n S.A.length ∧ (joinC (sel n S.A 0)).size ≤ 100 := by
  have hOk := checkS_ok h
  have hAn : S.A.Nodup := (List.nodup_append.1 (List.nodup_append.1 hOk.nodup).1).1
  have hnm : ∀ x ∈ sel n S.A 0, nameB x = true := fun x hx => (hOk.name x (by simp [Sg.all, sel_sub n S.A 0 x hx])).1
  have hbit : ∀ j, n.testBit j = (sel n S.A 0).any fun x => decide (Lib.idxOfS S.A x = j) := by
    intro j
    rw [Bool.eq_iff_iff, List.any_eq_true]
    constructor
    · intro hj
      have hlt : j < S.A.length := by
        rcases Nat.lt_or_ge j S.A.length with h | h
        · exact h
        · rw [Nat.testBit_lt_two_pow (Nat.lt_of_lt_of_le h2 (Nat.pow_le_pow_right (by omega) h))] at hj
          cases hj
      exact ⟨S.A[j], (sel_mem n _ S.A 0).2 ⟨j, List.getElem?_eq_getElem hlt, by rwa [Nat.zero_add]⟩, by simpa using idx_at hAn (List.getElem?_eq_getElem hlt)⟩
    · rintro ⟨x, hx, hj⟩
      obtain ⟨k, hk, hb⟩ := (sel_mem n x S.A 0).1 hx
      rw [Nat.zero_add] at hb
      have hj := of_decide_eq_true hj
      rw [idx_at hAn hk] at hj
      obtain rfl : k = j := by omega
      exact hb
  have hsz : (joinC (sel n S.A 0)).size ≤ 100 := by
    have := joinC_size (sel n S.A 0) fun x hx => (name_size (hnm x hx)).2
    have h3 := sel_len n S.A 0
    have := hOk.lA
    omega
  have hcnt := sel_cnt n S.A
  have hnd := hAn.sublist (sel_sublist n S.A 0)
  have hin : ∀ x ∈ sel n S.A 0, x ∈ S.A := sel_sub n S.A 0
  cases hs : sel n S.A 0 with
  | nil =>
    exfalso
    have h0 : n = 0 := Nat.eq_of_testBit_eq fun j => by rw [hbit j, hs, Nat.zero_testBit]; rfl
    omega
  | cons y l =>
    rw [hs] at hnm hbit hcnt hsz hnd hin
    have hp := parts_join y l hnm
    refine ⟨?_, by rw [hp]; exact hcnt, hsz⟩
    rw [parseS_ok h (by rw [hp]; exact List.all_eq_true.2 hnm), hp]
    obtain ⟨m', e1, e2⟩ := grp_spec S.A hAn (y :: l) 0 hin hnd (by simp)
    rw [e1]
    congr 1
    exact Nat.eq_of_testBit_eq fun j => by rw [e2, hbit j, Nat.zero_testBit, Bool.false_or]

/-- The order of names does not matter; a mask has a bit for each name. -/
theorem order_law (S : Sg) (l : List ByteArray) : (groupS S l.reverse).1 = (groupS S l).1 ∧ ((groupS S l.reverse).2 = 0 ↔ (groupS S l).2 = 0) ∧
    ((groupS S l).2 = 0 → cntB (groupS S l).1 S.A.length = l.length ∧ (groupS S l).1 < 2 ^ S.A.length ∧ S.A.length ≤ 4 ∧ ∀ x ∈ l, ∃ k : Nat, findS S S.A x = k ∧ k < S.A.length ∧ (groupS S l).1.testBit k = true) := by
  unfold groupS
  by_cases h0 : checkS S = 0
  · rw [if_pos h0, if_pos h0]
    have hOk := checkS_ok h0
    have hAn : S.A.Nodup := (List.nodup_append.1 (List.nodup_append.1 hOk.nodup).1).1
    by_cases hl : l = []
    · subst hl
      simp
    · rw [if_neg (by simpa using hl), if_neg hl]
      by_cases hg : (∀ x ∈ l, x ∈ S.A) ∧ l.Nodup ∧ ∀ x ∈ l, (0 : Nat).testBit (Lib.idxOfS S.A x).toNat = false
      · obtain ⟨m1, e1, b1⟩ := grp_spec S.A hAn l 0 hg.1 hg.2.1 hg.2.2
        obtain ⟨m2, e2, b2⟩ := grp_spec S.A hAn l.reverse 0 (fun x hx => hg.1 x (List.mem_reverse.1 hx)) ((List.reverse_perm l).nodup_iff.2 hg.2.1) (fun x hx => hg.2.2 x (List.mem_reverse.1 hx))
        rw [e1, e2]
        have hmm : m2 = m1 := Nat.eq_of_testBit_eq fun j => by rw [b1, b2, List.any_reverse]
        refine ⟨hmm, by simp, fun _ => ?_⟩
        have hlt : m1 < 2 ^ S.A.length := by
          refine Nat.lt_pow_two_of_testBit _ fun j hj => ?_
          rw [b1, Nat.zero_testBit, Bool.false_or, List.any_eq_false]
          intro x hx hd
          have hd := of_decide_eq_true hd
          obtain ⟨k, hk⟩ := List.mem_iff_getElem?.1 (hg.1 x hx)
          rw [idx_at hAn hk] at hd
          have := (List.getElem?_eq_some_iff.1 hk).1
          omega
        refine ⟨?_, hlt, hOk.lA, fun x hx => ?_⟩
        · rw [← sel_cnt]
          have hperm : (sel m1 S.A 0).Perm l := by
            refine (List.perm_ext_iff_of_nodup (hAn.sublist (sel_sublist m1 S.A 0)) hg.2.1).2 fun x => ?_
            rw [sel_mem]
            constructor
            · rintro ⟨k, hk, hb⟩
              rw [Nat.zero_add, b1, Nat.zero_testBit, Bool.false_or, List.any_eq_true] at hb
              obtain ⟨y, hy, hd⟩ := hb
              have hd := of_decide_eq_true hd
              obtain ⟨i, hi⟩ := List.mem_iff_getElem?.1 (hg.1 y hy)
              rw [idx_at hAn hi] at hd
              obtain rfl : i = k := by omega
              rw [hk] at hi
              exact Option.some.inj hi ▸ hy
            · intro hx
              obtain ⟨k, hk⟩ := List.mem_iff_getElem?.1 (hg.1 x hx)
              refine ⟨k, hk, ?_⟩
              rw [Nat.zero_add, b1, Nat.zero_testBit, Bool.false_or, List.any_eq_true]
              exact ⟨x, hx, by simpa using idx_at hAn hk⟩
          exact hperm.length_eq
        · obtain ⟨k, hk⟩ := List.mem_iff_getElem?.1 (hg.1 x hx)
          refine ⟨k, by rw [findS_ok h0]; exact idx_at hAn hk, (List.getElem?_eq_some_iff.1 hk).1, ?_⟩
          rw [b1, Nat.zero_testBit, Bool.false_or, List.any_eq_true]
          exact ⟨x, hx, by simpa using idx_at hAn hk⟩
      · have h1 := grp_bad S.A hAn l 0 hg
        have h2 := grp_bad S.A hAn l.reverse 0 fun h => hg ⟨fun x hx => h.1 x (List.mem_reverse.2 hx), (List.reverse_perm l).nodup_iff.1 h.2.1, fun x hx => h.2.2 x (List.mem_reverse.2 hx)⟩
        exact ⟨h2.1.trans h1.1.symm, ⟨fun h => absurd h h2.2, fun h => absurd h h1.2⟩, fun h => absurd h h1.2⟩
  · rw [if_neg h0, if_neg h0]
    exact ⟨rfl, Iff.rfl, fun h => absurd h h0⟩

theorem bit_one {m j : Nat} (hm : m < 16) (hj : j < 4) : bits BinOp.and IntKind.i64 ((m : Int) / 2 ^ j) 1 = if m.testBit j = true then 1 else 0 := by
  have h : ∀ (m : Fin 16) (j : Fin 4), bits BinOp.and IntKind.i64 ((m.val : Int) / 2 ^ j.val) 1 = if m.val.testBit j.val = true then 1 else 0 := by decide +kernel
  exact h ⟨m, hm⟩ ⟨j, hj⟩
/-- Each name has one place. -/
theorem apart_law {S : Sg} (h : checkS S = 0) : (∀ (k : Nat) x, S.A[k]? = some x → findS S S.A x = k ∧ findS S S.F x = -1 ∧ findS S S.C x = -1) ∧
    (∀ (k : Nat) x, S.F[k]? = some x → findS S S.F x = k ∧ findS S S.A x = -1 ∧ findS S S.C x = -1) ∧
    ∀ (k : Nat) x, S.C[k]? = some x → findS S S.C x = k ∧ findS S S.A x = -1 ∧ findS S S.F x = -1 ∧ reserved x = false ∧ nameB x = true := by
  have hOk := checkS_ok h
  have hn := hOk.nodup
  unfold Sg.all at hn
  obtain ⟨hAF, hC, hd1⟩ := List.nodup_append.1 hn
  obtain ⟨hA, hF, hd2⟩ := List.nodup_append.1 hAF
  refine ⟨fun k x hk => ?_, fun k x hk => ?_, fun k x hk => ?_⟩
  · have hm := List.mem_of_getElem? hk
    rw [findS_ok h, findS_ok h, findS_ok h]
    exact ⟨idx_at hA hk, idx_none fun hx => hd2 x hm x hx rfl, idx_none fun hx => hd1 x (by simp [hm]) x hx rfl⟩
  · have hm := List.mem_of_getElem? hk
    rw [findS_ok h, findS_ok h, findS_ok h]
    exact ⟨idx_at hF hk, idx_none fun hx => hd2 x hx x hm rfl, idx_none fun hx => hd1 x (by simp [hm]) x hx rfl⟩
  · have hm := List.mem_of_getElem? hk
    rw [findS_ok h, findS_ok h, findS_ok h]
    have := hOk.name x (by simp [Sg.all, hm])
    exact ⟨idx_at hC hk, idx_none fun hx => hd1 x (by simp [hx]) x hm rfl, idx_none fun hx => hd1 x (by simp [hx]) x hm rfl, this.2, this.1⟩
end Go.Proofs.YtcmoocemfnjkiaaDoor
