/- The mask of names: what the program's group and Group do. Conditions: the variables lie as they are read. The mask of names: what the reference's Group does. The text of a group: what both functions Text do. Conditions: the variables lie as they are read. No condition. -/
import Derived.Test.YtmnhgeggojgflaaGreatDoorSgRG
set_option linter.unusedVariables false
set_option linter.unusedSimpArgs false
namespace Go.Proofs.YtmnhgeggojgflaaGreatDoor
open Go.RowKit

theorem grp_at {A l : List ByteArray} {k : Nat} {x : ByteArray} (h : l[k]? = some x) (m : Nat) : grp A (l.drop k) m = if Lib.idxOfS A x < 0 then (0, 6) else if m.testBit (Lib.idxOfS A x).toNat = true then (0, 7) else grp A (l.drop (k + 1)) (m + 2 ^ (Lib.idxOfS A x).toNat) := by
  rw [drop_at h, grp_cons]
/-- The bits of a small mask, as the program asks for them. -/
theorem bit_ask {m j : Nat} (hm : m < 16) (hj : j < 4) : (bits BinOp.and IntKind.i64 ((m : Int) / 2 ^ j) 1 == 1) = m.testBit j := by
  have h : ∀ (m : Fin 16) (j : Fin 4), (bits BinOp.and IntKind.i64 ((m.val : Int) / 2 ^ j.val) 1 == 1) = m.val.testBit j.val := by decide +kernel
  exact h ⟨m, hm⟩ ⟨j, hj⟩
theorem bit_put {m j : Nat} (hm : m < 16) (hj : j < 4) (hb : m.testBit j = false) : m + 2 ^ j < 16 ∧ bits BinOp.or IntKind.i64 (m : Int) (wrap64 (2 ^ j)) = ((m + 2 ^ j : Nat) : Int) := by
  have h : ∀ (m : Fin 16) (j : Fin 4), m.val.testBit j.val = false → m.val + 2 ^ j.val < 16 ∧ bits BinOp.or IntKind.i64 (m.val : Int) (wrap64 (2 ^ j.val)) = ((m.val + 2 ^ j.val : Nat) : Int) := by decide +kernel
  exact h ⟨m, hm⟩ ⟨j, hj⟩ hb

section
set_option maxRecDepth 100000
set_option maxHeartbeats 2000000
theorem groupS_bad {S : Sg} (h : checkS S ≠ 0) (l : List ByteArray) : groupS S l = (0, checkS S) := if_neg h
theorem groupS_nil {S : Sg} (h : checkS S = 0) : groupS S [] = (0, 1) := by unfold groupS; rw [if_pos h, if_pos rfl]
theorem groupS_ok {S : Sg} (h : checkS S = 0) {l : List ByteArray} (hl : l ≠ []) : groupS S l = grp S.A l 0 := by unfold groupS; rw [if_pos h, if_neg hl]
end
end Go.Proofs.YtmnhgeggojgflaaGreatDoor
namespace Go.Proofs.YtmnhgeggojgflaaGreatDoor
open Go.RowKit

theorem quiet_at {P : Program} {f : FuncId} {args : Array Value} {w : World} {a n : Nat} {v : Value} (h : Calls P f args (w.drewN (a + n)) fun e w' => e = .returned v ∧ w' = w.drewN (a + n)) : Calls P f args (w.drewN (a + n)) fun e w'' => e = .returned v ∧ ∃ m, w'' = w.drewN (a + m) :=
  h.mono fun _ _ ⟨he, hm⟩ => ⟨he, n, hm⟩
theorem bit_rem {m j : Nat} (hm : m < 16) (hj : j < 4) : (((m : Int) / 2 ^ j).tmod 2 == 1) = m.testBit j := by
  have h : ∀ (m : Fin 16) (j : Fin 4), (((m.val : Int) / 2 ^ j.val).tmod 2 == 1) = m.val.testBit j.val := by decide +kernel
  exact h ⟨m, hm⟩ ⟨j, hj⟩
theorem bit_add {m j : Nat} (hm : m < 16) (hj : j < 4) (hb : m.testBit j = false) : m + 2 ^ j < 16 ∧ wrap64 ((m : Int) + wrap64 (2 ^ j)) = ((m + 2 ^ j : Nat) : Int) := by
  have h : ∀ (m : Fin 16) (j : Fin 4), m.val.testBit j.val = false → m.val + 2 ^ j.val < 16 ∧ wrap64 ((m.val : Int) + wrap64 (2 ^ j.val)) = ((m.val + 2 ^ j.val : Nat) : Int) := by decide +kernel
  exact h ⟨m, hm⟩ ⟨j, hj⟩ hb
section
set_option maxRecDepth 100000
set_option maxHeartbeats 2000000
end
end Go.Proofs.YtmnhgeggojgflaaGreatDoor
namespace Go.Proofs.YtmnhgeggojgflaaGreatDoor
open Go.RowKit

theorem joinC_nil : joinC [] = ⟨#[]⟩ := rfl
theorem joinC_one (x : ByteArray) : joinC [x] = x := by
  unfold joinC
  rw [List.map_cons, List.map_nil, Lib.join_one, txt_data]
theorem joinC_snoc (y : ByteArray) (r : List ByteArray) (x : ByteArray) : joinC (y :: r ++ [x]) = joinC (y :: r) ++ ⟨#[44]⟩ ++ x := by
  unfold joinC
  apply ba_ext
  rw [data_txt]
  simp [Lib.join_cons, Lib.joinTail, txt]
theorem joinC_size : ∀ l : List ByteArray, (∀ x ∈ l, x.size ≤ 8) → (joinC l).size ≤ 9 * l.length
  | [], _ => by simp [joinC_nil, ByteArray.size]
  | y :: r, h => by
    have hl : ∀ r : List ByteArray, (∀ x ∈ r, x.size ≤ 8) → Lib.lens (r.map (·.data.toList)) ≤ 8 * r.length := by
      intro r
      induction r with
      | nil => intro _; simp [Lib.lens]
      | cons z r ih =>
        intro h
        have h1 := h z (by simp)
        have h2 := ih fun x hx => h x (by simp [hx])
        simp only [Lib.lens, List.map_cons, List.sum_cons, List.length_cons] at h2 ⊢
        rw [data_len]
        omega
    have := hl (y :: r) h
    unfold joinC
    rw [txt_size, List.map_cons, Lib.join_length, ← List.map_cons (f := fun x : ByteArray => x.data.toList), List.length_map]
    simp only [List.length_cons, List.length_nil] at this ⊢
    omega
theorem name_size {x : ByteArray} (h : nameB x = true) : 1 ≤ x.size ∧ x.size ≤ 8 := by
  unfold nameB nameL at h
  rw [Bool.and_eq_true, decide_eq_true_eq, data_len] at h
  omega
theorem joinC_ne (y : ByteArray) (r : List ByteArray) (h : 1 ≤ y.size) : (joinC (y :: r)).toList ≠ [] := by
  rw [ByteArray.toList_eq]
  unfold joinC
  rw [data_txt, List.map_cons, Lib.join_cons]
  intro e
  have h1 := congrArg List.length e
  rw [List.length_append, data_len, List.length_nil] at h1
  omega
theorem sel_sub (g : Nat) : ∀ (l : List ByteArray) (i : Nat), ∀ x ∈ sel g l i, x ∈ l
  | [], _, x, h => by simp [sel] at h
  | y :: r, i, x, h => by
    unfold sel at h
    split at h
    · rcases List.mem_cons.1 h with rfl | h
      · simp
      · exact List.mem_cons_of_mem _ (sel_sub g r _ x h)
    · exact List.mem_cons_of_mem _ (sel_sub g r _ x h)
theorem sel_len (g : Nat) : ∀ (l : List ByteArray) (i : Nat), (sel g l i).length ≤ l.length
  | [], _ => by simp [sel]
  | y :: r, i => by
    have := sel_len g r (i + 1)
    unfold sel
    split
    · rw [List.length_cons, List.length_cons]; omega
    · rw [List.length_cons]; omega
theorem join_any (l : List ByteArray) (v : Value) (w w0 : World) (hown : w.ownsRow w0.heap.size 9 1 v l.length (strs l)) (hl : l.length ≤ 1000) (hs : (joinC l).size ≤ 100000) :
    Calls Tryz.prog 24 #[v, .string ⟨#[44]⟩] w fun e w' => e = .returned (.string (joinC l)) ∧ Keep NoF w w' := by
  obtain ⟨A, c, rfl⟩ := own_form hown
  cases l with
  | nil =>
    refine (Tryz.strings_Join_none A c ⟨#[44]⟩ w).mono ?_
    rintro e w' ⟨rfl, hw⟩
    subst hw
    exact ⟨rfl, Keep.refl _ _⟩
  | cons y r =>
    obtain ⟨_, hcc, bl, off, rfl, hc⟩ := (Rd.of_own hown).at_ (by simp)
    have hbk : bl < w.heap.size := World.block_lt_of_cell? w _ (hc 0 (.string y) rfl)
    unfold joinC at hs
    rw [txt_size] at hs
    refine (Tryz.strings_Join bl off c (y :: r) ⟨#[44]⟩ w (fun j x hx => hc j _ (by rw [List.getElem?_map, hx]; rfl)) hbk (by omega) hcc (by
      have e : (⟨#[44]⟩ : ByteArray).data.toList = [44] := rfl
      rw [e]
      omega)).mono ?_
    rintro e w' ⟨rfl, hb⟩
    exact ⟨rfl, Keep0.of_below hb⟩
theorem pow_wrap {n : Nat} (hn : n ≤ 4) : wrap64 ((2 : Int) ^ n) = ((2 ^ n : Nat) : Int) ∧ 2 ^ n ≤ 16 := by
  have h : ∀ n : Fin 5, wrap64 ((2 : Int) ^ n.val) = ((2 ^ n.val : Nat) : Int) ∧ 2 ^ n.val ≤ 16 := by decide +kernel
  exact h ⟨n, by omega⟩
theorem textS_bad {S : Sg} (h : checkS S ≠ 0) (g : Int) : textS S g = (⟨#[]⟩, checkS S) := if_neg h
theorem textS_out {S : Sg} (h : checkS S = 0) {g : Int} (hg : g < 1 ∨ ((2 ^ S.A.length : Nat) : Int) ≤ g) : textS S g = (⟨#[]⟩, 2) := by
  unfold textS
  rw [if_pos h, if_pos (by omega)]
  rfl
theorem textS_in {S : Sg} (h : checkS S = 0) {n : Nat} (h1 : 1 ≤ n) (h2 : n < 2 ^ S.A.length) : textS S n = (joinC (sel n S.A 0), 0) := by
  unfold textS
  rw [if_pos h, if_neg (by rw [Int.toNat_natCast]; omega), Int.toNat_natCast]
theorem sel_at {l : List ByteArray} {k : Nat} {x : ByteArray} (h : l[k]? = some x) (n : Nat) : sel n (l.take (k + 1)) 0 = sel n (l.take k) 0 ++ if n.testBit k = true then [x] else [] := by
  have hk := (List.getElem?_eq_some_iff.1 h).1
  rw [take_snoc h, sel_snoc, List.length_take, Nat.zero_add, Nat.min_eq_left (by omega)]

section
set_option maxRecDepth 100000
set_option maxHeartbeats 2000000
end
end Go.Proofs.YtmnhgeggojgflaaGreatDoor
