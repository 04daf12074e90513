/- The text of a model: what a line of cells makes (for the law ModeltextCells). No condition. -/
import Derived.Test.YtmnhgeggojgflaaGreatDoorMtBC
import Derived.Test.YtmnhgeggojgflaaGreatDoorMtW
set_option linter.unusedVariables false
set_option linter.unusedSimpArgs false
namespace Mt
open Go.Proofs.YtmnhgeggojgflaaGreatDoor (Sg SX checkS findS txt)
open Go.Proofs.YtmnhgeggojgflaaGreatDoor.Ws (parseS fmtS parse_fmt joinT mem mem_lt memTo memTo_succ joinT_nil joinT_one joinT_snoc)
open Ev (Md)
/-- The worlds of the set k, as a set. -/
def csN (o : Nat → Nat) (k : Nat) : Nat → Nat
  | 0 => 0
  | n + 1 => csN o k n ||| (if o n = k then 2 ^ n else 0)
theorem csN_bit (o : Nat → Nat) (k i : Nat) : ∀ n, (csN o k n).testBit i = (decide (i < n) && decide (o i = k))
  | 0 => by simp [csN]
  | n + 1 => by
    unfold csN
    rw [Nat.testBit_or, csN_bit o k i n]
    by_cases hi : i = n
    · subst hi
      by_cases ho : o i = k
      · rw [if_pos ho]; simp [ho]
      · rw [if_neg ho]; simp [ho]
    · have h2 : (if o n = k then 2 ^ n else 0 : Nat).testBit i = false := by
        split
        · rw [Nat.testBit_two_pow]; simp; omega
        · simp
      rw [h2, Bool.or_false]
      by_cases hlt : i < n
      · simp [hlt, show i < n + 1 by omega]
      · simp [hlt, show ¬ i < n + 1 by omega]
theorem csN_lt (o : Nat → Nat) (k n : Nat) : csN o k n < 2 ^ n := by
  apply Nat.lt_pow_two_of_testBit
  intro i hi
  rw [csN_bit]
  simp [show ¬ i < n by omega]
theorem csN_disj (o : Nat → Nat) {k m : Nat} (h : k ≠ m) (n : Nat) : csN o k n &&& csN o m n = 0 := by
  apply Nat.eq_of_testBit_eq
  intro i
  rw [Nat.testBit_and, csN_bit, csN_bit, Nat.zero_testBit]
  by_cases h1 : o i = k
  · have : ¬ o i = m := fun e => h (h1.symm.trans e)
    simp [this]
  · simp [h1]
/-- Its members in order. -/
def csL (o : Nat → Nat) (k n : Nat) : List Nat := (List.range n).filter fun i => decide (o i = k)
theorem csL_succ (o : Nat → Nat) (k n : Nat) : csL o k (n + 1) = csL o k n ++ (if o n = k then [n] else []) := by
  unfold csL
  rw [List.range_succ, List.filter_append]
  congr 1
  by_cases h : o n = k <;> simp [h]
theorem mem_csN (o : Nat → Nat) (k : Nat) {n : Nat} (hn : n ≤ 64) : mem (csN o k n) = csL o k n := by
  have h : ∀ m, n ≤ m → memTo (csN o k n) m = csL o k n := by
    intro m hm
    obtain ⟨d, rfl⟩ := Nat.exists_eq_add_of_le hm
    unfold memTo csL
    rw [List.range_add, List.filter_append]
    have e2 : ((List.range d).map (n + ·)).filter (csN o k n).testBit = [] := by
      rw [List.filter_eq_nil_iff]
      intro i hi
      obtain ⟨j, -, rfl⟩ := List.mem_map.1 hi
      rw [csN_bit]
      simp
      omega
    rw [e2, List.append_nil]
    apply List.filter_congr
    intro i hi
    rw [csN_bit]
    simp [List.mem_range.1 hi]
  exact h 64 hn
/-- The text of the set, member by member. -/
theorem csT_step (o : Nat → Nat) (k n : Nat) : joinT (csL o k (n + 1)) = if o n = k then (if joinT (csL o k n) = [] ∧ csL o k n = [] then dec n else joinT (csL o k n) ++ [32] ++ dec n) else joinT (csL o k n) := by
  rw [csL_succ]
  by_cases h : o n = k
  · rw [if_pos h, if_pos h]
    cases hl : csL o k n with
    | nil => rw [if_pos ⟨joinT_nil, rfl⟩, List.nil_append, joinT_one]
    | cons y r => rw [if_neg (fun h => by cases h.2), joinT_snoc]
  · rw [if_neg h, if_neg h, List.append_nil]
theorem dec_ne {n : Nat} (h : n < 100) : dec n ≠ [] := (dec_all ⟨n, h⟩).2.1.1
theorem joinT_ne {l : List Nat} (h : l ≠ []) (hl : ∀ x ∈ l, x < 100) : joinT l ≠ [] := by
  cases l with
  | nil => exact absurd rfl h
  | cons y r =>
    unfold Go.Proofs.YtmnhgeggojgflaaGreatDoor.Ws.joinT
    rw [List.map_cons, Go.Lib.join_cons]
    intro e
    exact dec_ne (hl y (by simp)) (List.append_eq_nil_iff.1 e).1
theorem csL_lt {o : Nat → Nat} {k n : Nat} : ∀ x ∈ csL o k n, x < n := fun x hx => List.mem_range.1 (List.mem_filter.1 hx).1
/-- As the program writes it: a space between. -/
theorem csT_prog (o : Nat → Nat) (k n : Nat) (hn : n < 100) : joinT (csL o k (n + 1)) = if o n = k then (if joinT (csL o k n) ≠ [] then joinT (csL o k n) ++ [32] else joinT (csL o k n)) ++ dec n else joinT (csL o k n) := by
  rw [csT_step]
  by_cases h : o n = k
  · rw [if_pos h, if_pos h]
    by_cases hl : csL o k n = []
    · rw [if_pos ⟨by rw [hl]; rfl, hl⟩, hl, if_neg (fun h => h joinT_nil), joinT_nil, List.nil_append]
    · rw [if_neg (fun h => hl h.2), if_pos (joinT_ne hl fun x hx => by have := csL_lt x hx; omega)]
  · rw [if_neg h, if_neg h]
theorem setsP_cons {n v : Nat} {l : List (List UInt8)} {m : List Nat} (hv : v < 2 ^ n) (hn : n ≤ 64) (h : setsP n l = (m, 0)) : setsP n (fmtS v :: l) = (v :: m, 0) := by
  have hp := parse_fmt v (Nat.lt_of_lt_of_le hv (Nat.pow_le_pow_right (by omega) hn))
  unfold setsP
  rw [hp, h]
  rw [if_neg (by simp), if_neg (by simp only; omega), if_neg (by simp)]
/-- The lines of the law. -/
def lC (o : Nat → Nat) (n : Nat) : List (List UInt8) := [wCells, [98], fmtS (csN o 1 n), fmtS (csN o 2 n), fmtS (csN o 3 n)]
theorem sx_ok : checkS SX = 0 := by decide +kernel
theorem sx_b : findS SX SX.A (txt [98]) = 1 := by decide +kernel
theorem kd_b : kd [98] = .w := by decide +kernel
theorem read_cells {o : Nat → Nat} {n : Nat} (h1 : 1 ≤ n) (h64 : n ≤ 64) (V : List Nat) (R : List (List Nat)) :
    readP SX ⟨n, V, R, fun _ => false, fun _ => false, fun _ => false, fun _ => false⟩ (some (lC o n)) = (⟨n, V, R.set 1 (cellRow n [csN o 1 n, csN o 2 n, csN o 3 n]), fun _ => false, fun _ => false, fun _ => false, fun j => decide (j = 1) || false⟩, 0) := by
  have hf : formL (lC o n) = true := by
    unfold formL lC
    simp only [List.map_cons, List.map_nil, List.headD_cons, kd_s (fmt_ok _).2.2, kd_b]
    generalize kd wCells = q0
    cases q0 <;> decide
  have hh : (lC o n).headD [] = wCells := rfl
  unfold readP
  simp only
  have hne : ¬ (formL (lC o n) = false ∨ ((lC o n).headD [] = wWorlds) ≠ (n = 0)) := by
    rw [hf, hh]
    rintro (h | h)
    · cases h
    · exact h (propext ⟨fun h => absurd h (by decide), fun h => by omega⟩)
  rw [if_neg hne, if_neg (by rw [hh]; decide), if_neg (by rw [hh]; decide), if_neg (by rw [hh]; decide)]
  have hs : setsP n ((lC o n).drop 2) = ([csN o 1 n, csN o 2 n, csN o 3 n], 0) :=
    setsP_cons (csN_lt o 1 n) h64 (setsP_cons (csN_lt o 2 n) h64 (setsP_one (csN_lt o 3 n) h64))
  have hfs : findS SX SX.A (txt (itAt (lC o n) 1)) = 1 := sx_b
  have hu : unionD [csN o 1 n, csN o 2 n, csN o 3 n] 0 ≠ none := by
    have d12 := csN_disj o (show (1 : Nat) ≠ 2 by decide) n
    have d13 := csN_disj o (show (1 : Nat) ≠ 3 by decide) n
    have d23 := csN_disj o (show (2 : Nat) ≠ 3 by decide) n
    unfold unionD
    rw [if_pos (Nat.zero_and _)]
    unfold unionD
    rw [Nat.zero_or, if_pos d12]
    unfold unionD
    rw [if_pos (by rw [Nat.and_or_distrib_right, d13, d23]; rfl)]
    unfold unionD
    simp
  unfold divideP
  simp only [hfs, hs]
  rw [if_neg (by decide), if_neg (by simp), if_neg hu, if_neg (by simp)]
  rfl
theorem cells_law (o : Nat → Nat) {n : Nat} (h1 : 1 ≤ n) (h12 : n ≤ 12) :
    parseM SX (jn [wWorlds, dec n] ++ 10 :: jn (lC o n)) = (⟨n, [0, 0], [List.replicate n 0, cellRow n [csN o 1 n, csN o 2 n, csN o 3 n]]⟩, 0, 0) := by
  have hd := dec_ok (n := n) (by omega)
  have g1 : ∀ x ∈ [wWorlds, dec n], Good x ∧ No10 x := fun x hx => by
    simp only [List.mem_cons, List.not_mem_nil, or_false] at hx
    rcases hx with rfl | rfl
    · exact ⟨.inl ⟨by decide, by decide⟩, by unfold No10; decide⟩
    · exact ⟨hd.2.1, hd.2.2.1⟩
  have g2 : ∀ x ∈ lC o n, Good x ∧ No10 x := fun x hx => by
    simp only [lC, List.mem_cons, List.not_mem_nil, or_false] at hx
    rcases hx with rfl | rfl | rfl | rfl | rfl
    · exact ⟨.inl ⟨by decide, by decide⟩, by unfold No10; decide⟩
    · exact ⟨.inl ⟨by decide, by decide⟩, by unfold No10; decide⟩
    all_goals exact ⟨(fmt_ok _).1, (fmt_ok _).2.1⟩
  have hl : lnL (jn [wWorlds, dec n] ++ 10 :: jn (lC o n)) = [jn [wWorlds, dec n], jn (lC o n)] := by
    rw [lnL_app _ _ (jn_no10 _ fun w hw => (g1 w hw).2), lnL_one _ (jn_no10 _ fun w hw => (g2 w hw).2)]
  have r1 := read_worlds SX h1 (by omega : n ≤ 64)
  have e1 := lines_one (S := SX) (rest := [jn (lC o n)]) (n := 0) g1 (by decide) r1
  have e2 := lines_one (S := SX) (rest := []) (n := 0 + 1) g2 (by decide) (read_cells (o := o) h1 (by omega) (List.replicate SX.F.length 0) (List.replicate SX.A.length (List.replicate n 0)))
  have hlen : (jn [wWorlds, dec n] ++ 10 :: jn (lC o n)).length ≤ 100000 := by
    have := dec_len' (n := n) (by omega)
    have f1 := fmt_len (csN o 1 n)
    have f2 := fmt_len (csN o 2 n)
    have f3 := fmt_len (csN o 3 n)
    simp only [lC, jn, List.length_append, List.length_cons, List.length_nil, wWorlds, wCells]
    omega
  unfold parseM
  rw [if_neg (by rw [sx_ok]; simp), if_neg (by omega), hl, e1, show jn (lC o n) = jn (wCells :: [[98], fmtS (csN o 1 n), fmtS (csN o 2 n), fmtS (csN o 3 n)]) from rfl]
  rw [show (linesP SX [jn (wCells :: [[98], fmtS (csN o 1 n), fmtS (csN o 2 n), fmtS (csN o 3 n)])] (0 + 1) _) = _ from e2]
  simp only [linesP, ne_eq, not_true_eq_false, if_false]
  exact if_neg (show ¬ n = 0 by omega)
/-- A bit of the row. -/
theorem cells_bit (o : Nat → Nat) (h3 : ∀ i, o i ≤ 3) {n v u : Nat} (hv : v < n) (hu : u < n) :
    ((cellRow n [csN o 1 n, csN o 2 n, csN o 3 n]).getD v 0).testBit u = (decide (v = u) || (decide (0 < o v) && decide (o v = o u))) := by
  unfold cellRow
  rw [List.getD_eq_getElem?_getD, List.getElem?_map, List.getElem?_range hv]
  simp only [Option.map_some, Option.getD_some]
  have hb : ∀ k, (csN o k n).testBit v = decide (o v = k) := fun k => by rw [csN_bit]; simp [hv]
  have hc : ∀ k, (csN o k n).testBit u = decide (o u = k) := fun k => by rw [csN_bit]; simp [hu]
  have := h3 v
  have hv4 : o v = 0 ∨ o v = 1 ∨ o v = 2 ∨ o v = 3 := by omega
  simp only [List.reverse_cons, List.reverse_nil, List.nil_append, List.singleton_append, List.cons_append, List.find?_cons, hb, List.find?_nil]
  rcases hv4 with h | h | h | h
  · simp [h, Nat.testBit_two_pow]
  · simp [h, hc]
    by_cases e : v = u
    · subst e; simp [h]
    · simp [e, eq_comm]
  · simp [h, hc]
    by_cases e : v = u
    · subst e; simp [h]
    · simp [e, eq_comm]
  · simp [h, hc]
    by_cases e : v = u
    · subst e; simp [h]
    · simp [e, eq_comm]
end Mt
