/- The row of a line of cells: plain facts; what setting a row in memory leaves. No condition. -/
import Derived.Test.YtmnhgeggojgflaaGreatDoorMtM
set_option linter.unusedVariables false
set_option linter.unusedSimpArgs false
namespace Mt
open Go.Proofs.YtmnhgeggojgflaaGreatDoor.Ws (mem mem_lt memTo)
def setAll (row : List Nat) (c : Nat) (ms : List Nat) : List Nat := ms.foldl (fun r w => r.set w c) row
theorem setAll_snoc (row : List Nat) (c : Nat) (ms : List Nat) (w : Nat) : setAll row c (ms ++ [w]) = (setAll row c ms).set w c := by simp [setAll]
theorem setAll_len (c : Nat) : ∀ (ms : List Nat) (row : List Nat), (setAll row c ms).length = row.length
  | [], _ => rfl
  | w :: ms, row => by
    show (setAll (row.set w c) c ms).length = row.length
    rw [setAll_len c ms, List.length_set]
theorem setAll_at (c : Nat) : ∀ (ms : List Nat) (row : List Nat) (i : Nat), (setAll row c ms)[i]? = if i ∈ ms then row[i]?.map (fun _ => c) else row[i]?
  | [], _, _ => by simp [setAll]
  | w :: ms, row, i => by
    show (setAll (row.set w c) c ms)[i]? = _
    rw [setAll_at c ms]
    by_cases hi : i ∈ ms
    · rw [if_pos hi, if_pos (by simp [hi])]
      rw [List.getElem?_set]
      by_cases hw : w = i
      · subst hw
        by_cases hl : w < row.length
        · simp [hl]
        · simp [hl, List.getElem?_eq_none (show row.length ≤ w by omega)]
      · simp [hw]
    · rw [if_neg hi]
      by_cases hw : i = w
      · subst hw
        rw [if_pos (by simp), List.getElem?_set]
        by_cases hl : i < row.length
        · simp [hl]
        · simp [hl, List.getElem?_eq_none (show row.length ≤ i by omega)]
      · rw [if_neg (by simp [hw, hi]), List.getElem?_set_ne (fun e => hw e.symm)]
theorem cellRow_len (n : Nat) (x : List Nat) : (cellRow n x).length = n := by simp [cellRow]
theorem cellRow_nil (n : Nat) : cellRow n [] = (List.range n).map (2 ^ ·) := rfl
theorem mem_iff {c n i : Nat} (hc : c < 2 ^ n) (hn : n ≤ 64) : i ∈ mem c ↔ c.testBit i = true := by
  unfold Go.Proofs.YtmnhgeggojgflaaGreatDoor.Ws.mem Go.Proofs.YtmnhgeggojgflaaGreatDoor.Ws.memTo
  rw [List.mem_filter, List.mem_range]
  refine ⟨fun h => h.2, fun h => ⟨?_, h⟩⟩
  by_cases hi : i < 64
  · exact hi
  · rw [Nat.testBit_lt_two_pow (Nat.lt_of_lt_of_le hc (Nat.pow_le_pow_right (by omega) (by omega)))] at h
    cases h
theorem cellRow_snoc {n : Nat} (pre : List Nat) {c : Nat} (hc : c < 2 ^ n) (hn : n ≤ 64) : setAll (cellRow n pre) c (mem c) = cellRow n (pre ++ [c]) := by
  apply List.ext_getElem?
  intro i
  rw [setAll_at]
  have hr : ∀ p : List Nat, (cellRow n p)[i]? = if i < n then some (match p.reverse.find? fun c => c.testBit i with | some c => c | none => 2 ^ i) else none := fun p => by
    unfold cellRow
    rw [List.getElem?_map]
    by_cases hi : i < n
    · rw [if_pos hi, List.getElem?_range hi]
      rfl
    · rw [if_neg hi, List.getElem?_eq_none (by simpa using hi)]
      rfl
  rw [hr, hr, List.reverse_append, List.reverse_singleton, List.singleton_append, List.find?_cons]
  by_cases hb : c.testBit i = true
  · rw [if_pos ((mem_iff hc hn).2 hb), hb]
    by_cases hi : i < n <;> simp [hi]
  · rw [if_neg (fun h => hb ((mem_iff hc hn).1 h))]
    rw [Bool.not_eq_true] at hb
    rw [hb]
theorem set_all_lt {b : Nat} {row : List Nat} {w c : Nat} (h : ∀ x ∈ row, x < b) (hc : c < b) : ∀ x ∈ row.set w c, x < b := fun x hx => by
  rcases mem_set hx with rfl | hx
  · exact hc
  · exact h x hx
/-- The first row, world by world. -/
def oneRow (old : List Nat) (j : Nat) : List Nat := (List.range j).map (2 ^ ·) ++ old.drop j
theorem oneRow_step {old : List Nat} {j : Nat} (h : j < old.length) : (oneRow old j).set j (2 ^ j) = oneRow old (j + 1) := by
  apply List.ext_getElem?
  intro i
  unfold oneRow
  rw [List.getElem?_set]
  by_cases hi : j = i
  · subst hi
    rw [if_pos rfl, if_pos (by simp; omega), List.getElem?_append_left (by simp)]
    simp
  · rw [if_neg hi]
    by_cases hlt : i < j
    · rw [List.getElem?_append_left (by simpa using hlt), List.getElem?_append_left (by simp; omega)]
      simp [List.getElem?_range hlt, List.getElem?_range (show i < j + 1 by omega)]
    · rw [List.getElem?_append_right (by simp; omega), List.getElem?_append_right (by simp; omega)]
      simp only [List.length_map, List.length_range, List.getElem?_drop]
      congr 1
      omega
theorem oneRow_len {old : List Nat} {j n : Nat} (h : old.length = n) (hj : j ≤ n) : (oneRow old j).length = n := by simp [oneRow]; omega
theorem oneRow_all {old : List Nat} {n : Nat} (h : old.length = n) : oneRow old n = cellRow n [] := by
  unfold oneRow
  rw [List.drop_eq_nil_of_le (by omega), List.append_nil, cellRow_nil]
theorem oneRow_lt {old : List Nat} {j n : Nat} (h : ∀ x ∈ old, x < 2 ^ n) (hj : j ≤ n) : ∀ x ∈ oneRow old j, x < 2 ^ n := fun x hx => by
  unfold oneRow at hx
  rcases List.mem_append.1 hx with hx | hx
  · obtain ⟨w, hw, rfl⟩ := List.mem_map.1 hx
    exact Nat.pow_lt_pow_right (by omega) (by have := List.mem_range.1 hw; omega)
  · exact h x (List.mem_of_mem_drop hx)
/-- The reader with another row of cells. -/
def divR (r : St) (k : Nat) (row : List Nat) : St := { r with ce := fun j => decide (j = k) || r.ce j, R := r.R.set k row }
theorem divR_ok {S : Go.Proofs.YtmnhgeggojgflaaGreatDoor.Sg} {r : St} (hr : Ok S r) (k : Nat) {row : List Nat} (hl : row.length = r.W) (hb : ∀ x ∈ row, x < 2 ^ r.W) : Ok S (divR r k row) :=
  ⟨hr.w64, hr.v, fun h => by simp only [divR, List.length_set]; exact hr.a h, hr.vb, fun q hq => by
    rcases mem_set hq with rfl | hq
    · exact hl
    · exact hr.rl q hq, fun q hq => by
    rcases mem_set hq with rfl | hq
    · exact hb
    · exact hr.rb q hq⟩
theorem unionD_cons (c : Nat) (l : List Nat) (a : Nat) : unionD (c :: l) a = if a &&& c = 0 then unionD l (a ||| c) else none := rfl
end Mt
namespace Go.Proofs.YtmnhgeggojgflaaGreatDoor
open Go.RowKit
open Mt
section
variable {w w1 w' : World} {S : Sg} {a f c : Option Addr} {ca cf cc : Nat} {r : St} {Pr : Nat → Prop} {b m0 m1 m2 m3 vb rb : Nat} {rs : List Nat}
theorem RdW.cell (h : RdW w S a f c ca cf cc r Pr b m0 m1 m2 m3 vb rb rs) {k : Nat} (hm : MapT Tryz.prog 3 niV .bool tinyI w1 m3 (mp fun j => decide (j = k) || r.ce j)) (hg : w.grownBy w1 (some m3)) (hk : k < S.A.length) :
    RdW w1 S a f c ca cf cc (divR r k (r.R.getD k [])) Pr b m0 m1 m2 m3 vb rb rs := by
  obtain ⟨n1, n2, n3, n4, n5⟩ := h.nes
  obtain ⟨p1, p2, p3, p4⟩ := n5 m3 (by simp)
  have hkl : k < r.R.length := by rw [h.ok.a h.w0]; exact hk
  have e : r.R.set k (r.R.getD k []) = r.R := by
    rw [List.getD_eq_getElem?_getD, List.getElem?_eq_getElem hkl]
    exact List.set_getElem_self hkl
  have same : ∀ j, j < w.heap.size → j ≠ m3 → w1.heap[j]? = w.heap[j]? := fun j hj h1 => hg.block j hj fun e => h1 (Option.some.inj e)
  have hrow : r.R.getD k [] ∈ r.R := by
    rw [List.getD_eq_getElem?_getD, List.getElem?_eq_getElem hkl]
    exact List.getElem_mem hkl
  have hok := divR_ok h.ok k (h.ok.rl _ hrow) (h.ok.rb _ hrow)
  refine ⟨⟨h.mb.fa.block (same _ h.mb.fa.lt h.mb.n03), h.mb.at_.block (same _ h.mb.at_.1.lt h.mb.n13), h.mb.so.block (same _ h.mb.so.1.lt h.mb.n23), hm, h.mb.n01, h.mb.n02, h.mb.n03, h.mb.n12, h.mb.n13, h.mb.n23, h.mb.pr⟩,
    h.B.block (same _ h.B.lt p1.symm), h.V.block (same _ h.V.lt p2.symm), h.R.block (same _ h.R.lt p3.symm), h.rl, fun j l g h1 h2 => ?_, h.nv, h.nd, h.pv, hok, h.w0⟩
  rw [show (divR r k (r.R.getD k [])).R = r.R from e] at h1
  have hb := h.row j l g h1 h2
  exact hb.block (same _ hb.lt (p4 g (List.mem_of_getElem? h2)).symm)
theorem RdW.rowset {k wd x g : Nat} {row : List Nat} (h : RdW w S a f c ca cf cc (divR r k row) Pr b m0 m1 m2 m3 vb rb rs) (hg : rs[k]? = some g) (hok : Mt.Ok S (divR r k (row.set wd x))) (hkl : k < r.R.length) (hw : w' = w.setCell ⟨g, wd, none⟩ (.int .u64 (x : Int))) :
    RdW w' S a f c ca cf cc (divR r k (row.set wd x)) Pr b m0 m1 m2 m3 vb rb rs := by
  subst hw
  have hgm := List.mem_of_getElem? hg
  obtain ⟨n1, n2, n3, n4, n5⟩ := h.nes
  have same : ∀ j, j ≠ g → (w.setCell ⟨g, wd, none⟩ (.int .u64 (x : Int))).heap[j]? = w.heap[j]? := fun j h3 => Below.heap_setCell _ _ _ _ h3
  have ms := fun m hm => same m ((n5 m hm).2.2.2 g hgm)
  refine ⟨⟨h.mb.fa.block (ms m0 (by simp)), h.mb.at_.block (ms m1 (by simp)), h.mb.so.block (ms m2 (by simp)), h.mb.ce.block (ms m3 (by simp)), h.mb.n01, h.mb.n02, h.mb.n03, h.mb.n12, h.mb.n13, h.mb.n23, h.mb.pr⟩,
    h.B.block (same _ (n4 g hgm).1), h.V.block (same _ (n4 g hgm).2.2), h.R.block (same _ (n4 g hgm).2.1), h.rl, fun j l g' h1 h2 => ?_, h.nv, h.nd, h.pv, hok, h.w0⟩
  by_cases hj : j = k
  · subst hj
    obtain rfl : g = g' := Option.some.inj (hg.symm.trans h2)
    simp only [divR, List.getElem?_set_self hkl, Option.some.injEq] at h1
    subst h1
    have hb := (h.row j row g (by simp only [divR, List.getElem?_set_self hkl]) hg).put wd (.int .u64 (x : Int))
    rwa [u6_arr] at hb
  · simp only [divR] at h1
    rw [List.getElem?_set_ne (fun e => hj e.symm)] at h1
    have hb := h.row j l g' (by simp only [divR]; rw [List.getElem?_set_ne (fun e => hj e.symm)]; exact h1) h2
    have hne : g' ≠ g := fun e => hj ((List.getElem?_inj (by have := (List.getElem?_eq_some_iff.1 h2).1; exact this) h.nd).1 (by rw [h2, hg, e]))
    exact hb.block (same _ hne)
/-- The row of an agent, and its cells. -/
theorem RdW.rowat {k : Nat} {row : List Nat} (h : RdW w S a f c ca cf cc (divR r k row) Pr b m0 m1 m2 m3 vb rb rs) {g : Nat} (hg : rs[k]? = some g) (hkl : k < r.R.length) :
    w.cell? ⟨b, 5, none⟩ = some (.slice (some ⟨rb, 0, none⟩) S.A.length S.A.length) ∧ w.cell? ⟨rb, k, none⟩ = some (.slice (some ⟨g, 0, none⟩) r.W r.W) ∧ Bk w g 45 (u6 row).toArray :=
  ⟨h.B.cell 5, (h.R.cell k).trans (by simp [hg, rowB, divR]), h.row k row g (by simp only [divR, List.getElem?_set_self hkl]) hg⟩
end
end Go.Proofs.YtmnhgeggojgflaaGreatDoor
