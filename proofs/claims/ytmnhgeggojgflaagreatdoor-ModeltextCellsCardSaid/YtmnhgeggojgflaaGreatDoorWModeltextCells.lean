/- The law ModeltextCells answers true. Conditions: the variables lie as they are read. -/
import Derived.Test.YtmnhgeggojgflaaGreatDoorMtY
import Derived.Test.YtmnhgeggojgflaaGreatDoorMtSh
import Derived.Test.YtmnhgeggojgflaaGreatDoorMtX
set_option linter.unusedVariables false
set_option linter.unusedSimpArgs false
namespace Go.Proofs.YtmnhgeggojgflaaGreatDoor
open Go.RowKit
open Mt
open Ev (Md Okm modelE)
attribute [local go_sem] Oper.semAt_some
theorem nat_u8 {a : Int} (h : (Lit.int .u8 a).wf = true) : ∃ n : Nat, a = n ∧ n < 256 := by
  simp [Lit.wf, IntKind.min, IntKind.max, IntKind.signed, IntKind.bits] at h
  exact ⟨a.toNat, by omega, by omega⟩
theorem infoMtInt : (Tryz.prog.info? 3).map (fun i => (i.zero, i.size, i.bytes)) = some (some (.int .i64 0), 1, 8) := by kernel_rfl
def iC (o : Nat → Nat) (n i : Nat) : List Value := (List.range n).map fun j => .int .i64 ((if j < i then o j else 0 : Nat) : Int)
theorem iC_len (o : Nat → Nat) (n i : Nat) : (iC o n i).length = n := by simp [iC]
theorem iC_at {o : Nat → Nat} {n i j : Nat} (h : j < n) : (iC o n i)[j]? = some (.int .i64 ((if j < i then o j else 0 : Nat) : Int)) := by
  unfold iC
  rw [List.getElem?_map, List.getElem?_range h]
  rfl
theorem iC_set {o : Nat → Nat} {n i : Nat} : (iC o n i).set i (.int .i64 ((o i : Nat) : Int)) = iC o n (i + 1) := by
  apply List.ext_getElem?
  intro j
  rw [List.getElem?_set, iC_len]
  by_cases hj : j < n
  · rw [iC_at hj, iC_at hj]
    by_cases h : i = j
    · subst h; rw [if_pos rfl, if_pos hj, if_pos (Nat.lt_succ_self _)]
    · rw [if_neg h]
      by_cases h2 : j < i
      · rw [if_pos h2, if_pos (by omega)]
      · rw [if_neg h2, if_neg (by omega)]
  · rw [List.getElem?_eq_none (by rw [iC_len]; omega), List.getElem?_eq_none (by rw [iC_len]; omega)]
    by_cases h : i = j
    · rw [if_pos h, if_neg (by omega)]
    · rw [if_neg h]
theorem iC_next {o : Nat → Nat} {n i : Nat} (h : o i = 0) : iC o n i = iC o n (i + 1) := by
  unfold iC
  apply List.map_congr_left
  intro j hj
  by_cases h1 : j < i
  · rw [if_pos h1, if_pos (by omega)]
  · rw [if_neg h1]
    by_cases h2 : j < i + 1
    · obtain rfl : j = i := by omega
      rw [if_pos h2, h]
    · rw [if_neg h2]
theorem run_mk_int (n : Nat) (h : n ≤ 35184372088832) (w : World) : (Instr.makeSlice 42 (.int .i64 (n : Int)) (.int .i64 (n : Int))).run Tryz.prog w = .ok (.slice (some ⟨w.heap.size, 0, none⟩) n n) (w.alloc (.cells (iC (fun _ => 0) n 0).toArray 3)) := by
  have e : madeCells #[.int .i64 0] n = (iC (fun _ => 0) n 0).toArray := by
    apply Array.ext_getElem?
    intro i
    by_cases hi : i < n
    · rw [List.getElem?_toArray (xs := iC _ _ _), iC_at hi]
      simp [madeCells, hi, Nat.mod_one]
    · rw [List.getElem?_toArray (xs := iC _ _ _), List.getElem?_eq_none (l := iC _ _ _) (by rw [iC_len]; omega)]
      simp [madeCells, hi]
  rw [← e]
  exact run_make_row' 42 3 (.int .i64 0) 8 Tryz.underlying42 infoMtInt rfl .i64 .i64 n (by omega) (by omega) w
/-- The text ahead of the sets. -/
def bT (n : Nat) : List UInt8 := jn [wWorlds, dec n] ++ 10 :: [99, 101, 108, 108, 115, 32, 98]
theorem conv_rune (r : Int) (w : World) : (convert 21 9 (.int .i32 r)).run Tryz.prog w = .ok (.string (Utf8.encode r)) w := run_convert_int_string w 21 9 .i32 r (by rw [Tryz.underlying21]; rfl) Tryz.underlying9
/-- The text of the sets ahead of the set k. -/
def sT (o : Nat → Nat) (n k : Nat) : List UInt8 := (List.range (k - 1)).flatMap fun j => 32 :: Ws.fmtS (csN o (j + 1) n)
theorem sT_succ (o : Nat → Nat) {n k : Nat} (hn : n ≤ 64) (hk : 1 ≤ k) : sT o n (k + 1) = sT o n k ++ ([32, 123] ++ Ws.joinT (csL o k n) ++ [125]) := by
  obtain ⟨j, rfl⟩ : ∃ j, k = j + 1 := ⟨k - 1, by omega⟩
  unfold sT
  rw [show j + 1 + 1 - 1 = j + 1 by omega, show j + 1 - 1 = j by omega, List.range_succ, List.flatMap_append]
  simp [Ws.fmtS, mem_csN o (j + 1) hn]
theorem sT_all (o : Nat → Nat) (n : Nat) : bT n ++ sT o n 4 = jn [wWorlds, dec n] ++ 10 :: jn (lC o n) := by
  simp [bT, sT, lC, jn, wCells, List.range_succ]
theorem csL_len (o : Nat → Nat) (k n : Nat) : (csL o k n).length ≤ n := by
  unfold csL
  have := List.length_filter_le (fun i => decide (o i = k)) (List.range n)
  simpa using this
theorem csT_len (o : Nat → Nat) (k : Nat) {n : Nat} (hn : n ≤ 12) : (Ws.joinT (csL o k n)).length ≤ 36 := by
  have h1 := Ws.joinT_len (csL o k n) fun x hx => by have := csL_lt x hx; omega
  have h2 := csL_len o k n
  omega
theorem sT_len (o : Nat → Nat) {n k : Nat} (hn : n ≤ 12) (hk1 : 1 ≤ k) (hk : k ≤ 4) : (sT o n k).length ≤ 200 := by
  have h : ∀ j, 1 ≤ j → j ≤ 4 → (sT o n j).length ≤ 39 * j := by
    intro j
    induction j with
    | zero => intro h; omega
    | succ j ih =>
      intro _ h4
      by_cases h0 : j = 0
      · subst h0; simp [sT]
      · have := ih (by omega) (by omega)
        rw [sT_succ o (by omega) (by omega)]
        have := csT_len o j hn
        simp only [List.length_append, List.length_cons, List.length_nil]
        omega
  have := h k hk1 hk
  omega
theorem bT_len {n : Nat} (hn : n ≤ 12) : (bT n).length ≤ 30 := by
  have := dec_len' (n := n) (by omega)
  simp only [bT, jn, wWorlds, List.length_append, List.length_cons, List.length_nil]
  omega
theorem txt_sz (l : List UInt8) : (txt l).size = l.length := by simp [txt, ByteArray.size]
theorem txt_cat (a b : List UInt8) : txt a ++ txt b = txt (a ++ b) := by
  apply ByteArray.ext
  simp [txt, ByteArray.data_append]
theorem toList_mk' (l : List UInt8) : ∀ (k i : Nat) (r : List UInt8), i + k = l.length → ByteArray.toList.loop (txt l) i r = r.reverse ++ l.drop i := by
  intro k
  induction k with
  | zero =>
    intro i r h
    unfold ByteArray.toList.loop
    rw [if_neg (by rw [txt_sz]; omega), List.drop_eq_nil_of_le (by omega), List.append_nil]
  | succ k ih =>
    intro i r h
    unfold ByteArray.toList.loop
    rw [if_pos (by rw [txt_sz]; omega), ih (i + 1) _ (by omega)]
    have hd : l.drop i = l[i]'(by omega) :: l.drop (i + 1) := List.drop_eq_getElem_cons (by omega)
    rw [hd]
    have hg : (txt l).get! i = l[i]'(by omega) := by
      show l.toArray[i]! = _
      simp [show i < l.length by omega]
    rw [hg]
    simp
theorem toList_ne {l : List UInt8} (h : l ≠ []) : (!(txt l).toList.isEmpty) = true := by
  have e : (txt l).toList = l := by
    show ByteArray.toList.loop (txt l) 0 [] = l
    rw [toList_mk' l l.length 0 [] (by omega)]
    simp
  rw [e]
  cases l with
  | nil => exact absurd rfl h
  | cons => rfl
def Mc (o : Nat → Nat) (n : Nat) : Md := ⟨n, [0, 0], [List.replicate n 0, cellRow n [csN o 1 n, csN o 2 n, csN o 3 n]]⟩
theorem sbitC {s : Nat} (k : Nat) (hs : s < 18446744073709551616) : (bits .and .u64 ((s : Int) / 2 ^ k) 1 == 1) = s.testBit k := by
  have e : (s : Int) / 2 ^ k = ((s / 2 ^ k : Nat) : Int) := by simp
  have hlt : s / 2 ^ k < 18446744073709551616 := Nat.lt_of_le_of_lt (Nat.div_le_self _ _) hs
  have h1 := bits_and_u64_nat (s / 2 ^ k) 1 hlt (by decide)
  rw [e, show (1 : Int) = ((1 : Nat) : Int) from rfl, h1, Nat.and_one_is_mod, Nat.testBit_eq_decide_div_mod_eq]
  rcases Nat.mod_two_eq_zero_or_one (s / 2 ^ k) with h | h <;> rw [h] <;> rfl
theorem iC_zero (o o' : Nat → Nat) (n : Nat) : iC o n 0 = iC o' n 0 := by simp [iC]
/-- The number of the set in which a world is. -/
def oL (l : List Int) (i : Nat) : Nat := if i < l.length then (l.getD i 0).toNat % 4 else 0
theorem oL_le (l : List Int) (i : Nat) : oL l i ≤ 3 := by unfold oL; split <;> omega
theorem parseC_eq (o : Nat → Nat) {n : Nat} (h1 : 1 ≤ n) (h12 : n ≤ 12) : parseM SX (txt (bT n ++ sT o n 4)).data.toList = (Mc o n, 0, 0) := by
  rw [data_txt, sT_all]
  exact cells_law o h1 h12
theorem parseC (o : Nat → Nat) {n : Nat} (h1 : 1 ≤ n) (h12 : n ≤ 12) {W : World} {a f : Option Addr} (hs : SigR W SX a 2 f 2 none 0) (hT : Tab W) (hU : Ws.Tab W) :
    Calls Tryz.prog 13 #[.agg #[.slice a 2 2, .slice f 2 2, .slice none 0 0], .string (txt (bT n ++ sT o n 4))] W fun e w' => ∃ (va : Option Addr) (cv : Nat) (ra : Option Addr) (cr : Nat) (rs : List (Option Addr × Nat)), e = .returned (.tuple #[.agg #[.int .i64 (n : Int), .slice va 2 cv, .slice ra 2 cr], .int .i64 0, .int .i64 0]) ∧ MdR w' (Mc o n) va cv ra cr rs ∧ Keep NoF W w' := by
  have e1 := parseC_eq o h1 h12
  generalize txt (bT n ++ sT o n 4) = tt at *
  have h := mtParse_any SX a f none 2 2 0 tt W hs hT hU
  rw [e1] at h
  refine Calls.mono h ?_
  rintro e w' ⟨va, cv, ra, cr, rs, he, hM, hk⟩
  exact ⟨va, cv, ra, cr, rs, he, hM, hk⟩
section
set_option maxRecDepth 100000
set_option maxHeartbeats 4000000
theorem walk_ModeltextCells (n0 : Nat) (l : List Int) (A : Option Addr) (c : Nat) (w : World) (hn0 : n0 < 256) (hll : l.length ≤ 9223372036854775807) (hrd : Rd w (.slice A l.length c) 1 l.length (l.map (.int .u8))) (hwf : ∀ n ∈ l, (Lit.int .u8 n).wf = true) (hT : Tab w ∧ Ws.Tab w) :
    Calls Tryz.prog 6 #[.int .u8 n0, .slice A l.length c] w fun e w' => e = .returned (.bool true) ∧ Keep NoF w w' := by
  have HAW : Hid (∀ W, Keep NoF w W → Calls Tryz.prog 10 #[] W fun e w' => e = .returned (.bool true) ∧ Keep NoF W w') := Lib.hid fun W k => awakeMt_any W (hT.1.keep0 k) (hT.2.keep0 k)
  obtain ⟨m, hm⟩ : ∃ m, m = n0 % 12 := ⟨_, rfl⟩
  have hm12 : m < 12 := by omega
  have e1 : (n0 : Int) % 12 = (m : Int) := by omega
  obtain ⟨n, hn⟩ : ∃ n, n = m + 1 := ⟨_, rfl⟩
  have e2 : (1 : Int) + (m : Int) = (n : Int) := by omega
  have hn1 : 1 ≤ n := by omega
  have hn12 : n ≤ 12 := by omega
  have HT := Lib.hid hT
  have hmk := run_mk_int n (by omega)
  have HR := Lib.hid hrd
  have HU : Hid (∀ i, i < l.length → ∃ x : Nat, l.getD i 0 = (x : Int) ∧ x < 256) := Lib.hid fun i hi => by
    have h1 := hwf (l.getD i 0) (by rw [List.getD_eq_getElem?_getD, List.getElem?_eq_getElem hi]; exact List.getElem_mem hi)
    generalize l.getD i 0 = x at *
    simp [Lit.wf, IntKind.min, IntKind.max, IntKind.signed, IntKind.bits] at h1
    exact ⟨x.toNat, by omega, by omega⟩
  have HN := Lib.hid hn
  clear hm hn0 hrd hwf hT hn
  by_cases hl20 : 20 < (l.length : Int)
  · go_enter Tryz.func6, Tryz.ntmps6
    go_wp2_with (go_at_call 10; (with_reducible refine (HAW.out _ (Keep.refl _ _)).mono ?_); rintro e w2 ⟨rfl, K2⟩)
    go_ret
    exact ⟨rfl, K2⟩
  have hl20' : (l.length : Int) ≤ 20 := by omega
  go_enter Tryz.func6, Tryz.ntmps6
  go_upto_region 6 with (fail)
  have b1 := Bk.new w 3 (iC (fun _ => 0) n 0).toArray
  rw [iC_zero (fun _ => 0) (oL l)] at b1
  have k1 : Keep NoF w (w.alloc (.cells (iC (fun _ => 0) n 0).toArray 3)) := (Keep.refl _ _).alloc _
  rw [← iC_zero (fun _ => 0) (oL l)] at b1
  have HS1 : Hid (Bk (w.alloc (.cells (iC (fun _ => 0) n 0).toArray 3)) w.heap.size 3 (iC (oL l) n 0).toArray ∧ Keep NoF w (w.alloc (.cells (iC (fun _ => 0) n 0).toArray 3))) := Lib.hid ⟨by rw [iC_zero (oL l) (fun _ => 0)]; exact b1, k1⟩
  clear b1 k1 hmk
  generalize w.alloc (.cells (iC (fun _ => 0) n 0).toArray 3) = W1 at *
  go_loopw [30] (fun v wr => ∃ i : Nat, v = .int .i64 i ∧ i ≤ n ∧ Hid (Bk wr w.heap.size 3 (iC (oL l) n i).toArray ∧ Keep NoF w wr)) (fun v _ => n - (intOf v).toNat)
  case atStart => exact ⟨0, rfl, by omega, HS1⟩
  case round =>
    obtain ⟨i, rfl, hi, HQ⟩ := hrel
    by_cases hlt : i < n
    · have hlt' : (i : Int) < (n : Int) := by omega
      have hi0 : (0 : Int) ≤ (i : Int) := by omega
      by_cases hil : i < l.length
      · obtain ⟨x, hx, hx256⟩ := HU.out i hil
        have hil' : (i : Int) < (l.length : Int) := by omega
        obtain ⟨-, hcc, bl, off, rfl, hcell⟩ := (HR.out.kept HQ.out.2 fun _ _ h => h).at_ (by omega)
        have hc := hcell i (.int .u8 (x : Int)) (by rw [List.getElem?_map, List.getElem?_eq_getElem hil]; rw [List.getD_eq_getElem?_getD, List.getElem?_eq_getElem hil] at hx; simp only [Option.getD_some] at hx; rw [hx]; rfl)
        have hy : oL l i = x % 4 := by unfold oL; rw [if_pos hil, hx]; rfl
        obtain ⟨y, hye⟩ : ∃ y, y = x % 4 := ⟨_, rfl⟩
        have e4 : (x : Int) % 4 = (y : Int) := by omega
        have hst : Hid (iC (oL l) n (i + 1) = (iC (oL l) n i).set i (.int .i64 (y : Int))) := Lib.hid (by rw [hye, ← hy]; exact iC_set.symm)
        have hf : wr.frozen? ⟨w.heap.size, i, none⟩ = false := HQ.out.1.frozen i
        have hg : wr.cell? ⟨w.heap.size, i, none⟩ = some (.int .i64 ((if i < i then oL l i else 0 : Nat) : Int)) := (HQ.out.1.cell i).trans (by rw [List.getElem?_toArray]; exact iC_at hlt)
        rw [if_neg (Nat.lt_irrefl _)] at hg
        have hPut := Lib.hid (HQ.out.1.put i (.int .i64 (y : Int)))
        have hKP := Lib.hid (HQ.out.2.setCell (p := ⟨w.heap.size, i, none⟩) (.inr (Nat.le_refl _)) (.int .i64 (y : Int)))
        clear hx hy hye hcell
        go_wp2
        go_roundw
        case rel => exact ⟨i + 1, by go_num, by omega, Lib.hid ⟨by rw [hst.out]; simpa using hPut.out, hKP.out⟩⟩
        case measure => simp only [intOf]; omega
      · have hil' : ¬ (i : Int) < (l.length : Int) := by omega
        have hst : Hid (iC (oL l) n i = iC (oL l) n (i + 1)) := Lib.hid (iC_next (by unfold oL; rw [if_neg hil]))
        go_wp2
        go_roundw
        case rel => exact ⟨i + 1, by go_num, by omega, Lib.hid ⟨by rw [← hst.out]; exact HQ.out.1, HQ.out.2⟩⟩
        case measure => simp only [intOf]; omega
    · obtain rfl : i = n := by omega
      go_upto_region 11 with (fail)
      have hcv := conv_rune
      have HTL := Lib.hid fun (s : ByteArray) (W : World) => Tryz.strings_TrimLeft_one s 48 (by decide) W
      go_cut [8] from 47 to 62 (fun v8 wc => v8 = .string (txt (bT i)) ∧ wc = wr)
      case first =>
        have hcases : i = 1 ∨ i = 2 ∨ i = 3 ∨ i = 4 ∨ i = 5 ∨ i = 6 ∨ i = 7 ∨ i = 8 ∨ i = 9 ∨ i = 10 ∨ i = 11 ∨ i = 12 := by omega
        have z0 : Utf8.encode 48 = ⟨#[48]⟩ := rfl
        have z1 : Utf8.encode 49 = ⟨#[49]⟩ := rfl
        have z2 : Utf8.encode 50 = ⟨#[50]⟩ := rfl
        have z3 : Utf8.encode 51 = ⟨#[51]⟩ := rfl
        have z4 : Utf8.encode 52 = ⟨#[52]⟩ := rfl
        have z5 : Utf8.encode 53 = ⟨#[53]⟩ := rfl
        have z6 : Utf8.encode 54 = ⟨#[54]⟩ := rfl
        have z7 : Utf8.encode 55 = ⟨#[55]⟩ := rfl
        have z8 : Utf8.encode 56 = ⟨#[56]⟩ := rfl
        have z9 : Utf8.encode 57 = ⟨#[57]⟩ := rfl
        have y0 : Lib.trimLeftB [48, 48] 48 = [] := rfl
        have y1 : Lib.trimLeftB [48, 49] 48 = [49] := rfl
        rcases hcases with rfl | rfl | rfl | rfl | rfl | rfl | rfl | rfl | rfl | rfl | rfl | rfl
        all_goals
          go_wp2_with (go_at_call 18; (with_reducible refine (HTL.out _ _).mono ?_); rintro e w' ⟨rfl, hw'⟩; obtain rfl := hw'.symm)
        all_goals go_meet
        all_goals exact ⟨congrArg Value.string (by decide +kernel), rfl⟩
      case rest =>
        obtain ⟨rfl, hwc⟩ := hcut
        obtain rfl : wc = wr := hwc
        have HD := Lib.hid HQ
        clear HTL hcv
        go_upto_region 13 with (fail)
        generalize hwz : wc = wz at *
        clear hwz
        go_loopw [8, 9] (fun v8 v9 wr => ∃ k : Nat, v9 = .int .i64 k ∧ 1 ≤ k ∧ k ≤ 4 ∧ v8 = .string (txt (bT i ++ sT (oL l) i k)) ∧ wr = wz) (fun _ v _ => 4 - (intOf v).toNat)
        case atStart => exact ⟨1, rfl, by omega, by omega, by simp [sT], rfl⟩
        case round =>
          obtain ⟨k, rfl, hk1, hk4, rfl, hw⟩ := hrel
          obtain rfl := hw.symm; clear hw
          by_cases hk : k < 4
          · have hk' : (k : Int) < 4 := by omega
            go_upto_region 17 with (fail)
            go_loopw [10, 68] (fun v10 v68 wr => ∃ j : Nat, v68 = .int .i64 j ∧ j ≤ i ∧ v10 = .string (txt (Ws.joinT (csL (oL l) k j))) ∧ wr = wz) (fun _ v _ => i - (intOf v).toNat)
            case atStart => exact ⟨0, rfl, by omega, rfl, rfl⟩
            case round =>
              obtain ⟨j, rfl, hj, rfl, hw⟩ := hrel
              obtain rfl := hw.symm; clear hw
              by_cases hlj : j < i
              · have hlj' : (j : Int) < (i : Int) := by omega
                have hj0 : (0 : Int) ≤ (j : Int) := by omega
                have hcell : wz.cell? ⟨w.heap.size, j, none⟩ = some (.int .i64 ((oL l j : Nat) : Int)) := (HQ.out.1.cell j).trans (by rw [List.getElem?_toArray, iC_at hlj, if_pos hlj])
                have hstep := csT_prog (oL l) k j (by omega)
                by_cases ho : oL l j = k
                · rw [if_pos ho] at hstep
                  rw [ho] at hcell
                  have HST := Lib.hid hstep
                  have hk3 : k ≤ 3 := by omega
                  have ho' : (((k : Nat) : Int) == (k : Int)) = true := by simp
                  have hS36 := csT_len (oL l) k (n := j) (by omega)
                  clear hstep
                  generalize Ws.joinT (csL (oL l) k j) = S0 at *
                  go_upto_region 20 with (fail)
                  obtain ⟨S1, hS1⟩ : ∃ S1, (if S0 ≠ [] then S0 ++ [32] else S0) = S1 := ⟨_, rfl⟩
                  rw [hS1] at HST
                  have HS1 := Lib.hid hS1
                  clear hS1
                  by_cases hS0 : S0 = []
                  · subst hS0
                    have hte : txt [] = ⟨#[]⟩ := rfl
                    go_upto_region 22 with (fail)
                    have hcv := conv_rune
                    have HTL := Lib.hid fun (s : ByteArray) (W : World) => Tryz.strings_TrimLeft_one s 48 (by decide) W
                    have hcases : j = 0 ∨ j = 1 ∨ j = 2 ∨ j = 3 ∨ j = 4 ∨ j = 5 ∨ j = 6 ∨ j = 7 ∨ j = 8 ∨ j = 9 ∨ j = 10 ∨ j = 11 := by omega
                    have z0 : Utf8.encode 48 = ⟨#[48]⟩ := rfl
                    have z1 : Utf8.encode 49 = ⟨#[49]⟩ := rfl
                    have z2 : Utf8.encode 50 = ⟨#[50]⟩ := rfl
                    have z3 : Utf8.encode 51 = ⟨#[51]⟩ := rfl
                    have z4 : Utf8.encode 52 = ⟨#[52]⟩ := rfl
                    have z5 : Utf8.encode 53 = ⟨#[53]⟩ := rfl
                    have z6 : Utf8.encode 54 = ⟨#[54]⟩ := rfl
                    have z7 : Utf8.encode 55 = ⟨#[55]⟩ := rfl
                    have z8 : Utf8.encode 56 = ⟨#[56]⟩ := rfl
                    have z9 : Utf8.encode 57 = ⟨#[57]⟩ := rfl
                    have y0 : Lib.trimLeftB [48] 48 = [] := rfl
                    have y1 : Lib.trimLeftB [49] 48 = [49] := rfl
                    rcases hcases with rfl | rfl | rfl | rfl | rfl | rfl | rfl | rfl | rfl | rfl | rfl | rfl
                    · go_wp2_with (go_at_call 18; (with_reducible refine (HTL.out _ _).mono ?_); rintro e w' ⟨rfl, hw'⟩; obtain rfl := hw'.symm)
                      go_roundw
                      case rel => exact ⟨1, by go_num, by omega, by rw [HST.out, ← HS1.out]; exact congrArg Value.string (by decide +kernel), by trivial⟩
                      case measure => simp only [intOf]; omega
                    · go_wp2_with (go_at_call 18; (with_reducible refine (HTL.out _ _).mono ?_); rintro e w' ⟨rfl, hw'⟩; obtain rfl := hw'.symm)
                      go_roundw
                      case rel => exact ⟨2, by go_num, by omega, by rw [HST.out, ← HS1.out]; exact congrArg Value.string (by decide +kernel), by trivial⟩
                      case measure => simp only [intOf]; omega
                    · go_wp2_with (go_at_call 18; (with_reducible refine (HTL.out _ _).mono ?_); rintro e w' ⟨rfl, hw'⟩; obtain rfl := hw'.symm)
                      go_roundw
                      case rel => exact ⟨3, by go_num, by omega, by rw [HST.out, ← HS1.out]; exact congrArg Value.string (by decide +kernel), by trivial⟩
                      case measure => simp only [intOf]; omega
                    · go_wp2_with (go_at_call 18; (with_reducible refine (HTL.out _ _).mono ?_); rintro e w' ⟨rfl, hw'⟩; obtain rfl := hw'.symm)
                      go_roundw
                      case rel => exact ⟨4, by go_num, by omega, by rw [HST.out, ← HS1.out]; exact congrArg Value.string (by decide +kernel), by trivial⟩
                      case measure => simp only [intOf]; omega
                    · go_wp2_with (go_at_call 18; (with_reducible refine (HTL.out _ _).mono ?_); rintro e w' ⟨rfl, hw'⟩; obtain rfl := hw'.symm)
                      go_roundw
                      case rel => exact ⟨5, by go_num, by omega, by rw [HST.out, ← HS1.out]; exact congrArg Value.string (by decide +kernel), by trivial⟩
                      case measure => simp only [intOf]; omega
                    · go_wp2_with (go_at_call 18; (with_reducible refine (HTL.out _ _).mono ?_); rintro e w' ⟨rfl, hw'⟩; obtain rfl := hw'.symm)
                      go_roundw
                      case rel => exact ⟨6, by go_num, by omega, by rw [HST.out, ← HS1.out]; exact congrArg Value.string (by decide +kernel), by trivial⟩
                      case measure => simp only [intOf]; omega
                    · go_wp2_with (go_at_call 18; (with_reducible refine (HTL.out _ _).mono ?_); rintro e w' ⟨rfl, hw'⟩; obtain rfl := hw'.symm)
                      go_roundw
                      case rel => exact ⟨7, by go_num, by omega, by rw [HST.out, ← HS1.out]; exact congrArg Value.string (by decide +kernel), by trivial⟩
                      case measure => simp only [intOf]; omega
                    · go_wp2_with (go_at_call 18; (with_reducible refine (HTL.out _ _).mono ?_); rintro e w' ⟨rfl, hw'⟩; obtain rfl := hw'.symm)
                      go_roundw
                      case rel => exact ⟨8, by go_num, by omega, by rw [HST.out, ← HS1.out]; exact congrArg Value.string (by decide +kernel), by trivial⟩
                      case measure => simp only [intOf]; omega
                    · go_wp2_with (go_at_call 18; (with_reducible refine (HTL.out _ _).mono ?_); rintro e w' ⟨rfl, hw'⟩; obtain rfl := hw'.symm)
                      go_roundw
                      case rel => exact ⟨9, by go_num, by omega, by rw [HST.out, ← HS1.out]; exact congrArg Value.string (by decide +kernel), by trivial⟩
                      case measure => simp only [intOf]; omega
                    · go_wp2_with (go_at_call 18; (with_reducible refine (HTL.out _ _).mono ?_); rintro e w' ⟨rfl, hw'⟩; obtain rfl := hw'.symm)
                      go_roundw
                      case rel => exact ⟨10, by go_num, by omega, by rw [HST.out, ← HS1.out]; exact congrArg Value.string (by decide +kernel), by trivial⟩
                      case measure => simp only [intOf]; omega
                    · go_wp2_with (go_at_call 18; (with_reducible refine (HTL.out _ _).mono ?_); rintro e w' ⟨rfl, hw'⟩; obtain rfl := hw'.symm)
                      go_roundw
                      case rel => exact ⟨11, by go_num, by omega, by rw [HST.out, ← HS1.out]; exact congrArg Value.string (by decide +kernel), by trivial⟩
                      case measure => simp only [intOf]; omega
                    · go_wp2_with (go_at_call 18; (with_reducible refine (HTL.out _ _).mono ?_); rintro e w' ⟨rfl, hw'⟩; obtain rfl := hw'.symm)
                      go_roundw
                      case rel => exact ⟨12, by go_num, by omega, by rw [HST.out, ← HS1.out]; exact congrArg Value.string (by decide +kernel), by trivial⟩
                      case measure => simp only [intOf]; omega
                  · have hq1 : txt S0 ++ ⟨#[32]⟩ = txt (S0 ++ [32]) := txt_cat S0 [32]
                    have hq2 : ¬ 9223372036854775807 < (txt S0).size + 1 := by rw [txt_sz]; omega
                    have hq3 : (!(txt S0).toList.isEmpty) = true := toList_ne hS0
                    have x1 : ¬ 9223372036854775807 < (txt (S0 ++ [32])).size + 1 := by rw [txt_sz, List.length_append]; simp only [List.length_cons, List.length_nil]; omega
                    have x2 : ¬ 9223372036854775807 < (txt (S0 ++ [32])).size + 2 := by rw [txt_sz, List.length_append]; simp only [List.length_cons, List.length_nil]; omega
                    go_upto_region 22 with (fail)
                    have hcv := conv_rune
                    have HTL := Lib.hid fun (s : ByteArray) (W : World) => Tryz.strings_TrimLeft_one s 48 (by decide) W
                    have hcases : j = 0 ∨ j = 1 ∨ j = 2 ∨ j = 3 ∨ j = 4 ∨ j = 5 ∨ j = 6 ∨ j = 7 ∨ j = 8 ∨ j = 9 ∨ j = 10 ∨ j = 11 := by omega
                    have z0 : Utf8.encode 48 = ⟨#[48]⟩ := rfl
                    have z1 : Utf8.encode 49 = ⟨#[49]⟩ := rfl
                    have z2 : Utf8.encode 50 = ⟨#[50]⟩ := rfl
                    have z3 : Utf8.encode 51 = ⟨#[51]⟩ := rfl
                    have z4 : Utf8.encode 52 = ⟨#[52]⟩ := rfl
                    have z5 : Utf8.encode 53 = ⟨#[53]⟩ := rfl
                    have z6 : Utf8.encode 54 = ⟨#[54]⟩ := rfl
                    have z7 : Utf8.encode 55 = ⟨#[55]⟩ := rfl
                    have z8 : Utf8.encode 56 = ⟨#[56]⟩ := rfl
                    have z9 : Utf8.encode 57 = ⟨#[57]⟩ := rfl
                    have y0 : Lib.trimLeftB [48] 48 = [] := rfl
                    have y1 : Lib.trimLeftB [49] 48 = [49] := rfl
                    rcases hcases with rfl | rfl | rfl | rfl | rfl | rfl | rfl | rfl | rfl | rfl | rfl | rfl
                    · go_wp2_with (go_at_call 18; (with_reducible refine (HTL.out _ _).mono ?_); rintro e w' ⟨rfl, hw'⟩; obtain rfl := hw'.symm)
                      go_roundw
                      case rel => exact ⟨1, by go_num, by omega, by rw [HST.out, ← HS1.out, if_pos hS0]; exact congrArg Value.string ((congrArg (txt (S0 ++ [32]) ++ ·) (show (⟨#[]⟩ ++ ⟨#[48]⟩ : ByteArray) = txt (dec 0) from by decide +kernel)).trans (txt_cat _ _)), by trivial⟩
                      case measure => simp only [intOf]; omega
                    · go_wp2_with (go_at_call 18; (with_reducible refine (HTL.out _ _).mono ?_); rintro e w' ⟨rfl, hw'⟩; obtain rfl := hw'.symm)
                      go_roundw
                      case rel => exact ⟨2, by go_num, by omega, by rw [HST.out, ← HS1.out, if_pos hS0]; exact congrArg Value.string ((congrArg (txt (S0 ++ [32]) ++ ·) (show (⟨#[]⟩ ++ ⟨#[49]⟩ : ByteArray) = txt (dec 1) from by decide +kernel)).trans (txt_cat _ _)), by trivial⟩
                      case measure => simp only [intOf]; omega
                    · go_wp2_with (go_at_call 18; (with_reducible refine (HTL.out _ _).mono ?_); rintro e w' ⟨rfl, hw'⟩; obtain rfl := hw'.symm)
                      go_roundw
                      case rel => exact ⟨3, by go_num, by omega, by rw [HST.out, ← HS1.out, if_pos hS0]; exact congrArg Value.string ((congrArg (txt (S0 ++ [32]) ++ ·) (show (⟨#[]⟩ ++ ⟨#[50]⟩ : ByteArray) = txt (dec 2) from by decide +kernel)).trans (txt_cat _ _)), by trivial⟩
                      case measure => simp only [intOf]; omega
                    · go_wp2_with (go_at_call 18; (with_reducible refine (HTL.out _ _).mono ?_); rintro e w' ⟨rfl, hw'⟩; obtain rfl := hw'.symm)
                      go_roundw
                      case rel => exact ⟨4, by go_num, by omega, by rw [HST.out, ← HS1.out, if_pos hS0]; exact congrArg Value.string ((congrArg (txt (S0 ++ [32]) ++ ·) (show (⟨#[]⟩ ++ ⟨#[51]⟩ : ByteArray) = txt (dec 3) from by decide +kernel)).trans (txt_cat _ _)), by trivial⟩
                      case measure => simp only [intOf]; omega
                    · go_wp2_with (go_at_call 18; (with_reducible refine (HTL.out _ _).mono ?_); rintro e w' ⟨rfl, hw'⟩; obtain rfl := hw'.symm)
                      go_roundw
                      case rel => exact ⟨5, by go_num, by omega, by rw [HST.out, ← HS1.out, if_pos hS0]; exact congrArg Value.string ((congrArg (txt (S0 ++ [32]) ++ ·) (show (⟨#[]⟩ ++ ⟨#[52]⟩ : ByteArray) = txt (dec 4) from by decide +kernel)).trans (txt_cat _ _)), by trivial⟩
                      case measure => simp only [intOf]; omega
                    · go_wp2_with (go_at_call 18; (with_reducible refine (HTL.out _ _).mono ?_); rintro e w' ⟨rfl, hw'⟩; obtain rfl := hw'.symm)
                      go_roundw
                      case rel => exact ⟨6, by go_num, by omega, by rw [HST.out, ← HS1.out, if_pos hS0]; exact congrArg Value.string ((congrArg (txt (S0 ++ [32]) ++ ·) (show (⟨#[]⟩ ++ ⟨#[53]⟩ : ByteArray) = txt (dec 5) from by decide +kernel)).trans (txt_cat _ _)), by trivial⟩
                      case measure => simp only [intOf]; omega
                    · go_wp2_with (go_at_call 18; (with_reducible refine (HTL.out _ _).mono ?_); rintro e w' ⟨rfl, hw'⟩; obtain rfl := hw'.symm)
                      go_roundw
                      case rel => exact ⟨7, by go_num, by omega, by rw [HST.out, ← HS1.out, if_pos hS0]; exact congrArg Value.string ((congrArg (txt (S0 ++ [32]) ++ ·) (show (⟨#[]⟩ ++ ⟨#[54]⟩ : ByteArray) = txt (dec 6) from by decide +kernel)).trans (txt_cat _ _)), by trivial⟩
                      case measure => simp only [intOf]; omega
                    · go_wp2_with (go_at_call 18; (with_reducible refine (HTL.out _ _).mono ?_); rintro e w' ⟨rfl, hw'⟩; obtain rfl := hw'.symm)
                      go_roundw
                      case rel => exact ⟨8, by go_num, by omega, by rw [HST.out, ← HS1.out, if_pos hS0]; exact congrArg Value.string ((congrArg (txt (S0 ++ [32]) ++ ·) (show (⟨#[]⟩ ++ ⟨#[55]⟩ : ByteArray) = txt (dec 7) from by decide +kernel)).trans (txt_cat _ _)), by trivial⟩
                      case measure => simp only [intOf]; omega
                    · go_wp2_with (go_at_call 18; (with_reducible refine (HTL.out _ _).mono ?_); rintro e w' ⟨rfl, hw'⟩; obtain rfl := hw'.symm)
                      go_roundw
                      case rel => exact ⟨9, by go_num, by omega, by rw [HST.out, ← HS1.out, if_pos hS0]; exact congrArg Value.string ((congrArg (txt (S0 ++ [32]) ++ ·) (show (⟨#[]⟩ ++ ⟨#[56]⟩ : ByteArray) = txt (dec 8) from by decide +kernel)).trans (txt_cat _ _)), by trivial⟩
                      case measure => simp only [intOf]; omega
                    · go_wp2_with (go_at_call 18; (with_reducible refine (HTL.out _ _).mono ?_); rintro e w' ⟨rfl, hw'⟩; obtain rfl := hw'.symm)
                      go_roundw
                      case rel => exact ⟨10, by go_num, by omega, by rw [HST.out, ← HS1.out, if_pos hS0]; exact congrArg Value.string ((congrArg (txt (S0 ++ [32]) ++ ·) (show (⟨#[]⟩ ++ ⟨#[57]⟩ : ByteArray) = txt (dec 9) from by decide +kernel)).trans (txt_cat _ _)), by trivial⟩
                      case measure => simp only [intOf]; omega
                    · go_wp2_with (go_at_call 18; (with_reducible refine (HTL.out _ _).mono ?_); rintro e w' ⟨rfl, hw'⟩; obtain rfl := hw'.symm)
                      go_roundw
                      case rel => exact ⟨11, by go_num, by omega, by rw [HST.out, ← HS1.out, if_pos hS0]; exact congrArg Value.string ((congrArg (txt (S0 ++ [32]) ++ ·) (show (⟨#[49]⟩ ++ ⟨#[48]⟩ : ByteArray) = txt (dec 10) from by decide +kernel)).trans (txt_cat _ _)), by trivial⟩
                      case measure => simp only [intOf]; omega
                    · go_wp2_with (go_at_call 18; (with_reducible refine (HTL.out _ _).mono ?_); rintro e w' ⟨rfl, hw'⟩; obtain rfl := hw'.symm)
                      go_roundw
                      case rel => exact ⟨12, by go_num, by omega, by rw [HST.out, ← HS1.out, if_pos hS0]; exact congrArg Value.string ((congrArg (txt (S0 ++ [32]) ++ ·) (show (⟨#[49]⟩ ++ ⟨#[49]⟩ : ByteArray) = txt (dec 11) from by decide +kernel)).trans (txt_cat _ _)), by trivial⟩
                      case measure => simp only [intOf]; omega
                · rw [if_neg ho] at hstep
                  have HST := Lib.hid hstep
                  have ho' : (((oL l j : Nat) : Int) == (k : Int)) = false := by simp; omega
                  clear hstep
                  generalize oL l j = y at *
                  go_wp2
                  go_roundw
                  case rel => exact ⟨j + 1, by go_num, by omega, by rw [HST.out], by trivial⟩
                  case measure => simp only [intOf]; omega
              · obtain rfl : j = i := by omega
                have hSS := csT_len (oL l) k hn12
                have hTT := sT_len (oL l) hn12 hk1 hk4
                have hBB := bT_len hn12
                have HSU := Lib.hid (sT_succ (oL l) (n := j) (by omega) hk1)
                obtain ⟨T, hTe⟩ : ∃ T, bT j ++ sT (oL l) j k = T := ⟨_, rfl⟩
                have hTl : T.length ≤ 230 := by rw [← hTe, List.length_append]; omega
                have HTe := Lib.hid hTe
                rw [hTe]
                clear hTe
                generalize Ws.joinT (csL (oL l) k j) = S at *
                obtain ⟨U1, hU1⟩ : ∃ U, [32, 123] ++ S = U := ⟨_, rfl⟩
                have hl1 : U1.length ≤ 38 := by rw [← hU1, List.length_append]; simp only [List.length_cons, List.length_nil]; omega
                obtain ⟨U2, hU2⟩ : ∃ U, U1 ++ [125] = U := ⟨_, rfl⟩
                have hl2 : U2.length ≤ 39 := by rw [← hU2, List.length_append]; simp only [List.length_cons, List.length_nil]; omega
                obtain ⟨U3, hU3⟩ : ∃ U, T ++ U2 = U := ⟨_, rfl⟩
                have r1 : ⟨#[32, 123]⟩ ++ txt S = txt U1 := by rw [← hU1]; exact txt_cat [32, 123] S
                have r2 : txt U1 ++ ⟨#[125]⟩ = txt U2 := by rw [← hU2]; exact txt_cat U1 [125]
                have r3 : txt T ++ txt U2 = txt U3 := by rw [← hU3]; exact txt_cat T U2
                have n1 : ¬ 9223372036854775807 < 2 + (txt S).size := by rw [txt_sz]; omega
                have n2 : ¬ 9223372036854775807 < (txt U1).size + 1 := by rw [txt_sz]; omega
                have n3 : ¬ 9223372036854775807 < (txt T).size + (txt U2).size := by rw [txt_sz, txt_sz]; omega
                have HU3 := Lib.hid (show bT j ++ sT (oL l) j (k + 1) = U3 by rw [HSU.out, ← List.append_assoc, HTe.out, hU1, hU2, hU3])
                clear hU1 hU2 hU3 HSU HTe
                go_wp2
                go_roundw
                case rel => exact ⟨k + 1, by go_num, by omega, by omega, by rw [HU3.out], by trivial⟩
                case measure => simp only [intOf]; omega
          · obtain rfl : k = 4 := by omega
            have HPG := Lib.hid fun (W : World) (a f : Option Addr) (hs : SigR W SX a 2 f 2 none 0) (hk : Keep NoF w W) => parseC (oL l) hn1 hn12 hs (HT.out.1.keep0 hk) (HT.out.2.keep0 hk)
            have HE := Lib.hid exampleMt_any
            generalize txt (bT i ++ sT (oL l) i 4) = tx0 at *
            go_upto_region 26 with (first
              | (go_at_call 19; (with_reducible refine (HE.out _).mono ?_); rintro e w3 ⟨a3, f3, rfl, hS3, k3⟩
                 have HS3 := Lib.hid hS3
                 have HK3 := Lib.hid k3)
              | (go_at_call 13; (with_reducible refine (HPG.out _ _ _ HS3.out (HQ.out.2.trans HK3.out fun _ _ h => h)).mono ?_); rintro e w4 ⟨va, cv, ra, cr, rs, rfl, hM4, K4⟩))
            have b5 := Bk.new w4 28 #[.int .i64 (i : Int), .slice va 2 cv, .slice ra 2 cr]
            have k5 : Keep NoF w4 (w4.alloc (.cells #[.int .i64 (i : Int), .slice va 2 cv, .slice ra 2 cr] 28)) := (Keep.refl _ _).alloc _
            have K5 := (HK3.out.trans K4 fun _ _ h => h).trans k5 fun _ _ h => h
            have HM5 := Lib.hid (hM4.keep k5)
            have HG5 := Lib.hid (HQ.out.1.keep K5 fun h => h)
            have HK5 := Lib.hid (HQ.out.2.trans K5 fun _ _ h => h)
            have HB5 := Lib.hid b5
            clear hM4 K4 k5 b5 K5 hS3 HS3 k3 HK3 HPG
            generalize w4.alloc (.cells #[.int .i64 (i : Int), .slice va 2 cv, .slice ra 2 cr] 28) = W5 at *
            obtain ⟨rb, ro, A1, c1, rfl, hcr, hrow, hrd, -⟩ := HM5.out.at_ (k := 1) (by show 1 < 2; omega)
            have hrl : ((Mc (oL l) i).R.getD 1 []).length = i := cellRow_len i _
            have hcr2 : 2 ≤ cr := hcr
            rw [hrl] at hrow
            have HRD := Lib.hid hrd
            have HRL := Lib.hid hrl
            clear hrd hrl hcr
            have m0 : W5.cell? ⟨w4.heap.size, 0, none⟩ = some (.int .i64 (i : Int)) := HB5.out.cell 0
            have m2 : W5.cell? ⟨w4.heap.size, 2, none⟩ = some (.slice (some ⟨rb, ro, none⟩) 2 cr) := HB5.out.cell 2
            have hii : ((i : Int) != (i : Int)) = false := by simp
            go_upto_region 28 with (fail)
            go_upto_region 29 with (fail)
            clear m0
            go_loopw [132] (fun v wr => ∃ v0 : Nat, v = .int .i64 v0 ∧ v0 ≤ i ∧ Keep NoF W5 wr) (fun v _ => i - (intOf v).toNat)
            case atStart => exact ⟨0, rfl, by omega, Keep.refl _ _⟩
            case round =>
              obtain ⟨v, rfl, hv, hkv⟩ := hrel
              by_cases hvi : v < i
              · have hvi' : (v : Int) < (i : Int) := by omega
                have hv0 : (0 : Int) ≤ (v : Int) := by omega
                go_upto_region 32 with (fail)
                generalize hwy : wr = wy at *
                clear hwy
                go_loopw [136] (fun u wr => ∃ u0 : Nat, u = .int .i64 u0 ∧ u0 ≤ i ∧ Keep NoF W5 wr) (fun u _ => i - (intOf u).toNat)
                case atStart => exact ⟨0, rfl, by omega, hkv⟩
                case round =>
                  obtain ⟨u, rfl, hu, hku⟩ := hrel
                  by_cases hui : u < i
                  · have hui' : (u : Int) < (i : Int) := by omega
                    have hu0 : (0 : Int) ≤ (u : Int) := by omega
                    have hu64 : u < 64 := by omega
                    have q2 : wr.cell? ⟨w4.heap.size, 2, none⟩ = some (.slice (some ⟨rb, ro, none⟩) 2 cr) := hku.cellv m2 fun h => h
                    have qr : wr.cell? ⟨rb, ro + 1, none⟩ = some (.slice A1 i c1) := hku.cellv hrow fun h => h
                    have g1 : wr.cell? ⟨w.heap.size, v, none⟩ = some (.int .i64 ((oL l v : Nat) : Int)) := ((HG5.out.keep hku fun h => h).cell v).trans (by rw [List.getElem?_toArray, iC_at hvi, if_pos hvi])
                    have g2 : wr.cell? ⟨w.heap.size, u, none⟩ = some (.int .i64 ((oL l u : Nat) : Int)) := ((HG5.out.keep hku fun h => h).cell u).trans (by rw [List.getElem?_toArray, iC_at hui, if_pos hui])
                    obtain ⟨-, hc1, br, bo, rfl, hx⟩ := (HRD.out.kept hku fun _ _ h => h).nat_lt (k := v) (by rw [HRL.out]; exact hvi)
                    rw [HRL.out] at hc1
                    have hx64 := r64 HM5.out.u 1 v
                    have hbit : (((Mc (oL l) i).R.getD 1 []).getD v 0).testBit u = (decide (v = u) || (decide (0 < oL l v) && decide (oL l v = oL l u))) := cells_bit (oL l) (oL_le l) hvi hui
                    generalize ((Mc (oL l) i).R.getD 1 []).getD v 0 = x at *
                    have hsb := sbitC u hx64
                    rw [hbit] at hsb
                    clear hbit
                    generalize oL l v = ov at *
                    generalize oL l u = ou at *
                    by_cases hvu : v = u
                    · subst hvu
                      have hw1 : (bits .and .u64 ((x : Int) / 2 ^ v) 1 == 1) = true := by rw [hsb]; simp
                      clear hsb
                      go_upto_region 34 with (fail)
                      go_quiet (fail)
                      go_wp2
                      go_roundw
                      case rel => exact ⟨v + 1, by go_num, by omega, hku.drewN _⟩
                      case measure => simp only [intOf]; omega
                    · have hne : ((v : Int) == (u : Int)) = false := by simp; omega
                      by_cases hov : ov = 0
                      · subst hov
                        have hw1 : (bits .and .u64 ((x : Int) / 2 ^ u) 1 == 1) = false := by rw [hsb]; simp [hvu]
                        clear hsb
                        go_upto_region 34 with (fail)
                        go_quiet (fail)
                        go_wp2
                        go_roundw
                        case rel => exact ⟨u + 1, by go_num, by omega, hku.drewN _⟩
                        case measure => simp only [intOf]; omega
                      · have hgt : 0 < ov := by omega
                        by_cases hoe : ov = ou
                        · subst hoe
                          have hw1 : (bits .and .u64 ((x : Int) / 2 ^ u) 1 == 1) = true := by rw [hsb]; simp [hvu]; omega
                          clear hsb
                          go_upto_region 34 with (fail)
                          go_quiet (fail)
                          go_wp2
                          go_roundw
                          case rel => exact ⟨u + 1, by go_num, by omega, hku.drewN _⟩
                          case measure => simp only [intOf]; omega
                        · have hne2 : ((ov : Int) == (ou : Int)) = false := by simp; omega
                          have hw1 : (bits .and .u64 ((x : Int) / 2 ^ u) 1 == 1) = false := by rw [hsb]; simp [hvu, hoe]
                          clear hsb
                          go_upto_region 34 with (fail)
                          go_quiet (fail)
                          go_wp2
                          go_roundw
                          case rel => exact ⟨u + 1, by go_num, by omega, hku.drewN _⟩
                          case measure => simp only [intOf]; omega
                  · obtain rfl : u = i := by omega
                    go_wp2
                    go_roundw
                    case rel => exact ⟨v + 1, by go_num, by omega, hku⟩
                    case measure => simp only [intOf]; omega
              · obtain rfl : v = i := by omega
                have HKv := Lib.hid (HK5.out.trans hkv fun _ _ h => h)
                go_wp2_with (go_at_call 10; (with_reducible refine (HAW.out _ HKv.out).mono ?_); rintro e w9 ⟨rfl, K9⟩)
                go_ret
                exact ⟨rfl, HKv.out.trans K9 fun _ _ h => h⟩
end
end Go.Proofs.YtmnhgeggojgflaaGreatDoor
