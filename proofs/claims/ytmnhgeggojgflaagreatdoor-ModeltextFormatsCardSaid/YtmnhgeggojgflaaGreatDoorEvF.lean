/- A model in memory; what model.Check does. No condition. -/
import Derived.Test.YtmnhgeggojgflaaGreatDoorEvR
import Derived.Deep.RegionWith
import Derived.Deep.Cut
set_option linter.unusedVariables false
set_option linter.unusedSimpArgs false
namespace Go.Proofs.YtmnhgeggojgflaaGreatDoor
open Go.RowKit
open Ev
attribute [local go_sem] Oper.semAt_some

def rowV (r : List Nat) (p : Option Addr × Nat) : Value := .slice p.1 r.length p.2
def rowsV (R : List (List Nat)) (rs : List (Option Addr × Nat)) : List Value := List.zipWith rowV R rs
structure MdR (w : World) (M : Md) (va : Option Addr) (cv : Nat) (ra : Option Addr) (cr : Nat) (rs : List (Option Addr × Nat)) : Prop where
  V : Rd w (.slice va M.V.length cv) 1 M.V.length (u6 M.V)
  R : Rd w (.slice ra M.R.length cr) 1 M.R.length (rowsV M.R rs)
  rl : rs.length = M.R.length
  row : ∀ (k : Nat) (r : List Nat) (p : Option Addr × Nat), M.R[k]? = some r → rs[k]? = some p → Rd w (.slice p.1 r.length p.2) 1 r.length (u6 r)
  u : U64 M
  lv : M.V.length ≤ 9223372036854775807
  lr : M.R.length ≤ 9223372036854775807
  lw : ∀ r ∈ M.R, r.length ≤ 9223372036854775807
section
variable {w w' : World} {M : Md} {va ra : Option Addr} {cv cr : Nat} {rs : List (Option Addr × Nat)}
theorem MdR.keep (h : MdR w M va cv ra cr rs) (hk : Keep NoF w w') : MdR w' M va cv ra cr rs :=
  ⟨h.V.kept hk fun _ _ h => h, h.R.kept hk fun _ _ h => h, h.rl, fun k r p h1 h2 => (h.row k r p h1 h2).kept hk fun _ _ h => h, h.u, h.lv, h.lr, h.lw⟩
/-- The row of an agent. -/
theorem MdR.at_ (h : MdR w M va cv ra cr rs) {k : Nat} (hk : k < M.R.length) : ∃ bl off A c, ra = some ⟨bl, off, none⟩ ∧ M.R.length ≤ cr ∧ w.cell? ⟨bl, off + k, none⟩ = some (.slice A (M.R.getD k []).length c) ∧ Rd w (.slice A (M.R.getD k []).length c) 1 (M.R.getD k []).length (u6 (M.R.getD k [])) ∧ rs[k]? = some (A, c) := by
  obtain ⟨_, hcr, bl, off, rfl, hc⟩ := h.R.at_ (by omega)
  have h1 := List.getElem?_eq_getElem hk
  obtain ⟨⟨A, c⟩, h2⟩ : ∃ p, rs[k]? = some p := ⟨_, List.getElem?_eq_getElem (show k < rs.length by rw [h.rl]; exact hk)⟩
  have e : M.R.getD k [] = M.R[k] := by rw [List.getD_eq_getElem?_getD, h1]; rfl
  have hr := h.row k _ _ h1 h2
  refine ⟨bl, off, A, c, rfl, hcr, ?_, ?_, h2⟩
  · rw [e]
    exact hc k _ (by unfold rowsV; rw [List.getElem?_zipWith, h1, h2]; rfl)
  · rw [e]; exact hr
theorem Rd.nat_lt {A : Option Addr} {n c : Nat} {l : List Nat} (h : Rd w (.slice A n c) 1 l.length (u6 l)) {k : Nat} (hk : k < l.length) : n = l.length ∧ n ≤ c ∧ ∃ bl off, A = some ⟨bl, off, none⟩ ∧ w.cell? ⟨bl, off + k, none⟩ = some (.int .u64 (l.getD k 0 : Nat)) := by
  obtain ⟨hn, hc0, bl, off, rfl, hc⟩ := h.at_ (by omega)
  exact ⟨hn, by omega, bl, off, rfl, hc k _ (by simp [hk, u6])⟩
end
section
set_option maxRecDepth 100000
set_option maxHeartbeats 1000000
theorem moall_any (n : Nat) (hn : n ≤ 64) (w : World) : Calls Tryz.prog 83 #[.int .i64 n] w fun e w' => e = .returned (.int .u64 ((2 ^ n - 1 : Nat) : Int)) ∧ w' = w := by
  by_cases h : 64 ≤ n
  · obtain rfl : n = 64 := by omega
    go_enter Tryz.func83, Tryz.ntmps83
    go_wp2
    go_ret
    exact ⟨rfl, rfl⟩
  · have HS := Lib.hid (shl1_sub (k := n) (by omega))
    go_enter Tryz.func83, Tryz.ntmps83
    go_wp2
    go_ret
    exact ⟨congrArg (fun b => Ending.returned (Value.int .u64 b)) HS.out, rfl⟩
theorem moout1_any (x n b : Nat) (hn : n ≤ 64) (hx : x < 18446744073709551616) (w : World) (hb : w.cell? ⟨b, 0, none⟩ = some (.int .i64 n)) : Calls Tryz.prog 82 #[.int .u64 x, .pointer (some ⟨b, 0, none⟩)] w fun e w' => e = .returned (.bool (decide (adN x (2 ^ n - 1) ≠ 0))) ∧ w' = w := by
  have HA := Lib.hid (moall_any n hn)
  have hall : 2 ^ n - 1 < 18446744073709551616 := Ev.lt64 hn (allN_lt n)
  have HV := and_not x (2 ^ n - 1) hx hall
  have hd : ((((adN x (2 ^ n - 1) : Nat) : Int)) != 0) = decide (adN x (2 ^ n - 1) ≠ 0) := by
    rw [Bool.eq_iff_iff]
    simp only [bne_iff_ne, ne_eq, decide_eq_true_eq]
    omega
  generalize adN x (2 ^ n - 1) = y at *
  generalize decide (y ≠ 0) = d at *
  generalize 2 ^ n - 1 = N at *
  clear hall
  go_enter Tryz.func82, Tryz.ntmps82
  go_wp2_with (go_at_call 83; (with_reducible refine (HA.out _).mono ?_); rintro e w' ⟨rfl, hw'⟩; obtain rfl := hw'.symm)
  go_ret
  exact ⟨rfl, rfl⟩
theorem outB_snoc {l : List Nat} {k n : Nat} (hk : k < l.length) : outB (l.take (k + 1)) n = (outB (l.take k) n || decide (adN (l.getD k 0) (2 ^ n - 1) ≠ 0)) := by
  have e : l.take (k + 1) = l.take k ++ [l.getD k 0] := by
    rw [List.take_succ_eq_append_getElem hk, List.getD_eq_getElem?_getD, List.getElem?_eq_getElem hk]; rfl
  rw [e]
  unfold outB
  rw [List.any_append]
  simp
theorem outB_yes {l : List Nat} {k n : Nat} (hk : k < l.length) (h : decide (adN (l.getD k 0) (2 ^ n - 1) ≠ 0) = true) : outB l n = true := by
  unfold outB
  rw [List.any_eq_true]
  refine ⟨l.getD k 0, ?_, h⟩
  rw [List.getD_eq_getElem?_getD, List.getElem?_eq_getElem hk]
  exact List.getElem_mem hk
def IdxPost (b : Bool) (F : World → Prop) (e : Ending) (w' : World) : Prop := ∃ r : Int, e = .returned (.int .i64 r) ∧ decide (0 ≤ r) = b ∧ F w'
theorem index1_any (l : List Nat) (n b : Nat) (hn : n ≤ 64) (hl : ∀ x ∈ l, x < 18446744073709551616) (hll : l.length ≤ 9223372036854775807) (A : Option Addr) (c : Nat) (w : World) (hrd : Rd w (.slice A l.length c) 1 l.length (u6 l)) (hb : w.cell? ⟨b, 0, none⟩ = some (.int .i64 n)) :
    Calls Tryz.prog 116 #[.slice A l.length c, .func (.func 82) #[] #[.pointer (some ⟨b, 0, none⟩)]] w (IdxPost (outB l n) (fun w' => w' = w)) := by
  have hll2 : (l.length : Int) ≤ 9223372036854775807 := by omega
  have HL : Hid (∀ k, k < l.length → l.getD k 0 < 18446744073709551616) := Lib.hid fun k hk => by
    rw [List.getD_eq_getElem?_getD, List.getElem?_eq_getElem hk]
    exact hl _ (List.getElem_mem hk)
  generalize hob : outB l n = ob
  have HOB := Lib.hid hob
  clear hob hl
  have HB := Lib.hid hb
  have HR := Lib.hid hrd
  clear hb hrd
  go_enter Tryz.func116, Tryz.ntmps116
  go_wp2
  go_loopw [8] (fun i wr => ∃ j : Nat, i = .int .i64 j ∧ j ≤ l.length ∧ Hid (outB (l.take j) n = false) ∧ wr = w) (fun i _ => l.length - (intOf i).toNat)
  case atStart => exact ⟨0, rfl, by omega, Lib.hid rfl, rfl⟩
  case round =>
    obtain ⟨j, rfl, hj, HN, hw⟩ := hrel
    obtain rfl := hw.symm; clear hw
    by_cases hlt : j < l.length
    · obtain ⟨_, hcap, bl, off, rfl, hc⟩ := HR.out.nat_lt hlt
      have hlt' : (j : Int) < (l.length : Int) := by omega
      have HC := Lib.hid (moout1_any (l.getD j 0) n b hn (HL.out j hlt) w HB.out)
      have hs := outB_snoc (n := n) hlt
      have hy := outB_yes (n := n) hlt
      generalize decide (adN (l.getD j 0) (2 ^ n - 1) ≠ 0) = d at *
      generalize l.getD j 0 = x at *
      cases d with
      | true =>
        have HT : Hid (ob = true) := Lib.hid (by rw [← HOB.out]; exact hy rfl)
        clear hs hy
        go_wp2_with (go_at_call 82; (with_reducible refine HC.out.mono ?_); rintro e w' ⟨rfl, hw'⟩; obtain rfl := hw'.symm)
        go_ret
        exact ⟨_, rfl, by rw [HT.out]; exact decide_eq_true (by omega), rfl⟩
      | false =>
        have HN2 : Hid (outB (l.take (j + 1)) n = false) := Lib.hid (by rw [hs, HN.out]; rfl)
        clear hs hy
        go_wp2_with (go_at_call 82; (with_reducible refine HC.out.mono ?_); rintro e w' ⟨rfl, hw'⟩; obtain rfl := hw'.symm)
        go_roundw
        case rel => exact ⟨j + 1, by go_num, by omega, HN2, by trivial⟩
        case measure => simp only [intOf]; omega
    · have hlt' : ¬ (j : Int) < (l.length : Int) := by omega
      have HT : Hid (ob = false) := Lib.hid (by have := HN.out; rw [List.take_of_length_le (by omega)] at this; rw [← HOB.out, this])
      go_wp2
      go_ret
      exact ⟨_, rfl, by rw [HT.out]; rfl, rfl⟩
theorem contains1_any (l : List Nat) (n b : Nat) (hn : n ≤ 64) (hl : ∀ x ∈ l, x < 18446744073709551616) (hll : l.length ≤ 9223372036854775807) (A : Option Addr) (c : Nat) (w : World) (hrd : Rd w (.slice A l.length c) 1 l.length (u6 l)) (hb : w.cell? ⟨b, 0, none⟩ = some (.int .i64 n)) :
    Calls Tryz.prog 81 #[.slice A l.length c, .func (.func 82) #[] #[.pointer (some ⟨b, 0, none⟩)]] w fun e w' => e = .returned (.bool (outB l n)) ∧ w' = w := by
  have HI := Lib.hid (index1_any l n b hn hl hll A c w hrd hb)
  generalize outB l n = ob at *
  clear hl hrd hb
  generalize l.length = ll at *
  go_enter Tryz.func81, Tryz.ntmps81
  go_wp2_with (go_at_call 116; (with_reducible refine HI.out.mono ?_); rintro e w' ⟨r, rfl, hr, hw'⟩; obtain rfl := hw'.symm)
  go_ret
  exact ⟨by rw [← hr]; rfl, rfl⟩
theorem mooutside_any (l : List Nat) (n : Nat) (hn : n ≤ 64) (hl : ∀ x ∈ l, x < 18446744073709551616) (hll : l.length ≤ 9223372036854775807) (A : Option Addr) (c : Nat) (w : World) (hrd : Rd w (.slice A l.length c) 1 l.length (u6 l)) :
    Calls Tryz.prog 41 #[.slice A l.length c, .int .i64 n] w fun e w' => e = .returned (.bool (outB l n)) ∧ Keep NoF w w' := by
  have k0 : Keep NoF w (w.alloc (.cells #[.int .i64 n] 3)) := (Keep.refl _ _).alloc _
  have b0 := Bk.new w 3 #[.int .i64 (n : Int)]
  have HI := Lib.hid (contains1_any l n w.heap.size hn hl hll A c _ (hrd.kept k0 fun _ _ h => h) (b0.cell 0))
  generalize outB l n = ob at *
  clear hl hrd b0
  generalize l.length = ll at *
  go_enter Tryz.func41, Tryz.ntmps41
  go_wp2_with (go_at_call 81; (with_reducible refine HI.out.mono ?_); rintro e w' ⟨rfl, hw'⟩; obtain rfl := hw'.symm)
  go_ret
  exact ⟨rfl, k0⟩
theorem check1_any (l : List Nat) (n b : Nat) (hn : n ≤ 64) (hl : ∀ x ∈ l, x < 18446744073709551616) (hll : l.length ≤ 9223372036854775807) (A : Option Addr) (c : Nat) (w : World) (hrd : Rd w (.slice A l.length c) 1 l.length (u6 l)) (hb : w.cell? ⟨b, 0, none⟩ = some (.int .i64 n)) :
    Calls Tryz.prog 43 #[.slice A l.length c, .pointer (some ⟨b, 0, none⟩)] w fun e w' => e = .returned (.bool (outB l n)) ∧ Keep NoF w w' := by
  have HI := Lib.hid (mooutside_any l n hn hl hll A c w hrd)
  generalize outB l n = ob at *
  clear hl hrd
  generalize l.length = ll at *
  go_enter Tryz.func43, Tryz.ntmps43
  go_wp2_with (go_at_call 41; (with_reducible refine HI.out.mono ?_); rintro e w' ⟨rfl, k1⟩)
  go_ret
  exact ⟨rfl, k1⟩
def anyB (R : List (List Nat)) (n : Nat) : Bool := R.any fun r => outB r n
theorem anyB_snoc {R : List (List Nat)} {k n : Nat} (hk : k < R.length) : anyB (R.take (k + 1)) n = (anyB (R.take k) n || outB (R.getD k []) n) := by
  have e : R.take (k + 1) = R.take k ++ [R.getD k []] := by
    rw [List.take_succ_eq_append_getElem hk, List.getD_eq_getElem?_getD, List.getElem?_eq_getElem hk]; rfl
  rw [e]
  unfold anyB
  rw [List.any_append]
  simp
theorem anyB_yes {R : List (List Nat)} {k n : Nat} (hk : k < R.length) (h : outB (R.getD k []) n = true) : anyB R n = true := by
  unfold anyB
  rw [List.any_eq_true]
  refine ⟨R.getD k [], ?_, h⟩
  rw [List.getD_eq_getElem?_getD, List.getElem?_eq_getElem hk]
  exact List.getElem_mem hk
theorem getD_memR {R : List (List Nat)} {k : Nat} (hk : k < R.length) : R.getD k [] ∈ R := by
  rw [List.getD_eq_getElem?_getD, List.getElem?_eq_getElem hk]
  exact List.getElem_mem hk
theorem index2_any {M : Md} {va ra : Option Addr} {cv cr : Nat} {rs : List (Option Addr × Nat)} (n b : Nat) (hn : n ≤ 64) (w : World) (hM : MdR w M va cv ra cr rs) (hb : w.cell? ⟨b, 0, none⟩ = some (.int .i64 n)) :
    Calls Tryz.prog 84 #[.slice ra M.R.length cr, .func (.func 43) #[] #[.pointer (some ⟨b, 0, none⟩)]] w (IdxPost (anyB M.R n) (fun w' => Keep NoF w w')) := by
  have hll : (M.R.length : Int) ≤ 9223372036854775807 := by have := hM.lr; omega
  generalize hob : anyB M.R n = ob
  have HOB := Lib.hid hob
  have HM := Lib.hid hM
  have HB := Lib.hid hb
  clear hob hM hb
  go_enter Tryz.func84, Tryz.ntmps84
  go_wp2
  go_loopw [8] (fun i wr => ∃ j : Nat, i = .int .i64 j ∧ j ≤ M.R.length ∧ Hid (anyB (M.R.take j) n = false) ∧ Keep NoF w wr) (fun i _ => M.R.length - (intOf i).toNat)
  case atStart => exact ⟨0, rfl, by omega, Lib.hid rfl, Keep.refl _ _⟩
  case round =>
    obtain ⟨j, rfl, hj, HN, hkw⟩ := hrel
    by_cases hlt : j < M.R.length
    · obtain ⟨bl, off, A, c, rfl, hcr, hc, hrd, _⟩ := (HM.out.keep hkw).at_ hlt
      have hlt' : (j : Int) < (M.R.length : Int) := by omega
      have HC := Lib.hid (check1_any (M.R.getD j []) n b hn (HM.out.u.R _ (getD_memR hlt)) (HM.out.lw _ (getD_memR hlt)) A c wr hrd (hkw.cellv HB.out fun h => h))
      have hs := anyB_snoc (n := n) hlt
      have hy := anyB_yes (n := n) hlt
      generalize outB (M.R.getD j []) n = d at *
      clear hrd
      generalize (M.R.getD j []).length = rl at *
      cases d with
      | true =>
        have HT : Hid (ob = true) := Lib.hid (by rw [← HOB.out]; exact hy rfl)
        clear hs hy
        go_wp2_with (go_at_call 43; (with_reducible refine HC.out.mono ?_); rintro e w' ⟨rfl, k2⟩)
        go_ret
        exact ⟨_, rfl, by rw [HT.out]; exact decide_eq_true (by omega), hkw.trans k2 fun _ _ h => h⟩
      | false =>
        have HN2 : Hid (anyB (M.R.take (j + 1)) n = false) := Lib.hid (by rw [hs, HN.out]; rfl)
        clear hs hy
        go_wp2_with (go_at_call 43; (with_reducible refine HC.out.mono ?_); rintro e w' ⟨rfl, k2⟩)
        go_roundw
        case rel => exact ⟨j + 1, by go_num, by omega, HN2, hkw.trans k2 fun _ _ h => h⟩
        case measure => simp only [intOf]; omega
    · have hlt' : ¬ (j : Int) < (M.R.length : Int) := by omega
      have HT : Hid (ob = false) := Lib.hid (by have := HN.out; rw [List.take_of_length_le (by omega)] at this; rw [← HOB.out, this])
      go_wp2
      go_ret
      exact ⟨_, rfl, by rw [HT.out]; rfl, hkw⟩
theorem contains2_any {M : Md} {va ra : Option Addr} {cv cr : Nat} {rs : List (Option Addr × Nat)} (n b : Nat) (hn : n ≤ 64) (w : World) (hM : MdR w M va cv ra cr rs) (hb : w.cell? ⟨b, 0, none⟩ = some (.int .i64 n)) :
    Calls Tryz.prog 42 #[.slice ra M.R.length cr, .func (.func 43) #[] #[.pointer (some ⟨b, 0, none⟩)]] w fun e w' => e = .returned (.bool (anyB M.R n)) ∧ Keep NoF w w' := by
  have HI := Lib.hid (index2_any n b hn w hM hb)
  generalize anyB M.R n = ob at *
  clear hM hb
  generalize M.R.length = ll at *
  go_enter Tryz.func42, Tryz.ntmps42
  go_wp2_with (go_at_call 84; (with_reducible refine HI.out.mono ?_); rintro e w' ⟨r, rfl, hr, k1⟩)
  go_ret
  exact ⟨by rw [← hr]; rfl, k1⟩
def lenB (R : List (List Nat)) (W : Int) : Bool := R.any fun r => decide ((r.length : Int) ≠ W)
theorem lenB_snoc {R : List (List Nat)} {k : Nat} {W : Int} (hk : k < R.length) (h0 : lenB (R.take k) W = false) (h : ((R.getD k []).length : Int) = W) : lenB (R.take (k + 1)) W = false := by
  have e : R.take (k + 1) = R.take k ++ [R.getD k []] := by
    rw [List.take_succ_eq_append_getElem hk, List.getD_eq_getElem?_getD, List.getElem?_eq_getElem hk]; rfl
  rw [e]
  unfold lenB at h0 ⊢
  rw [List.any_append, h0]
  show (false || (decide (((R.getD k []).length : Int) ≠ W) || false)) = false
  rw [decide_eq_false (fun h2 => h2 h)]
  rfl
theorem lenB_yes {R : List (List Nat)} {k : Nat} {W : Int} (hk : k < R.length) (h : ((R.getD k []).length : Int) ≠ W) : lenB R W = true := by
  unfold lenB
  rw [List.any_eq_true]
  exact ⟨R.getD k [], getD_memR hk, decide_eq_true h⟩
theorem moCheck_any {M : Md} {va ra : Option Addr} {cv cr : Nat} {rs : List (Option Addr × Nat)} (w : World) (hM : MdR w M va cv ra cr rs) :
    Calls Tryz.prog 17 #[.agg #[.int .i64 M.W, .slice va M.V.length cv, .slice ra M.R.length cr]] w fun e w' => e = .returned (.int .i64 (modelE M)) ∧ Keep NoF w w' := by
  have k0 : Keep NoF w (w.alloc (.cells #[.int .i64 M.W, .slice va M.V.length cv, .slice ra M.R.length cr] 28)) := (Keep.refl _ _).alloc _
  have b0 := Bk.new w 28 #[.int .i64 M.W, .slice va M.V.length cv, .slice ra M.R.length cr]
  have hE : modelE M = if M.W < 1 ∨ 64 < M.W then 2 else if 4 < M.R.length ∨ 8 < M.V.length then 8 else if lenB M.R M.W = true then 3 else if outB M.V M.n = true ∨ anyB M.R M.n = true then 2 else 0 := rfl
  by_cases h1 : M.W < 1 ∨ 64 < M.W
  · rw [hE, if_pos h1]
    clear hE b0 hM
    generalize M.W = W at *
    generalize M.R.length = rl at *
    generalize M.V.length = vl at *
    by_cases ha : W < 1
    · clear h1
      go_enter Tryz.func17, Tryz.ntmps17
      go_wp2
      go_ret
      exact ⟨rfl, k0⟩
    · have hb : 64 < W := by omega
      clear h1
      go_enter Tryz.func17, Tryz.ntmps17
      go_wp2
      go_ret
      exact ⟨rfl, k0⟩
  · have ha : ¬ M.W < 1 := by omega
    have hb : ¬ 64 < M.W := by omega
    by_cases h2 : 4 < M.R.length ∨ 8 < M.V.length
    · rw [hE, if_neg h1, if_pos h2]
      clear hE b0 hM h1
      generalize M.W = W at *
      generalize M.R.length = rl at *
      generalize M.V.length = vl at *
      by_cases hc : 4 < rl
      · have hc' : (4 : Int) < (rl : Int) := by omega
        clear h2
        go_enter Tryz.func17, Tryz.ntmps17
        go_wp2
        go_ret
        exact ⟨rfl, k0⟩
      · have hc' : ¬ (4 : Int) < (rl : Int) := by omega
        have hd' : (8 : Int) < (vl : Int) := by omega
        clear h2
        go_enter Tryz.func17, Tryz.ntmps17
        go_wp2
        go_ret
        exact ⟨rfl, k0⟩
    · have hc' : ¬ (4 : Int) < (M.R.length : Int) := by omega
      have hd' : ¬ (8 : Int) < (M.V.length : Int) := by omega
      have hn : M.n ≤ 64 := by unfold Md.n; omega
      have hW : M.W = (M.n : Int) := by unfold Md.n; omega
      rw [if_neg h1, if_neg h2] at hE
      have HM := Lib.hid hM
      have HM0 := Lib.hid (hM.keep k0)
      have HB := Lib.hid b0
      have HE := Lib.hid hE
      have HW := Lib.hid hW
      clear h1 h2 hE hM b0 hW
      generalize hN : modelE M = N at *
      clear hN
      go_enter Tryz.func17, Tryz.ntmps17
      go_upto_region 1 with (fail)
      generalize w.alloc (.cells #[.int .i64 M.W, .slice va M.V.length cv, .slice ra M.R.length cr] 28) = W0 at *
      have s0 : W0.cell? ⟨w.heap.size, 0, none⟩ = some (.int .i64 M.W) := HB.out.cell 0
      have s1 : W0.cell? ⟨w.heap.size, 1, none⟩ = some (.slice va M.V.length cv) := HB.out.cell 1
      have s2 : W0.cell? ⟨w.heap.size, 2, none⟩ = some (.slice ra M.R.length cr) := HB.out.cell 2
      go_wp2
      go_loopw [26] (fun t wr => ∃ j : Nat, t = .int .i64 j ∧ j ≤ M.R.length ∧ Hid (lenB (M.R.take j) M.W = false) ∧ wr = W0) (fun t _ => M.R.length - (intOf t).toNat)
      case atStart => exact ⟨0, rfl, by omega, Lib.hid rfl, rfl⟩
      case round =>
        obtain ⟨j, rfl, hj, HL, hw⟩ := hrel
        obtain rfl := hw.symm; clear hw
        by_cases hlt : j < M.R.length
        · obtain ⟨bl, off, A, c, rfl, hcr, hc, hrd, _⟩ := HM0.out.at_ hlt
          have hlt' : (j : Int) < (M.R.length : Int) := by omega
          clear hrd
          by_cases hr : ((M.R.getD j []).length : Int) = M.W
          · have HL2 : Hid (lenB (M.R.take (j + 1)) M.W = false) := Lib.hid (lenB_snoc hlt HL.out hr)
            have hr' : (((M.R.getD j []).length : Int) != M.W) = false := by rw [hr]; simp
            clear hr
            generalize (M.R.getD j []).length = rl at *
            go_wp2
            go_roundw
            case rel => exact ⟨j + 1, by go_num, by omega, HL2, by trivial⟩
            case measure => simp only [intOf]; omega
          · have HT : Hid (N = 3) := Lib.hid (by rw [HE.out, if_pos (lenB_yes hlt hr)])
            have hr' : (((M.R.getD j []).length : Int) != M.W) = true := by simpa using hr
            clear hr
            generalize (M.R.getD j []).length = rl at *
            go_wp2
            go_ret
            exact ⟨by rw [HT.out]; rfl, k0⟩
        · have hlt' : ¬ (j : Int) < (M.R.length : Int) := by omega
          have hfl : lenB M.R M.W = false := by have := HL.out; rwa [List.take_of_length_le (by omega)] at this
          have HO := Lib.hid (mooutside_any M.V M.n hn HM.out.u.V HM.out.lv va cv W0 HM0.out.V)
          have HC := Lib.hid fun (W1 : World) (hk : Keep NoF W0 W1) => contains2_any M.n w.heap.size hn W1 (HM0.out.keep hk) (hk.cellv (by rw [← HW.out]; exact s0) fun h => h)
          rw [← HW.out] at HO
          have HS := Lib.hid (And.intro s1 (And.intro s2 s0))
          cases ho : outB M.V M.n with
          | true =>
            have HT : Hid (N = 2) := Lib.hid (by rw [HE.out, if_neg (by rw [hfl]; simp), if_pos (.inl ho)])
            rw [ho] at HO
            clear ho hfl
            go_wp2_with (first
              | (go_at_call 41; (with_reducible refine HO.out.mono ?_); rintro e w1 ⟨rfl, k1⟩))
            go_ret
            exact ⟨by rw [HT.out]; rfl, k0.trans k1 fun _ _ h => h⟩
          | false =>
            rw [ho] at HO
            cases hy : anyB M.R M.n with
            | true =>
              have HT : Hid (N = 2) := Lib.hid (by rw [HE.out, if_neg (by rw [hfl]; simp), if_pos (.inr hy)])
              rw [hy] at HC
              clear ho hy hfl
              go_wp2_with (first
                | (go_at_call 41; (with_reducible refine HO.out.mono ?_); rintro e w1 ⟨rfl, k1⟩; have t2 : w1.cell? ⟨w.heap.size, 2, none⟩ = some (.slice ra M.R.length cr) := k1.cellv HS.out.2.1 fun h => h)
                | (go_at_call 42; (with_reducible refine (HC.out _ k1).mono ?_); rintro e w2 ⟨rfl, k2⟩))
              go_ret
              exact ⟨by rw [HT.out]; rfl, (k0.trans k1 fun _ _ h => h).trans k2 fun _ _ h => h⟩
            | false =>
              have HT : Hid (N = 0) := Lib.hid (by rw [HE.out, if_neg (by rw [hfl]; simp), if_neg (by rw [ho, hy]; simp)])
              rw [hy] at HC
              clear ho hy hfl
              go_wp2_with (first
                | (go_at_call 41; (with_reducible refine HO.out.mono ?_); rintro e w1 ⟨rfl, k1⟩; have t2 : w1.cell? ⟨w.heap.size, 2, none⟩ = some (.slice ra M.R.length cr) := k1.cellv HS.out.2.1 fun h => h)
                | (go_at_call 42; (with_reducible refine (HC.out _ k1).mono ?_); rintro e w2 ⟨rfl, k2⟩))
              go_ret
              exact ⟨by rw [HT.out]; rfl, (k0.trans k1 fun _ _ h => h).trans k2 fun _ _ h => h⟩
end
end Go.Proofs.YtmnhgeggojgflaaGreatDoor
