/- Evidence: what successors does. Conditions: the model is valid; the node's agent or group is in range; the world is in range. -/
import Derived.Test.YtmjdbbfoihadoaaEvL
set_option linter.unusedVariables false
set_option linter.unusedSimpArgs false
namespace Go.Proofs.Ytmjdbbfoihadoaa
open Go.RowKit
open Ev
open Fm (Nd)
attribute [local go_sem] Oper.semAt_some
theorem foldR_snoc (J : Nat → Nat → Nat) (r : List Nat) (g w : Nat) : ∀ (l : List (List Nat)) (a acc : Nat), foldR J (l ++ [r]) a g w acc = if g.testBit (a + l.length) = true then J (foldR J l a g w acc) (r.getD w 0) else foldR J l a g w acc
  | [], a, acc => by simp [foldR]
  | s :: l, a, acc => by
    rw [List.cons_append, foldR, foldR_snoc J r g w l, foldR, List.length_cons, show a + 1 + l.length = a + (l.length + 1) by omega]
theorem foldR_take (J : Nat → Nat → Nat) {R : List (List Nat)} {j : Nat} (hj : j < R.length) (g w acc : Nat) : foldR J (R.take (j + 1)) 0 g w acc = if g.testBit j = true then J (foldR J (R.take j) 0 g w acc) ((R.getD j []).getD w 0) else foldR J (R.take j) 0 g w acc := by
  have e : R.take (j + 1) = R.take j ++ [R.getD j []] := by
    rw [List.take_succ_eq_append_getElem hj, List.getD_eq_getElem?_getD, List.getElem?_eq_getElem hj]; rfl
  rw [e, foldR_snoc, List.length_take, Nat.min_eq_left (by omega), Nat.zero_add]
theorem foldR_lt {J : Nat → Nat → Nat} (hJ : ∀ a b, a < 18446744073709551616 → b < 18446744073709551616 → J a b < 18446744073709551616) {g w : Nat} : ∀ (l : List (List Nat)) (a acc : Nat), (∀ r ∈ l, r.getD w 0 < 18446744073709551616) → acc < 18446744073709551616 → foldR J l a g w acc < 18446744073709551616
  | [], _, _, _, h => h
  | r :: l, a, acc, hr, h => by
    unfold foldR
    refine foldR_lt hJ l (a + 1) _ (fun r' hr' => hr r' (List.mem_cons_of_mem _ hr')) ?_
    split
    · exact hJ _ _ h (hr r List.mem_cons_self)
    · exact h
section
set_option maxRecDepth 100000
set_option maxHeartbeats 2000000
variable {w : World} {M : Md} {va ra : Option Addr} {cv cr : Nat} {rs : List (Option Addr × Nat)}
theorem evsucc_agent (hM : MdR w M va cv ra cr rs) (hok : Okm M) (op e0 g x y : Int) (i wd : Nat) (hop : op = 9 ∨ op = 10) (hi : i < M.R.length) (hwd : wd < M.n) :
    Calls Try.prog 36 #[.agg #[.int .i64 M.W, .slice va M.V.length cv, .slice ra M.R.length cr], .agg #[.int .i64 op, .int .i64 (i : Int), .int .i64 e0, .int .i64 g, .int .i64 x, .int .i64 y], .int .i64 (wd : Int)] w fun e w' => e = .returned (.int .u64 ((M.R.getD i []).getD wd 0 : Nat)) ∧ Keep NoF w w' := by
  have HM := Lib.hid hM
  have hlen : (M.R.getD i []).length = M.n := hok.len _ (getD_memR hi)
  obtain ⟨bl, off, A, c, rfl, hcr, hc0, hrd0, _⟩ := hM.at_ hi
  obtain ⟨_, hlc, bl2, off2, rfl, hc1⟩ := hrd0.nat_lt (k := wd) (by omega)
  have k0 : Keep NoF w (w.alloc (.cells #[.int .i64 M.W, .slice va M.V.length cv, .slice (some ⟨bl, off, none⟩) M.R.length cr] 25)) := (Keep.refl _ _).alloc _
  have HB1 := Lib.hid ((Bk.new w 25 #[.int .i64 M.W, .slice va M.V.length cv, .slice (some ⟨bl, off, none⟩) M.R.length cr]).alloc (.cells #[.int .i64 op, .int .i64 (i : Int), .int .i64 e0, .int .i64 g, .int .i64 x, .int .i64 y] 53))
  have HB2 := Lib.hid (Bk.new (w.alloc (.cells #[.int .i64 M.W, .slice va M.V.length cv, .slice (some ⟨bl, off, none⟩) M.R.length cr] 25)) 53 #[.int .i64 op, .int .i64 (i : Int), .int .i64 e0, .int .i64 g, .int .i64 x, .int .i64 y])
  have k1 := k0.alloc (.cells #[.int .i64 op, .int .i64 (i : Int), .int .i64 e0, .int .i64 g, .int .i64 x, .int .i64 y] 53)
  have c0 := k1.cellv hc0 fun h => h
  have c1 := k1.cellv hc1 fun h => h
  have l1 : (i : Int) < (M.R.length : Int) := by omega
  have l0 : (0 : Int) ≤ (i : Int) := by omega
  have l2 : (wd : Int) < ((M.R.getD i []).length : Int) := by omega
  have l3 : (0 : Int) ≤ (wd : Int) := by omega
  generalize (M.R.getD i []).getD wd 0 = v at *
  generalize (M.R.getD i []).length = rl at *
  have HK := Lib.hid k1
  clear hM hok hc0 hrd0 hc1 k0 k1
  rcases hop with rfl | rfl
  all_goals
    go_enter Try.func36, Try.ntmps36
    go_wp2
    go_ret
    exact ⟨rfl, HK.out⟩
theorem evsucc_group (hM : MdR w M va cv ra cr rs) (hok : Okm M) (op i e0 x y : Int) (g wd : Nat) (hop : op ≠ 9 ∧ op ≠ 10) (hg : g < 2 ^ M.R.length) (hwd : wd < M.n) :
    Calls Try.prog 36 #[.agg #[.int .i64 M.W, .slice va M.V.length cv, .slice ra M.R.length cr], .agg #[.int .i64 op, .int .i64 i, .int .i64 e0, .int .i64 (g : Int), .int .i64 x, .int .i64 y], .int .i64 (wd : Int)] w fun e w' => e = .returned (.int .u64 ((if op = 12 then foldR (· &&& ·) M.R 0 g wd 18446744073709551615 else foldR (· ||| ·) M.R 0 g wd 0 : Nat) : Int)) ∧ Keep NoF w w' := by
  have hrl := hok.rl
  have hg16 : g < 256 := Nat.lt_of_lt_of_le hg (Nat.le_trans (Nat.pow_le_pow_right (n := 2) (by omega) hrl) (by decide))
  have k0 : Keep NoF w (w.alloc (.cells #[.int .i64 M.W, .slice va M.V.length cv, .slice ra M.R.length cr] 25)) := (Keep.refl _ _).alloc _
  have HB1 := Lib.hid ((Bk.new w 25 #[.int .i64 M.W, .slice va M.V.length cv, .slice ra M.R.length cr]).alloc (.cells #[.int .i64 op, .int .i64 i, .int .i64 e0, .int .i64 (g : Int), .int .i64 x, .int .i64 y] 53))
  have HB2 := Lib.hid (Bk.new (w.alloc (.cells #[.int .i64 M.W, .slice va M.V.length cv, .slice ra M.R.length cr] 25)) 53 #[.int .i64 op, .int .i64 i, .int .i64 e0, .int .i64 (g : Int), .int .i64 x, .int .i64 y])
  have k1 := k0.alloc (.cells #[.int .i64 op, .int .i64 i, .int .i64 e0, .int .i64 (g : Int), .int .i64 x, .int .i64 y] 53)
  have HK := Lib.hid k1
  have HM := Lib.hid (hM.keep k1)
  have HOK := Lib.hid hok
  have HG : Hid (∀ j : Nat, (bits .and .i64 ((g : Int) / 2 ^ j) 1 == 1) = g.testBit j) := Lib.hid fun j => by
    exact gbit1 hg16
  have c9 : (op == 9) = false := beq_eq_false_iff_ne.2 hop.1
  have c10 : (op == 10) = false := beq_eq_false_iff_ne.2 hop.2
  rw [World.size_alloc] at HB2
  have hrlt : ∀ r ∈ M.R, r.getD wd 0 < 18446744073709551616 := fun r hr => by
    obtain ⟨k, hk, rfl⟩ := List.getElem_of_mem hr
    have := Ev.lt64 hok.n1.2.1 (Ev.row_lt hok k wd)
    rwa [List.getD_eq_getElem?_getD (l := M.R), List.getElem?_eq_getElem hk] at this
  have HO64 : Hid (∀ j, foldR (· ||| ·) (M.R.take j) 0 g wd 0 < 18446744073709551616) := Lib.hid fun j => foldR_lt (fun a b => Nat.or_lt_two_pow (n := 64)) _ _ _ (fun r hr => hrlt r (List.mem_of_mem_take hr)) (by decide)
  have HA64 : Hid (∀ j, foldR (· &&& ·) (M.R.take j) 0 g wd 18446744073709551615 < 18446744073709551616) := Lib.hid fun j => foldR_lt (fun a b ha _ => Nat.lt_of_le_of_lt Nat.and_le_left ha) _ _ _ (fun r hr => hrlt r (List.mem_of_mem_take hr)) (by decide)
  have HR64 : Hid (∀ j, (M.R.getD j []).getD wd 0 < 18446744073709551616) := Lib.hid fun j => Ev.lt64 hok.n1.2.1 (Ev.row_lt hok j wd)
  clear hM hok hop k0 k1 hg hg16 hrlt
  go_enter Try.func36, Try.ntmps36
  go_wp2
  generalize (w.alloc (.cells #[.int .i64 M.W, .slice va M.V.length cv, .slice ra M.R.length cr] 25)).alloc (.cells #[.int .i64 op, .int .i64 i, .int .i64 e0, .int .i64 (g : Int), .int .i64 x, .int .i64 y] 53) = W1 at *
  have f0 : W1.cell? ⟨w.heap.size + 1, 0, none⟩ = some (.int .i64 op) := HB2.out.cell 0
  have f3 : W1.cell? ⟨w.heap.size + 1, 3, none⟩ = some (.int .i64 (g : Int)) := HB2.out.cell 3
  go_loopw [7, 8, 28] (fun t u v wr => ∃ j : Nat, v = .int .i64 (j : Int) ∧ j ≤ M.R.length ∧ t = .int .u64 ((foldR (· ||| ·) (M.R.take j) 0 g wd 0 : Nat) : Int) ∧ u = .int .u64 ((foldR (· &&& ·) (M.R.take j) 0 g wd 18446744073709551615 : Nat) : Int) ∧ wr = W1) (fun _ _ v _ => M.R.length - (intOf v).toNat)
  case atStart => exact ⟨0, rfl, by omega, rfl, rfl, rfl⟩
  case round =>
    obtain ⟨j, rfl, hj, rfl, rfl, hw⟩ := hrel
    obtain rfl := hw.symm
    by_cases hlt : j < M.R.length
    · have l1 : (j : Int) < (M.R.length : Int) := by omega
      have l0 : (0 : Int) ≤ (j : Int) := by omega
      have l9 : ¬ (j : Int) < 0 := by omega
      have hbit := HG.out j
      have HT1 := Lib.hid (foldR_take (· ||| ·) hlt g wd 0)
      have HT2 := Lib.hid (foldR_take (· &&& ·) hlt g wd 18446744073709551615)
      have hlen : (M.R.getD j []).length = M.n := HOK.out.len _ (getD_memR hlt)
      obtain ⟨bl, off, A, c, rfl, hcr, hc0, hrd0, _⟩ := HM.out.at_ hlt
      obtain ⟨_, hlc, bl2, off2, rfl, hc1⟩ := hrd0.nat_lt (k := wd) (by omega)
      have l2 : (wd : Int) < ((M.R.getD j []).length : Int) := by omega
      have l3 : (0 : Int) ≤ (wd : Int) := by omega
      have ho := or_nat (HO64.out j) (HR64.out j)
      have ha := and_nat (HA64.out j) (HR64.out j)
      clear hrd0 hlen
      generalize (M.R.getD j []).getD wd 0 = v at *
      generalize (M.R.getD j []).length = rl at *
      generalize foldR (· ||| ·) (M.R.take j) 0 g wd 0 = so at *
      generalize foldR (· &&& ·) (M.R.take j) 0 g wd 18446744073709551615 = al at *
      cases htb : g.testBit j with
      | false =>
        rw [htb] at hbit HT1 HT2
        have hbit2 : (bits .and .i64 ((g : Int) / 2 ^ j) 1 == 1) = false := hbit
        clear hbit htb
        go_wp2
        go_roundw
        case rel => exact ⟨j + 1, by go_num, by omega, by rw [HT1.out]; rfl, by rw [HT2.out]; rfl, trivial⟩
        case measure => simp only [intOf]; omega
      | true =>
        rw [htb] at hbit HT1 HT2
        have hbit2 : (bits .and .i64 ((g : Int) / 2 ^ j) 1 == 1) = true := hbit
        clear hbit htb
        go_wp2
        go_roundw
        case rel => exact ⟨j + 1, by go_num, by omega, by rw [HT1.out]; rfl, by rw [HT2.out]; rfl, trivial⟩
        case measure => simp only [intOf]; omega
    · obtain rfl : j = M.R.length := by omega
      have l1 : ¬ (M.R.length : Int) < (M.R.length : Int) := by omega
      rw [List.take_length]
      by_cases h12 : op = 12
      · have c12 : (op == 12) = true := by rw [h12]; rfl
        have H12 := Lib.hid h12
        clear h12
        go_wp2
        go_ret
        exact ⟨by first | rfl | rw [if_pos H12.out], HK.out⟩
      · have c12 : (op == 12) = false := beq_eq_false_iff_ne.2 h12
        have H12 := Lib.hid h12
        clear h12
        go_wp2
        go_ret
        exact ⟨by first | rfl | rw [if_neg H12.out], HK.out⟩
theorem evsucc_any (hM : MdR w M va cv ra cr rs) (hok : Okm M) (n : Nd) (wd : Nat) (hi : n.op = 9 ∨ n.op = 10 → 0 ≤ n.i ∧ n.i < M.R.length) (hg : ¬ (n.op = 9 ∨ n.op = 10) → 0 ≤ n.g ∧ n.g < ((2 ^ M.R.length : Nat) : Int)) (hwd : wd < M.n) :
    Calls Try.prog 36 #[.agg #[.int .i64 M.W, .slice va M.V.length cv, .slice ra M.R.length cr], .agg #[.int .i64 n.op, .int .i64 n.i, .int .i64 n.e, .int .i64 n.g, .int .i64 n.x, .int .i64 n.y], .int .i64 (wd : Int)] w fun e w' => e = .returned (.int .u64 (succN M n wd : Nat)) ∧ Keep NoF w w' := by
  unfold succN
  by_cases h : n.op = 9 ∨ n.op = 10
  · obtain ⟨h1, h2⟩ := hi h
    obtain ⟨k, hk⟩ : ∃ k : Nat, n.i = k := ⟨n.i.toNat, by omega⟩
    rw [if_pos h, hk, Int.toNat_natCast]
    exact evsucc_agent hM hok n.op n.e n.g n.x n.y k wd h (by omega) hwd
  · obtain ⟨h1, h2⟩ := hg h
    obtain ⟨k, hk⟩ : ∃ k : Nat, n.g = k := ⟨n.g.toNat, by omega⟩
    rw [if_neg h, hk, Int.toNat_natCast]
    exact evsucc_group hM hok n.op n.i n.e n.x n.y k wd (by omega) (by omega) hwd
end
end Go.Proofs.Ytmjdbbfoihadoaa
