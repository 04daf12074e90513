/- What package relation's Check, Box, Diamond, mapped and Reach do on a valid relation. Conditions: the library's table of trailing zeros lies in its variable. -/
import Derived.Test.YtgdmcidcappkpaaDoorSyQ
import Derived.Test.YtgdmcidcappkpaaDoorRlA
import Derived.Test.YtgdmcidcappkpaaDoorRlL
import Derived.Laws.BitsAllLaws
set_option linter.unusedVariables false
set_option linter.unusedSimpArgs false
namespace Go.Proofs.YtgdmcidcappkpaaDoor
open Go.RowKit Go.Shelf
open Dd (imN prN boN cvN enc)
attribute [local go_sem] Oper.semAt_some

theorem bk_set {w : World} {g : Nat} {t : TypeId} {v : Value} (h : Bk w g t #[v]) (u : Value) : Bk (w.setCell ⟨g, 0, none⟩ u) g t #[u] := h.put 0 u
theorem keep_end {w W : World} {D : Nat} (h : Keep NoF w W) (hD : w.heap.size ≤ D) (o : Obj) : Keep NoF w (W.putObj D o) :=
  h.trans (G := fun k => k = D) ⟨rfl, rfl, rfl, by simp, fun k _ hk => World.putObj_heap_other hk⟩ fun i hi e => absurd hi (by omega)
theorem same3_set {B D b : Nat} {W W' : World} (h : Same3 B D W W') (hb : ¬ Eb B D b) (u : Value) : Same3 B D W (W'.setCell ⟨b, 0, none⟩ u) := fun k hk =>
  (Below.heap_setCell _ _ _ _ (by rintro rfl; exact hb hk)).trans (h k hk)
theorem keep_book {w W W' : World} {B D : Nat} (h : Keep NoF w W) (hk : Keep (Eb B D) W W') (hB : w.heap.size ≤ B) (hD : B < D) : Keep NoF w W' :=
  h.trans hk fun i hi he => by rcases he with rfl | rfl | rfl <;> omega
theorem bk_putD {W : World} {g D : Nat} {t : TypeId} {cs : Array Value} (h : Bk W g t cs) (o : Obj) (hg : g ≠ D) : Bk (W.putObj D o) g t cs := (World.putObj_heap_other hg).trans h
theorem Rd.nat {w : World} {A : Option Addr} {n c : Nat} {l : List Nat} (h : Rd w (.slice A n c) 1 l.length (n64 l)) {k : Nat} (hk : k < l.length) : ∃ bl off, A = some ⟨bl, off, none⟩ ∧ w.cell? ⟨bl, off + k, none⟩ = some (.int .u64 (l.getD k 0 : Nat)) := by
  obtain ⟨hn, _, bl, off, rfl, hc⟩ := h.at_ (by omega)
  exact ⟨bl, off, rfl, hc k _ (by simp [hk, n64])⟩
/-- A relation over its own length. -/
def Ok (R : List Nat) : Prop := R.length ≤ 64 ∧ ∀ x ∈ R, x < 2 ^ R.length
theorem Ok.lt {R : List Nat} (h : Ok R) (k : Nat) : R.getD k 0 < 2 ^ R.length := by
  by_cases hk : k < R.length
  · rw [List.getD_eq_getElem?_getD, List.getElem?_eq_getElem hk]
    exact h.2 _ (List.getElem_mem hk)
  · rw [List.getD_eq_getElem?_getD, List.getElem?_eq_none (by omega)]
    exact Nat.two_pow_pos _
theorem Ok.lt64 {R : List Nat} (h : Ok R) (k : Nat) : R.getD k 0 < 18446744073709551616 := Nat.lt_of_lt_of_le (h.lt k) (Nat.pow_le_pow_right (n := 2) (j := 64) (by omega) h.1)
theorem all_sub {n : Nat} : 2 ^ n - 1 < 2 ^ n := by have := Nat.two_pow_pos n; omega
theorem adN_all {x n : Nat} (hn : n ≤ 64) (hx : x < 2 ^ n) : adN x (2 ^ n - 1) = 0 := by
  have h64 : 2 ^ n ≤ 2 ^ 64 := Nat.pow_le_pow_right (by omega) hn
  refine (adN_zero (by omega) (by have := @all_sub n; omega)).2 fun i hi => ?_
  rw [Nat.testBit_two_pow_sub_one]
  exact decide_eq_true (bit_small hx hi)
theorem and_not (a b : Nat) (ha : a < 18446744073709551616) (hb : b < 18446744073709551616) : bits .andNot .u64 (a : Int) (b : Int) = ((adN a b : Nat) : Int) := u64_andNot_nat a b ha hb
section
set_option maxRecDepth 100000
set_option maxHeartbeats 1000000
theorem all_any (n : Nat) (hn : n ≤ 64) (w : World) : Calls Tryd.prog 39 #[.int .i64 n] w fun e w' => e = .returned (.int .u64 ((2 ^ n - 1 : Nat) : Int)) ∧ w' = w := by
  by_cases h : 64 ≤ n
  · obtain rfl : n = 64 := by omega
    go_enter Tryd.func39, Tryd.ntmps39
    go_wp2
    go_ret
    exact ⟨rfl, rfl⟩
  · have HS := Lib.hid (shl1_sub (k := n) (by omega))
    go_enter Tryd.func39, Tryd.ntmps39
    go_wp2
    go_ret
    exact ⟨congrArg (fun b => Ending.returned (Value.int .u64 b)) HS.out, rfl⟩
theorem rlCheck_any (R : List Nat) (hR : Ok R) (A : Option Addr) (c : Nat) (w : World) (hrd : Rd w (.slice A R.length c) 1 R.length (n64 R)) : Calls Tryd.prog 37 #[.int .i64 R.length, .slice A R.length c] w fun e w' => e = .returned (.int .i64 0) ∧ w' = w := by
  have hn := hR.1
  have hl : (R.length : Int) ≤ 64 := by omega
  have HA := Lib.hid (all_any R.length hn)
  have hall : 2 ^ R.length - 1 < 18446744073709551616 := by
    have h64 : 2 ^ R.length ≤ 2 ^ 64 := Nat.pow_le_pow_right (by omega) hn
    have := @all_sub R.length
    omega
  have HD : Hid (∀ k, (bits .andNot .u64 ((R.getD k 0 : Nat) : Int) ((2 ^ R.length - 1 : Nat) : Int) != 0) = false) := Lib.hid fun k => by
    rw [and_not _ _ (hR.lt64 k) hall, adN_all hn (hR.lt k)]; rfl
  generalize hN : 2 ^ R.length - 1 = N at *
  go_enter Tryd.func37, Tryd.ntmps37
  go_wp2
  go_loopw [19] (fun i wr => ∃ j : Nat, i = .int .i64 j ∧ j ≤ R.length ∧ wr = w) (fun i _ => R.length - (intOf i).toNat)
  case atStart => exact ⟨0, rfl, by omega, rfl⟩
  case round =>
    obtain ⟨j, rfl, hj, rfl⟩ := hrel
    by_cases hlt : j < R.length
    · obtain ⟨bl, off, rfl, hc⟩ := hrd.nat hlt
      have hE := HD.out j
      generalize R.getD j 0 = x at *
      have hlt' : (j : Int) < (R.length : Int) := by omega
      go_wp2_with (go_at_call 39; (with_reducible refine (HA.out _).mono ?_); rintro e w' ⟨rfl, hw'⟩; obtain rfl := hw'.symm)
      go_roundw
      case rel => exact ⟨j + 1, by go_num, by omega, by trivial⟩
      case measure => simp only [intOf]; omega
    · have hlt' : ¬ (j : Int) < (R.length : Int) := by omega
      go_wp2
      go_ret
      exact ⟨rfl, rfl⟩

/-- Between two rounds of mapped. -/
def MapI (w : World) (sl : Value) (R : List Nat) (pre : List Nat) (W : World) : Prop :=
  ∃ o : Nat, Bk W w.heap.size 23 #[sl] ∧ Bk W (w.heap.size + 1) 31 #[.int .u64 o] ∧ Keep NoF w W ∧ o < 18446744073709551616 ∧ Hid (o = pre.foldl (fun o w => o ||| R.getD w 0) 0)
theorem mapped_any (R : List Nat) (hR : ∀ k, R.getD k 0 < 18446744073709551616) (s : Nat) (hs : s < 18446744073709551616) (hm : ∀ x ∈ mem s, x < R.length) (A : Option Addr) (c : Nat) (w : World) (hrd : Rd w (.slice A R.length c) 1 R.length (n64 R)) (ht : Tab w) :
    Calls Tryd.prog 38 #[.slice A R.length c, .int .u64 s] w fun e w' => e = .returned (.int .u64 (mapN R s)) ∧ Keep NoF w w' := by
  have hmix : Tryd.prog.follows .mixedOrders = true := by kernel_rfl
  refine (callsIn_wide (n := 3)).1 ?_
  refine callsIn_of_wp_marks Tryd.func38 rfl trivial ?_ rfl
  simp only [Tryd.ntmps38, List.size_toArray, List.length_cons, List.length_nil, Nat.reduceAdd, Nat.reduceSub, Array.replicate_succ, Array.replicate_zero, List.push_toArray, List.append_toArray, List.nil_append, List.cons_append]
  gi_wp2_with (refine ⟨trivial, ?_⟩; gi_at_call 61; refine (callsIn_wide.2 (points_any s _)).mono ?_; rintro e w' ⟨rfl, rfl⟩)
  refine each_at (n := 3) (B := w.heap.size + 2) (s := s) (w.heap.size + 3) (by simp) (by omega) hs rfl (by simpa using Bk.new ((w.alloc (.cells #[.slice A R.length c] 23)).alloc (.cells #[.int .u64 0] 31)) 31 #[.int .u64 s]) rfl
    (MapI w (.slice A R.length c) R) (fun _ _ => False) ?hI ?hIx ?hT ?h0
    (fun x => { tmps := #[.slice A R.length c, .int .u64 s, .pointer (some ⟨w.heap.size, 0, none⟩), undef, .int .u64 0, .pointer (some ⟨w.heap.size + 1, 0, none⟩), .int .i64 (x : Nat), .int .u64 s, .func (.func 76) #[] #[.pointer (some ⟨w.heap.size + 2, 0, none⟩)], .int .i64 (x : Nat), undef, undef, undef, undef, undef, undef, undef], defers := [] }) ?assign ?body ?done ?stop
  case hI =>
    rintro pre W W' ⟨o, h0, h1, hk, ho, he⟩ hb
    exact ⟨o, h0.keep hb (by rintro (h | h | h) <;> omega), h1.keep hb (by rintro (h | h | h) <;> omega), keep_book hk hb (by omega) (by omega), ho, he⟩
  case hIx => rintro pre W W' h _; exact h
  case hT =>
    rintro pre W ⟨o, h0, h1, hk, ho, he⟩
    exact ht.keep0 hk
  case h0 => exact ⟨0, ((Bk.new w 23 #[.slice A R.length c]).alloc _).alloc _, (by simpa using Bk.new (w.alloc (.cells #[.slice A R.length c] 23)) 31 #[.int .u64 0] : Bk _ (w.heap.size + 1) _ _).alloc _, (((Keep.refl _ w).alloc _).alloc _).alloc _, by omega, Lib.hid rfl⟩
  case assign =>
    intro l x W K hK
    gi_wp2
    exact hK
  case body =>
    rintro l pre x W hpx ⟨o, hb0, hb1, hk, ho, he⟩ hBW hDW
    have hxl : x < R.length := hm x (hpx.subset (by simp))
    obtain ⟨bl, off, rfl, hc⟩ := (hrd.kept hk fun _ _ h => h).nat hxl
    have hN : MapI w (.slice (some ⟨bl, off, none⟩) R.length c) R (pre ++ [x]) = fun W => ∃ o : Nat, Bk W w.heap.size 23 #[.slice (some ⟨bl, off, none⟩) R.length c] ∧ Bk W (w.heap.size + 1) 31 #[.int .u64 o] ∧ Keep NoF w W ∧ o < 18446744073709551616 ∧ Hid (o = (pre ++ [x]).foldl (fun o w => o ||| R.getD w 0) 0) := rfl
    have HN := Lib.hid hN
    clear hN
    have HE : Hid (o ||| R.getD x 0 = (pre ++ [x]).foldl (fun o w => o ||| R.getD w 0) 0) := Lib.hid (by rw [List.foldl_append, ← he.out]; rfl)
    have hy := hR x
    have HV := Lib.hid (bits_or_u64_nat o (R.getD x 0) ho hy)
    clear he
    generalize (pre ++ [x]).foldl (fun o w => o ||| R.getD w 0) 0 = Fo at *
    generalize R.getD x 0 = y at *
    have hc0 := hb0.cell 0
    have hc1 := hb1.cell 0
    have hf1 := hb1.frozen 0
    gi_wp2
    gi_region_with_o (fail)
    all_goals gi_wp2
    all_goals (try go_bits)
    all_goals (refine ⟨same3_set (Same3.refl _ _ _) (by rintro (h | h | h) <;> omega) _, ?_⟩; rw [HN.out, HV.out]; exact ⟨o ||| y, hb0.far (by simp) _, bk_set hb1 _, (hk.setCell (.inr (by simp)) _).drew, or_lt64 ho hy, HE⟩)
  case done =>
    rintro W ⟨o, hb0, hb1, hk, ho, he⟩ hD
    have hc1 := hb1.cell 0
    have HR : Hid (mapN R s = o) := Lib.hid he.out.symm
    clear he
    gi_wp2
    rw [HR.out]
    refine ⟨by simp, .inl ⟨_, _, rfl, run_takeDeferred hD, ?_⟩⟩
    exact ⟨.int .u64 o, by simp [results, Tryd.results38, go_sem], rfl, keep_end hk (by omega) _⟩
  case stop => rintro pre W h; exact h.elim

theorem Box_any (R : List Nat) (hR : Ok R) (s : Nat) (hs : s < 18446744073709551616) (A : Option Addr) (c : Nat) (w : World) (hrd : Rd w (.slice A R.length c) 1 R.length (n64 R)) :
    Calls Tryd.prog 10 #[.slice A R.length c, .int .u64 s] w fun e w' => e = .returned (.int .u64 (bxN R s)) ∧ w' = w := by
  have hl : (R.length : Int) ≤ 64 := by have := hR.1; omega
  have HC := Lib.hid (rlCheck_any R hR A c w hrd)
  have HE : Hid (∀ j, j < R.length → (bits .andNot .u64 ((R.getD j 0 : Nat) : Int) (s : Int) == 0) = decide (adN (R.getD j 0) s = 0)) := Lib.hid fun j hj => by
    rw [and_not _ _ (hR.lt64 j) hs, Bool.eq_iff_iff]
    simp only [beq_iff_eq, decide_eq_true_eq]
    omega
  have HO : Hid (bxN R s = enc R.length fun w => decide (adN (R.getD w 0) s = 0)) := Lib.hid rfl
  have HS : Hid (∀ j, enc (j + 1) (fun w => decide (adN (R.getD w 0) s = 0)) = enc j (fun w => decide (adN (R.getD w 0) s = 0)) ||| (if decide (adN (R.getD j 0) s = 0) = true then 2 ^ j else 0)) := Lib.hid fun j => Dd.enc_snoc j _
  have HL : Hid (∀ j, j ≤ R.length → enc j (fun w => decide (adN (R.getD w 0) s = 0)) < 18446744073709551616) := Lib.hid fun j hj =>
    Nat.lt_of_lt_of_le (Dd.enc_lt j _) (Nat.pow_le_pow_right (n := 2) (j := 64) (by omega) (by omega))
  generalize hf : (fun w => decide (adN (R.getD w 0) s = 0)) = f at *
  have HF : Hid (∀ j, decide (adN (R.getD j 0) s = 0) = f j) := Lib.hid fun j => by rw [← hf]
  clear hf
  generalize bxN R s = res at *
  go_enter Tryd.func10, Tryd.ntmps10
  go_wp2_with (go_at_call 37; (with_reducible refine HC.out.mono ?_); rintro e w' ⟨rfl, hw'⟩; obtain rfl := hw'.symm)
  go_loopw [5, 14] (fun o i wr => ∃ j : Nat, i = .int .i64 j ∧ o = .int .u64 (enc j f : Nat) ∧ j ≤ R.length ∧ wr = w) (fun _ i _ => R.length - (intOf i).toNat)
  case atStart => exact ⟨0, rfl, rfl, by omega, rfl⟩
  case round =>
    obtain ⟨j, rfl, rfl, hj, rfl⟩ := hrel
    by_cases hlt : j < R.length
    · obtain ⟨bl, off, rfl, hc⟩ := hrd.nat hlt
      have hE := HE.out j hlt
      rw [HF.out j] at hE
      have hS := HS.out j
      rw [HF.out j] at hS
      have hlt' : (j : Int) < (R.length : Int) := by omega
      have hj64 : j < 64 := by omega
      have HV := Lib.hid (or_shl (HL.out j hj) hj64)
      have HS1 := Lib.hid hS
      clear hS
      generalize hfo : enc (j + 1) f = o1 at *
      generalize enc j f = o at *
      generalize R.getD j 0 = x at *
      cases hfj : f j with
      | true =>
        rw [hfj] at hE HS1
        have HX : Hid (o ||| 2 ^ j = o1) := Lib.hid HS1.out.symm
        clear HS1
        go_wp2
        go_roundw
        case rel => exact ⟨j + 1, by go_num, by rw [hfo, ← HX.out]; exact congrArg (Value.int .u64) HV.out, by omega, by trivial⟩
        case measure => simp only [intOf]; omega
      | false =>
        rw [hfj] at hE HS1
        have HX : Hid (o = o1) := Lib.hid (by have := HS1.out; simpa using this.symm)
        clear HS1
        go_wp2
        go_roundw
        case rel => exact ⟨j + 1, by go_num, by rw [hfo, HX.out], by omega, by trivial⟩
        case measure => simp only [intOf]; omega
    · have hlt' : ¬ (j : Int) < (R.length : Int) := by omega
      have hjl : j = R.length := by omega
      have HR2 : Hid (enc j f = res) := Lib.hid (by rw [hjl]; exact HO.out.symm)
      clear hjl
      generalize enc j f = o at *
      go_wp2
      go_ret
      exact ⟨by rw [HR2.out]; rfl, rfl⟩
theorem xor_all {s : Nat} (hs : s < 18446744073709551616) : bits .xor .u64 (if IntKind.u64.signed = true then -1 else IntKind.u64.max) (s : Int) = ((18446744073709551615 - s : Nat) : Int) := by
  have e : (if IntKind.u64.signed = true then -1 else IntKind.u64.max) = ((18446744073709551615 : Nat) : Int) := by decide
  rw [e, u64_xor_nat _ _ (by omega) hs]
  congr 1
  apply Nat.eq_of_testBit_eq
  intro i
  rw [not_bit hs, Nat.testBit_xor, show (18446744073709551615 : Nat) = 2 ^ 64 - 1 by decide, Nat.testBit_two_pow_sub_one]
  by_cases hi : i < 64
  · simp [hi]
  · have : s.testBit i = false := by
      cases h : s.testBit i
      · rfl
      · exact absurd (bit_lt64 hs h) hi
    simp [hi, this]
theorem bxN_lt (R : List Nat) (s : Nat) : bxN R s < 2 ^ R.length := Dd.enc_lt _ _
theorem Diamond_any (R : List Nat) (hR : Ok R) (s : Nat) (hs : s < 18446744073709551616) (A : Option Addr) (c : Nat) (w : World) (hrd : Rd w (.slice A R.length c) 1 R.length (n64 R)) :
    Calls Tryd.prog 22 #[.slice A R.length c, .int .u64 s] w fun e w' => e = .returned (.int .u64 (dmN R s)) ∧ w' = w := by
  have hn := hR.1
  have h64 : 2 ^ R.length ≤ 2 ^ 64 := Nat.pow_le_pow_right (by omega) hn
  have HC := Lib.hid (rlCheck_any R hR A c w hrd)
  have HA := Lib.hid (all_any R.length hn)
  have HB := Lib.hid (Box_any R hR (18446744073709551615 - s) (by omega) A c w hrd)
  have hb := bxN_lt R (18446744073709551615 - s)
  have HV := Lib.hid (and_not (2 ^ R.length - 1) (bxN R (18446744073709551615 - s)) (by have := @all_sub R.length; omega) (by omega))
  have HD : Hid (dmN R s = adN (2 ^ R.length - 1) (bxN R (18446744073709551615 - s))) := Lib.hid rfl
  rw [← xor_all hs] at HB
  clear h64 hb
  generalize bxN R (18446744073709551615 - s) = b at *
  generalize 2 ^ R.length - 1 = N at *
  generalize dmN R s = d at *
  generalize adN N b = d2 at *
  go_enter Tryd.func22, Tryd.ntmps22
  go_wp2_with (first
    | (go_at_call 37; (with_reducible refine HC.out.mono ?_); rintro e w' ⟨rfl, hw'⟩; obtain rfl := hw'.symm)
    | (go_at_call 39; (with_reducible refine (HA.out _).mono ?_); rintro e w' ⟨rfl, hw'⟩; obtain rfl := hw'.symm)
    | (go_at_call 10; (with_reducible refine HB.out.mono ?_); rintro e w' ⟨rfl, hw'⟩; obtain rfl := hw'.symm))
  go_ret
  exact ⟨by rw [HV.out, HD.out]; rfl, rfl⟩

end
end Go.Proofs.YtgdmcidcappkpaaDoor
