/- What the program's Subset does. Conditions: the library's table of trailing zeros lies in its variable. -/
import Derived.Test.YtckmhngcnimmdaaDoorWsQ
set_option linter.unusedVariables false
set_option linter.unusedSimpArgs false
namespace Go.Proofs.YtckmhngcnimmdaaDoor
open Go.RowKit Go.Shelf
attribute [local go_sem] Oper.semAt_some

theorem and_one (m : Nat) (hm : m < 18446744073709551616) : (bits BinOp.and IntKind.u64 (m : Int) 1 == 1) = decide (m % 2 = 1) := by
  rw [show (1 : Int) = ((1 : Nat) : Int) from rfl, bits_and_u64_nat _ _ hm (by omega), Nat.and_one_is_mod]
  by_cases h : m % 2 = 1
  · simp [h]
  · have : m % 2 = 0 := by omega
    simp [this]

/-- Between two rounds. -/
def SubI (w : World) (r : Nat × Bool) (l pre : List Nat) (W : World) : Prop :=
  ∃ s' m : Nat, Bk W w.heap.size 23 #[.int .u64 s'] ∧ Bk W (w.heap.size + 1) 23 #[.int .u64 m] ∧
    Keep NoF w W ∧ s' < 18446744073709551616 ∧ m < 18446744073709551616 ∧ Hid (subL s' m (l.drop pre.length) = r)

section
set_option maxRecDepth 100000
set_option maxHeartbeats 1000000
theorem Subset_any (s : Nat) (i : Int) (w : World) (hs : s < 18446744073709551616) (hi : i ≤ 9223372036854775807) (ht : Tab w) :
    Calls Tryd.prog 32 #[.int .u64 s, .int .i64 i] w fun e w' => e = .returned (.tuple #[.int .u64 (subS s i).1, .bool (subS s i).2]) ∧ Keep NoF w w' := by
  by_cases h0 : i < 0
  · rw [show subS s i = (0, false) from if_pos h0]
    go_enter Tryd.func32, Tryd.ntmps32
    go_wp2
    refine bodyPost_ret (v := .tuple #[.int .u64 0, .bool false]) (by simp [results, Tryd.results32, go_sem]) rfl ⟨rfl, Keep.refl _ _⟩
  · obtain ⟨i0, rfl⟩ : ∃ n : Nat, i = n := ⟨i.toNat, by omega⟩
    rw [show subS s i0 = subL 0 i0 (mem s) from if_neg h0]
    generalize hr : subL 0 i0 (mem s) = r
    have HR := Lib.hid hr
    clear hr
    have hmix : Tryd.prog.follows .mixedOrders = true := by kernel_rfl
    refine (callsIn_wide (n := 3)).1 ?_
    refine callsIn_of_wp_marks Tryd.func32 rfl trivial ?_ rfl
    simp only [Tryd.ntmps32, List.size_toArray, List.length_cons, List.length_nil, Nat.reduceAdd, Nat.reduceSub, Array.replicate_succ, Array.replicate_zero, List.push_toArray, List.append_toArray, List.nil_append, List.cons_append]
    gi_wp2_with (refine ⟨trivial, ?_⟩; gi_at_call 39; refine (callsIn_wide.2 (each_any s _)).mono ?_; rintro e w' ⟨rfl, rfl⟩)
    have hlx : (mem s).length ≤ 64 := mem_len s
    refine each_at (n := 3) (B := w.heap.size + 2) (s := s) (w.heap.size + 3) (by simp) (by omega) hs rfl (by simpa using Bk.new ((w.alloc (.cells #[.int .u64 0] 23)).alloc (.cells #[.int .u64 i0] 23)) 23 #[.int .u64 s]) rfl
      (SubI w r (mem s)) (fun _ _ => False) ?hI (fun _ _ _ h _ => h.elim) ?hT ?h0
      (fun x => { tmps := #[.int .u64 s, .int .i64 i0, undef, undef, .int .u64 0, .bool false, .pointer (some ⟨w.heap.size, 0, none⟩), .pointer (some ⟨w.heap.size + 1, 0, none⟩), .int .i64 (x : Nat), .int .i64 i0, .bool false, .int .i64 i0, .int .u64 i0, .int .u64 s, .func (.func 48) #[] #[.pointer (some ⟨w.heap.size + 2, 0, none⟩)], .int .i64 (x : Nat), undef, undef, undef, undef, undef, undef, undef, undef, undef, undef, undef, undef], defers := [] }) ?assign ?body ?done ?stop
    case hI =>
      rintro pre W W' ⟨s', m, h0, h1, hk, hs', hm, ho⟩ hb
      exact ⟨s', m, h0.keep hb (by rintro (h | h | h) <;> omega), h1.keep hb (by rintro (h | h | h) <;> omega), keep_book hk hb (by omega) (by omega), hs', hm, ho⟩
    case hT =>
      rintro pre W ⟨s', m, h0, h1, hk, hs', hm, ho⟩
      exact ht.keep0 hk
    case h0 => exact ⟨0, i0, ((Bk.new w 23 #[.int .u64 0]).alloc _).alloc _, (by simpa using Bk.new (w.alloc (.cells #[.int .u64 0] 23)) 23 #[.int .u64 i0] : Bk _ (w.heap.size + 1) _ _).alloc _, (((Keep.refl _ w).alloc _).alloc _).alloc _, by omega, by omega, HR⟩
    case assign =>
      intro l x W K hK
      gi_wp2
      exact hK
    case body =>
      rintro l pre x W hpx ⟨s', m, hb0, hb1, hk, hs', hm, ho⟩ hBW hDW
      have hx64 : x < 64 := (mem_lt (hpx.subset (by simp))).1
      have hdr : (mem s).drop pre.length = x :: (mem s).drop (pre ++ [x]).length := by
        obtain ⟨suf, e⟩ := hpx
        rw [← e]
        simp
      have ho1 := ho.out
      rw [hdr] at ho1
      unfold subL at ho1
      clear hdr ho HR
      have HN : Hid (SubI w r (mem s) (pre ++ [x]) = fun W => ∃ s' m : Nat, Bk W w.heap.size 23 #[.int .u64 s'] ∧ Bk W (w.heap.size + 1) 23 #[.int .u64 m] ∧
        Keep NoF w W ∧ s' < 18446744073709551616 ∧ m < 18446744073709551616 ∧ Hid (subL s' m ((mem s).drop (pre ++ [x]).length) = r)) := Lib.hid rfl
      generalize (mem s).drop (pre ++ [x]).length = rest at *
      have hc0 := hb0.cell 0
      have hf0 := hb0.frozen 0
      have hc1 := hb1.cell 0
      have hf1 := hb1.frozen 0
      have ha := and_one m hm
      have HV := Lib.hid (or_shl hs' hx64)
      have HD : Hid ((m : Int) / 2 = ((m / 2 : Nat) : Int)) := Lib.hid (by omega)
      by_cases h1 : m % 2 = 1
      · rw [if_pos h1] at ho1
        have HO := Lib.hid ho1
        rw [decide_eq_true h1] at ha
        clear ho1 h1
        gi_wp2
        gi_region_with_o (fail)
        all_goals gi_wp2
        all_goals (try go_bits)
        all_goals (refine ⟨same3_set (same3_set (Same3.refl _ _ _) (by rintro (h | h | h) <;> omega) _) (by rintro (h | h | h) <;> omega) _, ?_⟩; rw [HN.out, HV.out, HD.out]; exact ⟨s' ||| 2 ^ x, m / 2, (bk_set hb0 _).far (by simp) _, bk_set (hb1.far (by simp) _) _, ((hk.setCell (.inr (by simp)) _).setCell (.inr (by simp)) _).drew, or_lt64 hs' (pow_lt64 hx64), by omega, HO⟩)
      · rw [if_neg h1] at ho1
        have HO := Lib.hid ho1
        rw [decide_eq_false h1] at ha
        clear ho1 h1
        gi_wp2
        refine ⟨same3_set (Same3.refl _ _ _) (by rintro (h | h | h) <;> omega) _, ?_⟩
        rw [HN.out, HD.out]
        exact ⟨s', m / 2, hb0.far (by simp) _, bk_set hb1 _, hk.setCell (.inr (by simp)) _, hs', by omega, HO⟩
    case done =>
      rintro W ⟨s', m, hb0, hb1, hk, hs', hm, ho⟩ hD
      have hc0 := hb0.cell 0
      have hc1 := hb1.cell 0
      have ho1 := ho.out
      rw [List.drop_length] at ho1
      unfold subL at ho1
      clear ho HR
      by_cases h1 : 0 < m
      · rw [if_pos h1] at ho1
        have HRr := Lib.hid ho1.symm
        clear ho1
        have hz : ((m : Int) != 0) = true := by simp; omega
        gi_wp2
        rw [HRr.out]
        refine ⟨by simp, .inl ⟨_, _, rfl, run_takeDeferred hD, ?_⟩⟩
        exact ⟨.tuple #[.int .u64 0, .bool false], by simp [results, Tryd.results32, go_sem], rfl, keep_end hk (by omega) _⟩
      · rw [if_neg h1] at ho1
        have HRr := Lib.hid ho1.symm
        clear ho1
        obtain rfl : m = 0 := by omega
        gi_wp2
        rw [HRr.out]
        refine ⟨by simp, .inl ⟨_, _, rfl, run_takeDeferred hD, ?_⟩⟩
        exact ⟨.tuple #[.int .u64 s', .bool true], by simp [results, Tryd.results32, go_sem], rfl, keep_end hk (by omega) _⟩
    case stop =>
      intro pre W h _
      exact h.elim
end
end Go.Proofs.YtckmhngcnimmdaaDoor
