/- The checker: what request does. No condition. -/
import Derived.Test.YtmjdbbfoihadoaaEvE
import Derived.Test.YtmjdbbfoihadoaaEvF
set_option linter.unusedVariables false
set_option linter.unusedSimpArgs false
namespace Go.Proofs.Ytmjdbbfoihadoaa
open Go.RowKit
open Ev
open Fm (Nd checkE compactL)
attribute [local go_sem] Oper.semAt_some
theorem frag_and {m : Nat} (hm : m < 512) : (bits .andNot .i64 (m : Int) 15 != 0) = !decide (m < 16) := by
  have h1 : (BitVec.ofInt 64 (m : Int)).toNat = m := by
    rw [BitVec.ofInt_natCast, BitVec.toNat_ofNat]; exact Nat.mod_eq_of_lt (by omega)
  have h : ∀ m : Fin 512, (bits .andNot .i64 ((m.val : Nat) : Int) 15 != 0) = !decide (m.val < 16) := by decide +kernel
  exact h ⟨m, hm⟩
section
set_option maxRecDepth 100000
set_option maxHeartbeats 2000000
theorem ckrequest_any {M : Md} {va ra : Option Addr} {cv cr : Nat} {rs : List (Option Addr × Nat)} (f : List Nd) (A : Option Addr) (c : Nat) (w : World) (hM : MdR w M va cv ra cr rs) (hll : f.length ≤ 9223372036854775807) (hrd : Rd w (.slice A f.length c) 6 f.length (fmC f)) :
    Calls Try.prog 15 #[.agg #[.int .i64 M.W, .slice va M.V.length cv, .slice ra M.R.length cr], .slice A f.length c] w fun e w' => e = .returned (.int .i64 (requestE M f)) ∧ Keep NoF w w' := by
  have k0 : Keep NoF w (w.alloc (.cells #[.int .i64 M.W, .slice va M.V.length cv, .slice ra M.R.length cr] 25)) := (Keep.refl _ _).alloc _
  have b0 := Bk.new w 25 #[.int .i64 M.W, .slice va M.V.length cv, .slice ra M.R.length cr]
  have HC := Lib.hid (moCheck_any _ (hM.keep k0))
  have HFC := Lib.hid fun W (hk : Keep NoF w W) => fmCheck_any f A c W hll (hrd.kept hk fun _ _ h => h)
  have HFG := Lib.hid fun W (hk : Keep NoF w W) => fmFrags_ex f A c W hll (hrd.kept hk fun _ _ h => h)
  have HB := Lib.hid b0
  have HKW : Hid (∀ v, Keep NoF (w.alloc (.cells #[.int .i64 M.W, .slice va M.V.length cv, .slice ra M.R.length cr] 25)) v → Keep NoF w v) := Lib.hid fun v h => k0.trans h fun _ _ h => h
  by_cases h1 : modelE M = 0
  · have hok := (model_zero hM.u).1 h1
    have HFT := Lib.hid fun W (hk : Keep NoF w W) => Fits_ex f A c M.R.length M.V.length W hll (hrd.kept hk fun _ _ h => h) (by have := hok.rl; omega) hok.vl
    rw [h1] at HC
    by_cases h2 : checkE f = 0
    · rw [h2] at HFC
      have hfr := frag_and (orG_512 (compactL f))
      have hg := orG_512 (compactL f)
      have hst : statB f = decide (orG (compactL f) < 16) := rfl
      cases h3 : statB f with
      | false =>
        have HE : Hid (requestE M f = 10) := Lib.hid (by unfold requestE; rw [if_neg (by simp [h1]), if_neg (by simp [h2]), if_pos h3])
        rw [← hst, h3] at hfr
        rw [HE.out]
        clear hst h3 h1 h2 hok hM hrd b0 hg
        have hfr2 : (bits .andNot .i64 ((orG (compactL f) : Nat) : Int) 15 != 0) = true := hfr
        clear hfr
        generalize orG (compactL f) = gg at *
        generalize f.length = fl at *
        go_enter Try.func15, Try.ntmps15
        go_upto_region 1 with (fail)
        generalize w.alloc (.cells #[.int .i64 M.W, .slice va M.V.length cv, .slice ra M.R.length cr] 25) = W0 at *
        have s0 : W0.cell? ⟨w.heap.size, 0, none⟩ = some (.int .i64 M.W) := HB.out.cell 0
        have s1 : W0.cell? ⟨w.heap.size, 1, none⟩ = some (.slice va M.V.length cv) := HB.out.cell 1
        have s2 : W0.cell? ⟨w.heap.size, 2, none⟩ = some (.slice ra M.R.length cr) := HB.out.cell 2
        go_wp2_with (first
          | (go_at_call 23; (with_reducible refine HC.out.mono ?_); rintro e w1 ⟨rfl, K1⟩; have k1 := HKW.out _ K1)
          | (go_at_call 21; (with_reducible refine (HFC.out _ k1).mono ?_); rintro e w2 ⟨rfl, K2⟩; have k2 := k1.trans K2 fun _ _ h => h)
          | (go_at_call 24; (with_reducible refine (HFG.out _ k2).mono ?_); rintro e w3 ⟨rfl, K3⟩; have k3 := k2.trans K3 fun _ _ h => h))
        go_ret
        exact ⟨rfl, k3⟩
      | true =>
        rw [← hst, h3] at hfr
        have hfr2 : (bits .andNot .i64 ((orG (compactL f) : Nat) : Int) 15 != 0) = false := hfr
        have HE : Hid (requestE M f = if fitsB f M.R.length M.V.length = false then 2 else 0) := Lib.hid (by unfold requestE; rw [if_neg (by simp [h1]), if_neg (by simp [h2]), if_neg (by simp [h3])])
        rw [HE.out]
        clear hst h3 h1 h2 hok hM hrd b0 hg hfr HE
        generalize orG (compactL f) = gg at *
        generalize fitsB f M.R.length M.V.length = fb at *
        generalize f.length = fl at *
        cases fb
        all_goals
          go_enter Try.func15, Try.ntmps15
          go_upto_region 1 with (fail)
          generalize w.alloc (.cells #[.int .i64 M.W, .slice va M.V.length cv, .slice ra M.R.length cr] 25) = W0 at *
          have s0 : W0.cell? ⟨w.heap.size, 0, none⟩ = some (.int .i64 M.W) := HB.out.cell 0
          have s1 : W0.cell? ⟨w.heap.size, 1, none⟩ = some (.slice va M.V.length cv) := HB.out.cell 1
          have s2 : W0.cell? ⟨w.heap.size, 2, none⟩ = some (.slice ra M.R.length cr) := HB.out.cell 2
          go_wp2_with (first
            | (go_at_call 23; (with_reducible refine HC.out.mono ?_); rintro e w1 ⟨rfl, K1⟩; have k1 := HKW.out _ K1)
            | (go_at_call 21; (with_reducible refine (HFC.out _ k1).mono ?_); rintro e w2 ⟨rfl, K2⟩; have k2 := k1.trans K2 fun _ _ h => h)
            | (go_at_call 24; (with_reducible refine (HFG.out _ k2).mono ?_); rintro e w3 ⟨rfl, K3⟩; have k3 := k2.trans K3 fun _ _ h => h; have t1 : w3.cell? ⟨w.heap.size, 1, none⟩ = some (.slice va M.V.length cv) := K3.cellv (K2.cellv (K1.cellv s1 fun h => h) fun h => h) fun h => h; have t2 : w3.cell? ⟨w.heap.size, 2, none⟩ = some (.slice ra M.R.length cr) := K3.cellv (K2.cellv (K1.cellv s2 fun h => h) fun h => h) fun h => h)
            | (go_at_call 25; (with_reducible refine (HFT.out _ k3).mono ?_); rintro e w4 ⟨rfl, K4⟩; have k4 := k3.trans K4 fun _ _ h => h))
          go_ret
          exact ⟨rfl, k4⟩
    · have HE : Hid (requestE M f = checkE f) := Lib.hid (by unfold requestE; rw [if_neg (by simp [h1]), if_pos h2])
      have hx : (checkE f != 0) = true := by simpa using h2
      rw [HE.out]
      clear h1 h2 hok hM hrd b0 HE HFG HFT
      generalize checkE f = x at *
      generalize f.length = fl at *
      go_enter Try.func15, Try.ntmps15
      go_upto_region 1 with (fail)
      generalize w.alloc (.cells #[.int .i64 M.W, .slice va M.V.length cv, .slice ra M.R.length cr] 25) = W0 at *
      have s0 : W0.cell? ⟨w.heap.size, 0, none⟩ = some (.int .i64 M.W) := HB.out.cell 0
      have s1 : W0.cell? ⟨w.heap.size, 1, none⟩ = some (.slice va M.V.length cv) := HB.out.cell 1
      have s2 : W0.cell? ⟨w.heap.size, 2, none⟩ = some (.slice ra M.R.length cr) := HB.out.cell 2
      go_wp2_with (first
        | (go_at_call 23; (with_reducible refine HC.out.mono ?_); rintro e w1 ⟨rfl, K1⟩; have k1 := HKW.out _ K1)
        | (go_at_call 21; (with_reducible refine (HFC.out _ k1).mono ?_); rintro e w2 ⟨rfl, K2⟩; have k2 := k1.trans K2 fun _ _ h => h))
      go_ret
      exact ⟨rfl, k2⟩
  · have HE : Hid (requestE M f = modelE M) := Lib.hid (by unfold requestE; rw [if_pos h1])
    have hx : (modelE M != 0) = true := by simpa using h1
    rw [HE.out]
    clear h1 hM hrd b0 HE HFG HFC
    generalize modelE M = x at *
    generalize f.length = fl at *
    go_enter Try.func15, Try.ntmps15
    go_upto_region 1 with (fail)
    generalize w.alloc (.cells #[.int .i64 M.W, .slice va M.V.length cv, .slice ra M.R.length cr] 25) = W0 at *
    have s0 : W0.cell? ⟨w.heap.size, 0, none⟩ = some (.int .i64 M.W) := HB.out.cell 0
    have s1 : W0.cell? ⟨w.heap.size, 1, none⟩ = some (.slice va M.V.length cv) := HB.out.cell 1
    have s2 : W0.cell? ⟨w.heap.size, 2, none⟩ = some (.slice ra M.R.length cr) := HB.out.cell 2
    go_wp2_with (first
      | (go_at_call 23; (with_reducible refine HC.out.mono ?_); rintro e w1 ⟨rfl, K1⟩; have k1 := HKW.out _ K1))
    go_ret
    exact ⟨rfl, k1⟩
end
end Go.Proofs.Ytmjdbbfoihadoaa
