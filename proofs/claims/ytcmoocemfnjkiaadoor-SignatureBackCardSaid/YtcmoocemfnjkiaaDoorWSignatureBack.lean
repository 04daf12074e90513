/- The law SignatureBack answers true. Conditions: the variables lie as they are read. -/
import Derived.Test.YtcmoocemfnjkiaaDoorSgO
import Derived.Test.YtcmoocemfnjkiaaDoorSgF
import Derived.Test.YtcmoocemfnjkiaaDoorSgQ
set_option linter.unusedVariables false
set_option linter.unusedSimpArgs false
namespace Go.Proofs.YtcmoocemfnjkiaaDoor
open Go.RowKit
section
set_option maxRecDepth 100000
set_option maxHeartbeats 4000000
theorem walk_SignatureBack (S : Sg) (a f c : Option Addr) (ca cf cc : Nat) (g : Int) (w : World) (hS : SigR w S a ca f cf c cc) (hT : Tab w) :
    Calls Tryd.prog 7 #[.agg #[.slice a S.A.length ca, .slice f S.F.length cf, .slice c S.C.length cc], .int .i64 g] w fun e w' => e = .returned (.bool true) ∧ Keep NoF w w' := by
  have HT := Lib.hid hT
  have HS := Lib.hid hS
  have HB := Lib.hid (fun w' (hk : Keep NoF (w.alloc (.cells #[.slice a S.A.length ca, .slice f S.F.length cf, .slice c S.C.length cc] 24)) w') => box_cells (S := S) (a := a) (ca := ca) (f := f) (cf := cf) (c := c) (cc := cc) (t := 24) hk)
  have KW : Hid (∀ q, Keep NoF (w.alloc (.cells #[.slice a S.A.length ca, .slice f S.F.length cf, .slice c S.C.length cc] 24)) q → Keep NoF w q) := Lib.hid fun q hq => ((Keep.refl NoF w).alloc _).trans hq fun _ _ h => h
  have X0 : Hid (Keep NoF (w.alloc (.cells #[.slice a S.A.length ca, .slice f S.F.length cf, .slice c S.C.length cc] 24)) (w.alloc (.cells #[.slice a S.A.length ca, .slice f S.F.length cf, .slice c S.C.length cc] 24))) := Lib.hid (Keep.refl _ _)
  clear hT hS
  cases hf : fewB S with
  | false =>
    have HFW : Hid (∀ w', Calls Tryd.prog 11 #[.agg #[.slice a S.A.length ca, .slice f S.F.length cf, .slice c S.C.length cc]] w' fun e w'' => e = .returned (.bool false) ∧ Keep NoF w' w'') := Lib.hid fun w' => by
      have := Few_any S a f c ca cf cc w'
      rw [hf] at this
      exact this
    clear hf
    go_enter Tryd.func7, Tryd.ntmps7
    go_wp2_with (first
      | (go_at_call 10
         (with_reducible refine (awake_any _ (HT.out.keep0 (KW.out _ X0.out))).mono ?_)
         rintro e wq1 ⟨rfl, hq⟩
         have X1 := Lib.hid (X0.out.trans hq fun _ _ h => h)
         obtain ⟨u0, u1, u2, zz1⟩ := HB.out _ X1.out
         clear hq)
      | (go_at_call 11
         (with_reducible refine (HFW.out _).mono ?_)
         rintro e wq2 ⟨rfl, hq⟩
         have X2 := Lib.hid (X1.out.trans hq fun _ _ h => h)
         obtain ⟨u0, u1, u2, zz2⟩ := HB.out _ X2.out
         clear hq)
      | (go_at_call 10
         (with_reducible refine (awake_any _ (HT.out.keep0 (KW.out _ X2.out))).mono ?_)
         rintro e wq3 ⟨rfl, hq⟩
         have X3 := Lib.hid (X2.out.trans hq fun _ _ h => h)
         obtain ⟨u0, u1, u2, zz3⟩ := HB.out _ X3.out
         clear hq))
    go_ret
    exact ⟨rfl, KW.out _ X3.out⟩
  | true =>
    have HFW : Hid (∀ w', Calls Tryd.prog 11 #[.agg #[.slice a S.A.length ca, .slice f S.F.length cf, .slice c S.C.length cc]] w' fun e w'' => e = .returned (.bool true) ∧ Keep NoF w' w'') := Lib.hid fun w' => by
      have := Few_any S a f c ca cf cc w'
      rw [hf] at this
      exact this
    clear hf
    have HCK := Lib.hid fun w' hg => rCheck_any S a f c ca cf cc w' hg
    by_cases h0 : checkS S = 0
    · rw [h0] at HCK
      have hOk := checkS_ok h0
      have hA := hOk.lA
      obtain ⟨hpw, hp16⟩ := pow_wrap hA
      have HX := Lib.hid fun w' hg ht => Text_any S a f c ca cf cc g w' hg ht
      by_cases hg : g < 1 ∨ ((2 ^ S.A.length : Nat) : Int) ≤ g
      · rw [textS_out h0 hg] at HX
        by_cases hg1 : g < 1
        · clear hg hpw hp16 hOk
          go_enter Tryd.func7, Tryd.ntmps7
          go_wp2_with (first
            | (go_at_call 10
               (with_reducible refine (awake_any _ (HT.out.keep0 (KW.out _ X0.out))).mono ?_)
               rintro e wq1 ⟨rfl, hq⟩
               have X1 := Lib.hid (X0.out.trans hq fun _ _ h => h)
               obtain ⟨u0, u1, u2, zz1⟩ := HB.out _ X1.out
               clear hq)
            | (go_at_call 11
               (with_reducible refine (HFW.out _).mono ?_)
               rintro e wq2 ⟨rfl, hq⟩
               have X2 := Lib.hid (X1.out.trans hq fun _ _ h => h)
               obtain ⟨u0, u1, u2, zz2⟩ := HB.out _ X2.out
               clear hq)
            | (go_at_call 13
               (with_reducible refine (HCK.out _ (HS.out.keep (KW.out _ X2.out))).mono ?_)
               rintro e wq3 ⟨rfl, hq⟩
               have X3 := Lib.hid (X2.out.trans hq fun _ _ h => h)
               obtain ⟨u0, u1, u2, zz3⟩ := HB.out _ X3.out
               clear hq)
            | (go_at_call 30
               (with_reducible refine (HX.out _ (HS.out.keep (KW.out _ X3.out)) (HT.out.keep0 (KW.out _ X3.out))).mono ?_)
               rintro e wq4 ⟨rfl, hq⟩
               have X4 := Lib.hid (X3.out.trans hq fun _ _ h => h)
               obtain ⟨u0, u1, u2, zz4⟩ := HB.out _ X4.out
               clear hq))
          go_ret
          exact ⟨rfl, KW.out _ X4.out⟩
        · have hge : wrap64 ((2 : Int) ^ S.A.length) ≤ g := by rw [hpw]; omega
          clear hg hpw hp16 hOk
          go_enter Tryd.func7, Tryd.ntmps7
          go_wp2_with (first
            | (go_at_call 10
               (with_reducible refine (awake_any _ (HT.out.keep0 (KW.out _ X0.out))).mono ?_)
               rintro e wq1 ⟨rfl, hq⟩
               have X1 := Lib.hid (X0.out.trans hq fun _ _ h => h)
               obtain ⟨u0, u1, u2, zz1⟩ := HB.out _ X1.out
               clear hq)
            | (go_at_call 11
               (with_reducible refine (HFW.out _).mono ?_)
               rintro e wq2 ⟨rfl, hq⟩
               have X2 := Lib.hid (X1.out.trans hq fun _ _ h => h)
               obtain ⟨u0, u1, u2, zz2⟩ := HB.out _ X2.out
               clear hq)
            | (go_at_call 13
               (with_reducible refine (HCK.out _ (HS.out.keep (KW.out _ X2.out))).mono ?_)
               rintro e wq3 ⟨rfl, hq⟩
               have X3 := Lib.hid (X2.out.trans hq fun _ _ h => h)
               obtain ⟨u0, u1, u2, zz3⟩ := HB.out _ X3.out
               clear hq)
            | (go_at_call 30
               (with_reducible refine (HX.out _ (HS.out.keep (KW.out _ X3.out)) (HT.out.keep0 (KW.out _ X3.out))).mono ?_)
               rintro e wq4 ⟨rfl, hq⟩
               have X4 := Lib.hid (X3.out.trans hq fun _ _ h => h)
               obtain ⟨u0, u1, u2, zz4⟩ := HB.out _ X4.out
               clear hq))
          go_ret
          exact ⟨rfl, KW.out _ X4.out⟩
      · obtain ⟨n, rfl⟩ : ∃ n : Nat, g = n := ⟨g.toNat, by omega⟩
        have hn1 : 1 ≤ n := by omega
        have hn2 : n < 2 ^ S.A.length := by omega
        have hn16 : n < 16 := by omega
        have hge : ¬ wrap64 ((2 : Int) ^ S.A.length) ≤ (n : Int) := by rw [hpw]; omega
        rw [textS_in h0 hn1 hn2] at HX
        obtain ⟨q1, q2, q3⟩ := back_law h0 hn1 hn2
        generalize joinC (sel n S.A 0) = r at *
        have HP := Lib.hid fun w' hg ht => Parse_any S a f c ca cf cc r w' hg ht (by omega)
        rw [q1] at HP
        have HSP := Lib.hid fun w' ht => split_any r w' (by omega) ht
        rw [q2] at HSP
        have en : ((n : Int) == (n : Int)) = true := by simp
        have ec : ((cntB n S.A.length : Int) == (cntB n S.A.length : Int)) = true := by simp
        clear hg hpw hp16 hOk q1 q2 q3 hn2
        go_enter Tryd.func7, Tryd.ntmps7
        go_wp2_with (first
          | (go_at_call 10
             (with_reducible refine (awake_any _ (HT.out.keep0 (KW.out _ X0.out))).mono ?_)
             rintro e wq1 ⟨rfl, hq⟩
             have X1 := Lib.hid (X0.out.trans hq fun _ _ h => h)
             obtain ⟨u0, u1, u2, zz1⟩ := HB.out _ X1.out
             clear hq)
          | (go_at_call 11
             (with_reducible refine (HFW.out _).mono ?_)
             rintro e wq2 ⟨rfl, hq⟩
             have X2 := Lib.hid (X1.out.trans hq fun _ _ h => h)
             obtain ⟨u0, u1, u2, zz2⟩ := HB.out _ X2.out
             clear hq)
          | (go_at_call 13
             (with_reducible refine (HCK.out _ (HS.out.keep (KW.out _ X2.out))).mono ?_)
             rintro e wq3 ⟨rfl, hq⟩
             have X3 := Lib.hid (X2.out.trans hq fun _ _ h => h)
             obtain ⟨u0, u1, u2, zz3⟩ := HB.out _ X3.out
             clear hq)
          | (go_at_call 30
             (with_reducible refine (HX.out _ (HS.out.keep (KW.out _ X3.out)) (HT.out.keep0 (KW.out _ X3.out))).mono ?_)
             rintro e wq4 ⟨rfl, hq⟩
             have X4 := Lib.hid (X3.out.trans hq fun _ _ h => h)
             obtain ⟨u0, u1, u2, zz4⟩ := HB.out _ X4.out
             clear hq)
          | (go_at_call 32
             (with_reducible refine (HP.out _ (HS.out.keep (KW.out _ X4.out)) (HT.out.keep0 (KW.out _ X4.out))).mono ?_)
             rintro e wq5 ⟨rfl, hq⟩
             have X5 := Lib.hid (X4.out.trans hq fun _ _ h => h)
             obtain ⟨u0, u1, u2, zz5⟩ := HB.out _ X5.out
             clear hq))
        go_loopw [9, 51] (fun v i wr => ∃ k : Nat, i = .int .i64 k ∧ v = .int .i64 (cntB n k) ∧ k ≤ S.A.length ∧ wr = wq5) (fun _ i _ => S.A.length - (intOf i).toNat)
        case atStart => exact ⟨0, rfl, rfl, by omega, rfl⟩
        case round =>
          obtain ⟨k, rfl, rfl, hk, hw⟩ := hrel
          obtain rfl := hw.symm; clear hw
          by_cases hlt : k < S.A.length
          · have hcl := cntB_le n k
            have hcs := cntB_succ n k
            have hb1 := bit_one hn16 (show k < 4 by omega)
            cases hb : n.testBit k with
            | true =>
              rw [hb, if_pos rfl] at hcs
              rw [hb] at hb1
              have HC1 := Lib.hid hcs
              clear hcs hb
              generalize cntB n k = q at *
              go_wp2
              go_roundw
              case rel => exact ⟨k + 1, by go_num, by rw [HC1.out]; go_num, by omega, by trivial⟩
              case measure => simp only [intOf]; omega
            | false =>
              rw [hb, if_neg (by simp), Nat.add_zero] at hcs
              rw [hb] at hb1
              have HC1 := Lib.hid hcs
              clear hcs hb
              generalize cntB n k = q at *
              go_wp2
              go_roundw
              case rel => exact ⟨k + 1, by go_num, by rw [HC1.out]; go_num, by omega, by trivial⟩
              case measure => simp only [intOf]; omega
          · obtain rfl : k = S.A.length := by omega
            generalize cntB n S.A.length = q at *
            go_wp2_with (first
              | (go_at_call 34
                 (with_reducible refine (HSP.out _ (HT.out.keep0 (KW.out _ X5.out))).mono ?_)
                 rintro e wz ⟨rfl, rfl⟩)
              | fail)
            go_ret
            exact ⟨rfl, (KW.out _ X5.out).alloc _⟩
    · generalize checkS S = n at *
      have hn : ((n : Int) != 0) = true := by simp; omega
      go_enter Tryd.func7, Tryd.ntmps7
      go_wp2_with (first
        | (go_at_call 10
           (with_reducible refine (awake_any _ (HT.out.keep0 (KW.out _ X0.out))).mono ?_)
           rintro e wq1 ⟨rfl, hq⟩
           have X1 := Lib.hid (X0.out.trans hq fun _ _ h => h)
           obtain ⟨u0, u1, u2, zz1⟩ := HB.out _ X1.out
           clear hq)
        | (go_at_call 11
           (with_reducible refine (HFW.out _).mono ?_)
           rintro e wq2 ⟨rfl, hq⟩
           have X2 := Lib.hid (X1.out.trans hq fun _ _ h => h)
           obtain ⟨u0, u1, u2, zz2⟩ := HB.out _ X2.out
           clear hq)
        | (go_at_call 13
           (with_reducible refine (HCK.out _ (HS.out.keep (KW.out _ X2.out))).mono ?_)
           rintro e wq3 ⟨rfl, hq⟩
           have X3 := Lib.hid (X2.out.trans hq fun _ _ h => h)
           obtain ⟨u0, u1, u2, zz3⟩ := HB.out _ X3.out
           clear hq)
        | (go_at_call 10
           (with_reducible refine (awake_any _ (HT.out.keep0 (KW.out _ X3.out))).mono ?_)
           rintro e wq4 ⟨rfl, hq⟩
           have X4 := Lib.hid (X3.out.trans hq fun _ _ h => h)
           obtain ⟨u0, u1, u2, zz4⟩ := HB.out _ X4.out
           clear hq))
      go_ret
      exact ⟨rfl, KW.out _ X4.out⟩
end
end Go.Proofs.YtcmoocemfnjkiaaDoor
