/- The law SignatureChecks answers true. Conditions: the variables lie as they are read. -/
import Derived.Test.YtcmoocemfnjkiaaDoorSgO
import Derived.Test.YtcmoocemfnjkiaaDoorSgF
set_option linter.unusedVariables false
set_option linter.unusedSimpArgs false
namespace Go.Proofs.YtcmoocemfnjkiaaDoor
open Go.RowKit
section
set_option maxRecDepth 100000
set_option maxHeartbeats 4000000
theorem walk_SignatureChecks (S : Sg) (a f c : Option Addr) (ca cf cc : Nat) (t : ByteArray) (w : World) (hS : SigR w S a ca f cf c cc) (hT : Tab w) :
    Calls Tryd.prog 3 #[.agg #[.slice a S.A.length ca, .slice f S.F.length cf, .slice c S.C.length cc], .string t] w fun e w' => e = .returned (.bool true) ∧ Keep NoF w w' := by
  have HT := Lib.hid hT
  have HS := Lib.hid hS
  have HB := Lib.hid (fun w' (hk : Keep NoF (w.alloc (.cells #[.slice a S.A.length ca, .slice f S.F.length cf, .slice c S.C.length cc] 24)) w') => box_cells (S := S) (a := a) (ca := ca) (f := f) (cf := cf) (c := c) (cc := cc) (t := 24) hk)
  have KW : Hid (∀ q, Keep NoF (w.alloc (.cells #[.slice a S.A.length ca, .slice f S.F.length cf, .slice c S.C.length cc] 24)) q → Keep NoF w q) := Lib.hid fun q hq => ((Keep.refl NoF w).alloc _).trans hq fun _ _ h => h
  have X0 : Hid (Keep NoF (w.alloc (.cells #[.slice a S.A.length ca, .slice f S.F.length cf, .slice c S.C.length cc] 24)) (w.alloc (.cells #[.slice a S.A.length ca, .slice f S.F.length cf, .slice c S.C.length cc] 24))) := Lib.hid (Keep.refl _ _)
  clear hT hS
  cases hf : fewB S with
  | false =>
    have HFW : Hid (∀ w', Calls Tryd.prog 11 #[.agg #[.slice a S.A.length ca, .slice f S.F.length cf, .slice c S.C.length cc]] w' fun e w'' => e = .returned (.bool false) ∧ Keep NoF w' w'') := Lib.hid fun w' => by
      have := Few_any S a f c ca cf cc w'
      rw [hf] at this
      exact this
    clear hf
    go_enter Tryd.func3, Tryd.ntmps3
    go_wp2_with (first
      | (go_at_call 10
         (with_reducible refine (awake_any _ (HT.out.keep0 (KW.out _ X0.out))).mono ?_)
         rintro e wq1 ⟨rfl, hq⟩
         have X1 := Lib.hid (X0.out.trans hq fun _ _ h => h)
         obtain ⟨u0, u1, u2, zz1⟩ := HB.out _ X1.out
         clear hq)
      | (go_at_call 11
         (with_reducible refine (HFW.out _).mono ?_)
         rintro e wq2 ⟨rfl, hq⟩
         have X2 := Lib.hid (X1.out.trans hq fun _ _ h => h)
         obtain ⟨u0, u1, u2, zz2⟩ := HB.out _ X2.out
         clear hq)
      | (go_at_call 10
         (with_reducible refine (awake_any _ (HT.out.keep0 (KW.out _ X2.out))).mono ?_)
         rintro e wq3 ⟨rfl, hq⟩
         have X3 := Lib.hid (X2.out.trans hq fun _ _ h => h)
         obtain ⟨u0, u1, u2, zz3⟩ := HB.out _ X3.out
         clear hq))
    go_ret
    exact ⟨rfl, KW.out _ X3.out⟩
  | true =>
    have HFW : Hid (∀ w', Calls Tryd.prog 11 #[.agg #[.slice a S.A.length ca, .slice f S.F.length cf, .slice c S.C.length cc]] w' fun e w'' => e = .returned (.bool true) ∧ Keep NoF w' w'') := Lib.hid fun w' => by
      have := Few_any S a f c ca cf cc w'
      rw [hf] at this
      exact this
    clear hf
    by_cases hs : 100 < t.size
    · skip
      go_enter Tryd.func3, Tryd.ntmps3
      go_wp2_with (first
        | (go_at_call 10
           (with_reducible refine (awake_any _ (HT.out.keep0 (KW.out _ X0.out))).mono ?_)
           rintro e wq1 ⟨rfl, hq⟩
           have X1 := Lib.hid (X0.out.trans hq fun _ _ h => h)
           obtain ⟨u0, u1, u2, zz1⟩ := HB.out _ X1.out
           clear hq)
        | (go_at_call 11
           (with_reducible refine (HFW.out _).mono ?_)
           rintro e wq2 ⟨rfl, hq⟩
           have X2 := Lib.hid (X1.out.trans hq fun _ _ h => h)
           obtain ⟨u0, u1, u2, zz2⟩ := HB.out _ X2.out
           clear hq)
        | (go_at_call 10
           (with_reducible refine (awake_any _ (HT.out.keep0 (KW.out _ X2.out))).mono ?_)
           rintro e wq3 ⟨rfl, hq⟩
           have X3 := Lib.hid (X2.out.trans hq fun _ _ h => h)
           obtain ⟨u0, u1, u2, zz3⟩ := HB.out _ X3.out
           clear hq))
      go_ret
      exact ⟨rfl, KW.out _ X3.out⟩
    · have HC1 := Lib.hid fun w' hg ht => Check_any S a f c ca cf cc w' hg ht
      have HC2 := Lib.hid fun w' hg => rCheck_any S a f c ca cf cc w' hg
      have HN1 := Lib.hid fun w' => IsName_any t w' (by omega)
      have HN2 := Lib.hid fun w' => rIsName_any t w' (by omega)
      have HR1 := Lib.hid fun w' ht => Reserved_any t w' ht
      have HR2 := Lib.hid fun w' => rReserved_any t w'
      generalize checkS S = n at *
      generalize nameB t = p at *
      generalize reserved t = q at *
      have e1 : ((n : Int) == (n : Int)) = true := by simp
      have e2 : (p == p) = true := by simp
      have e3 : (q == q) = true := by simp
      go_enter Tryd.func3, Tryd.ntmps3
      go_upto_region 3 with (first
                           | (go_at_call 10
                              (with_reducible refine (awake_any _ (HT.out.keep0 (KW.out _ X0.out))).mono ?_)
                              rintro e wq1 ⟨rfl, hq⟩
                              have X1 := Lib.hid (X0.out.trans hq fun _ _ h => h)
                              obtain ⟨u0, u1, u2, zz1⟩ := HB.out _ X1.out
                              clear hq)
                           | (go_at_call 11
                              (with_reducible refine (HFW.out _).mono ?_)
                              rintro e wq2 ⟨rfl, hq⟩
                              have X2 := Lib.hid (X1.out.trans hq fun _ _ h => h)
                              obtain ⟨u0, u1, u2, zz2⟩ := HB.out _ X2.out
                              clear hq))
      have X2 := Lib.hid X2.out.drew
      go_region_held3 (fun w' => w'.cell? ⟨w.heap.size, 0, none⟩ = some (.slice a S.A.length ca) ∧ w'.cell? ⟨w.heap.size, 1, none⟩ = some (.slice f S.F.length cf) ∧ w'.cell? ⟨w.heap.size, 2, none⟩ = some (.slice c S.C.length cc))
        (first | with_reducible exact ⟨u0, u1, u2⟩ | exact ⟨u0, u1, u2⟩)
        (first
        | (go_at_call 17; (with_reducible refine (HR2.out _).mono ?_); rintro e w' ⟨rfl, hw'⟩; obtain rfl := hw'.symm)
        | (go_at_call 16; (with_reducible refine (HR1.out _ (HT.out.keep0 (KW.out _ X6.out))).mono ?_); rintro e w' ⟨rfl, hw'⟩; obtain rfl := hw'.symm)
        | (go_at_call 15
           (with_reducible refine (HN2.out _).mono ?_)
           rintro e wq6 ⟨rfl, hq⟩
           have X6 := Lib.hid (X5.out.trans hq fun _ _ h => h)
           obtain ⟨u0, u1, u2, zz6⟩ := HB.out _ X6.out
           clear hq)
        | (go_at_call 14
           (with_reducible refine (HN1.out _).mono ?_)
           rintro e wq5 ⟨rfl, hq⟩
           have X5 := Lib.hid (X4.out.trans hq fun _ _ h => h)
           obtain ⟨u0, u1, u2, zz5⟩ := HB.out _ X5.out
           clear hq)
        | (go_at_call 13
           (with_reducible refine (HC2.out _ (HS.out.keep (KW.out _ X3.out))).mono ?_)
           rintro e wq4 ⟨rfl, hq⟩
           have X4 := Lib.hid (X3.out.trans hq fun _ _ h => h)
           obtain ⟨u0, u1, u2, zz4⟩ := HB.out _ X4.out
           clear hq)
        | (go_at_call 12
           (with_reducible refine (HC1.out _ (HS.out.keep (KW.out _ X2.out)) (HT.out.keep0 (KW.out _ X2.out))).mono ?_)
           rintro e wq3 ⟨rfl, hq⟩
           have X3 := Lib.hid (X2.out.trans hq fun _ _ h => h)
           obtain ⟨u0, u1, u2, zz3⟩ := HB.out _ X3.out
           clear hq))
      go_wp2
      go_ret
      exact ⟨rfl, KW.out _ X6.out⟩
end
end Go.Proofs.YtcmoocemfnjkiaaDoor
