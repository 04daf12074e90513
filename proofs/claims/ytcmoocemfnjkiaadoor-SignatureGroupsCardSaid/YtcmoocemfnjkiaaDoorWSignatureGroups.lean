/- The law SignatureGroups answers true. Conditions: the variables lie as they are read. -/
import Derived.Test.YtcmoocemfnjkiaaDoorSgO
import Derived.Test.YtcmoocemfnjkiaaDoorSgK
set_option linter.unusedVariables false
set_option linter.unusedSimpArgs false
namespace Go.Proofs.YtcmoocemfnjkiaaDoor
open Go.RowKit
section
set_option maxRecDepth 100000
set_option maxHeartbeats 4000000
theorem walk_SignatureGroups (S : Sg) (a f c : Option Addr) (ca cf cc : Nat) (l : List ByteArray) (B : Option Addr) (cl : Nat) (g : Int) (w : World) (hS : SigR w S a ca f cf c cc) (hl : l.length ≤ 9223372036854775807) (hrd : Rd w (.slice B l.length cl) 1 l.length (strs l)) (hT : Tab w) :
    Calls Tryd.prog 5 #[.agg #[.slice a S.A.length ca, .slice f S.F.length cf, .slice c S.C.length cc], .slice B l.length cl, .int .i64 g] w fun e w' => e = .returned (.bool true) ∧ Keep NoF w w' := by
  have HT := Lib.hid hT
  have HS := Lib.hid hS
  have HB := Lib.hid (fun w' (hk : Keep NoF (w.alloc (.cells #[.slice a S.A.length ca, .slice f S.F.length cf, .slice c S.C.length cc] 24)) w') => box_cells (S := S) (a := a) (ca := ca) (f := f) (cf := cf) (c := c) (cc := cc) (t := 24) hk)
  have KW : Hid (∀ q, Keep NoF (w.alloc (.cells #[.slice a S.A.length ca, .slice f S.F.length cf, .slice c S.C.length cc] 24)) q → Keep NoF w q) := Lib.hid fun q hq => ((Keep.refl NoF w).alloc _).trans hq fun _ _ h => h
  have X0 : Hid (Keep NoF (w.alloc (.cells #[.slice a S.A.length ca, .slice f S.F.length cf, .slice c S.C.length cc] 24)) (w.alloc (.cells #[.slice a S.A.length ca, .slice f S.F.length cf, .slice c S.C.length cc] 24))) := Lib.hid (Keep.refl _ _)
  clear hT hS
  cases hf : fewB S with
  | false =>
    have HFW : Hid (∀ w', Calls Tryd.prog 11 #[.agg #[.slice a S.A.length ca, .slice f S.F.length cf, .slice c S.C.length cc]] w' fun e w'' => e = .returned (.bool false) ∧ Keep NoF w' w'') := Lib.hid fun w' => by
      have := Few_any S a f c ca cf cc w'
      rw [hf] at this
      exact this
    clear hf
    go_enter Tryd.func5, Tryd.ntmps5
    go_wp2_with (first
      | (go_at_call 10
         (with_reducible refine (awake_any _ (HT.out.keep0 (KW.out _ X0.out))).mono ?_)
         rintro e wq1 ⟨rfl, hq⟩
         have X1 := Lib.hid (X0.out.trans hq fun _ _ h => h)
         obtain ⟨u0, u1, u2, zz1⟩ := HB.out _ X1.out
         clear hq)
      | (go_at_call 11
         (with_reducible refine (HFW.out _).mono ?_)
         rintro e wq2 ⟨rfl, hq⟩
         have X2 := Lib.hid (X1.out.trans hq fun _ _ h => h)
         obtain ⟨u0, u1, u2, zz2⟩ := HB.out _ X2.out
         clear hq)
      | (go_at_call 10
         (with_reducible refine (awake_any _ (HT.out.keep0 (KW.out _ X2.out))).mono ?_)
         rintro e wq3 ⟨rfl, hq⟩
         have X3 := Lib.hid (X2.out.trans hq fun _ _ h => h)
         obtain ⟨u0, u1, u2, zz3⟩ := HB.out _ X3.out
         clear hq))
    go_ret
    exact ⟨rfl, KW.out _ X3.out⟩
  | true =>
    have HFW : Hid (∀ w', Calls Tryd.prog 11 #[.agg #[.slice a S.A.length ca, .slice f S.F.length cf, .slice c S.C.length cc]] w' fun e w'' => e = .returned (.bool true) ∧ Keep NoF w' w'') := Lib.hid fun w' => by
      have := Few_any S a f c ca cf cc w'
      rw [hf] at this
      exact this
    clear hf
    have HRD := Lib.hid fun w' (hk : Keep NoF w w') => hrd.kept hk fun _ _ h => h
    have HSH := Lib.hid fun w' (hk : Keep NoF w w') => short_any l B cl w' hl (HRD.out w' hk)
    cases hb : shortB l with
    | false =>
      rw [hb] at HSH
      clear hb hrd
      go_enter Tryd.func5, Tryd.ntmps5
      go_wp2_with (first
        | (go_at_call 10
           (with_reducible refine (awake_any _ (HT.out.keep0 (KW.out _ X0.out))).mono ?_)
           rintro e wq1 ⟨rfl, hq⟩
           have X1 := Lib.hid (X0.out.trans hq fun _ _ h => h)
           obtain ⟨u0, u1, u2, zz1⟩ := HB.out _ X1.out
           clear hq)
        | (go_at_call 11
           (with_reducible refine (HFW.out _).mono ?_)
           rintro e wq2 ⟨rfl, hq⟩
           have X2 := Lib.hid (X1.out.trans hq fun _ _ h => h)
           obtain ⟨u0, u1, u2, zz2⟩ := HB.out _ X2.out
           clear hq)
        | (go_at_call 27; (with_reducible refine (HSH.out _ (KW.out _ X2.out)).mono ?_); rintro e w' ⟨rfl, hw'⟩; obtain rfl := hw'.symm)
        | (go_at_call 10
           (with_reducible refine (awake_any _ (HT.out.keep0 (KW.out _ X2.out))).mono ?_)
           rintro e wq3 ⟨rfl, hq⟩
           have X3 := Lib.hid (X2.out.trans hq fun _ _ h => h)
           obtain ⟨u0, u1, u2, zz3⟩ := HB.out _ X3.out
           clear hq))
      go_ret
      exact ⟨rfl, KW.out _ X3.out⟩
    | true =>
      rw [hb] at HSH
      clear hb
      have HG1 := Lib.hid fun w' (hk : Keep NoF w w') hg ht => Group_any S a f c ca cf cc l B cl w' hg ht hl (HRD.out w' hk)
      have HG2 := Lib.hid fun w' (hk : Keep NoF w w') hg => rGroup_any S a f c ca cf cc l B cl w' hg hl (HRD.out w' hk)
      have HX1 := Lib.hid fun w' hg ht => Text_any S a f c ca cf cc g w' hg ht
      have HX2 := Lib.hid fun w' hg => rText_any S a f c ca cf cc g w' hg
      generalize groupS S l = r at *
      generalize textS S g = x at *
      have e1 : ((r.1 : Int) == (r.1 : Int)) = true := by simp
      have e2 : ((r.2 : Int) == (r.2 : Int)) = true := by simp
      have e3 : ((x.2 : Int) == (x.2 : Int)) = true := by simp
      have e4 : (x.1.toList == x.1.toList) = true := by simp
      clear hrd HRD
      go_enter Tryd.func5, Tryd.ntmps5
      go_wp2_with (first
        | (go_at_call 10
           (with_reducible refine (awake_any _ (HT.out.keep0 (KW.out _ X0.out))).mono ?_)
           rintro e wq1 ⟨rfl, hq⟩
           have X1 := Lib.hid (X0.out.trans hq fun _ _ h => h)
           obtain ⟨u0, u1, u2, zz1⟩ := HB.out _ X1.out
           clear hq)
        | (go_at_call 11
           (with_reducible refine (HFW.out _).mono ?_)
           rintro e wq2 ⟨rfl, hq⟩
           have X2 := Lib.hid (X1.out.trans hq fun _ _ h => h)
           obtain ⟨u0, u1, u2, zz2⟩ := HB.out _ X2.out
           clear hq)
        | (go_at_call 27; (with_reducible refine (HSH.out _ (KW.out _ X2.out)).mono ?_); rintro e w' ⟨rfl, hw'⟩; obtain rfl := hw'.symm)
        | (go_at_call 28
           (with_reducible refine (HG1.out _ (KW.out _ X2.out) (HS.out.keep (KW.out _ X2.out)) (HT.out.keep0 (KW.out _ X2.out))).mono ?_)
           rintro e wq3 ⟨rfl, hq⟩
           have X3 := Lib.hid (X2.out.trans hq fun _ _ h => h)
           obtain ⟨u0, u1, u2, zz3⟩ := HB.out _ X3.out
           clear hq)
        | (go_at_call 29
           (with_reducible refine (HG2.out _ (KW.out _ X3.out) (HS.out.keep (KW.out _ X3.out))).mono ?_)
           rintro e wq4 ⟨rfl, hq⟩
           have X4 := Lib.hid (X3.out.trans hq fun _ _ h => h)
           obtain ⟨u0, u1, u2, zz4⟩ := HB.out _ X4.out
           clear hq)
        | (go_at_call 30
           (with_reducible refine (HX1.out _ (HS.out.keep (KW.out _ X4.out)) (HT.out.keep0 (KW.out _ X4.out))).mono ?_)
           rintro e wq5 ⟨rfl, hq⟩
           have X5 := Lib.hid (X4.out.trans hq fun _ _ h => h)
           obtain ⟨u0, u1, u2, zz5⟩ := HB.out _ X5.out
           clear hq)
        | (go_at_call 31
           (with_reducible refine (HX2.out _ (HS.out.keep (KW.out _ X5.out))).mono ?_)
           rintro e wq6 ⟨rfl, hq⟩
           have X6 := Lib.hid (X5.out.trans hq fun _ _ h => h)
           obtain ⟨u0, u1, u2, zz6⟩ := HB.out _ X6.out
           clear hq))
      go_ret
      exact ⟨rfl, KW.out _ X6.out⟩
end
end Go.Proofs.YtcmoocemfnjkiaaDoor
