/- The law SignatureFinds answers true. Conditions: the variables lie as they are read. -/
import Derived.Test.YtcmoocemfnjkiaaDoorSgO
import Derived.Test.YtcmoocemfnjkiaaDoorSgF
import Derived.Test.YtcmoocemfnjkiaaDoorSgD3
set_option linter.unusedVariables false
set_option linter.unusedSimpArgs false
namespace Go.Proofs.YtcmoocemfnjkiaaDoor
open Go.RowKit
theorem Default_any (n0 n1 n2 : Int) (w : World) : Calls Tryd.prog 18 #[.int .i64 n0, .int .i64 n1, .int .i64 n2] w fun e w' => ∃ (a : Option Addr) (ca : Nat) (f : Option Addr) (cf : Nat) (c : Option Addr) (cc : Nat), e = .returned (.tuple #[.agg #[.slice a (defS n0 n1 n2).1.A.length ca, .slice f (defS n0 n1 n2).1.F.length cf, .slice c (defS n0 n1 n2).1.C.length cc], .int .i64 (defS n0 n1 n2).2]) ∧ SigR w' (defS n0 n1 n2).1 a ca f cf c cc ∧ Keep NoF w w' := by
  by_cases h : okD n0 n1 n2
  · have hd : defS n0 n1 n2 = (⟨agN.take n0.toNat, faN.take n1.toNat, acN.take n2.toNat⟩, 0) := if_pos h
    unfold okD at h
    obtain ⟨m0, rfl⟩ : ∃ m : Nat, n0 = m := ⟨n0.toNat, by omega⟩
    obtain ⟨m1, rfl⟩ : ∃ m : Nat, n1 = m := ⟨n1.toNat, by omega⟩
    obtain ⟨m2, rfl⟩ : ∃ m : Nat, n2 = m := ⟨n2.toNat, by omega⟩
    rw [hd]
    refine (Default_ok m0 m1 m2 w (by omega) (by omega) (by omega)).mono ?_
    rintro e w' ⟨v, rfl, a, ca, f, cf, c, cc, rfl, h1, h2⟩
    exact ⟨a, ca, f, cf, c, cc, rfl, h1, h2⟩
  · rw [show defS n0 n1 n2 = (⟨[], [], []⟩, 2) from if_neg h]
    refine (Default_no n0 n1 n2 w h).mono ?_
    rintro e w' ⟨rfl, hk⟩
    exact ⟨none, 0, none, 0, none, 0, rfl, ⟨Rd.nil _ _, Rd.nil _ _, Rd.nil _ _, by decide +kernel, by simp, by simp, by simp⟩, hk⟩
theorem rDefault_any (n0 n1 n2 : Int) (w : World) : Calls Tryd.prog 19 #[.int .i64 n0, .int .i64 n1, .int .i64 n2] w fun e w' => ∃ (a : Option Addr) (ca : Nat) (f : Option Addr) (cf : Nat) (c : Option Addr) (cc : Nat), e = .returned (.tuple #[.agg #[.slice a (defS n0 n1 n2).1.A.length ca, .slice f (defS n0 n1 n2).1.F.length cf, .slice c (defS n0 n1 n2).1.C.length cc], .int .i64 (defS n0 n1 n2).2]) ∧ SigR w' (defS n0 n1 n2).1 a ca f cf c cc ∧ Keep NoF w w' := by
  by_cases h : okD n0 n1 n2
  · have hd : defS n0 n1 n2 = (⟨agN.take n0.toNat, faN.take n1.toNat, acN.take n2.toNat⟩, 0) := if_pos h
    unfold okD at h
    obtain ⟨m0, rfl⟩ : ∃ m : Nat, n0 = m := ⟨n0.toNat, by omega⟩
    obtain ⟨m1, rfl⟩ : ∃ m : Nat, n1 = m := ⟨n1.toNat, by omega⟩
    obtain ⟨m2, rfl⟩ : ∃ m : Nat, n2 = m := ⟨n2.toNat, by omega⟩
    rw [hd]
    refine (rDefault_ok m0 m1 m2 w (by omega) (by omega) (by omega)).mono ?_
    rintro e w' ⟨v, rfl, a, ca, f, cf, c, cc, rfl, h1, h2⟩
    exact ⟨a, ca, f, cf, c, cc, rfl, h1, h2⟩
  · rw [show defS n0 n1 n2 = (⟨[], [], []⟩, 2) from if_neg h]
    refine (rDefault_no n0 n1 n2 w h).mono ?_
    rintro e w' ⟨rfl, hk⟩
    exact ⟨none, 0, none, 0, none, 0, rfl, ⟨Rd.nil _ _, Rd.nil _ _, Rd.nil _ _, by decide +kernel, by simp, by simp, by simp⟩, hk⟩
section
set_option maxRecDepth 100000
set_option maxHeartbeats 4000000
theorem walk_SignatureFinds (S : Sg) (a f c : Option Addr) (ca cf cc : Nat) (t : ByteArray) (n0 n1 n2 : Int) (w : World) (hS : SigR w S a ca f cf c cc) (hT : Tab w) :
    Calls Tryd.prog 4 #[.agg #[.slice a S.A.length ca, .slice f S.F.length cf, .slice c S.C.length cc], .string t, .agg #[.int .i64 n0, .int .i64 n1, .int .i64 n2]] w fun e w' => e = .returned (.bool true) ∧ Keep NoF w w' := by
  have HT := Lib.hid hT
  have HS := Lib.hid hS
  have HB : Hid (∀ w', Keep NoF ((w.alloc (.cells #[.slice a S.A.length ca, .slice f S.F.length cf, .slice c S.C.length cc] 24)).alloc (.cells #[.int .i64 n0, .int .i64 n1, .int .i64 n2] 30)) w' → w'.cell? ⟨w.heap.size, 0, none⟩ = some (.slice a S.A.length ca) ∧ w'.cell? ⟨w.heap.size, 1, none⟩ = some (.slice f S.F.length cf) ∧ w'.cell? ⟨w.heap.size, 2, none⟩ = some (.slice c S.C.length cc) ∧ w.heap.size + 1 ≤ w'.heap.size) :=
    Lib.hid fun w' hk => box_cells (S := S) (a := a) (ca := ca) (f := f) (cf := cf) (c := c) (cc := cc) (t := 24) (((Keep.refl _ _).alloc _).trans hk fun _ _ h => h)
  have HR : Hid (∀ w', Keep NoF ((w.alloc (.cells #[.slice a S.A.length ca, .slice f S.F.length cf, .slice c S.C.length cc] 24)).alloc (.cells #[.int .i64 n0, .int .i64 n1, .int .i64 n2] 30)) w' → w'.cell? ⟨w.heap.size + 1, 0, none⟩ = some (.int .i64 n0) ∧ w'.cell? ⟨w.heap.size + 1, 1, none⟩ = some (.int .i64 n1) ∧ w'.cell? ⟨w.heap.size + 1, 2, none⟩ = some (.int .i64 n2)) := Lib.hid fun w' hk => by
    have hb := (Bk.new (w.alloc (.cells #[.slice a S.A.length ca, .slice f S.F.length cf, .slice c S.C.length cc] 24)) 30 #[.int .i64 n0, .int .i64 n1, .int .i64 n2]).keep hk fun h => h
    rw [World.size_alloc] at hb
    exact ⟨(hb.cell 0).trans rfl, (hb.cell 1).trans rfl, (hb.cell 2).trans rfl⟩
  have KW : Hid (∀ q, Keep NoF ((w.alloc (.cells #[.slice a S.A.length ca, .slice f S.F.length cf, .slice c S.C.length cc] 24)).alloc (.cells #[.int .i64 n0, .int .i64 n1, .int .i64 n2] 30)) q → Keep NoF w q) := Lib.hid fun q hq => (((Keep.refl NoF w).alloc _).alloc _).trans hq fun _ _ h => h
  have X0 : Hid (Keep NoF ((w.alloc (.cells #[.slice a S.A.length ca, .slice f S.F.length cf, .slice c S.C.length cc] 24)).alloc (.cells #[.int .i64 n0, .int .i64 n1, .int .i64 n2] 30)) ((w.alloc (.cells #[.slice a S.A.length ca, .slice f S.F.length cf, .slice c S.C.length cc] 24)).alloc (.cells #[.int .i64 n0, .int .i64 n1, .int .i64 n2] 30))) := Lib.hid (Keep.refl _ _)
  clear hT hS
  cases hf : fewB S with
  | false =>
    have HFW : Hid (∀ w', Calls Tryd.prog 11 #[.agg #[.slice a S.A.length ca, .slice f S.F.length cf, .slice c S.C.length cc]] w' fun e w'' => e = .returned (.bool false) ∧ Keep NoF w' w'') := Lib.hid fun w' => by
      have := Few_any S a f c ca cf cc w'
      rw [hf] at this
      exact this
    clear hf
    go_enter Tryd.func4, Tryd.ntmps4
    go_wp2_with (first
      | (go_at_call 10
         (with_reducible refine (awake_any _ (HT.out.keep0 (KW.out _ X0.out))).mono ?_)
         rintro e wq1 ⟨rfl, hq⟩
         have X1 := Lib.hid (X0.out.trans hq fun _ _ h => h)
         obtain ⟨u0, u1, u2, zz1⟩ := HB.out _ X1.out
         clear hq)
      | (go_at_call 11
         (with_reducible refine (HFW.out _).mono ?_)
         rintro e wq2 ⟨rfl, hq⟩
         have X2 := Lib.hid (X1.out.trans hq fun _ _ h => h)
         obtain ⟨u0, u1, u2, zz2⟩ := HB.out _ X2.out
         clear hq)
      | (go_at_call 10
         (with_reducible refine (awake_any _ (HT.out.keep0 (KW.out _ X2.out))).mono ?_)
         rintro e wq3 ⟨rfl, hq⟩
         have X3 := Lib.hid (X2.out.trans hq fun _ _ h => h)
         obtain ⟨u0, u1, u2, zz3⟩ := HB.out _ X3.out
         clear hq))
    go_ret
    exact ⟨rfl, KW.out _ X3.out⟩
  | true =>
    have HFW : Hid (∀ w', Calls Tryd.prog 11 #[.agg #[.slice a S.A.length ca, .slice f S.F.length cf, .slice c S.C.length cc]] w' fun e w'' => e = .returned (.bool true) ∧ Keep NoF w' w'') := Lib.hid fun w' => by
      have := Few_any S a f c ca cf cc w'
      rw [hf] at this
      exact this
    clear hf
    by_cases hs : 100 < t.size
    · skip
      go_enter Tryd.func4, Tryd.ntmps4
      go_wp2_with (first
        | (go_at_call 10
           (with_reducible refine (awake_any _ (HT.out.keep0 (KW.out _ X0.out))).mono ?_)
           rintro e wq1 ⟨rfl, hq⟩
           have X1 := Lib.hid (X0.out.trans hq fun _ _ h => h)
           obtain ⟨u0, u1, u2, zz1⟩ := HB.out _ X1.out
           clear hq)
        | (go_at_call 11
           (with_reducible refine (HFW.out _).mono ?_)
           rintro e wq2 ⟨rfl, hq⟩
           have X2 := Lib.hid (X1.out.trans hq fun _ _ h => h)
           obtain ⟨u0, u1, u2, zz2⟩ := HB.out _ X2.out
           clear hq)
        | (go_at_call 10
           (with_reducible refine (awake_any _ (HT.out.keep0 (KW.out _ X2.out))).mono ?_)
           rintro e wq3 ⟨rfl, hq⟩
           have X3 := Lib.hid (X2.out.trans hq fun _ _ h => h)
           obtain ⟨u0, u1, u2, zz3⟩ := HB.out _ X3.out
           clear hq))
      go_ret
      exact ⟨rfl, KW.out _ X3.out⟩
    · have HD1 := Lib.hid fun w' => Default_any n0 n1 n2 w'
      have HD2 := Lib.hid fun w' => rDefault_any n0 n1 n2 w'
      generalize hD : (defS n0 n1 n2).1 = D at *
      generalize (defS n0 n1 n2).2 = d at *
      clear hD
      have HA0 := Lib.hid fun w' hg ht => Agent_any S a f c ca cf cc t w' hg ht
      have HB0 := Lib.hid fun w' hg => rAgent_any S a f c ca cf cc t w' hg
      generalize findS S S.A t = x0 at *
      have e0 : (x0 == x0) = true := by simp
      have HA1 := Lib.hid fun w' hg ht => Fact_any S a f c ca cf cc t w' hg ht
      have HB1 := Lib.hid fun w' hg => rFact_any S a f c ca cf cc t w' hg
      generalize findS S S.F t = x1 at *
      have e1 : (x1 == x1) = true := by simp
      have HA2 := Lib.hid fun w' hg ht => Action_any S a f c ca cf cc t w' hg ht
      have HB2 := Lib.hid fun w' hg => rAction_any S a f c ca cf cc t w' hg
      generalize findS S S.C t = x2 at *
      have e2 : (x2 == x2) = true := by simp
      have e3 : ((d : Int) == (d : Int)) = true := by simp
      go_enter Tryd.func4, Tryd.ntmps4
      go_upto_region 5 with (first
                           | (go_at_call 10
                              (with_reducible refine (awake_any _ (HT.out.keep0 (KW.out _ X0.out))).mono ?_)
                              rintro e wq1 ⟨rfl, hq⟩
                              have X1 := Lib.hid (X0.out.trans hq fun _ _ h => h)
                              obtain ⟨u0, u1, u2, zz1⟩ := HB.out _ X1.out
                              clear hq)
                           | (go_at_call 11
                              (with_reducible refine (HFW.out _).mono ?_)
                              rintro e wq2 ⟨rfl, hq⟩
                              have X2 := Lib.hid (X1.out.trans hq fun _ _ h => h)
                              obtain ⟨u0, u1, u2, zz2⟩ := HB.out _ X2.out
                              obtain ⟨r0, r1, r2⟩ := HR.out _ X2.out
                              clear hq)
                           | (go_at_call 18
                              (with_reducible refine (HD1.out _).mono ?_)
                              rintro e wq3 ⟨a1, ca1, f1, cf1, c1, cc1, rfl, hs1, hq⟩
                              have X3 := Lib.hid (X2.out.trans hq fun _ _ h => h)
                              have HS1 := Lib.hid hs1
                              have X3b := Lib.hid (X3.out.alloc (.cells #[.slice a1 D.A.length ca1, .slice f1 D.F.length cf1, .slice c1 D.C.length cc1] 24))
                              obtain ⟨u0, u1, u2, zz3⟩ := HB.out _ X3b.out
                              obtain ⟨r0, r1, r2⟩ := HR.out _ X3b.out
                              clear hq hs1)
                           | (go_at_call 19
                              (with_reducible refine (HD2.out _).mono ?_)
                              rintro e wq4 ⟨a2, ca2, f2, cf2, c2, cc2, rfl, hs2, hq⟩
                              have X4 := Lib.hid (X3b.out.trans hq fun _ _ h => h)
                              have Y4 : Hid (Keep NoF (wq3.alloc (.cells #[.slice a1 D.A.length ca1, .slice f1 D.F.length cf1, .slice c1 D.C.length cc1] 24)) wq4) := Lib.hid hq
                              have HS2 := Lib.hid hs2
                              clear hq hs2))
      have HP : Hid (∀ w', Keep NoF (wq4.alloc (.cells #[.slice a2 D.A.length ca2, .slice f2 D.F.length cf2, .slice c2 D.C.length cc2] 24)) w' → w'.cell? ⟨wq3.heap.size, 0, none⟩ = some (.slice a1 D.A.length ca1) ∧ w'.cell? ⟨wq3.heap.size, 1, none⟩ = some (.slice f1 D.F.length cf1) ∧ w'.cell? ⟨wq3.heap.size, 2, none⟩ = some (.slice c1 D.C.length cc1) ∧ wq3.heap.size + 1 ≤ w'.heap.size) :=
        Lib.hid fun w' hk => box_cells (S := D) (a := a1) (ca := ca1) (f := f1) (cf := cf1) (c := c1) (cc := cc1) (t := 24) ((Y4.out.alloc _).trans hk fun _ _ h => h)
      have HQ : Hid (∀ w', Keep NoF (wq4.alloc (.cells #[.slice a2 D.A.length ca2, .slice f2 D.F.length cf2, .slice c2 D.C.length cc2] 24)) w' → w'.cell? ⟨wq4.heap.size, 0, none⟩ = some (.slice a2 D.A.length ca2) ∧ w'.cell? ⟨wq4.heap.size, 1, none⟩ = some (.slice f2 D.F.length cf2) ∧ w'.cell? ⟨wq4.heap.size, 2, none⟩ = some (.slice c2 D.C.length cc2) ∧ wq4.heap.size + 1 ≤ w'.heap.size) :=
        Lib.hid fun w' hk => box_cells (S := D) (a := a2) (ca := ca2) (f := f2) (cf := cf2) (c := c2) (cc := cc2) (t := 24) hk
      have KZ : Hid (∀ q, Keep NoF (wq4.alloc (.cells #[.slice a2 D.A.length ca2, .slice f2 D.F.length cf2, .slice c2 D.C.length cc2] 24)) q → Keep NoF ((w.alloc (.cells #[.slice a S.A.length ca, .slice f S.F.length cf, .slice c S.C.length cc] 24)).alloc (.cells #[.int .i64 n0, .int .i64 n1, .int .i64 n2] 30)) q) := Lib.hid fun q hq => (X4.out.alloc _).trans hq fun _ _ h => h
      have HSM := Lib.hid fun w' (hk : Keep NoF (wq4.alloc (.cells #[.slice a2 D.A.length ca2, .slice f2 D.F.length cf2, .slice c2 D.C.length cc2] 24)) w') => Same_any D a1 f1 c1 ca1 cf1 cc1 a2 f2 c2 ca2 cf2 cc2 w' ((HS1.out.keep (((Keep.refl _ _).alloc _).trans Y4.out fun _ _ h => h)).keep (((Keep.refl _ _).alloc _).trans hk fun _ _ h => h)) (HS2.out.keep (((Keep.refl _ _).alloc _).trans hk fun _ _ h => h))
      have X5 : Hid (Keep NoF (wq4.alloc (.cells #[.slice a2 D.A.length ca2, .slice f2 D.F.length cf2, .slice c2 D.C.length cc2] 24)) ((wq4.alloc (.cells #[.slice a2 D.A.length ca2, .slice f2 D.F.length cf2, .slice c2 D.C.length cc2] 24)).drew)) := Lib.hid (Keep.refl _ _).drew
      obtain ⟨u0, u1, u2, -⟩ := HB.out _ (KZ.out _ (Keep.refl _ _))
      obtain ⟨p0, p1, p2, -⟩ := HP.out _ (Keep.refl _ _)
      obtain ⟨s0, s1, s2, -⟩ := HQ.out _ (Keep.refl _ _)
      go_region_held3 (fun w' => w'.cell? ⟨w.heap.size, 0, none⟩ = some (.slice a S.A.length ca) ∧ w'.cell? ⟨w.heap.size, 1, none⟩ = some (.slice f S.F.length cf) ∧ w'.cell? ⟨w.heap.size, 2, none⟩ = some (.slice c S.C.length cc) ∧ w'.cell? ⟨wq3.heap.size, 0, none⟩ = some (.slice a1 D.A.length ca1) ∧ w'.cell? ⟨wq3.heap.size, 1, none⟩ = some (.slice f1 D.F.length cf1) ∧ w'.cell? ⟨wq3.heap.size, 2, none⟩ = some (.slice c1 D.C.length cc1) ∧ w'.cell? ⟨wq4.heap.size, 0, none⟩ = some (.slice a2 D.A.length ca2) ∧ w'.cell? ⟨wq4.heap.size, 1, none⟩ = some (.slice f2 D.F.length cf2) ∧ w'.cell? ⟨wq4.heap.size, 2, none⟩ = some (.slice c2 D.C.length cc2))
        (first | with_reducible exact ⟨u0, u1, u2, p0, p1, p2, s0, s1, s2⟩ | exact ⟨u0, u1, u2, p0, p1, p2, s0, s1, s2⟩)
        (first
        | (go_at_call 26
           (with_reducible refine (HB2.out _ (HS.out.keep (KW.out _ (KZ.out _ X11.out)))).mono ?_)
           rintro e wq12 ⟨rfl, hq⟩
           have X12 := Lib.hid (X11.out.trans hq fun _ _ h => h)
           obtain ⟨u0, u1, u2, zz12⟩ := HB.out _ (KZ.out _ X12.out)
           obtain ⟨p0, p1, p2, zp12⟩ := HP.out _ X12.out
           obtain ⟨s0, s1, s2, zs12⟩ := HQ.out _ X12.out
           clear hq)
        | (go_at_call 25
           (with_reducible refine (HA2.out _ (HS.out.keep (KW.out _ (KZ.out _ X10.out))) (HT.out.keep0 (KW.out _ (KZ.out _ X10.out)))).mono ?_)
           rintro e wq11 ⟨rfl, hq⟩
           have X11 := Lib.hid (X10.out.trans hq fun _ _ h => h)
           obtain ⟨u0, u1, u2, zz11⟩ := HB.out _ (KZ.out _ X11.out)
           obtain ⟨p0, p1, p2, zp11⟩ := HP.out _ X11.out
           obtain ⟨s0, s1, s2, zs11⟩ := HQ.out _ X11.out
           clear hq)
        | (go_at_call 24
           (with_reducible refine (HB1.out _ (HS.out.keep (KW.out _ (KZ.out _ X9.out)))).mono ?_)
           rintro e wq10 ⟨rfl, hq⟩
           have X10 := Lib.hid (X9.out.trans hq fun _ _ h => h)
           obtain ⟨u0, u1, u2, zz10⟩ := HB.out _ (KZ.out _ X10.out)
           obtain ⟨p0, p1, p2, zp10⟩ := HP.out _ X10.out
           obtain ⟨s0, s1, s2, zs10⟩ := HQ.out _ X10.out
           clear hq)
        | (go_at_call 23
           (with_reducible refine (HA1.out _ (HS.out.keep (KW.out _ (KZ.out _ X8.out))) (HT.out.keep0 (KW.out _ (KZ.out _ X8.out)))).mono ?_)
           rintro e wq9 ⟨rfl, hq⟩
           have X9 := Lib.hid (X8.out.trans hq fun _ _ h => h)
           obtain ⟨u0, u1, u2, zz9⟩ := HB.out _ (KZ.out _ X9.out)
           obtain ⟨p0, p1, p2, zp9⟩ := HP.out _ X9.out
           obtain ⟨s0, s1, s2, zs9⟩ := HQ.out _ X9.out
           clear hq)
        | (go_at_call 22
           (with_reducible refine (HB0.out _ (HS.out.keep (KW.out _ (KZ.out _ X7.out)))).mono ?_)
           rintro e wq8 ⟨rfl, hq⟩
           have X8 := Lib.hid (X7.out.trans hq fun _ _ h => h)
           obtain ⟨u0, u1, u2, zz8⟩ := HB.out _ (KZ.out _ X8.out)
           obtain ⟨p0, p1, p2, zp8⟩ := HP.out _ X8.out
           obtain ⟨s0, s1, s2, zs8⟩ := HQ.out _ X8.out
           clear hq)
        | (go_at_call 21
           (with_reducible refine (HA0.out _ (HS.out.keep (KW.out _ (KZ.out _ X6.out))) (HT.out.keep0 (KW.out _ (KZ.out _ X6.out)))).mono ?_)
           rintro e wq7 ⟨rfl, hq⟩
           have X7 := Lib.hid (X6.out.trans hq fun _ _ h => h)
           obtain ⟨u0, u1, u2, zz7⟩ := HB.out _ (KZ.out _ X7.out)
           obtain ⟨p0, p1, p2, zp7⟩ := HP.out _ X7.out
           obtain ⟨s0, s1, s2, zs7⟩ := HQ.out _ X7.out
           clear hq)
        | (go_at_call 20
           (with_reducible refine (HSM.out _ X5.out).mono ?_)
           rintro e wq6 ⟨rfl, hq⟩
           have X6 := Lib.hid (X5.out.trans hq fun _ _ h => h)
           obtain ⟨u0, u1, u2, zz6⟩ := HB.out _ (KZ.out _ X6.out)
           obtain ⟨p0, p1, p2, zp6⟩ := HP.out _ X6.out
           obtain ⟨s0, s1, s2, zs6⟩ := HQ.out _ X6.out
           clear hq))
      go_wp2
      go_ret
      exact ⟨rfl, KW.out _ (KZ.out _ X12.out)⟩
end
end Go.Proofs.YtcmoocemfnjkiaaDoor
