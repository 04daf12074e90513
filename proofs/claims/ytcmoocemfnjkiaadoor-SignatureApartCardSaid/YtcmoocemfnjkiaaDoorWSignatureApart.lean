/- The law SignatureApart answers true. Conditions: the variables lie as they are read. -/
import Derived.Test.YtcmoocemfnjkiaaDoorSgO
import Derived.Test.YtcmoocemfnjkiaaDoorSgF
import Derived.Test.YtcmoocemfnjkiaaDoorSgQ
set_option linter.unusedVariables false
set_option linter.unusedSimpArgs false
namespace Go.Proofs.YtcmoocemfnjkiaaDoor
open Go.RowKit
theorem mem_A {S : Sg} {x : ByteArray} (h : x ∈ S.A) : x ∈ S.all := by simp [Sg.all, h]
theorem mem_F {S : Sg} {x : ByteArray} (h : x ∈ S.F) : x ∈ S.all := by simp [Sg.all, h]
theorem mem_C {S : Sg} {x : ByteArray} (h : x ∈ S.C) : x ∈ S.all := by simp [Sg.all, h]
section
set_option maxRecDepth 100000
set_option maxHeartbeats 4000000
theorem walk_SignatureApart (S : Sg) (a f c : Option Addr) (ca cf cc : Nat)  (w : World) (hS : SigR w S a ca f cf c cc) (hT : Tab w) :
    Calls Tryd.prog 8 #[.agg #[.slice a S.A.length ca, .slice f S.F.length cf, .slice c S.C.length cc]] w fun e w' => e = .returned (.bool true) ∧ Keep NoF w w' := by
  have HT := Lib.hid hT
  have HS := Lib.hid hS
  have HB := Lib.hid (fun w' (hk : Keep NoF (w.alloc (.cells #[.slice a S.A.length ca, .slice f S.F.length cf, .slice c S.C.length cc] 24)) w') => box_cells (S := S) (a := a) (ca := ca) (f := f) (cf := cf) (c := c) (cc := cc) (t := 24) hk)
  have KW : Hid (∀ q, Keep NoF (w.alloc (.cells #[.slice a S.A.length ca, .slice f S.F.length cf, .slice c S.C.length cc] 24)) q → Keep NoF w q) := Lib.hid fun q hq => ((Keep.refl NoF w).alloc _).trans hq fun _ _ h => h
  have X0 : Hid (Keep NoF (w.alloc (.cells #[.slice a S.A.length ca, .slice f S.F.length cf, .slice c S.C.length cc] 24)) (w.alloc (.cells #[.slice a S.A.length ca, .slice f S.F.length cf, .slice c S.C.length cc] 24))) := Lib.hid (Keep.refl _ _)
  clear hT hS
  cases hf : fewB S with
  | false =>
    have HFW : Hid (∀ w', Calls Tryd.prog 11 #[.agg #[.slice a S.A.length ca, .slice f S.F.length cf, .slice c S.C.length cc]] w' fun e w'' => e = .returned (.bool false) ∧ Keep NoF w' w'') := Lib.hid fun w' => by
      have := Few_any S a f c ca cf cc w'
      rw [hf] at this
      exact this
    clear hf
    go_enter Tryd.func8, Tryd.ntmps8
    go_wp2_with (first
      | (go_at_call 10
         (with_reducible refine (awake_any _ (HT.out.keep0 (KW.out _ X0.out))).mono ?_)
         rintro e wq1 ⟨rfl, hq⟩
         have X1 := Lib.hid (X0.out.trans hq fun _ _ h => h)
         obtain ⟨u0, u1, u2, zz1⟩ := HB.out _ X1.out
         clear hq)
      | (go_at_call 11
         (with_reducible refine (HFW.out _).mono ?_)
         rintro e wq2 ⟨rfl, hq⟩
         have X2 := Lib.hid (X1.out.trans hq fun _ _ h => h)
         obtain ⟨u0, u1, u2, zz2⟩ := HB.out _ X2.out
         clear hq)
      | (go_at_call 10
         (with_reducible refine (awake_any _ (HT.out.keep0 (KW.out _ X2.out))).mono ?_)
         rintro e wq3 ⟨rfl, hq⟩
         have X3 := Lib.hid (X2.out.trans hq fun _ _ h => h)
         obtain ⟨u0, u1, u2, zz3⟩ := HB.out _ X3.out
         clear hq))
    go_ret
    exact ⟨rfl, KW.out _ X3.out⟩
  | true =>
    have HFW : Hid (∀ w', Calls Tryd.prog 11 #[.agg #[.slice a S.A.length ca, .slice f S.F.length cf, .slice c S.C.length cc]] w' fun e w'' => e = .returned (.bool true) ∧ Keep NoF w' w'') := Lib.hid fun w' => by
      have := Few_any S a f c ca cf cc w'
      rw [hf] at this
      exact this
    clear hf
    have HCK := Lib.hid fun w' hg => rCheck_any S a f c ca cf cc w' hg
    by_cases h0 : checkS S = 0
    · rw [h0] at HCK
      have HOk := Lib.hid (checkS_ok h0)
      have hlA := HOk.out.lA
      have hlF := HOk.out.lF
      have hlC := HOk.out.lC
      have LA := Lib.hid (apart_law h0).1
      have LF := Lib.hid (apart_law h0).2.1
      have LC := Lib.hid (apart_law h0).2.2
      have HSZ := Lib.hid HS.out.sz
      have HAgent := Lib.hid fun x w' hg ht => Agent_any S a f c ca cf cc x w' hg ht
      have HFact := Lib.hid fun x w' hg ht => Fact_any S a f c ca cf cc x w' hg ht
      have HAction := Lib.hid fun x w' hg ht => Action_any S a f c ca cf cc x w' hg ht
      clear h0 HOk
      go_enter Tryd.func8, Tryd.ntmps8
      go_wp2_with (first
        | (go_at_call 10
           (with_reducible refine (awake_any _ (HT.out.keep0 (KW.out _ X0.out))).mono ?_)
           rintro e wq1 ⟨rfl, hq⟩
           have X1 := Lib.hid (X0.out.trans hq fun _ _ h => h)
           obtain ⟨u0, u1, u2, zz1⟩ := HB.out _ X1.out
           clear hq)
        | (go_at_call 11
           (with_reducible refine (HFW.out _).mono ?_)
           rintro e wq2 ⟨rfl, hq⟩
           have X2 := Lib.hid (X1.out.trans hq fun _ _ h => h)
           obtain ⟨u0, u1, u2, zz2⟩ := HB.out _ X2.out
           clear hq)
        | (go_at_call 13
           (with_reducible refine (HCK.out _ (HS.out.keep (KW.out _ X2.out))).mono ?_)
           rintro e wq3 ⟨rfl, hq⟩
           have X3 := Lib.hid (X2.out.trans hq fun _ _ h => h)
           obtain ⟨u0, u1, u2, zz3⟩ := HB.out _ X3.out
           clear hq))
      go_loopw [25] (fun i wr => ∃ k : Nat, i = .int .i64 k ∧ k ≤ S.A.length ∧ Keep NoF (w.alloc (.cells #[.slice a S.A.length ca, .slice f S.F.length cf, .slice c S.C.length cc] 24)) wr) (fun i _ => S.A.length - (intOf i).toNat)
      case atStart => exact ⟨0, rfl, by omega, X3.out⟩
      case round =>
        obtain ⟨k, rfl, hk, hkr⟩ := hrel
        have X0 : Hid (Keep NoF (w.alloc (.cells #[.slice a S.A.length ca, .slice f S.F.length cf, .slice c S.C.length cc] 24)) wr) := Lib.hid hkr
        obtain ⟨u0, u1, u2, zz0⟩ := HB.out _ hkr
        clear hkr
        by_cases hlt : k < S.A.length
        · have hx : S.A[k]? = some S.A[k] := List.getElem?_eq_getElem hlt
          obtain ⟨-, hcc, bl, off, rfl, hc⟩ := (HS.out.keep (KW.out _ X0.out)).A.str hx
          obtain ⟨f1, f2, f3⟩ := LA.out k _ hx
          have HX := Lib.hid (HSZ.out _ (mem_A (List.getElem_mem hlt)))
          clear hx
          generalize S.A[k] = x at *
          have ek : ((k : Int) != (k : Int)) = false := by simp
          have h0 := HAgent.out x
          simp only [f1] at h0
          have H0 := Lib.hid h0
          clear h0
          have h1 := HFact.out x
          simp only [f2] at h1
          have H1 := Lib.hid h1
          clear h1
          have h2 := HAction.out x
          simp only [f3] at h2
          have H2 := Lib.hid h2
          clear h2
          clear f1 f2 f3
          go_wp2_with (first
            | (go_at_call 21
               (with_reducible refine (H0.out _ (HS.out.keep (KW.out _ X0.out)) (HT.out.keep0 (KW.out _ X0.out))).mono ?_)
               rintro e wq1 ⟨rfl, hq⟩
               have X1 := Lib.hid (X0.out.trans hq fun _ _ h => h)
               obtain ⟨u0, u1, u2, zz1⟩ := HB.out _ X1.out
               clear hq)
            | (go_at_call 23
               (with_reducible refine (H1.out _ (HS.out.keep (KW.out _ X1.out)) (HT.out.keep0 (KW.out _ X1.out))).mono ?_)
               rintro e wq2 ⟨rfl, hq⟩
               have X2 := Lib.hid (X1.out.trans hq fun _ _ h => h)
               obtain ⟨u0, u1, u2, zz2⟩ := HB.out _ X2.out
               clear hq)
            | (go_at_call 25
               (with_reducible refine (H2.out _ (HS.out.keep (KW.out _ X2.out)) (HT.out.keep0 (KW.out _ X2.out))).mono ?_)
               rintro e wq3 ⟨rfl, hq⟩
               have X3 := Lib.hid (X2.out.trans hq fun _ _ h => h)
               obtain ⟨u0, u1, u2, zz3⟩ := HB.out _ X3.out
               clear hq))
          go_roundw
          case rel => exact ⟨k + 1, by go_num, by omega, X3.out⟩
          case measure => simp only [intOf]; omega
        · obtain rfl : k = S.A.length := by omega
          go_wp2
          obtain ⟨wa0, rfl⟩ : ∃ wa : World, wa = wr := ⟨_, rfl⟩
          go_loopw [51] (fun i wr => ∃ k : Nat, i = .int .i64 k ∧ k ≤ S.F.length ∧ Keep NoF (w.alloc (.cells #[.slice a S.A.length ca, .slice f S.F.length cf, .slice c S.C.length cc] 24)) wr) (fun i _ => S.F.length - (intOf i).toNat)
          case atStart => exact ⟨0, rfl, by omega, X0.out⟩
          case round =>
            obtain ⟨k, rfl, hk, hkr⟩ := hrel
            have X0 : Hid (Keep NoF (w.alloc (.cells #[.slice a S.A.length ca, .slice f S.F.length cf, .slice c S.C.length cc] 24)) wr) := Lib.hid hkr
            obtain ⟨u0, u1, u2, zz0⟩ := HB.out _ hkr
            clear hkr
            by_cases hlt : k < S.F.length
            · have hx : S.F[k]? = some S.F[k] := List.getElem?_eq_getElem hlt
              obtain ⟨-, hcc, bl, off, rfl, hc⟩ := (HS.out.keep (KW.out _ X0.out)).F.str hx
              obtain ⟨f1, f2, f3⟩ := LF.out k _ hx
              have HX := Lib.hid (HSZ.out _ (mem_F (List.getElem_mem hlt)))
              clear hx
              generalize S.F[k] = x at *
              have ek : ((k : Int) != (k : Int)) = false := by simp
              have h0 := HFact.out x
              simp only [f1] at h0
              have H0 := Lib.hid h0
              clear h0
              have h1 := HAgent.out x
              simp only [f2] at h1
              have H1 := Lib.hid h1
              clear h1
              have h2 := HAction.out x
              simp only [f3] at h2
              have H2 := Lib.hid h2
              clear h2
              clear f1 f2 f3
              go_wp2_with (first
                | (go_at_call 23
                   (with_reducible refine (H0.out _ (HS.out.keep (KW.out _ X0.out)) (HT.out.keep0 (KW.out _ X0.out))).mono ?_)
                   rintro e wq1 ⟨rfl, hq⟩
                   have X1 := Lib.hid (X0.out.trans hq fun _ _ h => h)
                   obtain ⟨u0, u1, u2, zz1⟩ := HB.out _ X1.out
                   clear hq)
                | (go_at_call 21
                   (with_reducible refine (H1.out _ (HS.out.keep (KW.out _ X1.out)) (HT.out.keep0 (KW.out _ X1.out))).mono ?_)
                   rintro e wq2 ⟨rfl, hq⟩
                   have X2 := Lib.hid (X1.out.trans hq fun _ _ h => h)
                   obtain ⟨u0, u1, u2, zz2⟩ := HB.out _ X2.out
                   clear hq)
                | (go_at_call 25
                   (with_reducible refine (H2.out _ (HS.out.keep (KW.out _ X2.out)) (HT.out.keep0 (KW.out _ X2.out))).mono ?_)
                   rintro e wq3 ⟨rfl, hq⟩
                   have X3 := Lib.hid (X2.out.trans hq fun _ _ h => h)
                   obtain ⟨u0, u1, u2, zz3⟩ := HB.out _ X3.out
                   clear hq))
              go_roundw
              case rel => exact ⟨k + 1, by go_num, by omega, X3.out⟩
              case measure => simp only [intOf]; omega
            · obtain rfl : k = S.F.length := by omega
              go_wp2
              obtain ⟨wa1, rfl⟩ : ∃ wa : World, wa = wr := ⟨_, rfl⟩
              go_loopw [77] (fun i wr => ∃ k : Nat, i = .int .i64 k ∧ k ≤ S.C.length ∧ Keep NoF (w.alloc (.cells #[.slice a S.A.length ca, .slice f S.F.length cf, .slice c S.C.length cc] 24)) wr) (fun i _ => S.C.length - (intOf i).toNat)
              case atStart => exact ⟨0, rfl, by omega, X0.out⟩
              case round =>
                obtain ⟨k, rfl, hk, hkr⟩ := hrel
                have X0 : Hid (Keep NoF (w.alloc (.cells #[.slice a S.A.length ca, .slice f S.F.length cf, .slice c S.C.length cc] 24)) wr) := Lib.hid hkr
                obtain ⟨u0, u1, u2, zz0⟩ := HB.out _ hkr
                clear hkr
                by_cases hlt : k < S.C.length
                · have hx : S.C[k]? = some S.C[k] := List.getElem?_eq_getElem hlt
                  obtain ⟨-, hcc, bl, off, rfl, hc⟩ := (HS.out.keep (KW.out _ X0.out)).C.str hx
                  obtain ⟨f1, f2, f3, f4, f5⟩ := LC.out k _ hx
                  have HX := Lib.hid (HSZ.out _ (mem_C (List.getElem_mem hlt)))
                  clear hx
                  generalize S.C[k] = x at *
                  have ek : ((k : Int) != (k : Int)) = false := by simp
                  have h0 := HAction.out x
                  simp only [f1] at h0
                  have H0 := Lib.hid h0
                  clear h0
                  have h1 := HAgent.out x
                  simp only [f2] at h1
                  have H1 := Lib.hid h1
                  clear h1
                  have h2 := HFact.out x
                  simp only [f3] at h2
                  have H2 := Lib.hid h2
                  clear h2
                  have H3 := Lib.hid fun w' ht => (by have := Reserved_any x w' ht; rw [f4] at this; exact this : Calls Tryd.prog 16 #[.string x] w' fun e w'' => e = .returned (.bool false) ∧ w'' = w')
                  have H4 := Lib.hid fun w' => (by have := IsName_any x w' HX.out; rw [f5] at this; exact this : Calls Tryd.prog 14 #[.string x] w' fun e w'' => e = .returned (.bool true) ∧ Keep NoF w' w'')
                  clear f1 f2 f3 f4 f5
                  go_wp2_with (first
                    | (go_at_call 25
                       (with_reducible refine (H0.out _ (HS.out.keep (KW.out _ X0.out)) (HT.out.keep0 (KW.out _ X0.out))).mono ?_)
                       rintro e wq1 ⟨rfl, hq⟩
                       have X1 := Lib.hid (X0.out.trans hq fun _ _ h => h)
                       obtain ⟨u0, u1, u2, zz1⟩ := HB.out _ X1.out
                       clear hq)
                    | (go_at_call 21
                       (with_reducible refine (H1.out _ (HS.out.keep (KW.out _ X1.out)) (HT.out.keep0 (KW.out _ X1.out))).mono ?_)
                       rintro e wq2 ⟨rfl, hq⟩
                       have X2 := Lib.hid (X1.out.trans hq fun _ _ h => h)
                       obtain ⟨u0, u1, u2, zz2⟩ := HB.out _ X2.out
                       clear hq)
                    | (go_at_call 23
                       (with_reducible refine (H2.out _ (HS.out.keep (KW.out _ X2.out)) (HT.out.keep0 (KW.out _ X2.out))).mono ?_)
                       rintro e wq3 ⟨rfl, hq⟩
                       have X3 := Lib.hid (X2.out.trans hq fun _ _ h => h)
                       obtain ⟨u0, u1, u2, zz3⟩ := HB.out _ X3.out
                       clear hq)
                    | (go_at_call 16; (with_reducible refine (H3.out _ (HT.out.keep0 (KW.out _ X3.out))).mono ?_); rintro e w' ⟨rfl, hw'⟩; obtain rfl := hw'.symm)
                    | (go_at_call 14
                       (with_reducible refine (H4.out _).mono ?_)
                       rintro e wq4 ⟨rfl, hq⟩
                       have X4 := Lib.hid (X3.out.trans hq fun _ _ h => h)
                       obtain ⟨u0, u1, u2, zz4⟩ := HB.out _ X4.out
                       clear hq))
                  go_roundw
                  case rel => exact ⟨k + 1, by go_num, by omega, X4.out⟩
                  case measure => simp only [intOf]; omega
                · obtain rfl : k = S.C.length := by omega
                  go_wp2
                  go_ret
                  exact ⟨rfl, KW.out _ X0.out⟩
    · generalize checkS S = n at *
      have hn : ((n : Int) != 0) = true := by simp; omega
      go_enter Tryd.func8, Tryd.ntmps8
      go_wp2_with (first
        | (go_at_call 10
           (with_reducible refine (awake_any _ (HT.out.keep0 (KW.out _ X0.out))).mono ?_)
           rintro e wq1 ⟨rfl, hq⟩
           have X1 := Lib.hid (X0.out.trans hq fun _ _ h => h)
           obtain ⟨u0, u1, u2, zz1⟩ := HB.out _ X1.out
           clear hq)
        | (go_at_call 11
           (with_reducible refine (HFW.out _).mono ?_)
           rintro e wq2 ⟨rfl, hq⟩
           have X2 := Lib.hid (X1.out.trans hq fun _ _ h => h)
           obtain ⟨u0, u1, u2, zz2⟩ := HB.out _ X2.out
           clear hq)
        | (go_at_call 13
           (with_reducible refine (HCK.out _ (HS.out.keep (KW.out _ X2.out))).mono ?_)
           rintro e wq3 ⟨rfl, hq⟩
           have X3 := Lib.hid (X2.out.trans hq fun _ _ h => h)
           obtain ⟨u0, u1, u2, zz3⟩ := HB.out _ X3.out
           clear hq)
        | (go_at_call 10
           (with_reducible refine (awake_any _ (HT.out.keep0 (KW.out _ X3.out))).mono ?_)
           rintro e wq4 ⟨rfl, hq⟩
           have X4 := Lib.hid (X3.out.trans hq fun _ _ h => h)
           obtain ⟨u0, u1, u2, zz4⟩ := HB.out _ X4.out
           clear hq))
      go_ret
      exact ⟨rfl, KW.out _ X4.out⟩
end
end Go.Proofs.YtcmoocemfnjkiaaDoor
