/- The law SignatureOrder answers true. Conditions: the variables lie as they are read. -/
import Derived.Test.YtcmoocemfnjkiaaDoorSgO
import Derived.Test.YtcmoocemfnjkiaaDoorSgF
import Derived.Test.YtcmoocemfnjkiaaDoorSgQ
set_option linter.unusedVariables false
set_option linter.unusedSimpArgs false
namespace Go.Proofs.YtcmoocemfnjkiaaDoor
open Go.RowKit
theorem short_len {l : List ByteArray} (h : shortB l = true) : l.length ≤ 20 := by
  unfold shortB at h
  rw [Bool.and_eq_true] at h
  exact of_decide_eq_true h.2
theorem rev_snoc {l : List ByteArray} {k : Nat} {x : ByteArray} (h : l[k]? = some x) : (l.take (k + 1)).reverse = [x] ++ (l.take k).reverse := by
  rw [take_snoc h, List.reverse_append]
  rfl
section
set_option maxRecDepth 100000
set_option maxHeartbeats 4000000
theorem walk_SignatureOrder (S : Sg) (a f c : Option Addr) (ca cf cc : Nat) (l : List ByteArray) (B : Option Addr) (cl : Nat) (w : World) (hS : SigR w S a ca f cf c cc) (hl : l.length ≤ 9223372036854775807) (hrd : Rd w (.slice B l.length cl) 1 l.length (strs l)) (hT : Tab w) :
    Calls Tryd.prog 9 #[.agg #[.slice a S.A.length ca, .slice f S.F.length cf, .slice c S.C.length cc], .slice B l.length cl] w fun e w' => e = .returned (.bool true) ∧ Keep NoF w w' := by
  have HT := Lib.hid hT
  have HS := Lib.hid hS
  have HB := Lib.hid (fun w' (hk : Keep NoF (w.alloc (.cells #[.slice a S.A.length ca, .slice f S.F.length cf, .slice c S.C.length cc] 24)) w') => box_cells (S := S) (a := a) (ca := ca) (f := f) (cf := cf) (c := c) (cc := cc) (t := 24) hk)
  have KW : Hid (∀ q, Keep NoF (w.alloc (.cells #[.slice a S.A.length ca, .slice f S.F.length cf, .slice c S.C.length cc] 24)) q → Keep NoF w q) := Lib.hid fun q hq => ((Keep.refl NoF w).alloc _).trans hq fun _ _ h => h
  have X0 : Hid (Keep NoF (w.alloc (.cells #[.slice a S.A.length ca, .slice f S.F.length cf, .slice c S.C.length cc] 24)) (w.alloc (.cells #[.slice a S.A.length ca, .slice f S.F.length cf, .slice c S.C.length cc] 24))) := Lib.hid (Keep.refl _ _)
  clear hT hS
  cases hf : fewB S with
  | false =>
    have HFW : Hid (∀ w', Calls Tryd.prog 11 #[.agg #[.slice a S.A.length ca, .slice f S.F.length cf, .slice c S.C.length cc]] w' fun e w'' => e = .returned (.bool false) ∧ Keep NoF w' w'') := Lib.hid fun w' => by
      have := Few_any S a f c ca cf cc w'
      rw [hf] at this
      exact this
    clear hf
    go_enter Tryd.func9, Tryd.ntmps9
    go_wp2_with (first
      | (go_at_call 10
         (with_reducible refine (awake_any _ (HT.out.keep0 (KW.out _ X0.out))).mono ?_)
         rintro e wq1 ⟨rfl, hq⟩
         have X1 := Lib.hid (X0.out.trans hq fun _ _ h => h)
         obtain ⟨u0, u1, u2, zz1⟩ := HB.out _ X1.out
         clear hq)
      | (go_at_call 11
         (with_reducible refine (HFW.out _).mono ?_)
         rintro e wq2 ⟨rfl, hq⟩
         have X2 := Lib.hid (X1.out.trans hq fun _ _ h => h)
         obtain ⟨u0, u1, u2, zz2⟩ := HB.out _ X2.out
         clear hq)
      | (go_at_call 10
         (with_reducible refine (awake_any _ (HT.out.keep0 (KW.out _ X2.out))).mono ?_)
         rintro e wq3 ⟨rfl, hq⟩
         have X3 := Lib.hid (X2.out.trans hq fun _ _ h => h)
         obtain ⟨u0, u1, u2, zz3⟩ := HB.out _ X3.out
         clear hq))
    go_ret
    exact ⟨rfl, KW.out _ X3.out⟩
  | true =>
    have HFW : Hid (∀ w', Calls Tryd.prog 11 #[.agg #[.slice a S.A.length ca, .slice f S.F.length cf, .slice c S.C.length cc]] w' fun e w'' => e = .returned (.bool true) ∧ Keep NoF w' w'') := Lib.hid fun w' => by
      have := Few_any S a f c ca cf cc w'
      rw [hf] at this
      exact this
    clear hf
    have HRD := Lib.hid fun w' (hk : Keep NoF w w') => hrd.kept hk fun _ _ h => h
    have HSH := Lib.hid fun w' (hk : Keep NoF w w') => short_any l B cl w' hl (HRD.out w' hk)
    cases hb : shortB l with
    | false =>
      rw [hb] at HSH
      clear hb hrd
      go_enter Tryd.func9, Tryd.ntmps9
      go_wp2_with (first
        | (go_at_call 10
           (with_reducible refine (awake_any _ (HT.out.keep0 (KW.out _ X0.out))).mono ?_)
           rintro e wq1 ⟨rfl, hq⟩
           have X1 := Lib.hid (X0.out.trans hq fun _ _ h => h)
           obtain ⟨u0, u1, u2, zz1⟩ := HB.out _ X1.out
           clear hq)
        | (go_at_call 11
           (with_reducible refine (HFW.out _).mono ?_)
           rintro e wq2 ⟨rfl, hq⟩
           have X2 := Lib.hid (X1.out.trans hq fun _ _ h => h)
           obtain ⟨u0, u1, u2, zz2⟩ := HB.out _ X2.out
           clear hq)
        | (go_at_call 27; (with_reducible refine (HSH.out _ (KW.out _ X2.out)).mono ?_); rintro e w' ⟨rfl, hw'⟩; obtain rfl := hw'.symm)
        | (go_at_call 10
           (with_reducible refine (awake_any _ (HT.out.keep0 (KW.out _ X2.out))).mono ?_)
           rintro e wq3 ⟨rfl, hq⟩
           have X3 := Lib.hid (X2.out.trans hq fun _ _ h => h)
           obtain ⟨u0, u1, u2, zz3⟩ := HB.out _ X3.out
           clear hq))
      go_ret
      exact ⟨rfl, KW.out _ X3.out⟩
    | true =>
      have hl20 : l.length ≤ 20 := short_len hb
      rw [hb] at HSH
      obtain ⟨o1, o2, o3⟩ := order_law S l
      have HG1 := Lib.hid fun w' (hk : Keep NoF w w') hg ht => Group_any S a f c ca cf cc l B cl w' hg ht hl (HRD.out w' hk)
      have HG2 := Lib.hid fun A cA w' h hg ht => Group_any S a f c ca cf cc l.reverse A cA w' hg ht (by rw [List.length_reverse]; exact hl) h
      rw [List.length_reverse] at HG2
      have HAgent := Lib.hid fun x w' hg ht => Agent_any S a f c ca cf cc x w' hg ht
      clear hb hrd
      generalize groupS S l = r at *
      generalize groupS S l.reverse = r' at *
      obtain ⟨m, e⟩ := r
      obtain ⟨m', e'⟩ := r'
      simp only at o1 o2 o3
      subst o1
      have O3 := Lib.hid o3
      go_enter Tryd.func9, Tryd.ntmps9
      go_wp2_with (first
        | (go_at_call 10
           (with_reducible refine (awake_any _ (HT.out.keep0 (KW.out _ X0.out))).mono ?_)
           rintro e wq1 ⟨rfl, hq⟩
           have X1 := Lib.hid (X0.out.trans hq fun _ _ h => h)
           obtain ⟨u0, u1, u2, zz1⟩ := HB.out _ X1.out
           clear hq)
        | (go_at_call 11
           (with_reducible refine (HFW.out _).mono ?_)
           rintro e wq2 ⟨rfl, hq⟩
           have X2 := Lib.hid (X1.out.trans hq fun _ _ h => h)
           obtain ⟨u0, u1, u2, zz2⟩ := HB.out _ X2.out
           clear hq)
        | (go_at_call 27; (with_reducible refine (HSH.out _ (KW.out _ X2.out)).mono ?_); rintro e w' ⟨rfl, hw'⟩; obtain rfl := hw'.symm))
      have X2a := X2
      clear o3
      go_loopw [5, 32] (fun v i wr => ∃ k : Nat, i = .int .i64 k ∧ k ≤ l.length ∧ wr.ownsRow wq2.heap.size 9 1 v k (strs (l.take k).reverse) ∧ Keep NoF wq2 wr) (fun _ i _ => l.length - (intOf i).toNat)
      case atStart => exact ⟨0, rfl, by omega, World.ownsRow_nil _ _ _ _, Keep.refl _ _⟩
      case round =>
        obtain ⟨k, rfl, hk, hown, hkr⟩ := hrel
        have X5 : Hid (Keep NoF (w.alloc (.cells #[.slice a S.A.length ca, .slice f S.F.length cf, .slice c S.C.length cc] 24)) wr) := Lib.hid (X2.out.trans hkr fun _ _ h => h)
        obtain ⟨u0, u1, u2, zz0⟩ := HB.out _ X5.out
        have hz := hkr.size
        by_cases hlt : k < l.length
        · have hx : l[k]? = some l[k] := List.getElem?_eq_getElem hlt
          obtain ⟨-, hcc, bl, off, rfl, hc⟩ := (HRD.out _ (KW.out _ X5.out)).str hx
          have HTK := Lib.hid (rev_snoc hx)
          clear hx
          generalize l[k] = x at *
          obtain ⟨Bk, cb, rfl⟩ := own_form hown
          have hlit := World.ownsRow_lit (base := wq2.heap.size) (e := 9) (size := 1) wr #[.string x] 1 hz (by simp [maxLen]) rfl
          go_wp2_with (at_builtin
                       refine wpList_apps (by rfl) eStrs (.tmp 37) (.tmp 38) (by rfl) (by rfl) hlit Bk k cb (strs (l.take k).reverse) (by rfl) (Rd.of_own (hown.alloc _)) (strs_one _) (by omega) (by omega) (by simp; omega) ?_
                       intro v4 w4 hown4 hg4)
          go_roundw
          case rel =>
            refine ⟨k + 1, by go_num, by omega, ?_, (hkr.alloc _).grown hg4 fun x hx => .inr (by have e : wr.heap.size = x := (by simpa [Value.ownBlock] using hx); omega)⟩
            rw [HTK.out, Nat.add_comm k 1]
            simpa using hown4
          case measure => simp only [intOf]; omega
        · obtain rfl : k = l.length := by omega
          rw [List.take_length] at hown
          obtain ⟨Bk, cb, rfl⟩ := own_form hown
          have HRV := Lib.hid (Rd.of_own hown)
          clear hown hkr
          have em : ((m' : Int) != (m' : Int)) = false := by simp
          by_cases he : e = 0
          · have he' := o2.2 he
            subst he he'
            obtain ⟨o5, o6, o7, o8⟩ := O3.out rfl
            have HO8 := Lib.hid o8
            have hm16 : m' < 16 := Nat.lt_of_lt_of_le o6 (Nat.pow_le_pow_right (n := 2) (by omega) o7)
            have HO5 := Lib.hid o5
            clear o2 o5 o6 o8 O3
            go_wp2_with (first
            | (go_at_call 28
               (with_reducible refine (HG1.out _ (KW.out _ X5.out) (HS.out.keep (KW.out _ X5.out)) (HT.out.keep0 (KW.out _ X5.out))).mono ?_)
               rintro e wq6 ⟨rfl, hq⟩
               have X6 := Lib.hid (X5.out.trans hq fun _ _ h => h)
               obtain ⟨u0, u1, u2, zz6⟩ := HB.out _ X6.out
               have hrv := hq
               clear hq)
            | (go_at_call 28
               (with_reducible refine (HG2.out Bk cb _ (HRV.out.kept hrv fun _ _ h => h) (HS.out.keep (KW.out _ X6.out)) (HT.out.keep0 (KW.out _ X6.out))).mono ?_)
               rintro e wq7 ⟨rfl, hq⟩
               have X7 := Lib.hid (X6.out.trans hq fun _ _ h => h)
               obtain ⟨u0, u1, u2, zz7⟩ := HB.out _ X7.out
               clear hq))
            go_loopw [12, 68] (fun v i wr => ∃ k : Nat, i = .int .i64 k ∧ v = .int .i64 (cntB m' k) ∧ k ≤ S.A.length ∧ wr = wq7) (fun _ i _ => S.A.length - (intOf i).toNat)
            case atStart => exact ⟨0, rfl, rfl, by omega, rfl⟩
            case round =>
              obtain ⟨k, rfl, rfl, hk, hw⟩ := hrel
              obtain rfl := hw.symm; clear hw
              by_cases hlt : k < S.A.length
              · have hcl := cntB_le m' k
                have hcs := cntB_succ m' k
                have hb1 := bit_one hm16 (show k < 4 by omega)
                cases hb : m'.testBit k with
                | true =>
                  rw [hb, if_pos rfl] at hcs
                  rw [hb] at hb1
                  have HC1 := Lib.hid hcs
                  clear hcs hb
                  generalize cntB m' k = q at *
                  go_wp2
                  go_roundw
                  case rel => exact ⟨k + 1, by go_num, by rw [HC1.out]; go_num, by omega, by trivial⟩
                  case measure => simp only [intOf]; omega
                | false =>
                  rw [hb, if_neg (by simp), Nat.add_zero] at hcs
                  rw [hb] at hb1
                  have HC1 := Lib.hid hcs
                  clear hcs hb
                  generalize cntB m' k = q at *
                  go_wp2
                  go_roundw
                  case rel => exact ⟨k + 1, by go_num, by rw [HC1.out]; go_num, by omega, by trivial⟩
                  case measure => simp only [intOf]; omega
              · obtain rfl : k = S.A.length := by omega
                have ho5 := HO5.out
                generalize cntB m' S.A.length = q at *
                obtain rfl := ho5.symm
                have el : ((l.length : Int) == (l.length : Int)) = true := by simp
                go_wp2
                go_loopw [80] (fun i wr => ∃ k : Nat, i = .int .i64 k ∧ k ≤ l.length ∧ Keep NoF (w.alloc (.cells #[.slice a S.A.length ca, .slice f S.F.length cf, .slice c S.C.length cc] 24)) wr) (fun i _ => l.length - (intOf i).toNat)
                case atStart => exact ⟨0, rfl, by omega, X7.out⟩
                case round =>
                  obtain ⟨k, rfl, hk, hkr⟩ := hrel
                  have X8 : Hid (Keep NoF (w.alloc (.cells #[.slice a S.A.length ca, .slice f S.F.length cf, .slice c S.C.length cc] 24)) wr) := Lib.hid hkr
                  obtain ⟨u0, u1, u2, zz8⟩ := HB.out _ hkr
                  clear hkr
                  by_cases hlt : k < l.length
                  · have hx : l[k]? = some l[k] := List.getElem?_eq_getElem hlt
                    obtain ⟨-, hcc, bl, off, rfl, hc⟩ := (HRD.out _ (KW.out _ X8.out)).str hx
                    obtain ⟨j, hj, hjA, hb⟩ := HO8.out _ (List.getElem_mem hlt)
                    clear hx
                    generalize l[k] = x at *
                    have ha := HAgent.out x
                    rw [hj] at ha
                    have HA := Lib.hid ha
                    have hb1 := bit_one hm16 (show j < 4 by omega)
                    rw [hb] at hb1
                    clear ha hj hb
                    go_wp2_with (first
                      | (go_at_call 21
                         (with_reducible refine (HA.out _ (HS.out.keep (KW.out _ X8.out)) (HT.out.keep0 (KW.out _ X8.out))).mono ?_)
                         rintro e wq9 ⟨rfl, hq⟩
                         have X9 := Lib.hid (X8.out.trans hq fun _ _ h => h)
                         obtain ⟨u0, u1, u2, zz9⟩ := HB.out _ X9.out
                         clear hq)
                      | fail)
                    go_roundw
                    case rel => exact ⟨k + 1, by go_num, by omega, X9.out⟩
                    case measure => simp only [intOf]; omega
                  · obtain rfl : k = l.length := by omega
                    go_wp2
                    go_ret
                    exact ⟨rfl, KW.out _ X8.out⟩
          · have he' : e' ≠ 0 := fun h => he (o2.1 h)
            have en1 : ((e : Int) == 0) = false := by rw [beq_eq_false_iff_ne]; omega
            have en2 : ((e' : Int) == 0) = false := by rw [beq_eq_false_iff_ne]; omega
            have en3 : ((e : Int) != 0) = true := by simp; omega
            clear o2 O3 he he'
            go_wp2_with (first
            | (go_at_call 28
               (with_reducible refine (HG1.out _ (KW.out _ X5.out) (HS.out.keep (KW.out _ X5.out)) (HT.out.keep0 (KW.out _ X5.out))).mono ?_)
               rintro e wq6 ⟨rfl, hq⟩
               have X6 := Lib.hid (X5.out.trans hq fun _ _ h => h)
               obtain ⟨u0, u1, u2, zz6⟩ := HB.out _ X6.out
               have hrv := hq
               clear hq)
            | (go_at_call 28
               (with_reducible refine (HG2.out Bk cb _ (HRV.out.kept hrv fun _ _ h => h) (HS.out.keep (KW.out _ X6.out)) (HT.out.keep0 (KW.out _ X6.out))).mono ?_)
               rintro e wq7 ⟨rfl, hq⟩
               have X7 := Lib.hid (X6.out.trans hq fun _ _ h => h)
               obtain ⟨u0, u1, u2, zz7⟩ := HB.out _ X7.out
               clear hq))
            go_ret
            exact ⟨rfl, KW.out _ X7.out⟩
end
end Go.Proofs.YtcmoocemfnjkiaaDoor
