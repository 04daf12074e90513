/- The mask of names: what the program's group and Group do. Conditions: the variables lie as they are read. -/
import Derived.Test.YtcmoocemfnjkiaaDoorSgG
set_option linter.unusedVariables false
set_option linter.unusedSimpArgs false
namespace Go.Proofs.YtcmoocemfnjkiaaDoor
open Go.RowKit

theorem grp_at {A l : List ByteArray} {k : Nat} {x : ByteArray} (h : l[k]? = some x) (m : Nat) : grp A (l.drop k) m = if Lib.idxOfS A x < 0 then (0, 6) else if m.testBit (Lib.idxOfS A x).toNat = true then (0, 7) else grp A (l.drop (k + 1)) (m + 2 ^ (Lib.idxOfS A x).toNat) := by
  rw [drop_at h, grp_cons]
/-- The bits of a small mask, as the program asks for them. -/
theorem bit_ask {m j : Nat} (hm : m < 16) (hj : j < 4) : (bits BinOp.and IntKind.i64 ((m : Int) / 2 ^ j) 1 == 1) = m.testBit j := by
  have h : ∀ (m : Fin 16) (j : Fin 4), (bits BinOp.and IntKind.i64 ((m.val : Int) / 2 ^ j.val) 1 == 1) = m.val.testBit j.val := by decide +kernel
  exact h ⟨m, hm⟩ ⟨j, hj⟩
theorem bit_put {m j : Nat} (hm : m < 16) (hj : j < 4) (hb : m.testBit j = false) : m + 2 ^ j < 16 ∧ bits BinOp.or IntKind.i64 (m : Int) (wrap64 (2 ^ j)) = ((m + 2 ^ j : Nat) : Int) := by
  have h : ∀ (m : Fin 16) (j : Fin 4), m.val.testBit j.val = false → m.val + 2 ^ j.val < 16 ∧ bits BinOp.or IntKind.i64 (m.val : Int) (wrap64 (2 ^ j.val)) = ((m.val + 2 ^ j.val : Nat) : Int) := by decide +kernel
  exact h ⟨m, hm⟩ ⟨j, hj⟩ hb

section
set_option maxRecDepth 100000
set_option maxHeartbeats 2000000
theorem group_any (S : Sg) (a f c : Option Addr) (ca cf cc : Nat) (l : List ByteArray) (B : Option Addr) (cl : Nat) (w : World) (hS : SigR w S a ca f cf c cc) (lA : S.A.length ≤ 4) (hl : l.length ≤ 9223372036854775807) (hrd : Rd w (.slice B l.length cl) 1 l.length (strs l)) :
    Calls Tryd.prog 43 #[.agg #[.slice a S.A.length ca, .slice f S.F.length cf, .slice c S.C.length cc], .slice B l.length cl] w fun e w' => e = .returned (.tuple #[.int .i64 (grp S.A l 0).1, .int .i64 (grp S.A l 0).2]) ∧ Keep NoF w w' := by
  have HB := Lib.hid (fun w' => @box_cells w w' S a f c ca cf cc 24)
  have hK0 : Keep NoF w (w.alloc (.cells (boxS S a ca f cf c cc) 24)) := (Keep.refl _ _).alloc _
  have HI := Lib.hid (fun x => index_any S.A a ca x _ hS.lA (hS.keep hK0).A)
  have HRD := Lib.hid (hrd.kept hK0 fun _ _ h => h)
  obtain ⟨c0, c1, c2, hsz⟩ := HB.out _ (Keep.refl _ _)
  unfold boxS at *
  generalize hr : grp S.A l 0 = r
  have HR := Lib.hid hr
  clear hr hrd HB
  go_enter Tryd.func43, Tryd.ntmps43
  go_wp2
  go_loopw [6, 12] (fun v i wr => ∃ k m : Nat, i = .int .i64 k ∧ v = .int .i64 m ∧ k ≤ l.length ∧ m < 16 ∧ Hid (r = grp S.A (l.drop k) m) ∧ wr = w.alloc (.cells #[.slice a S.A.length ca, .slice f S.F.length cf, .slice c S.C.length cc] 24)) (fun _ i _ => l.length - (intOf i).toNat)
  case atStart => exact ⟨0, 0, rfl, rfl, by omega, by omega, Lib.hid HR.out.symm, rfl⟩
  case round =>
    obtain ⟨k, m, rfl, rfl, hk, hm, ho, hw⟩ := hrel
    obtain rfl := hw.symm; clear hw HR
    by_cases hlt : k < l.length
    · have hx : l[k]? = some l[k] := List.getElem?_eq_getElem hlt
      obtain ⟨-, hcc, bl, off, rfl, hc⟩ := HRD.out.str hx
      have ho1 := ho.out
      rw [grp_at hx] at ho1
      clear ho hx
      generalize l[k] = x at *
      have hix := idx_cases S.A x
      have HI2 := Lib.hid (HI.out x)
      generalize Lib.idxOfS S.A x = q at *
      rcases hix with ⟨rfl, -⟩ | ⟨j, rfl, hj, -, -⟩
      · rw [if_pos (by omega)] at ho1
        have HO := Lib.hid ho1
        clear ho1
        go_wp2_with (go_at_call 50; (with_reducible refine HI2.out.mono ?_); rintro e w' ⟨rfl, hw'⟩; obtain rfl := hw'.symm)
        refine bodyPost_ret (v := .tuple #[.int .i64 0, .int .i64 6]) (by simp [results, Tryd.results43, go_sem]) rfl ?_
        exact ⟨by rw [HO.out] <;> rfl, hK0⟩
      · rw [if_neg (by omega), Int.toNat_natCast] at ho1
        have hba := bit_ask hm (show j < 4 by omega)
        have HBP := Lib.hid (@bit_put m j hm (by omega))
        cases hb : m.testBit j with
        | true =>
          rw [hb, if_pos rfl] at ho1
          have HO := Lib.hid ho1
          rw [hb] at hba
          clear ho1 hb
          go_wp2_with (go_at_call 50; (with_reducible refine HI2.out.mono ?_); rintro e w' ⟨rfl, hw'⟩; obtain rfl := hw'.symm)
          refine bodyPost_ret (v := .tuple #[.int .i64 0, .int .i64 7]) (by simp [results, Tryd.results43, go_sem]) rfl ?_
          exact ⟨by rw [HO.out] <;> rfl, hK0⟩
        | false =>
          rw [hb, if_neg (by simp)] at ho1
          have HO := Lib.hid ho1
          obtain ⟨h2, h3⟩ := HBP.out hb
          have H3 := Lib.hid h3
          rw [hb] at hba
          clear ho1 hb h3
          go_wp2_with (go_at_call 50; (with_reducible refine HI2.out.mono ?_); rintro e w' ⟨rfl, hw'⟩; obtain rfl := hw'.symm)
          go_roundw
          case rel => exact ⟨k + 1, m + 2 ^ j, by go_num, by rw [H3.out], by omega, h2, HO, by trivial⟩
          case measure => simp only [intOf]; omega
    · obtain rfl : k = l.length := by omega
      have HO : Hid (r = (m, 0)) := Lib.hid (by rw [ho.out, List.drop_length]; rfl)
      clear ho
      go_wp2
      refine bodyPost_ret (v := .tuple #[.int .i64 m, .int .i64 0]) (by simp [results, Tryd.results43, go_sem]) rfl ?_
      exact ⟨by rw [HO.out] <;> rfl, hK0⟩
theorem groupS_bad {S : Sg} (h : checkS S ≠ 0) (l : List ByteArray) : groupS S l = (0, checkS S) := if_neg h
theorem groupS_nil {S : Sg} (h : checkS S = 0) : groupS S [] = (0, 1) := by unfold groupS; rw [if_pos h, if_pos rfl]
theorem groupS_ok {S : Sg} (h : checkS S = 0) {l : List ByteArray} (hl : l ≠ []) : groupS S l = grp S.A l 0 := by unfold groupS; rw [if_pos h, if_neg hl]
theorem Group_any (S : Sg) (a f c : Option Addr) (ca cf cc : Nat) (l : List ByteArray) (B : Option Addr) (cl : Nat) (w : World) (hS : SigR w S a ca f cf c cc) (hT : Tab w) (hl : l.length ≤ 9223372036854775807) (hrd : Rd w (.slice B l.length cl) 1 l.length (strs l)) :
    Calls Tryd.prog 28 #[.agg #[.slice a S.A.length ca, .slice f S.F.length cf, .slice c S.C.length cc], .slice B l.length cl] w fun e w' => e = .returned (.tuple #[.int .i64 (groupS S l).1, .int .i64 (groupS S l).2]) ∧ Keep NoF w w' := by
  have hK0 : Keep NoF w (w.alloc (.cells (boxS S a ca f cf c cc) 24)) := (Keep.refl _ _).alloc _
  have HC := Lib.hid (Check_any S a f c ca cf cc _ (hS.keep hK0) (hT.keep0 hK0))
  by_cases h0 : checkS S = 0
  · have hA := (checkS_ok h0).lA
    rw [h0] at HC
    by_cases hn : l = []
    · subst hn
      rw [groupS_nil h0]
      unfold boxS at *
      go_enter Tryd.func28, Tryd.ntmps28
      go_wp2_with (go_at_call 12; (with_reducible refine HC.out.mono ?_); rintro e w1 ⟨rfl, hk1⟩; have hk := hK0.trans hk1 fun _ _ h => h)
      refine bodyPost_ret (v := .tuple #[.int .i64 0, .int .i64 1]) (by simp [results, Tryd.results28, go_sem]) rfl ?_
      exact ⟨rfl, hk⟩
    · rw [groupS_ok h0 hn]
      have hlen : ((l.length : Int) == 0) = false := by
        have : l.length ≠ 0 := fun e => hn (List.eq_nil_of_length_eq_zero e)
        simp
        omega
      have HG := Lib.hid (fun w1 (hk : Keep NoF w w1) => group_any S a f c ca cf cc l B cl w1 (hS.keep hk) hA hl (hrd.kept hk fun _ _ h => h))
      have HB := Lib.hid (fun w' => @box_cells w w' S a f c ca cf cc 24)
      generalize grp S.A l 0 = r at *
      unfold boxS at *
      clear hn
      go_enter Tryd.func28, Tryd.ntmps28
      go_wp2_with (first
        | (go_at_call 12
           (with_reducible refine HC.out.mono ?_)
           rintro e w1 ⟨rfl, hk1⟩
           obtain ⟨c0, c1, c2, hsz⟩ := HB.out w1 hk1
           have hk := hK0.trans hk1 fun _ _ h => h)
        | (go_at_call 43; (with_reducible refine (HG.out w1 hk).mono ?_); rintro e w2 ⟨rfl, hk2⟩))
      refine bodyPost_ret (v := .tuple #[.int .i64 r.1, .int .i64 r.2]) (by simp [results, Tryd.results28, go_sem]) rfl ?_
      exact ⟨rfl, hk.trans hk2 fun _ _ h => h⟩
  · rw [groupS_bad h0]
    unfold boxS at *
    generalize checkS S = n at *
    have hn : ((n : Int) != 0) = true := by simp; omega
    go_enter Tryd.func28, Tryd.ntmps28
    go_wp2_with (go_at_call 12; (with_reducible refine HC.out.mono ?_); rintro e w1 ⟨rfl, hk1⟩; have hk := hK0.trans hk1 fun _ _ h => h)
    refine bodyPost_ret (v := .tuple #[.int .i64 0, .int .i64 n]) (by simp [results, Tryd.results28, go_sem]) rfl ?_
    exact ⟨rfl, hk⟩
end
end Go.Proofs.YtcmoocemfnjkiaaDoor
