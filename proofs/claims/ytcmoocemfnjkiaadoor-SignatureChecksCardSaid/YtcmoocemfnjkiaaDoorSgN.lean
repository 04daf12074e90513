/- Small functions: Few, Same, sameList, short. No condition. -/
import Derived.Test.YtcmoocemfnjkiaaDoorSgI
set_option linter.unusedVariables false
set_option linter.unusedSimpArgs false
namespace Go.Proofs.YtcmoocemfnjkiaaDoor
open Go.RowKit

def shortB (l : List ByteArray) : Bool := l.all (fun x => decide (x.size ≤ 100)) && decide (l.length ≤ 20)
def fewB (S : Sg) : Bool := decide (S.A.length ≤ 12) && decide (S.F.length ≤ 12) && decide (S.C.length ≤ 12)
section
set_option maxRecDepth 100000
set_option maxHeartbeats 2000000
theorem Few_any (S : Sg) (a f c : Option Addr) (ca cf cc : Nat) (w : World) :
    Calls Tryd.prog 11 #[.agg #[.slice a S.A.length ca, .slice f S.F.length cf, .slice c S.C.length cc]] w fun e w' => e = .returned (.bool (fewB S)) ∧ Keep NoF w w' := by
  have hK0 : Keep NoF w (w.alloc (.cells (boxS S a ca f cf c cc) 24)) := (Keep.refl _ _).alloc _
  unfold boxS at hK0
  unfold fewB
  by_cases h1 : S.A.length ≤ 12
  · by_cases h2 : S.F.length ≤ 12
    · by_cases h3 : S.C.length ≤ 12
      · rw [decide_eq_true h1, decide_eq_true h2, decide_eq_true h3]
        go_enter Tryd.func11, Tryd.ntmps11
        go_wp2
        go_ret
        exact ⟨congrArg (fun b => Ending.returned (Value.bool b)) (decide_eq_true (p := (S.C.length : Int) ≤ 12) (by omega)), hK0⟩
      · rw [decide_eq_true h1, decide_eq_true h2, decide_eq_false h3]
        go_enter Tryd.func11, Tryd.ntmps11
        go_wp2
        go_ret
        exact ⟨congrArg (fun b => Ending.returned (Value.bool b)) (decide_eq_false (p := (S.C.length : Int) ≤ 12) (by omega)), hK0⟩
    · rw [decide_eq_true h1, decide_eq_false h2]
      go_enter Tryd.func11, Tryd.ntmps11
      go_wp2
      go_ret
      exact ⟨rfl, hK0⟩
  · rw [decide_eq_false h1]
    go_enter Tryd.func11, Tryd.ntmps11
    go_wp2
    go_ret
    exact ⟨rfl, hK0⟩
theorem sameList_any (l : List ByteArray) (A B : Option Addr) (c d : Nat) (w : World) (hl : l.length ≤ 9223372036854775807) (h1 : Rd w (.slice A l.length c) 1 l.length (strs l)) (h2 : Rd w (.slice B l.length d) 1 l.length (strs l)) :
    Calls Tryd.prog 41 #[.slice A l.length c, .slice B l.length d] w fun e w' => e = .returned (.bool true) ∧ Keep NoF w w' := by
  go_enter Tryd.func41, Tryd.ntmps41
  go_wp2
  go_loopw [5] (fun i wr => ∃ k nq : Nat, i = .int .i64 k ∧ k ≤ l.length ∧ wr = w.drewN nq) (fun i _ => l.length - (intOf i).toNat)
  case atStart => exact ⟨0, 0, rfl, by omega, rfl⟩
  case round =>
    obtain ⟨k, nq0, rfl, hk, rfl⟩ := hrel
    by_cases hlt : k < l.length
    · have hx : l[k]? = some l[k] := List.getElem?_eq_getElem hlt
      obtain ⟨-, hcc, bl, off, rfl, hc⟩ := h1.str hx
      obtain ⟨-, hcd, bl2, off2, rfl, hc2⟩ := h2.str hx
      clear hx
      generalize l[k] = x at *
      go_wp2
      go_quiet (fail)
      go_wp2
      go_roundw
      case rel => exact ⟨k + 1, nq0 + nq, by go_num, by omega, rfl⟩
      case measure => simp only [intOf]; omega
    · obtain rfl : k = l.length := by omega
      go_wp2
      go_ret
      exact ⟨rfl, (Keep.refl _ _).drewN _⟩
theorem Same_any (S : Sg) (a f c : Option Addr) (ca cf cc : Nat) (a' f' c' : Option Addr) (ca' cf' cc' : Nat) (w : World) (hS : SigR w S a ca f cf c cc) (hS' : SigR w S a' ca' f' cf' c' cc') :
    Calls Tryd.prog 20 #[.agg #[.slice a S.A.length ca, .slice f S.F.length cf, .slice c S.C.length cc], .agg #[.slice a' S.A.length ca', .slice f' S.F.length cf', .slice c' S.C.length cc']] w fun e w' => e = .returned (.bool true) ∧ Keep NoF w w' := by
  have hK0 : Keep NoF w ((w.alloc (.cells (boxS S a ca f cf c cc) 24)).alloc (.cells (boxS S a' ca' f' cf' c' cc') 24)) := ((Keep.refl _ _).alloc _).alloc _
  have HB := Lib.hid (fun w' (hk : Keep NoF ((w.alloc (.cells (boxS S a ca f cf c cc) 24)).alloc (.cells (boxS S a' ca' f' cf' c' cc') 24)) w') => box_cells (w := w) (S := S) (a := a) (f := f) (c := c) (ca := ca) (cf := cf) (cc := cc) (t := 24) (w' := w') (((Keep.refl _ _).alloc _).trans hk fun _ _ h => h))
  have HB' := Lib.hid (fun w' (hk : Keep NoF ((w.alloc (.cells (boxS S a ca f cf c cc) 24)).alloc (.cells (boxS S a' ca' f' cf' c' cc') 24)) w') => box_cells (w := w.alloc (.cells (boxS S a ca f cf c cc) 24)) (S := S) (a := a') (f := f') (c := c') (ca := ca') (cf := cf') (cc := cc') (t := 24) (w' := w') hk)
  simp only [World.size_alloc] at HB'
  have HA := Lib.hid (fun w1 (hk : Keep NoF w w1) => sameList_any S.A a a' ca ca' w1 hS.lA (hS.keep hk).A (hS'.keep hk).A)
  have HF := Lib.hid (fun w1 (hk : Keep NoF w w1) => sameList_any S.F f f' cf cf' w1 hS.lF (hS.keep hk).F (hS'.keep hk).F)
  have HC := Lib.hid (fun w1 (hk : Keep NoF w w1) => sameList_any S.C c c' cc cc' w1 hS.lC (hS.keep hk).C (hS'.keep hk).C)
  obtain ⟨c0, c1, c2, -⟩ := HB.out _ (Keep.refl _ _)
  obtain ⟨d0, d1, d2, -⟩ := HB'.out _ (Keep.refl _ _)
  unfold boxS at *
  go_enter Tryd.func20, Tryd.ntmps20
  go_wp2_with (first
    | (go_at_call 41
       (with_reducible refine (HA.out _ hK0).mono ?_)
       rintro e w1 ⟨rfl, hk1⟩
       have hn1 := hK0.trans hk1 fun _ _ h => h
       obtain ⟨c0, c1, c2, -⟩ := HB.out _ hk1
       obtain ⟨d0, d1, d2, -⟩ := HB'.out _ hk1)
    | (go_at_call 41
       (with_reducible refine (HF.out w1 hn1).mono ?_)
       rintro e w2 ⟨rfl, hk2⟩
       have hn2 := hn1.trans hk2 fun _ _ h => h
       have hq2 := hk1.trans hk2 fun _ _ h => h
       obtain ⟨c0, c1, c2, -⟩ := HB.out _ hq2
       obtain ⟨d0, d1, d2, -⟩ := HB'.out _ hq2)
    | (go_at_call 41
       (with_reducible refine (HC.out w2 hn2).mono ?_)
       rintro e w3 ⟨rfl, hk3⟩))
  go_ret
  exact ⟨rfl, hn2.trans hk3 fun _ _ h => h⟩
theorem short_any (l : List ByteArray) (A : Option Addr) (c : Nat) (w : World) (hl : l.length ≤ 9223372036854775807) (h1 : Rd w (.slice A l.length c) 1 l.length (strs l)) :
    Calls Tryd.prog 27 #[.slice A l.length c] w fun e w' => e = .returned (.bool (shortB l)) ∧ w' = w := by
  generalize hr : shortB l = r
  have HR := Lib.hid hr
  clear hr
  unfold shortB at HR
  go_enter Tryd.func27, Tryd.ntmps27
  go_wp2
  go_loopw [7] (fun i wr => ∃ k : Nat, i = .int .i64 k ∧ k ≤ l.length ∧ Hid (((l.drop k).all (fun x => decide (x.size ≤ 100)) && decide (l.length ≤ 20)) = r) ∧ wr = w) (fun i _ => l.length - (intOf i).toNat)
  case atStart => exact ⟨0, rfl, by omega, Lib.hid HR.out, rfl⟩
  case round =>
    obtain ⟨k, rfl, hk, ho, hw⟩ := hrel
    obtain rfl := hw.symm; clear hw HR
    by_cases hlt : k < l.length
    · have hx : l[k]? = some l[k] := List.getElem?_eq_getElem hlt
      obtain ⟨-, hcc, bl, off, rfl, hc⟩ := h1.str hx
      have ho1 := ho.out
      rw [drop_at hx, List.all_cons] at ho1
      clear ho hx
      generalize l[k] = x at *
      by_cases hs : x.size ≤ 100
      · rw [decide_eq_true hs, Bool.true_and] at ho1
        have HO := Lib.hid ho1
        clear ho1
        go_wp2
        go_roundw
        case rel => exact ⟨k + 1, by go_num, by omega, HO, by trivial⟩
        case measure => simp only [intOf]; omega
      · rw [decide_eq_false hs, Bool.false_and, Bool.false_and] at ho1
        have HO := Lib.hid ho1.symm
        clear ho1
        go_wp2
        go_ret
        exact ⟨by rw [HO.out] <;> rfl, rfl⟩
    · obtain rfl : k = l.length := by omega
      have ho1 := ho.out
      rw [List.drop_length, List.all_nil, Bool.true_and] at ho1
      clear ho
      have hdec : decide ((l.length : Int) ≤ 20) = decide (l.length ≤ 20) := by by_cases h : l.length ≤ 20 <;> simp [h] <;> omega
      have HO := Lib.hid (hdec.trans ho1)
      clear ho1 hdec
      go_wp2
      go_ret
      exact ⟨congrArg (fun b => Ending.returned (Value.bool b)) HO.out, rfl⟩
end
end Go.Proofs.YtcmoocemfnjkiaaDoor
