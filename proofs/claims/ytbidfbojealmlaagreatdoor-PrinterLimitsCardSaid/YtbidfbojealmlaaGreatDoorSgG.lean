/- Where a name stands in a signature: what both find, Agent, Fact and Action do. Conditions: the variables lie as they are read. -/
import Derived.Test.YtbidfbojealmlaaGreatDoorSgF
set_option linter.unusedVariables false
set_option linter.unusedSimpArgs false
namespace Go.Proofs.YtbidfbojealmlaaGreatDoor
open Go.RowKit

theorem findS_no {S : Sg} (h : checkS S ≠ 0) (l : List ByteArray) (x : ByteArray) : findS S l x = -1 := if_neg h
theorem findS_ok {S : Sg} (h : checkS S = 0) (l : List ByteArray) (x : ByteArray) : findS S l x = Lib.idxOfS l x := if_pos h
section
set_option maxRecDepth 100000
set_option maxHeartbeats 2000000
theorem find_any (S : Sg) (a f c : Option Addr) (ca cf cc : Nat) (l : List ByteArray) (B : Option Addr) (cl : Nat) (x : ByteArray) (w : World) (hS : SigR w S a ca f cf c cc) (hT : Tab w) (hl : l.length ≤ 9223372036854775807) (hrd : Rd w (.slice B l.length cl) 1 l.length (strs l)) :
    Calls Tryz.prog 155 #[.agg #[.slice a S.A.length ca, .slice f S.F.length cf, .slice c S.C.length cc], .slice B l.length cl, .string x] w fun e w' => e = .returned (.int .i64 (findS S l x)) ∧ Keep NoF w w' := by
  have hK0 : Keep NoF w (w.alloc (.cells (boxS S a ca f cf c cc) 24)) := (Keep.refl _ _).alloc _
  have HC := Lib.hid (Check_any S a f c ca cf cc _ (hS.keep hK0) (hT.keep0 hK0))
  have HI := Lib.hid (fun w1 (hk : Keep NoF w w1) => index_any l B cl x w1 hl (hrd.kept hk fun _ _ h => h))
  unfold boxS at *
  by_cases h0 : checkS S = 0
  · rw [findS_ok h0]
    rw [h0] at HC
    generalize Lib.idxOfS l x = q at *
    go_enter Tryz.func155, Tryz.ntmps155
    go_wp2_with (first
      | (go_at_call 27
         (with_reducible refine HC.out.mono ?_)
         rintro e w1 ⟨rfl, hk1⟩
         have hk := hK0.trans hk1 fun _ _ h => h)
      | (go_at_call 80; (with_reducible refine (HI.out w1 hk).mono ?_); rintro e w' ⟨rfl, hw'⟩; obtain rfl := hw'.symm))
    go_ret
    exact ⟨rfl, hk⟩
  · rw [findS_no h0]
    generalize checkS S = n at *
    have hn : ((n : Int) != 0) = true := by simp; omega
    go_enter Tryz.func155, Tryz.ntmps155
    go_wp2_with (go_at_call 27
                 (with_reducible refine HC.out.mono ?_)
                 rintro e w1 ⟨rfl, hk1⟩
                 have hk := hK0.trans hk1 fun _ _ h => h)
    go_ret
    exact ⟨rfl, hk⟩
theorem Agent_any (S : Sg) (a f c : Option Addr) (ca cf cc : Nat) (x : ByteArray) (w : World) (hS : SigR w S a ca f cf c cc) (hT : Tab w) :
    Calls Tryz.prog 146 #[.agg #[.slice a S.A.length ca, .slice f S.F.length cf, .slice c S.C.length cc], .string x] w fun e w' => e = .returned (.int .i64 (findS S S.A x)) ∧ Keep NoF w w' := by
  have hK0 : Keep NoF w (w.alloc (.cells (boxS S a ca f cf c cc) 24)) := (Keep.refl _ _).alloc _
  have HF := Lib.hid (find_any S a f c ca cf cc S.A a ca x _ (hS.keep hK0) (hT.keep0 hK0) hS.lA (hS.keep hK0).A)
  unfold boxS at *
  generalize findS S S.A x = q at *
  go_enter Tryz.func146, Tryz.ntmps146
  go_wp2_with (go_at_call 155; (with_reducible refine HF.out.mono ?_); rintro e w1 ⟨rfl, hk1⟩; have hk := hK0.trans hk1 fun _ _ h => h)
  go_ret
  exact ⟨rfl, hk⟩
theorem Fact_any (S : Sg) (a f c : Option Addr) (ca cf cc : Nat) (x : ByteArray) (w : World) (hS : SigR w S a ca f cf c cc) (hT : Tab w) :
    Calls Tryz.prog 135 #[.agg #[.slice a S.A.length ca, .slice f S.F.length cf, .slice c S.C.length cc], .string x] w fun e w' => e = .returned (.int .i64 (findS S S.F x)) ∧ Keep NoF w w' := by
  have hK0 : Keep NoF w (w.alloc (.cells (boxS S a ca f cf c cc) 24)) := (Keep.refl _ _).alloc _
  have HF := Lib.hid (find_any S a f c ca cf cc S.F f cf x _ (hS.keep hK0) (hT.keep0 hK0) hS.lF (hS.keep hK0).F)
  unfold boxS at *
  generalize findS S S.F x = q at *
  go_enter Tryz.func135, Tryz.ntmps135
  go_wp2_with (go_at_call 155; (with_reducible refine HF.out.mono ?_); rintro e w1 ⟨rfl, hk1⟩; have hk := hK0.trans hk1 fun _ _ h => h)
  go_ret
  exact ⟨rfl, hk⟩
theorem Action_any (S : Sg) (a f c : Option Addr) (ca cf cc : Nat) (x : ByteArray) (w : World) (hS : SigR w S a ca f cf c cc) (hT : Tab w) :
    Calls Tryz.prog 152 #[.agg #[.slice a S.A.length ca, .slice f S.F.length cf, .slice c S.C.length cc], .string x] w fun e w' => e = .returned (.int .i64 (findS S S.C x)) ∧ Keep NoF w w' := by
  have hK0 : Keep NoF w (w.alloc (.cells (boxS S a ca f cf c cc) 24)) := (Keep.refl _ _).alloc _
  have HF := Lib.hid (find_any S a f c ca cf cc S.C c cc x _ (hS.keep hK0) (hT.keep0 hK0) hS.lC (hS.keep hK0).C)
  unfold boxS at *
  generalize findS S S.C x = q at *
  go_enter Tryz.func152, Tryz.ntmps152
  go_wp2_with (go_at_call 155; (with_reducible refine HF.out.mono ?_); rintro e w1 ⟨rfl, hk1⟩; have hk := hK0.trans hk1 fun _ _ h => h)
  go_ret
  exact ⟨rfl, hk⟩
end
end Go.Proofs.YtbidfbojealmlaaGreatDoor
