/- The law ModeltextFormats answers true. Conditions: the variables lie as they are read. -/
import Derived.Test.YtmnhgeggojgflaaGreatDoorMtX
import Derived.Test.YtmnhgeggojgflaaGreatDoorMtZc
set_option linter.unusedVariables false
set_option linter.unusedSimpArgs false
namespace Go.Proofs.YtmnhgeggojgflaaGreatDoor
open Go.RowKit
open Mt
open Ev (Md Okm modelE)
attribute [local go_sem] Oper.semAt_some
section
set_option maxRecDepth 100000
set_option maxHeartbeats 4000000
section
variable {M : Md} {va ra : Option Addr} {cv cr : Nat} {rs : List (Option Addr × Nat)}
theorem rmtFormat_any (S : Sg) (a f c : Option Addr) (ca cf cc : Nat) (w : World) (hS : SigR w S a ca f cf c cc) (hM : MdR w M va cv ra cr rs) :
    Calls Tryz.prog 12 #[.agg #[.slice a S.A.length ca, .slice f S.F.length cf, .slice c S.C.length cc], .agg #[.int .i64 M.W, .slice va M.V.length cv, .slice ra M.R.length cr]] w fun e w' => e = .returned (.tuple #[.string (txt (formatM S M).1), .int .i64 (formatM S M).2]) ∧ Keep NoF w w' := by
  unfold formatM
  by_cases h1 : checkS S = 0
  · rw [if_neg (fun h => h h1)]
    by_cases h2 : modelE M = 0
    · rw [if_neg (fun h => h h2)]
      by_cases h3 : S.A.length ≠ M.R.length ∨ S.F.length ≠ M.V.length
      · rw [if_pos h3]
        exact rmtFormat_bad3 S a f c ca cf cc w hS hM h1 h2 h3
      · rw [if_neg h3]
        exact rmtFormat_ok S a f c ca cf cc w hS hM h1 h2 (by omega) (by omega)
    · rw [if_pos h2]
      exact rmtFormat_bad2 S a f c ca cf cc w hS hM h1 h2
  · rw [if_pos h1]
    exact rmtFormat_bad1 S a f c ca cf cc w hS h1
end
theorem walk_ModeltextFormats (S : Sg) (a f c : Option Addr) (ca cf cc : Nat) (M : Md) (va ra : Option Addr) (cv cr : Nat) (rs : List (Option Addr × Nat)) (w : World) (hS : SigR w S a ca f cf c cc) (hM : MdR w M va cv ra cr rs) (hT : Tab w ∧ Ws.Tab w) :
    Calls Tryz.prog 3 #[.agg #[.slice a S.A.length ca, .slice f S.F.length cf, .slice c S.C.length cc], .agg #[.int .i64 M.W, .slice va M.V.length cv, .slice ra M.R.length cr]] w fun e w' => e = .returned (.bool true) ∧ Keep NoF w w' := by
  have HP0 := Lib.hid (FB.new w S a ca f cf c cc M va cv ra cr)
  have HFW : Hid (∀ W, Keep NoF w W → Calls Tryz.prog 8 #[.agg #[.slice a S.A.length ca, .slice f S.F.length cf, .slice c S.C.length cc]] W (FewPostD W)) := Lib.hid fun W k => fewMt_any S a f c ca cf cc W (hS.keep k)
  have HSW : Hid (∀ W, Keep NoF w W → Calls Tryz.prog 9 #[.agg #[.int .i64 M.W, .slice va M.V.length cv, .slice ra M.R.length cr]] W (FewPostD W)) := Lib.hid fun W k => smallMt_any (hM.keep k)
  have HAW : Hid (∀ W, Keep NoF w W → Calls Tryz.prog 10 #[] W fun e w' => e = .returned (.bool true) ∧ Keep NoF W w') := Lib.hid fun W k => awakeMt_any W (hT.1.keep0 k) (hT.2.keep0 k)
  have HFm := Lib.hid fun W (k : Keep NoF w W) => mtFormat_any S a f c ca cf cc W (hS.keep k) (hM.keep k) (hT.1.keep0 k) (hT.2.keep0 k)
  have HRf := Lib.hid fun W (k : Keep NoF w W) => rmtFormat_any S a f c ca cf cc W (hS.keep k) (hM.keep k)
  clear hS hT hM
  generalize formatM S M = q at *
  obtain ⟨t, x⟩ := q
  simp only at HRf HFm
  generalize txt t = st at *
  have hst : (st.toList == st.toList) = true := by simp
  have hxx : (x == x) = true := by simp
  go_enter Tryz.func3, Tryz.ntmps3
  go_upto_region 1 with (fail)
  generalize (w.alloc (.cells #[.slice a S.A.length ca, .slice f S.F.length cf, .slice c S.C.length cc] 24)).alloc (.cells #[.int .i64 M.W, .slice va M.V.length cv, .slice ra M.R.length cr] 28) = W1 at *
  have s0 : W1.cell? ⟨w.heap.size, 0, none⟩ = some (.slice a S.A.length ca) := HP0.out.s.cell 0
  have s1 : W1.cell? ⟨w.heap.size, 1, none⟩ = some (.slice f S.F.length cf) := HP0.out.s.cell 1
  have s2 : W1.cell? ⟨w.heap.size, 2, none⟩ = some (.slice c S.C.length cc) := HP0.out.s.cell 2
  go_cut [16] from 9 to 17 (fun v16 wc => ∃ d : Bool, v16 = .bool d ∧ Keep NoF W1 wc)
  case first =>
    go_wp2_with (first
      | (go_at_call 8; (with_reducible refine (HFW.out _ HP0.out.k).mono ?_); rintro e w2 ⟨d1, rfl, K2⟩
         have HP2 := Lib.hid (HP0.out.keep K2)
         have m0 : w2.cell? ⟨w.heap.size + 1, 0, none⟩ = some (.int .i64 M.W) := HP2.out.m.cell 0
         have m1 : w2.cell? ⟨w.heap.size + 1, 1, none⟩ = some (.slice va M.V.length cv) := HP2.out.m.cell 1
         have m2 : w2.cell? ⟨w.heap.size + 1, 2, none⟩ = some (.slice ra M.R.length cr) := HP2.out.m.cell 2)
      | (go_at_call 9; (with_reducible refine (HSW.out _ HP2.out.k).mono ?_); rintro e w3 ⟨d3, rfl, K3⟩; have K13 := K2.trans K3 fun _ _ h => h))
    all_goals go_meet
    all_goals first
      | exact ⟨_, rfl, K13⟩
      | exact ⟨_, rfl, K2⟩
  case rest =>
    obtain ⟨d, rfl, K1⟩ := hcut
    have HPc := Lib.hid (HP0.out.keep K1)
    clear s0 s1 s2
    have s0 : wc.cell? ⟨w.heap.size, 0, none⟩ = some (.slice a S.A.length ca) := HPc.out.s.cell 0
    have s1 : wc.cell? ⟨w.heap.size, 1, none⟩ = some (.slice f S.F.length cf) := HPc.out.s.cell 1
    have s2 : wc.cell? ⟨w.heap.size, 2, none⟩ = some (.slice c S.C.length cc) := HPc.out.s.cell 2
    have m0 : wc.cell? ⟨w.heap.size + 1, 0, none⟩ = some (.int .i64 M.W) := HPc.out.m.cell 0
    have m1 : wc.cell? ⟨w.heap.size + 1, 1, none⟩ = some (.slice va M.V.length cv) := HPc.out.m.cell 1
    have m2 : wc.cell? ⟨w.heap.size + 1, 2, none⟩ = some (.slice ra M.R.length cr) := HPc.out.m.cell 2
    cases d with
    | true =>
      clear HFm HRf
      go_wp2_with (first
        | (go_at_call 10; (with_reducible refine (HAW.out _ HPc.out.k).mono ?_); rintro e w2 ⟨rfl, K2⟩))
      go_ret
      exact ⟨rfl, HPc.out.k.trans K2 fun _ _ h => h⟩
    | false =>
      go_wp2_with (first
        | (go_at_call 11; (with_reducible refine (HFm.out _ HPc.out.k).mono ?_); rintro e w3 ⟨rfl, K3⟩
           have HP3 := Lib.hid (HPc.out.keep K3)
           have q0 : w3.cell? ⟨w.heap.size, 0, none⟩ = some (.slice a S.A.length ca) := HP3.out.s.cell 0
           have q1 : w3.cell? ⟨w.heap.size, 1, none⟩ = some (.slice f S.F.length cf) := HP3.out.s.cell 1
           have q2 : w3.cell? ⟨w.heap.size, 2, none⟩ = some (.slice c S.C.length cc) := HP3.out.s.cell 2
           have p0 : w3.cell? ⟨w.heap.size + 1, 0, none⟩ = some (.int .i64 M.W) := HP3.out.m.cell 0
           have p1 : w3.cell? ⟨w.heap.size + 1, 1, none⟩ = some (.slice va M.V.length cv) := HP3.out.m.cell 1
           have p2 : w3.cell? ⟨w.heap.size + 1, 2, none⟩ = some (.slice ra M.R.length cr) := HP3.out.m.cell 2)
        | (go_at_call 12; (with_reducible refine (HRf.out _ HP3.out.k).mono ?_); rintro e w4 ⟨rfl, K4⟩; have HK4 := Lib.hid (HP3.out.k.trans K4 fun _ _ h => h))
        | (go_at_call 10; (with_reducible refine (HAW.out _ HK4.out).mono ?_); rintro e w5 ⟨rfl, K5⟩))
      go_ret
      exact ⟨rfl, HK4.out.trans K5 fun _ _ h => h⟩
end
end Go.Proofs.YtmnhgeggojgflaaGreatDoor
