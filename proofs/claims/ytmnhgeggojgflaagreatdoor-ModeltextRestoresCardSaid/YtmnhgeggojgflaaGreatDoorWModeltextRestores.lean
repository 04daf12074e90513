/- The law ModeltextRestores answers true. Conditions: the variables lie as they are read. -/
import Derived.Test.YtmnhgeggojgflaaGreatDoorMtX
set_option linter.unusedVariables false
set_option linter.unusedSimpArgs false
namespace Go.Proofs.YtmnhgeggojgflaaGreatDoor
open Go.RowKit
open Mt
open Ev (Md Okm modelE)
attribute [local go_sem] Oper.semAt_some
section
set_option maxRecDepth 100000
set_option maxHeartbeats 4000000
variable {M : Md} {va ra : Option Addr} {cv cr : Nat} {rs : List (Option Addr × Nat)}
theorem parse_back {S : Sg} {a f c : Option Addr} {ca cf cc : Nat} {t : List UInt8} {w : World} {M : Md} (h : parseM S t = (M, 0, 0)) (hS : SigR w S a ca f cf c cc) (hT : Tab w) (hU : Ws.Tab w) :
    Calls Tryz.prog 13 #[.agg #[.slice a S.A.length ca, .slice f S.F.length cf, .slice c S.C.length cc], .string (txt t)] w fun e w' => ∃ (va : Option Addr) (cv : Nat) (ra : Option Addr) (cr : Nat) (rs : List (Option Addr × Nat)), e = .returned (.tuple #[.agg #[.int .i64 M.W, .slice va M.V.length cv, .slice ra M.R.length cr], .int .i64 0, .int .i64 0]) ∧ MdR w' M va cv ra cr rs ∧ Keep NoF w w' := by
  have h1 := mtParse_any S a f c ca cf cc (txt t) w hS hT hU
  rw [data_txt, h] at h1
  refine Calls.mono h1 ?_
  rintro e w' ⟨va, cv, ra, cr, rs, rfl, hM, hk⟩
  exact ⟨va, cv, ra, cr, rs, rfl, hM, hk⟩
/-- What Format answers: no text, or a text that is read as the same model. -/
theorem format_law (S : Sg) (M : Md) (hu : Ev.U64 M) : ((formatM S M).2 ≠ 0 ∧ (formatM S M).1 = []) ∨ ((formatM S M).2 = 0 ∧ parseM S (formatM S M).1 = (M, 0, 0)) := by
  unfold formatM
  by_cases h1 : checkS S = 0
  · rw [if_neg (fun h => h h1)]
    by_cases h2 : modelE M = 0
    · rw [if_neg (fun h => h h2)]
      by_cases h3 : S.A.length ≠ M.R.length ∨ S.F.length ≠ M.V.length
      · rw [if_pos h3]
        exact .inl ⟨by simp, rfl⟩
      · rw [if_neg h3]
        exact .inr ⟨rfl, restores_law h1 ((Ev.model_zero hu).1 h2) (by omega) (by omega)⟩
    · rw [if_pos h2]
      exact .inl ⟨h2, rfl⟩
  · rw [if_pos h1]
    exact .inl ⟨by simp only; omega, rfl⟩
theorem walk_ModeltextRestores (S : Sg) (a f c : Option Addr) (ca cf cc : Nat) (M : Md) (va ra : Option Addr) (cv cr : Nat) (rs : List (Option Addr × Nat)) (w : World) (hS : SigR w S a ca f cf c cc) (hM : MdR w M va cv ra cr rs) (hT : Tab w ∧ Ws.Tab w) :
    Calls Tryz.prog 7 #[.agg #[.slice a S.A.length ca, .slice f S.F.length cf, .slice c S.C.length cc], .agg #[.int .i64 M.W, .slice va M.V.length cv, .slice ra M.R.length cr]] w fun e w' => e = .returned (.bool true) ∧ Keep NoF w w' := by
  have HP0 := Lib.hid (FB.new w S a ca f cf c cc M va cv ra cr)
  have HM := Lib.hid hM
  have HFW : Hid (∀ W, Keep NoF w W → Calls Tryz.prog 8 #[.agg #[.slice a S.A.length ca, .slice f S.F.length cf, .slice c S.C.length cc]] W (FewPostD W)) := Lib.hid fun W k => fewMt_any S a f c ca cf cc W (hS.keep k)
  have HSW : Hid (∀ W, Keep NoF w W → Calls Tryz.prog 9 #[.agg #[.int .i64 M.W, .slice va M.V.length cv, .slice ra M.R.length cr]] W (FewPostD W)) := Lib.hid fun W k => smallMt_any (hM.keep k)
  have HAW : Hid (∀ W, Keep NoF w W → Calls Tryz.prog 10 #[] W fun e w' => e = .returned (.bool true) ∧ Keep NoF W w') := Lib.hid fun W k => awakeMt_any W (hT.1.keep0 k) (hT.2.keep0 k)
  have hlaw := format_law S M hM.u
  have HFm := Lib.hid fun W (k : Keep NoF w W) => mtFormat_any S a f c ca cf cc W (hS.keep k) (hM.keep k) (hT.1.keep0 k) (hT.2.keep0 k)
  have HPG := Lib.hid fun t (h : parseM S t = (M, 0, 0)) W (k : Keep NoF w W) => parse_back h (hS.keep k) (hT.1.keep0 k) (hT.2.keep0 k)
  clear hS hT hM
  generalize formatM S M = q at *
  obtain ⟨t, x⟩ := q
  simp only at hlaw HFm
  go_enter Tryz.func7, Tryz.ntmps7
  go_upto_region 1 with (fail)
  generalize (w.alloc (.cells #[.slice a S.A.length ca, .slice f S.F.length cf, .slice c S.C.length cc] 24)).alloc (.cells #[.int .i64 M.W, .slice va M.V.length cv, .slice ra M.R.length cr] 28) = W1 at *
  have s0 : W1.cell? ⟨w.heap.size, 0, none⟩ = some (.slice a S.A.length ca) := HP0.out.s.cell 0
  have s1 : W1.cell? ⟨w.heap.size, 1, none⟩ = some (.slice f S.F.length cf) := HP0.out.s.cell 1
  have s2 : W1.cell? ⟨w.heap.size, 2, none⟩ = some (.slice c S.C.length cc) := HP0.out.s.cell 2
  go_cut [17] from 10 to 18 (fun v17 wc => ∃ d : Bool, v17 = .bool d ∧ Keep NoF W1 wc)
  case first =>
    go_wp2_with (first
      | (go_at_call 8; (with_reducible refine (HFW.out _ HP0.out.k).mono ?_); rintro e w2 ⟨d1, rfl, K2⟩
         have HP2 := Lib.hid (HP0.out.keep K2)
         have m0 : w2.cell? ⟨w.heap.size + 1, 0, none⟩ = some (.int .i64 M.W) := HP2.out.m.cell 0
         have m1 : w2.cell? ⟨w.heap.size + 1, 1, none⟩ = some (.slice va M.V.length cv) := HP2.out.m.cell 1
         have m2 : w2.cell? ⟨w.heap.size + 1, 2, none⟩ = some (.slice ra M.R.length cr) := HP2.out.m.cell 2)
      | (go_at_call 9; (with_reducible refine (HSW.out _ HP2.out.k).mono ?_); rintro e w3 ⟨d3, rfl, K3⟩; have K13 := K2.trans K3 fun _ _ h => h))
    all_goals go_meet
    all_goals first
      | exact ⟨_, rfl, K13⟩
      | exact ⟨_, rfl, K2⟩
  case rest =>
    obtain ⟨d, rfl, K1⟩ := hcut
    have HPc := Lib.hid (HP0.out.keep K1)
    clear s0 s1 s2
    have s0 : wc.cell? ⟨w.heap.size, 0, none⟩ = some (.slice a S.A.length ca) := HPc.out.s.cell 0
    have s1 : wc.cell? ⟨w.heap.size, 1, none⟩ = some (.slice f S.F.length cf) := HPc.out.s.cell 1
    have s2 : wc.cell? ⟨w.heap.size, 2, none⟩ = some (.slice c S.C.length cc) := HPc.out.s.cell 2
    have m0 : wc.cell? ⟨w.heap.size + 1, 0, none⟩ = some (.int .i64 M.W) := HPc.out.m.cell 0
    have m1 : wc.cell? ⟨w.heap.size + 1, 1, none⟩ = some (.slice va M.V.length cv) := HPc.out.m.cell 1
    have m2 : wc.cell? ⟨w.heap.size + 1, 2, none⟩ = some (.slice ra M.R.length cr) := HPc.out.m.cell 2
    cases d with
    | true =>
      clear HFm HPG hlaw
      go_wp2_with (first
        | (go_at_call 10; (with_reducible refine (HAW.out _ HPc.out.k).mono ?_); rintro e w2 ⟨rfl, K2⟩))
      go_ret
      exact ⟨rfl, HPc.out.k.trans K2 fun _ _ h => h⟩
    | false =>
      rcases hlaw with ⟨hx, rfl⟩ | ⟨rfl, hp⟩
      · have hx' : (x != 0) = true := by simpa using hx
        have HF2 := Lib.hid (HFm.out _ HPc.out.k)
        rw [show txt [] = ⟨#[]⟩ from rfl] at HF2
        clear HPG HFm hx
        go_wp2_with (first
          | (go_at_call 11; (with_reducible refine HF2.out.mono ?_); rintro e w3 ⟨rfl, K3⟩; have HK3 := Lib.hid (HPc.out.k.trans K3 fun _ _ h => h))
          | (go_at_call 10; (with_reducible refine (HAW.out _ HK3.out).mono ?_); rintro e w2 ⟨rfl, K2⟩))
        go_ret
        exact ⟨rfl, HK3.out.trans K2 fun _ _ h => h⟩
      · have HP := Lib.hid (HPG.out t hp)
        have HF2 := Lib.hid (HFm.out _ HPc.out.k)
        clear HPG HFm hp
        generalize txt t = st at *
        go_upto_region 7 with (first
          | (go_at_call 11; (with_reducible refine HF2.out.mono ?_); rintro e w3 ⟨rfl, K3⟩
             have HP3 := Lib.hid (HPc.out.keep K3)
             have q0 : w3.cell? ⟨w.heap.size, 0, none⟩ = some (.slice a S.A.length ca) := HP3.out.s.cell 0
             have q1 : w3.cell? ⟨w.heap.size, 1, none⟩ = some (.slice f S.F.length cf) := HP3.out.s.cell 1
             have q2 : w3.cell? ⟨w.heap.size, 2, none⟩ = some (.slice c S.C.length cc) := HP3.out.s.cell 2)
          | (go_at_call 13; (with_reducible refine (HP.out _ HP3.out.k).mono ?_); rintro e w4 ⟨vb, cw, rb, cs, rt, rfl, hM4, K4⟩))
        have b5 := Bk.new w4 28 #[.int .i64 M.W, .slice vb M.V.length cw, .slice rb M.R.length cs]
        have k5 : Keep NoF w4 (w4.alloc (.cells #[.int .i64 M.W, .slice vb M.V.length cw, .slice rb M.R.length cs] 28)) := (Keep.refl _ _).alloc _
        have HM5 := Lib.hid (hM4.keep k5)
        have HP5 := Lib.hid ((HP3.out.keep K4).keep k5)
        have HB5 := Lib.hid b5
        clear hM4 b5 k5 K4 q0 q1 q2 s0 s1 s2 m0 m1 m2
        generalize w4.alloc (.cells #[.int .i64 M.W, .slice vb M.V.length cw, .slice rb M.R.length cs] 28) = W5 at *
        have m0 : W5.cell? ⟨w.heap.size + 1, 0, none⟩ = some (.int .i64 M.W) := HP5.out.m.cell 0
        have m1 : W5.cell? ⟨w.heap.size + 1, 1, none⟩ = some (.slice va M.V.length cv) := HP5.out.m.cell 1
        have m2 : W5.cell? ⟨w.heap.size + 1, 2, none⟩ = some (.slice ra M.R.length cr) := HP5.out.m.cell 2
        have n0 : W5.cell? ⟨w4.heap.size, 0, none⟩ = some (.int .i64 M.W) := HB5.out.cell 0
        have n1 : W5.cell? ⟨w4.heap.size, 1, none⟩ = some (.slice vb M.V.length cw) := HB5.out.cell 1
        have n2 : W5.cell? ⟨w4.heap.size, 2, none⟩ = some (.slice rb M.R.length cs) := HB5.out.cell 2
        have HS1 := Lib.hid (moSame_eq (HM.out.keep HP5.out.k) HM5.out)
        have HS2 := Lib.hid fun W (k : Keep NoF W5 W) => rSame_eq (HM.out.keep (HP5.out.k.trans k fun _ _ h => h)) (HM5.out.keep k)
        go_wp2_with (first
          | (go_at_call 20; (with_reducible refine HS1.out.mono ?_); rintro e w6 ⟨rfl, K6⟩
             have HP6 := Lib.hid (HP5.out.keep K6)
             have HB6 := Lib.hid (HB5.out.keep K6 fun h => h)
             have g0 : w6.cell? ⟨w.heap.size + 1, 0, none⟩ = some (.int .i64 M.W) := HP6.out.m.cell 0
             have g1 : w6.cell? ⟨w.heap.size + 1, 1, none⟩ = some (.slice va M.V.length cv) := HP6.out.m.cell 1
             have g2 : w6.cell? ⟨w.heap.size + 1, 2, none⟩ = some (.slice ra M.R.length cr) := HP6.out.m.cell 2
             have h0 : w6.cell? ⟨w4.heap.size, 0, none⟩ = some (.int .i64 M.W) := HB6.out.cell 0
             have h1 : w6.cell? ⟨w4.heap.size, 1, none⟩ = some (.slice vb M.V.length cw) := HB6.out.cell 1
             have h2 : w6.cell? ⟨w4.heap.size, 2, none⟩ = some (.slice rb M.R.length cs) := HB6.out.cell 2)
          | (go_at_call 15; (with_reducible refine (HS2.out _ K6).mono ?_); rintro e w7 ⟨rfl, K7⟩; have HK7 := Lib.hid (HP6.out.k.trans K7 fun _ _ h => h))
          | (go_at_call 10; (with_reducible refine (HAW.out _ HK7.out).mono ?_); rintro e w8 ⟨rfl, K8⟩))
        go_ret
        exact ⟨rfl, HK7.out.trans K8 fun _ _ h => h⟩
end
end Go.Proofs.YtmnhgeggojgflaaGreatDoor
