/- Evidence: the small example of the statement TopForged works. No condition. -/
import Derived.Test.YtmjdbbfoihadoaaEwOJ
import Derived.Test.YtmjdbbfoihadoaaEwI
import Derived.Test.YtmjdbbfoihadoaaFmJL
import Derived.Test.YtmjdbbfoihadoaaEvN
set_option linter.unusedVariables false
set_option linter.unusedSimpArgs false
namespace Go.Proofs.Ytmjdbbfoihadoaa
open Go.RowKit
open Ev
open Fm (Nd mk0 mk1 compactL checkE)
attribute [local go_sem] Oper.semAt_some
def exM : Md := ⟨2, [1], [[3, 3]]⟩
def exP : List Nd := mk0 3 0 0 0
def exF : List Nd := mk1 9 0 0 0 exP
theorem exF_eq : exF = [⟨3, 0, 0, 0, 0, 0⟩, ⟨9, 0, 0, 0, 0, 0⟩] := by kernel_rfl
theorem exC_eq : compactL exF = [⟨3, 0, 0, 0, 0, 0⟩, ⟨9, 0, 0, 0, 0, 0⟩] := by kernel_rfl
theorem exR_eq : requestE exM exF = 0 := by kernel_rfl
theorem exS_eq : (setsN exM [⟨3, 0, 0, 0, 0, 0⟩, ⟨9, 0, 0, 0, 0, 0⟩] 2) = [(1, true), (0, true)] := by kernel_rfl
def exE : List Rs := [⟨1, 0, false, [], 0⟩, ⟨0, 1, false, [0], 0⟩]
theorem exN_eq : (exN exM [⟨3, 0, 0, 0, 0, 0⟩, ⟨9, 0, 0, 0, 0, 0⟩] [1, 0] 2 0 1 ⟨[], fun _ => none⟩).1 = 1 ∧ (exN exM [⟨3, 0, 0, 0, 0, 0⟩, ⟨9, 0, 0, 0, 0, 0⟩] [1, 0] 2 0 1 ⟨[], fun _ => none⟩).2.steps = exE := ⟨by kernel_rfl, by kernel_rfl⟩
theorem exE_eq : evE exM [⟨3, 0, 0, 0, 0, 0⟩, ⟨9, 0, 0, 0, 0, 0⟩] exE = 0 := by kernel_rfl
theorem exS_L : setsL exM exF = [1, 0] := by
  unfold setsL
  rw [exF_eq, show ([⟨3, 0, 0, 0, 0, 0⟩, ⟨9, 0, 0, 0, 0, 0⟩] : List Nd).length = 2 from rfl, exS_eq]
  rfl
theorem exR_N : exN exM (compactL exF) (setsL exM exF) ((compactL exF).length) 0 ((compactL exF).length - 1) ⟨[], fun _ => none⟩ = exN exM [⟨3, 0, 0, 0, 0, 0⟩, ⟨9, 0, 0, 0, 0, 0⟩] [1, 0] 2 0 1 ⟨[], fun _ => none⟩ := by
  rw [exC_eq, exS_L]
  rfl
theorem ex_md {w W : World} (h0 : Bk W w.heap.size 38 #[.int .u64 1]) (h1 : Bk W (w.heap.size + 1) 38 #[.int .u64 3, .int .u64 3]) (h2 : Bk W (w.heap.size + 1 + 1) 22 #[.slice (some ⟨w.heap.size + 1, 0, none⟩) 2 2]) :
    MdR W exM (some ⟨w.heap.size, 0, none⟩) 1 (some ⟨w.heap.size + 1 + 1, 0, none⟩) 1 [(some ⟨w.heap.size + 1, 0, none⟩, 2)] := by
  refine ⟨rd_of_bk (n := 1) (xs := u6 [1]) h0 rfl, rd_of_bk (n := 1) (xs := rowsV [[3, 3]] [(some ⟨w.heap.size + 1, 0, none⟩, 2)]) h2 rfl, rfl, fun k r p hk hp => ?_, ⟨by decide, by decide⟩, by decide, by decide, by decide⟩
  cases k with
  | zero =>
    obtain rfl : [3, 3] = r := by simpa [exM] using hk
    obtain rfl : (some ⟨w.heap.size + 1, 0, none⟩, 2) = p := by simpa using hp
    exact rd_of_bk (n := 2) (xs := u6 [3, 3]) h1 rfl
  | succ k => simp [exM] at hk
theorem ex_cm (b : Nat) (cA : Option Addr) (cc : Nat) (zA : Option Addr) (zc : Nat) (va ra : Option Addr) (cv cr : Nat) (rs : List (Option Addr × Nat)) : CmOk exM b va ra cv cr rs (compactL exF) cA cc (setsL exM exF) zA zc := by
  intro k m hm h13
  exfalso
  rw [exC_eq] at hm
  match k, hm with
  | 0, hm => obtain rfl := Option.some.inj hm; exact absurd h13 (by decide)
  | 1, hm => obtain rfl := Option.some.inj hm; exact absurd h13 (by decide)
  | k + 2, hm => simp at hm
theorem exF_at : ((setsN exM exF exF.length).getD (exF.length - 1) (0, false)).1 = 0 := by
  rw [exF_eq]
  show (List.getD (setsN exM [⟨3, 0, 0, 0, 0, 0⟩, ⟨9, 0, 0, 0, 0, 0⟩] 2) 1 (0, false)).1 = 0
  rw [exS_eq]
  rfl
section
set_option maxRecDepth 100000
set_option maxHeartbeats 2000000
abbrev exV (n : Nat) : Value := .agg #[.int .i64 2, .slice (some ⟨n, 0, none⟩) 1 1, .slice (some ⟨n + 1 + 1, 0, none⟩) 1 1]
theorem ex_explain {n : Nat} {W : World} (hM : MdR W exM (some ⟨n, 0, none⟩) 1 (some ⟨n + 1 + 1, 0, none⟩) 1 [(some ⟨n + 1, 0, none⟩, 2)]) (A : Option Addr) (c : Nat) (hrd : Rd W (.slice A exF.length c) 6 exF.length (fmC exF)) :
    Calls Try.prog 12 #[exV n, .int .i64 0, .slice A exF.length c] W fun e w' => ∃ sA sc ps, e = .returned (.tuple #[.agg #[.slice sA 2 sc], .bool false, .int .i64 0]) ∧ StR w' W.heap.size exE sA sc ps ∧ Keep NoF W w' := by
  have h := evExplain_ok exF A c 0 hM hrd exR_eq (by decide) (fun b cA cc zA zc => ex_cm b cA cc zA zc _ _ _ _ _) _ exR_N
  refine h.mono fun e w' ⟨sA, sc, ps, he, hS, hk, _⟩ => ⟨sA, sc, ps, ?_, ?_, hk⟩
  · rw [he, exN_eq.1, exN_eq.2]
    rfl
  · rw [exN_eq.2] at hS
    exact hS
theorem ex_check {n : Nat} {W : World} (hM : MdR W exM (some ⟨n, 0, none⟩) 1 (some ⟨n + 1 + 1, 0, none⟩) 1 [(some ⟨n + 1, 0, none⟩, 2)]) (A : Option Addr) (c : Nat) (hrd : Rd W (.slice A exF.length c) 6 exF.length (fmC exF))
    (base : Nat) (sA : Option Addr) (sc : Nat) (ps : List (Option Addr × Nat)) (hS : StR W base exE sA sc ps) :
    Calls Try.prog 9 #[exV n, .slice A exF.length c, .agg #[.slice sA 2 sc]] W fun e w' => e = .returned (.int .i64 0) ∧ Keep NoF W w' := by
  have h := evCheck_ok exF A c hM hrd exR_eq exE sA sc ps (hS.evd (by decide) (by decide) (by decide))
  rw [exC_eq, exE_eq] at h
  exact h
theorem ex_holds {n : Nat} {W : World} (hM : MdR W exM (some ⟨n, 0, none⟩) 1 (some ⟨n + 1 + 1, 0, none⟩) 1 [(some ⟨n + 1, 0, none⟩, 2)]) (A : Option Addr) (c : Nat) (hrd : Rd W (.slice A exF.length c) 6 exF.length (fmC exF)) :
    Calls Try.prog 13 #[exV n, .slice A exF.length c] W fun e w' => e = .returned (.tuple #[.int .u64 0, .int .i64 0]) ∧ Keep NoF W w' := by
  have h := ckHolds_ok exF A c hM hrd exR_eq
  rw [exF_at] at h
  exact h
theorem tfawake_any (w : World) : Calls Try.prog 4 #[] w fun e w' => e = .returned (.bool true) ∧ Keep NoF w w' := by
  have HF : Hid (∀ W, Calls Try.prog 11 #[.int .i64 0] W (FmPost W exP)) := Lib.hid fun W => c_Fact 0 W
  have HN : Hid (∀ W A c, Rd W (.slice A exP.length c) 6 exP.length (fmC exP) → Calls Try.prog 10 #[.int .i64 0, .slice A exP.length c] W (FmPost W exF)) := Lib.hid fun W A c h => c_Know 0 (by decide) h
  have hk0 : Keep NoF w ((((w.alloc (.cells #[.int .u64 1] 38)).alloc (.cells #[.int .u64 3, .int .u64 3] 38)).alloc (.cells #[.slice (some ⟨w.heap.size + 1, 0, none⟩) 2 2] 22)).alloc (.cells #[.int .i64 2, .slice (some ⟨w.heap.size, 0, none⟩) 1 1, .slice (some ⟨w.heap.size + 1 + 1, 0, none⟩) 1 1] 25)) := ((((Keep.refl _ _).alloc _).alloc _).alloc _).alloc _
  have q0 := (((Bk.new w 38 #[.int .u64 1]).alloc (.cells #[.int .u64 3, .int .u64 3] 38)).alloc (.cells #[.slice (some ⟨w.heap.size + 1, 0, none⟩) 2 2] 22)).alloc (.cells #[.int .i64 2, .slice (some ⟨w.heap.size, 0, none⟩) 1 1, .slice (some ⟨w.heap.size + 1 + 1, 0, none⟩) 1 1] 25)
  have q1 := ((Bk.new (w.alloc (.cells #[.int .u64 1] 38)) 38 #[.int .u64 3, .int .u64 3]).alloc (.cells #[.slice (some ⟨w.heap.size + 1, 0, none⟩) 2 2] 22)).alloc (.cells #[.int .i64 2, .slice (some ⟨w.heap.size, 0, none⟩) 1 1, .slice (some ⟨w.heap.size + 1 + 1, 0, none⟩) 1 1] 25)
  have q2 := (Bk.new ((w.alloc (.cells #[.int .u64 1] 38)).alloc (.cells #[.int .u64 3, .int .u64 3] 38)) 22 #[.slice (some ⟨w.heap.size + 1, 0, none⟩) 2 2]).alloc (.cells #[.int .i64 2, .slice (some ⟨w.heap.size, 0, none⟩) 1 1, .slice (some ⟨w.heap.size + 1 + 1, 0, none⟩) 1 1] 25)
  have q3 := Bk.new (((w.alloc (.cells #[.int .u64 1] 38)).alloc (.cells #[.int .u64 3, .int .u64 3] 38)).alloc (.cells #[.slice (some ⟨w.heap.size + 1, 0, none⟩) 2 2] 22)) 25 #[.int .i64 2, .slice (some ⟨w.heap.size, 0, none⟩) 1 1, .slice (some ⟨w.heap.size + 1 + 1, 0, none⟩) 1 1]
  simp only [World.size_alloc] at q1 q2 q3
  have HM := Lib.hid (ex_md q0 q1 q2)
  have HK := Lib.hid hk0
  have HQ := Lib.hid q3
  clear q0 q1 q2 q3 hk0
  go_enter Try.func4, Try.ntmps4
  go_upto_region 2 with (fail)
  generalize (((w.alloc (.cells #[.int .u64 1] 38)).alloc (.cells #[.int .u64 3, .int .u64 3] 38)).alloc (.cells #[.slice (some ⟨w.heap.size + 1, 0, none⟩) 2 2] 22)).alloc (.cells #[.int .i64 2, .slice (some ⟨w.heap.size, 0, none⟩) 1 1, .slice (some ⟨w.heap.size + 1 + 1, 0, none⟩) 1 1] 25) = W at *
  have HQC : Hid (∀ W', Keep NoF W W' → W'.cell? ⟨w.heap.size + 1 + 1 + 1, 0, none⟩ = some (.int .i64 2) ∧ W'.cell? ⟨w.heap.size + 1 + 1 + 1, 1, none⟩ = some (.slice (some ⟨w.heap.size, 0, none⟩) 1 1) ∧ W'.cell? ⟨w.heap.size + 1 + 1 + 1, 2, none⟩ = some (.slice (some ⟨w.heap.size + 1 + 1, 0, none⟩) 1 1)) :=
    Lib.hid fun W' k => ⟨k.cellv (HQ.out.cell 0) fun h => h, k.cellv (HQ.out.cell 1) fun h => h, k.cellv (HQ.out.cell 2) fun h => h⟩
  go_wp2_with (first
    | (go_at_call 11; (with_reducible refine (HF.out _).mono ?_); rintro e w2 ⟨A2, c2, rfl, R2, K2, -⟩)
    | (go_at_call 10; (with_reducible refine (HN.out _ _ _ R2).mono ?_); rintro e w3 ⟨A3, c3, rfl, R3, K3, -⟩
       have K13 := K2.trans K3 fun _ _ h => h
       have HR3 := Lib.hid R3
       obtain ⟨m0, m1, m2⟩ := HQC.out _ K13)
    | (go_at_call 12; (with_reducible refine (ex_explain (HM.out.keep K13) _ _ HR3.out).mono ?_); rintro e w4 ⟨sA, sc, ps, rfl, hS, K4⟩
       have HS := Lib.hid hS
       have K14 := K13.trans K4 fun _ _ h => h
       have K4a := K4.alloc (.cells #[.slice sA 2 sc] 29)
       have K14a := K14.alloc (.cells #[.slice sA 2 sc] 29)
       obtain ⟨n0, n1, n2⟩ := HQC.out _ K14
       have hlt4 := (HQ.out.keep K14 fun h => h).lt)
    | (go_at_call 13; (with_reducible refine (ex_holds (HM.out.keep K14a) _ _ (HR3.out.kept K4a fun _ _ h => h)).mono ?_); rintro e w5 ⟨rfl, K5⟩
       obtain ⟨p0, p1, p2⟩ := HQC.out _ (K14a.trans K5 fun _ _ h => h)
       have s0 : w5.cell? ⟨w4.heap.size, 0, none⟩ = some (.slice sA 2 sc) := ((Bk.new w4 29 #[.slice sA 2 sc]).keep K5 fun h => h).cell 0)
    | (go_at_call 9; (with_reducible refine (ex_check (HM.out.keep (K14a.trans K5 fun _ _ h => h)) _ _ ((HR3.out.kept K4a fun _ _ h => h).kept K5 fun _ _ h => h) w3.heap.size _ _ ps ((HS.out.keep ((Keep.refl _ _).alloc _)).keep K5)).mono ?_); rintro e w6 ⟨rfl, K6⟩))
  go_ret
  exact ⟨rfl, (HK.out.trans (K14a.trans K5 fun _ _ h => h) fun _ _ h => h).trans K6 fun _ _ h => h⟩
end
end Go.Proofs.Ytmjdbbfoihadoaa
