/- The checker: Holds returns the set of the last node. No condition. -/
import Derived.Test.YtmjdbbfoihadoaaEvM
set_option linter.unusedVariables false
set_option linter.unusedSimpArgs false
namespace Go.Proofs.Ytmjdbbfoihadoaa
open Go.RowKit
open Ev
open Fm (Nd checkE compactL)
attribute [local go_sem] Oper.semAt_some
section
set_option maxRecDepth 100000
set_option maxHeartbeats 2000000
variable {w : World} {M : Md} {va ra : Option Addr} {cv cr : Nat} {rs : List (Option Addr × Nat)}
theorem ckHolds_bad (f : List Nd) (A : Option Addr) (c : Nat) (hM : MdR w M va cv ra cr rs) (hll : f.length ≤ 9223372036854775807) (hrd : Rd w (.slice A f.length c) 6 f.length (fmC f)) (h : requestE M f ≠ 0) :
    Calls Try.prog 13 #[.agg #[.int .i64 M.W, .slice va M.V.length cv, .slice ra M.R.length cr], .slice A f.length c] w fun e w' => e = .returned (.tuple #[.int .u64 0, .int .i64 (requestE M f)]) ∧ Keep NoF w w' := by
  have k0 : Keep NoF w (w.alloc (.cells #[.int .i64 M.W, .slice va M.V.length cv, .slice ra M.R.length cr] 25)) := (Keep.refl _ _).alloc _
  have HS := Lib.hid (ckSets_bad f A c (hM.keep k0) hll (hrd.kept k0 fun _ _ h => h) h)
  have hx : (requestE M f != 0) = true := by simpa using h
  clear h hM hrd
  generalize requestE M f = x at *
  generalize f.length = fl at *
  go_enter Try.func13, Try.ntmps13
  go_wp2_with (first
    | (go_at_call 8; (with_reducible refine HS.out.mono ?_); rintro e w1 ⟨rfl, K1⟩))
  refine bodyPost_ret (v := .tuple #[.int .u64 0, .int .i64 x]) (by simp [results, Try.results13, go_sem]) rfl ?_
  exact ⟨rfl, k0.trans K1 fun _ _ h => h⟩
theorem ckHolds_ok (f : List Nd) (A : Option Addr) (c : Nat) (hM : MdR w M va cv ra cr rs) (hrd : Rd w (.slice A f.length c) 6 f.length (fmC f)) (h : requestE M f = 0) :
    Calls Try.prog 13 #[.agg #[.int .i64 M.W, .slice va M.V.length cv, .slice ra M.R.length cr], .slice A f.length c] w fun e w' => e = .returned (.tuple #[.int .u64 (((setsN M f f.length).getD (f.length - 1) (0, false)).1 : Nat), .int .i64 0]) ∧ Keep NoF w w' := by
  obtain ⟨_, h2, _, _⟩ := request_zero.1 h
  obtain ⟨hp, h200, _⟩ := Fm.checkE_zero.1 h2
  have k0 : Keep NoF w (w.alloc (.cells #[.int .i64 M.W, .slice va M.V.length cv, .slice ra M.R.length cr] 25)) := (Keep.refl _ _).alloc _
  have HS := Lib.hid (ckSets_ok f A c (hM.keep k0) (hrd.kept k0 fun _ _ h => h) h)
  have hat : ((u6 ((setsN M f f.length).map (·.1))).toArray)[f.length - 1]? = some (.int .u64 (((setsN M f f.length).getD (f.length - 1) (0, false)).1 : Nat)) := by
    have hl := setsN_len M f f.length
    rw [List.getElem?_toArray]
    unfold u6
    rw [List.getElem?_map, List.getElem?_map, List.getD_eq_getElem?_getD, List.getElem?_eq_getElem (by omega)]
    rfl
  have HAT := Lib.hid hat
  obtain ⟨t, ht⟩ : ∃ t : Nat, f.length - 1 = t := ⟨_, rfl⟩
  have hlt : f.length = t + 1 := by omega
  clear h h2 hM hrd hat
  rw [ht] at HAT ⊢
  generalize ((setsN M f f.length).getD t (0, false)).1 = v at *
  generalize (u6 ((setsN M f f.length).map (·.1))).toArray = arr at *
  generalize f.length = fl at *
  subst hlt
  clear ht
  go_enter Try.func13, Try.ntmps13
  go_wp2_with (first
    | (go_at_call 8; (with_reducible refine HS.out.mono ?_); rintro e w1 ⟨b, rfl, hb, hB, K1⟩; have c1 : w1.cell? ⟨b, t, none⟩ = some (.int .u64 (v : Nat)) := (hB.cell t).trans HAT.out; have n1 : ((t + 1 : Nat) : Int) - 1 = (t : Int) := (by omega); have l1 : (t : Int) < ((t + 1 : Nat) : Int) := (by omega); have l0 : (0 : Int) ≤ (t : Int) := (by omega)))
  refine bodyPost_ret (v := .tuple #[.int .u64 (v : Nat), .int .i64 0]) (by simp [results, Try.results13, go_sem]) rfl ?_
  exact ⟨rfl, k0.trans K1 fun _ _ h => h⟩
end
end Go.Proofs.Ytmjdbbfoihadoaa
