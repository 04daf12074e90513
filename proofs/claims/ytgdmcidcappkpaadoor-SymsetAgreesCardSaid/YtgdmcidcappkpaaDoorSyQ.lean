/- Small functions of the laws: is, the reference's Same on lists of sets, Few. No condition. -/
import Derived.Test.YtgdmcidcappkpaaDoorSyP
import Derived.Test.YtgdmcidcappkpaaDoorSmall
import Derived.RegionTactic
set_option linter.unusedVariables false
set_option linter.unusedSimpArgs false
namespace Go.Proofs.YtgdmcidcappkpaaDoor
open Go.RowKit
open Dd (Rn rat ofN toN checkErr den lo var Within Valid supp canon setF relF memN)

section
set_option maxRecDepth 100000
set_option maxHeartbeats 2000000
theorem is_ok (k : Nat) (hk : k ≤ 6) (S T : Nat) (hS : S < 2 ^ 2 ^ k) (V : Nat) (hV : V = 2 * k) (A1 : Option Addr) (n1 c1 r1 : Nat) (w : World) (D1 : IsD w V (setF k S 0) A1 n1 c1 r1) : Calls Tryd.prog 21 #[.agg #[.int .i64 V, .slice A1 n1 c1, .int .i64 r1], .int .i64 0, .int .u64 T] w fun e w' => e = .returned (.bool (decide (S = T))) ∧ Keep NoF w w' := by
  have hk0 : Keep NoF w (w.alloc (.cells #[.int .i64 V, .slice A1 n1 c1, .int .i64 r1] 26)) := (Keep.refl _ _).alloc _
  have hm : Calls Tryd.prog 8 #[.agg #[.int .i64 V, .slice A1 n1 c1, .int .i64 r1]] (w.alloc (.cells #[.int .i64 V, .slice A1 n1 c1, .int .i64 r1] 26)) fun e w' => e = .returned (.tuple #[.int .u64 (memN k (setF k S 0) (2 ^ k)), .int .i64 0]) ∧ Keep NoF (w.alloc (.cells #[.int .i64 V, .slice A1 n1 c1, .int .i64 r1] 26)) w' := by
    subst hV
    exact Members_ok k hk (D1.keep hk0) (setF_noOdd k S)
  rw [Dd.memN_set hS] at hm
  have hd : ((S : Int) == (T : Int)) = decide (S = T) := by
    by_cases h : S = T
    · simp [h]
    · rw [decide_eq_false h, beq_eq_false_iff_ne]; omega
  generalize decide (S = T) = b at *
  have HM := Lib.hid hm
  clear hm D1 hV
  go_enter Tryd.func21, Tryd.ntmps21
  go_wp2_with (go_at_call 8; (with_reducible refine HM.out.mono ?_); rintro e w2 ⟨rfl, hk2⟩)
  go_ret
  exact ⟨rfl, hk0.trans hk2 fun _ _ h => h⟩
theorem Same2_any (l : List Nat) (A B : Option Addr) (c d : Nat) (w : World) (hl : l.length ≤ 9223372036854775807) (h1 : Rd w (.slice A l.length c) 1 l.length (n64 l)) (h2 : Rd w (.slice B l.length d) 1 l.length (n64 l)) :
    Calls Tryd.prog 16 #[.slice A l.length c, .slice B l.length d] w fun e w' => e = .returned (.bool true) ∧ Keep NoF w w' := by
  go_enter Tryd.func16, Tryd.ntmps16
  go_wp2
  go_loopw [5] (fun i wr => ∃ k nq : Nat, i = .int .i64 k ∧ k ≤ l.length ∧ wr = w.drewN nq) (fun i _ => l.length - (intOf i).toNat)
  case atStart => exact ⟨0, 0, rfl, by omega, rfl⟩
  case round =>
    obtain ⟨k, nq0, rfl, hk, rfl⟩ := hrel
    by_cases hlt : k < l.length
    · have hx : l[k]? = some l[k] := List.getElem?_eq_getElem hlt
      obtain ⟨_, hcc, bl, off, rfl, hc⟩ := h1.at_ (by omega)
      obtain ⟨_, hcd, bl2, off2, rfl, hc2⟩ := h2.at_ (by omega)
      have e1 := hc k (.int .u64 (l[k] : Nat)) (by rw [List.getElem?_map, hx]; rfl)
      have e2 := hc2 k (.int .u64 (l[k] : Nat)) (by rw [List.getElem?_map, hx]; rfl)
      have hi0 : (0 : Int) ≤ (k : Int) := by omega
      have hi1 : (k : Int) < (l.length : Int) := by omega
      clear hx hc hc2
      generalize l[k] = x at *
      have ex : ((x : Int) != (x : Int)) = false := by simp
      go_wp2
      go_quiet (fail)
      go_wp2
      go_roundw
      case rel => exact ⟨k + 1, nq0 + nq, by go_num, by omega, rfl⟩
      case measure => simp only [intOf]; omega
    · obtain rfl : k = l.length := by omega
      go_wp2
      go_ret
      exact ⟨rfl, (Keep.refl _ _).drewN _⟩
/-- Small, with few variables (or a number that is not allowed). -/
def few12 (d : Dg) : Bool := decide (d.R.length ≤ 60) && (decide (d.V ≤ 10) || decide (24 < d.V))
end
end Go.Proofs.YtgdmcidcappkpaaDoor
