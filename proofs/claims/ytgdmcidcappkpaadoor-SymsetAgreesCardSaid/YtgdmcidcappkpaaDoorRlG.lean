/- What package relation's Reach does on a valid relation. Conditions: the library's table of trailing zeros lies in its variable; the steps end. -/
import Derived.Test.YtgdmcidcappkpaaDoorRlF
set_option linter.unusedVariables false
set_option linter.unusedSimpArgs false
namespace Go.Proofs.YtgdmcidcappkpaaDoor
open Go.RowKit Go.Shelf
open Dd (imN prN boN cvN enc)
attribute [local go_sem] Oper.semAt_some
section
set_option maxRecDepth 100000
set_option maxHeartbeats 1000000
theorem fold_lt {N : Nat} {R : List Nat} (hR : ∀ k, R.getD k 0 < 2 ^ N) : ∀ (l : List Nat) (o : Nat), o < 2 ^ N → l.foldl (fun o w => o ||| R.getD w 0) o < 2 ^ N
  | [], o, h => h
  | x :: l, o, h => fold_lt hR l _ (Nat.or_lt_two_pow h (hR x))
theorem mapN_lt {R : List Nat} (hR : Ok R) (s : Nat) : mapN R s < 2 ^ R.length := fold_lt hR.lt _ 0 (Nat.two_pow_pos _)
theorem mem_len_lt {R : List Nat} {s : Nat} (hs : s < 2 ^ R.length) : ∀ x ∈ mem s, x < R.length := fun x hx => bit_small hs (mem_lt hx).2
def rsN (R : List Nat) (S : Nat) : Nat := S ||| mapN R S
theorem Reach_any (R : List Nat) (hR : Ok R) (s : Nat) (hs : s < 2 ^ R.length) (m : Nat) (hm : rsN R (iterN (rsN R) m (mapN R s)) = iterN (rsN R) m (mapN R s)) (A : Option Addr) (c : Nat) (w : World) (hrd : Rd w (.slice A R.length c) 1 R.length (n64 R)) (ht : Tab w) :
    Calls Tryd.prog 11 #[.slice A R.length c, .int .u64 s] w fun e w' => e = .returned (.int .u64 (iterN (rsN R) m (mapN R s))) ∧ Keep NoF w w' := by
  have hn := hR.1
  have h64 : 2 ^ R.length ≤ 2 ^ 64 := Nat.pow_le_pow_right (by omega) hn
  have HC := Lib.hid (rlCheck_any R hR A c w hrd)
  have HA := Lib.hid (all_any R.length hn)
  have HM : Hid (∀ (S : Nat) W, S < 2 ^ R.length → Keep NoF w W → Calls Tryd.prog 38 #[.slice A R.length c, .int .u64 S] W fun e w' => e = .returned (.int .u64 (mapN R S)) ∧ Keep NoF W w') := Lib.hid fun S W hS hk =>
    mapped_any R hR.lt64 S (by omega) (mem_len_lt hS) A c W (hrd.kept hk fun _ _ h => h) (ht.keep0 hk)
  have hall : bits .and .u64 (s : Int) ((2 ^ R.length - 1 : Nat) : Int) = (s : Int) := by
    rw [bits_and_u64_nat _ _ (by omega) (by have := @all_sub R.length; omega), Nat.and_two_pow_sub_one_of_lt_two_pow hs]
  have HALL := Lib.hid hall
  have HLT := Lib.hid fun S => mapN_lt hR S
  have HOR : Hid (∀ S : Nat, S < 2 ^ R.length → bits .or .u64 (S : Int) ((mapN R S : Nat) : Int) = ((rsN R S : Nat) : Int)) := Lib.hid fun S hS => by
    have := mapN_lt hR S
    rw [bits_or_u64_nat _ _ (by omega) (by omega)]; rfl
  have HRS : Hid (∀ S, S < 2 ^ R.length → S ≤ rsN R S ∧ rsN R S < 2 ^ R.length) := Lib.hid fun S hS => ⟨Nat.left_le_or, Nat.or_lt_two_pow hS (mapN_lt hR S)⟩
  have hN0 : 2 ^ R.length - 1 = 2 ^ R.length - 1 := rfl
  have HFX : Hid (∀ j, rsN R (iterN (rsN R) j (mapN R s)) = iterN (rsN R) j (mapN R s) → iterN (rsN R) j (mapN R s) = iterN (rsN R) m (mapN R s)) := Lib.hid fun j hj => by
    by_cases h : j ≤ m
    · exact (iterN_end hj h).symm
    · exact iterN_end hm (by omega)
  have HIT : Hid (∀ j, iterN (rsN R) (j + 1) (mapN R s) = rsN R (iterN (rsN R) j (mapN R s))) := Lib.hid fun _ => rfl
  have hm0 := mapN_lt hR s
  have HI0 : Hid (iterN (rsN R) 0 (mapN R s) = mapN R s) := Lib.hid rfl
  clear hall hm
  generalize hres : iterN (rsN R) m (mapN R s) = res at *
  generalize hP : 2 ^ R.length = P at *
  generalize hN : P - 1 = N at *
  have HF2 := Lib.hid hm0
  clear hm0 hres hP hN hN0 h64
  go_enter Tryd.func11, Tryd.ntmps11
  go_upto_region 4 with (first
    | (go_at_call 37; (with_reducible refine HC.out.mono ?_); rintro e w' ⟨rfl, hw'⟩; obtain rfl := hw'.symm)
    | (go_at_call 39; (with_reducible refine (HA.out _).mono ?_); rintro e w' ⟨rfl, hw'⟩; obtain rfl := hw'.symm)
    | (go_at_call 38; rw [HALL.out]; (with_reducible refine (HM.out _ _ hs (Keep.refl _ _)).mono ?_); rintro e w1 ⟨rfl, K1⟩))
  go_wp2
  go_loopw [5] (fun o wr => ∃ j x : Nat, o = .int .u64 x ∧ Hid (x = iterN (rsN R) j (mapN R s)) ∧ x < P ∧ Keep NoF w wr) (fun o _ => P - (intOf o).toNat)
  case atStart => exact ⟨0, _, rfl, Lib.hid HI0.out.symm, HF2.out, K1⟩
  case round =>
    obtain ⟨j, x, rfl, hx, hxP, hk⟩ := hrel
    have HOX := Lib.hid (HOR.out x hxP)
    have hr := HRS.out x hxP
    have HX1 : Hid (rsN R x = iterN (rsN R) (j + 1) (mapN R s)) := Lib.hid (by rw [HIT.out, hx.out])
    have HFF : Hid (rsN R x = x → x = res) := Lib.hid fun e => by
      have := HFX.out j
      rw [← hx.out] at this
      exact this e
    clear hx
    have HMX := Lib.hid (HM.out x wr hxP hk)
    generalize rsN R x = y at *
    generalize mapN R x = z at *
    by_cases hxy : y = x
    · have hres := Lib.hid (HFF.out hxy)
      have he : (bits BinOp.or IntKind.u64 (x : Int) (z : Int) == (x : Int)) = true := by rw [HOX.out, hxy]; simp
      clear hxy
      go_wp2_with (go_at_call 38; (with_reducible refine HMX.out.mono ?_); rintro e w2 ⟨rfl, K2⟩)
      go_ret
      exact ⟨by rw [hres.out]; rfl, hk.trans K2 fun _ _ h => h⟩
    · have he : (bits BinOp.or IntKind.u64 (x : Int) (z : Int) == (x : Int)) = false := by rw [HOX.out]; simp; omega
      go_wp2_with (go_at_call 38; (with_reducible refine HMX.out.mono ?_); rintro e w2 ⟨rfl, K2⟩)
      go_roundw
      case rel => exact ⟨j + 1, y, by rw [HOX.out], HX1, hr.2, hk.trans K2 fun _ _ h => h⟩
      case measure => rw [HOX.out]; simp only [intOf]; omega
end
end Go.Proofs.YtgdmcidcappkpaaDoor
