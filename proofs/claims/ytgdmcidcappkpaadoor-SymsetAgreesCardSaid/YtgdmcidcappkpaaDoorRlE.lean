/- The iterator over the worlds of a set; a loop over it. Conditions: the library's table of trailing zeros lies in its variable. -/
import Derived.Test.YtgdmcidcappkpaaDoorRlB
import Derived.RangeFuncCalls
import Derived.RangeFuncBox
import Derived.RangeFuncLeaves
import Derived.Shelf.Abstract
import Derived.Shelf.RegionOpen
import Derived.OwnWalkIn
import Derived.TacticsInMore
import Derived.LoopNIn
import Derived.LoopIn
set_option linter.unusedVariables false
set_option linter.unusedSimpArgs false
namespace Go.Proofs.YtgdmcidcappkpaaDoor
open Go.RowKit Go.Shelf
attribute [local go_sem] Oper.semAt_some

def leftE (B : Nat) (w : World) : Nat := match w.cell? ⟨B, 0, none⟩ with | some (.int _ x) => (mem x.toNat).length | _ => 0
theorem leftE_eq {w : World} {B s : Nat} {t : TypeId} (h : Bk w B t #[.int .u64 s]) : leftE B w = (mem s).length := by
  have := h.cell 0
  unfold leftE
  rw [this]
  simp
theorem and_lt64 {s t : Nat} (hs : s < 18446744073709551616) : s &&& t < 18446744073709551616 := Nat.lt_of_le_of_lt Nat.and_le_left hs

section
set_option maxRecDepth 100000
set_option maxHeartbeats 1000000
theorem points_any (s : Nat) (w : World) : Calls Tryd.prog 61 #[.int .u64 s] w fun e w' => e = .returned (.func (.func 76) #[] #[.pointer (some ⟨w.heap.size, 0, none⟩)]) ∧ w' = w.alloc (.cells #[.int .u64 s] 31) := by
  go_enter Tryd.func61, Tryd.ntmps61
  go_wp2
  go_ret
  exact ⟨rfl, rfl⟩

theorem points1_in (n l B : Nat) (hn : 1 ≤ n) (s : Nat) (hs : s < 18446744073709551616) (J Jx : List Nat → World → Prop)
    (hJ : ∀ pre W v, J pre W → J pre (W.setCell ⟨B, 0, none⟩ v)) (hT : ∀ pre W, J pre W → Tab W)
    (hY : ∀ pre x W, pre ++ [x] <+: mem s → J pre W → YieldAt Fence.wide (n - 1) Tryd.prog l #[.int .i64 (x : Nat)] W fun e W' =>
      (e = .returned (.bool true) ∧ J (pre ++ [x]) W' ∧ W'.heap[B]? = W.heap[B]?) ∨ (e = .returned (.bool false) ∧ Jx (pre ++ [x]) W'))
    (W : World) (hB : Bk W B 31 #[.int .u64 s]) (h0 : J [] W) :
    CallsIn Fence.wide n Tryd.prog 76 #[.func (.yield l) #[] #[], .pointer (some ⟨B, 0, none⟩)] W fun e W' => (∃ v, e = .returned v) ∧
      (J (mem s) W' ∨ ∃ pre, pre <+: mem s ∧ Jx pre W') := by
  refine callsIn_of_wp Tryd.func76 rfl trivial ?_ rfl
  simp only [Tryd.ntmps76, List.size_toArray, List.length_cons, List.length_nil, Nat.reduceAdd, Nat.reduceSub, Array.replicate_succ, Array.replicate_zero, List.push_toArray, List.append_toArray, List.nil_append, List.cons_append]
  gi_wp2
  gi_loopw [3] (fun _ wr => ∃ (s' : Nat) (pre : List Nat), s' < 18446744073709551616 ∧ mem s = pre ++ mem s' ∧ Bk wr B 31 #[.int .u64 s'] ∧ J pre wr) (fun _ wr => leftE B wr)
  case atStart => exact ⟨s, [], hs, rfl, hB, h0⟩
  case round =>
    obtain ⟨s', pre, hs', hm, hBr, hJr⟩ := hrel
    have HM := Lib.hid hm
    have hc0 : wr.cell? ⟨B, 0, none⟩ = some (.int .u64 s') := hBr.cell 0
    have hf0 : wr.frozen? ⟨B, 0, none⟩ = false := hBr.frozen 0
    clear hm
    by_cases hz : s' = 0
    · subst hz
      gi_wp2
      go_end0
      exact ⟨⟨_, rfl⟩, .inl (by rw [HM.out, mem_zero, List.append_nil]; exact hJr)⟩
    · have e0 : ((s' : Int) != 0) = true := by simp; omega
      have HS := Lib.hid (mem_step hz hs')
      have HT := Lib.hid (tz_any s' hs' wr (hT _ _ hJr))
      have HL := Lib.hid (leftE_eq hBr)
      have HV : Hid (bits BinOp.and IntKind.u64 (s' : Int) ((s' : Int) - 1) = ((s' &&& (s' - 1) : Nat) : Int)) := Lib.hid (by
        rw [show (s' : Int) - 1 = ((s' - 1 : Nat) : Int) by omega, bits_and_u64_nat _ _ hs' (by omega)])
      have hy := hY pre (Lib.ctz 64 s') wr ⟨mem (s' &&& (s' - 1)), by rw [HM.out, HS.out, List.append_assoc]; rfl⟩ hJr
      generalize Lib.ctz 64 s' = c at *
      obtain ⟨fn, tmps, assign, body, hy, hR⟩ := hy
      gi_wp2_with (refine ⟨trivial, ?_⟩; gi_at_call 77; refine (callsIn_wide.2 HT.out).mono ?_; rintro e w' ⟨rfl, hw'⟩; obtain rfl := hw'.symm)
      refine hR.mono ?_
      rintro e W3 (⟨rfl, hJ3, hk3⟩ | ⟨rfl, hJx3⟩)
      · have hB3 := hBr.block hk3
        have hc3 : W3.cell? ⟨B, 0, none⟩ = some (.int .u64 s') := hB3.cell 0
        have hf3 : W3.frozen? ⟨B, 0, none⟩ = false := hB3.frozen 0
        gi_wp2
        go_roundw
        case rel => exact ⟨s' &&& (s' - 1), pre ++ [c], and_lt64 hs', by rw [HM.out, HS.out, List.append_assoc]; rfl, by rw [HV.out]; exact hB3.put 0 _, hJ _ _ _ hJ3⟩
        case measure => rw [HV.out, leftE_eq (s := s' &&& (s' - 1)) (hB3.put 0 _), HL.out, HS.out]; simp
      · gi_wp2
        refine bodyPost_ret (results_none rfl _ _ _) rfl ?_
        exact ⟨⟨_, rfl⟩, .inr ⟨_, ⟨mem (s' &&& (s' - 1)), by rw [HM.out, HS.out, List.append_assoc]; rfl⟩, hJx3⟩⟩
end
end Go.Proofs.YtgdmcidcappkpaaDoor
