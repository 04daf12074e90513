/- Sets of worlds as numbers: their members, and what the reference's functions on them do. No condition. -/
import Derived.Test.YtmnhgeggojgflaaGreatDoorWtA
set_option linter.unusedVariables false
set_option linter.unusedSimpArgs false
namespace Go.Proofs.YtmnhgeggojgflaaGreatDoor.Ws
open Go.RowKit

theorem infoInt : (Tryz.prog.info? 3).map (fun i => (i.zero, i.size, i.bytes)) = some (some (.int .i64 0), 1, 8) := by kernel_rfl
theorem eInts : ElemT Tryz.prog 42 3 (.int .i64 0) 1 8 := ⟨Tryz.underlying42, info_parts infoInt, rfl, by omega⟩
def inV (n : Nat) : Value := .int .i64 n

/-- The members below k. -/
def memTo (s k : Nat) : List Nat := (List.range k).filter s.testBit
def mem (s : Nat) : List Nat := memTo s 64
theorem memTo_succ (s k : Nat) : memTo s (k + 1) = memTo s k ++ (if s.testBit k then [k] else []) := by
  unfold memTo
  rw [List.range_succ, List.filter_append]
  cases h : s.testBit k <;> simp [h]
theorem memTo_len (s k : Nat) : (memTo s k).length ≤ k := by
  have := List.length_filter_le s.testBit (List.range k)
  simpa [memTo] using this
theorem mem_lt {s x : Nat} (h : x ∈ mem s) : x < 64 ∧ s.testBit x = true := by
  have := List.mem_filter.1 h
  exact ⟨List.mem_range.1 this.1, this.2⟩
theorem mem_len (s : Nat) : (mem s).length ≤ 64 := memTo_len s 64

/-- A new list of numbers. -/
def LPost (w : World) (l : List Nat) (e : Ending) (w' : World) : Prop :=
  ∃ v, e = .returned v ∧ w'.ownsRow w.heap.size 3 1 v l.length (l.map inV) ∧ Keep NoF w w'

section
set_option maxRecDepth 100000
set_option maxHeartbeats 1000000
theorem rMembers_any (s : Nat) (hs : s < 18446744073709551616) (w : World) : Calls Tryz.prog 64 #[.int .u64 s] w (LPost w (mem s)) := by
  go_enter Tryz.func64, Tryz.ntmps64
  go_wp2
  go_loopw [3, 4] (fun v i wr => ∃ k : Nat, i = .int .i64 k ∧ k ≤ 64 ∧ wr.ownsRow w.heap.size 3 1 v (memTo s k).length ((memTo s k).map inV) ∧ Keep NoF w wr) (fun _ i _ => 64 - (intOf i).toNat)
  case atStart => exact ⟨0, rfl, by omega, World.ownsRow_nil _ _ _ _, Keep.refl _ _⟩
  case round =>
    obtain ⟨k, rfl, hk, hown, hkr⟩ := hrel
    by_cases hlt : k < 64
    · have hb := hasS_nat (s := s) hlt
      have hsc := memTo_succ s k
      have HSC := Lib.hid hsc
      have hml := memTo_len s k
      have hz := hkr.size
      clear hsc
      cases hbt : s.testBit k
      · rw [hbt] at hb HSC
        clear hbt
        go_wp2_with (go_at_call 97; (with_reducible refine (rHas_any _ s k hs).mono ?_); rintro e w' ⟨rfl, hw'⟩; obtain rfl := hw'.symm)
        go_roundw
        case rel => exact ⟨k + 1, by go_num, by omega, by rw [HSC.out]; simpa using hown, hkr⟩
        case measure => simp only [intOf]; omega
      · rw [hbt] at hb HSC
        clear hbt
        go_wp2_with (first
          | (go_at_call 97; (with_reducible refine (rHas_any _ s k hs).mono ?_); rintro e w' ⟨rfl, hw'⟩; obtain rfl := hw'.symm)
          | (at_builtin
             refine wpList_app (by rfl) eInts (.tmp 12) (.tmp 14) (by rfl) (by rfl) (hown.alloc _) ⟨wr.heap.size, 0, none⟩ 1 1 [.int .i64 k] (by rfl) (by rfl)
               (World.news_of_block (cs := #[.int .i64 k]) (t := 3) (fr := (0, 0)) (heap_alloc_new wr _)) (by simp [Value.oneCell']) (by omega) (by omega) (by omega) (by simp; omega) ?_
             intro g4 cap4 w4 hown6 hA4))
        go_roundw
        case rel =>
          refine ⟨k + 1, by go_num, by omega, ?_, ?_⟩
          · rw [HSC.out]
            simpa [inV] using hown6
          · exact (hkr.alloc _).grown hA4.grown fun x hx => .inr (hown.lt x hx).1
        case measure => simp only [intOf]; omega
    · obtain rfl : k = 64 := by omega
      go_wp2
      go_ret
      exact ⟨_, rfl, hown, hkr⟩

def lowS (s : Nat) : Int := match mem s with | [] => -1 | x :: _ => x
end
end Go.Proofs.YtmnhgeggojgflaaGreatDoor.Ws
