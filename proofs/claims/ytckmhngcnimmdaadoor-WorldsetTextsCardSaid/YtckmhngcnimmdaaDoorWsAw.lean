/- The examples of the chapter: what awake answers. Conditions: the library's variables lie as they are read. -/
import Derived.Test.YtckmhngcnimmdaaDoorWsPd
import Derived.Test.YtckmhngcnimmdaaDoorWsG
import Derived.Test.YtckmhngcnimmdaaDoorWsV
import Derived.Test.YtckmhngcnimmdaaDoorWsD
set_option linter.unusedVariables false
set_option linter.unusedSimpArgs false
namespace Go.Proofs.YtckmhngcnimmdaaDoor
open Go.RowKit

theorem rd_lit (w : World) (t : TypeId) (cs : Array Value) (n : Nat) (hn : n ≤ 1000) (h : cs.size = n) : Rd (w.alloc (.cells cs t)) (.slice (some ⟨w.heap.size, 0, none⟩) n n) 1 n cs.toList :=
  Rd.of_own (World.ownsRow_lit (base := 0) (e := t) (size := 1) w cs n (by omega) (by simp [maxLen]; omega) (by omega))
theorem aOf (w : World) (A : Option Addr) (h : Rd w (.slice A 2 2) 1 2 [.int .i64 5, .int .i64 0]) : Calls Tryd.prog 12 #[.slice A 2 2] w fun e w' => e = .returned (.tuple #[.int .u64 33, .int .i64 0]) ∧ w' = w := by
  have := Of_any [5, 0] A 2 w (by simp) h
  rw [show ofL 0 [5, 0] = (33, 0) by decide +kernel] at this
  exact this
theorem aRename (w : World) (A : Option Addr) (h : Rd w (.slice A 6 6) 1 6 [.int .i64 2, .int .i64 0, .int .i64 0, .int .i64 0, .int .i64 0, .int .i64 4]) (ht : Tab w) : Calls Tryd.prog 25 #[.int .u64 33, .slice A 6 6] w fun e w' => e = .returned (.tuple #[.int .u64 20, .int .i64 0]) ∧ Keep NoF w w' := by
  have := Rename_any 33 [2, 0, 0, 0, 0, 4] A 6 w (by omega) (by simp) h ht
  rw [show renL [2, 0, 0, 0, 0, 4] 0 (mem 33) = (20, 0) by decide +kernel] at this
  exact this
theorem aNext (w : World) : Calls Tryd.prog 35 #[.int .i64 4, .int .u64 6] w fun e w' => e = .returned (.tuple #[.int .u64 9, .bool true]) ∧ w' = w := by
  have := Next_any 4 6 w (by omega)
  rw [show nextS 4 6 = (9, true) by decide +kernel] at this
  exact this
theorem aParse (w : World) (ht : Tab w) : Calls Tryd.prog 27 #[.string ⟨#[123, 48, 32, 53, 125]⟩] w fun e w' => e = .returned (.tuple #[.int .u64 33, .int .i64 0]) ∧ Keep NoF w w' := by
  have := Parse_any ⟨#[123, 48, 32, 53, 125]⟩ w (by decide) ht
  rw [show parseS (⟨#[123, 48, 32, 53, 125]⟩ : ByteArray).data.toList = (33, 0) by decide +kernel] at this
  exact this
theorem aSubset (w : World) (ht : Tab w) : Calls Tryd.prog 32 #[.int .u64 40, .int .i64 2] w fun e w' => e = .returned (.tuple #[.int .u64 32, .bool true]) ∧ Keep NoF w w' := by
  have := Subset_any 40 2 w (by omega) (by omega) ht
  rw [show subS 40 2 = (32, true) by decide +kernel] at this
  exact this
theorem aAll (w : World) : Calls Tryd.prog 14 #[.int .i64 3] w fun e w' => e = .returned (.int .u64 7) ∧ w' = w := by
  have := All_any w 3
  rw [show allS 3 = 7 by decide +kernel] at this
  exact this
theorem aFormat (w : World) (ht : Tab w) : Calls Tryd.prog 29 #[.int .u64 33] w fun e w' => e = .returned (.string ⟨#[123, 48, 32, 53, 125]⟩) ∧ Keep NoF w w' := by
  have := Format_any 33 w (by omega) ht
  rw [show fmtS 33 = [123, 48, 32, 53, 125] by decide +kernel] at this
  exact this
theorem aCount (w : World) : Calls Tryd.prog 19 #[.int .u64 33] w fun e w' => e = .returned (.int .i64 2) ∧ w' = w := by
  have := Count_any 33 (by omega) w
  rw [show (mem 33).length = 2 by decide +kernel] at this
  exact this
theorem aLowest (w : World) (ht : Tab w) : Calls Tryd.prog 21 #[.int .u64 40] w fun e w' => e = .returned (.int .i64 3) ∧ w' = w := by
  have := Lowest_any 40 (by omega) w ht
  rw [show lowS 40 = 3 by decide +kernel] at this
  exact this
theorem aHas (w : World) : Calls Tryd.prog 23 #[.int .u64 40, .int .i64 5] w fun e w' => e = .returned (.bool true) ∧ w' = w := by
  have := Has_any w 40 5 (by omega)
  rw [show hasS 40 5 = true by decide +kernel] at this
  exact this
theorem aMembers (w : World) (ht : Tab w) : Calls Tryd.prog 17 #[.int .u64 33] w fun e w' => ∃ A c, e = .returned (.slice A 2 c) ∧ Keep NoF w w' ∧ Rd w' (.slice A 2 c) 1 2 [.int .i64 0, .int .i64 5] := by
  have := Members_any 33 (by omega) w ht
  refine this.mono ?_
  rw [show mem 33 = [0, 5] by decide +kernel]
  rintro e w' ⟨v, rfl, ho, hk⟩
  obtain ⟨A, c, rfl⟩ := own_form ho
  exact ⟨A, c, rfl, hk, Rd.of_own ho⟩
theorem aSame (w : World) (A B : Option Addr) (c d : Nat) (h1 : Rd w (.slice A 2 c) 1 2 [.int .i64 0, .int .i64 5]) (h2 : Rd w (.slice B 2 d) 1 2 [.int .i64 0, .int .i64 5]) :
    Calls Tryd.prog 16 #[.slice A 2 c, .slice B 2 d] w fun e w' => e = .returned (.bool true) ∧ Keep NoF w w' := by
  have := Same_any [0, 5] [0, 5] A B c d w (by simp) h1 h2
  simpa using this

section
set_option maxRecDepth 100000
set_option maxHeartbeats 2000000
theorem awake_any (w : World) (ht : Tab w) : Calls Tryd.prog 11 #[] w fun e w' => e = .returned (.bool true) ∧ Keep NoF w w' := by
  have k1 : Keep NoF w (w.alloc (.cells #[.int .i64 5, .int .i64 0] 3)) := (Keep.refl _ w).alloc _
  have HOF := Lib.hid (aOf _ _ (rd_lit w 3 #[.int .i64 5, .int .i64 0] 2 (by omega) rfl))
  have k2 : Keep NoF w ((w.alloc (.cells #[.int .i64 5, .int .i64 0] 3)).alloc (.cells #[.int .i64 2, .int .i64 0, .int .i64 0, .int .i64 0, .int .i64 0, .int .i64 4] 3)) := k1.alloc _
  have HRN := Lib.hid (aRename _ _ (rd_lit (w.alloc (.cells #[.int .i64 5, .int .i64 0] 3)) 3 #[.int .i64 2, .int .i64 0, .int .i64 0, .int .i64 0, .int .i64 0, .int .i64 4] 6 (by omega) rfl) (ht.keep0 k2))
  rw [World.size_alloc] at HRN
  have K2 := Lib.hid k2
  clear k1 k2
  go_enter Tryd.func11, Tryd.ntmps11
  go_wp2_with (first
    | (go_at_call 12; (with_reducible refine HOF.out.mono ?_); rintro e w' ⟨rfl, hw'⟩; obtain rfl := hw'.symm)
    | (go_at_call 25; (with_reducible refine HRN.out.mono ?_); rintro e w3 ⟨rfl, hq⟩; have K3 := Lib.hid (K2.out.trans hq fun _ _ h => h))
    | (go_at_call 35; (with_reducible refine (aNext _).mono ?_); rintro e w' ⟨rfl, hw'⟩; obtain rfl := hw'.symm)
    | (go_at_call 27; (with_reducible refine (aParse w3 (ht.keep0 K3.out)).mono ?_); rintro e w4 ⟨rfl, hq4⟩; have K4 := Lib.hid (K3.out.trans hq4 fun _ _ h => h))
    | (go_at_call 32; (with_reducible refine (aSubset w4 (ht.keep0 K4.out)).mono ?_); rintro e w5 ⟨rfl, hq5⟩; have K5 := Lib.hid (K4.out.trans hq5 fun _ _ h => h))
    | (go_at_call 14; (with_reducible refine (aAll _).mono ?_); rintro e w' ⟨rfl, hw'⟩; obtain rfl := hw'.symm)
    | (go_at_call 29; (with_reducible refine (aFormat w5 (ht.keep0 K5.out)).mono ?_); rintro e w6 ⟨rfl, hq6⟩; have K6 := Lib.hid (K5.out.trans hq6 fun _ _ h => h))
    | (go_at_call 19; (with_reducible refine (aCount _).mono ?_); rintro e w' ⟨rfl, hw'⟩; obtain rfl := hw'.symm)
    | (go_at_call 21; (with_reducible refine (aLowest w6 (ht.keep0 K6.out)).mono ?_); rintro e w' ⟨rfl, hw'⟩; obtain rfl := hw'.symm)
    | (go_at_call 23; (with_reducible refine (aHas _).mono ?_); rintro e w' ⟨rfl, hw'⟩; obtain rfl := hw'.symm)
    | (go_at_call 17; (with_reducible refine (aMembers w6 (ht.keep0 K6.out)).mono ?_); rintro e w7 ⟨A, c, rfl, hq7, hrd⟩; have K7 := Lib.hid (K6.out.trans hq7 fun _ _ h => h); have HRD := Lib.hid (hrd.kept ((Keep.refl NoF w7).alloc (.cells #[.int .i64 0, .int .i64 5] 3)) fun _ _ h => h); clear hrd)
    | (go_at_call 16; (with_reducible refine (aSame _ A _ c 2 HRD.out (rd_lit w7 3 #[.int .i64 0, .int .i64 5] 2 (by omega) rfl)).mono ?_); rintro e w8 ⟨rfl, hq8⟩; have K8 := Lib.hid ((K7.out.alloc _).trans hq8 fun _ _ h => h)))
  go_ret
  exact ⟨rfl, K8.out⟩
end
end Go.Proofs.YtckmhngcnimmdaaDoor
