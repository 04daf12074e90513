/- The law WorldsetLists answers true. Conditions: the library's variables lie as they are read. -/
import Derived.Test.YtckmhngcnimmdaaDoorWsAw
set_option linter.unusedVariables false
set_option linter.unusedSimpArgs false
namespace Go.Proofs.YtckmhngcnimmdaaDoor
open Go.RowKit
section
set_option maxRecDepth 100000
set_option maxHeartbeats 1000000
theorem walk_WorldsetLists (l : List Int) (A : Option Addr) (c : Nat) (s : Nat) (n : Int) (w : World) (hl : l.length ≤ 9223372036854775807) (hrd : Rd w (.slice A l.length c) 1 l.length (l.map zV)) (hs : s < 18446744073709551616) (hn : n ≤ 9223372036854775807) (ht : Tab w) :
    Calls Tryd.prog 3 #[.slice A l.length c, .int .u64 s, .int .i64 n] w fun e w' => e = .returned (.bool true) ∧ Keep NoF w w' := by
  by_cases h : 100 < l.length
  · go_enter Tryd.func3, Tryd.ntmps3
    go_wp2_with (go_at_call 11; (with_reducible refine (awake_any w ht).mono ?_); rintro e w1 ⟨rfl, hk1⟩)
    go_ret
    exact ⟨rfl, hk1⟩
  · have HO := Lib.hid (Of_any l A c w hl hrd)
    have HO2 := Lib.hid (rOf_any l A c w hl hrd)
    have HA := Lib.hid (All_any w n)
    have HA2 := Lib.hid (rAll_any w n)
    have HM := Lib.hid (Members_any s hs w ht)
    have HM2 := Lib.hid (fun w1 => rMembers_any s hs w1)
    have HC := Lib.hid (fun w1 => Count_any s hs w1)
    have HC2 := Lib.hid (fun w1 => rCount_any s hs w1)
    have HL := Lib.hid (fun w1 (hT : Tab w1) => Lowest_any s hs w1 hT)
    have HL2 := Lib.hid (fun w1 => rLowest_any s hs w1)
    have HH := Lib.hid (fun w1 => Has_any w1 s n hs)
    have HH2 := Lib.hid (fun w1 => rHas_any w1 s n hs)
    have HS := Lib.hid (fun A B c d w1 h1 h2 => Same_any ((mem s).map Int.ofNat) ((mem s).map Int.ofNat) A B c d w1 (by rw [List.length_map]; have := mem_len s; omega) h1 h2)
    rw [List.length_map] at HS
    generalize ofL 0 l = R at *
    generalize allS n = al at *
    generalize lowS s = lo at *
    generalize hasS s n = hb at *
    generalize mem s = m at *
    go_enter Tryd.func3, Tryd.ntmps3
    go_wp2_with (first
      | (go_at_call 12; (with_reducible refine HO.out.mono ?_); rintro e w' ⟨rfl, hw'⟩; obtain rfl := hw'.symm)
      | (go_at_call 13; (with_reducible refine HO2.out.mono ?_); rintro e w' ⟨rfl, hw'⟩; obtain rfl := hw'.symm)
      | (go_at_call 14; (with_reducible refine HA.out.mono ?_); rintro e w' ⟨rfl, hw'⟩; obtain rfl := hw'.symm)
      | (go_at_call 15; (with_reducible refine HA2.out.mono ?_); rintro e w' ⟨rfl, hw'⟩; obtain rfl := hw'.symm)
      | (go_at_call 17; (with_reducible refine HM.out.mono ?_); rintro e w1 ⟨v, rfl, ho, hk1⟩; obtain ⟨B, cb, rfl⟩ := own_form ho)
      | (go_at_call 18; (with_reducible refine (HM2.out w1).mono ?_); rintro e w2 ⟨v, rfl, ho2, hk2⟩; obtain ⟨B2, cb2, rfl⟩ := own_form ho2; have K2 := Lib.hid (hk1.trans hk2 fun _ _ h => h); have h1 := (Rd.of_own ho).kept hk2 (fun _ _ h => h); have h2 := Rd.of_own ho2; rw [inV_zV] at h1 h2)
      | (go_at_call 16; (with_reducible refine (HS.out B B2 cb cb2 w2 h1 h2).mono ?_); rintro e w3 ⟨rfl, hk3⟩; have K3 := Lib.hid (K2.out.trans hk3 fun _ _ h => h))
      | (go_at_call 19; (with_reducible refine (HC.out _).mono ?_); rintro e w' ⟨rfl, hw'⟩; obtain rfl := hw'.symm)
      | (go_at_call 20; (with_reducible refine (HC2.out w3).mono ?_); rintro e w4 ⟨rfl, hk4⟩; have K4 := Lib.hid (K3.out.trans hk4 fun _ _ h => h))
      | (go_at_call 21; (with_reducible refine (HL.out w4 (ht.keep0 K4.out)).mono ?_); rintro e w' ⟨rfl, hw'⟩; obtain rfl := hw'.symm)
      | (go_at_call 22; (with_reducible refine (HL2.out w4).mono ?_); rintro e w5 ⟨rfl, hk5⟩; have K5 := Lib.hid (K4.out.trans hk5 fun _ _ h => h))
      | (go_at_call 23; (with_reducible refine (HH.out _).mono ?_); rintro e w' ⟨rfl, hw'⟩; obtain rfl := hw'.symm)
      | (go_at_call 24; (with_reducible refine (HH2.out _).mono ?_); rintro e w' ⟨rfl, hw'⟩; obtain rfl := hw'.symm)
      | (go_at_call 11; (with_reducible refine (awake_any w5 (ht.keep0 K5.out)).mono ?_); rintro e w6 ⟨rfl, hk6⟩))
    go_ret
    exact ⟨rfl, K5.out.trans hk6 fun _ _ h => h⟩
end
end Go.Proofs.YtckmhngcnimmdaaDoor
