/- The law WorldsetSteps answers true. Conditions: the library's variables lie as they are read. -/
import Derived.Test.YtckmhngcnimmdaaDoorWsAw
set_option linter.unusedVariables false
set_option linter.unusedSimpArgs false
namespace Go.Proofs.YtckmhngcnimmdaaDoor
open Go.RowKit
section
set_option maxRecDepth 100000
set_option maxHeartbeats 1000000
theorem walk_WorldsetSteps (n k : Int) (s : Nat) (w : World) (hn : n ≤ 9223372036854775807) (hk : k ≤ 9223372036854775807) (hs : s < 18446744073709551616) (ht : Tab w) :
    Calls Tryd.prog 9 #[.int .i64 n, .int .i64 k, .int .u64 s] w fun e w' => e = .returned (.bool true) ∧ Keep NoF w w' := by
  have HF := Lib.hid (First_any n k w)
  have HF2 := Lib.hid (rFirst_any n k w)
  have HN := Lib.hid (Next_any n s w hs)
  have HN2 := Lib.hid (rNext_any n s w hs)
  have HS := Lib.hid (Subset_any s k w hs hk ht)
  have HS2 := Lib.hid (fun w1 => rSubset_any s k w1 hs hk)
  generalize firstR n k = R at *
  generalize nextS n s = N at *
  generalize subS s k = S at *
  go_enter Tryd.func9, Tryd.ntmps9
  go_wp2_with (first
    | (go_at_call 33; (with_reducible refine HF.out.mono ?_); rintro e w' ⟨rfl, hw'⟩; obtain rfl := hw'.symm)
    | (go_at_call 34; (with_reducible refine HF2.out.mono ?_); rintro e w' ⟨rfl, hw'⟩; obtain rfl := hw'.symm)
    | (go_at_call 35; (with_reducible refine HN.out.mono ?_); rintro e w' ⟨rfl, hw'⟩; obtain rfl := hw'.symm)
    | (go_at_call 36; (with_reducible refine HN2.out.mono ?_); rintro e w' ⟨rfl, hw'⟩; obtain rfl := hw'.symm)
    | (go_at_call 32; (with_reducible refine HS.out.mono ?_); rintro e w1 ⟨rfl, hk1⟩)
    | (go_at_call 37; (with_reducible refine (HS2.out w1).mono ?_); rintro e w2 ⟨rfl, hk2⟩; have K2 := Lib.hid (hk1.trans hk2 fun _ _ h => h))
    | (go_at_call 11; (with_reducible refine (awake_any w2 (ht.keep0 K2.out)).mono ?_); rintro e w3 ⟨rfl, hk3⟩))
  go_ret
  exact ⟨rfl, K2.out.trans hk3 fun _ _ h => h⟩
end
end Go.Proofs.YtckmhngcnimmdaaDoor
