/- The law WorldsetTexts answers true. Conditions: the library's variables lie as they are read. -/
import Derived.Test.YtckmhngcnimmdaaDoorWsAw
set_option linter.unusedVariables false
set_option linter.unusedSimpArgs false
namespace Go.Proofs.YtckmhngcnimmdaaDoor
open Go.RowKit
section
set_option maxRecDepth 100000
set_option maxHeartbeats 1000000
theorem walk_WorldsetTexts (t : ByteArray) (s : Nat) (w : World) (hsz : t.size ≤ 9223372036854775807) (hs : s < 18446744073709551616) (ht : Tab w) :
    Calls Tryd.prog 5 #[.string t, .int .u64 s] w fun e w' => e = .returned (.bool true) ∧ Keep NoF w w' := by
  by_cases h : 400 < t.size
  · go_enter Tryd.func5, Tryd.ntmps5
    go_wp2_with (go_at_call 11; (with_reducible refine (awake_any w ht).mono ?_); rintro e w1 ⟨rfl, hk1⟩)
    go_ret
    exact ⟨rfl, hk1⟩
  · have HP := Lib.hid (Parse_any t w (by omega) ht)
    have HP2 := Lib.hid (fun w1 => rParse_any t w1 (by omega))
    have HF := Lib.hid (fun w1 (hT : Tab w1) => Format_any s w1 hs hT)
    have HF2 := Lib.hid (fun w1 => rFormat_any s w1 hs)
    generalize parseS t.data.toList = R at *
    generalize txt (fmtS s) = F at *
    go_enter Tryd.func5, Tryd.ntmps5
    go_wp2_with (first
      | (go_at_call 27; (with_reducible refine HP.out.mono ?_); rintro e w1 ⟨rfl, hk1⟩)
      | (go_at_call 28; (with_reducible refine (HP2.out w1).mono ?_); rintro e w2 ⟨rfl, hk2⟩; have K2 := Lib.hid (hk1.trans hk2 fun _ _ h => h))
      | (go_at_call 29; (with_reducible refine (HF.out w2 (ht.keep0 K2.out)).mono ?_); rintro e w3 ⟨rfl, hk3⟩; have K3 := Lib.hid (K2.out.trans hk3 fun _ _ h => h))
      | (go_at_call 30; (with_reducible refine (HF2.out w3).mono ?_); rintro e w4 ⟨rfl, hk4⟩; have K4 := Lib.hid (K3.out.trans hk4 fun _ _ h => h))
      | (go_at_call 11; (with_reducible refine (awake_any w4 (ht.keep0 K4.out)).mono ?_); rintro e w5 ⟨rfl, hk5⟩))
    go_ret
    exact ⟨rfl, K4.out.trans hk5 fun _ _ h => h⟩
end
end Go.Proofs.YtckmhngcnimmdaaDoor
