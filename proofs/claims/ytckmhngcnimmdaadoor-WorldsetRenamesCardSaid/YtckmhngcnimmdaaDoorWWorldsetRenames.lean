/- The law WorldsetRenames answers true. Conditions: the library's variables lie as they are read. -/
import Derived.Test.YtckmhngcnimmdaaDoorWsAw
set_option linter.unusedVariables false
set_option linter.unusedSimpArgs false
namespace Go.Proofs.YtckmhngcnimmdaaDoor
open Go.RowKit
section
set_option maxRecDepth 100000
set_option maxHeartbeats 1000000
theorem walk_WorldsetRenames (s : Nat) (l : List Int) (A : Option Addr) (c : Nat) (w : World) (hs : s < 18446744073709551616) (hl : l.length ≤ 9223372036854775807) (hrd : Rd w (.slice A l.length c) 1 l.length (l.map zV)) (ht : Tab w) :
    Calls Tryd.prog 4 #[.int .u64 s, .slice A l.length c] w fun e w' => e = .returned (.bool true) ∧ Keep NoF w w' := by
  by_cases h : 100 < l.length
  · go_enter Tryd.func4, Tryd.ntmps4
    go_wp2_with (go_at_call 11; (with_reducible refine (awake_any w ht).mono ?_); rintro e w1 ⟨rfl, hk1⟩)
    go_ret
    exact ⟨rfl, hk1⟩
  · have HR := Lib.hid (Rename_any s l A c w hs hl hrd ht)
    have HR2 := Lib.hid (fun w1 (hk : Keep NoF w w1) => rRename_any s l A c w1 hs hl (hrd.kept hk fun _ _ h => h))
    generalize renL l 0 (mem s) = R at *
    go_enter Tryd.func4, Tryd.ntmps4
    go_wp2_with (first
      | (go_at_call 25; (with_reducible refine HR.out.mono ?_); rintro e w1 ⟨rfl, hk1⟩)
      | (go_at_call 26; (with_reducible refine (HR2.out w1 hk1).mono ?_); rintro e w2 ⟨rfl, hk2⟩; have K2 := Lib.hid (hk1.trans hk2 fun _ _ h => h))
      | (go_at_call 11; (with_reducible refine (awake_any w2 (ht.keep0 K2.out)).mono ?_); rintro e w3 ⟨rfl, hk3⟩))
    go_ret
    exact ⟨rfl, K2.out.trans hk3 fun _ _ h => h⟩
end
end Go.Proofs.YtckmhngcnimmdaaDoor
