/- The law ParserTokens answers true. Conditions: the variables lie as they are read. -/
import Derived.Test.YtdhdcenjiopofaaDoorPb1
set_option linter.unusedVariables false
set_option linter.unusedSimpArgs false
namespace Go.Proofs.YtdhdcenjiopofaaDoor
open Go.RowKit
section
set_option maxRecDepth 100000
set_option maxHeartbeats 4000000
theorem tA_atV (cs : Tk) : tA cs = atV (cs.map (·.1)) := by simp [tA, atV]
theorem walk_ParserTokens (t : ByteArray) (w : World) (hT : Tab w) : Calls Tryd.prog 3 #[.string t] w fun e w' => e = .returned (.bool true) ∧ Keep NoF w w' := by
  by_cases hbig : 5000 < t.size
  · have HA := Lib.hid (awake_any w hT)
    clear hT
    go_enter Tryd.func3, Tryd.ntmps3
    go_wp2_with (go_at_call 8; (with_reducible refine HA.out.mono ?_); rintro e w1 ⟨rfl, hk⟩)
    refine bodyPost_ret (v := .bool true) (by simp [results, Tryd.results3, go_sem]) rfl ?_
    exact ⟨rfl, hk⟩
  · have ht : t.size ≤ 9223372036854775807 := by omega
    have HT := Lib.hid hT
    have H1 := Lib.hid (Tokens_any t ht w)
    have H2 := Lib.hid fun W => rTokens_any t ht W
    clear hT
    go_enter Tryd.func3, Tryd.ntmps3
    go_wp2_with (first
      | (go_at_call 9; (with_reducible refine H1.out.mono ?_); rintro e w1 ⟨cs, A, c, B, d, p, x, rfl, R1, Q1, K1, T1⟩)
      | (go_at_call 10
         (with_reducible refine (H2.out w1).mono ?_)
         rintro e w2 ⟨cs2, A2, c2, B2, d2, p2, x2, rfl, R2, Q2, K2, T2⟩
         obtain ⟨h1, h2, h3⟩ := T1.det T2
         subst h1 h2 h3
         have K12 := K1.trans K2 fun _ _ h => h
         have hlen : cs.length ≤ 9223372036854775807 := (by have := R1.1; rcases T1 with ⟨_, h, _⟩ | ⟨h4, ⟨_, _, h, _⟩ | ⟨h, _⟩⟩; (rw [h]; simp); (rw [h]; simp); (have := (tok_ok h h4).2; rw [tW_len] at this; omega))
         have hpp : (p == p) = true := (by simp)
         have hxx : (x == x) = true := (by simp)
         have HSW : Hid (Calls Tryd.prog 11 #[.slice A cs.length c, .slice A2 cs.length c2] w2 _) := Lib.hid (by
           have := sameWords_any (tW cs) A A2 c c2 w2 (by rw [tW_len]; exact hlen) (by rw [tW_len]; exact R1.kept K2 fun _ _ h => h) (by rw [tW_len]; exact R2)
           rw [tW_len] at this
           exact this)
         have HSA : Hid (∀ W, Keep NoF w2 W → Calls Tryd.prog 12 #[.slice B cs.length d, .slice B2 cs.length d2] W fun e w' => e = .returned (.bool true) ∧ Keep NoF W w') := Lib.hid fun W hk => by
           have := sameAt_any (cs.map (·.1)) B B2 d d2 W (by rw [List.length_map]; exact hlen) (by rw [List.length_map, ← tA_atV]; exact (Q1.kept K2 fun _ _ h => h).kept hk fun _ _ h => h) (by rw [List.length_map, ← tA_atV]; exact Q2.kept hk fun _ _ h => h)
           rw [List.length_map] at this
           exact this
         clear R1 Q1 R2 Q2 T1 T2)
      | (go_at_call 11; (with_reducible refine HSW.out.mono ?_); rintro e w3 ⟨rfl, K3⟩)
      | (go_at_call 12; (with_reducible refine (HSA.out w3 K3).mono ?_); rintro e w4 ⟨rfl, K4⟩; have K14 := (K12.trans K3 fun _ _ h => h).trans K4 fun _ _ h => h)
      | (go_at_call 8; (with_reducible refine (awake_any w4 (HT.out.keep0 K14)).mono ?_); rintro e w5 ⟨rfl, K5⟩))
    refine bodyPost_ret (v := .bool true) (by simp [results, Tryd.results3, go_sem]) rfl ?_
    exact ⟨rfl, K14.trans K5 fun _ _ h => h⟩
end
end Go.Proofs.YtdhdcenjiopofaaDoor
