/- The law ParserPrefixes answers true. Conditions: the variables lie as they are read. -/
import Derived.Test.YtdhdcenjiopofaaDoorPc7
import Derived.Test.YtdhdcenjiopofaaDoorWParserJoins
set_option linter.unusedVariables false
set_option linter.unusedSimpArgs false
namespace Go.Proofs.YtdhdcenjiopofaaDoor
open Go.RowKit
open Fm (Nd cl mk1 mk2)
open Fm.Form

theorem pref_size (a s : ByteArray) : (prefT a s).size = a.size + s.size + 6 := by
  rw [← data_len]; simp [prefT]; omega
section
set_option maxRecDepth 100000
set_option maxHeartbeats 4000000
theorem prefixes_no (s0 : ByteArray) (n : Nat) (w : World) (hT : Tab w) (h0 : s0.size ≤ 200) {f1 : List Nd} {p1 x1 : Int} (q1 : parseF SE s0 = (f1, p1, x1)) (hx : x1 ≠ 0 ∨ (x1 = 0 ∧ 100 < f1.length)) :
    Calls Tryd.prog 7 #[.string s0, .int .u8 (n : Int)] w fun e w' => e = .returned (.bool true) ∧ Keep NoF w w' := by
  have HT := Lib.hid hT
  have HP1 := Lib.hid q1
  clear hT q1
  rcases hx with hx | ⟨rfl, hx⟩
  · have hx' : (x1 != 0) = true := by simpa using hx
    clear hx
    go_enter Tryd.func7, Tryd.ntmps7
    go_wp2_with (first
      | (go_at_call 17
         (with_reducible refine (example_any w).mono ?_)
         rintro e w1 ⟨a, f, c, rfl, S1, K1⟩
         have HS1 := Lib.hid S1
         have X0 : Keep NoF w1 (w1.alloc (.cells #[.slice a 2 2, .slice f 3 3, .slice c 1 1] 31)) := (Keep.refl _ _).alloc _
         obtain ⟨c0, c1, c2, z1⟩ := box3 (Keep.refl NoF (w1.alloc (.cells #[.slice a 2 2, .slice f 3 3, .slice c 1 1] 31)))
         have HP1' := Lib.hid (parse_SE HP1.out (HS1.out.keep X0) (HT.out.keep0 (K1.trans X0 fun _ _ h => h)) (by omega))
         clear S1)
      | (go_at_call 14
         (with_reducible refine HP1'.out.mono ?_)
         rintro e w2 ⟨A2, d2, rfl, R2, K2⟩
         have X2 : Keep NoF w1 w2 := X0.trans K2 fun _ _ h => h
         have k2 : Keep NoF w w2 := K1.trans X2 fun _ _ h => h
         skip)
      | (go_at_call 8; (with_reducible refine (awake_any w2 (HT.out.keep0 k2)).mono ?_); rintro e wz ⟨rfl, Kz⟩; have kz := k2.trans Kz fun _ _ h => h))
    refine bodyPost_ret (v := .bool true) (by simp [results, Tryd.results7, go_sem]) rfl ?_
    exact ⟨rfl, kz⟩
  · have hx' : (100 : Int) < (f1.length : Int) := by omega
    go_enter Tryd.func7, Tryd.ntmps7
    go_wp2_with (first
      | (go_at_call 17
         (with_reducible refine (example_any w).mono ?_)
         rintro e w1 ⟨a, f, c, rfl, S1, K1⟩
         have HS1 := Lib.hid S1
         have X0 : Keep NoF w1 (w1.alloc (.cells #[.slice a 2 2, .slice f 3 3, .slice c 1 1] 31)) := (Keep.refl _ _).alloc _
         obtain ⟨c0, c1, c2, z1⟩ := box3 (Keep.refl NoF (w1.alloc (.cells #[.slice a 2 2, .slice f 3 3, .slice c 1 1] 31)))
         have HP1' := Lib.hid (parse_SE HP1.out (HS1.out.keep X0) (HT.out.keep0 (K1.trans X0 fun _ _ h => h)) (by omega))
         clear S1)
      | (go_at_call 14
         (with_reducible refine HP1'.out.mono ?_)
         rintro e w2 ⟨A2, d2, rfl, R2, K2⟩
         have X2 : Keep NoF w1 w2 := X0.trans K2 fun _ _ h => h
         have k2 : Keep NoF w w2 := K1.trans X2 fun _ _ h => h
         skip)
      | (go_at_call 8; (with_reducible refine (awake_any w2 (HT.out.keep0 k2)).mono ?_); rintro e wz ⟨rfl, Kz⟩; have kz := k2.trans Kz fun _ _ h => h))
    refine bodyPost_ret (v := .bool true) (by simp [results, Tryd.results7, go_sem]) rfl ?_
    exact ⟨rfl, kz⟩
theorem prefixes_0 (s0 : ByteArray) (n : Nat) (w : World) (hT : Tab w) (h0 : s0.size ≤ 200) (hmod : (n : Int) % 6 = 0) {f1 f3 fu : List Nd} {p1 x1 p3 x3 : Int} (q1 : parseF SE s0 = (f1, p1, x1)) (q3 : parseF SE (prefT s0 (preT 0)) = (f3, p3, x3)) (hx1 : x1 = 0) (hx3 : x3 = 0) (hl : f1.length ≤ 100 ∧ f3.length ≤ 200 ∧ fu.length ≤ 200)
    (hu : mk1 4 0 0 0 f1 = fu) (hm2 : mk2 5 0 0 0 fu [⟨3, 0, 0, 0, 0, 0⟩] = f3) (hsm : sameB f3 f3 = true) :
    Calls Tryd.prog 7 #[.string s0, .int .u8 (n : Int)] w fun e w' => e = .returned (.bool true) ∧ Keep NoF w w' := by
  subst hx1 hx3
  obtain ⟨hl1, hl3, hlu⟩ := hl
  have HT := Lib.hid hT
  have HP1 := Lib.hid q1
  have HP3 : Hid (parseF SE ((((⟨#[126]⟩ : ByteArray) ++ ⟨#[40]⟩) ++ s0) ++ ⟨#[41, 32, 38, 32, 112]⟩) = (f3, p3, 0)) := Lib.hid q3
  have HU := Lib.hid hu
  have HM2 := Lib.hid hm2
  have HSM := Lib.hid hsm
  clear hT q1 q3 hu hm2 hsm
  go_enter Tryd.func7, Tryd.ntmps7
  go_wp2_with (first
    | (go_at_call 17
       (with_reducible refine (example_any w).mono ?_)
       rintro e w1 ⟨a, f, c, rfl, S1, K1⟩
       have HS1 := Lib.hid S1
       have X0 : Keep NoF w1 (w1.alloc (.cells #[.slice a 2 2, .slice f 3 3, .slice c 1 1] 31)) := (Keep.refl _ _).alloc _
       obtain ⟨c0, c1, c2, z1⟩ := box3 (Keep.refl NoF (w1.alloc (.cells #[.slice a 2 2, .slice f 3 3, .slice c 1 1] 31)))
       have HP1' := Lib.hid (parse_SE HP1.out (HS1.out.keep X0) (HT.out.keep0 (K1.trans X0 fun _ _ h => h)) (by omega))
       clear S1)
    | (go_at_call 14
       (with_reducible refine HP1'.out.mono ?_)
       rintro e w2 ⟨A2, d2, rfl, R2, K2⟩
       have X2 : Keep NoF w1 w2 := X0.trans K2 fun _ _ h => h
       have k2 : Keep NoF w w2 := K1.trans X2 fun _ _ h => h
       have X3 : Keep NoF w2 ((w2.alloc (.cells #[.string ⟨#[126]⟩, .string ⟨#[75, 91, 98, 93]⟩, .string ⟨#[77, 91, 97, 93]⟩, .string ⟨#[83, 91, 97, 93]⟩, .string ⟨#[110, 101, 120, 116, 32]⟩, .string ⟨#[112, 114, 101, 118, 32]⟩] 9)).alloc (.cells #[.int .i64 3, .int .i64 0, .int .i64 0, .int .i64 0, .int .i64 0, .int .i64 0] 44)) := ((Keep.refl _ _).alloc _).alloc _
       have csg : ((w2.alloc (.cells #[.string ⟨#[126]⟩, .string ⟨#[75, 91, 98, 93]⟩, .string ⟨#[77, 91, 97, 93]⟩, .string ⟨#[83, 91, 97, 93]⟩, .string ⟨#[110, 101, 120, 116, 32]⟩, .string ⟨#[112, 114, 101, 118, 32]⟩] 9)).alloc (.cells #[.int .i64 3, .int .i64 0, .int .i64 0, .int .i64 0, .int .i64 0, .int .i64 0] 44)).cell? ⟨w2.heap.size, 0, none⟩ = some (.string ⟨#[126]⟩) := ((Bk.new w2 9 #[.string ⟨#[126]⟩, .string ⟨#[75, 91, 98, 93]⟩, .string ⟨#[77, 91, 97, 93]⟩, .string ⟨#[83, 91, 97, 93]⟩, .string ⟨#[110, 101, 120, 116, 32]⟩, .string ⟨#[112, 114, 101, 118, 32]⟩]).alloc _).cell 0
       have csg2 : (w2.alloc (.cells #[.string ⟨#[126]⟩, .string ⟨#[75, 91, 98, 93]⟩, .string ⟨#[77, 91, 97, 93]⟩, .string ⟨#[83, 91, 97, 93]⟩, .string ⟨#[110, 101, 120, 116, 32]⟩, .string ⟨#[112, 114, 101, 118, 32]⟩] 9)).cell? ⟨w2.heap.size, 0, none⟩ = some (.string ⟨#[126]⟩) := (Bk.new w2 9 #[.string ⟨#[126]⟩, .string ⟨#[75, 91, 98, 93]⟩, .string ⟨#[77, 91, 97, 93]⟩, .string ⟨#[83, 91, 97, 93]⟩, .string ⟨#[110, 101, 120, 116, 32]⟩, .string ⟨#[112, 114, 101, 118, 32]⟩]).cell 0
       have RP := rd_ndlit (w2.alloc (.cells #[.string ⟨#[126]⟩, .string ⟨#[75, 91, 98, 93]⟩, .string ⟨#[77, 91, 97, 93]⟩, .string ⟨#[83, 91, 97, 93]⟩, .string ⟨#[110, 101, 120, 116, 32]⟩, .string ⟨#[112, 114, 101, 118, 32]⟩] 9)) [⟨3, 0, 0, 0, 0, 0⟩] 1 (by omega) rfl
       rw [World.size_alloc] at RP
       have HRP := Lib.hid RP
       clear RP
       have HC := Lib.hid (c_Not (f := f1) (by omega) (R2.kept X3 fun _ _ h => h)))
    | (go_at_call 25
       (with_reducible refine HC.out.mono ?_)
       intro e w3 hpost
       obtain ⟨A3, d3, rfl, R3, K3⟩ := fr_any hpost
       rw [HU.out] at R3
       have HL3 : Hid ((mk1 4 0 0 0 f1).length = fu.length) := Lib.hid (by rw [HU.out])
       rw [HL3.out]
       have X4 : Keep NoF w1 w3 := (X2.trans X3 fun _ _ h => h).trans K3 fun _ _ h => h
       have B4 : Keep NoF (w1.alloc (.cells #[.slice a 2 2, .slice f 3 3, .slice c 1 1] 31)) w3 := (K2.trans X3 fun _ _ h => h).trans K3 fun _ _ h => h
       obtain ⟨g0, g1, g2, z3⟩ := box3 B4
       have HP3' := Lib.hid (parse_SE HP3.out (HS1.out.keep X4) (HT.out.keep0 (K1.trans X4 fun _ _ h => h)) (by have := pref_size s0 (preT 0); have hq : (preT 0).size ≤ 5 := (by decide); show (prefT s0 (preT 0)).size ≤ _; omega))
       clear hpost)
    | (go_at_call 14
       (with_reducible refine HP3'.out.mono ?_)
       rintro e w4 ⟨A4, d4, rfl, R4, K4⟩
       have k4 : Keep NoF w w4 := (K1.trans X4 fun _ _ h => h).trans K4 fun _ _ h => h
       have HA : Hid (Calls Tryd.prog 18 #[.slice A3 fu.length d3, .slice (some ⟨w2.heap.size + 1, 0, none⟩) 1 1] w4 (FmPost w4 (mk2 5 0 0 0 fu [⟨3, 0, 0, 0, 0, 0⟩]))) := Lib.hid (c_And (f := fu) (g := [⟨3, 0, 0, 0, 0, 0⟩]) (by omega) (R3.kept K4 fun _ _ h => h) (by decide) ((HRP.out.kept K3 fun _ _ h => h).kept K4 fun _ _ h => h)))
    | (go_at_call 18
       (with_reducible refine HA.out.mono ?_)
       intro e w5 hpost
       obtain ⟨A5, d5, rfl, R5, K5⟩ := fr_any hpost
       rw [HM2.out] at R5
       have HSB := Lib.hid (fmSame_any f3 f3 A4 A5 d4 d5 w5 (R4.kept K5 fun _ _ h => h) R5 (by omega) (by omega))
       rw [HSM.out] at HSB
       have HL5 : Hid ((mk2 5 0 0 0 fu [⟨3, 0, 0, 0, 0, 0⟩]).length = f3.length) := Lib.hid (by rw [HM2.out])
       rw [HL5.out]
       have k5 := k4.trans K5 fun _ _ h => h
       clear hpost)
    | (go_at_call 24; (with_reducible refine HSB.out.mono ?_); rintro e w6 ⟨rfl, K6⟩; have k6 := k5.trans K6 fun _ _ h => h)
    | (go_at_call 8; (with_reducible refine (awake_any w6 (HT.out.keep0 k6)).mono ?_); rintro e wz ⟨rfl, Kz⟩; have kz := k6.trans Kz fun _ _ h => h))
  refine bodyPost_ret (v := .bool true) (by simp [results, Tryd.results7, go_sem]) rfl ?_
  exact ⟨rfl, kz⟩
theorem prefixes_1 (s0 : ByteArray) (n : Nat) (w : World) (hT : Tab w) (h0 : s0.size ≤ 200) (hmod : (n : Int) % 6 = 1) {f1 f3 fu : List Nd} {p1 x1 p3 x3 : Int} (q1 : parseF SE s0 = (f1, p1, x1)) (q3 : parseF SE (prefT s0 (preT 1)) = (f3, p3, x3)) (hx1 : x1 = 0) (hx3 : x3 = 0) (hl : f1.length ≤ 100 ∧ f3.length ≤ 200 ∧ fu.length ≤ 200)
    (hu : mk1 9 1 0 0 f1 = fu) (hm2 : mk2 5 0 0 0 fu [⟨3, 0, 0, 0, 0, 0⟩] = f3) (hsm : sameB f3 f3 = true) :
    Calls Tryd.prog 7 #[.string s0, .int .u8 (n : Int)] w fun e w' => e = .returned (.bool true) ∧ Keep NoF w w' := by
  subst hx1 hx3
  obtain ⟨hl1, hl3, hlu⟩ := hl
  have HT := Lib.hid hT
  have HP1 := Lib.hid q1
  have HP3 : Hid (parseF SE ((((⟨#[75, 91, 98, 93]⟩ : ByteArray) ++ ⟨#[40]⟩) ++ s0) ++ ⟨#[41, 32, 38, 32, 112]⟩) = (f3, p3, 0)) := Lib.hid q3
  have HU := Lib.hid hu
  have HM2 := Lib.hid hm2
  have HSM := Lib.hid hsm
  clear hT q1 q3 hu hm2 hsm
  go_enter Tryd.func7, Tryd.ntmps7
  go_wp2_with (first
    | (go_at_call 17
       (with_reducible refine (example_any w).mono ?_)
       rintro e w1 ⟨a, f, c, rfl, S1, K1⟩
       have HS1 := Lib.hid S1
       have X0 : Keep NoF w1 (w1.alloc (.cells #[.slice a 2 2, .slice f 3 3, .slice c 1 1] 31)) := (Keep.refl _ _).alloc _
       obtain ⟨c0, c1, c2, z1⟩ := box3 (Keep.refl NoF (w1.alloc (.cells #[.slice a 2 2, .slice f 3 3, .slice c 1 1] 31)))
       have HP1' := Lib.hid (parse_SE HP1.out (HS1.out.keep X0) (HT.out.keep0 (K1.trans X0 fun _ _ h => h)) (by omega))
       clear S1)
    | (go_at_call 14
       (with_reducible refine HP1'.out.mono ?_)
       rintro e w2 ⟨A2, d2, rfl, R2, K2⟩
       have X2 : Keep NoF w1 w2 := X0.trans K2 fun _ _ h => h
       have k2 : Keep NoF w w2 := K1.trans X2 fun _ _ h => h
       have X3 : Keep NoF w2 ((w2.alloc (.cells #[.string ⟨#[126]⟩, .string ⟨#[75, 91, 98, 93]⟩, .string ⟨#[77, 91, 97, 93]⟩, .string ⟨#[83, 91, 97, 93]⟩, .string ⟨#[110, 101, 120, 116, 32]⟩, .string ⟨#[112, 114, 101, 118, 32]⟩] 9)).alloc (.cells #[.int .i64 3, .int .i64 0, .int .i64 0, .int .i64 0, .int .i64 0, .int .i64 0] 44)) := ((Keep.refl _ _).alloc _).alloc _
       have csg : ((w2.alloc (.cells #[.string ⟨#[126]⟩, .string ⟨#[75, 91, 98, 93]⟩, .string ⟨#[77, 91, 97, 93]⟩, .string ⟨#[83, 91, 97, 93]⟩, .string ⟨#[110, 101, 120, 116, 32]⟩, .string ⟨#[112, 114, 101, 118, 32]⟩] 9)).alloc (.cells #[.int .i64 3, .int .i64 0, .int .i64 0, .int .i64 0, .int .i64 0, .int .i64 0] 44)).cell? ⟨w2.heap.size, 1, none⟩ = some (.string ⟨#[75, 91, 98, 93]⟩) := ((Bk.new w2 9 #[.string ⟨#[126]⟩, .string ⟨#[75, 91, 98, 93]⟩, .string ⟨#[77, 91, 97, 93]⟩, .string ⟨#[83, 91, 97, 93]⟩, .string ⟨#[110, 101, 120, 116, 32]⟩, .string ⟨#[112, 114, 101, 118, 32]⟩]).alloc _).cell 1
       have csg2 : (w2.alloc (.cells #[.string ⟨#[126]⟩, .string ⟨#[75, 91, 98, 93]⟩, .string ⟨#[77, 91, 97, 93]⟩, .string ⟨#[83, 91, 97, 93]⟩, .string ⟨#[110, 101, 120, 116, 32]⟩, .string ⟨#[112, 114, 101, 118, 32]⟩] 9)).cell? ⟨w2.heap.size, 1, none⟩ = some (.string ⟨#[75, 91, 98, 93]⟩) := (Bk.new w2 9 #[.string ⟨#[126]⟩, .string ⟨#[75, 91, 98, 93]⟩, .string ⟨#[77, 91, 97, 93]⟩, .string ⟨#[83, 91, 97, 93]⟩, .string ⟨#[110, 101, 120, 116, 32]⟩, .string ⟨#[112, 114, 101, 118, 32]⟩]).cell 1
       have RP := rd_ndlit (w2.alloc (.cells #[.string ⟨#[126]⟩, .string ⟨#[75, 91, 98, 93]⟩, .string ⟨#[77, 91, 97, 93]⟩, .string ⟨#[83, 91, 97, 93]⟩, .string ⟨#[110, 101, 120, 116, 32]⟩, .string ⟨#[112, 114, 101, 118, 32]⟩] 9)) [⟨3, 0, 0, 0, 0, 0⟩] 1 (by omega) rfl
       rw [World.size_alloc] at RP
       have HRP := Lib.hid RP
       clear RP
       have HC := Lib.hid (c_Know 1 (f := f1) (by omega) (R2.kept X3 fun _ _ h => h)))
    | (go_at_call 26
       (with_reducible refine HC.out.mono ?_)
       intro e w3 hpost
       obtain ⟨A3, d3, rfl, R3, K3⟩ := fr_any hpost
       rw [HU.out] at R3
       have HL3 : Hid ((mk1 9 1 0 0 f1).length = fu.length) := Lib.hid (by rw [HU.out])
       rw [HL3.out]
       have X4 : Keep NoF w1 w3 := (X2.trans X3 fun _ _ h => h).trans K3 fun _ _ h => h
       have B4 : Keep NoF (w1.alloc (.cells #[.slice a 2 2, .slice f 3 3, .slice c 1 1] 31)) w3 := (K2.trans X3 fun _ _ h => h).trans K3 fun _ _ h => h
       obtain ⟨g0, g1, g2, z3⟩ := box3 B4
       have HP3' := Lib.hid (parse_SE HP3.out (HS1.out.keep X4) (HT.out.keep0 (K1.trans X4 fun _ _ h => h)) (by have := pref_size s0 (preT 1); have hq : (preT 1).size ≤ 5 := (by decide); show (prefT s0 (preT 1)).size ≤ _; omega))
       clear hpost)
    | (go_at_call 14
       (with_reducible refine HP3'.out.mono ?_)
       rintro e w4 ⟨A4, d4, rfl, R4, K4⟩
       have k4 : Keep NoF w w4 := (K1.trans X4 fun _ _ h => h).trans K4 fun _ _ h => h
       have HA : Hid (Calls Tryd.prog 18 #[.slice A3 fu.length d3, .slice (some ⟨w2.heap.size + 1, 0, none⟩) 1 1] w4 (FmPost w4 (mk2 5 0 0 0 fu [⟨3, 0, 0, 0, 0, 0⟩]))) := Lib.hid (c_And (f := fu) (g := [⟨3, 0, 0, 0, 0, 0⟩]) (by omega) (R3.kept K4 fun _ _ h => h) (by decide) ((HRP.out.kept K3 fun _ _ h => h).kept K4 fun _ _ h => h)))
    | (go_at_call 18
       (with_reducible refine HA.out.mono ?_)
       intro e w5 hpost
       obtain ⟨A5, d5, rfl, R5, K5⟩ := fr_any hpost
       rw [HM2.out] at R5
       have HSB := Lib.hid (fmSame_any f3 f3 A4 A5 d4 d5 w5 (R4.kept K5 fun _ _ h => h) R5 (by omega) (by omega))
       rw [HSM.out] at HSB
       have HL5 : Hid ((mk2 5 0 0 0 fu [⟨3, 0, 0, 0, 0, 0⟩]).length = f3.length) := Lib.hid (by rw [HM2.out])
       rw [HL5.out]
       have k5 := k4.trans K5 fun _ _ h => h
       clear hpost)
    | (go_at_call 24; (with_reducible refine HSB.out.mono ?_); rintro e w6 ⟨rfl, K6⟩; have k6 := k5.trans K6 fun _ _ h => h)
    | (go_at_call 8; (with_reducible refine (awake_any w6 (HT.out.keep0 k6)).mono ?_); rintro e wz ⟨rfl, Kz⟩; have kz := k6.trans Kz fun _ _ h => h))
  refine bodyPost_ret (v := .bool true) (by simp [results, Tryd.results7, go_sem]) rfl ?_
  exact ⟨rfl, kz⟩
theorem prefixes_2 (s0 : ByteArray) (n : Nat) (w : World) (hT : Tab w) (h0 : s0.size ≤ 200) (hmod : (n : Int) % 6 = 2) {f1 f3 fu : List Nd} {p1 x1 p3 x3 : Int} (q1 : parseF SE s0 = (f1, p1, x1)) (q3 : parseF SE (prefT s0 (preT 2)) = (f3, p3, x3)) (hx1 : x1 = 0) (hx3 : x3 = 0) (hl : f1.length ≤ 100 ∧ f3.length ≤ 200 ∧ fu.length ≤ 200)
    (hu : mk1 10 0 0 0 f1 = fu) (hm2 : mk2 5 0 0 0 fu [⟨3, 0, 0, 0, 0, 0⟩] = f3) (hsm : sameB f3 f3 = true) :
    Calls Tryd.prog 7 #[.string s0, .int .u8 (n : Int)] w fun e w' => e = .returned (.bool true) ∧ Keep NoF w w' := by
  subst hx1 hx3
  obtain ⟨hl1, hl3, hlu⟩ := hl
  have HT := Lib.hid hT
  have HP1 := Lib.hid q1
  have HP3 : Hid (parseF SE ((((⟨#[77, 91, 97, 93]⟩ : ByteArray) ++ ⟨#[40]⟩) ++ s0) ++ ⟨#[41, 32, 38, 32, 112]⟩) = (f3, p3, 0)) := Lib.hid q3
  have HU := Lib.hid hu
  have HM2 := Lib.hid hm2
  have HSM := Lib.hid hsm
  clear hT q1 q3 hu hm2 hsm
  go_enter Tryd.func7, Tryd.ntmps7
  go_wp2_with (first
    | (go_at_call 17
       (with_reducible refine (example_any w).mono ?_)
       rintro e w1 ⟨a, f, c, rfl, S1, K1⟩
       have HS1 := Lib.hid S1
       have X0 : Keep NoF w1 (w1.alloc (.cells #[.slice a 2 2, .slice f 3 3, .slice c 1 1] 31)) := (Keep.refl _ _).alloc _
       obtain ⟨c0, c1, c2, z1⟩ := box3 (Keep.refl NoF (w1.alloc (.cells #[.slice a 2 2, .slice f 3 3, .slice c 1 1] 31)))
       have HP1' := Lib.hid (parse_SE HP1.out (HS1.out.keep X0) (HT.out.keep0 (K1.trans X0 fun _ _ h => h)) (by omega))
       clear S1)
    | (go_at_call 14
       (with_reducible refine HP1'.out.mono ?_)
       rintro e w2 ⟨A2, d2, rfl, R2, K2⟩
       have X2 : Keep NoF w1 w2 := X0.trans K2 fun _ _ h => h
       have k2 : Keep NoF w w2 := K1.trans X2 fun _ _ h => h
       have X3 : Keep NoF w2 ((w2.alloc (.cells #[.string ⟨#[126]⟩, .string ⟨#[75, 91, 98, 93]⟩, .string ⟨#[77, 91, 97, 93]⟩, .string ⟨#[83, 91, 97, 93]⟩, .string ⟨#[110, 101, 120, 116, 32]⟩, .string ⟨#[112, 114, 101, 118, 32]⟩] 9)).alloc (.cells #[.int .i64 3, .int .i64 0, .int .i64 0, .int .i64 0, .int .i64 0, .int .i64 0] 44)) := ((Keep.refl _ _).alloc _).alloc _
       have csg : ((w2.alloc (.cells #[.string ⟨#[126]⟩, .string ⟨#[75, 91, 98, 93]⟩, .string ⟨#[77, 91, 97, 93]⟩, .string ⟨#[83, 91, 97, 93]⟩, .string ⟨#[110, 101, 120, 116, 32]⟩, .string ⟨#[112, 114, 101, 118, 32]⟩] 9)).alloc (.cells #[.int .i64 3, .int .i64 0, .int .i64 0, .int .i64 0, .int .i64 0, .int .i64 0] 44)).cell? ⟨w2.heap.size, 2, none⟩ = some (.string ⟨#[77, 91, 97, 93]⟩) := ((Bk.new w2 9 #[.string ⟨#[126]⟩, .string ⟨#[75, 91, 98, 93]⟩, .string ⟨#[77, 91, 97, 93]⟩, .string ⟨#[83, 91, 97, 93]⟩, .string ⟨#[110, 101, 120, 116, 32]⟩, .string ⟨#[112, 114, 101, 118, 32]⟩]).alloc _).cell 2
       have csg2 : (w2.alloc (.cells #[.string ⟨#[126]⟩, .string ⟨#[75, 91, 98, 93]⟩, .string ⟨#[77, 91, 97, 93]⟩, .string ⟨#[83, 91, 97, 93]⟩, .string ⟨#[110, 101, 120, 116, 32]⟩, .string ⟨#[112, 114, 101, 118, 32]⟩] 9)).cell? ⟨w2.heap.size, 2, none⟩ = some (.string ⟨#[77, 91, 97, 93]⟩) := (Bk.new w2 9 #[.string ⟨#[126]⟩, .string ⟨#[75, 91, 98, 93]⟩, .string ⟨#[77, 91, 97, 93]⟩, .string ⟨#[83, 91, 97, 93]⟩, .string ⟨#[110, 101, 120, 116, 32]⟩, .string ⟨#[112, 114, 101, 118, 32]⟩]).cell 2
       have RP := rd_ndlit (w2.alloc (.cells #[.string ⟨#[126]⟩, .string ⟨#[75, 91, 98, 93]⟩, .string ⟨#[77, 91, 97, 93]⟩, .string ⟨#[83, 91, 97, 93]⟩, .string ⟨#[110, 101, 120, 116, 32]⟩, .string ⟨#[112, 114, 101, 118, 32]⟩] 9)) [⟨3, 0, 0, 0, 0, 0⟩] 1 (by omega) rfl
       rw [World.size_alloc] at RP
       have HRP := Lib.hid RP
       clear RP
       have HC := Lib.hid (c_Poss 0 (f := f1) (by omega) (R2.kept X3 fun _ _ h => h)))
    | (go_at_call 27
       (with_reducible refine HC.out.mono ?_)
       intro e w3 hpost
       obtain ⟨A3, d3, rfl, R3, K3⟩ := fr_any hpost
       rw [HU.out] at R3
       have HL3 : Hid ((mk1 10 0 0 0 f1).length = fu.length) := Lib.hid (by rw [HU.out])
       rw [HL3.out]
       have X4 : Keep NoF w1 w3 := (X2.trans X3 fun _ _ h => h).trans K3 fun _ _ h => h
       have B4 : Keep NoF (w1.alloc (.cells #[.slice a 2 2, .slice f 3 3, .slice c 1 1] 31)) w3 := (K2.trans X3 fun _ _ h => h).trans K3 fun _ _ h => h
       obtain ⟨g0, g1, g2, z3⟩ := box3 B4
       have HP3' := Lib.hid (parse_SE HP3.out (HS1.out.keep X4) (HT.out.keep0 (K1.trans X4 fun _ _ h => h)) (by have := pref_size s0 (preT 2); have hq : (preT 2).size ≤ 5 := (by decide); show (prefT s0 (preT 2)).size ≤ _; omega))
       clear hpost)
    | (go_at_call 14
       (with_reducible refine HP3'.out.mono ?_)
       rintro e w4 ⟨A4, d4, rfl, R4, K4⟩
       have k4 : Keep NoF w w4 := (K1.trans X4 fun _ _ h => h).trans K4 fun _ _ h => h
       have HA : Hid (Calls Tryd.prog 18 #[.slice A3 fu.length d3, .slice (some ⟨w2.heap.size + 1, 0, none⟩) 1 1] w4 (FmPost w4 (mk2 5 0 0 0 fu [⟨3, 0, 0, 0, 0, 0⟩]))) := Lib.hid (c_And (f := fu) (g := [⟨3, 0, 0, 0, 0, 0⟩]) (by omega) (R3.kept K4 fun _ _ h => h) (by decide) ((HRP.out.kept K3 fun _ _ h => h).kept K4 fun _ _ h => h)))
    | (go_at_call 18
       (with_reducible refine HA.out.mono ?_)
       intro e w5 hpost
       obtain ⟨A5, d5, rfl, R5, K5⟩ := fr_any hpost
       rw [HM2.out] at R5
       have HSB := Lib.hid (fmSame_any f3 f3 A4 A5 d4 d5 w5 (R4.kept K5 fun _ _ h => h) R5 (by omega) (by omega))
       rw [HSM.out] at HSB
       have HL5 : Hid ((mk2 5 0 0 0 fu [⟨3, 0, 0, 0, 0, 0⟩]).length = f3.length) := Lib.hid (by rw [HM2.out])
       rw [HL5.out]
       have k5 := k4.trans K5 fun _ _ h => h
       clear hpost)
    | (go_at_call 24; (with_reducible refine HSB.out.mono ?_); rintro e w6 ⟨rfl, K6⟩; have k6 := k5.trans K6 fun _ _ h => h)
    | (go_at_call 8; (with_reducible refine (awake_any w6 (HT.out.keep0 k6)).mono ?_); rintro e wz ⟨rfl, Kz⟩; have kz := k6.trans Kz fun _ _ h => h))
  refine bodyPost_ret (v := .bool true) (by simp [results, Tryd.results7, go_sem]) rfl ?_
  exact ⟨rfl, kz⟩
theorem prefixes_3 (s0 : ByteArray) (n : Nat) (w : World) (hT : Tab w) (h0 : s0.size ≤ 200) (hmod : (n : Int) % 6 = 3) {f1 f3 fu : List Nd} {p1 x1 p3 x3 : Int} (q1 : parseF SE s0 = (f1, p1, x1)) (q3 : parseF SE (prefT s0 (preT 3)) = (f3, p3, x3)) (hx1 : x1 = 0) (hx3 : x3 = 0) (hl : f1.length ≤ 100 ∧ f3.length ≤ 200 ∧ fu.length ≤ 200)
    (hu : mk1 15 0 0 0 f1 = fu) (hm2 : mk2 5 0 0 0 fu [⟨3, 0, 0, 0, 0, 0⟩] = f3) (hsm : sameB f3 f3 = true) :
    Calls Tryd.prog 7 #[.string s0, .int .u8 (n : Int)] w fun e w' => e = .returned (.bool true) ∧ Keep NoF w w' := by
  subst hx1 hx3
  obtain ⟨hl1, hl3, hlu⟩ := hl
  have HT := Lib.hid hT
  have HP1 := Lib.hid q1
  have HP3 : Hid (parseF SE ((((⟨#[83, 91, 97, 93]⟩ : ByteArray) ++ ⟨#[40]⟩) ++ s0) ++ ⟨#[41, 32, 38, 32, 112]⟩) = (f3, p3, 0)) := Lib.hid q3
  have HU := Lib.hid hu
  have HM2 := Lib.hid hm2
  have HSM := Lib.hid hsm
  clear hT q1 q3 hu hm2 hsm
  go_enter Tryd.func7, Tryd.ntmps7
  go_wp2_with (first
    | (go_at_call 17
       (with_reducible refine (example_any w).mono ?_)
       rintro e w1 ⟨a, f, c, rfl, S1, K1⟩
       have HS1 := Lib.hid S1
       have X0 : Keep NoF w1 (w1.alloc (.cells #[.slice a 2 2, .slice f 3 3, .slice c 1 1] 31)) := (Keep.refl _ _).alloc _
       obtain ⟨c0, c1, c2, z1⟩ := box3 (Keep.refl NoF (w1.alloc (.cells #[.slice a 2 2, .slice f 3 3, .slice c 1 1] 31)))
       have HP1' := Lib.hid (parse_SE HP1.out (HS1.out.keep X0) (HT.out.keep0 (K1.trans X0 fun _ _ h => h)) (by omega))
       clear S1)
    | (go_at_call 14
       (with_reducible refine HP1'.out.mono ?_)
       rintro e w2 ⟨A2, d2, rfl, R2, K2⟩
       have X2 : Keep NoF w1 w2 := X0.trans K2 fun _ _ h => h
       have k2 : Keep NoF w w2 := K1.trans X2 fun _ _ h => h
       have X3 : Keep NoF w2 ((w2.alloc (.cells #[.string ⟨#[126]⟩, .string ⟨#[75, 91, 98, 93]⟩, .string ⟨#[77, 91, 97, 93]⟩, .string ⟨#[83, 91, 97, 93]⟩, .string ⟨#[110, 101, 120, 116, 32]⟩, .string ⟨#[112, 114, 101, 118, 32]⟩] 9)).alloc (.cells #[.int .i64 3, .int .i64 0, .int .i64 0, .int .i64 0, .int .i64 0, .int .i64 0] 44)) := ((Keep.refl _ _).alloc _).alloc _
       have csg : ((w2.alloc (.cells #[.string ⟨#[126]⟩, .string ⟨#[75, 91, 98, 93]⟩, .string ⟨#[77, 91, 97, 93]⟩, .string ⟨#[83, 91, 97, 93]⟩, .string ⟨#[110, 101, 120, 116, 32]⟩, .string ⟨#[112, 114, 101, 118, 32]⟩] 9)).alloc (.cells #[.int .i64 3, .int .i64 0, .int .i64 0, .int .i64 0, .int .i64 0, .int .i64 0] 44)).cell? ⟨w2.heap.size, 3, none⟩ = some (.string ⟨#[83, 91, 97, 93]⟩) := ((Bk.new w2 9 #[.string ⟨#[126]⟩, .string ⟨#[75, 91, 98, 93]⟩, .string ⟨#[77, 91, 97, 93]⟩, .string ⟨#[83, 91, 97, 93]⟩, .string ⟨#[110, 101, 120, 116, 32]⟩, .string ⟨#[112, 114, 101, 118, 32]⟩]).alloc _).cell 3
       have csg2 : (w2.alloc (.cells #[.string ⟨#[126]⟩, .string ⟨#[75, 91, 98, 93]⟩, .string ⟨#[77, 91, 97, 93]⟩, .string ⟨#[83, 91, 97, 93]⟩, .string ⟨#[110, 101, 120, 116, 32]⟩, .string ⟨#[112, 114, 101, 118, 32]⟩] 9)).cell? ⟨w2.heap.size, 3, none⟩ = some (.string ⟨#[83, 91, 97, 93]⟩) := (Bk.new w2 9 #[.string ⟨#[126]⟩, .string ⟨#[75, 91, 98, 93]⟩, .string ⟨#[77, 91, 97, 93]⟩, .string ⟨#[83, 91, 97, 93]⟩, .string ⟨#[110, 101, 120, 116, 32]⟩, .string ⟨#[112, 114, 101, 118, 32]⟩]).cell 3
       have RP := rd_ndlit (w2.alloc (.cells #[.string ⟨#[126]⟩, .string ⟨#[75, 91, 98, 93]⟩, .string ⟨#[77, 91, 97, 93]⟩, .string ⟨#[83, 91, 97, 93]⟩, .string ⟨#[110, 101, 120, 116, 32]⟩, .string ⟨#[112, 114, 101, 118, 32]⟩] 9)) [⟨3, 0, 0, 0, 0, 0⟩] 1 (by omega) rfl
       rw [World.size_alloc] at RP
       have HRP := Lib.hid RP
       clear RP
       have HC := Lib.hid (c_Safe 0 (f := f1) (by omega) (R2.kept X3 fun _ _ h => h)))
    | (go_at_call 28
       (with_reducible refine HC.out.mono ?_)
       intro e w3 hpost
       obtain ⟨A3, d3, rfl, R3, K3⟩ := fr_any hpost
       rw [HU.out] at R3
       have HL3 : Hid ((mk1 15 0 0 0 f1).length = fu.length) := Lib.hid (by rw [HU.out])
       rw [HL3.out]
       have X4 : Keep NoF w1 w3 := (X2.trans X3 fun _ _ h => h).trans K3 fun _ _ h => h
       have B4 : Keep NoF (w1.alloc (.cells #[.slice a 2 2, .slice f 3 3, .slice c 1 1] 31)) w3 := (K2.trans X3 fun _ _ h => h).trans K3 fun _ _ h => h
       obtain ⟨g0, g1, g2, z3⟩ := box3 B4
       have HP3' := Lib.hid (parse_SE HP3.out (HS1.out.keep X4) (HT.out.keep0 (K1.trans X4 fun _ _ h => h)) (by have := pref_size s0 (preT 3); have hq : (preT 3).size ≤ 5 := (by decide); show (prefT s0 (preT 3)).size ≤ _; omega))
       clear hpost)
    | (go_at_call 14
       (with_reducible refine HP3'.out.mono ?_)
       rintro e w4 ⟨A4, d4, rfl, R4, K4⟩
       have k4 : Keep NoF w w4 := (K1.trans X4 fun _ _ h => h).trans K4 fun _ _ h => h
       have HA : Hid (Calls Tryd.prog 18 #[.slice A3 fu.length d3, .slice (some ⟨w2.heap.size + 1, 0, none⟩) 1 1] w4 (FmPost w4 (mk2 5 0 0 0 fu [⟨3, 0, 0, 0, 0, 0⟩]))) := Lib.hid (c_And (f := fu) (g := [⟨3, 0, 0, 0, 0, 0⟩]) (by omega) (R3.kept K4 fun _ _ h => h) (by decide) ((HRP.out.kept K3 fun _ _ h => h).kept K4 fun _ _ h => h)))
    | (go_at_call 18
       (with_reducible refine HA.out.mono ?_)
       intro e w5 hpost
       obtain ⟨A5, d5, rfl, R5, K5⟩ := fr_any hpost
       rw [HM2.out] at R5
       have HSB := Lib.hid (fmSame_any f3 f3 A4 A5 d4 d5 w5 (R4.kept K5 fun _ _ h => h) R5 (by omega) (by omega))
       rw [HSM.out] at HSB
       have HL5 : Hid ((mk2 5 0 0 0 fu [⟨3, 0, 0, 0, 0, 0⟩]).length = f3.length) := Lib.hid (by rw [HM2.out])
       rw [HL5.out]
       have k5 := k4.trans K5 fun _ _ h => h
       clear hpost)
    | (go_at_call 24; (with_reducible refine HSB.out.mono ?_); rintro e w6 ⟨rfl, K6⟩; have k6 := k5.trans K6 fun _ _ h => h)
    | (go_at_call 8; (with_reducible refine (awake_any w6 (HT.out.keep0 k6)).mono ?_); rintro e wz ⟨rfl, Kz⟩; have kz := k6.trans Kz fun _ _ h => h))
  refine bodyPost_ret (v := .bool true) (by simp [results, Tryd.results7, go_sem]) rfl ?_
  exact ⟨rfl, kz⟩
theorem prefixes_4 (s0 : ByteArray) (n : Nat) (w : World) (hT : Tab w) (h0 : s0.size ≤ 200) (hmod : (n : Int) % 6 = 4) {f1 f3 fu : List Nd} {p1 x1 p3 x3 : Int} (q1 : parseF SE s0 = (f1, p1, x1)) (q3 : parseF SE (prefT s0 (preT 4)) = (f3, p3, x3)) (hx1 : x1 = 0) (hx3 : x3 = 0) (hl : f1.length ≤ 100 ∧ f3.length ≤ 200 ∧ fu.length ≤ 200)
    (hu : mk1 18 0 0 0 f1 = fu) (hm2 : mk2 5 0 0 0 fu [⟨3, 0, 0, 0, 0, 0⟩] = f3) (hsm : sameB f3 f3 = true) :
    Calls Tryd.prog 7 #[.string s0, .int .u8 (n : Int)] w fun e w' => e = .returned (.bool true) ∧ Keep NoF w w' := by
  subst hx1 hx3
  obtain ⟨hl1, hl3, hlu⟩ := hl
  have HT := Lib.hid hT
  have HP1 := Lib.hid q1
  have HP3 : Hid (parseF SE ((((⟨#[110, 101, 120, 116, 32]⟩ : ByteArray) ++ ⟨#[40]⟩) ++ s0) ++ ⟨#[41, 32, 38, 32, 112]⟩) = (f3, p3, 0)) := Lib.hid q3
  have HU := Lib.hid hu
  have HM2 := Lib.hid hm2
  have HSM := Lib.hid hsm
  clear hT q1 q3 hu hm2 hsm
  go_enter Tryd.func7, Tryd.ntmps7
  go_wp2_with (first
    | (go_at_call 17
       (with_reducible refine (example_any w).mono ?_)
       rintro e w1 ⟨a, f, c, rfl, S1, K1⟩
       have HS1 := Lib.hid S1
       have X0 : Keep NoF w1 (w1.alloc (.cells #[.slice a 2 2, .slice f 3 3, .slice c 1 1] 31)) := (Keep.refl _ _).alloc _
       obtain ⟨c0, c1, c2, z1⟩ := box3 (Keep.refl NoF (w1.alloc (.cells #[.slice a 2 2, .slice f 3 3, .slice c 1 1] 31)))
       have HP1' := Lib.hid (parse_SE HP1.out (HS1.out.keep X0) (HT.out.keep0 (K1.trans X0 fun _ _ h => h)) (by omega))
       clear S1)
    | (go_at_call 14
       (with_reducible refine HP1'.out.mono ?_)
       rintro e w2 ⟨A2, d2, rfl, R2, K2⟩
       have X2 : Keep NoF w1 w2 := X0.trans K2 fun _ _ h => h
       have k2 : Keep NoF w w2 := K1.trans X2 fun _ _ h => h
       have X3 : Keep NoF w2 ((w2.alloc (.cells #[.string ⟨#[126]⟩, .string ⟨#[75, 91, 98, 93]⟩, .string ⟨#[77, 91, 97, 93]⟩, .string ⟨#[83, 91, 97, 93]⟩, .string ⟨#[110, 101, 120, 116, 32]⟩, .string ⟨#[112, 114, 101, 118, 32]⟩] 9)).alloc (.cells #[.int .i64 3, .int .i64 0, .int .i64 0, .int .i64 0, .int .i64 0, .int .i64 0] 44)) := ((Keep.refl _ _).alloc _).alloc _
       have csg : ((w2.alloc (.cells #[.string ⟨#[126]⟩, .string ⟨#[75, 91, 98, 93]⟩, .string ⟨#[77, 91, 97, 93]⟩, .string ⟨#[83, 91, 97, 93]⟩, .string ⟨#[110, 101, 120, 116, 32]⟩, .string ⟨#[112, 114, 101, 118, 32]⟩] 9)).alloc (.cells #[.int .i64 3, .int .i64 0, .int .i64 0, .int .i64 0, .int .i64 0, .int .i64 0] 44)).cell? ⟨w2.heap.size, 4, none⟩ = some (.string ⟨#[110, 101, 120, 116, 32]⟩) := ((Bk.new w2 9 #[.string ⟨#[126]⟩, .string ⟨#[75, 91, 98, 93]⟩, .string ⟨#[77, 91, 97, 93]⟩, .string ⟨#[83, 91, 97, 93]⟩, .string ⟨#[110, 101, 120, 116, 32]⟩, .string ⟨#[112, 114, 101, 118, 32]⟩]).alloc _).cell 4
       have csg2 : (w2.alloc (.cells #[.string ⟨#[126]⟩, .string ⟨#[75, 91, 98, 93]⟩, .string ⟨#[77, 91, 97, 93]⟩, .string ⟨#[83, 91, 97, 93]⟩, .string ⟨#[110, 101, 120, 116, 32]⟩, .string ⟨#[112, 114, 101, 118, 32]⟩] 9)).cell? ⟨w2.heap.size, 4, none⟩ = some (.string ⟨#[110, 101, 120, 116, 32]⟩) := (Bk.new w2 9 #[.string ⟨#[126]⟩, .string ⟨#[75, 91, 98, 93]⟩, .string ⟨#[77, 91, 97, 93]⟩, .string ⟨#[83, 91, 97, 93]⟩, .string ⟨#[110, 101, 120, 116, 32]⟩, .string ⟨#[112, 114, 101, 118, 32]⟩]).cell 4
       have RP := rd_ndlit (w2.alloc (.cells #[.string ⟨#[126]⟩, .string ⟨#[75, 91, 98, 93]⟩, .string ⟨#[77, 91, 97, 93]⟩, .string ⟨#[83, 91, 97, 93]⟩, .string ⟨#[110, 101, 120, 116, 32]⟩, .string ⟨#[112, 114, 101, 118, 32]⟩] 9)) [⟨3, 0, 0, 0, 0, 0⟩] 1 (by omega) rfl
       rw [World.size_alloc] at RP
       have HRP := Lib.hid RP
       clear RP
       have HC := Lib.hid (c_Next (f := f1) (by omega) (R2.kept X3 fun _ _ h => h)))
    | (go_at_call 29
       (with_reducible refine HC.out.mono ?_)
       intro e w3 hpost
       obtain ⟨A3, d3, rfl, R3, K3⟩ := fr_any hpost
       rw [HU.out] at R3
       have HL3 : Hid ((mk1 18 0 0 0 f1).length = fu.length) := Lib.hid (by rw [HU.out])
       rw [HL3.out]
       have X4 : Keep NoF w1 w3 := (X2.trans X3 fun _ _ h => h).trans K3 fun _ _ h => h
       have B4 : Keep NoF (w1.alloc (.cells #[.slice a 2 2, .slice f 3 3, .slice c 1 1] 31)) w3 := (K2.trans X3 fun _ _ h => h).trans K3 fun _ _ h => h
       obtain ⟨g0, g1, g2, z3⟩ := box3 B4
       have HP3' := Lib.hid (parse_SE HP3.out (HS1.out.keep X4) (HT.out.keep0 (K1.trans X4 fun _ _ h => h)) (by have := pref_size s0 (preT 4); have hq : (preT 4).size ≤ 5 := (by decide); show (prefT s0 (preT 4)).size ≤ _; omega))
       clear hpost)
    | (go_at_call 14
       (with_reducible refine HP3'.out.mono ?_)
       rintro e w4 ⟨A4, d4, rfl, R4, K4⟩
       have k4 : Keep NoF w w4 := (K1.trans X4 fun _ _ h => h).trans K4 fun _ _ h => h
       have HA : Hid (Calls Tryd.prog 18 #[.slice A3 fu.length d3, .slice (some ⟨w2.heap.size + 1, 0, none⟩) 1 1] w4 (FmPost w4 (mk2 5 0 0 0 fu [⟨3, 0, 0, 0, 0, 0⟩]))) := Lib.hid (c_And (f := fu) (g := [⟨3, 0, 0, 0, 0, 0⟩]) (by omega) (R3.kept K4 fun _ _ h => h) (by decide) ((HRP.out.kept K3 fun _ _ h => h).kept K4 fun _ _ h => h)))
    | (go_at_call 18
       (with_reducible refine HA.out.mono ?_)
       intro e w5 hpost
       obtain ⟨A5, d5, rfl, R5, K5⟩ := fr_any hpost
       rw [HM2.out] at R5
       have HSB := Lib.hid (fmSame_any f3 f3 A4 A5 d4 d5 w5 (R4.kept K5 fun _ _ h => h) R5 (by omega) (by omega))
       rw [HSM.out] at HSB
       have HL5 : Hid ((mk2 5 0 0 0 fu [⟨3, 0, 0, 0, 0, 0⟩]).length = f3.length) := Lib.hid (by rw [HM2.out])
       rw [HL5.out]
       have k5 := k4.trans K5 fun _ _ h => h
       clear hpost)
    | (go_at_call 24; (with_reducible refine HSB.out.mono ?_); rintro e w6 ⟨rfl, K6⟩; have k6 := k5.trans K6 fun _ _ h => h)
    | (go_at_call 8; (with_reducible refine (awake_any w6 (HT.out.keep0 k6)).mono ?_); rintro e wz ⟨rfl, Kz⟩; have kz := k6.trans Kz fun _ _ h => h))
  refine bodyPost_ret (v := .bool true) (by simp [results, Tryd.results7, go_sem]) rfl ?_
  exact ⟨rfl, kz⟩
theorem prefixes_5 (s0 : ByteArray) (n : Nat) (w : World) (hT : Tab w) (h0 : s0.size ≤ 200) (hmod : (n : Int) % 6 = 5) {f1 f3 fu : List Nd} {p1 x1 p3 x3 : Int} (q1 : parseF SE s0 = (f1, p1, x1)) (q3 : parseF SE (prefT s0 (preT 5)) = (f3, p3, x3)) (hx1 : x1 = 0) (hx3 : x3 = 0) (hl : f1.length ≤ 100 ∧ f3.length ≤ 200 ∧ fu.length ≤ 200)
    (hu : mk1 20 0 0 0 f1 = fu) (hm2 : mk2 5 0 0 0 fu [⟨3, 0, 0, 0, 0, 0⟩] = f3) (hsm : sameB f3 f3 = true) :
    Calls Tryd.prog 7 #[.string s0, .int .u8 (n : Int)] w fun e w' => e = .returned (.bool true) ∧ Keep NoF w w' := by
  subst hx1 hx3
  obtain ⟨hl1, hl3, hlu⟩ := hl
  have HT := Lib.hid hT
  have HP1 := Lib.hid q1
  have HP3 : Hid (parseF SE ((((⟨#[112, 114, 101, 118, 32]⟩ : ByteArray) ++ ⟨#[40]⟩) ++ s0) ++ ⟨#[41, 32, 38, 32, 112]⟩) = (f3, p3, 0)) := Lib.hid q3
  have HU := Lib.hid hu
  have HM2 := Lib.hid hm2
  have HSM := Lib.hid hsm
  clear hT q1 q3 hu hm2 hsm
  go_enter Tryd.func7, Tryd.ntmps7
  go_wp2_with (first
    | (go_at_call 17
       (with_reducible refine (example_any w).mono ?_)
       rintro e w1 ⟨a, f, c, rfl, S1, K1⟩
       have HS1 := Lib.hid S1
       have X0 : Keep NoF w1 (w1.alloc (.cells #[.slice a 2 2, .slice f 3 3, .slice c 1 1] 31)) := (Keep.refl _ _).alloc _
       obtain ⟨c0, c1, c2, z1⟩ := box3 (Keep.refl NoF (w1.alloc (.cells #[.slice a 2 2, .slice f 3 3, .slice c 1 1] 31)))
       have HP1' := Lib.hid (parse_SE HP1.out (HS1.out.keep X0) (HT.out.keep0 (K1.trans X0 fun _ _ h => h)) (by omega))
       clear S1)
    | (go_at_call 14
       (with_reducible refine HP1'.out.mono ?_)
       rintro e w2 ⟨A2, d2, rfl, R2, K2⟩
       have X2 : Keep NoF w1 w2 := X0.trans K2 fun _ _ h => h
       have k2 : Keep NoF w w2 := K1.trans X2 fun _ _ h => h
       have X3 : Keep NoF w2 ((w2.alloc (.cells #[.string ⟨#[126]⟩, .string ⟨#[75, 91, 98, 93]⟩, .string ⟨#[77, 91, 97, 93]⟩, .string ⟨#[83, 91, 97, 93]⟩, .string ⟨#[110, 101, 120, 116, 32]⟩, .string ⟨#[112, 114, 101, 118, 32]⟩] 9)).alloc (.cells #[.int .i64 3, .int .i64 0, .int .i64 0, .int .i64 0, .int .i64 0, .int .i64 0] 44)) := ((Keep.refl _ _).alloc _).alloc _
       have csg : ((w2.alloc (.cells #[.string ⟨#[126]⟩, .string ⟨#[75, 91, 98, 93]⟩, .string ⟨#[77, 91, 97, 93]⟩, .string ⟨#[83, 91, 97, 93]⟩, .string ⟨#[110, 101, 120, 116, 32]⟩, .string ⟨#[112, 114, 101, 118, 32]⟩] 9)).alloc (.cells #[.int .i64 3, .int .i64 0, .int .i64 0, .int .i64 0, .int .i64 0, .int .i64 0] 44)).cell? ⟨w2.heap.size, 5, none⟩ = some (.string ⟨#[112, 114, 101, 118, 32]⟩) := ((Bk.new w2 9 #[.string ⟨#[126]⟩, .string ⟨#[75, 91, 98, 93]⟩, .string ⟨#[77, 91, 97, 93]⟩, .string ⟨#[83, 91, 97, 93]⟩, .string ⟨#[110, 101, 120, 116, 32]⟩, .string ⟨#[112, 114, 101, 118, 32]⟩]).alloc _).cell 5
       have csg2 : (w2.alloc (.cells #[.string ⟨#[126]⟩, .string ⟨#[75, 91, 98, 93]⟩, .string ⟨#[77, 91, 97, 93]⟩, .string ⟨#[83, 91, 97, 93]⟩, .string ⟨#[110, 101, 120, 116, 32]⟩, .string ⟨#[112, 114, 101, 118, 32]⟩] 9)).cell? ⟨w2.heap.size, 5, none⟩ = some (.string ⟨#[112, 114, 101, 118, 32]⟩) := (Bk.new w2 9 #[.string ⟨#[126]⟩, .string ⟨#[75, 91, 98, 93]⟩, .string ⟨#[77, 91, 97, 93]⟩, .string ⟨#[83, 91, 97, 93]⟩, .string ⟨#[110, 101, 120, 116, 32]⟩, .string ⟨#[112, 114, 101, 118, 32]⟩]).cell 5
       have RP := rd_ndlit (w2.alloc (.cells #[.string ⟨#[126]⟩, .string ⟨#[75, 91, 98, 93]⟩, .string ⟨#[77, 91, 97, 93]⟩, .string ⟨#[83, 91, 97, 93]⟩, .string ⟨#[110, 101, 120, 116, 32]⟩, .string ⟨#[112, 114, 101, 118, 32]⟩] 9)) [⟨3, 0, 0, 0, 0, 0⟩] 1 (by omega) rfl
       rw [World.size_alloc] at RP
       have HRP := Lib.hid RP
       clear RP
       have HC := Lib.hid (c_Prev (f := f1) (by omega) (R2.kept X3 fun _ _ h => h)))
    | (go_at_call 30
       (with_reducible refine HC.out.mono ?_)
       intro e w3 hpost
       obtain ⟨A3, d3, rfl, R3, K3⟩ := fr_any hpost
       rw [HU.out] at R3
       have HL3 : Hid ((mk1 20 0 0 0 f1).length = fu.length) := Lib.hid (by rw [HU.out])
       rw [HL3.out]
       have X4 : Keep NoF w1 w3 := (X2.trans X3 fun _ _ h => h).trans K3 fun _ _ h => h
       have B4 : Keep NoF (w1.alloc (.cells #[.slice a 2 2, .slice f 3 3, .slice c 1 1] 31)) w3 := (K2.trans X3 fun _ _ h => h).trans K3 fun _ _ h => h
       obtain ⟨g0, g1, g2, z3⟩ := box3 B4
       have HP3' := Lib.hid (parse_SE HP3.out (HS1.out.keep X4) (HT.out.keep0 (K1.trans X4 fun _ _ h => h)) (by have := pref_size s0 (preT 5); have hq : (preT 5).size ≤ 5 := (by decide); show (prefT s0 (preT 5)).size ≤ _; omega))
       clear hpost)
    | (go_at_call 14
       (with_reducible refine HP3'.out.mono ?_)
       rintro e w4 ⟨A4, d4, rfl, R4, K4⟩
       have k4 : Keep NoF w w4 := (K1.trans X4 fun _ _ h => h).trans K4 fun _ _ h => h
       have HA : Hid (Calls Tryd.prog 18 #[.slice A3 fu.length d3, .slice (some ⟨w2.heap.size + 1, 0, none⟩) 1 1] w4 (FmPost w4 (mk2 5 0 0 0 fu [⟨3, 0, 0, 0, 0, 0⟩]))) := Lib.hid (c_And (f := fu) (g := [⟨3, 0, 0, 0, 0, 0⟩]) (by omega) (R3.kept K4 fun _ _ h => h) (by decide) ((HRP.out.kept K3 fun _ _ h => h).kept K4 fun _ _ h => h)))
    | (go_at_call 18
       (with_reducible refine HA.out.mono ?_)
       intro e w5 hpost
       obtain ⟨A5, d5, rfl, R5, K5⟩ := fr_any hpost
       rw [HM2.out] at R5
       have HSB := Lib.hid (fmSame_any f3 f3 A4 A5 d4 d5 w5 (R4.kept K5 fun _ _ h => h) R5 (by omega) (by omega))
       rw [HSM.out] at HSB
       have HL5 : Hid ((mk2 5 0 0 0 fu [⟨3, 0, 0, 0, 0, 0⟩]).length = f3.length) := Lib.hid (by rw [HM2.out])
       rw [HL5.out]
       have k5 := k4.trans K5 fun _ _ h => h
       clear hpost)
    | (go_at_call 24; (with_reducible refine HSB.out.mono ?_); rintro e w6 ⟨rfl, K6⟩; have k6 := k5.trans K6 fun _ _ h => h)
    | (go_at_call 8; (with_reducible refine (awake_any w6 (HT.out.keep0 k6)).mono ?_); rintro e wz ⟨rfl, Kz⟩; have kz := k6.trans Kz fun _ _ h => h))
  refine bodyPost_ret (v := .bool true) (by simp [results, Tryd.results7, go_sem]) rfl ?_
  exact ⟨rfl, kz⟩
theorem prefixes_big (s0 : ByteArray) (n : Nat) (w : World) (hT : Tab w) (h : 200 < s0.size) : Calls Tryd.prog 7 #[.string s0, .int .u8 (n : Int)] w fun e w' => e = .returned (.bool true) ∧ Keep NoF w w' := by
  have HT := Lib.hid hT
  clear hT
  go_enter Tryd.func7, Tryd.ntmps7
  go_wp2_with (first
    | (go_at_call 17; (with_reducible refine (example_any w).mono ?_); rintro e w1 ⟨a, f, c, rfl, S1, K1⟩; have X1 : Keep NoF w (w1.alloc (.cells #[.slice a 2 2, .slice f 3 3, .slice c 1 1] 31)) := K1.alloc _)
    | (go_at_call 8; (with_reducible refine (awake_any _ (HT.out.keep0 X1)).mono ?_); rintro e w5 ⟨rfl, K5⟩))
  refine bodyPost_ret (v := .bool true) (by simp [results, Tryd.results7, go_sem]) rfl ?_
  exact ⟨rfl, X1.trans K5 fun _ _ h => h⟩
theorem walk_ParserPrefixes (s0 : ByteArray) (n : Nat) (w : World) (hn : n < 256) (hT : Tab w) : Calls Tryd.prog 7 #[.string s0, .int .u8 (n : Int)] w fun e w' => e = .returned (.bool true) ∧ Keep NoF w w' := by
  by_cases hb : 200 < s0.size
  · exact prefixes_big s0 n w hT hb
  · have h0 : s0.size ≤ 200 := by omega
    obtain ⟨⟨f1, p1, x1⟩, q1⟩ : ∃ r, parseF SE s0 = r := ⟨_, rfl⟩
    by_cases hx : x1 ≠ 0 ∨ (x1 = 0 ∧ 100 < f1.length)
    · exact prefixes_no s0 n w hT h0 q1 hx
    · have hx1 : x1 = 0 := by omega
      have hl1 : f1.length ≤ 100 := by omega
      obtain ⟨m, hm, hmod⟩ : ∃ m : Nat, m < 6 ∧ (n : Int) % 6 = (m : Int) := ⟨n % 6, Nat.mod_lt _ (by omega), by omega⟩
      obtain ⟨ta, r1, l1, hg, l2, l3, r3⟩ := prefixes_law hm h0 (by rw [q1]; exact hx1) (by rw [q1]; exact hl1)
      rw [q1] at r1
      cases r1
      have gu := hg.2.2.1
      have hmu := mk1_cl gu (by omega) (by omega)
      have hmk := mk2_cl hg (by omega) (by decide +kernel) (by omega)
      rw [show cl (leaf 3 0 0 0) = [⟨3, 0, 0, 0, 0, 0⟩] by decide +kernel] at hmk
      have hsm := same_cl hg (by omega)
      have hm6 : m = 0 ∨ m = 1 ∨ m = 2 ∨ m = 3 ∨ m = 4 ∨ m = 5 := by omega
      rcases hm6 with rfl | rfl | rfl | rfl | rfl | rfl
      · exact prefixes_0 s0 n w hT h0 hmod q1 r3 rfl rfl ⟨l1, by omega, by omega⟩ hmu hmk hsm
      · exact prefixes_1 s0 n w hT h0 hmod q1 r3 rfl rfl ⟨l1, by omega, by omega⟩ hmu hmk hsm
      · exact prefixes_2 s0 n w hT h0 hmod q1 r3 rfl rfl ⟨l1, by omega, by omega⟩ hmu hmk hsm
      · exact prefixes_3 s0 n w hT h0 hmod q1 r3 rfl rfl ⟨l1, by omega, by omega⟩ hmu hmk hsm
      · exact prefixes_4 s0 n w hT h0 hmod q1 r3 rfl rfl ⟨l1, by omega, by omega⟩ hmu hmk hsm
      · exact prefixes_5 s0 n w hT h0 hmod q1 r3 rfl rfl ⟨l1, by omega, by omega⟩ hmu hmk hsm
end
end Go.Proofs.YtdhdcenjiopofaaDoor
