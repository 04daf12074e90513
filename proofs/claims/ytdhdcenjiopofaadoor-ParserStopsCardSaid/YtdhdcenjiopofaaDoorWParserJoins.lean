/- The law ParserJoins answers true. Conditions: the variables lie as they are read. -/
import Derived.Test.YtdhdcenjiopofaaDoorPc7
import Derived.Test.YtdhdcenjiopofaaDoorWParserSpaces
import Derived.Deep.DeepCutAuto
set_option linter.unusedVariables false
set_option linter.unusedSimpArgs false
namespace Go.Proofs.YtdhdcenjiopofaaDoor
open Go.RowKit
open Fm (Nd cl mk1 mk2)
open Fm.Form

theorem parse_SE {a f c : Option Addr} {t : ByteArray} {l : List Nd} {p x : Int} {w : World} (hp : parseF SE t = (l, p, x)) (hS : SigR w SE a 2 f 3 c 1) (hT : Tab w) (ht : t.size ≤ 9223372036854775807) :
    Calls Tryd.prog 14 #[.agg #[.slice a 2 2, .slice f 3 3, .slice c 1 1], .string t] w fun e w' => ∃ (A : Option Addr) (c : Nat), e = .returned (.tuple #[.slice A l.length c, .int .i64 p, .int .i64 x]) ∧ Rd w' (.slice A l.length c) 6 l.length (fmC l) ∧ Keep NoF w w' := aPar t l p x ht hS hT hp
theorem box3 {w w' : World} {a f c : Option Addr} (hk : Keep NoF (w.alloc (.cells #[.slice a 2 2, .slice f 3 3, .slice c 1 1] 31)) w') :
    w'.cell? ⟨w.heap.size, 0, none⟩ = some (.slice a 2 2) ∧ w'.cell? ⟨w.heap.size, 1, none⟩ = some (.slice f 3 3) ∧ w'.cell? ⟨w.heap.size, 2, none⟩ = some (.slice c 1 1) ∧ w.heap.size + 1 ≤ w'.heap.size := by
  have hb := Bk.new w 31 #[.slice a 2 2, .slice f 3 3, .slice c 1 1]
  refine ⟨hk.cellv ((hb.cell 0).trans rfl) fun h => h, hk.cellv ((hb.cell 1).trans rfl) fun h => h, hk.cellv ((hb.cell 2).trans rfl) fun h => h, ?_⟩
  have := hk.size
  rwa [World.size_alloc] at this
theorem join_size (a b s : ByteArray) : (joinT a b s).size = a.size + b.size + s.size + 4 := by
  rw [← data_len]; simp [joinT]; omega
theorem fr_any {w w' : World} {l : List Nd} {e : Ending} (h : FmPost w l e w') : ∃ (A : Option Addr) (c : Nat), e = .returned (.slice A l.length c) ∧ Rd w' (.slice A l.length c) 6 l.length (fmC l) ∧ Keep NoF w w' := by
  obtain ⟨A, c, he, hr, hk, _⟩ := h
  exact ⟨A, c, he, hr, hk⟩
section
set_option maxRecDepth 100000
set_option maxHeartbeats 4000000
theorem joins_no (s0 s1 sg : ByteArray) (m n : Nat) (w : World) (hT : Tab w) (h0 : s0.size ≤ 200) (h1 : s1.size ≤ 200) (hm : m < 6) (hmod : (n : Int) % 6 = (m : Int)) (hsg : (#[.string ⟨#[38]⟩, .string ⟨#[124]⟩, .string ⟨#[45, 62]⟩, .string ⟨#[60, 45, 62]⟩, .string ⟨#[117, 110, 116, 105, 108]⟩, .string ⟨#[115, 105, 110, 99, 101]⟩] : Array Value)[m]? = some (.string sg) ∧ sg.size ≤ 5)
    {f1 f2 f3 : List Nd} {p1 x1 p2 x2 p3 x3 : Int} (q1 : parseF SE s0 = (f1, p1, x1)) (q2 : parseF SE s1 = (f2, p2, x2)) (q3 : parseF SE (joinT s0 s1 sg) = (f3, p3, x3)) (hx : x1 ≠ 0 ∨ (x1 = 0 ∧ x2 ≠ 0)) : Calls Tryd.prog 6 #[.string s0, .string s1, .int .u8 (n : Int)] w fun e w' => e = .returned (.bool true) ∧ Keep NoF w w' := by
  have HT := Lib.hid hT
  have HP1 := Lib.hid q1
  have HP2 := Lib.hid q2
  have HP3 : Hid (parseF SE (((((((⟨#[40]⟩ : ByteArray) ++ s0) ++ ⟨#[41]⟩) ++ sg) ++ ⟨#[40]⟩) ++ s1) ++ ⟨#[41]⟩) = (f3, p3, x3)) := Lib.hid q3
  have HSG := Lib.hid hsg
  have hs5 := hsg.2
  have hm0 : (0 : Int) ≤ (m : Int) := by omega
  have hm6 : (m : Int) < 6 := by omega
  clear hT q1 q2 q3 hsg
  rcases hx with hx | ⟨rfl, hx⟩
  · have hx' : (x1 != 0) = true := by simpa using hx
    clear hx
    go_enter Tryd.func6, Tryd.ntmps6
    go_wp2_with (first
      | (go_at_call 17
         (with_reducible refine (example_any w).mono ?_)
         rintro e w1 ⟨a, f, c, rfl, S1, K1⟩
         have HS1 := Lib.hid S1
         have X0 : Keep NoF w1 (w1.alloc (.cells #[.slice a 2 2, .slice f 3 3, .slice c 1 1] 31)) := (Keep.refl _ _).alloc _
         obtain ⟨c0, c1, c2, z1⟩ := box3 (Keep.refl NoF (w1.alloc (.cells #[.slice a 2 2, .slice f 3 3, .slice c 1 1] 31)))
         have HP1' := Lib.hid (parse_SE HP1.out (HS1.out.keep X0) (HT.out.keep0 (K1.trans X0 fun _ _ h => h)) (by omega))
         clear S1)
      | (go_at_call 14
         (with_reducible refine HP1'.out.mono ?_)
         rintro e w2 ⟨A2, d2, rfl, R2, K2⟩
         have X2 : Keep NoF w1 w2 := X0.trans K2 fun _ _ h => h
         obtain ⟨e0, e1, e2, z2⟩ := box3 K2
         have HP2' := Lib.hid (parse_SE HP2.out (HS1.out.keep X2) (HT.out.keep0 (K1.trans X2 fun _ _ h => h)) (by omega)))
      | (go_at_call 14
         (with_reducible refine HP2'.out.mono ?_)
         rintro e w3 ⟨A3, d3, rfl, R3, K3⟩
         have X3 : Keep NoF w1 w3 := X2.trans K3 fun _ _ h => h
         have X34 : Keep NoF w1 (w3.alloc (.cells #[.string ⟨#[38]⟩, .string ⟨#[124]⟩, .string ⟨#[45, 62]⟩, .string ⟨#[60, 45, 62]⟩, .string ⟨#[117, 110, 116, 105, 108]⟩, .string ⟨#[115, 105, 110, 99, 101]⟩] 9)) := X3.alloc _
         have B34 : Keep NoF (w1.alloc (.cells #[.slice a 2 2, .slice f 3 3, .slice c 1 1] 31)) (w3.alloc (.cells #[.string ⟨#[38]⟩, .string ⟨#[124]⟩, .string ⟨#[45, 62]⟩, .string ⟨#[60, 45, 62]⟩, .string ⟨#[117, 110, 116, 105, 108]⟩, .string ⟨#[115, 105, 110, 99, 101]⟩] 9)) := (K2.trans K3 fun _ _ h => h).alloc _
         obtain ⟨g0, g1, g2, z3⟩ := box3 B34
         have csg : (w3.alloc (.cells #[.string ⟨#[38]⟩, .string ⟨#[124]⟩, .string ⟨#[45, 62]⟩, .string ⟨#[60, 45, 62]⟩, .string ⟨#[117, 110, 116, 105, 108]⟩, .string ⟨#[115, 105, 110, 99, 101]⟩] 9)).cell? ⟨w3.heap.size, m, none⟩ = some (.string sg) := ((Bk.new w3 9 #[.string ⟨#[38]⟩, .string ⟨#[124]⟩, .string ⟨#[45, 62]⟩, .string ⟨#[60, 45, 62]⟩, .string ⟨#[117, 110, 116, 105, 108]⟩, .string ⟨#[115, 105, 110, 99, 101]⟩]).cell m).trans HSG.out.1
         have HP3' := Lib.hid (parse_SE HP3.out (HS1.out.keep X34) (HT.out.keep0 (K1.trans X34 fun _ _ h => h)) (by have := join_size s0 s1 sg; show (joinT s0 s1 sg).size ≤ _; omega)))
      | (go_at_call 14
         (with_reducible refine HP3'.out.mono ?_)
         rintro e w4 ⟨A4, d4, rfl, R4, K4⟩
         have X4 : Keep NoF w1 w4 := X34.trans K4 fun _ _ h => h
         have k4 : Keep NoF w w4 := K1.trans X4 fun _ _ h => h)
      | (go_at_call 8; (with_reducible refine (awake_any w4 (HT.out.keep0 k4)).mono ?_); rintro e w5 ⟨rfl, K5⟩; have k5 := k4.trans K5 fun _ _ h => h))
    refine bodyPost_ret (v := .bool true) (by simp [results, Tryd.results6, go_sem]) rfl ?_
    exact ⟨rfl, k5⟩
  · have hx' : (x2 != 0) = true := by simpa using hx
    clear hx
    go_enter Tryd.func6, Tryd.ntmps6
    go_wp2_with (first
      | (go_at_call 17
         (with_reducible refine (example_any w).mono ?_)
         rintro e w1 ⟨a, f, c, rfl, S1, K1⟩
         have HS1 := Lib.hid S1
         have X0 : Keep NoF w1 (w1.alloc (.cells #[.slice a 2 2, .slice f 3 3, .slice c 1 1] 31)) := (Keep.refl _ _).alloc _
         obtain ⟨c0, c1, c2, z1⟩ := box3 (Keep.refl NoF (w1.alloc (.cells #[.slice a 2 2, .slice f 3 3, .slice c 1 1] 31)))
         have HP1' := Lib.hid (parse_SE HP1.out (HS1.out.keep X0) (HT.out.keep0 (K1.trans X0 fun _ _ h => h)) (by omega))
         clear S1)
      | (go_at_call 14
         (with_reducible refine HP1'.out.mono ?_)
         rintro e w2 ⟨A2, d2, rfl, R2, K2⟩
         have X2 : Keep NoF w1 w2 := X0.trans K2 fun _ _ h => h
         obtain ⟨e0, e1, e2, z2⟩ := box3 K2
         have HP2' := Lib.hid (parse_SE HP2.out (HS1.out.keep X2) (HT.out.keep0 (K1.trans X2 fun _ _ h => h)) (by omega)))
      | (go_at_call 14
         (with_reducible refine HP2'.out.mono ?_)
         rintro e w3 ⟨A3, d3, rfl, R3, K3⟩
         have X3 : Keep NoF w1 w3 := X2.trans K3 fun _ _ h => h
         have X34 : Keep NoF w1 (w3.alloc (.cells #[.string ⟨#[38]⟩, .string ⟨#[124]⟩, .string ⟨#[45, 62]⟩, .string ⟨#[60, 45, 62]⟩, .string ⟨#[117, 110, 116, 105, 108]⟩, .string ⟨#[115, 105, 110, 99, 101]⟩] 9)) := X3.alloc _
         have B34 : Keep NoF (w1.alloc (.cells #[.slice a 2 2, .slice f 3 3, .slice c 1 1] 31)) (w3.alloc (.cells #[.string ⟨#[38]⟩, .string ⟨#[124]⟩, .string ⟨#[45, 62]⟩, .string ⟨#[60, 45, 62]⟩, .string ⟨#[117, 110, 116, 105, 108]⟩, .string ⟨#[115, 105, 110, 99, 101]⟩] 9)) := (K2.trans K3 fun _ _ h => h).alloc _
         obtain ⟨g0, g1, g2, z3⟩ := box3 B34
         have csg : (w3.alloc (.cells #[.string ⟨#[38]⟩, .string ⟨#[124]⟩, .string ⟨#[45, 62]⟩, .string ⟨#[60, 45, 62]⟩, .string ⟨#[117, 110, 116, 105, 108]⟩, .string ⟨#[115, 105, 110, 99, 101]⟩] 9)).cell? ⟨w3.heap.size, m, none⟩ = some (.string sg) := ((Bk.new w3 9 #[.string ⟨#[38]⟩, .string ⟨#[124]⟩, .string ⟨#[45, 62]⟩, .string ⟨#[60, 45, 62]⟩, .string ⟨#[117, 110, 116, 105, 108]⟩, .string ⟨#[115, 105, 110, 99, 101]⟩]).cell m).trans HSG.out.1
         have HP3' := Lib.hid (parse_SE HP3.out (HS1.out.keep X34) (HT.out.keep0 (K1.trans X34 fun _ _ h => h)) (by have := join_size s0 s1 sg; show (joinT s0 s1 sg).size ≤ _; omega)))
      | (go_at_call 14
         (with_reducible refine HP3'.out.mono ?_)
         rintro e w4 ⟨A4, d4, rfl, R4, K4⟩
         have X4 : Keep NoF w1 w4 := X34.trans K4 fun _ _ h => h
         have k4 : Keep NoF w w4 := K1.trans X4 fun _ _ h => h)
      | (go_at_call 8; (with_reducible refine (awake_any w4 (HT.out.keep0 k4)).mono ?_); rintro e w5 ⟨rfl, K5⟩; have k5 := k4.trans K5 fun _ _ h => h))
    refine bodyPost_ret (v := .bool true) (by simp [results, Tryd.results6, go_sem]) rfl ?_
    exact ⟨rfl, k5⟩
theorem joins_long (s0 s1 sg : ByteArray) (m n : Nat) (w : World) (hT : Tab w) (h0 : s0.size ≤ 200) (h1 : s1.size ≤ 200) (hm : m < 6) (hmod : (n : Int) % 6 = (m : Int)) (hsg : (#[.string ⟨#[38]⟩, .string ⟨#[124]⟩, .string ⟨#[45, 62]⟩, .string ⟨#[60, 45, 62]⟩, .string ⟨#[117, 110, 116, 105, 108]⟩, .string ⟨#[115, 105, 110, 99, 101]⟩] : Array Value)[m]? = some (.string sg) ∧ sg.size ≤ 5)
    {f1 f2 f3 : List Nd} {p1 x1 p2 x2 p3 x3 : Int} (q1 : parseF SE s0 = (f1, p1, x1)) (q2 : parseF SE s1 = (f2, p2, x2)) (q3 : parseF SE (joinT s0 s1 sg) = (f3, p3, x3)) (hx1 : x1 = 0) (hx2 : x2 = 0) (hx3 : x3 = 8) (hl : 200 ≤ f1.length + f2.length) (hl2 : f1.length ≤ 200 ∧ f2.length ≤ 200) : Calls Tryd.prog 6 #[.string s0, .string s1, .int .u8 (n : Int)] w fun e w' => e = .returned (.bool true) ∧ Keep NoF w w' := by
  have HT := Lib.hid hT
  have HP1 := Lib.hid q1
  have HP2 := Lib.hid q2
  have HP3 : Hid (parseF SE (((((((⟨#[40]⟩ : ByteArray) ++ s0) ++ ⟨#[41]⟩) ++ sg) ++ ⟨#[40]⟩) ++ s1) ++ ⟨#[41]⟩) = (f3, p3, x3)) := Lib.hid q3
  have HSG := Lib.hid hsg
  have hs5 := hsg.2
  have hm0 : (0 : Int) ≤ (m : Int) := by omega
  have hm6 : (m : Int) < 6 := by omega
  clear hT q1 q2 q3 hsg
  subst hx1 hx2 hx3
  have hl' : (200 : Int) ≤ (f1.length : Int) + (f2.length : Int) := by omega
  obtain ⟨hl3, hl4⟩ := hl2
  go_enter Tryd.func6, Tryd.ntmps6
  go_wp2_with (first
    | (go_at_call 17
       (with_reducible refine (example_any w).mono ?_)
       rintro e w1 ⟨a, f, c, rfl, S1, K1⟩
       have HS1 := Lib.hid S1
       have X0 : Keep NoF w1 (w1.alloc (.cells #[.slice a 2 2, .slice f 3 3, .slice c 1 1] 31)) := (Keep.refl _ _).alloc _
       obtain ⟨c0, c1, c2, z1⟩ := box3 (Keep.refl NoF (w1.alloc (.cells #[.slice a 2 2, .slice f 3 3, .slice c 1 1] 31)))
       have HP1' := Lib.hid (parse_SE HP1.out (HS1.out.keep X0) (HT.out.keep0 (K1.trans X0 fun _ _ h => h)) (by omega))
       clear S1)
    | (go_at_call 14
       (with_reducible refine HP1'.out.mono ?_)
       rintro e w2 ⟨A2, d2, rfl, R2, K2⟩
       have X2 : Keep NoF w1 w2 := X0.trans K2 fun _ _ h => h
       obtain ⟨e0, e1, e2, z2⟩ := box3 K2
       have HP2' := Lib.hid (parse_SE HP2.out (HS1.out.keep X2) (HT.out.keep0 (K1.trans X2 fun _ _ h => h)) (by omega)))
    | (go_at_call 14
       (with_reducible refine HP2'.out.mono ?_)
       rintro e w3 ⟨A3, d3, rfl, R3, K3⟩
       have X3 : Keep NoF w1 w3 := X2.trans K3 fun _ _ h => h
       have X34 : Keep NoF w1 (w3.alloc (.cells #[.string ⟨#[38]⟩, .string ⟨#[124]⟩, .string ⟨#[45, 62]⟩, .string ⟨#[60, 45, 62]⟩, .string ⟨#[117, 110, 116, 105, 108]⟩, .string ⟨#[115, 105, 110, 99, 101]⟩] 9)) := X3.alloc _
       have B34 : Keep NoF (w1.alloc (.cells #[.slice a 2 2, .slice f 3 3, .slice c 1 1] 31)) (w3.alloc (.cells #[.string ⟨#[38]⟩, .string ⟨#[124]⟩, .string ⟨#[45, 62]⟩, .string ⟨#[60, 45, 62]⟩, .string ⟨#[117, 110, 116, 105, 108]⟩, .string ⟨#[115, 105, 110, 99, 101]⟩] 9)) := (K2.trans K3 fun _ _ h => h).alloc _
       obtain ⟨g0, g1, g2, z3⟩ := box3 B34
       have csg : (w3.alloc (.cells #[.string ⟨#[38]⟩, .string ⟨#[124]⟩, .string ⟨#[45, 62]⟩, .string ⟨#[60, 45, 62]⟩, .string ⟨#[117, 110, 116, 105, 108]⟩, .string ⟨#[115, 105, 110, 99, 101]⟩] 9)).cell? ⟨w3.heap.size, m, none⟩ = some (.string sg) := ((Bk.new w3 9 #[.string ⟨#[38]⟩, .string ⟨#[124]⟩, .string ⟨#[45, 62]⟩, .string ⟨#[60, 45, 62]⟩, .string ⟨#[117, 110, 116, 105, 108]⟩, .string ⟨#[115, 105, 110, 99, 101]⟩]).cell m).trans HSG.out.1
       have HP3' := Lib.hid (parse_SE HP3.out (HS1.out.keep X34) (HT.out.keep0 (K1.trans X34 fun _ _ h => h)) (by have := join_size s0 s1 sg; show (joinT s0 s1 sg).size ≤ _; omega)))
    | (go_at_call 14
       (with_reducible refine HP3'.out.mono ?_)
       rintro e w4 ⟨A4, d4, rfl, R4, K4⟩
       have X4 : Keep NoF w1 w4 := X34.trans K4 fun _ _ h => h
       have k4 : Keep NoF w w4 := K1.trans X4 fun _ _ h => h)
    | (go_at_call 8; (with_reducible refine (awake_any w4 (HT.out.keep0 k4)).mono ?_); rintro e w5 ⟨rfl, K5⟩; have k5 := k4.trans K5 fun _ _ h => h))
  refine bodyPost_ret (v := .bool true) (by simp [results, Tryd.results6, go_sem]) rfl ?_
  exact ⟨rfl, k5⟩
theorem joins_0 (s0 s1 sg : ByteArray) (n : Nat) (w : World) (hT : Tab w) (h0 : s0.size ≤ 200) (h1 : s1.size ≤ 200) (hsg : (#[.string ⟨#[38]⟩, .string ⟨#[124]⟩, .string ⟨#[45, 62]⟩, .string ⟨#[60, 45, 62]⟩, .string ⟨#[117, 110, 116, 105, 108]⟩, .string ⟨#[115, 105, 110, 99, 101]⟩] : Array Value)[0]? = some (.string sg) ∧ sg.size ≤ 5)
    {f1 f2 f3 : List Nd} {p1 x1 p2 x2 p3 x3 : Int} (q1 : parseF SE s0 = (f1, p1, x1)) (q2 : parseF SE s1 = (f2, p2, x2)) (q3 : parseF SE (joinT s0 s1 sg) = (f3, p3, x3)) (hmod : (n : Int) % 6 = 0) (hx1 : x1 = 0) (hx2 : x2 = 0) (hx3 : x3 = 0) (hl : f1.length ≤ 200 ∧ f2.length ≤ 200 ∧ f3.length ≤ 200) (hm2 : mk2 5 0 0 0 f1 f2 = f3) (hsm : sameB f3 f3 = true) : Calls Tryd.prog 6 #[.string s0, .string s1, .int .u8 (n : Int)] w fun e w' => e = .returned (.bool true) ∧ Keep NoF w w' := by
  have HT := Lib.hid hT
  have HP1 := Lib.hid q1
  have HP2 := Lib.hid q2
  have HP3 : Hid (parseF SE (((((((⟨#[40]⟩ : ByteArray) ++ s0) ++ ⟨#[41]⟩) ++ sg) ++ ⟨#[40]⟩) ++ s1) ++ ⟨#[41]⟩) = (f3, p3, x3)) := Lib.hid q3
  have HSG := Lib.hid hsg
  have hs5 := hsg.2
  clear hT q1 q2 q3 hsg
  subst hx1 hx2 hx3
  obtain ⟨hl3, hl4, hl5⟩ := hl
  have HM2 := Lib.hid hm2
  have HSM := Lib.hid hsm
  clear hm2 hsm
  go_enter Tryd.func6, Tryd.ntmps6
  go_wp2_with (first
    | (go_at_call 17
       (with_reducible refine (example_any w).mono ?_)
       rintro e w1 ⟨a, f, c, rfl, S1, K1⟩
       have HS1 := Lib.hid S1
       have X0 : Keep NoF w1 (w1.alloc (.cells #[.slice a 2 2, .slice f 3 3, .slice c 1 1] 31)) := (Keep.refl _ _).alloc _
       obtain ⟨c0, c1, c2, z1⟩ := box3 (Keep.refl NoF (w1.alloc (.cells #[.slice a 2 2, .slice f 3 3, .slice c 1 1] 31)))
       have HP1' := Lib.hid (parse_SE HP1.out (HS1.out.keep X0) (HT.out.keep0 (K1.trans X0 fun _ _ h => h)) (by omega))
       clear S1)
    | (go_at_call 14
       (with_reducible refine HP1'.out.mono ?_)
       rintro e w2 ⟨A2, d2, rfl, R2, K2⟩
       have X2 : Keep NoF w1 w2 := X0.trans K2 fun _ _ h => h
       obtain ⟨e0, e1, e2, z2⟩ := box3 K2
       have HP2' := Lib.hid (parse_SE HP2.out (HS1.out.keep X2) (HT.out.keep0 (K1.trans X2 fun _ _ h => h)) (by omega)))
    | (go_at_call 14
       (with_reducible refine HP2'.out.mono ?_)
       rintro e w3 ⟨A3, d3, rfl, R3, K3⟩
       have X3 : Keep NoF w1 w3 := X2.trans K3 fun _ _ h => h
       have X34 : Keep NoF w1 (w3.alloc (.cells #[.string ⟨#[38]⟩, .string ⟨#[124]⟩, .string ⟨#[45, 62]⟩, .string ⟨#[60, 45, 62]⟩, .string ⟨#[117, 110, 116, 105, 108]⟩, .string ⟨#[115, 105, 110, 99, 101]⟩] 9)) := X3.alloc _
       have B34 : Keep NoF (w1.alloc (.cells #[.slice a 2 2, .slice f 3 3, .slice c 1 1] 31)) (w3.alloc (.cells #[.string ⟨#[38]⟩, .string ⟨#[124]⟩, .string ⟨#[45, 62]⟩, .string ⟨#[60, 45, 62]⟩, .string ⟨#[117, 110, 116, 105, 108]⟩, .string ⟨#[115, 105, 110, 99, 101]⟩] 9)) := (K2.trans K3 fun _ _ h => h).alloc _
       obtain ⟨g0, g1, g2, z3⟩ := box3 B34
       have csg : (w3.alloc (.cells #[.string ⟨#[38]⟩, .string ⟨#[124]⟩, .string ⟨#[45, 62]⟩, .string ⟨#[60, 45, 62]⟩, .string ⟨#[117, 110, 116, 105, 108]⟩, .string ⟨#[115, 105, 110, 99, 101]⟩] 9)).cell? ⟨w3.heap.size, 0, none⟩ = some (.string sg) := ((Bk.new w3 9 #[.string ⟨#[38]⟩, .string ⟨#[124]⟩, .string ⟨#[45, 62]⟩, .string ⟨#[60, 45, 62]⟩, .string ⟨#[117, 110, 116, 105, 108]⟩, .string ⟨#[115, 105, 110, 99, 101]⟩]).cell 0).trans HSG.out.1
       have HP3' := Lib.hid (parse_SE HP3.out (HS1.out.keep X34) (HT.out.keep0 (K1.trans X34 fun _ _ h => h)) (by have := join_size s0 s1 sg; show (joinT s0 s1 sg).size ≤ _; omega)))
    | (go_at_call 14
       (with_reducible refine HP3'.out.mono ?_)
       rintro e w4 ⟨A4, d4, rfl, R4, K4⟩
       have X4 : Keep NoF w1 w4 := X34.trans K4 fun _ _ h => h
       have k4 : Keep NoF w w4 := K1.trans X4 fun _ _ h => h
       have HC := Lib.hid (c_And (f := f1) (g := f2) (by omega) (R2.kept ((K3.alloc _).trans K4 fun _ _ h => h) fun _ _ h => h) (by omega) (R3.kept (((Keep.refl NoF w3).alloc _).trans K4 fun _ _ h => h) fun _ _ h => h)))
    | (go_at_call 18
       (with_reducible refine HC.out.mono ?_)
       intro e w5 hpost
       obtain ⟨A5, d5, rfl, R5, K5⟩ := fr_any hpost
       rw [HM2.out] at R5
       have HSB := Lib.hid (fmSame_any f3 f3 A4 A5 d4 d5 w5 (R4.kept K5 fun _ _ h => h) R5 (by omega) (by omega))
       rw [HSM.out] at HSB
       have HL5 : Hid ((mk2 5 0 0 0 f1 f2).length = f3.length) := Lib.hid (by rw [HM2.out])
       rw [HL5.out]
       have k5 := k4.trans K5 fun _ _ h => h
       clear hpost)
    | (go_at_call 24; (with_reducible refine HSB.out.mono ?_); rintro e w6 ⟨rfl, K6⟩; have k6 := k5.trans K6 fun _ _ h => h)
    | (go_at_call 8; (with_reducible refine (awake_any w6 (HT.out.keep0 k6)).mono ?_); rintro e w7 ⟨rfl, K7⟩; have k7 := k6.trans K7 fun _ _ h => h))
  refine bodyPost_ret (v := .bool true) (by simp [results, Tryd.results6, go_sem]) rfl ?_
  exact ⟨rfl, k7⟩
theorem joins_1 (s0 s1 sg : ByteArray) (n : Nat) (w : World) (hT : Tab w) (h0 : s0.size ≤ 200) (h1 : s1.size ≤ 200) (hsg : (#[.string ⟨#[38]⟩, .string ⟨#[124]⟩, .string ⟨#[45, 62]⟩, .string ⟨#[60, 45, 62]⟩, .string ⟨#[117, 110, 116, 105, 108]⟩, .string ⟨#[115, 105, 110, 99, 101]⟩] : Array Value)[1]? = some (.string sg) ∧ sg.size ≤ 5)
    {f1 f2 f3 : List Nd} {p1 x1 p2 x2 p3 x3 : Int} (q1 : parseF SE s0 = (f1, p1, x1)) (q2 : parseF SE s1 = (f2, p2, x2)) (q3 : parseF SE (joinT s0 s1 sg) = (f3, p3, x3)) (hmod : (n : Int) % 6 = 1) (hx1 : x1 = 0) (hx2 : x2 = 0) (hx3 : x3 = 0) (hl : f1.length ≤ 200 ∧ f2.length ≤ 200 ∧ f3.length ≤ 200) (hm2 : mk2 6 0 0 0 f1 f2 = f3) (hsm : sameB f3 f3 = true) : Calls Tryd.prog 6 #[.string s0, .string s1, .int .u8 (n : Int)] w fun e w' => e = .returned (.bool true) ∧ Keep NoF w w' := by
  have HT := Lib.hid hT
  have HP1 := Lib.hid q1
  have HP2 := Lib.hid q2
  have HP3 : Hid (parseF SE (((((((⟨#[40]⟩ : ByteArray) ++ s0) ++ ⟨#[41]⟩) ++ sg) ++ ⟨#[40]⟩) ++ s1) ++ ⟨#[41]⟩) = (f3, p3, x3)) := Lib.hid q3
  have HSG := Lib.hid hsg
  have hs5 := hsg.2
  clear hT q1 q2 q3 hsg
  subst hx1 hx2 hx3
  obtain ⟨hl3, hl4, hl5⟩ := hl
  have HM2 := Lib.hid hm2
  have HSM := Lib.hid hsm
  clear hm2 hsm
  go_enter Tryd.func6, Tryd.ntmps6
  go_wp2_with (first
    | (go_at_call 17
       (with_reducible refine (example_any w).mono ?_)
       rintro e w1 ⟨a, f, c, rfl, S1, K1⟩
       have HS1 := Lib.hid S1
       have X0 : Keep NoF w1 (w1.alloc (.cells #[.slice a 2 2, .slice f 3 3, .slice c 1 1] 31)) := (Keep.refl _ _).alloc _
       obtain ⟨c0, c1, c2, z1⟩ := box3 (Keep.refl NoF (w1.alloc (.cells #[.slice a 2 2, .slice f 3 3, .slice c 1 1] 31)))
       have HP1' := Lib.hid (parse_SE HP1.out (HS1.out.keep X0) (HT.out.keep0 (K1.trans X0 fun _ _ h => h)) (by omega))
       clear S1)
    | (go_at_call 14
       (with_reducible refine HP1'.out.mono ?_)
       rintro e w2 ⟨A2, d2, rfl, R2, K2⟩
       have X2 : Keep NoF w1 w2 := X0.trans K2 fun _ _ h => h
       obtain ⟨e0, e1, e2, z2⟩ := box3 K2
       have HP2' := Lib.hid (parse_SE HP2.out (HS1.out.keep X2) (HT.out.keep0 (K1.trans X2 fun _ _ h => h)) (by omega)))
    | (go_at_call 14
       (with_reducible refine HP2'.out.mono ?_)
       rintro e w3 ⟨A3, d3, rfl, R3, K3⟩
       have X3 : Keep NoF w1 w3 := X2.trans K3 fun _ _ h => h
       have X34 : Keep NoF w1 (w3.alloc (.cells #[.string ⟨#[38]⟩, .string ⟨#[124]⟩, .string ⟨#[45, 62]⟩, .string ⟨#[60, 45, 62]⟩, .string ⟨#[117, 110, 116, 105, 108]⟩, .string ⟨#[115, 105, 110, 99, 101]⟩] 9)) := X3.alloc _
       have B34 : Keep NoF (w1.alloc (.cells #[.slice a 2 2, .slice f 3 3, .slice c 1 1] 31)) (w3.alloc (.cells #[.string ⟨#[38]⟩, .string ⟨#[124]⟩, .string ⟨#[45, 62]⟩, .string ⟨#[60, 45, 62]⟩, .string ⟨#[117, 110, 116, 105, 108]⟩, .string ⟨#[115, 105, 110, 99, 101]⟩] 9)) := (K2.trans K3 fun _ _ h => h).alloc _
       obtain ⟨g0, g1, g2, z3⟩ := box3 B34
       have csg : (w3.alloc (.cells #[.string ⟨#[38]⟩, .string ⟨#[124]⟩, .string ⟨#[45, 62]⟩, .string ⟨#[60, 45, 62]⟩, .string ⟨#[117, 110, 116, 105, 108]⟩, .string ⟨#[115, 105, 110, 99, 101]⟩] 9)).cell? ⟨w3.heap.size, 1, none⟩ = some (.string sg) := ((Bk.new w3 9 #[.string ⟨#[38]⟩, .string ⟨#[124]⟩, .string ⟨#[45, 62]⟩, .string ⟨#[60, 45, 62]⟩, .string ⟨#[117, 110, 116, 105, 108]⟩, .string ⟨#[115, 105, 110, 99, 101]⟩]).cell 1).trans HSG.out.1
       have HP3' := Lib.hid (parse_SE HP3.out (HS1.out.keep X34) (HT.out.keep0 (K1.trans X34 fun _ _ h => h)) (by have := join_size s0 s1 sg; show (joinT s0 s1 sg).size ≤ _; omega)))
    | (go_at_call 14
       (with_reducible refine HP3'.out.mono ?_)
       rintro e w4 ⟨A4, d4, rfl, R4, K4⟩
       have X4 : Keep NoF w1 w4 := X34.trans K4 fun _ _ h => h
       have k4 : Keep NoF w w4 := K1.trans X4 fun _ _ h => h
       have HC := Lib.hid (c_Or (f := f1) (g := f2) (by omega) (R2.kept ((K3.alloc _).trans K4 fun _ _ h => h) fun _ _ h => h) (by omega) (R3.kept (((Keep.refl NoF w3).alloc _).trans K4 fun _ _ h => h) fun _ _ h => h)))
    | (go_at_call 19
       (with_reducible refine HC.out.mono ?_)
       intro e w5 hpost
       obtain ⟨A5, d5, rfl, R5, K5⟩ := fr_any hpost
       rw [HM2.out] at R5
       have HSB := Lib.hid (fmSame_any f3 f3 A4 A5 d4 d5 w5 (R4.kept K5 fun _ _ h => h) R5 (by omega) (by omega))
       rw [HSM.out] at HSB
       have HL5 : Hid ((mk2 6 0 0 0 f1 f2).length = f3.length) := Lib.hid (by rw [HM2.out])
       rw [HL5.out]
       have k5 := k4.trans K5 fun _ _ h => h
       clear hpost)
    | (go_at_call 24; (with_reducible refine HSB.out.mono ?_); rintro e w6 ⟨rfl, K6⟩; have k6 := k5.trans K6 fun _ _ h => h)
    | (go_at_call 8; (with_reducible refine (awake_any w6 (HT.out.keep0 k6)).mono ?_); rintro e w7 ⟨rfl, K7⟩; have k7 := k6.trans K7 fun _ _ h => h))
  refine bodyPost_ret (v := .bool true) (by simp [results, Tryd.results6, go_sem]) rfl ?_
  exact ⟨rfl, k7⟩
theorem joins_2 (s0 s1 sg : ByteArray) (n : Nat) (w : World) (hT : Tab w) (h0 : s0.size ≤ 200) (h1 : s1.size ≤ 200) (hsg : (#[.string ⟨#[38]⟩, .string ⟨#[124]⟩, .string ⟨#[45, 62]⟩, .string ⟨#[60, 45, 62]⟩, .string ⟨#[117, 110, 116, 105, 108]⟩, .string ⟨#[115, 105, 110, 99, 101]⟩] : Array Value)[2]? = some (.string sg) ∧ sg.size ≤ 5)
    {f1 f2 f3 : List Nd} {p1 x1 p2 x2 p3 x3 : Int} (q1 : parseF SE s0 = (f1, p1, x1)) (q2 : parseF SE s1 = (f2, p2, x2)) (q3 : parseF SE (joinT s0 s1 sg) = (f3, p3, x3)) (hmod : (n : Int) % 6 = 2) (hx1 : x1 = 0) (hx2 : x2 = 0) (hx3 : x3 = 0) (hl : f1.length ≤ 200 ∧ f2.length ≤ 200 ∧ f3.length ≤ 200) (hm2 : mk2 7 0 0 0 f1 f2 = f3) (hsm : sameB f3 f3 = true) : Calls Tryd.prog 6 #[.string s0, .string s1, .int .u8 (n : Int)] w fun e w' => e = .returned (.bool true) ∧ Keep NoF w w' := by
  have HT := Lib.hid hT
  have HP1 := Lib.hid q1
  have HP2 := Lib.hid q2
  have HP3 : Hid (parseF SE (((((((⟨#[40]⟩ : ByteArray) ++ s0) ++ ⟨#[41]⟩) ++ sg) ++ ⟨#[40]⟩) ++ s1) ++ ⟨#[41]⟩) = (f3, p3, x3)) := Lib.hid q3
  have HSG := Lib.hid hsg
  have hs5 := hsg.2
  clear hT q1 q2 q3 hsg
  subst hx1 hx2 hx3
  obtain ⟨hl3, hl4, hl5⟩ := hl
  have HM2 := Lib.hid hm2
  have HSM := Lib.hid hsm
  clear hm2 hsm
  go_enter Tryd.func6, Tryd.ntmps6
  go_wp2_with (first
    | (go_at_call 17
       (with_reducible refine (example_any w).mono ?_)
       rintro e w1 ⟨a, f, c, rfl, S1, K1⟩
       have HS1 := Lib.hid S1
       have X0 : Keep NoF w1 (w1.alloc (.cells #[.slice a 2 2, .slice f 3 3, .slice c 1 1] 31)) := (Keep.refl _ _).alloc _
       obtain ⟨c0, c1, c2, z1⟩ := box3 (Keep.refl NoF (w1.alloc (.cells #[.slice a 2 2, .slice f 3 3, .slice c 1 1] 31)))
       have HP1' := Lib.hid (parse_SE HP1.out (HS1.out.keep X0) (HT.out.keep0 (K1.trans X0 fun _ _ h => h)) (by omega))
       clear S1)
    | (go_at_call 14
       (with_reducible refine HP1'.out.mono ?_)
       rintro e w2 ⟨A2, d2, rfl, R2, K2⟩
       have X2 : Keep NoF w1 w2 := X0.trans K2 fun _ _ h => h
       obtain ⟨e0, e1, e2, z2⟩ := box3 K2
       have HP2' := Lib.hid (parse_SE HP2.out (HS1.out.keep X2) (HT.out.keep0 (K1.trans X2 fun _ _ h => h)) (by omega)))
    | (go_at_call 14
       (with_reducible refine HP2'.out.mono ?_)
       rintro e w3 ⟨A3, d3, rfl, R3, K3⟩
       have X3 : Keep NoF w1 w3 := X2.trans K3 fun _ _ h => h
       have X34 : Keep NoF w1 (w3.alloc (.cells #[.string ⟨#[38]⟩, .string ⟨#[124]⟩, .string ⟨#[45, 62]⟩, .string ⟨#[60, 45, 62]⟩, .string ⟨#[117, 110, 116, 105, 108]⟩, .string ⟨#[115, 105, 110, 99, 101]⟩] 9)) := X3.alloc _
       have B34 : Keep NoF (w1.alloc (.cells #[.slice a 2 2, .slice f 3 3, .slice c 1 1] 31)) (w3.alloc (.cells #[.string ⟨#[38]⟩, .string ⟨#[124]⟩, .string ⟨#[45, 62]⟩, .string ⟨#[60, 45, 62]⟩, .string ⟨#[117, 110, 116, 105, 108]⟩, .string ⟨#[115, 105, 110, 99, 101]⟩] 9)) := (K2.trans K3 fun _ _ h => h).alloc _
       obtain ⟨g0, g1, g2, z3⟩ := box3 B34
       have csg : (w3.alloc (.cells #[.string ⟨#[38]⟩, .string ⟨#[124]⟩, .string ⟨#[45, 62]⟩, .string ⟨#[60, 45, 62]⟩, .string ⟨#[117, 110, 116, 105, 108]⟩, .string ⟨#[115, 105, 110, 99, 101]⟩] 9)).cell? ⟨w3.heap.size, 2, none⟩ = some (.string sg) := ((Bk.new w3 9 #[.string ⟨#[38]⟩, .string ⟨#[124]⟩, .string ⟨#[45, 62]⟩, .string ⟨#[60, 45, 62]⟩, .string ⟨#[117, 110, 116, 105, 108]⟩, .string ⟨#[115, 105, 110, 99, 101]⟩]).cell 2).trans HSG.out.1
       have HP3' := Lib.hid (parse_SE HP3.out (HS1.out.keep X34) (HT.out.keep0 (K1.trans X34 fun _ _ h => h)) (by have := join_size s0 s1 sg; show (joinT s0 s1 sg).size ≤ _; omega)))
    | (go_at_call 14
       (with_reducible refine HP3'.out.mono ?_)
       rintro e w4 ⟨A4, d4, rfl, R4, K4⟩
       have X4 : Keep NoF w1 w4 := X34.trans K4 fun _ _ h => h
       have k4 : Keep NoF w w4 := K1.trans X4 fun _ _ h => h
       have HC := Lib.hid (c_Imp (f := f1) (g := f2) (by omega) (R2.kept ((K3.alloc _).trans K4 fun _ _ h => h) fun _ _ h => h) (by omega) (R3.kept (((Keep.refl NoF w3).alloc _).trans K4 fun _ _ h => h) fun _ _ h => h)))
    | (go_at_call 20
       (with_reducible refine HC.out.mono ?_)
       intro e w5 hpost
       obtain ⟨A5, d5, rfl, R5, K5⟩ := fr_any hpost
       rw [HM2.out] at R5
       have HSB := Lib.hid (fmSame_any f3 f3 A4 A5 d4 d5 w5 (R4.kept K5 fun _ _ h => h) R5 (by omega) (by omega))
       rw [HSM.out] at HSB
       have HL5 : Hid ((mk2 7 0 0 0 f1 f2).length = f3.length) := Lib.hid (by rw [HM2.out])
       rw [HL5.out]
       have k5 := k4.trans K5 fun _ _ h => h
       clear hpost)
    | (go_at_call 24; (with_reducible refine HSB.out.mono ?_); rintro e w6 ⟨rfl, K6⟩; have k6 := k5.trans K6 fun _ _ h => h)
    | (go_at_call 8; (with_reducible refine (awake_any w6 (HT.out.keep0 k6)).mono ?_); rintro e w7 ⟨rfl, K7⟩; have k7 := k6.trans K7 fun _ _ h => h))
  refine bodyPost_ret (v := .bool true) (by simp [results, Tryd.results6, go_sem]) rfl ?_
  exact ⟨rfl, k7⟩
theorem joins_3 (s0 s1 sg : ByteArray) (n : Nat) (w : World) (hT : Tab w) (h0 : s0.size ≤ 200) (h1 : s1.size ≤ 200) (hsg : (#[.string ⟨#[38]⟩, .string ⟨#[124]⟩, .string ⟨#[45, 62]⟩, .string ⟨#[60, 45, 62]⟩, .string ⟨#[117, 110, 116, 105, 108]⟩, .string ⟨#[115, 105, 110, 99, 101]⟩] : Array Value)[3]? = some (.string sg) ∧ sg.size ≤ 5)
    {f1 f2 f3 : List Nd} {p1 x1 p2 x2 p3 x3 : Int} (q1 : parseF SE s0 = (f1, p1, x1)) (q2 : parseF SE s1 = (f2, p2, x2)) (q3 : parseF SE (joinT s0 s1 sg) = (f3, p3, x3)) (hmod : (n : Int) % 6 = 3) (hx1 : x1 = 0) (hx2 : x2 = 0) (hx3 : x3 = 0) (hl : f1.length ≤ 200 ∧ f2.length ≤ 200 ∧ f3.length ≤ 200) (hm2 : mk2 8 0 0 0 f1 f2 = f3) (hsm : sameB f3 f3 = true) : Calls Tryd.prog 6 #[.string s0, .string s1, .int .u8 (n : Int)] w fun e w' => e = .returned (.bool true) ∧ Keep NoF w w' := by
  have HT := Lib.hid hT
  have HP1 := Lib.hid q1
  have HP2 := Lib.hid q2
  have HP3 : Hid (parseF SE (((((((⟨#[40]⟩ : ByteArray) ++ s0) ++ ⟨#[41]⟩) ++ sg) ++ ⟨#[40]⟩) ++ s1) ++ ⟨#[41]⟩) = (f3, p3, x3)) := Lib.hid q3
  have HSG := Lib.hid hsg
  have hs5 := hsg.2
  clear hT q1 q2 q3 hsg
  subst hx1 hx2 hx3
  obtain ⟨hl3, hl4, hl5⟩ := hl
  have HM2 := Lib.hid hm2
  have HSM := Lib.hid hsm
  clear hm2 hsm
  go_enter Tryd.func6, Tryd.ntmps6
  go_wp2_with (first
    | (go_at_call 17
       (with_reducible refine (example_any w).mono ?_)
       rintro e w1 ⟨a, f, c, rfl, S1, K1⟩
       have HS1 := Lib.hid S1
       have X0 : Keep NoF w1 (w1.alloc (.cells #[.slice a 2 2, .slice f 3 3, .slice c 1 1] 31)) := (Keep.refl _ _).alloc _
       obtain ⟨c0, c1, c2, z1⟩ := box3 (Keep.refl NoF (w1.alloc (.cells #[.slice a 2 2, .slice f 3 3, .slice c 1 1] 31)))
       have HP1' := Lib.hid (parse_SE HP1.out (HS1.out.keep X0) (HT.out.keep0 (K1.trans X0 fun _ _ h => h)) (by omega))
       clear S1)
    | (go_at_call 14
       (with_reducible refine HP1'.out.mono ?_)
       rintro e w2 ⟨A2, d2, rfl, R2, K2⟩
       have X2 : Keep NoF w1 w2 := X0.trans K2 fun _ _ h => h
       obtain ⟨e0, e1, e2, z2⟩ := box3 K2
       have HP2' := Lib.hid (parse_SE HP2.out (HS1.out.keep X2) (HT.out.keep0 (K1.trans X2 fun _ _ h => h)) (by omega)))
    | (go_at_call 14
       (with_reducible refine HP2'.out.mono ?_)
       rintro e w3 ⟨A3, d3, rfl, R3, K3⟩
       have X3 : Keep NoF w1 w3 := X2.trans K3 fun _ _ h => h
       have X34 : Keep NoF w1 (w3.alloc (.cells #[.string ⟨#[38]⟩, .string ⟨#[124]⟩, .string ⟨#[45, 62]⟩, .string ⟨#[60, 45, 62]⟩, .string ⟨#[117, 110, 116, 105, 108]⟩, .string ⟨#[115, 105, 110, 99, 101]⟩] 9)) := X3.alloc _
       have B34 : Keep NoF (w1.alloc (.cells #[.slice a 2 2, .slice f 3 3, .slice c 1 1] 31)) (w3.alloc (.cells #[.string ⟨#[38]⟩, .string ⟨#[124]⟩, .string ⟨#[45, 62]⟩, .string ⟨#[60, 45, 62]⟩, .string ⟨#[117, 110, 116, 105, 108]⟩, .string ⟨#[115, 105, 110, 99, 101]⟩] 9)) := (K2.trans K3 fun _ _ h => h).alloc _
       obtain ⟨g0, g1, g2, z3⟩ := box3 B34
       have csg : (w3.alloc (.cells #[.string ⟨#[38]⟩, .string ⟨#[124]⟩, .string ⟨#[45, 62]⟩, .string ⟨#[60, 45, 62]⟩, .string ⟨#[117, 110, 116, 105, 108]⟩, .string ⟨#[115, 105, 110, 99, 101]⟩] 9)).cell? ⟨w3.heap.size, 3, none⟩ = some (.string sg) := ((Bk.new w3 9 #[.string ⟨#[38]⟩, .string ⟨#[124]⟩, .string ⟨#[45, 62]⟩, .string ⟨#[60, 45, 62]⟩, .string ⟨#[117, 110, 116, 105, 108]⟩, .string ⟨#[115, 105, 110, 99, 101]⟩]).cell 3).trans HSG.out.1
       have HP3' := Lib.hid (parse_SE HP3.out (HS1.out.keep X34) (HT.out.keep0 (K1.trans X34 fun _ _ h => h)) (by have := join_size s0 s1 sg; show (joinT s0 s1 sg).size ≤ _; omega)))
    | (go_at_call 14
       (with_reducible refine HP3'.out.mono ?_)
       rintro e w4 ⟨A4, d4, rfl, R4, K4⟩
       have X4 : Keep NoF w1 w4 := X34.trans K4 fun _ _ h => h
       have k4 : Keep NoF w w4 := K1.trans X4 fun _ _ h => h
       have HC := Lib.hid (c_Iff (f := f1) (g := f2) (by omega) (R2.kept ((K3.alloc _).trans K4 fun _ _ h => h) fun _ _ h => h) (by omega) (R3.kept (((Keep.refl NoF w3).alloc _).trans K4 fun _ _ h => h) fun _ _ h => h)))
    | (go_at_call 21
       (with_reducible refine HC.out.mono ?_)
       intro e w5 hpost
       obtain ⟨A5, d5, rfl, R5, K5⟩ := fr_any hpost
       rw [HM2.out] at R5
       have HSB := Lib.hid (fmSame_any f3 f3 A4 A5 d4 d5 w5 (R4.kept K5 fun _ _ h => h) R5 (by omega) (by omega))
       rw [HSM.out] at HSB
       have HL5 : Hid ((mk2 8 0 0 0 f1 f2).length = f3.length) := Lib.hid (by rw [HM2.out])
       rw [HL5.out]
       have k5 := k4.trans K5 fun _ _ h => h
       clear hpost)
    | (go_at_call 24; (with_reducible refine HSB.out.mono ?_); rintro e w6 ⟨rfl, K6⟩; have k6 := k5.trans K6 fun _ _ h => h)
    | (go_at_call 8; (with_reducible refine (awake_any w6 (HT.out.keep0 k6)).mono ?_); rintro e w7 ⟨rfl, K7⟩; have k7 := k6.trans K7 fun _ _ h => h))
  refine bodyPost_ret (v := .bool true) (by simp [results, Tryd.results6, go_sem]) rfl ?_
  exact ⟨rfl, k7⟩
theorem joins_4 (s0 s1 sg : ByteArray) (n : Nat) (w : World) (hT : Tab w) (h0 : s0.size ≤ 200) (h1 : s1.size ≤ 200) (hsg : (#[.string ⟨#[38]⟩, .string ⟨#[124]⟩, .string ⟨#[45, 62]⟩, .string ⟨#[60, 45, 62]⟩, .string ⟨#[117, 110, 116, 105, 108]⟩, .string ⟨#[115, 105, 110, 99, 101]⟩] : Array Value)[4]? = some (.string sg) ∧ sg.size ≤ 5)
    {f1 f2 f3 : List Nd} {p1 x1 p2 x2 p3 x3 : Int} (q1 : parseF SE s0 = (f1, p1, x1)) (q2 : parseF SE s1 = (f2, p2, x2)) (q3 : parseF SE (joinT s0 s1 sg) = (f3, p3, x3)) (hmod : (n : Int) % 6 = 4) (hx1 : x1 = 0) (hx2 : x2 = 0) (hx3 : x3 = 0) (hl : f1.length ≤ 200 ∧ f2.length ≤ 200 ∧ f3.length ≤ 200) (hm2 : mk2 19 0 0 0 f1 f2 = f3) (hsm : sameB f3 f3 = true) : Calls Tryd.prog 6 #[.string s0, .string s1, .int .u8 (n : Int)] w fun e w' => e = .returned (.bool true) ∧ Keep NoF w w' := by
  have HT := Lib.hid hT
  have HP1 := Lib.hid q1
  have HP2 := Lib.hid q2
  have HP3 : Hid (parseF SE (((((((⟨#[40]⟩ : ByteArray) ++ s0) ++ ⟨#[41]⟩) ++ sg) ++ ⟨#[40]⟩) ++ s1) ++ ⟨#[41]⟩) = (f3, p3, x3)) := Lib.hid q3
  have HSG := Lib.hid hsg
  have hs5 := hsg.2
  clear hT q1 q2 q3 hsg
  subst hx1 hx2 hx3
  obtain ⟨hl3, hl4, hl5⟩ := hl
  have HM2 := Lib.hid hm2
  have HSM := Lib.hid hsm
  clear hm2 hsm
  go_enter Tryd.func6, Tryd.ntmps6
  go_wp2_with (first
    | (go_at_call 17
       (with_reducible refine (example_any w).mono ?_)
       rintro e w1 ⟨a, f, c, rfl, S1, K1⟩
       have HS1 := Lib.hid S1
       have X0 : Keep NoF w1 (w1.alloc (.cells #[.slice a 2 2, .slice f 3 3, .slice c 1 1] 31)) := (Keep.refl _ _).alloc _
       obtain ⟨c0, c1, c2, z1⟩ := box3 (Keep.refl NoF (w1.alloc (.cells #[.slice a 2 2, .slice f 3 3, .slice c 1 1] 31)))
       have HP1' := Lib.hid (parse_SE HP1.out (HS1.out.keep X0) (HT.out.keep0 (K1.trans X0 fun _ _ h => h)) (by omega))
       clear S1)
    | (go_at_call 14
       (with_reducible refine HP1'.out.mono ?_)
       rintro e w2 ⟨A2, d2, rfl, R2, K2⟩
       have X2 : Keep NoF w1 w2 := X0.trans K2 fun _ _ h => h
       obtain ⟨e0, e1, e2, z2⟩ := box3 K2
       have HP2' := Lib.hid (parse_SE HP2.out (HS1.out.keep X2) (HT.out.keep0 (K1.trans X2 fun _ _ h => h)) (by omega)))
    | (go_at_call 14
       (with_reducible refine HP2'.out.mono ?_)
       rintro e w3 ⟨A3, d3, rfl, R3, K3⟩
       have X3 : Keep NoF w1 w3 := X2.trans K3 fun _ _ h => h
       have X34 : Keep NoF w1 (w3.alloc (.cells #[.string ⟨#[38]⟩, .string ⟨#[124]⟩, .string ⟨#[45, 62]⟩, .string ⟨#[60, 45, 62]⟩, .string ⟨#[117, 110, 116, 105, 108]⟩, .string ⟨#[115, 105, 110, 99, 101]⟩] 9)) := X3.alloc _
       have B34 : Keep NoF (w1.alloc (.cells #[.slice a 2 2, .slice f 3 3, .slice c 1 1] 31)) (w3.alloc (.cells #[.string ⟨#[38]⟩, .string ⟨#[124]⟩, .string ⟨#[45, 62]⟩, .string ⟨#[60, 45, 62]⟩, .string ⟨#[117, 110, 116, 105, 108]⟩, .string ⟨#[115, 105, 110, 99, 101]⟩] 9)) := (K2.trans K3 fun _ _ h => h).alloc _
       obtain ⟨g0, g1, g2, z3⟩ := box3 B34
       have csg : (w3.alloc (.cells #[.string ⟨#[38]⟩, .string ⟨#[124]⟩, .string ⟨#[45, 62]⟩, .string ⟨#[60, 45, 62]⟩, .string ⟨#[117, 110, 116, 105, 108]⟩, .string ⟨#[115, 105, 110, 99, 101]⟩] 9)).cell? ⟨w3.heap.size, 4, none⟩ = some (.string sg) := ((Bk.new w3 9 #[.string ⟨#[38]⟩, .string ⟨#[124]⟩, .string ⟨#[45, 62]⟩, .string ⟨#[60, 45, 62]⟩, .string ⟨#[117, 110, 116, 105, 108]⟩, .string ⟨#[115, 105, 110, 99, 101]⟩]).cell 4).trans HSG.out.1
       have HP3' := Lib.hid (parse_SE HP3.out (HS1.out.keep X34) (HT.out.keep0 (K1.trans X34 fun _ _ h => h)) (by have := join_size s0 s1 sg; show (joinT s0 s1 sg).size ≤ _; omega)))
    | (go_at_call 14
       (with_reducible refine HP3'.out.mono ?_)
       rintro e w4 ⟨A4, d4, rfl, R4, K4⟩
       have X4 : Keep NoF w1 w4 := X34.trans K4 fun _ _ h => h
       have k4 : Keep NoF w w4 := K1.trans X4 fun _ _ h => h
       have HC := Lib.hid (c_Until (f := f1) (g := f2) (by omega) (R2.kept ((K3.alloc _).trans K4 fun _ _ h => h) fun _ _ h => h) (by omega) (R3.kept (((Keep.refl NoF w3).alloc _).trans K4 fun _ _ h => h) fun _ _ h => h)))
    | (go_at_call 22
       (with_reducible refine HC.out.mono ?_)
       intro e w5 hpost
       obtain ⟨A5, d5, rfl, R5, K5⟩ := fr_any hpost
       rw [HM2.out] at R5
       have HSB := Lib.hid (fmSame_any f3 f3 A4 A5 d4 d5 w5 (R4.kept K5 fun _ _ h => h) R5 (by omega) (by omega))
       rw [HSM.out] at HSB
       have HL5 : Hid ((mk2 19 0 0 0 f1 f2).length = f3.length) := Lib.hid (by rw [HM2.out])
       rw [HL5.out]
       have k5 := k4.trans K5 fun _ _ h => h
       clear hpost)
    | (go_at_call 24; (with_reducible refine HSB.out.mono ?_); rintro e w6 ⟨rfl, K6⟩; have k6 := k5.trans K6 fun _ _ h => h)
    | (go_at_call 8; (with_reducible refine (awake_any w6 (HT.out.keep0 k6)).mono ?_); rintro e w7 ⟨rfl, K7⟩; have k7 := k6.trans K7 fun _ _ h => h))
  refine bodyPost_ret (v := .bool true) (by simp [results, Tryd.results6, go_sem]) rfl ?_
  exact ⟨rfl, k7⟩
theorem joins_5 (s0 s1 sg : ByteArray) (n : Nat) (w : World) (hT : Tab w) (h0 : s0.size ≤ 200) (h1 : s1.size ≤ 200) (hsg : (#[.string ⟨#[38]⟩, .string ⟨#[124]⟩, .string ⟨#[45, 62]⟩, .string ⟨#[60, 45, 62]⟩, .string ⟨#[117, 110, 116, 105, 108]⟩, .string ⟨#[115, 105, 110, 99, 101]⟩] : Array Value)[5]? = some (.string sg) ∧ sg.size ≤ 5)
    {f1 f2 f3 : List Nd} {p1 x1 p2 x2 p3 x3 : Int} (q1 : parseF SE s0 = (f1, p1, x1)) (q2 : parseF SE s1 = (f2, p2, x2)) (q3 : parseF SE (joinT s0 s1 sg) = (f3, p3, x3)) (hmod : (n : Int) % 6 = 5) (hx1 : x1 = 0) (hx2 : x2 = 0) (hx3 : x3 = 0) (hl : f1.length ≤ 200 ∧ f2.length ≤ 200 ∧ f3.length ≤ 200) (hm2 : mk2 21 0 0 0 f1 f2 = f3) (hsm : sameB f3 f3 = true) : Calls Tryd.prog 6 #[.string s0, .string s1, .int .u8 (n : Int)] w fun e w' => e = .returned (.bool true) ∧ Keep NoF w w' := by
  have HT := Lib.hid hT
  have HP1 := Lib.hid q1
  have HP2 := Lib.hid q2
  have HP3 : Hid (parseF SE (((((((⟨#[40]⟩ : ByteArray) ++ s0) ++ ⟨#[41]⟩) ++ sg) ++ ⟨#[40]⟩) ++ s1) ++ ⟨#[41]⟩) = (f3, p3, x3)) := Lib.hid q3
  have HSG := Lib.hid hsg
  have hs5 := hsg.2
  clear hT q1 q2 q3 hsg
  subst hx1 hx2 hx3
  obtain ⟨hl3, hl4, hl5⟩ := hl
  have HM2 := Lib.hid hm2
  have HSM := Lib.hid hsm
  clear hm2 hsm
  go_enter Tryd.func6, Tryd.ntmps6
  go_wp2_with (first
    | (go_at_call 17
       (with_reducible refine (example_any w).mono ?_)
       rintro e w1 ⟨a, f, c, rfl, S1, K1⟩
       have HS1 := Lib.hid S1
       have X0 : Keep NoF w1 (w1.alloc (.cells #[.slice a 2 2, .slice f 3 3, .slice c 1 1] 31)) := (Keep.refl _ _).alloc _
       obtain ⟨c0, c1, c2, z1⟩ := box3 (Keep.refl NoF (w1.alloc (.cells #[.slice a 2 2, .slice f 3 3, .slice c 1 1] 31)))
       have HP1' := Lib.hid (parse_SE HP1.out (HS1.out.keep X0) (HT.out.keep0 (K1.trans X0 fun _ _ h => h)) (by omega))
       clear S1)
    | (go_at_call 14
       (with_reducible refine HP1'.out.mono ?_)
       rintro e w2 ⟨A2, d2, rfl, R2, K2⟩
       have X2 : Keep NoF w1 w2 := X0.trans K2 fun _ _ h => h
       obtain ⟨e0, e1, e2, z2⟩ := box3 K2
       have HP2' := Lib.hid (parse_SE HP2.out (HS1.out.keep X2) (HT.out.keep0 (K1.trans X2 fun _ _ h => h)) (by omega)))
    | (go_at_call 14
       (with_reducible refine HP2'.out.mono ?_)
       rintro e w3 ⟨A3, d3, rfl, R3, K3⟩
       have X3 : Keep NoF w1 w3 := X2.trans K3 fun _ _ h => h
       have X34 : Keep NoF w1 (w3.alloc (.cells #[.string ⟨#[38]⟩, .string ⟨#[124]⟩, .string ⟨#[45, 62]⟩, .string ⟨#[60, 45, 62]⟩, .string ⟨#[117, 110, 116, 105, 108]⟩, .string ⟨#[115, 105, 110, 99, 101]⟩] 9)) := X3.alloc _
       have B34 : Keep NoF (w1.alloc (.cells #[.slice a 2 2, .slice f 3 3, .slice c 1 1] 31)) (w3.alloc (.cells #[.string ⟨#[38]⟩, .string ⟨#[124]⟩, .string ⟨#[45, 62]⟩, .string ⟨#[60, 45, 62]⟩, .string ⟨#[117, 110, 116, 105, 108]⟩, .string ⟨#[115, 105, 110, 99, 101]⟩] 9)) := (K2.trans K3 fun _ _ h => h).alloc _
       obtain ⟨g0, g1, g2, z3⟩ := box3 B34
       have csg : (w3.alloc (.cells #[.string ⟨#[38]⟩, .string ⟨#[124]⟩, .string ⟨#[45, 62]⟩, .string ⟨#[60, 45, 62]⟩, .string ⟨#[117, 110, 116, 105, 108]⟩, .string ⟨#[115, 105, 110, 99, 101]⟩] 9)).cell? ⟨w3.heap.size, 5, none⟩ = some (.string sg) := ((Bk.new w3 9 #[.string ⟨#[38]⟩, .string ⟨#[124]⟩, .string ⟨#[45, 62]⟩, .string ⟨#[60, 45, 62]⟩, .string ⟨#[117, 110, 116, 105, 108]⟩, .string ⟨#[115, 105, 110, 99, 101]⟩]).cell 5).trans HSG.out.1
       have HP3' := Lib.hid (parse_SE HP3.out (HS1.out.keep X34) (HT.out.keep0 (K1.trans X34 fun _ _ h => h)) (by have := join_size s0 s1 sg; show (joinT s0 s1 sg).size ≤ _; omega)))
    | (go_at_call 14
       (with_reducible refine HP3'.out.mono ?_)
       rintro e w4 ⟨A4, d4, rfl, R4, K4⟩
       have X4 : Keep NoF w1 w4 := X34.trans K4 fun _ _ h => h
       have k4 : Keep NoF w w4 := K1.trans X4 fun _ _ h => h
       have HC := Lib.hid (c_Since (f := f1) (g := f2) (by omega) (R2.kept ((K3.alloc _).trans K4 fun _ _ h => h) fun _ _ h => h) (by omega) (R3.kept (((Keep.refl NoF w3).alloc _).trans K4 fun _ _ h => h) fun _ _ h => h)))
    | (go_at_call 23
       (with_reducible refine HC.out.mono ?_)
       intro e w5 hpost
       obtain ⟨A5, d5, rfl, R5, K5⟩ := fr_any hpost
       rw [HM2.out] at R5
       have HSB := Lib.hid (fmSame_any f3 f3 A4 A5 d4 d5 w5 (R4.kept K5 fun _ _ h => h) R5 (by omega) (by omega))
       rw [HSM.out] at HSB
       have HL5 : Hid ((mk2 21 0 0 0 f1 f2).length = f3.length) := Lib.hid (by rw [HM2.out])
       rw [HL5.out]
       have k5 := k4.trans K5 fun _ _ h => h
       clear hpost)
    | (go_at_call 24; (with_reducible refine HSB.out.mono ?_); rintro e w6 ⟨rfl, K6⟩; have k6 := k5.trans K6 fun _ _ h => h)
    | (go_at_call 8; (with_reducible refine (awake_any w6 (HT.out.keep0 k6)).mono ?_); rintro e w7 ⟨rfl, K7⟩; have k7 := k6.trans K7 fun _ _ h => h))
  refine bodyPost_ret (v := .bool true) (by simp [results, Tryd.results6, go_sem]) rfl ?_
  exact ⟨rfl, k7⟩
theorem joins_big (s0 s1 : ByteArray) (n : Nat) (w : World) (hT : Tab w) (h : 200 < s0.size ∨ (¬ 200 < s0.size ∧ 200 < s1.size)) : Calls Tryd.prog 6 #[.string s0, .string s1, .int .u8 (n : Int)] w fun e w' => e = .returned (.bool true) ∧ Keep NoF w w' := by
  have HT := Lib.hid hT
  clear hT
  rcases h with h | ⟨h, h'⟩
  all_goals
    go_enter Tryd.func6, Tryd.ntmps6
    go_wp2_with (first
      | (go_at_call 17; (with_reducible refine (example_any w).mono ?_); rintro e w1 ⟨a, f, c, rfl, S1, K1⟩; have X1 : Keep NoF w (w1.alloc (.cells #[.slice a 2 2, .slice f 3 3, .slice c 1 1] 31)) := K1.alloc _)
      | (go_at_call 8; (with_reducible refine (awake_any _ (HT.out.keep0 X1)).mono ?_); rintro e w5 ⟨rfl, K5⟩))
    refine bodyPost_ret (v := .bool true) (by simp [results, Tryd.results6, go_sem]) rfl ?_
    exact ⟨rfl, X1.trans K5 fun _ _ h => h⟩
theorem walk_ParserJoins (s0 s1 : ByteArray) (n : Nat) (w : World) (hn : n < 256) (hT : Tab w) : Calls Tryd.prog 6 #[.string s0, .string s1, .int .u8 (n : Int)] w fun e w' => e = .returned (.bool true) ∧ Keep NoF w w' := by
  by_cases hb : 200 < s0.size ∨ (¬ 200 < s0.size ∧ 200 < s1.size)
  · exact joins_big s0 s1 n w hT hb
  · have h0 : s0.size ≤ 200 := by omega
    have h1 : s1.size ≤ 200 := by omega
    obtain ⟨m, hm, hmod⟩ : ∃ m : Nat, m < 6 ∧ (n : Int) % 6 = (m : Int) := ⟨n % 6, Nat.mod_lt _ (by omega), by omega⟩
    have hsg : (#[.string ⟨#[38]⟩, .string ⟨#[124]⟩, .string ⟨#[45, 62]⟩, .string ⟨#[60, 45, 62]⟩, .string ⟨#[117, 110, 116, 105, 108]⟩, .string ⟨#[115, 105, 110, 99, 101]⟩] : Array Value)[m]? = some (.string (Ps.signOf m)) ∧ (Ps.signOf m).size ≤ 5 := by
      have hm6 : m = 0 ∨ m = 1 ∨ m = 2 ∨ m = 3 ∨ m = 4 ∨ m = 5 := by omega
      rcases hm6 with rfl | rfl | rfl | rfl | rfl | rfl <;> exact ⟨rfl, by decide⟩
    obtain ⟨⟨f1, p1, x1⟩, q1⟩ : ∃ r, parseF SE s0 = r := ⟨_, rfl⟩
    obtain ⟨⟨f2, p2, x2⟩, q2⟩ : ∃ r, parseF SE s1 = r := ⟨_, rfl⟩
    obtain ⟨⟨f3, p3, x3⟩, q3⟩ : ∃ r, parseF SE (joinT s0 s1 (Ps.signOf m)) = r := ⟨_, rfl⟩
    by_cases hx : x1 ≠ 0 ∨ (x1 = 0 ∧ x2 ≠ 0)
    · exact joins_no s0 s1 _ m n w hT h0 h1 hm hmod hsg q1 q2 q3 hx
    · have hx1 : x1 = 0 := by omega
      have hx2 : x2 = 0 := by omega
      obtain ⟨ta, tb, r1, r2, l1, l2, hg, a1, a2⟩ := joins_law hm h0 h1 (by rw [q1]; exact hx1) (by rw [q2]; exact hx2)
      rw [q1] at r1
      rw [q2] at r2
      cases r1
      cases r2
      by_cases hl : 200 < (cl (bin (Ps.opOf m) 0 0 0 ta tb)).length
      · obtain ⟨b1, b2⟩ := a1 hl
        rw [q3] at b1
        exact joins_long s0 s1 _ m n w hT h0 h1 hm hmod hsg q1 q2 q3 rfl rfl b1 b2 ⟨l1, l2⟩
      · have b1 := a2 (by omega)
        rw [q3] at b1
        cases b1
        have hmk := mk2_cl hg l1 l2 (by omega)
        have hsm := same_cl hg (by omega)
        have hll : (cl (bin (Ps.opOf m) 0 0 0 ta tb)).length ≤ 200 := by omega
        have hm6 : m = 0 ∨ m = 1 ∨ m = 2 ∨ m = 3 ∨ m = 4 ∨ m = 5 := by omega
        rcases hm6 with rfl | rfl | rfl | rfl | rfl | rfl
        · exact joins_0 s0 s1 _ n w hT h0 h1 hsg q1 q2 q3 hmod rfl rfl rfl ⟨l1, l2, hll⟩ hmk hsm
        · exact joins_1 s0 s1 _ n w hT h0 h1 hsg q1 q2 q3 hmod rfl rfl rfl ⟨l1, l2, hll⟩ hmk hsm
        · exact joins_2 s0 s1 _ n w hT h0 h1 hsg q1 q2 q3 hmod rfl rfl rfl ⟨l1, l2, hll⟩ hmk hsm
        · exact joins_3 s0 s1 _ n w hT h0 h1 hsg q1 q2 q3 hmod rfl rfl rfl ⟨l1, l2, hll⟩ hmk hsm
        · exact joins_4 s0 s1 _ n w hT h0 h1 hsg q1 q2 q3 hmod rfl rfl rfl ⟨l1, l2, hll⟩ hmk hsm
        · exact joins_5 s0 s1 _ n w hT h0 h1 hsg q1 q2 q3 hmod rfl rfl rfl ⟨l1, l2, hll⟩ hmk hsm
end
end Go.Proofs.YtdhdcenjiopofaaDoor
