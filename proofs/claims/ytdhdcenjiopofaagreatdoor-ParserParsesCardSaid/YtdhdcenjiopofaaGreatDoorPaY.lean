/- The examples of the parser's law: what awake answers. Conditions: the variables lie as they are read. -/
import Derived.Test.YtdhdcenjiopofaaGreatDoorPaX
set_option linter.unusedVariables false
set_option linter.unusedSimpArgs false
namespace Go.Proofs.YtdhdcenjiopofaaGreatDoor
open Go.RowKit
open Fm (Nd cl)

theorem rd_ndlit (w : World) (L : List Nd) (n : Nat) (hn : n ≤ 1000) (h : L.length = n) : Rd (w.alloc (.cells (fmC L).toArray 37)) (.slice (some ⟨w.heap.size, 0, none⟩) n n) 6 n (fmC L) := by
  refine Rd.of_own (World.ownsRow_lit (base := 0) (e := 37) (size := 6) w (fmC L).toArray n (by omega) (by simp [maxLen]; omega) ?_)
  subst h
  have : (fmC L).length = L.length * 6 := by
    clear hn
    unfold fmC
    induction L with
    | nil => rfl
    | cons a l ih => simp only [List.flatMap_cons, List.length_append, ih]; simp [ndC]; omega
  simpa using this
section
variable {w : World} {a f c : Option Addr}
theorem aPar (t : ByteArray) (l : List Nd) (p x : Int) (ht : t.size ≤ 9223372036854775807) (h : SigR w SE a 2 f 3 c 1) (hT : Tab w) (hp : parseF SE t = (l, p, x)) : Calls Tryz.prog 7 #[.agg #[.slice a 2 2, .slice f 3 3, .slice c 1 1], .string t] w fun e w' => ∃ (A : Option Addr) (c : Nat), e = .returned (.tuple #[.slice A l.length c, .int .i64 p, .int .i64 x]) ∧ Rd w' (.slice A l.length c) 6 l.length (fmC l) ∧ Keep NoF w w' := by
  have := Parse_any SE a f c 2 3 1 t w h hT ht
  unfold ParPost at this
  rw [hp] at this
  exact this
end
def aL0 : List Nd := [⟨3, 1, 0, 0, 0, 0⟩, ⟨3, 0, 0, 0, 0, 0⟩, ⟨13, 0, 0, 3, 0, 1⟩]
theorem aF0 : parseF SE ⟨#[67, 91, 97, 44, 98, 124, 113, 93, 112]⟩ = (aL0, 0, 0) := by decide +kernel
def aL1 : List Nd := [⟨3, 0, 0, 0, 0, 0⟩, ⟨17, 0, 1, 0, 0, 0⟩]
theorem aF1 : parseF SE ⟨#[91, 116, 101, 108, 108, 46, 49, 93, 112]⟩ = (aL1, 0, 0) := by decide +kernel
def aL2 : List Nd := [⟨3, 0, 0, 0, 0, 0⟩, ⟨3, 1, 0, 0, 0, 0⟩, ⟨3, 2, 0, 0, 0, 0⟩, ⟨7, 0, 0, 0, 1, 2⟩, ⟨7, 0, 0, 0, 0, 3⟩]
theorem aF2 : parseF SE ⟨#[112, 32, 45, 62, 32, 113, 32, 45, 62, 32, 114]⟩ = (aL2, 0, 0) := by decide +kernel
def aL3 : List Nd := []
theorem aF3 : parseF SE ⟨#[112, 32, 113]⟩ = (aL3, 2, 4) := by decide +kernel
def aL4 : List Nd := []
theorem aF4 : parseF SE ⟨#[69, 91, 97, 44, 97, 93, 112]⟩ = (aL4, 4, 7) := by decide +kernel
theorem tokens_ok {t : ByteArray} {cs : Tk} (h : tokF t = .ok cs) (ht : t.size ≤ 9223372036854775807) (w : World) : Calls Tryz.prog 14 #[.string t] w fun e w' => ∃ (A : Option Addr) (c : Nat) (B : Option Addr) (d : Nat), e = .returned (.tuple #[.slice A cs.length c, .slice B cs.length d, .int .i64 0, .int .i64 0]) ∧
    Rd w' (.slice A cs.length c) 1 cs.length (strs (tW cs)) ∧ Rd w' (.slice B cs.length d) 1 cs.length (tA cs) ∧ Keep NoF w w' := by
  refine (Tokens_any t ht w).mono ?_
  rintro e w' ⟨cs', A, c, B, d, p, x, rfl, r1, r2, hk, hT⟩
  have h1 := hT.tokF
  rw [h] at h1
  by_cases hx : x = 0
  · rw [if_pos hx] at h1
    obtain rfl : cs = cs' := by cases h1; rfl
    have hp : p = 0 := by
      rcases hT with ⟨_, _, _, h⟩ | ⟨_, ⟨_, _, _, _, h⟩ | ⟨_, h3, _⟩⟩
      · omega
      · omega
      · exact h3
    exact ⟨A, c, B, d, by rw [hx, hp], r1, r2, hk⟩
  · rw [if_neg hx] at h1; cases h1
theorem tokens_err {t : ByteArray} {p x : Int} (h : tokF t = .error (p, x)) (ht : t.size ≤ 9223372036854775807) (w : World) : Calls Tryz.prog 14 #[.string t] w fun e w' => ∃ (A : Option Addr) (c : Nat) (B : Option Addr) (d : Nat), e = .returned (.tuple #[.slice A 0 c, .slice B 0 d, .int .i64 p, .int .i64 x]) ∧ x ≠ 0 ∧ Keep NoF w w' := by
  refine (Tokens_any t ht w).mono ?_
  rintro e w' ⟨cs', A, c, B, d, p', x', rfl, r1, r2, hk, hT⟩
  have h1 := hT.tokF
  rw [h] at h1
  by_cases hx : x' = 0
  · rw [if_pos hx] at h1; cases h1
  · rw [if_neg hx] at h1
    cases h1
    have hcs : cs' = [] := by
      rcases hT with ⟨_, h, _⟩ | ⟨_, ⟨_, _, h, _⟩ | ⟨_, _, h⟩⟩
      · exact h
      · exact h
      · exact absurd h hx
    subst hcs
    exact ⟨A, c, B, d, rfl, hx, hk⟩
def aTk : Tk := [(0, [112]), (2, [60, 45, 62]), (6, [126]), (7, [113])]
theorem aT : tokF ⟨#[112, 32, 60, 45, 62, 32, 126, 113]⟩ = .ok aTk := by kernel_rfl
section
set_option maxRecDepth 100000
set_option maxHeartbeats 4000000
theorem awake_any (w : World) (hT : Tab w) : Calls Tryz.prog 6 #[] w fun e w' => e = .returned (.bool true) ∧ Keep NoF w w' := by
  have HT := Lib.hid hT
  clear hT
  go_enter Tryz.func6, Tryz.ntmps6
  go_wp2_with (first
    | (go_at_call 13
       (with_reducible refine (example_any w).mono ?_)
       rintro e e0 ⟨a0, f0, c0, rfl, S0, Ke0⟩
       have X0 : Keep NoF w e0 := (Keep.refl NoF w).trans Ke0 fun _ _ h => h
       have HP0 : Hid (Calls Tryz.prog 7 #[.agg #[.slice a0 2 2, .slice f0 3 3, .slice c0 1 1], .string ⟨#[67, 91, 97, 44, 98, 124, 113, 93, 112]⟩] e0 fun e w' => ∃ (A : Option Addr) (c : Nat), e = .returned (.tuple #[.slice A 3 c, .int .i64 0, .int .i64 0]) ∧ Rd w' (.slice A 3 c) 6 3 (fmC aL0) ∧ Keep NoF e0 w') := Lib.hid (aPar _ aL0 0 0 (by decide) S0 (HT.out.keep0 X0) aF0)
       clear S0)
    | (go_at_call 7
       (with_reducible refine HP0.out.mono ?_)
       rintro e p0 ⟨A0, d0, rfl, R0, Kp0⟩
       have Y0 : Keep NoF w p0 := X0.trans Kp0 fun _ _ h => h
       have HS0 : Hid (Calls Tryz.prog 9 #[.slice A0 3 d0, .slice (some ⟨p0.heap.size, 0, none⟩) 3 3] (p0.alloc (.cells #[.int .i64 3, .int .i64 1, .int .i64 0, .int .i64 0, .int .i64 0, .int .i64 0, .int .i64 3, .int .i64 0, .int .i64 0, .int .i64 0, .int .i64 0, .int .i64 0, .int .i64 13, .int .i64 0, .int .i64 0, .int .i64 3, .int .i64 0, .int .i64 1] 37)) _) := Lib.hid (sameNodes_any aL0 A0 _ d0 3 _ (R0.kept ((Keep.refl NoF _).alloc _) fun _ _ h => h) (rd_ndlit p0 aL0 3 (by omega) rfl) (by decide))
       clear R0)
    | (go_at_call 9
       (with_reducible refine HS0.out.mono ?_)
       rintro e s0 ⟨rfl, Ks0⟩
       have Z0 : Keep NoF w s0 := (Y0.alloc _).trans Ks0 fun _ _ h => h)
    | (go_at_call 13
       (with_reducible refine (example_any s0).mono ?_)
       rintro e e1 ⟨a1, f1, c1, rfl, S1, Ke1⟩
       have X1 : Keep NoF w e1 := Z0.trans Ke1 fun _ _ h => h
       have HP1 : Hid (Calls Tryz.prog 7 #[.agg #[.slice a1 2 2, .slice f1 3 3, .slice c1 1 1], .string ⟨#[91, 116, 101, 108, 108, 46, 49, 93, 112]⟩] e1 fun e w' => ∃ (A : Option Addr) (c : Nat), e = .returned (.tuple #[.slice A 2 c, .int .i64 0, .int .i64 0]) ∧ Rd w' (.slice A 2 c) 6 2 (fmC aL1) ∧ Keep NoF e1 w') := Lib.hid (aPar _ aL1 0 0 (by decide) S1 (HT.out.keep0 X1) aF1)
       clear S1)
    | (go_at_call 7
       (with_reducible refine HP1.out.mono ?_)
       rintro e p1 ⟨A1, d1, rfl, R1, Kp1⟩
       have Y1 : Keep NoF w p1 := X1.trans Kp1 fun _ _ h => h
       have HS1 : Hid (Calls Tryz.prog 9 #[.slice A1 2 d1, .slice (some ⟨p1.heap.size, 0, none⟩) 2 2] (p1.alloc (.cells #[.int .i64 3, .int .i64 0, .int .i64 0, .int .i64 0, .int .i64 0, .int .i64 0, .int .i64 17, .int .i64 0, .int .i64 1, .int .i64 0, .int .i64 0, .int .i64 0] 37)) _) := Lib.hid (sameNodes_any aL1 A1 _ d1 2 _ (R1.kept ((Keep.refl NoF _).alloc _) fun _ _ h => h) (rd_ndlit p1 aL1 2 (by omega) rfl) (by decide))
       clear R1)
    | (go_at_call 9
       (with_reducible refine HS1.out.mono ?_)
       rintro e s1 ⟨rfl, Ks1⟩
       have Z1 : Keep NoF w s1 := (Y1.alloc _).trans Ks1 fun _ _ h => h)
    | (go_at_call 13
       (with_reducible refine (example_any s1).mono ?_)
       rintro e e2 ⟨a2, f2, c2, rfl, S2, Ke2⟩
       have X2 : Keep NoF w e2 := Z1.trans Ke2 fun _ _ h => h
       have HP2 : Hid (Calls Tryz.prog 7 #[.agg #[.slice a2 2 2, .slice f2 3 3, .slice c2 1 1], .string ⟨#[112, 32, 45, 62, 32, 113, 32, 45, 62, 32, 114]⟩] e2 fun e w' => ∃ (A : Option Addr) (c : Nat), e = .returned (.tuple #[.slice A 5 c, .int .i64 0, .int .i64 0]) ∧ Rd w' (.slice A 5 c) 6 5 (fmC aL2) ∧ Keep NoF e2 w') := Lib.hid (aPar _ aL2 0 0 (by decide) S2 (HT.out.keep0 X2) aF2)
       clear S2)
    | (go_at_call 7
       (with_reducible refine HP2.out.mono ?_)
       rintro e p2 ⟨A2, d2, rfl, R2, Kp2⟩
       have Y2 : Keep NoF w p2 := X2.trans Kp2 fun _ _ h => h
       have HS2 : Hid (Calls Tryz.prog 9 #[.slice A2 5 d2, .slice (some ⟨p2.heap.size, 0, none⟩) 5 5] (p2.alloc (.cells #[.int .i64 3, .int .i64 0, .int .i64 0, .int .i64 0, .int .i64 0, .int .i64 0, .int .i64 3, .int .i64 1, .int .i64 0, .int .i64 0, .int .i64 0, .int .i64 0, .int .i64 3, .int .i64 2, .int .i64 0, .int .i64 0, .int .i64 0, .int .i64 0, .int .i64 7, .int .i64 0, .int .i64 0, .int .i64 0, .int .i64 1, .int .i64 2, .int .i64 7, .int .i64 0, .int .i64 0, .int .i64 0, .int .i64 0, .int .i64 3] 37)) _) := Lib.hid (sameNodes_any aL2 A2 _ d2 5 _ (R2.kept ((Keep.refl NoF _).alloc _) fun _ _ h => h) (rd_ndlit p2 aL2 5 (by omega) rfl) (by decide))
       clear R2)
    | (go_at_call 9
       (with_reducible refine HS2.out.mono ?_)
       rintro e s2 ⟨rfl, Ks2⟩
       have Z2 : Keep NoF w s2 := (Y2.alloc _).trans Ks2 fun _ _ h => h)
    | (go_at_call 13
       (with_reducible refine (example_any s2).mono ?_)
       rintro e e3 ⟨a3, f3, c3, rfl, S3, Ke3⟩
       have X3 : Keep NoF w e3 := Z2.trans Ke3 fun _ _ h => h
       have HP3 : Hid (Calls Tryz.prog 7 #[.agg #[.slice a3 2 2, .slice f3 3 3, .slice c3 1 1], .string ⟨#[112, 32, 113]⟩] e3 fun e w' => ∃ (A : Option Addr) (c : Nat), e = .returned (.tuple #[.slice A 0 c, .int .i64 2, .int .i64 4]) ∧ Rd w' (.slice A 0 c) 6 0 (fmC aL3) ∧ Keep NoF e3 w') := Lib.hid (aPar _ aL3 2 4 (by decide) S3 (HT.out.keep0 X3) aF3)
       clear S3)
    | (go_at_call 7
       (with_reducible refine HP3.out.mono ?_)
       rintro e p3 ⟨A3, d3, rfl, R3, Kp3⟩
       have Y3 : Keep NoF w p3 := X3.trans Kp3 fun _ _ h => h
       clear R3)
    | (go_at_call 13
       (with_reducible refine (example_any p3).mono ?_)
       rintro e e4 ⟨a4, f4, c4, rfl, S4, Ke4⟩
       have X4 : Keep NoF w e4 := Y3.trans Ke4 fun _ _ h => h
       have HP4 : Hid (Calls Tryz.prog 7 #[.agg #[.slice a4 2 2, .slice f4 3 3, .slice c4 1 1], .string ⟨#[69, 91, 97, 44, 97, 93, 112]⟩] e4 fun e w' => ∃ (A : Option Addr) (c : Nat), e = .returned (.tuple #[.slice A 0 c, .int .i64 4, .int .i64 7]) ∧ Rd w' (.slice A 0 c) 6 0 (fmC aL4) ∧ Keep NoF e4 w') := Lib.hid (aPar _ aL4 4 7 (by decide) S4 (HT.out.keep0 X4) aF4)
       clear S4)
    | (go_at_call 7
       (with_reducible refine HP4.out.mono ?_)
       rintro e p4 ⟨A4, d4, rfl, R4, Kp4⟩
       have Y4 : Keep NoF w p4 := X4.trans Kp4 fun _ _ h => h
       clear R4)
    | (go_at_call 14
       (with_reducible refine (tokens_ok aT (by decide) p4).mono ?_)
       rintro e tk ⟨TA, tc, TB, td, rfl, TR1, TR2, Kt⟩
       have YT : Keep NoF w tk := Y4.trans Kt fun _ _ h => h
       have HSW : Hid (Calls Tryz.prog 15 #[.slice TA aTk.length tc, .slice (some ⟨tk.heap.size, 0, none⟩) 4 4] (tk.alloc (.cells #[.string ⟨#[112]⟩, .string ⟨#[60, 45, 62]⟩, .string ⟨#[126]⟩, .string ⟨#[113]⟩] 9)) _) := Lib.hid (sameWords_any (tW aTk) TA _ tc 4 _ (by decide) (TR1.kept ((Keep.refl NoF _).alloc _) fun _ _ h => h) (rd_litP tk (tW aTk) 4 (by omega) rfl))
       clear TR1 TR2)
    | (go_at_call 15
       (with_reducible refine HSW.out.mono ?_)
       rintro e sw ⟨rfl, Ksw⟩
       have ZW : Keep NoF w sw := (YT.alloc _).trans Ksw fun _ _ h => h))
  refine bodyPost_ret (v := .bool true) (by simp [results, Tryz.results6, go_sem]) rfl ?_
  exact ⟨rfl, ZW⟩
end
end Go.Proofs.YtdhdcenjiopofaaGreatDoor
