/- The examples of the chapter: what awake answers. Conditions: the variables lie as they are read. -/
import Derived.Test.YtcmoocemfnjkiaaDoorSgD2
import Derived.Test.YtcmoocemfnjkiaaDoorSgM
import Derived.Test.YtcmoocemfnjkiaaDoorSgJ
import Derived.Test.YtcmoocemfnjkiaaDoorSgN
set_option linter.unusedVariables false
set_option linter.unusedSimpArgs false
namespace Go.Proofs.YtcmoocemfnjkiaaDoor
open Go.RowKit

def S0 : Sg := ⟨agN.take 3, faN.take 2, acN.take 1⟩
theorem rd_lit (w : World) (l : List ByteArray) (n : Nat) (hn : n ≤ 1000) (h : l.length = n) : Rd (w.alloc (.cells (strs l).toArray 9)) (.slice (some ⟨w.heap.size, 0, none⟩) n n) 1 n (strs l) :=
  Rd.of_own (World.ownsRow_lit (base := 0) (e := 9) (size := 1) w (strs l).toArray n (by omega) (by simp [maxLen]; omega) (by simp [h]))
theorem aDefault (w : World) : Calls Tryd.prog 18 #[.int .i64 3, .int .i64 2, .int .i64 1] w fun e w' => ∃ (a : Option Addr) (ca : Nat) (f : Option Addr) (cf : Nat) (c : Option Addr) (cc : Nat), e = .returned (.tuple #[.agg #[.slice a 3 ca, .slice f 2 cf, .slice c 1 cc], .int .i64 0]) ∧ SigR w' S0 a ca f cf c cc ∧ Keep NoF w w' := by
  refine (Default_ok 3 2 1 w (by omega) (by omega) (by omega)).mono ?_
  rintro e w' ⟨v, rfl, a, ca, f, cf, c, cc, rfl, h1, h2⟩
  exact ⟨a, ca, f, cf, c, cc, rfl, h1, h2⟩
section
variable {w : World} {a f c : Option Addr} {ca cf cc : Nat}
theorem aGroup (A : Option Addr) (h : SigR w S0 a ca f cf c cc) (hT : Tab w) (hrd : Rd w (.slice A 2 2) 1 2 (strs [⟨#[99]⟩, ⟨#[97]⟩])) : Calls Tryd.prog 28 #[.agg #[.slice a 3 ca, .slice f 2 cf, .slice c 1 cc], .slice A 2 2] w fun e w' => e = .returned (.tuple #[.int .i64 5, .int .i64 0]) ∧ Keep NoF w w' := by
  have := Group_any S0 a f c ca cf cc [⟨#[99]⟩, ⟨#[97]⟩] A 2 w h hT (by simp) hrd
  rw [show groupS S0 [⟨#[99]⟩, ⟨#[97]⟩] = (5, 0) by decide +kernel] at this
  exact this
theorem aText (h : SigR w S0 a ca f cf c cc) (hT : Tab w) : Calls Tryd.prog 30 #[.agg #[.slice a 3 ca, .slice f 2 cf, .slice c 1 cc], .int .i64 5] w fun e w' => e = .returned (.tuple #[.string ⟨#[97, 44, 99]⟩, .int .i64 0]) ∧ Keep NoF w w' := by
  have := Text_any S0 a f c ca cf cc 5 w h hT
  rw [show textS S0 5 = (⟨#[97, 44, 99]⟩, 0) by decide +kernel] at this
  exact this
theorem aParse1 (h : SigR w S0 a ca f cf c cc) (hT : Tab w) : Calls Tryd.prog 32 #[.agg #[.slice a 3 ca, .slice f 2 cf, .slice c 1 cc], .string ⟨#[99, 44, 97]⟩] w fun e w' => e = .returned (.tuple #[.int .i64 5, .int .i64 0]) ∧ Keep NoF w w' := by
  have := Parse_any S0 a f c ca cf cc ⟨#[99, 44, 97]⟩ w h hT (by decide)
  rw [show parseS S0 ⟨#[99, 44, 97]⟩ = (5, 0) by decide +kernel] at this
  exact this
theorem aParse2 (h : SigR w S0 a ca f cf c cc) (hT : Tab w) : Calls Tryd.prog 32 #[.agg #[.slice a 3 ca, .slice f 2 cf, .slice c 1 cc], .string ⟨#[97, 44, 44, 99]⟩] w fun e w' => e = .returned (.tuple #[.int .i64 0, .int .i64 4]) ∧ Keep NoF w w' := by
  have := Parse_any S0 a f c ca cf cc ⟨#[97, 44, 44, 99]⟩ w h hT (by decide)
  rw [show parseS S0 ⟨#[97, 44, 44, 99]⟩ = (0, 4) by decide +kernel] at this
  exact this
theorem aParse3 (h : SigR w S0 a ca f cf c cc) (hT : Tab w) : Calls Tryd.prog 32 #[.agg #[.slice a 3 ca, .slice f 2 cf, .slice c 1 cc], .string ⟨#[97, 44, 97]⟩] w fun e w' => e = .returned (.tuple #[.int .i64 0, .int .i64 7]) ∧ Keep NoF w w' := by
  have := Parse_any S0 a f c ca cf cc ⟨#[97, 44, 97]⟩ w h hT (by decide)
  rw [show parseS S0 ⟨#[97, 44, 97]⟩ = (0, 7) by decide +kernel] at this
  exact this
theorem aParse4 (h : SigR w S0 a ca f cf c cc) (hT : Tab w) : Calls Tryd.prog 32 #[.agg #[.slice a 3 ca, .slice f 2 cf, .slice c 1 cc], .string ⟨#[97, 44, 112]⟩] w fun e w' => e = .returned (.tuple #[.int .i64 0, .int .i64 6]) ∧ Keep NoF w w' := by
  have := Parse_any S0 a f c ca cf cc ⟨#[97, 44, 112]⟩ w h hT (by decide)
  rw [show parseS S0 ⟨#[97, 44, 112]⟩ = (0, 6) by decide +kernel] at this
  exact this
theorem aAgent (h : SigR w S0 a ca f cf c cc) (hT : Tab w) : Calls Tryd.prog 21 #[.agg #[.slice a 3 ca, .slice f 2 cf, .slice c 1 cc], .string ⟨#[99]⟩] w fun e w' => e = .returned (.int .i64 2) ∧ Keep NoF w w' := by
  have := Agent_any S0 a f c ca cf cc ⟨#[99]⟩ w h hT
  rw [show findS S0 S0.A ⟨#[99]⟩ = 2 by decide +kernel] at this
  exact this
theorem aFact1 (h : SigR w S0 a ca f cf c cc) (hT : Tab w) : Calls Tryd.prog 23 #[.agg #[.slice a 3 ca, .slice f 2 cf, .slice c 1 cc], .string ⟨#[99]⟩] w fun e w' => e = .returned (.int .i64 (-1)) ∧ Keep NoF w w' := by
  have := Fact_any S0 a f c ca cf cc ⟨#[99]⟩ w h hT
  rw [show findS S0 S0.F ⟨#[99]⟩ = (-1) by decide +kernel] at this
  exact this
theorem aFact2 (h : SigR w S0 a ca f cf c cc) (hT : Tab w) : Calls Tryd.prog 23 #[.agg #[.slice a 3 ca, .slice f 2 cf, .slice c 1 cc], .string ⟨#[113]⟩] w fun e w' => e = .returned (.int .i64 1) ∧ Keep NoF w w' := by
  have := Fact_any S0 a f c ca cf cc ⟨#[113]⟩ w h hT
  rw [show findS S0 S0.F ⟨#[113]⟩ = 1 by decide +kernel] at this
  exact this
theorem aAction (h : SigR w S0 a ca f cf c cc) (hT : Tab w) : Calls Tryd.prog 25 #[.agg #[.slice a 3 ca, .slice f 2 cf, .slice c 1 cc], .string ⟨#[97, 99, 116, 48]⟩] w fun e w' => e = .returned (.int .i64 0) ∧ Keep NoF w w' := by
  have := Action_any S0 a f c ca cf cc ⟨#[97, 99, 116, 48]⟩ w h hT
  rw [show findS S0 S0.C ⟨#[97, 99, 116, 48]⟩ = 0 by decide +kernel] at this
  exact this
end
theorem aCheck1 (w : World) (hT : Tab w) : Calls Tryd.prog 12 #[.agg #[.slice (some ⟨w.heap.size, 0, none⟩) 1 1, .slice (some ⟨w.heap.size + 1, 0, none⟩) 1 1, .slice none 0 0]] ((w.alloc (.cells #[.string ⟨#[97]⟩] 9)).alloc (.cells #[.string ⟨#[97]⟩] 9)) fun e w' => e = .returned (.int .i64 5) ∧ Keep NoF w w' := by
  have h1 := rd_lit w [⟨#[97]⟩] 1 (by omega) rfl
  have h2 := rd_lit (w.alloc (.cells #[.string ⟨#[97]⟩] 9)) [⟨#[97]⟩] 1 (by omega) rfl
  rw [World.size_alloc] at h2
  have hK : Keep NoF w ((w.alloc (.cells #[.string ⟨#[97]⟩] 9)).alloc (.cells #[.string ⟨#[97]⟩] 9)) := ((Keep.refl _ _).alloc _).alloc _
  have := Check_any ⟨[⟨#[97]⟩], [⟨#[97]⟩], []⟩ _ _ none 1 1 0 _ ⟨h1.kept ((Keep.refl NoF _).alloc _) fun _ _ h => h, h2, Rd.nil _ _, by decide +kernel, by simp, by simp, by simp⟩ (hT.keep0 hK)
  rw [show checkS ⟨[⟨#[97]⟩], [⟨#[97]⟩], []⟩ = 5 by decide +kernel] at this
  refine this.mono ?_
  rintro e w' ⟨rfl, hk⟩
  exact ⟨rfl, hK.trans hk fun _ _ h => h⟩
theorem aCheck2 (w : World) (hT : Tab w) : Calls Tryd.prog 12 #[.agg #[.slice (some ⟨w.heap.size, 0, none⟩) 1 1, .slice none 0 0, .slice none 0 0]] (w.alloc (.cells #[.string ⟨#[50, 97]⟩] 9)) fun e w' => e = .returned (.int .i64 3) ∧ Keep NoF w w' := by
  have h1 := rd_lit w [⟨#[50, 97]⟩] 1 (by omega) rfl
  have hK : Keep NoF w (w.alloc (.cells #[.string ⟨#[50, 97]⟩] 9)) := (Keep.refl _ _).alloc _
  have := Check_any ⟨[⟨#[50, 97]⟩], [], []⟩ _ none none 1 0 0 _ ⟨h1, Rd.nil _ _, Rd.nil _ _, by decide +kernel, by simp, by simp, by simp⟩ (hT.keep0 hK)
  rw [show checkS ⟨[⟨#[50, 97]⟩], [], []⟩ = 3 by decide +kernel] at this
  refine this.mono ?_
  rintro e w' ⟨rfl, hk⟩
  exact ⟨rfl, hK.trans hk fun _ _ h => h⟩
theorem aCheck3 (w : World) (hT : Tab w) : Calls Tryd.prog 12 #[.agg #[.slice none 0 0, .slice (some ⟨w.heap.size, 0, none⟩) 1 1, .slice none 0 0]] (w.alloc (.cells #[.string ⟨#[100, 111]⟩] 9)) fun e w' => e = .returned (.int .i64 5) ∧ Keep NoF w w' := by
  have h1 := rd_lit w [⟨#[100, 111]⟩] 1 (by omega) rfl
  have hK : Keep NoF w (w.alloc (.cells #[.string ⟨#[100, 111]⟩] 9)) := (Keep.refl _ _).alloc _
  have := Check_any ⟨[], [⟨#[100, 111]⟩], []⟩ none _ none 0 1 0 _ ⟨Rd.nil _ _, h1, Rd.nil _ _, by decide +kernel, by simp, by simp, by simp⟩ (hT.keep0 hK)
  rw [show checkS ⟨[], [⟨#[100, 111]⟩], []⟩ = 5 by decide +kernel] at this
  refine this.mono ?_
  rintro e w' ⟨rfl, hk⟩
  exact ⟨rfl, hK.trans hk fun _ _ h => h⟩
theorem aReserved (w : World) (hT : Tab w) : Calls Tryd.prog 16 #[.string ⟨#[117, 110, 116, 105, 108]⟩] w fun e w' => e = .returned (.bool true) ∧ w' = w := by
  have := Reserved_any ⟨#[117, 110, 116, 105, 108]⟩ w hT
  rw [show reserved ⟨#[117, 110, 116, 105, 108]⟩ = true by decide +kernel] at this
  exact this
theorem aIsName (w : World) : Calls Tryd.prog 14 #[.string ⟨#[120, 95, 49]⟩] w fun e w' => e = .returned (.bool true) ∧ Keep NoF w w' := by
  have := IsName_any ⟨#[120, 95, 49]⟩ w (by decide)
  rw [show nameB ⟨#[120, 95, 49]⟩ = true by decide +kernel] at this
  exact this
section
set_option maxRecDepth 100000
set_option maxHeartbeats 4000000
theorem awake_any (w : World) (hT : Tab w) : Calls Tryd.prog 10 #[] w fun e w' => e = .returned (.bool true) ∧ Keep NoF w w' := by
  have HT := Lib.hid hT
  have HD := Lib.hid (aDefault w)
  clear hT
  go_enter Tryd.func10, Tryd.ntmps10
  go_wp2_with (first
    | (go_at_call 18
       (with_reducible refine HD.out.mono ?_)
       rintro e w1 ⟨a, ca, f, cf, c, cc, rfl, hS, hk1⟩
       have HS := Lib.hid hS
       have hq1 : Keep NoF w (w1.alloc (.cells #[.slice a 3 ca, .slice f 2 cf, .slice c 1 cc] 24)) := hk1.alloc _
       have hy1 : Keep NoF w1 ((w1.alloc (.cells #[.slice a 3 ca, .slice f 2 cf, .slice c 1 cc] 24)).alloc (.cells #[.string ⟨#[99]⟩, .string ⟨#[97]⟩] 9)) := ((Keep.refl NoF w1).alloc _).alloc _
       have hr1 := rd_lit (w1.alloc (.cells #[.slice a 3 ca, .slice f 2 cf, .slice c 1 cc] 24)) [⟨#[99]⟩, ⟨#[97]⟩] 2 (by omega) rfl
       rw [World.size_alloc] at hr1
       have hg1 := aGroup (some ⟨w1.heap.size + 1, 0, none⟩) (hS.keep hy1) (HT.out.keep0 (hk1.trans hy1 fun _ _ h => h)) hr1
       have HG1 := Lib.hid hg1
       have HBX : Hid (∀ w', Keep NoF (w1.alloc (.cells #[.slice a 3 ca, .slice f 2 cf, .slice c 1 cc] 24)) w' → w'.cell? ⟨w1.heap.size, 0, none⟩ = some (.slice a 3 ca) ∧ w'.cell? ⟨w1.heap.size, 1, none⟩ = some (.slice f 2 cf) ∧ w'.cell? ⟨w1.heap.size, 2, none⟩ = some (.slice c 1 cc) ∧ w1.heap.size + 1 ≤ w'.heap.size) := Lib.hid fun w' hk => box_cells (S := S0) hk
       have K1 := Lib.hid hq1
       have Y1 : Hid (Keep NoF w1 (w1.alloc (.cells #[.slice a 3 ca, .slice f 2 cf, .slice c 1 cc] 24))) := Lib.hid ((Keep.refl NoF w1).alloc _)
       clear hS hk1 hq1 hy1 hr1 hg1)
    | (go_at_call 28
       (with_reducible refine HG1.out.mono ?_)
       rintro e w2 ⟨rfl, hq⟩
       have X2 : Hid (Keep NoF (w1.alloc (.cells #[.slice a 3 ca, .slice f 2 cf, .slice c 1 cc] 24)) w2) := Lib.hid (((Keep.refl _ _).alloc _).trans hq fun _ _ h => h)
       obtain ⟨c20, c21, c22, z2⟩ := HBX.out w2 X2.out
       clear hq)
    | (go_at_call 30
       (with_reducible refine (aText (HS.out.keep (Y1.out.trans X2.out fun _ _ h => h)) (HT.out.keep0 (K1.out.trans X2.out fun _ _ h => h))).mono ?_)
       rintro e w3 ⟨rfl, hq⟩
       have X3 : Hid (Keep NoF (w1.alloc (.cells #[.slice a 3 ca, .slice f 2 cf, .slice c 1 cc] 24)) w3) := Lib.hid (X2.out.trans hq fun _ _ h => h)
       obtain ⟨c30, c31, c32, z3⟩ := HBX.out w3 X3.out
       clear hq)
    | (go_at_call 32
       (with_reducible refine (aParse1 (HS.out.keep (Y1.out.trans X3.out fun _ _ h => h)) (HT.out.keep0 (K1.out.trans X3.out fun _ _ h => h))).mono ?_)
       rintro e w4 ⟨rfl, hq⟩
       have X4 : Hid (Keep NoF (w1.alloc (.cells #[.slice a 3 ca, .slice f 2 cf, .slice c 1 cc] 24)) w4) := Lib.hid (X3.out.trans hq fun _ _ h => h)
       obtain ⟨c40, c41, c42, z4⟩ := HBX.out w4 X4.out
       clear hq)
    | (go_at_call 32
       (with_reducible refine (aParse2 (HS.out.keep (Y1.out.trans X4.out fun _ _ h => h)) (HT.out.keep0 (K1.out.trans X4.out fun _ _ h => h))).mono ?_)
       rintro e w5 ⟨rfl, hq⟩
       have X5 : Hid (Keep NoF (w1.alloc (.cells #[.slice a 3 ca, .slice f 2 cf, .slice c 1 cc] 24)) w5) := Lib.hid (X4.out.trans hq fun _ _ h => h)
       obtain ⟨c50, c51, c52, z5⟩ := HBX.out w5 X5.out
       clear hq)
    | (go_at_call 32
       (with_reducible refine (aParse3 (HS.out.keep (Y1.out.trans X5.out fun _ _ h => h)) (HT.out.keep0 (K1.out.trans X5.out fun _ _ h => h))).mono ?_)
       rintro e w6 ⟨rfl, hq⟩
       have X6 : Hid (Keep NoF (w1.alloc (.cells #[.slice a 3 ca, .slice f 2 cf, .slice c 1 cc] 24)) w6) := Lib.hid (X5.out.trans hq fun _ _ h => h)
       obtain ⟨c60, c61, c62, z6⟩ := HBX.out w6 X6.out
       clear hq)
    | (go_at_call 32
       (with_reducible refine (aParse4 (HS.out.keep (Y1.out.trans X6.out fun _ _ h => h)) (HT.out.keep0 (K1.out.trans X6.out fun _ _ h => h))).mono ?_)
       rintro e w7 ⟨rfl, hq⟩
       have X7 : Hid (Keep NoF (w1.alloc (.cells #[.slice a 3 ca, .slice f 2 cf, .slice c 1 cc] 24)) w7) := Lib.hid (X6.out.trans hq fun _ _ h => h)
       obtain ⟨c70, c71, c72, z7⟩ := HBX.out w7 X7.out
       clear hq)
    | (go_at_call 21
       (with_reducible refine (aAgent (HS.out.keep (Y1.out.trans X7.out fun _ _ h => h)) (HT.out.keep0 (K1.out.trans X7.out fun _ _ h => h))).mono ?_)
       rintro e w8 ⟨rfl, hq⟩
       have X8 : Hid (Keep NoF (w1.alloc (.cells #[.slice a 3 ca, .slice f 2 cf, .slice c 1 cc] 24)) w8) := Lib.hid (X7.out.trans hq fun _ _ h => h)
       obtain ⟨c80, c81, c82, z8⟩ := HBX.out w8 X8.out
       clear hq)
    | (go_at_call 23
       (with_reducible refine (aFact1 (HS.out.keep (Y1.out.trans X8.out fun _ _ h => h)) (HT.out.keep0 (K1.out.trans X8.out fun _ _ h => h))).mono ?_)
       rintro e w9 ⟨rfl, hq⟩
       have X9 : Hid (Keep NoF (w1.alloc (.cells #[.slice a 3 ca, .slice f 2 cf, .slice c 1 cc] 24)) w9) := Lib.hid (X8.out.trans hq fun _ _ h => h)
       obtain ⟨c90, c91, c92, z9⟩ := HBX.out w9 X9.out
       clear hq)
    | (go_at_call 23
       (with_reducible refine (aFact2 (HS.out.keep (Y1.out.trans X9.out fun _ _ h => h)) (HT.out.keep0 (K1.out.trans X9.out fun _ _ h => h))).mono ?_)
       rintro e w10 ⟨rfl, hq⟩
       have X10 : Hid (Keep NoF (w1.alloc (.cells #[.slice a 3 ca, .slice f 2 cf, .slice c 1 cc] 24)) w10) := Lib.hid (X9.out.trans hq fun _ _ h => h)
       obtain ⟨c100, c101, c102, z10⟩ := HBX.out w10 X10.out
       clear hq)
    | (go_at_call 25
       (with_reducible refine (aAction (HS.out.keep (Y1.out.trans X10.out fun _ _ h => h)) (HT.out.keep0 (K1.out.trans X10.out fun _ _ h => h))).mono ?_)
       rintro e w11 ⟨rfl, hq⟩
       have X11 : Hid (Keep NoF (w1.alloc (.cells #[.slice a 3 ca, .slice f 2 cf, .slice c 1 cc] 24)) w11) := Lib.hid (X10.out.trans hq fun _ _ h => h)
       obtain ⟨c110, c111, c112, z11⟩ := HBX.out w11 X11.out
       clear hq)
    | (go_at_call 12
       (with_reducible refine (aCheck1 w11 (HT.out.keep0 (K1.out.trans X11.out fun _ _ h => h))).mono ?_)
       rintro e w12 ⟨rfl, hq⟩
       have X12 : Hid (Keep NoF (w1.alloc (.cells #[.slice a 3 ca, .slice f 2 cf, .slice c 1 cc] 24)) w12) := Lib.hid (X11.out.trans hq fun _ _ h => h)
       clear hq)
    | (go_at_call 12
       (with_reducible refine (aCheck2 w12 (HT.out.keep0 (K1.out.trans X12.out fun _ _ h => h))).mono ?_)
       rintro e w13 ⟨rfl, hq⟩
       have X13 : Hid (Keep NoF (w1.alloc (.cells #[.slice a 3 ca, .slice f 2 cf, .slice c 1 cc] 24)) w13) := Lib.hid (X12.out.trans hq fun _ _ h => h)
       clear hq)
    | (go_at_call 12
       (with_reducible refine (aCheck3 w13 (HT.out.keep0 (K1.out.trans X13.out fun _ _ h => h))).mono ?_)
       rintro e w14 ⟨rfl, hq⟩
       have X14 : Hid (Keep NoF (w1.alloc (.cells #[.slice a 3 ca, .slice f 2 cf, .slice c 1 cc] 24)) w14) := Lib.hid (X13.out.trans hq fun _ _ h => h)
       clear hq)
    | (go_at_call 16; (with_reducible refine (aReserved w14 (HT.out.keep0 (K1.out.trans X14.out fun _ _ h => h))).mono ?_); rintro e w' ⟨rfl, hw'⟩; obtain rfl := hw'.symm)
    | (go_at_call 14; (with_reducible refine (aIsName w14).mono ?_); rintro e wz ⟨rfl, hz⟩))
  go_ret
  exact ⟨rfl, (K1.out.trans X14.out fun _ _ h => h).trans hz fun _ _ h => h⟩
end
end Go.Proofs.YtcmoocemfnjkiaaDoor
