/- The printer's reference: Level, sign, enclosed and head. Conditions: the signature is right. -/
import Derived.Test.YtbidfbojealmlaaGreatDoorRfCG
import Derived.Test.YtbidfbojealmlaaGreatDoorSgK
import Derived.Test.YtbidfbojealmlaaGreatDoorPrT
import Derived.Test.YtbidfbojealmlaaGreatDoorPrSh
set_option linter.unusedVariables false
set_option linter.unusedSimpArgs false
namespace Go.Proofs.YtbidfbojealmlaaGreatDoor
open Go.RowKit
open Fm (Nd usesX usesY)
section
set_option maxRecDepth 100000
set_option maxHeartbeats 4000000
variable {S : Sg} {w : World} {a f c : Option Addr} {ca cf cc : Nat}
theorem rLevel_8 (w : World) : Calls Tryz.prog 63 #[.int .i64 8] w fun e w' => e = .returned (.int .i64 0) ∧ w' = w := by
  go_enter Tryz.func63, Tryz.ntmps63
  go_wp2
  go_ret
  exact ⟨rfl, rfl⟩
theorem rLevel_7 (w : World) : Calls Tryz.prog 63 #[.int .i64 7] w fun e w' => e = .returned (.int .i64 1) ∧ w' = w := by
  go_enter Tryz.func63, Tryz.ntmps63
  go_wp2
  go_ret
  exact ⟨rfl, rfl⟩
theorem rLevel_19 (w : World) : Calls Tryz.prog 63 #[.int .i64 19] w fun e w' => e = .returned (.int .i64 2) ∧ w' = w := by
  go_enter Tryz.func63, Tryz.ntmps63
  go_wp2
  go_ret
  exact ⟨rfl, rfl⟩
theorem rLevel_21 (w : World) : Calls Tryz.prog 63 #[.int .i64 21] w fun e w' => e = .returned (.int .i64 2) ∧ w' = w := by
  go_enter Tryz.func63, Tryz.ntmps63
  go_wp2
  go_ret
  exact ⟨rfl, rfl⟩
theorem rLevel_6 (w : World) : Calls Tryz.prog 63 #[.int .i64 6] w fun e w' => e = .returned (.int .i64 3) ∧ w' = w := by
  go_enter Tryz.func63, Tryz.ntmps63
  go_wp2
  go_ret
  exact ⟨rfl, rfl⟩
theorem rLevel_5 (w : World) : Calls Tryz.prog 63 #[.int .i64 5] w fun e w' => e = .returned (.int .i64 4) ∧ w' = w := by
  go_enter Tryz.func63, Tryz.ntmps63
  go_wp2
  go_ret
  exact ⟨rfl, rfl⟩
theorem rLevel_any (o : Int) (w : World) : Calls Tryz.prog 63 #[.int .i64 o] w fun e w' => e = .returned (.int .i64 (lvO o : Int)) ∧ w' = w := by
  by_cases h8 : o = 8
  · subst h8
    exact rLevel_8 w
  by_cases h7 : o = 7
  · subst h7
    exact rLevel_7 w
  by_cases h19 : o = 19
  · subst h19
    exact rLevel_19 w
  by_cases h21 : o = 21
  · subst h21
    exact rLevel_21 w
  by_cases h6 : o = 6
  · subst h6
    exact rLevel_6 w
  by_cases h5 : o = 5
  · subst h5
    exact rLevel_5 w
  have e8 : (o == 8) = false := by simpa using h8
  have e7 : (o == 7) = false := by simpa using h7
  have e19 : (o == 19) = false := by simpa using h19
  have e21 : (o == 21) = false := by simpa using h21
  have e6 : (o == 6) = false := by simpa using h6
  have e5 : (o == 5) = false := by simpa using h5
  have hv : lvO o = 5 := by unfold lvO; rw [if_neg h5, if_neg h6, if_neg (by omega), if_neg h7, if_neg h8]
  rw [hv]
  clear hv h5 h6 h7 h8 h19 h21
  go_enter Tryz.func63, Tryz.ntmps63
  go_wp2
  go_ret
  exact ⟨rfl, rfl⟩
theorem rsign_5 (w : World) : Calls Tryz.prog 65 #[.int .i64 5] w fun e w' => e = .returned (.string (txt (sgL 5))) ∧ w' = w := by
  go_enter Tryz.func65, Tryz.ntmps65
  go_wp2
  go_ret
  exact ⟨rfl, rfl⟩
theorem rsign_6 (w : World) : Calls Tryz.prog 65 #[.int .i64 6] w fun e w' => e = .returned (.string (txt (sgL 6))) ∧ w' = w := by
  go_enter Tryz.func65, Tryz.ntmps65
  go_wp2
  go_ret
  exact ⟨rfl, rfl⟩
theorem rsign_7 (w : World) : Calls Tryz.prog 65 #[.int .i64 7] w fun e w' => e = .returned (.string (txt (sgL 7))) ∧ w' = w := by
  go_enter Tryz.func65, Tryz.ntmps65
  go_wp2
  go_ret
  exact ⟨rfl, rfl⟩
theorem rsign_8 (w : World) : Calls Tryz.prog 65 #[.int .i64 8] w fun e w' => e = .returned (.string (txt (sgL 8))) ∧ w' = w := by
  go_enter Tryz.func65, Tryz.ntmps65
  go_wp2
  go_ret
  exact ⟨rfl, rfl⟩
theorem rsign_19 (w : World) : Calls Tryz.prog 65 #[.int .i64 19] w fun e w' => e = .returned (.string (txt (sgL 19))) ∧ w' = w := by
  go_enter Tryz.func65, Tryz.ntmps65
  go_wp2
  go_ret
  exact ⟨rfl, rfl⟩
theorem rsign_21 (w : World) : Calls Tryz.prog 65 #[.int .i64 21] w fun e w' => e = .returned (.string (txt (sgL 21))) ∧ w' = w := by
  go_enter Tryz.func65, Tryz.ntmps65
  go_wp2
  go_ret
  exact ⟨rfl, rfl⟩
theorem renclosed_any (l : List UInt8) (own level : Nat) (w : World) (hl : l.length ≤ 100000) : Calls Tryz.prog 62 #[.string (txt l), .int .i64 (own : Int), .int .i64 (level : Int)] w fun e w' => e = .returned (.string (txt (parL own level l))) ∧ w' = w := by
  have hs : (txt l).size ≤ 100000 := by rw [txt_size]; exact hl
  by_cases h : level ≤ own
  · have hp : parL own level l = l := by unfold parL; rw [if_pos h]
    have hd : decide (own < level) = false := decide_eq_false (by omega)
    rw [hp]
    clear hp
    generalize txt l = t at *
    go_enter Tryz.func62, Tryz.ntmps62
    go_wp2
    go_ret
    exact ⟨rfl, rfl⟩
  · have hp : txt (parL own level l) = ((⟨#[40]⟩ : ByteArray) ++ txt l) ++ ⟨#[41]⟩ := by
      unfold parL
      rw [if_neg h]
      show txt ([40] ++ (l ++ [41])) = (txt [40] ++ txt l) ++ txt [41]
      rw [← txt_app, ← txt_app]
      exact ByteArray.append_assoc.symm
    have hd : decide (own < level) = true := decide_eq_true (by omega)
    have hs2 : ((⟨#[40]⟩ : ByteArray) ++ txt l).size ≤ 100001 := by
      rw [ByteArray.size_append]
      show 1 + (txt l).size ≤ 100001
      omega
    have hd1 : ¬ level ≤ own := h
    rw [hp]
    clear hp
    generalize txt l = t at *
    go_enter Tryz.func62, Tryz.ntmps62
    go_wp2
    go_ret
    exact ⟨rfl, rfl⟩
theorem rhead_4 (hS : SigR w S a ca f cf c cc) (h0 : checkS S = 0) (x y : Int) : Calls Tryz.prog 64 #[.agg #[.slice a S.A.length ca, .slice f S.F.length cf, .slice c S.C.length cc], .agg #[.int .i64 4, .int .i64 0, .int .i64 0, .int .i64 0, .int .i64 x, .int .i64 y], .string ⟨#[]⟩] w fun e w' => e = .returned (.string (txt (hdL S 4 0 0 0))) ∧ Keep NoF w w' := by
  have hK0 : Keep NoF w ((w.alloc (.cells #[.slice a S.A.length ca, .slice f S.F.length cf, .slice c S.C.length cc] 24)).alloc (.cells #[.int .i64 4, .int .i64 0, .int .i64 0, .int .i64 0, .int .i64 x, .int .i64 y] 49)) := ((Keep.refl _ _).alloc _).alloc _
  have b0 : Bk ((w.alloc (.cells #[.slice a S.A.length ca, .slice f S.F.length cf, .slice c S.C.length cc] 24)).alloc (.cells #[.int .i64 4, .int .i64 0, .int .i64 0, .int .i64 0, .int .i64 x, .int .i64 y] 49)) w.heap.size 24 #[.slice a S.A.length ca, .slice f S.F.length cf, .slice c S.C.length cc] := (Bk.new w _ _).alloc _
  have b1 : Bk ((w.alloc (.cells #[.slice a S.A.length ca, .slice f S.F.length cf, .slice c S.C.length cc] 24)).alloc (.cells #[.int .i64 4, .int .i64 0, .int .i64 0, .int .i64 0, .int .i64 x, .int .i64 y] 49)) (w.heap.size + 1) 49 #[.int .i64 4, .int .i64 0, .int .i64 0, .int .i64 0, .int .i64 x, .int .i64 y] := by
    have := Bk.new (w.alloc (.cells #[.slice a S.A.length ca, .slice f S.F.length cf, .slice c S.C.length cc] 24)) 49 #[.int .i64 4, .int .i64 0, .int .i64 0, .int .i64 0, .int .i64 x, .int .i64 y]
    rwa [World.size_alloc] at this
  have HR : Hid (txt (hdL S 4 0 0 0) = ⟨#[126]⟩) := Lib.hid rfl
  go_enter Tryz.func64, Tryz.ntmps64
  go_upto_region 1 with (fail)
  generalize ((w.alloc (.cells #[.slice a S.A.length ca, .slice f S.F.length cf, .slice c S.C.length cc] 24)).alloc (.cells #[.int .i64 4, .int .i64 0, .int .i64 0, .int .i64 0, .int .i64 x, .int .i64 y] 49)) = W at *
  have HT := Lib.hid (rText_any S a f c ca cf cc 0 W (hS.keep hK0))
  generalize textS S 0 = tx at *
  have s0 : W.cell? ⟨w.heap.size, 0, none⟩ = some (.slice a S.A.length ca) := b0.cell 0
  have s1 : W.cell? ⟨w.heap.size, 1, none⟩ = some (.slice f S.F.length cf) := b0.cell 1
  have s2 : W.cell? ⟨w.heap.size, 2, none⟩ = some (.slice c S.C.length cc) := b0.cell 2
  have n3 : W.cell? ⟨w.heap.size + 1, 3, none⟩ = some (.int .i64 0) := b1.cell 3
  have HSG := Lib.hid (hS.keep hK0)
  have HK := Lib.hid hK0
  have HB0 := Lib.hid b0
  have HB1 := Lib.hid b1
  clear hS hK0 b0 b1
  go_wp2_with (first
    | (go_at_call 94
       (with_reducible refine HT.out.mono ?_)
       rintro e w1 ⟨rfl, k1⟩
       have t0 : w1.cell? ⟨w.heap.size, 0, none⟩ = some (.slice a S.A.length ca) := k1.cellv s0 fun h => h
       have t2 : w1.cell? ⟨w.heap.size, 2, none⟩ = some (.slice c S.C.length cc) := k1.cellv s2 fun h => h
       have m0 : w1.cell? ⟨w.heap.size + 1, 0, none⟩ = some (.int .i64 4) := k1.cellv (HB1.out.cell 0) fun h => h
       have m1 : w1.cell? ⟨w.heap.size + 1, 1, none⟩ = some (.int .i64 0) := k1.cellv (HB1.out.cell 1) fun h => h
       have m2 : w1.cell? ⟨w.heap.size + 1, 2, none⟩ = some (.int .i64 0) := k1.cellv (HB1.out.cell 2) fun h => h
       have hK := HK.out.trans k1 fun _ _ h => h
       have HS1 := Lib.hid (HSG.out.keep k1)))
  all_goals
    refine bodyPost_ret (v := .string (⟨#[126]⟩)) (by simp [results, Tryz.results64, go_sem]) rfl ?_
    exact ⟨by rw [HR.out], hK⟩
theorem rhead_18 (hS : SigR w S a ca f cf c cc) (h0 : checkS S = 0) (x y : Int) : Calls Tryz.prog 64 #[.agg #[.slice a S.A.length ca, .slice f S.F.length cf, .slice c S.C.length cc], .agg #[.int .i64 18, .int .i64 0, .int .i64 0, .int .i64 0, .int .i64 x, .int .i64 y], .string ⟨#[]⟩] w fun e w' => e = .returned (.string (txt (hdL S 18 0 0 0))) ∧ Keep NoF w w' := by
  have hK0 : Keep NoF w ((w.alloc (.cells #[.slice a S.A.length ca, .slice f S.F.length cf, .slice c S.C.length cc] 24)).alloc (.cells #[.int .i64 18, .int .i64 0, .int .i64 0, .int .i64 0, .int .i64 x, .int .i64 y] 49)) := ((Keep.refl _ _).alloc _).alloc _
  have b0 : Bk ((w.alloc (.cells #[.slice a S.A.length ca, .slice f S.F.length cf, .slice c S.C.length cc] 24)).alloc (.cells #[.int .i64 18, .int .i64 0, .int .i64 0, .int .i64 0, .int .i64 x, .int .i64 y] 49)) w.heap.size 24 #[.slice a S.A.length ca, .slice f S.F.length cf, .slice c S.C.length cc] := (Bk.new w _ _).alloc _
  have b1 : Bk ((w.alloc (.cells #[.slice a S.A.length ca, .slice f S.F.length cf, .slice c S.C.length cc] 24)).alloc (.cells #[.int .i64 18, .int .i64 0, .int .i64 0, .int .i64 0, .int .i64 x, .int .i64 y] 49)) (w.heap.size + 1) 49 #[.int .i64 18, .int .i64 0, .int .i64 0, .int .i64 0, .int .i64 x, .int .i64 y] := by
    have := Bk.new (w.alloc (.cells #[.slice a S.A.length ca, .slice f S.F.length cf, .slice c S.C.length cc] 24)) 49 #[.int .i64 18, .int .i64 0, .int .i64 0, .int .i64 0, .int .i64 x, .int .i64 y]
    rwa [World.size_alloc] at this
  have HR : Hid (txt (hdL S 18 0 0 0) = ⟨#[110, 101, 120, 116, 32]⟩) := Lib.hid rfl
  go_enter Tryz.func64, Tryz.ntmps64
  go_upto_region 1 with (fail)
  generalize ((w.alloc (.cells #[.slice a S.A.length ca, .slice f S.F.length cf, .slice c S.C.length cc] 24)).alloc (.cells #[.int .i64 18, .int .i64 0, .int .i64 0, .int .i64 0, .int .i64 x, .int .i64 y] 49)) = W at *
  have HT := Lib.hid (rText_any S a f c ca cf cc 0 W (hS.keep hK0))
  generalize textS S 0 = tx at *
  have s0 : W.cell? ⟨w.heap.size, 0, none⟩ = some (.slice a S.A.length ca) := b0.cell 0
  have s1 : W.cell? ⟨w.heap.size, 1, none⟩ = some (.slice f S.F.length cf) := b0.cell 1
  have s2 : W.cell? ⟨w.heap.size, 2, none⟩ = some (.slice c S.C.length cc) := b0.cell 2
  have n3 : W.cell? ⟨w.heap.size + 1, 3, none⟩ = some (.int .i64 0) := b1.cell 3
  have HSG := Lib.hid (hS.keep hK0)
  have HK := Lib.hid hK0
  have HB0 := Lib.hid b0
  have HB1 := Lib.hid b1
  clear hS hK0 b0 b1
  go_wp2_with (first
    | (go_at_call 94
       (with_reducible refine HT.out.mono ?_)
       rintro e w1 ⟨rfl, k1⟩
       have t0 : w1.cell? ⟨w.heap.size, 0, none⟩ = some (.slice a S.A.length ca) := k1.cellv s0 fun h => h
       have t2 : w1.cell? ⟨w.heap.size, 2, none⟩ = some (.slice c S.C.length cc) := k1.cellv s2 fun h => h
       have m0 : w1.cell? ⟨w.heap.size + 1, 0, none⟩ = some (.int .i64 18) := k1.cellv (HB1.out.cell 0) fun h => h
       have m1 : w1.cell? ⟨w.heap.size + 1, 1, none⟩ = some (.int .i64 0) := k1.cellv (HB1.out.cell 1) fun h => h
       have m2 : w1.cell? ⟨w.heap.size + 1, 2, none⟩ = some (.int .i64 0) := k1.cellv (HB1.out.cell 2) fun h => h
       have hK := HK.out.trans k1 fun _ _ h => h
       have HS1 := Lib.hid (HSG.out.keep k1)))
  all_goals
    refine bodyPost_ret (v := .string (⟨#[110, 101, 120, 116, 32]⟩)) (by simp [results, Tryz.results64, go_sem]) rfl ?_
    exact ⟨by rw [HR.out], hK⟩
theorem rhead_20 (hS : SigR w S a ca f cf c cc) (h0 : checkS S = 0) (x y : Int) : Calls Tryz.prog 64 #[.agg #[.slice a S.A.length ca, .slice f S.F.length cf, .slice c S.C.length cc], .agg #[.int .i64 20, .int .i64 0, .int .i64 0, .int .i64 0, .int .i64 x, .int .i64 y], .string ⟨#[]⟩] w fun e w' => e = .returned (.string (txt (hdL S 20 0 0 0))) ∧ Keep NoF w w' := by
  have hK0 : Keep NoF w ((w.alloc (.cells #[.slice a S.A.length ca, .slice f S.F.length cf, .slice c S.C.length cc] 24)).alloc (.cells #[.int .i64 20, .int .i64 0, .int .i64 0, .int .i64 0, .int .i64 x, .int .i64 y] 49)) := ((Keep.refl _ _).alloc _).alloc _
  have b0 : Bk ((w.alloc (.cells #[.slice a S.A.length ca, .slice f S.F.length cf, .slice c S.C.length cc] 24)).alloc (.cells #[.int .i64 20, .int .i64 0, .int .i64 0, .int .i64 0, .int .i64 x, .int .i64 y] 49)) w.heap.size 24 #[.slice a S.A.length ca, .slice f S.F.length cf, .slice c S.C.length cc] := (Bk.new w _ _).alloc _
  have b1 : Bk ((w.alloc (.cells #[.slice a S.A.length ca, .slice f S.F.length cf, .slice c S.C.length cc] 24)).alloc (.cells #[.int .i64 20, .int .i64 0, .int .i64 0, .int .i64 0, .int .i64 x, .int .i64 y] 49)) (w.heap.size + 1) 49 #[.int .i64 20, .int .i64 0, .int .i64 0, .int .i64 0, .int .i64 x, .int .i64 y] := by
    have := Bk.new (w.alloc (.cells #[.slice a S.A.length ca, .slice f S.F.length cf, .slice c S.C.length cc] 24)) 49 #[.int .i64 20, .int .i64 0, .int .i64 0, .int .i64 0, .int .i64 x, .int .i64 y]
    rwa [World.size_alloc] at this
  have HR : Hid (txt (hdL S 20 0 0 0) = ⟨#[112, 114, 101, 118, 32]⟩) := Lib.hid rfl
  go_enter Tryz.func64, Tryz.ntmps64
  go_upto_region 1 with (fail)
  generalize ((w.alloc (.cells #[.slice a S.A.length ca, .slice f S.F.length cf, .slice c S.C.length cc] 24)).alloc (.cells #[.int .i64 20, .int .i64 0, .int .i64 0, .int .i64 0, .int .i64 x, .int .i64 y] 49)) = W at *
  have HT := Lib.hid (rText_any S a f c ca cf cc 0 W (hS.keep hK0))
  generalize textS S 0 = tx at *
  have s0 : W.cell? ⟨w.heap.size, 0, none⟩ = some (.slice a S.A.length ca) := b0.cell 0
  have s1 : W.cell? ⟨w.heap.size, 1, none⟩ = some (.slice f S.F.length cf) := b0.cell 1
  have s2 : W.cell? ⟨w.heap.size, 2, none⟩ = some (.slice c S.C.length cc) := b0.cell 2
  have n3 : W.cell? ⟨w.heap.size + 1, 3, none⟩ = some (.int .i64 0) := b1.cell 3
  have HSG := Lib.hid (hS.keep hK0)
  have HK := Lib.hid hK0
  have HB0 := Lib.hid b0
  have HB1 := Lib.hid b1
  clear hS hK0 b0 b1
  go_wp2_with (first
    | (go_at_call 94
       (with_reducible refine HT.out.mono ?_)
       rintro e w1 ⟨rfl, k1⟩
       have t0 : w1.cell? ⟨w.heap.size, 0, none⟩ = some (.slice a S.A.length ca) := k1.cellv s0 fun h => h
       have t2 : w1.cell? ⟨w.heap.size, 2, none⟩ = some (.slice c S.C.length cc) := k1.cellv s2 fun h => h
       have m0 : w1.cell? ⟨w.heap.size + 1, 0, none⟩ = some (.int .i64 20) := k1.cellv (HB1.out.cell 0) fun h => h
       have m1 : w1.cell? ⟨w.heap.size + 1, 1, none⟩ = some (.int .i64 0) := k1.cellv (HB1.out.cell 1) fun h => h
       have m2 : w1.cell? ⟨w.heap.size + 1, 2, none⟩ = some (.int .i64 0) := k1.cellv (HB1.out.cell 2) fun h => h
       have hK := HK.out.trans k1 fun _ _ h => h
       have HS1 := Lib.hid (HSG.out.keep k1)))
  all_goals
    refine bodyPost_ret (v := .string (⟨#[112, 114, 101, 118, 32]⟩)) (by simp [results, Tryz.results64, go_sem]) rfl ?_
    exact ⟨by rw [HR.out], hK⟩
theorem rhead_9 (hS : SigR w S a ca f cf c cc) (h0 : checkS S = 0) (x y : Int) {n : Nat} (hn : n < S.A.length) : Calls Tryz.prog 64 #[.agg #[.slice a S.A.length ca, .slice f S.F.length cf, .slice c S.C.length cc], .agg #[.int .i64 9, .int .i64 (n : Int), .int .i64 0, .int .i64 0, .int .i64 x, .int .i64 y], .string ⟨#[]⟩] w fun e w' => e = .returned (.string (txt (hdL S 9 (n : Int) 0 0))) ∧ Keep NoF w w' := by
  have hK0 : Keep NoF w ((w.alloc (.cells #[.slice a S.A.length ca, .slice f S.F.length cf, .slice c S.C.length cc] 24)).alloc (.cells #[.int .i64 9, .int .i64 (n : Int), .int .i64 0, .int .i64 0, .int .i64 x, .int .i64 y] 49)) := ((Keep.refl _ _).alloc _).alloc _
  have b0 : Bk ((w.alloc (.cells #[.slice a S.A.length ca, .slice f S.F.length cf, .slice c S.C.length cc] 24)).alloc (.cells #[.int .i64 9, .int .i64 (n : Int), .int .i64 0, .int .i64 0, .int .i64 x, .int .i64 y] 49)) w.heap.size 24 #[.slice a S.A.length ca, .slice f S.F.length cf, .slice c S.C.length cc] := (Bk.new w _ _).alloc _
  have b1 : Bk ((w.alloc (.cells #[.slice a S.A.length ca, .slice f S.F.length cf, .slice c S.C.length cc] 24)).alloc (.cells #[.int .i64 9, .int .i64 (n : Int), .int .i64 0, .int .i64 0, .int .i64 x, .int .i64 y] 49)) (w.heap.size + 1) 49 #[.int .i64 9, .int .i64 (n : Int), .int .i64 0, .int .i64 0, .int .i64 x, .int .i64 y] := by
    have := Bk.new (w.alloc (.cells #[.slice a S.A.length ca, .slice f S.F.length cf, .slice c S.C.length cc] 24)) 49 #[.int .i64 9, .int .i64 (n : Int), .int .i64 0, .int .i64 0, .int .i64 x, .int .i64 y]
    rwa [World.size_alloc] at this
  have hsz : (nmB S.A n).size ≤ 8 := (name_size ((checkS_ok h0).name _ (by have := nm_mem hn; simp [Sg.all, this])).1).2
  have hx := nm_at hn
  have hb1 : (0 : Int) ≤ (n : Int) := by omega
  have hb2 : (n : Int) < (S.A.length : Int) := by omega
  have HR : Hid (txt (hdL S 9 (n : Int) 0 0) = ((⟨#[75, 91]⟩ : ByteArray) ++ nmB S.A n) ++ ⟨#[93]⟩) := Lib.hid (by
    show txt ([75, 91] ++ (nmB S.A n).data.toList ++ [93]) = (txt [75, 91] ++ nmB S.A n) ++ txt [93]
    rw [← txt_app, ← txt_app, txt_data])
  have hs2 : ((⟨#[75, 91]⟩ : ByteArray) ++ nmB S.A n).size ≤ 10 := by
    rw [ByteArray.size_append]
    show 2 + (nmB S.A n).size ≤ 10
    omega
  generalize nmB S.A n = nm at *
  go_enter Tryz.func64, Tryz.ntmps64
  go_upto_region 1 with (fail)
  generalize ((w.alloc (.cells #[.slice a S.A.length ca, .slice f S.F.length cf, .slice c S.C.length cc] 24)).alloc (.cells #[.int .i64 9, .int .i64 (n : Int), .int .i64 0, .int .i64 0, .int .i64 x, .int .i64 y] 49)) = W at *
  have HT := Lib.hid (rText_any S a f c ca cf cc 0 W (hS.keep hK0))
  generalize textS S 0 = tx at *
  have s0 : W.cell? ⟨w.heap.size, 0, none⟩ = some (.slice a S.A.length ca) := b0.cell 0
  have s1 : W.cell? ⟨w.heap.size, 1, none⟩ = some (.slice f S.F.length cf) := b0.cell 1
  have s2 : W.cell? ⟨w.heap.size, 2, none⟩ = some (.slice c S.C.length cc) := b0.cell 2
  have n3 : W.cell? ⟨w.heap.size + 1, 3, none⟩ = some (.int .i64 0) := b1.cell 3
  have HSG := Lib.hid (hS.keep hK0)
  have HK := Lib.hid hK0
  have HB0 := Lib.hid b0
  have HB1 := Lib.hid b1
  clear hS hK0 b0 b1
  go_wp2_with (first
    | (go_at_call 94
       (with_reducible refine HT.out.mono ?_)
       rintro e w1 ⟨rfl, k1⟩
       have t0 : w1.cell? ⟨w.heap.size, 0, none⟩ = some (.slice a S.A.length ca) := k1.cellv s0 fun h => h
       have t2 : w1.cell? ⟨w.heap.size, 2, none⟩ = some (.slice c S.C.length cc) := k1.cellv s2 fun h => h
       have m0 : w1.cell? ⟨w.heap.size + 1, 0, none⟩ = some (.int .i64 9) := k1.cellv (HB1.out.cell 0) fun h => h
       have m1 : w1.cell? ⟨w.heap.size + 1, 1, none⟩ = some (.int .i64 (n : Int)) := k1.cellv (HB1.out.cell 1) fun h => h
       have m2 : w1.cell? ⟨w.heap.size + 1, 2, none⟩ = some (.int .i64 0) := k1.cellv (HB1.out.cell 2) fun h => h
       have hK := HK.out.trans k1 fun _ _ h => h
       have HS1 := Lib.hid (HSG.out.keep k1)
       obtain ⟨-, hcc, bl, off, hA0, hc⟩ := HS1.out.A.str hx
       rw [hA0] at t0))
  all_goals
    refine bodyPost_ret (v := .string (((⟨#[75, 91]⟩ : ByteArray) ++ nm) ++ ⟨#[93]⟩)) (by simp [results, Tryz.results64, go_sem]) rfl ?_
    exact ⟨by rw [HR.out], hK⟩
theorem rhead_10 (hS : SigR w S a ca f cf c cc) (h0 : checkS S = 0) (x y : Int) {n : Nat} (hn : n < S.A.length) : Calls Tryz.prog 64 #[.agg #[.slice a S.A.length ca, .slice f S.F.length cf, .slice c S.C.length cc], .agg #[.int .i64 10, .int .i64 (n : Int), .int .i64 0, .int .i64 0, .int .i64 x, .int .i64 y], .string ⟨#[]⟩] w fun e w' => e = .returned (.string (txt (hdL S 10 (n : Int) 0 0))) ∧ Keep NoF w w' := by
  have hK0 : Keep NoF w ((w.alloc (.cells #[.slice a S.A.length ca, .slice f S.F.length cf, .slice c S.C.length cc] 24)).alloc (.cells #[.int .i64 10, .int .i64 (n : Int), .int .i64 0, .int .i64 0, .int .i64 x, .int .i64 y] 49)) := ((Keep.refl _ _).alloc _).alloc _
  have b0 : Bk ((w.alloc (.cells #[.slice a S.A.length ca, .slice f S.F.length cf, .slice c S.C.length cc] 24)).alloc (.cells #[.int .i64 10, .int .i64 (n : Int), .int .i64 0, .int .i64 0, .int .i64 x, .int .i64 y] 49)) w.heap.size 24 #[.slice a S.A.length ca, .slice f S.F.length cf, .slice c S.C.length cc] := (Bk.new w _ _).alloc _
  have b1 : Bk ((w.alloc (.cells #[.slice a S.A.length ca, .slice f S.F.length cf, .slice c S.C.length cc] 24)).alloc (.cells #[.int .i64 10, .int .i64 (n : Int), .int .i64 0, .int .i64 0, .int .i64 x, .int .i64 y] 49)) (w.heap.size + 1) 49 #[.int .i64 10, .int .i64 (n : Int), .int .i64 0, .int .i64 0, .int .i64 x, .int .i64 y] := by
    have := Bk.new (w.alloc (.cells #[.slice a S.A.length ca, .slice f S.F.length cf, .slice c S.C.length cc] 24)) 49 #[.int .i64 10, .int .i64 (n : Int), .int .i64 0, .int .i64 0, .int .i64 x, .int .i64 y]
    rwa [World.size_alloc] at this
  have hsz : (nmB S.A n).size ≤ 8 := (name_size ((checkS_ok h0).name _ (by have := nm_mem hn; simp [Sg.all, this])).1).2
  have hx := nm_at hn
  have hb1 : (0 : Int) ≤ (n : Int) := by omega
  have hb2 : (n : Int) < (S.A.length : Int) := by omega
  have HR : Hid (txt (hdL S 10 (n : Int) 0 0) = ((⟨#[77, 91]⟩ : ByteArray) ++ nmB S.A n) ++ ⟨#[93]⟩) := Lib.hid (by
    show txt ([77, 91] ++ (nmB S.A n).data.toList ++ [93]) = (txt [77, 91] ++ nmB S.A n) ++ txt [93]
    rw [← txt_app, ← txt_app, txt_data])
  have hs2 : ((⟨#[77, 91]⟩ : ByteArray) ++ nmB S.A n).size ≤ 10 := by
    rw [ByteArray.size_append]
    show 2 + (nmB S.A n).size ≤ 10
    omega
  generalize nmB S.A n = nm at *
  go_enter Tryz.func64, Tryz.ntmps64
  go_upto_region 1 with (fail)
  generalize ((w.alloc (.cells #[.slice a S.A.length ca, .slice f S.F.length cf, .slice c S.C.length cc] 24)).alloc (.cells #[.int .i64 10, .int .i64 (n : Int), .int .i64 0, .int .i64 0, .int .i64 x, .int .i64 y] 49)) = W at *
  have HT := Lib.hid (rText_any S a f c ca cf cc 0 W (hS.keep hK0))
  generalize textS S 0 = tx at *
  have s0 : W.cell? ⟨w.heap.size, 0, none⟩ = some (.slice a S.A.length ca) := b0.cell 0
  have s1 : W.cell? ⟨w.heap.size, 1, none⟩ = some (.slice f S.F.length cf) := b0.cell 1
  have s2 : W.cell? ⟨w.heap.size, 2, none⟩ = some (.slice c S.C.length cc) := b0.cell 2
  have n3 : W.cell? ⟨w.heap.size + 1, 3, none⟩ = some (.int .i64 0) := b1.cell 3
  have HSG := Lib.hid (hS.keep hK0)
  have HK := Lib.hid hK0
  have HB0 := Lib.hid b0
  have HB1 := Lib.hid b1
  clear hS hK0 b0 b1
  go_wp2_with (first
    | (go_at_call 94
       (with_reducible refine HT.out.mono ?_)
       rintro e w1 ⟨rfl, k1⟩
       have t0 : w1.cell? ⟨w.heap.size, 0, none⟩ = some (.slice a S.A.length ca) := k1.cellv s0 fun h => h
       have t2 : w1.cell? ⟨w.heap.size, 2, none⟩ = some (.slice c S.C.length cc) := k1.cellv s2 fun h => h
       have m0 : w1.cell? ⟨w.heap.size + 1, 0, none⟩ = some (.int .i64 10) := k1.cellv (HB1.out.cell 0) fun h => h
       have m1 : w1.cell? ⟨w.heap.size + 1, 1, none⟩ = some (.int .i64 (n : Int)) := k1.cellv (HB1.out.cell 1) fun h => h
       have m2 : w1.cell? ⟨w.heap.size + 1, 2, none⟩ = some (.int .i64 0) := k1.cellv (HB1.out.cell 2) fun h => h
       have hK := HK.out.trans k1 fun _ _ h => h
       have HS1 := Lib.hid (HSG.out.keep k1)
       obtain ⟨-, hcc, bl, off, hA0, hc⟩ := HS1.out.A.str hx
       rw [hA0] at t0))
  all_goals
    refine bodyPost_ret (v := .string (((⟨#[77, 91]⟩ : ByteArray) ++ nm) ++ ⟨#[93]⟩)) (by simp [results, Tryz.results64, go_sem]) rfl ?_
    exact ⟨by rw [HR.out], hK⟩
theorem rhead_15 (hS : SigR w S a ca f cf c cc) (h0 : checkS S = 0) (x y : Int) {n : Nat} (hn : n < S.A.length) : Calls Tryz.prog 64 #[.agg #[.slice a S.A.length ca, .slice f S.F.length cf, .slice c S.C.length cc], .agg #[.int .i64 15, .int .i64 (n : Int), .int .i64 0, .int .i64 0, .int .i64 x, .int .i64 y], .string ⟨#[]⟩] w fun e w' => e = .returned (.string (txt (hdL S 15 (n : Int) 0 0))) ∧ Keep NoF w w' := by
  have hK0 : Keep NoF w ((w.alloc (.cells #[.slice a S.A.length ca, .slice f S.F.length cf, .slice c S.C.length cc] 24)).alloc (.cells #[.int .i64 15, .int .i64 (n : Int), .int .i64 0, .int .i64 0, .int .i64 x, .int .i64 y] 49)) := ((Keep.refl _ _).alloc _).alloc _
  have b0 : Bk ((w.alloc (.cells #[.slice a S.A.length ca, .slice f S.F.length cf, .slice c S.C.length cc] 24)).alloc (.cells #[.int .i64 15, .int .i64 (n : Int), .int .i64 0, .int .i64 0, .int .i64 x, .int .i64 y] 49)) w.heap.size 24 #[.slice a S.A.length ca, .slice f S.F.length cf, .slice c S.C.length cc] := (Bk.new w _ _).alloc _
  have b1 : Bk ((w.alloc (.cells #[.slice a S.A.length ca, .slice f S.F.length cf, .slice c S.C.length cc] 24)).alloc (.cells #[.int .i64 15, .int .i64 (n : Int), .int .i64 0, .int .i64 0, .int .i64 x, .int .i64 y] 49)) (w.heap.size + 1) 49 #[.int .i64 15, .int .i64 (n : Int), .int .i64 0, .int .i64 0, .int .i64 x, .int .i64 y] := by
    have := Bk.new (w.alloc (.cells #[.slice a S.A.length ca, .slice f S.F.length cf, .slice c S.C.length cc] 24)) 49 #[.int .i64 15, .int .i64 (n : Int), .int .i64 0, .int .i64 0, .int .i64 x, .int .i64 y]
    rwa [World.size_alloc] at this
  have hsz : (nmB S.A n).size ≤ 8 := (name_size ((checkS_ok h0).name _ (by have := nm_mem hn; simp [Sg.all, this])).1).2
  have hx := nm_at hn
  have hb1 : (0 : Int) ≤ (n : Int) := by omega
  have hb2 : (n : Int) < (S.A.length : Int) := by omega
  have HR : Hid (txt (hdL S 15 (n : Int) 0 0) = ((⟨#[83, 91]⟩ : ByteArray) ++ nmB S.A n) ++ ⟨#[93]⟩) := Lib.hid (by
    show txt ([83, 91] ++ (nmB S.A n).data.toList ++ [93]) = (txt [83, 91] ++ nmB S.A n) ++ txt [93]
    rw [← txt_app, ← txt_app, txt_data])
  have hs2 : ((⟨#[83, 91]⟩ : ByteArray) ++ nmB S.A n).size ≤ 10 := by
    rw [ByteArray.size_append]
    show 2 + (nmB S.A n).size ≤ 10
    omega
  generalize nmB S.A n = nm at *
  go_enter Tryz.func64, Tryz.ntmps64
  go_upto_region 1 with (fail)
  generalize ((w.alloc (.cells #[.slice a S.A.length ca, .slice f S.F.length cf, .slice c S.C.length cc] 24)).alloc (.cells #[.int .i64 15, .int .i64 (n : Int), .int .i64 0, .int .i64 0, .int .i64 x, .int .i64 y] 49)) = W at *
  have HT := Lib.hid (rText_any S a f c ca cf cc 0 W (hS.keep hK0))
  generalize textS S 0 = tx at *
  have s0 : W.cell? ⟨w.heap.size, 0, none⟩ = some (.slice a S.A.length ca) := b0.cell 0
  have s1 : W.cell? ⟨w.heap.size, 1, none⟩ = some (.slice f S.F.length cf) := b0.cell 1
  have s2 : W.cell? ⟨w.heap.size, 2, none⟩ = some (.slice c S.C.length cc) := b0.cell 2
  have n3 : W.cell? ⟨w.heap.size + 1, 3, none⟩ = some (.int .i64 0) := b1.cell 3
  have HSG := Lib.hid (hS.keep hK0)
  have HK := Lib.hid hK0
  have HB0 := Lib.hid b0
  have HB1 := Lib.hid b1
  clear hS hK0 b0 b1
  go_wp2_with (first
    | (go_at_call 94
       (with_reducible refine HT.out.mono ?_)
       rintro e w1 ⟨rfl, k1⟩
       have t0 : w1.cell? ⟨w.heap.size, 0, none⟩ = some (.slice a S.A.length ca) := k1.cellv s0 fun h => h
       have t2 : w1.cell? ⟨w.heap.size, 2, none⟩ = some (.slice c S.C.length cc) := k1.cellv s2 fun h => h
       have m0 : w1.cell? ⟨w.heap.size + 1, 0, none⟩ = some (.int .i64 15) := k1.cellv (HB1.out.cell 0) fun h => h
       have m1 : w1.cell? ⟨w.heap.size + 1, 1, none⟩ = some (.int .i64 (n : Int)) := k1.cellv (HB1.out.cell 1) fun h => h
       have m2 : w1.cell? ⟨w.heap.size + 1, 2, none⟩ = some (.int .i64 0) := k1.cellv (HB1.out.cell 2) fun h => h
       have hK := HK.out.trans k1 fun _ _ h => h
       have HS1 := Lib.hid (HSG.out.keep k1)
       obtain ⟨-, hcc, bl, off, hA0, hc⟩ := HS1.out.A.str hx
       rw [hA0] at t0))
  all_goals
    refine bodyPost_ret (v := .string (((⟨#[83, 91]⟩ : ByteArray) ++ nm) ++ ⟨#[93]⟩)) (by simp [results, Tryz.results64, go_sem]) rfl ?_
    exact ⟨by rw [HR.out], hK⟩
theorem rhead_11 (hS : SigR w S a ca f cf c cc) (h0 : checkS S = 0) (x y : Int) {n : Nat} (hn1 : 1 ≤ n) (hn2 : n < 2 ^ S.A.length) : Calls Tryz.prog 64 #[.agg #[.slice a S.A.length ca, .slice f S.F.length cf, .slice c S.C.length cc], .agg #[.int .i64 11, .int .i64 0, .int .i64 0, .int .i64 (n : Int), .int .i64 x, .int .i64 y], .string ⟨#[]⟩] w fun e w' => e = .returned (.string (txt (hdL S 11 0 0 (n : Int)))) ∧ Keep NoF w w' := by
  have hK0 : Keep NoF w ((w.alloc (.cells #[.slice a S.A.length ca, .slice f S.F.length cf, .slice c S.C.length cc] 24)).alloc (.cells #[.int .i64 11, .int .i64 0, .int .i64 0, .int .i64 (n : Int), .int .i64 x, .int .i64 y] 49)) := ((Keep.refl _ _).alloc _).alloc _
  have b0 : Bk ((w.alloc (.cells #[.slice a S.A.length ca, .slice f S.F.length cf, .slice c S.C.length cc] 24)).alloc (.cells #[.int .i64 11, .int .i64 0, .int .i64 0, .int .i64 (n : Int), .int .i64 x, .int .i64 y] 49)) w.heap.size 24 #[.slice a S.A.length ca, .slice f S.F.length cf, .slice c S.C.length cc] := (Bk.new w _ _).alloc _
  have b1 : Bk ((w.alloc (.cells #[.slice a S.A.length ca, .slice f S.F.length cf, .slice c S.C.length cc] 24)).alloc (.cells #[.int .i64 11, .int .i64 0, .int .i64 0, .int .i64 (n : Int), .int .i64 x, .int .i64 y] 49)) (w.heap.size + 1) 49 #[.int .i64 11, .int .i64 0, .int .i64 0, .int .i64 (n : Int), .int .i64 x, .int .i64 y] := by
    have := Bk.new (w.alloc (.cells #[.slice a S.A.length ca, .slice f S.F.length cf, .slice c S.C.length cc] 24)) 49 #[.int .i64 11, .int .i64 0, .int .i64 0, .int .i64 (n : Int), .int .i64 x, .int .i64 y]
    rwa [World.size_alloc] at this
  have hA := (checkS_ok h0).lA
  have hsz : (joinC (sel n S.A 0)).size ≤ 36 := by
    have h1 := joinC_size (sel n S.A 0) fun x hx => (name_size ((checkS_ok h0).name x (by have := sel_sub n S.A 0 x hx; simp [Sg.all, this])).1).2
    have h2 := sel_len n S.A 0
    omega
  have HR : Hid (txt (hdL S 11 0 0 (n : Int)) = ((⟨#[69, 91]⟩ : ByteArray) ++ joinC (sel n S.A 0)) ++ ⟨#[93]⟩) := Lib.hid (by
    show txt ([69, 91] ++ (joinC (sel n S.A 0)).data.toList ++ [93]) = (txt [69, 91] ++ joinC (sel n S.A 0)) ++ txt [93]
    rw [← txt_app, ← txt_app, txt_data])
  have hs2 : ((⟨#[69, 91]⟩ : ByteArray) ++ joinC (sel n S.A 0)).size ≤ 40 := by
    rw [ByteArray.size_append]
    show 2 + (joinC (sel n S.A 0)).size ≤ 40
    omega
  go_enter Tryz.func64, Tryz.ntmps64
  go_upto_region 1 with (fail)
  generalize ((w.alloc (.cells #[.slice a S.A.length ca, .slice f S.F.length cf, .slice c S.C.length cc] 24)).alloc (.cells #[.int .i64 11, .int .i64 0, .int .i64 0, .int .i64 (n : Int), .int .i64 x, .int .i64 y] 49)) = W at *
  have HT := Lib.hid (rText_any S a f c ca cf cc ((n : Int)) W (hS.keep hK0))
  rw [textS_in h0 hn1 hn2] at HT
  generalize joinC (sel n S.A 0) = nm at *
  have s0 : W.cell? ⟨w.heap.size, 0, none⟩ = some (.slice a S.A.length ca) := b0.cell 0
  have s1 : W.cell? ⟨w.heap.size, 1, none⟩ = some (.slice f S.F.length cf) := b0.cell 1
  have s2 : W.cell? ⟨w.heap.size, 2, none⟩ = some (.slice c S.C.length cc) := b0.cell 2
  have n3 : W.cell? ⟨w.heap.size + 1, 3, none⟩ = some (.int .i64 (n : Int)) := b1.cell 3
  have HSG := Lib.hid (hS.keep hK0)
  have HK := Lib.hid hK0
  have HB0 := Lib.hid b0
  have HB1 := Lib.hid b1
  clear hS hK0 b0 b1
  go_wp2_with (first
    | (go_at_call 94
       (with_reducible refine HT.out.mono ?_)
       rintro e w1 ⟨rfl, k1⟩
       have t0 : w1.cell? ⟨w.heap.size, 0, none⟩ = some (.slice a S.A.length ca) := k1.cellv s0 fun h => h
       have t2 : w1.cell? ⟨w.heap.size, 2, none⟩ = some (.slice c S.C.length cc) := k1.cellv s2 fun h => h
       have m0 : w1.cell? ⟨w.heap.size + 1, 0, none⟩ = some (.int .i64 11) := k1.cellv (HB1.out.cell 0) fun h => h
       have m1 : w1.cell? ⟨w.heap.size + 1, 1, none⟩ = some (.int .i64 0) := k1.cellv (HB1.out.cell 1) fun h => h
       have m2 : w1.cell? ⟨w.heap.size + 1, 2, none⟩ = some (.int .i64 0) := k1.cellv (HB1.out.cell 2) fun h => h
       have hK := HK.out.trans k1 fun _ _ h => h
       have HS1 := Lib.hid (HSG.out.keep k1)))
  all_goals
    refine bodyPost_ret (v := .string (((⟨#[69, 91]⟩ : ByteArray) ++ nm) ++ ⟨#[93]⟩)) (by simp [results, Tryz.results64, go_sem]) rfl ?_
    exact ⟨by rw [HR.out], hK⟩
theorem rhead_12 (hS : SigR w S a ca f cf c cc) (h0 : checkS S = 0) (x y : Int) {n : Nat} (hn1 : 1 ≤ n) (hn2 : n < 2 ^ S.A.length) : Calls Tryz.prog 64 #[.agg #[.slice a S.A.length ca, .slice f S.F.length cf, .slice c S.C.length cc], .agg #[.int .i64 12, .int .i64 0, .int .i64 0, .int .i64 (n : Int), .int .i64 x, .int .i64 y], .string ⟨#[]⟩] w fun e w' => e = .returned (.string (txt (hdL S 12 0 0 (n : Int)))) ∧ Keep NoF w w' := by
  have hK0 : Keep NoF w ((w.alloc (.cells #[.slice a S.A.length ca, .slice f S.F.length cf, .slice c S.C.length cc] 24)).alloc (.cells #[.int .i64 12, .int .i64 0, .int .i64 0, .int .i64 (n : Int), .int .i64 x, .int .i64 y] 49)) := ((Keep.refl _ _).alloc _).alloc _
  have b0 : Bk ((w.alloc (.cells #[.slice a S.A.length ca, .slice f S.F.length cf, .slice c S.C.length cc] 24)).alloc (.cells #[.int .i64 12, .int .i64 0, .int .i64 0, .int .i64 (n : Int), .int .i64 x, .int .i64 y] 49)) w.heap.size 24 #[.slice a S.A.length ca, .slice f S.F.length cf, .slice c S.C.length cc] := (Bk.new w _ _).alloc _
  have b1 : Bk ((w.alloc (.cells #[.slice a S.A.length ca, .slice f S.F.length cf, .slice c S.C.length cc] 24)).alloc (.cells #[.int .i64 12, .int .i64 0, .int .i64 0, .int .i64 (n : Int), .int .i64 x, .int .i64 y] 49)) (w.heap.size + 1) 49 #[.int .i64 12, .int .i64 0, .int .i64 0, .int .i64 (n : Int), .int .i64 x, .int .i64 y] := by
    have := Bk.new (w.alloc (.cells #[.slice a S.A.length ca, .slice f S.F.length cf, .slice c S.C.length cc] 24)) 49 #[.int .i64 12, .int .i64 0, .int .i64 0, .int .i64 (n : Int), .int .i64 x, .int .i64 y]
    rwa [World.size_alloc] at this
  have hA := (checkS_ok h0).lA
  have hsz : (joinC (sel n S.A 0)).size ≤ 36 := by
    have h1 := joinC_size (sel n S.A 0) fun x hx => (name_size ((checkS_ok h0).name x (by have := sel_sub n S.A 0 x hx; simp [Sg.all, this])).1).2
    have h2 := sel_len n S.A 0
    omega
  have HR : Hid (txt (hdL S 12 0 0 (n : Int)) = ((⟨#[68, 91]⟩ : ByteArray) ++ joinC (sel n S.A 0)) ++ ⟨#[93]⟩) := Lib.hid (by
    show txt ([68, 91] ++ (joinC (sel n S.A 0)).data.toList ++ [93]) = (txt [68, 91] ++ joinC (sel n S.A 0)) ++ txt [93]
    rw [← txt_app, ← txt_app, txt_data])
  have hs2 : ((⟨#[68, 91]⟩ : ByteArray) ++ joinC (sel n S.A 0)).size ≤ 40 := by
    rw [ByteArray.size_append]
    show 2 + (joinC (sel n S.A 0)).size ≤ 40
    omega
  go_enter Tryz.func64, Tryz.ntmps64
  go_upto_region 1 with (fail)
  generalize ((w.alloc (.cells #[.slice a S.A.length ca, .slice f S.F.length cf, .slice c S.C.length cc] 24)).alloc (.cells #[.int .i64 12, .int .i64 0, .int .i64 0, .int .i64 (n : Int), .int .i64 x, .int .i64 y] 49)) = W at *
  have HT := Lib.hid (rText_any S a f c ca cf cc ((n : Int)) W (hS.keep hK0))
  rw [textS_in h0 hn1 hn2] at HT
  generalize joinC (sel n S.A 0) = nm at *
  have s0 : W.cell? ⟨w.heap.size, 0, none⟩ = some (.slice a S.A.length ca) := b0.cell 0
  have s1 : W.cell? ⟨w.heap.size, 1, none⟩ = some (.slice f S.F.length cf) := b0.cell 1
  have s2 : W.cell? ⟨w.heap.size, 2, none⟩ = some (.slice c S.C.length cc) := b0.cell 2
  have n3 : W.cell? ⟨w.heap.size + 1, 3, none⟩ = some (.int .i64 (n : Int)) := b1.cell 3
  have HSG := Lib.hid (hS.keep hK0)
  have HK := Lib.hid hK0
  have HB0 := Lib.hid b0
  have HB1 := Lib.hid b1
  clear hS hK0 b0 b1
  go_wp2_with (first
    | (go_at_call 94
       (with_reducible refine HT.out.mono ?_)
       rintro e w1 ⟨rfl, k1⟩
       have t0 : w1.cell? ⟨w.heap.size, 0, none⟩ = some (.slice a S.A.length ca) := k1.cellv s0 fun h => h
       have t2 : w1.cell? ⟨w.heap.size, 2, none⟩ = some (.slice c S.C.length cc) := k1.cellv s2 fun h => h
       have m0 : w1.cell? ⟨w.heap.size + 1, 0, none⟩ = some (.int .i64 12) := k1.cellv (HB1.out.cell 0) fun h => h
       have m1 : w1.cell? ⟨w.heap.size + 1, 1, none⟩ = some (.int .i64 0) := k1.cellv (HB1.out.cell 1) fun h => h
       have m2 : w1.cell? ⟨w.heap.size + 1, 2, none⟩ = some (.int .i64 0) := k1.cellv (HB1.out.cell 2) fun h => h
       have hK := HK.out.trans k1 fun _ _ h => h
       have HS1 := Lib.hid (HSG.out.keep k1)))
  all_goals
    refine bodyPost_ret (v := .string (((⟨#[68, 91]⟩ : ByteArray) ++ nm) ++ ⟨#[93]⟩)) (by simp [results, Tryz.results64, go_sem]) rfl ?_
    exact ⟨by rw [HR.out], hK⟩
theorem rhead_17 (hS : SigR w S a ca f cf c cc) (h0 : checkS S = 0) (x y : Int) {n m : Nat} (hn : n < S.C.length) (hm : m < 8) : Calls Tryz.prog 64 #[.agg #[.slice a S.A.length ca, .slice f S.F.length cf, .slice c S.C.length cc], .agg #[.int .i64 17, .int .i64 (n : Int), .int .i64 (m : Int), .int .i64 0, .int .i64 x, .int .i64 y], .string ⟨#[]⟩] w fun e w' => e = .returned (.string (txt (hdL S 17 (n : Int) (m : Int) 0))) ∧ Keep NoF w w' := by
  have hK0 : Keep NoF w ((w.alloc (.cells #[.slice a S.A.length ca, .slice f S.F.length cf, .slice c S.C.length cc] 24)).alloc (.cells #[.int .i64 17, .int .i64 (n : Int), .int .i64 (m : Int), .int .i64 0, .int .i64 x, .int .i64 y] 49)) := ((Keep.refl _ _).alloc _).alloc _
  have b0 : Bk ((w.alloc (.cells #[.slice a S.A.length ca, .slice f S.F.length cf, .slice c S.C.length cc] 24)).alloc (.cells #[.int .i64 17, .int .i64 (n : Int), .int .i64 (m : Int), .int .i64 0, .int .i64 x, .int .i64 y] 49)) w.heap.size 24 #[.slice a S.A.length ca, .slice f S.F.length cf, .slice c S.C.length cc] := (Bk.new w _ _).alloc _
  have b1 : Bk ((w.alloc (.cells #[.slice a S.A.length ca, .slice f S.F.length cf, .slice c S.C.length cc] 24)).alloc (.cells #[.int .i64 17, .int .i64 (n : Int), .int .i64 (m : Int), .int .i64 0, .int .i64 x, .int .i64 y] 49)) (w.heap.size + 1) 49 #[.int .i64 17, .int .i64 (n : Int), .int .i64 (m : Int), .int .i64 0, .int .i64 x, .int .i64 y] := by
    have := Bk.new (w.alloc (.cells #[.slice a S.A.length ca, .slice f S.F.length cf, .slice c S.C.length cc] 24)) 49 #[.int .i64 17, .int .i64 (n : Int), .int .i64 (m : Int), .int .i64 0, .int .i64 x, .int .i64 y]
    rwa [World.size_alloc] at this
  have hsz : (nmB S.C n).size ≤ 8 := (name_size ((checkS_ok h0).name _ (by have := nm_mem hn; simp [Sg.all, this])).1).2
  have hx := nm_at hn
  have hb1 : (0 : Int) ≤ (n : Int) := by omega
  have hb2 : (n : Int) < (S.C.length : Int) := by omega
  have HI := Lib.hid fun W => Tryz.strconv_Itoa_small m (by omega) W
  have hd : (⟨(Lib.decDigits m).toArray⟩ : ByteArray) = digW (m : Int) := by
    have h8 : m = 0 ∨ m = 1 ∨ m = 2 ∨ m = 3 ∨ m = 4 ∨ m = 5 ∨ m = 6 ∨ m = 7 := by omega
    rcases h8 with rfl | rfl | rfl | rfl | rfl | rfl | rfl | rfl <;> decide +kernel
  rw [hd] at HI
  have hds : (digW (m : Int)).size = 1 := rfl
  have HR : Hid (txt (hdL S 17 (n : Int) (m : Int) 0) = ((((⟨#[91]⟩ : ByteArray) ++ nmB S.C n) ++ ⟨#[46]⟩) ++ digW (m : Int)) ++ ⟨#[93]⟩) := Lib.hid (by
    show txt ([91] ++ (nmB S.C n).data.toList ++ [46] ++ (digW (m : Int)).data.toList ++ [93]) = (((txt [91] ++ nmB S.C n) ++ txt [46]) ++ digW (m : Int)) ++ txt [93]
    rw [← txt_app, ← txt_app, ← txt_app, ← txt_app, txt_data, txt_data])
  clear hd
  generalize digW (m : Int) = dg at *
  generalize nmB S.C n = nm at *
  go_enter Tryz.func64, Tryz.ntmps64
  go_upto_region 1 with (fail)
  generalize ((w.alloc (.cells #[.slice a S.A.length ca, .slice f S.F.length cf, .slice c S.C.length cc] 24)).alloc (.cells #[.int .i64 17, .int .i64 (n : Int), .int .i64 (m : Int), .int .i64 0, .int .i64 x, .int .i64 y] 49)) = W at *
  have HT := Lib.hid (rText_any S a f c ca cf cc 0 W (hS.keep hK0))
  generalize textS S 0 = tx at *
  have s0 : W.cell? ⟨w.heap.size, 0, none⟩ = some (.slice a S.A.length ca) := b0.cell 0
  have s1 : W.cell? ⟨w.heap.size, 1, none⟩ = some (.slice f S.F.length cf) := b0.cell 1
  have s2 : W.cell? ⟨w.heap.size, 2, none⟩ = some (.slice c S.C.length cc) := b0.cell 2
  have n3 : W.cell? ⟨w.heap.size + 1, 3, none⟩ = some (.int .i64 0) := b1.cell 3
  have HSG := Lib.hid (hS.keep hK0)
  have HK := Lib.hid hK0
  have HB0 := Lib.hid b0
  have HB1 := Lib.hid b1
  clear hS hK0 b0 b1
  go_upto_region 22 with (first
    | (go_at_call 94
       (with_reducible refine HT.out.mono ?_)
       rintro e w1 ⟨rfl, k1⟩
       have t0 : w1.cell? ⟨w.heap.size, 0, none⟩ = some (.slice a S.A.length ca) := k1.cellv s0 fun h => h
       have t2 : w1.cell? ⟨w.heap.size, 2, none⟩ = some (.slice c S.C.length cc) := k1.cellv s2 fun h => h
       have m0 : w1.cell? ⟨w.heap.size + 1, 0, none⟩ = some (.int .i64 17) := k1.cellv (HB1.out.cell 0) fun h => h
       have m1 : w1.cell? ⟨w.heap.size + 1, 1, none⟩ = some (.int .i64 (n : Int)) := k1.cellv (HB1.out.cell 1) fun h => h
       have m2 : w1.cell? ⟨w.heap.size + 1, 2, none⟩ = some (.int .i64 (m : Int)) := k1.cellv (HB1.out.cell 2) fun h => h
       have hK := HK.out.trans k1 fun _ _ h => h
       have HS1 := Lib.hid (HSG.out.keep k1)
       obtain ⟨-, hcc, bl, off, hA0, hc⟩ := HS1.out.C.str hx
       rw [hA0] at t2))
  go_quiet ((go_at_call 95; exact Calls.quiet_of_same (HI.out _)))
  all_goals
    go_wp2
    refine bodyPost_ret (v := .string (((((⟨#[91]⟩ : ByteArray) ++ nm) ++ ⟨#[46]⟩) ++ dg) ++ ⟨#[93]⟩)) (by simp [results, Tryz.results64, go_sem]) rfl ?_
    exact ⟨by rw [HR.out], hK.drewN _⟩
theorem rhead_13e (hS : SigR w S a ca f cf c cc) (h0 : checkS S = 0) (x y : Int) {n : Nat} (hn1 : 1 ≤ n) (hn2 : n < 2 ^ S.A.length) : Calls Tryz.prog 64 #[.agg #[.slice a S.A.length ca, .slice f S.F.length cf, .slice c S.C.length cc], .agg #[.int .i64 13, .int .i64 0, .int .i64 0, .int .i64 (n : Int), .int .i64 x, .int .i64 y], .string ⟨#[]⟩] w fun e w' => e = .returned (.string (txt (cnL S 13 0 (n : Int) ++ [93]))) ∧ Keep NoF w w' := by
  have hK0 : Keep NoF w ((w.alloc (.cells #[.slice a S.A.length ca, .slice f S.F.length cf, .slice c S.C.length cc] 24)).alloc (.cells #[.int .i64 13, .int .i64 0, .int .i64 0, .int .i64 (n : Int), .int .i64 x, .int .i64 y] 49)) := ((Keep.refl _ _).alloc _).alloc _
  have b0 : Bk ((w.alloc (.cells #[.slice a S.A.length ca, .slice f S.F.length cf, .slice c S.C.length cc] 24)).alloc (.cells #[.int .i64 13, .int .i64 0, .int .i64 0, .int .i64 (n : Int), .int .i64 x, .int .i64 y] 49)) w.heap.size 24 #[.slice a S.A.length ca, .slice f S.F.length cf, .slice c S.C.length cc] := (Bk.new w _ _).alloc _
  have b1 : Bk ((w.alloc (.cells #[.slice a S.A.length ca, .slice f S.F.length cf, .slice c S.C.length cc] 24)).alloc (.cells #[.int .i64 13, .int .i64 0, .int .i64 0, .int .i64 (n : Int), .int .i64 x, .int .i64 y] 49)) (w.heap.size + 1) 49 #[.int .i64 13, .int .i64 0, .int .i64 0, .int .i64 (n : Int), .int .i64 x, .int .i64 y] := by
    have := Bk.new (w.alloc (.cells #[.slice a S.A.length ca, .slice f S.F.length cf, .slice c S.C.length cc] 24)) 49 #[.int .i64 13, .int .i64 0, .int .i64 0, .int .i64 (n : Int), .int .i64 x, .int .i64 y]
    rwa [World.size_alloc] at this
  have hA := (checkS_ok h0).lA
  have hsz : (joinC (sel n S.A 0)).size ≤ 36 := by
    have h1 := joinC_size (sel n S.A 0) fun x hx => (name_size ((checkS_ok h0).name x (by have := sel_sub n S.A 0 x hx; simp [Sg.all, this])).1).2
    have h2 := sel_len n S.A 0
    omega
  have HR : Hid (txt (cnL S 13 0 (n : Int) ++ [93]) = (((⟨#[67, 91]⟩ : ByteArray) ++ joinC (sel n S.A 0)) ++ ⟨#[]⟩) ++ ⟨#[93]⟩) := Lib.hid (by
    show txt (([67, 91] ++ (joinC (sel n S.A 0)).data.toList) ++ ([] ++ [93])) = ((txt [67, 91] ++ joinC (sel n S.A 0)) ++ txt []) ++ txt [93]
    rw [← txt_app, ← txt_app, ← txt_app, txt_data]
    exact ByteArray.append_assoc.symm)
  have hs2 : ((⟨#[67, 91]⟩ : ByteArray) ++ joinC (sel n S.A 0)).size ≤ 40 := by
    rw [ByteArray.size_append]
    show 2 + (joinC (sel n S.A 0)).size ≤ 40
    omega
  have hs4 : (((⟨#[67, 91]⟩ : ByteArray) ++ joinC (sel n S.A 0)) ++ ⟨#[]⟩).size ≤ 40 := by
    rw [ByteArray.size_append]
    show _ + 0 ≤ 40
    omega
  go_enter Tryz.func64, Tryz.ntmps64
  go_upto_region 1 with (fail)
  generalize ((w.alloc (.cells #[.slice a S.A.length ca, .slice f S.F.length cf, .slice c S.C.length cc] 24)).alloc (.cells #[.int .i64 13, .int .i64 0, .int .i64 0, .int .i64 (n : Int), .int .i64 x, .int .i64 y] 49)) = W at *
  have HT := Lib.hid (rText_any S a f c ca cf cc ((n : Int)) W (hS.keep hK0))
  rw [textS_in h0 hn1 hn2] at HT
  generalize joinC (sel n S.A 0) = nm at *
  have s0 : W.cell? ⟨w.heap.size, 0, none⟩ = some (.slice a S.A.length ca) := b0.cell 0
  have s1 : W.cell? ⟨w.heap.size, 1, none⟩ = some (.slice f S.F.length cf) := b0.cell 1
  have s2 : W.cell? ⟨w.heap.size, 2, none⟩ = some (.slice c S.C.length cc) := b0.cell 2
  have n3 : W.cell? ⟨w.heap.size + 1, 3, none⟩ = some (.int .i64 (n : Int)) := b1.cell 3
  have HSG := Lib.hid (hS.keep hK0)
  have HK := Lib.hid hK0
  have HB0 := Lib.hid b0
  have HB1 := Lib.hid b1
  clear hS hK0 b0 b1
  go_wp2_with (first
    | (go_at_call 94
       (with_reducible refine HT.out.mono ?_)
       rintro e w1 ⟨rfl, k1⟩
       have t0 : w1.cell? ⟨w.heap.size, 0, none⟩ = some (.slice a S.A.length ca) := k1.cellv s0 fun h => h
       have t2 : w1.cell? ⟨w.heap.size, 2, none⟩ = some (.slice c S.C.length cc) := k1.cellv s2 fun h => h
       have m0 : w1.cell? ⟨w.heap.size + 1, 0, none⟩ = some (.int .i64 13) := k1.cellv (HB1.out.cell 0) fun h => h
       have m1 : w1.cell? ⟨w.heap.size + 1, 1, none⟩ = some (.int .i64 0) := k1.cellv (HB1.out.cell 1) fun h => h
       have m2 : w1.cell? ⟨w.heap.size + 1, 2, none⟩ = some (.int .i64 0) := k1.cellv (HB1.out.cell 2) fun h => h
       have hK := HK.out.trans k1 fun _ _ h => h
       have HS1 := Lib.hid (HSG.out.keep k1)))
  all_goals
    refine bodyPost_ret (v := .string ((((⟨#[67, 91]⟩ : ByteArray) ++ nm) ++ ⟨#[]⟩) ++ ⟨#[93]⟩)) (by simp [results, Tryz.results64, go_sem]) rfl ?_
    exact ⟨by rw [HR.out], hK⟩
theorem rhead_13 (hS : SigR w S a ca f cf c cc) (h0 : checkS S = 0) (x y : Int) {n : Nat} (hn1 : 1 ≤ n) (hn2 : n < 2 ^ S.A.length) {l : List UInt8} (hl : l ≠ []) (hl2 : l.length ≤ 4000) : Calls Tryz.prog 64 #[.agg #[.slice a S.A.length ca, .slice f S.F.length cf, .slice c S.C.length cc], .agg #[.int .i64 13, .int .i64 0, .int .i64 0, .int .i64 (n : Int), .int .i64 x, .int .i64 y], .string (txt l)] w fun e w' => e = .returned (.string (txt (cnL S 13 0 (n : Int) ++ (124 :: (l ++ [93]))))) ∧ Keep NoF w w' := by
  have hK0 : Keep NoF w ((w.alloc (.cells #[.slice a S.A.length ca, .slice f S.F.length cf, .slice c S.C.length cc] 24)).alloc (.cells #[.int .i64 13, .int .i64 0, .int .i64 0, .int .i64 (n : Int), .int .i64 x, .int .i64 y] 49)) := ((Keep.refl _ _).alloc _).alloc _
  have b0 : Bk ((w.alloc (.cells #[.slice a S.A.length ca, .slice f S.F.length cf, .slice c S.C.length cc] 24)).alloc (.cells #[.int .i64 13, .int .i64 0, .int .i64 0, .int .i64 (n : Int), .int .i64 x, .int .i64 y] 49)) w.heap.size 24 #[.slice a S.A.length ca, .slice f S.F.length cf, .slice c S.C.length cc] := (Bk.new w _ _).alloc _
  have b1 : Bk ((w.alloc (.cells #[.slice a S.A.length ca, .slice f S.F.length cf, .slice c S.C.length cc] 24)).alloc (.cells #[.int .i64 13, .int .i64 0, .int .i64 0, .int .i64 (n : Int), .int .i64 x, .int .i64 y] 49)) (w.heap.size + 1) 49 #[.int .i64 13, .int .i64 0, .int .i64 0, .int .i64 (n : Int), .int .i64 x, .int .i64 y] := by
    have := Bk.new (w.alloc (.cells #[.slice a S.A.length ca, .slice f S.F.length cf, .slice c S.C.length cc] 24)) 49 #[.int .i64 13, .int .i64 0, .int .i64 0, .int .i64 (n : Int), .int .i64 x, .int .i64 y]
    rwa [World.size_alloc] at this
  have hA := (checkS_ok h0).lA
  have hsz : (joinC (sel n S.A 0)).size ≤ 36 := by
    have h1 := joinC_size (sel n S.A 0) fun x hx => (name_size ((checkS_ok h0).name x (by have := sel_sub n S.A 0 x hx; simp [Sg.all, this])).1).2
    have h2 := sel_len n S.A 0
    omega
  have hl3 : (txt l).size ≤ 4000 := by rw [txt_size]; exact hl2
  have hl4 : (txt l).toList.isEmpty = false := by rw [ByteArray.toList_eq]; simpa [txt] using hl
  have HR : Hid (txt (cnL S 13 0 (n : Int) ++ (124 :: (l ++ [93]))) = (((⟨#[67, 91]⟩ : ByteArray) ++ joinC (sel n S.A 0)) ++ ((⟨#[124]⟩ : ByteArray) ++ txt l)) ++ ⟨#[93]⟩) := Lib.hid (by
    show txt (([67, 91] ++ (joinC (sel n S.A 0)).data.toList) ++ (([124] ++ l) ++ [93])) = ((txt [67, 91] ++ joinC (sel n S.A 0)) ++ (txt [124] ++ txt l)) ++ txt [93]
    rw [← txt_app, ← txt_app, ← txt_app, ← txt_app, txt_data]
    exact ByteArray.append_assoc.symm)
  have hs2 : ((⟨#[67, 91]⟩ : ByteArray) ++ joinC (sel n S.A 0)).size ≤ 40 := by
    rw [ByteArray.size_append]
    show 2 + (joinC (sel n S.A 0)).size ≤ 40
    omega
  have hs3 : ((⟨#[124]⟩ : ByteArray) ++ txt l).size ≤ 4001 := by
    rw [ByteArray.size_append]
    show 1 + (txt l).size ≤ 4001
    omega
  have hs4 : (((⟨#[67, 91]⟩ : ByteArray) ++ joinC (sel n S.A 0)) ++ ((⟨#[124]⟩ : ByteArray) ++ txt l)).size ≤ 4041 := by
    rw [ByteArray.size_append]
    omega
  generalize txt l = tl at *
  go_enter Tryz.func64, Tryz.ntmps64
  go_upto_region 1 with (fail)
  generalize ((w.alloc (.cells #[.slice a S.A.length ca, .slice f S.F.length cf, .slice c S.C.length cc] 24)).alloc (.cells #[.int .i64 13, .int .i64 0, .int .i64 0, .int .i64 (n : Int), .int .i64 x, .int .i64 y] 49)) = W at *
  have HT := Lib.hid (rText_any S a f c ca cf cc ((n : Int)) W (hS.keep hK0))
  rw [textS_in h0 hn1 hn2] at HT
  generalize joinC (sel n S.A 0) = nm at *
  have s0 : W.cell? ⟨w.heap.size, 0, none⟩ = some (.slice a S.A.length ca) := b0.cell 0
  have s1 : W.cell? ⟨w.heap.size, 1, none⟩ = some (.slice f S.F.length cf) := b0.cell 1
  have s2 : W.cell? ⟨w.heap.size, 2, none⟩ = some (.slice c S.C.length cc) := b0.cell 2
  have n3 : W.cell? ⟨w.heap.size + 1, 3, none⟩ = some (.int .i64 (n : Int)) := b1.cell 3
  have HSG := Lib.hid (hS.keep hK0)
  have HK := Lib.hid hK0
  have HB0 := Lib.hid b0
  have HB1 := Lib.hid b1
  clear hS hK0 b0 b1
  go_wp2_with (first
    | (go_at_call 94
       (with_reducible refine HT.out.mono ?_)
       rintro e w1 ⟨rfl, k1⟩
       have t0 : w1.cell? ⟨w.heap.size, 0, none⟩ = some (.slice a S.A.length ca) := k1.cellv s0 fun h => h
       have t2 : w1.cell? ⟨w.heap.size, 2, none⟩ = some (.slice c S.C.length cc) := k1.cellv s2 fun h => h
       have m0 : w1.cell? ⟨w.heap.size + 1, 0, none⟩ = some (.int .i64 13) := k1.cellv (HB1.out.cell 0) fun h => h
       have m1 : w1.cell? ⟨w.heap.size + 1, 1, none⟩ = some (.int .i64 0) := k1.cellv (HB1.out.cell 1) fun h => h
       have m2 : w1.cell? ⟨w.heap.size + 1, 2, none⟩ = some (.int .i64 0) := k1.cellv (HB1.out.cell 2) fun h => h
       have hK := HK.out.trans k1 fun _ _ h => h
       have HS1 := Lib.hid (HSG.out.keep k1)))
  all_goals
    refine bodyPost_ret (v := .string ((((⟨#[67, 91]⟩ : ByteArray) ++ nm) ++ ((⟨#[124]⟩ : ByteArray) ++ tl)) ++ ⟨#[93]⟩)) (by simp [results, Tryz.results64, go_sem]) rfl ?_
    exact ⟨by rw [HR.out], hK⟩
theorem rhead_14e (hS : SigR w S a ca f cf c cc) (h0 : checkS S = 0) (x y : Int) {n : Nat} (hn : n < S.A.length) : Calls Tryz.prog 64 #[.agg #[.slice a S.A.length ca, .slice f S.F.length cf, .slice c S.C.length cc], .agg #[.int .i64 14, .int .i64 (n : Int), .int .i64 0, .int .i64 0, .int .i64 x, .int .i64 y], .string ⟨#[]⟩] w fun e w' => e = .returned (.string (txt (cnL S 14 (n : Int) 0 ++ [93]))) ∧ Keep NoF w w' := by
  have hK0 : Keep NoF w ((w.alloc (.cells #[.slice a S.A.length ca, .slice f S.F.length cf, .slice c S.C.length cc] 24)).alloc (.cells #[.int .i64 14, .int .i64 (n : Int), .int .i64 0, .int .i64 0, .int .i64 x, .int .i64 y] 49)) := ((Keep.refl _ _).alloc _).alloc _
  have b0 : Bk ((w.alloc (.cells #[.slice a S.A.length ca, .slice f S.F.length cf, .slice c S.C.length cc] 24)).alloc (.cells #[.int .i64 14, .int .i64 (n : Int), .int .i64 0, .int .i64 0, .int .i64 x, .int .i64 y] 49)) w.heap.size 24 #[.slice a S.A.length ca, .slice f S.F.length cf, .slice c S.C.length cc] := (Bk.new w _ _).alloc _
  have b1 : Bk ((w.alloc (.cells #[.slice a S.A.length ca, .slice f S.F.length cf, .slice c S.C.length cc] 24)).alloc (.cells #[.int .i64 14, .int .i64 (n : Int), .int .i64 0, .int .i64 0, .int .i64 x, .int .i64 y] 49)) (w.heap.size + 1) 49 #[.int .i64 14, .int .i64 (n : Int), .int .i64 0, .int .i64 0, .int .i64 x, .int .i64 y] := by
    have := Bk.new (w.alloc (.cells #[.slice a S.A.length ca, .slice f S.F.length cf, .slice c S.C.length cc] 24)) 49 #[.int .i64 14, .int .i64 (n : Int), .int .i64 0, .int .i64 0, .int .i64 x, .int .i64 y]
    rwa [World.size_alloc] at this
  have hsz : (nmB S.A n).size ≤ 8 := (name_size ((checkS_ok h0).name _ (by have := nm_mem hn; simp [Sg.all, this])).1).2
  have hx := nm_at hn
  have hb1 : (0 : Int) ≤ (n : Int) := by omega
  have hb2 : (n : Int) < (S.A.length : Int) := by omega
  have HR : Hid (txt (cnL S 14 (n : Int) 0 ++ [93]) = (((⟨#[66, 91]⟩ : ByteArray) ++ nmB S.A n) ++ ⟨#[]⟩) ++ ⟨#[93]⟩) := Lib.hid (by
    show txt (([66, 91] ++ (nmB S.A n).data.toList) ++ ([] ++ [93])) = ((txt [66, 91] ++ nmB S.A n) ++ txt []) ++ txt [93]
    rw [← txt_app, ← txt_app, ← txt_app, txt_data]
    exact ByteArray.append_assoc.symm)
  have hs2 : ((⟨#[66, 91]⟩ : ByteArray) ++ nmB S.A n).size ≤ 40 := by
    rw [ByteArray.size_append]
    show 2 + (nmB S.A n).size ≤ 40
    omega
  have hs4 : (((⟨#[66, 91]⟩ : ByteArray) ++ nmB S.A n) ++ ⟨#[]⟩).size ≤ 40 := by
    rw [ByteArray.size_append]
    show _ + 0 ≤ 40
    omega
  generalize nmB S.A n = nm at *
  go_enter Tryz.func64, Tryz.ntmps64
  go_upto_region 1 with (fail)
  generalize ((w.alloc (.cells #[.slice a S.A.length ca, .slice f S.F.length cf, .slice c S.C.length cc] 24)).alloc (.cells #[.int .i64 14, .int .i64 (n : Int), .int .i64 0, .int .i64 0, .int .i64 x, .int .i64 y] 49)) = W at *
  have HT := Lib.hid (rText_any S a f c ca cf cc 0 W (hS.keep hK0))
  generalize textS S 0 = tx at *
  have s0 : W.cell? ⟨w.heap.size, 0, none⟩ = some (.slice a S.A.length ca) := b0.cell 0
  have s1 : W.cell? ⟨w.heap.size, 1, none⟩ = some (.slice f S.F.length cf) := b0.cell 1
  have s2 : W.cell? ⟨w.heap.size, 2, none⟩ = some (.slice c S.C.length cc) := b0.cell 2
  have n3 : W.cell? ⟨w.heap.size + 1, 3, none⟩ = some (.int .i64 0) := b1.cell 3
  have HSG := Lib.hid (hS.keep hK0)
  have HK := Lib.hid hK0
  have HB0 := Lib.hid b0
  have HB1 := Lib.hid b1
  clear hS hK0 b0 b1
  go_wp2_with (first
    | (go_at_call 94
       (with_reducible refine HT.out.mono ?_)
       rintro e w1 ⟨rfl, k1⟩
       have t0 : w1.cell? ⟨w.heap.size, 0, none⟩ = some (.slice a S.A.length ca) := k1.cellv s0 fun h => h
       have t2 : w1.cell? ⟨w.heap.size, 2, none⟩ = some (.slice c S.C.length cc) := k1.cellv s2 fun h => h
       have m0 : w1.cell? ⟨w.heap.size + 1, 0, none⟩ = some (.int .i64 14) := k1.cellv (HB1.out.cell 0) fun h => h
       have m1 : w1.cell? ⟨w.heap.size + 1, 1, none⟩ = some (.int .i64 (n : Int)) := k1.cellv (HB1.out.cell 1) fun h => h
       have m2 : w1.cell? ⟨w.heap.size + 1, 2, none⟩ = some (.int .i64 0) := k1.cellv (HB1.out.cell 2) fun h => h
       have hK := HK.out.trans k1 fun _ _ h => h
       have HS1 := Lib.hid (HSG.out.keep k1)
       obtain ⟨-, hcc, bl, off, hA0, hc⟩ := HS1.out.A.str hx
       rw [hA0] at t0))
  all_goals
    refine bodyPost_ret (v := .string ((((⟨#[66, 91]⟩ : ByteArray) ++ nm) ++ ⟨#[]⟩) ++ ⟨#[93]⟩)) (by simp [results, Tryz.results64, go_sem]) rfl ?_
    exact ⟨by rw [HR.out], hK⟩
theorem rhead_14 (hS : SigR w S a ca f cf c cc) (h0 : checkS S = 0) (x y : Int) {n : Nat} (hn : n < S.A.length) {l : List UInt8} (hl : l ≠ []) (hl2 : l.length ≤ 4000) : Calls Tryz.prog 64 #[.agg #[.slice a S.A.length ca, .slice f S.F.length cf, .slice c S.C.length cc], .agg #[.int .i64 14, .int .i64 (n : Int), .int .i64 0, .int .i64 0, .int .i64 x, .int .i64 y], .string (txt l)] w fun e w' => e = .returned (.string (txt (cnL S 14 (n : Int) 0 ++ (124 :: (l ++ [93]))))) ∧ Keep NoF w w' := by
  have hK0 : Keep NoF w ((w.alloc (.cells #[.slice a S.A.length ca, .slice f S.F.length cf, .slice c S.C.length cc] 24)).alloc (.cells #[.int .i64 14, .int .i64 (n : Int), .int .i64 0, .int .i64 0, .int .i64 x, .int .i64 y] 49)) := ((Keep.refl _ _).alloc _).alloc _
  have b0 : Bk ((w.alloc (.cells #[.slice a S.A.length ca, .slice f S.F.length cf, .slice c S.C.length cc] 24)).alloc (.cells #[.int .i64 14, .int .i64 (n : Int), .int .i64 0, .int .i64 0, .int .i64 x, .int .i64 y] 49)) w.heap.size 24 #[.slice a S.A.length ca, .slice f S.F.length cf, .slice c S.C.length cc] := (Bk.new w _ _).alloc _
  have b1 : Bk ((w.alloc (.cells #[.slice a S.A.length ca, .slice f S.F.length cf, .slice c S.C.length cc] 24)).alloc (.cells #[.int .i64 14, .int .i64 (n : Int), .int .i64 0, .int .i64 0, .int .i64 x, .int .i64 y] 49)) (w.heap.size + 1) 49 #[.int .i64 14, .int .i64 (n : Int), .int .i64 0, .int .i64 0, .int .i64 x, .int .i64 y] := by
    have := Bk.new (w.alloc (.cells #[.slice a S.A.length ca, .slice f S.F.length cf, .slice c S.C.length cc] 24)) 49 #[.int .i64 14, .int .i64 (n : Int), .int .i64 0, .int .i64 0, .int .i64 x, .int .i64 y]
    rwa [World.size_alloc] at this
  have hsz : (nmB S.A n).size ≤ 8 := (name_size ((checkS_ok h0).name _ (by have := nm_mem hn; simp [Sg.all, this])).1).2
  have hx := nm_at hn
  have hb1 : (0 : Int) ≤ (n : Int) := by omega
  have hb2 : (n : Int) < (S.A.length : Int) := by omega
  have hl3 : (txt l).size ≤ 4000 := by rw [txt_size]; exact hl2
  have hl4 : (txt l).toList.isEmpty = false := by rw [ByteArray.toList_eq]; simpa [txt] using hl
  have HR : Hid (txt (cnL S 14 (n : Int) 0 ++ (124 :: (l ++ [93]))) = (((⟨#[66, 91]⟩ : ByteArray) ++ nmB S.A n) ++ ((⟨#[124]⟩ : ByteArray) ++ txt l)) ++ ⟨#[93]⟩) := Lib.hid (by
    show txt (([66, 91] ++ (nmB S.A n).data.toList) ++ (([124] ++ l) ++ [93])) = ((txt [66, 91] ++ nmB S.A n) ++ (txt [124] ++ txt l)) ++ txt [93]
    rw [← txt_app, ← txt_app, ← txt_app, ← txt_app, txt_data]
    exact ByteArray.append_assoc.symm)
  have hs2 : ((⟨#[66, 91]⟩ : ByteArray) ++ nmB S.A n).size ≤ 40 := by
    rw [ByteArray.size_append]
    show 2 + (nmB S.A n).size ≤ 40
    omega
  have hs3 : ((⟨#[124]⟩ : ByteArray) ++ txt l).size ≤ 4001 := by
    rw [ByteArray.size_append]
    show 1 + (txt l).size ≤ 4001
    omega
  have hs4 : (((⟨#[66, 91]⟩ : ByteArray) ++ nmB S.A n) ++ ((⟨#[124]⟩ : ByteArray) ++ txt l)).size ≤ 4041 := by
    rw [ByteArray.size_append]
    omega
  generalize nmB S.A n = nm at *
  generalize txt l = tl at *
  go_enter Tryz.func64, Tryz.ntmps64
  go_upto_region 1 with (fail)
  generalize ((w.alloc (.cells #[.slice a S.A.length ca, .slice f S.F.length cf, .slice c S.C.length cc] 24)).alloc (.cells #[.int .i64 14, .int .i64 (n : Int), .int .i64 0, .int .i64 0, .int .i64 x, .int .i64 y] 49)) = W at *
  have HT := Lib.hid (rText_any S a f c ca cf cc 0 W (hS.keep hK0))
  generalize textS S 0 = tx at *
  have s0 : W.cell? ⟨w.heap.size, 0, none⟩ = some (.slice a S.A.length ca) := b0.cell 0
  have s1 : W.cell? ⟨w.heap.size, 1, none⟩ = some (.slice f S.F.length cf) := b0.cell 1
  have s2 : W.cell? ⟨w.heap.size, 2, none⟩ = some (.slice c S.C.length cc) := b0.cell 2
  have n3 : W.cell? ⟨w.heap.size + 1, 3, none⟩ = some (.int .i64 0) := b1.cell 3
  have HSG := Lib.hid (hS.keep hK0)
  have HK := Lib.hid hK0
  have HB0 := Lib.hid b0
  have HB1 := Lib.hid b1
  clear hS hK0 b0 b1
  go_wp2_with (first
    | (go_at_call 94
       (with_reducible refine HT.out.mono ?_)
       rintro e w1 ⟨rfl, k1⟩
       have t0 : w1.cell? ⟨w.heap.size, 0, none⟩ = some (.slice a S.A.length ca) := k1.cellv s0 fun h => h
       have t2 : w1.cell? ⟨w.heap.size, 2, none⟩ = some (.slice c S.C.length cc) := k1.cellv s2 fun h => h
       have m0 : w1.cell? ⟨w.heap.size + 1, 0, none⟩ = some (.int .i64 14) := k1.cellv (HB1.out.cell 0) fun h => h
       have m1 : w1.cell? ⟨w.heap.size + 1, 1, none⟩ = some (.int .i64 (n : Int)) := k1.cellv (HB1.out.cell 1) fun h => h
       have m2 : w1.cell? ⟨w.heap.size + 1, 2, none⟩ = some (.int .i64 0) := k1.cellv (HB1.out.cell 2) fun h => h
       have hK := HK.out.trans k1 fun _ _ h => h
       have HS1 := Lib.hid (HSG.out.keep k1)
       obtain ⟨-, hcc, bl, off, hA0, hc⟩ := HS1.out.A.str hx
       rw [hA0] at t0))
  all_goals
    refine bodyPost_ret (v := .string ((((⟨#[66, 91]⟩ : ByteArray) ++ nm) ++ ((⟨#[124]⟩ : ByteArray) ++ tl)) ++ ⟨#[93]⟩)) (by simp [results, Tryz.results64, go_sem]) rfl ?_
    exact ⟨by rw [HR.out], hK⟩
end
end Go.Proofs.YtbidfbojealmlaaGreatDoor
