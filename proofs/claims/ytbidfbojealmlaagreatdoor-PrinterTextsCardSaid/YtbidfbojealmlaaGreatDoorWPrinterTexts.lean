/- The law PrinterTexts answers true. Conditions: the variables lie as they are read. -/
import Derived.Test.YtbidfbojealmlaaGreatDoorPrQ
set_option linter.unusedVariables false
set_option linter.unusedSimpArgs false
namespace Go.Proofs.YtbidfbojealmlaaGreatDoor
open Go.RowKit
open Fm (Nd cl checkE compactL tr)
section
set_option maxRecDepth 100000
set_option maxHeartbeats 4000000
theorem walk_PrinterTexts (S : Sg) (a f c : Option Addr) (ca cf cc : Nat) (t : ByteArray) (w : World) (hS : SigR w S a ca f cf c cc) (hT : Tabs w) :
    Calls Tryz.prog 8 #[.agg #[.slice a S.A.length ca, .slice f S.F.length cf, .slice c S.C.length cc], .string t] w fun e w' => e = .returned (.bool true) ∧ Keep NoF w w' := by
  have hK0 : Keep NoF w (w.alloc (.cells (boxS S a ca f cf c cc) 24)) := (Keep.refl _ _).alloc _
  have HB := Lib.hid (fun w' => @box_cells w w' S a f c ca cf cc 24)
  have HS := Lib.hid hS
  have HT := Lib.hid hT
  have HK0 := Lib.hid hK0
  have HKW : Hid (∀ v, Keep NoF (w.alloc (.cells (boxS S a ca f cf c cc) 24)) v → Keep NoF w v) := Lib.hid fun v h => hK0.trans h fun _ _ h => h
  have HAW : Hid (∀ v, Keep NoF w v → _) := Lib.hid fun v (h : Keep NoF w v) => awake7_any v (HT.out.keep0 h)
  have HFW := Lib.hid (Few_any S a f c ca cf cc (w.alloc (.cells (boxS S a ca f cf c cc) 24)))
  have hlaw := texts_law S t
  unfold boxS at *
  clear hS hT
  by_cases ht : 600 < t.size
  · have ht' : (600 : Int) < (t.size : Int) := by omega
    have k1 := HK0.out
    clear hlaw HFW hK0
    go_enter Tryz.func8, Tryz.ntmps8
    go_wp2_with (first
      | (go_at_call 11; (with_reducible refine (HAW.out _ k1).mono ?_); rintro e w9 ⟨rfl, K9⟩; have k9 := k1.trans K9 fun _ _ h => h))
    refine bodyPost_ret (v := .bool true) (by simp [results, Tryz.results8, go_sem]) rfl ?_
    exact ⟨rfl, k9⟩
  · have ht' : ¬ (600 : Int) < (t.size : Int) := by omega
    have hts : t.size ≤ 600 := by omega
    generalize fewB S = b at *
    cases b with
    | false =>
      clear hlaw hK0
      go_enter Tryz.func8, Tryz.ntmps8
      go_wp2_with (first
        | (go_at_call 25; (with_reducible refine HFW.out.mono ?_); rintro e w1 ⟨rfl, K1⟩; have k1 := HKW.out _ K1; obtain ⟨c0, c1, c2, hz1⟩ := HB.out w1 K1; clear HFW)
        | (go_at_call 11; (with_reducible refine (HAW.out _ k1).mono ?_); rintro e w9 ⟨rfl, K9⟩; have k9 := k1.trans K9 fun _ _ h => h))
      refine bodyPost_ret (v := .bool true) (by simp [results, Tryz.results8, go_sem]) rfl ?_
      exact ⟨rfl, k9⟩
    | true =>
      rcases hlaw with ⟨l, p, x, hp, hx⟩ | ⟨l, s, hp, hl, hsl, hpr, hsb⟩
      · have hx' : (x != 0) = true := by simpa using hx
        have HP1 := Lib.hid fun W (hk : Keep NoF w W) => parse_eq7 hp (HS.out.keep hk) (HT.out.keep0 hk) (by omega)
        clear hp hx hK0
        go_enter Tryz.func8, Tryz.ntmps8
        go_wp2_with (first
          | (go_at_call 25; (with_reducible refine HFW.out.mono ?_); rintro e w1 ⟨rfl, K1⟩; have k1 := HKW.out _ K1; obtain ⟨c0, c1, c2, hz1⟩ := HB.out w1 K1; clear HFW)
          | (go_at_call 14; (with_reducible refine (HP1.out _ k1).mono ?_); rintro e w2 ⟨A2, c2', rfl, R2, K2⟩; have k2 := k1.trans K2 fun _ _ h => h; have K12 := K1.trans K2 fun _ _ h => h; obtain ⟨d0, d1, d2, hz2⟩ := HB.out w2 K12; have HR2 := Lib.hid R2; clear R2 HP1)
          | (go_at_call 11; (with_reducible refine (HAW.out _ k2).mono ?_); rintro e w9 ⟨rfl, K9⟩; have k9 := k2.trans K9 fun _ _ h => h))
        refine bodyPost_ret (v := .bool true) (by simp [results, Tryz.results8, go_sem]) rfl ?_
        exact ⟨rfl, k9⟩
      · have HP1 := Lib.hid fun W (hk : Keep NoF w W) => parse_eq7 hp (HS.out.keep hk) (HT.out.keep0 hk) (by omega)
        rcases hpr with hpr | ⟨hpr, hpb⟩
        · obtain rfl := printF_err hpr (by decide)
          have HPL := Lib.hid fun W A cA (hk : Keep NoF w W) hrd => print_eq (A := A) (cA := cA) hpr (HS.out.keep hk) (HT.out.keep0 hk) (by omega) hrd
          rw [show txt [] = ⟨#[]⟩ from rfl] at HPL
          clear hp hpr hK0 hsb
          go_enter Tryz.func8, Tryz.ntmps8
          go_wp2_with (first
            | (go_at_call 25; (with_reducible refine HFW.out.mono ?_); rintro e w1 ⟨rfl, K1⟩; have k1 := HKW.out _ K1; obtain ⟨c0, c1, c2, hz1⟩ := HB.out w1 K1; clear HFW)
            | (go_at_call 14; (with_reducible refine (HP1.out _ k1).mono ?_); rintro e w2 ⟨A2, c2', rfl, R2, K2⟩; have k2 := k1.trans K2 fun _ _ h => h; have K12 := K1.trans K2 fun _ _ h => h; obtain ⟨d0, d1, d2, hz2⟩ := HB.out w2 K12; have HR2 := Lib.hid R2; clear R2 HP1)
            | (go_at_call 12; (with_reducible refine (HPL.out _ _ _ k2 HR2.out).mono ?_); rintro e w3 ⟨rfl, K3⟩; have k3 := k2.trans K3 fun _ _ h => h; have K13 := K12.trans K3 fun _ _ h => h; obtain ⟨e0, e1, e2, hz3⟩ := HB.out w3 K13; have HR3 := Lib.hid (HR2.out.kept K3 fun _ _ h => h); clear HR2)
            | (go_at_call 11; (with_reducible refine (HAW.out _ k3).mono ?_); rintro e w9 ⟨rfl, K9⟩; have k9 := k3.trans K9 fun _ _ h => h))
          refine bodyPost_ret (v := .bool true) (by simp [results, Tryz.results8, go_sem]) rfl ?_
          exact ⟨rfl, k9⟩
        · have HPL := Lib.hid fun W A cA (hk : Keep NoF w W) hrd => print_eq (A := A) (cA := cA) hpr (HS.out.keep hk) (HT.out.keep0 hk) (by omega) hrd
          have hsz : (txt s).size ≤ 4000 := by rw [txt_size]; exact hsl
          have HP2 := Lib.hid fun W (hk : Keep NoF w W) => parse_eq7 hpb (HS.out.keep hk) (HT.out.keep0 hk) (by omega)
          have HSM := Lib.hid fun A B cA cB W h1 h2 => hsb ▸ fmSame_any l l A B cA cB W h1 h2 (by omega) (by omega)
          clear hp hpr hpb hK0 hsb hsl
          generalize txt s = st at *
          have hst : (st.toList == st.toList) = true := by simp
          go_enter Tryz.func8, Tryz.ntmps8
          go_wp2_with (first
            | (go_at_call 25; (with_reducible refine HFW.out.mono ?_); rintro e w1 ⟨rfl, K1⟩; have k1 := HKW.out _ K1; obtain ⟨c0, c1, c2, hz1⟩ := HB.out w1 K1; clear HFW)
            | (go_at_call 14; (with_reducible refine (HP1.out _ k1).mono ?_); rintro e w2 ⟨A2, c2', rfl, R2, K2⟩; have k2 := k1.trans K2 fun _ _ h => h; have K12 := K1.trans K2 fun _ _ h => h; obtain ⟨d0, d1, d2, hz2⟩ := HB.out w2 K12; have HR2 := Lib.hid R2; clear R2 HP1)
            | (go_at_call 12; (with_reducible refine (HPL.out _ _ _ k2 HR2.out).mono ?_); rintro e w3 ⟨rfl, K3⟩; have k3 := k2.trans K3 fun _ _ h => h; have K13 := K12.trans K3 fun _ _ h => h; obtain ⟨e0, e1, e2, hz3⟩ := HB.out w3 K13; have HR3 := Lib.hid (HR2.out.kept K3 fun _ _ h => h); clear HR2)
            | (go_at_call 14; (with_reducible refine (HP2.out _ k3).mono ?_); rintro e w4 ⟨A4, c4, rfl, R4, K4⟩; have k4 := k3.trans K4 fun _ _ h => h; have K14 := K13.trans K4 fun _ _ h => h; obtain ⟨f0, f1, f2, hz4⟩ := HB.out w4 K14; have HR4 := Lib.hid R4; have HS4 := Lib.hid (HR3.out.kept K4 fun _ _ h => h); clear R4 HR3 HP2)
            | (go_at_call 12; (with_reducible refine (HPL.out _ _ _ k4 HR4.out).mono ?_); rintro e w5 ⟨rfl, K5⟩; have k5 := k4.trans K5 fun _ _ h => h; have HR5 := Lib.hid (HR4.out.kept K5 fun _ _ h => h); have HS5 := Lib.hid (HS4.out.kept K5 fun _ _ h => h); clear HR4 HS4)
            | (go_at_call 24; (with_reducible refine (HSM.out _ _ _ _ _ HS5.out HR5.out).mono ?_); rintro e w6 ⟨rfl, K6⟩; have k6 := k5.trans K6 fun _ _ h => h)
            | (go_at_call 11; (with_reducible refine (HAW.out _ k6).mono ?_); rintro e w9 ⟨rfl, K9⟩; have k9 := k6.trans K9 fun _ _ h => h))
          refine bodyPost_ret (v := .bool true) (by simp [results, Tryz.results8, go_sem]) rfl ?_
          exact ⟨rfl, k9⟩
end
end Go.Proofs.YtbidfbojealmlaaGreatDoor
