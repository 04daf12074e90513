/- The law PrinterApart answers true. Conditions: the variables lie as they are read. -/
import Derived.Test.YtbidfbojealmlaaGreatDoorPrX
set_option linter.unusedVariables false
set_option linter.unusedSimpArgs false
namespace Go.Proofs.YtbidfbojealmlaaGreatDoor
open Go.RowKit
open Fm (Nd cl checkE compactL tr)
theorem apart_law {S : Sg} {l m : List Nd} {s u : List UInt8} (h : printF S l = (s, 0)) (h' : printF S m = (u, 0)) : ((txt s).toList == (txt u).toList) = sameB l m := by
  obtain ⟨h1, h2, h3, h4, h5⟩ := printF_ok h
  obtain ⟨_, g2, g3, g4, g5⟩ := printF_ok h'
  have e1 := print_parse h
  have e2 := print_parse h'
  have hsb : sameB l m = decide (compactL l = compactL m) := by unfold sameB; rw [decide_eq_true h2, decide_eq_true g2]; rfl
  rw [hsb]
  by_cases he : compactL l = compactL m
  · rw [decide_eq_true he]
    have ht : tr l = tr m := by
      rw [Fm.compactL_ok h2, Fm.compactL_ok g2] at he
      rw [← Fm.tr_cl (Fm.tr_good h2).fit, he, Fm.tr_cl (Fm.tr_good g2).fit]
    rw [h4, g4, ht]
    simp
  · rw [decide_eq_false he]
    refine beq_eq_false_iff_ne.2 fun e => he ?_
    rw [ByteArray.toList_eq, ByteArray.toList_eq] at e
    rw [ba_ext e] at e1
    exact (Prod.mk.inj (e1.symm.trans e2)).1
section
set_option maxRecDepth 100000
set_option maxHeartbeats 4000000
theorem walk_PrinterApart (S : Sg) (a f c : Option Addr) (ca cf cc : Nat) (l : List Nd) (A : Option Addr) (cA : Nat) (m : List Nd) (B : Option Addr) (cB : Nat) (w : World) (hS : SigR w S a ca f cf c cc) (hll : l.length ≤ 9223372036854775807) (hrd : Rd w (.slice A l.length cA) 6 l.length (fmC l))
    (hlm : m.length ≤ 9223372036854775807) (hrm : Rd w (.slice B m.length cB) 6 m.length (fmC m)) (hT : Tabs w) :
    Calls Tryz.prog 9 #[.agg #[.slice a S.A.length ca, .slice f S.F.length cf, .slice c S.C.length cc], .slice A l.length cA, .slice B m.length cB] w fun e w' => e = .returned (.bool true) ∧ Keep NoF w w' := by
  have hK0 : Keep NoF w (w.alloc (.cells (boxS S a ca f cf c cc) 24)) := (Keep.refl _ _).alloc _
  have HB := Lib.hid (fun w' => @box_cells w w' S a f c ca cf cc 24)
  have HS := Lib.hid hS
  have HT := Lib.hid hT
  have HKW : Hid (∀ v, Keep NoF (w.alloc (.cells (boxS S a ca f cf c cc) 24)) v → Keep NoF w v) := Lib.hid fun v h => hK0.trans h fun _ _ h => h
  have HAW : Hid (∀ v, Keep NoF w v → _) := Lib.hid fun v (h : Keep NoF w v) => awake7_any v (HT.out.keep0 h)
  have HFW := Lib.hid fun W => fewP_any S a f c ca cf cc l.length A cA W
  have HFM := Lib.hid fun W => fewP_any S a f c ca cf cc m.length B cB W
  obtain ⟨⟨s, x⟩, hpf⟩ : ∃ r, printF S l = r := ⟨_, rfl⟩
  obtain ⟨⟨u, y⟩, hpm⟩ : ∃ r, printF S m = r := ⟨_, rfl⟩
  have HP := Lib.hid hpf
  have HQ := Lib.hid hpm
  have HPL := Lib.hid fun W (hk : Keep NoF w W) => print_eq hpf (hS.keep hk) (hT.keep0 hk) hll (hrd.kept hk fun _ _ h => h)
  have HPM := Lib.hid fun W (hk : Keep NoF w W) => print_eq hpm (hS.keep hk) (hT.keep0 hk) hlm (hrm.kept hk fun _ _ h => h)
  have HSM := Lib.hid fun W (hk : Keep NoF w W) => fmSame_any l m A B cA cB W (hrd.kept hk fun _ _ h => h) (hrm.kept hk fun _ _ h => h) hll hlm
  unfold boxS at *
  clear hS hT hrd hrm hpf hpm hK0
  generalize (decide (l.length ≤ 60) && fewB S) = b at *
  generalize (decide (m.length ≤ 60) && fewB S) = b2 at *
  generalize hq : sameB l m = sb at *
  have HSB := Lib.hid hq
  clear hq
  generalize l.length = ll at *
  generalize m.length = lm at *
  cases b with
  | false =>
    go_enter Tryz.func9, Tryz.ntmps9
    go_wp2_with (first
      | (go_at_call 10; (with_reducible refine (HFW.out _).mono ?_); rintro e w1 ⟨rfl, K1⟩; have k1 := HKW.out _ K1)
      | (go_at_call 11; (with_reducible refine (HAW.out w1 k1).mono ?_); rintro e w2 ⟨rfl, K2⟩; have k2 := k1.trans K2 fun _ _ h => h))
    refine bodyPost_ret (v := .bool true) (by simp [results, Tryz.results9, go_sem]) rfl ?_
    exact ⟨rfl, k2⟩
  | true =>
    cases b2 with
    | false =>
      go_enter Tryz.func9, Tryz.ntmps9
      go_wp2_with (first
        | (go_at_call 10; (with_reducible refine (HFW.out _).mono ?_); rintro e w1 ⟨rfl, K1⟩; have k1 := HKW.out _ K1; obtain ⟨c0, c1, c2, hz1⟩ := HB.out w1 K1; clear HFW)
        | (go_at_call 10; (with_reducible refine (HFM.out _).mono ?_); rintro e w3 ⟨rfl, K3⟩; have k3 := k1.trans K3 fun _ _ h => h)
        | (go_at_call 11; (with_reducible refine (HAW.out w3 k3).mono ?_); rintro e w2 ⟨rfl, K2⟩; have k2 := k3.trans K2 fun _ _ h => h))
      refine bodyPost_ret (v := .bool true) (by simp [results, Tryz.results9, go_sem]) rfl ?_
      exact ⟨rfl, k2⟩
    | true =>
      have PRE : ∀ q : Prop, (x = 0 ∧ y = 0 → q) → (x ≠ 0 → q) → (x = 0 ∧ y ≠ 0 → q) → q := fun q h1 h2 h3 => by
        by_cases hx : x = 0
        · by_cases hy : y = 0
          · exact h1 ⟨hx, hy⟩
          · exact h3 ⟨hx, hy⟩
        · exact h2 hx
      refine PRE _ (fun h => ?_) (fun hx => ?_) (fun h => ?_)
      · obtain ⟨rfl, rfl⟩ := h
        have hap := apart_law HP.out HQ.out
        rw [HSB.out] at hap
        clear PRE
        generalize txt s = st at *
        generalize txt u = ut at *
        go_enter Tryz.func9, Tryz.ntmps9
        go_wp2_with (first
          | (go_at_call 10; (with_reducible refine (HFW.out _).mono ?_); rintro e w1 ⟨rfl, K1⟩; have k1 := HKW.out _ K1; obtain ⟨c0, c1, c2, hz1⟩ := HB.out w1 K1; clear HFW)
          | (go_at_call 10; (with_reducible refine (HFM.out _).mono ?_); rintro e w3 ⟨rfl, K3⟩; have k3 := k1.trans K3 fun _ _ h => h; have K13 := K1.trans K3 fun _ _ h => h; obtain ⟨d0, d1, d2, hz3⟩ := HB.out w3 K13)
          | (go_at_call 12; (with_reducible refine (HPL.out _ k3).mono ?_); rintro e w4 ⟨rfl, K4⟩; have k4 := k3.trans K4 fun _ _ h => h; have K14 := K13.trans K4 fun _ _ h => h; obtain ⟨e0, e1, e2, hz4⟩ := HB.out w4 K14; clear HPL)
          | (go_at_call 12; (with_reducible refine (HPM.out _ k4).mono ?_); rintro e w5 ⟨rfl, K5⟩; have k5 := k4.trans K5 fun _ _ h => h)
          | (go_at_call 24; (with_reducible refine (HSM.out _ k5).mono ?_); rintro e w6 ⟨rfl, K6⟩; have k6 := k5.trans K6 fun _ _ h => h)
          | (go_at_call 11; (with_reducible refine (HAW.out w6 k6).mono ?_); rintro e w7 ⟨rfl, K7⟩; have k7 := k6.trans K7 fun _ _ h => h))
        refine bodyPost_ret (v := .bool true) (by simp [results, Tryz.results9, go_sem]) rfl ?_
        exact ⟨rfl, k7⟩
      · have hx' : (x != 0) = true := by simpa using hx
        clear PRE hx
        generalize txt s = st at *
        generalize txt u = ut at *
        go_enter Tryz.func9, Tryz.ntmps9
        go_wp2_with (first
          | (go_at_call 10; (with_reducible refine (HFW.out _).mono ?_); rintro e w1 ⟨rfl, K1⟩; have k1 := HKW.out _ K1; obtain ⟨c0, c1, c2, hz1⟩ := HB.out w1 K1; clear HFW)
          | (go_at_call 10; (with_reducible refine (HFM.out _).mono ?_); rintro e w3 ⟨rfl, K3⟩; have k3 := k1.trans K3 fun _ _ h => h; have K13 := K1.trans K3 fun _ _ h => h; obtain ⟨d0, d1, d2, hz3⟩ := HB.out w3 K13)
          | (go_at_call 12; (with_reducible refine (HPL.out _ k3).mono ?_); rintro e w4 ⟨rfl, K4⟩; have k4 := k3.trans K4 fun _ _ h => h; have K14 := K13.trans K4 fun _ _ h => h; obtain ⟨e0, e1, e2, hz4⟩ := HB.out w4 K14; clear HPL)
          | (go_at_call 12; (with_reducible refine (HPM.out _ k4).mono ?_); rintro e w5 ⟨rfl, K5⟩; have k5 := k4.trans K5 fun _ _ h => h)
          | (go_at_call 11; (with_reducible refine (HAW.out w5 k5).mono ?_); rintro e w7 ⟨rfl, K7⟩; have k7 := k5.trans K7 fun _ _ h => h))
        refine bodyPost_ret (v := .bool true) (by simp [results, Tryz.results9, go_sem]) rfl ?_
        exact ⟨rfl, k7⟩
      · obtain ⟨rfl, hy⟩ := h
        have hy' : (y != 0) = true := by simpa using hy
        clear PRE hy
        generalize txt s = st at *
        generalize txt u = ut at *
        go_enter Tryz.func9, Tryz.ntmps9
        go_wp2_with (first
          | (go_at_call 10; (with_reducible refine (HFW.out _).mono ?_); rintro e w1 ⟨rfl, K1⟩; have k1 := HKW.out _ K1; obtain ⟨c0, c1, c2, hz1⟩ := HB.out w1 K1; clear HFW)
          | (go_at_call 10; (with_reducible refine (HFM.out _).mono ?_); rintro e w3 ⟨rfl, K3⟩; have k3 := k1.trans K3 fun _ _ h => h; have K13 := K1.trans K3 fun _ _ h => h; obtain ⟨d0, d1, d2, hz3⟩ := HB.out w3 K13)
          | (go_at_call 12; (with_reducible refine (HPL.out _ k3).mono ?_); rintro e w4 ⟨rfl, K4⟩; have k4 := k3.trans K4 fun _ _ h => h; have K14 := K13.trans K4 fun _ _ h => h; obtain ⟨e0, e1, e2, hz4⟩ := HB.out w4 K14; clear HPL)
          | (go_at_call 12; (with_reducible refine (HPM.out _ k4).mono ?_); rintro e w5 ⟨rfl, K5⟩; have k5 := k4.trans K5 fun _ _ h => h)
          | (go_at_call 11; (with_reducible refine (HAW.out w5 k5).mono ?_); rintro e w7 ⟨rfl, K7⟩; have k7 := k5.trans K7 fun _ _ h => h))
        refine bodyPost_ret (v := .bool true) (by simp [results, Tryz.results9, go_sem]) rfl ?_
        exact ⟨rfl, k7⟩
end
end Go.Proofs.YtbidfbojealmlaaGreatDoor
