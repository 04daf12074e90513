/- The law PrinterPrints answers true. Conditions: the variables lie as they are read. -/
import Derived.Test.YtbidfbojealmlaaGreatDoorRfKL
set_option linter.unusedVariables false
set_option linter.unusedSimpArgs false
namespace Go.Proofs.YtbidfbojealmlaaGreatDoor
open Go.RowKit
open Fm (Nd cl checkE compactL tr)
section
set_option maxRecDepth 100000
set_option maxHeartbeats 4000000
theorem rprint_eq {S : Sg} {a f c : Option Addr} {ca cf cc : Nat} {l : List Nd} {s : List UInt8} {x : Int} {A : Option Addr} {cA : Nat} {w : World} (hp : printF S l = (s, x)) (hS : SigR w S a ca f cf c cc) (hll : l.length ≤ 9223372036854775807) (hrd : Rd w (.slice A l.length cA) 6 l.length (fmC l)) :
    Calls Tryz.prog 13 #[.agg #[.slice a S.A.length ca, .slice f S.F.length cf, .slice c S.C.length cc], .slice A l.length cA] w fun e w' => e = .returned (.tuple #[.string (txt s), .int .i64 x]) ∧ Keep NoF w w' := by
  have := rPrint_any S a f c ca cf cc l A cA w hS hll hrd
  unfold PrPost at this
  rw [hp] at this
  exact this
theorem walk_PrinterPrints (S : Sg) (a f c : Option Addr) (ca cf cc : Nat) (l : List Nd) (A : Option Addr) (cA : Nat) (w : World) (hS : SigR w S a ca f cf c cc) (hll : l.length ≤ 9223372036854775807) (hrd : Rd w (.slice A l.length cA) 6 l.length (fmC l)) (hT : Tabs w) :
    Calls Tryz.prog 3 #[.agg #[.slice a S.A.length ca, .slice f S.F.length cf, .slice c S.C.length cc], .slice A l.length cA] w fun e w' => e = .returned (.bool true) ∧ Keep NoF w w' := by
  have hK0 : Keep NoF w (w.alloc (.cells (boxS S a ca f cf c cc) 24)) := (Keep.refl _ _).alloc _
  have HB := Lib.hid (fun w' => @box_cells w w' S a f c ca cf cc 24)
  have HKW : Hid (∀ v, Keep NoF (w.alloc (.cells (boxS S a ca f cf c cc) 24)) v → Keep NoF w v) := Lib.hid fun v h => hK0.trans h fun _ _ h => h
  have HAW : Hid (∀ v, Keep NoF w v → _) := Lib.hid fun v (h : Keep NoF w v) => awake7_any v (hT.keep0 h)
  have HFW := Lib.hid fun W => fewP_any S a f c ca cf cc l.length A cA W
  obtain ⟨⟨s, x⟩, hpf⟩ : ∃ r, printF S l = r := ⟨_, rfl⟩
  have HPL := Lib.hid fun W (hk : Keep NoF w W) => print_eq hpf (hS.keep hk) (hT.keep0 hk) hll (hrd.kept hk fun _ _ h => h)
  have HRL := Lib.hid fun W (hk : Keep NoF w W) => rprint_eq hpf (hS.keep hk) hll (hrd.kept hk fun _ _ h => h)
  unfold boxS at *
  clear hS hT hrd hpf hK0
  generalize (decide (l.length ≤ 60) && fewB S) = b at *
  generalize l.length = ll at *
  generalize txt s = st at *
  cases b with
  | false =>
    go_enter Tryz.func3, Tryz.ntmps3
    go_wp2_with (first
      | (go_at_call 10; (with_reducible refine (HFW.out _).mono ?_); rintro e w1 ⟨rfl, K1⟩; have k1 := HKW.out _ K1)
      | (go_at_call 11; (with_reducible refine (HAW.out w1 k1).mono ?_); rintro e w2 ⟨rfl, K2⟩; have k2 := k1.trans K2 fun _ _ h => h))
    refine bodyPost_ret (v := .bool true) (by simp [results, Tryz.results3, go_sem]) rfl ?_
    exact ⟨rfl, k2⟩
  | true =>
    go_enter Tryz.func3, Tryz.ntmps3
    go_wp2_with (first
      | (go_at_call 10; (with_reducible refine (HFW.out _).mono ?_); rintro e w1 ⟨rfl, K1⟩; have k1 := HKW.out _ K1; obtain ⟨c0, c1, c2, hz1⟩ := HB.out w1 K1)
      | (go_at_call 12; (with_reducible refine (HPL.out _ k1).mono ?_); rintro e w2 ⟨rfl, K2⟩; have k2 := k1.trans K2 fun _ _ h => h; have K12 := K1.trans K2 fun _ _ h => h; obtain ⟨d0, d1, d2, hz2⟩ := HB.out w2 K12)
      | (go_at_call 13; (with_reducible refine (HRL.out _ k2).mono ?_); rintro e w3 ⟨rfl, K3⟩; have k3 := k2.trans K3 fun _ _ h => h)
      | (go_at_call 11; (with_reducible refine (HAW.out w3 k3).mono ?_); rintro e w4 ⟨rfl, K4⟩; have k4 := k3.trans K4 fun _ _ h => h))
    refine bodyPost_ret (v := .bool true) (by simp [results, Tryz.results3, go_sem]) rfl ?_
    exact ⟨rfl, k4⟩
end
end Go.Proofs.YtbidfbojealmlaaGreatDoor
