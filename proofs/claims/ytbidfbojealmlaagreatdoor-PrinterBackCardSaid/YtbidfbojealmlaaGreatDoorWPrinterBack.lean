/- The law PrinterBack answers true. Conditions: the variables lie as they are read. -/
import Derived.Test.YtbidfbojealmlaaGreatDoorPrX
set_option linter.unusedVariables false
set_option linter.unusedSimpArgs false
namespace Go.Proofs.YtbidfbojealmlaaGreatDoor
open Go.RowKit
open Fm (Nd cl checkE compactL tr)
section
set_option maxRecDepth 100000
set_option maxHeartbeats 4000000
theorem walk_PrinterBack (S : Sg) (a f c : Option Addr) (ca cf cc : Nat) (l : List Nd) (A : Option Addr) (cA : Nat) (w : World) (hS : SigR w S a ca f cf c cc) (hll : l.length ≤ 9223372036854775807) (hrd : Rd w (.slice A l.length cA) 6 l.length (fmC l)) (hT : Tabs w) :
    Calls Tryz.prog 4 #[.agg #[.slice a S.A.length ca, .slice f S.F.length cf, .slice c S.C.length cc], .slice A l.length cA] w fun e w' => e = .returned (.bool true) ∧ Keep NoF w w' := by
  have hK0 : Keep NoF w (w.alloc (.cells (boxS S a ca f cf c cc) 24)) := (Keep.refl _ _).alloc _
  have HB := Lib.hid (fun w' => @box_cells w w' S a f c ca cf cc 24)
  have HS := Lib.hid hS
  have HT := Lib.hid hT
  have HKW : Hid (∀ v, Keep NoF (w.alloc (.cells (boxS S a ca f cf c cc) 24)) v → Keep NoF w v) := Lib.hid fun v h => hK0.trans h fun _ _ h => h
  have HAW : Hid (∀ v, Keep NoF w v → _) := Lib.hid fun v (h : Keep NoF w v) => awake7_any v (HT.out.keep0 h)
  have HFW := Lib.hid fun W => fewP_any S a f c ca cf cc l.length A cA W
  have HRD := Lib.hid hrd
  have HCO := Lib.hid fun W (hk : Keep NoF w W) => Compact_any l A cA W hll (hrd.kept hk fun _ _ h => h)
  have hlen := printF_len S l
  have h200 := compact_200 l
  obtain ⟨⟨s, x⟩, hpf⟩ : ∃ r, printF S l = r := ⟨_, rfl⟩
  rw [hpf] at hlen
  have HP := Lib.hid hpf
  have HPL := Lib.hid fun W (hk : Keep NoF w W) => print_eq hpf (hS.keep hk) (hT.keep0 hk) hll (hrd.kept hk fun _ _ h => h)
  have hle : s.length ≤ 4000 := hlen
  unfold boxS at *
  clear hS hT hrd hpf hK0 hlen
  generalize (decide (l.length ≤ 60) && fewB S) = b at *
  generalize hL : compactL l = L at *
  have HL := Lib.hid hL
  generalize l.length = ll at *
  cases b with
  | false =>
    clear hL
    go_enter Tryz.func4, Tryz.ntmps4
    go_wp2_with (first
      | (go_at_call 10; (with_reducible refine (HFW.out _).mono ?_); rintro e w1 ⟨rfl, K1⟩; have k1 := HKW.out _ K1)
      | (go_at_call 11; (with_reducible refine (HAW.out w1 k1).mono ?_); rintro e w2 ⟨rfl, K2⟩; have k2 := k1.trans K2 fun _ _ h => h))
    refine bodyPost_ret (v := .bool true) (by simp [results, Tryz.results4, go_sem]) rfl ?_
    exact ⟨rfl, k2⟩
  | true =>
    by_cases hx : x = 0
    · subst hx
      have hpp := print_parse HP.out
      rw [hL] at hpp
      have HPP := Lib.hid hpp
      have hsz : (txt s).size ≤ 4000 := by rw [txt_size]; exact hle
      have HEQ := Lib.hid fun A B c d W h1 h2 => requal_any L A B c d W h1 h2 (by omega)
      clear hpp hL
      generalize txt s = st at *
      go_enter Tryz.func4, Tryz.ntmps4
      go_wp2_with (first
        | (go_at_call 10; (with_reducible refine (HFW.out _).mono ?_); rintro e w1 ⟨rfl, K1⟩; have k1 := HKW.out _ K1; obtain ⟨c0, c1, c2, hz1⟩ := HB.out w1 K1)
        | (go_at_call 12; (with_reducible refine (HPL.out _ k1).mono ?_); rintro e w2 ⟨rfl, K2⟩; have k2 := k1.trans K2 fun _ _ h => h; have K12 := K1.trans K2 fun _ _ h => h; obtain ⟨d0, d1, d2, hz2⟩ := HB.out w2 K12; have H3 := Lib.hid (parse_eq7 HPP.out (HS.out.keep k2) (HT.out.keep0 k2) (by omega)))
        | (go_at_call 14; (with_reducible refine H3.out.mono ?_); rintro e w3 ⟨A3, c3, rfl, R3, K3⟩; have k3 := k2.trans K3 fun _ _ h => h; have HR3 := Lib.hid R3; clear R3)
        | (go_at_call 16; (with_reducible refine (HCO.out _ k3).mono ?_); rintro e w4 ⟨A4, c4, rfl, R4, K4, F4⟩; have k4 := k3.trans K4 fun _ _ h => h; have HR4 := Lib.hid R4; have HR34 := Lib.hid (HR3.out.kept K4 fun _ _ h => h); clear R4 F4)
        | (go_at_call 15; (with_reducible refine (HEQ.out _ _ _ _ _ HR34.out HR4.out).mono ?_); rintro e w5 ⟨rfl, K5⟩; have k5 := k4.trans K5 fun _ _ h => h)
        | (go_at_call 11; (with_reducible refine (HAW.out w5 k5).mono ?_); rintro e w6 ⟨rfl, K6⟩; have k6 := k5.trans K6 fun _ _ h => h))
      refine bodyPost_ret (v := .bool true) (by simp [results, Tryz.results4, go_sem]) rfl ?_
      exact ⟨rfl, k6⟩
    · have hx' : (x != 0) = true := by simpa using hx
      obtain rfl := printF_err HP.out hx
      rw [show txt [] = ⟨#[]⟩ from rfl] at HPL
      clear hx hL
      go_enter Tryz.func4, Tryz.ntmps4
      go_wp2_with (first
        | (go_at_call 10; (with_reducible refine (HFW.out _).mono ?_); rintro e w1 ⟨rfl, K1⟩; have k1 := HKW.out _ K1; obtain ⟨c0, c1, c2, hz1⟩ := HB.out w1 K1)
        | (go_at_call 12; (with_reducible refine (HPL.out _ k1).mono ?_); rintro e w2 ⟨rfl, K2⟩; have k2 := k1.trans K2 fun _ _ h => h)
        | (go_at_call 11; (with_reducible refine (HAW.out w2 k2).mono ?_); rintro e w3 ⟨rfl, K3⟩; have k3 := k2.trans K3 fun _ _ h => h))
      refine bodyPost_ret (v := .bool true) (by simp [results, Tryz.results4, go_sem]) rfl ?_
      exact ⟨rfl, k3⟩
end
end Go.Proofs.YtbidfbojealmlaaGreatDoor
