/- The law ModeltextValid answers true. Conditions: the variables lie as they are read. -/
import Derived.Test.YtmnhgeggojgflaaGreatDoorMtX
set_option linter.unusedVariables false
set_option linter.unusedSimpArgs false
namespace Go.Proofs.YtmnhgeggojgflaaGreatDoor
open Go.RowKit
open Mt
open Ev (Md Okm modelE)
attribute [local go_sem] Oper.semAt_some
section
set_option maxRecDepth 100000
set_option maxHeartbeats 4000000
theorem count_one (l : List UInt8) : Lib.countByte l 10 = l.count 10 := by
  unfold Lib.countByte
  rfl
theorem parse_bad {S : Sg} {a f c : Option Addr} {ca cf cc : Nat} {t : ByteArray} {w : World} {n : Nat} {x : Int} (h : parseM S t.data.toList = (emptyM, n, x)) (hS : SigR w S a ca f cf c cc) (hT : Tab w) (hU : Ws.Tab w) :
    Calls Tryz.prog 13 #[.agg #[.slice a S.A.length ca, .slice f S.F.length cf, .slice c S.C.length cc], .string t] w fun e w' => ∃ (va : Option Addr) (cv : Nat) (ra : Option Addr) (cr : Nat), e = .returned (.tuple #[.agg #[.int .i64 0, .slice va 0 cv, .slice ra 0 cr], .int .i64 (n : Int), .int .i64 x]) ∧ Keep NoF w w' := by
  have h1 := mtParse_any S a f c ca cf cc t w hS hT hU
  rw [h] at h1
  refine Calls.mono h1 ?_
  rintro e w' ⟨va, cv, ra, cr, rs, rfl, -, hk⟩
  exact ⟨va, cv, ra, cr, rfl, hk⟩
theorem parse_good {S : Sg} {a f c : Option Addr} {ca cf cc : Nat} {t : ByteArray} {w : World} {M : Md} (h : parseM S t.data.toList = (M, 0, 0)) (hS : SigR w S a ca f cf c cc) (hT : Tab w) (hU : Ws.Tab w) :
    Calls Tryz.prog 13 #[.agg #[.slice a S.A.length ca, .slice f S.F.length cf, .slice c S.C.length cc], .string t] w fun e w' => ∃ (va : Option Addr) (cv : Nat) (ra : Option Addr) (cr : Nat) (rs : List (Option Addr × Nat)), e = .returned (.tuple #[.agg #[.int .i64 M.W, .slice va M.V.length cv, .slice ra M.R.length cr], .int .i64 0, .int .i64 0]) ∧ MdR w' M va cv ra cr rs ∧ Keep NoF w w' := by
  have h1 := mtParse_any S a f c ca cf cc t w hS hT hU
  rw [h] at h1
  refine Calls.mono h1 ?_
  rintro e w' ⟨va, cv, ra, cr, rs, rfl, hM, hk⟩
  exact ⟨va, cv, ra, cr, rs, rfl, hM, hk⟩
theorem walk_ModeltextValid (S : Sg) (a f c : Option Addr) (ca cf cc : Nat) (t : ByteArray) (w : World) (hS : SigR w S a ca f cf c cc) (hT : Tab w ∧ Ws.Tab w) :
    Calls Tryz.prog 5 #[.agg #[.slice a S.A.length ca, .slice f S.F.length cf, .slice c S.C.length cc], .string t] w fun e w' => e = .returned (.bool true) ∧ Keep NoF w w' := by
  have b0 := Bk.new w 24 #[.slice a S.A.length ca, .slice f S.F.length cf, .slice c S.C.length cc]
  have k0 : Keep NoF w (w.alloc (.cells #[.slice a S.A.length ca, .slice f S.F.length cf, .slice c S.C.length cc] 24)) := (Keep.refl _ _).alloc _
  have HS := Lib.hid hS
  have HT := Lib.hid hT
  have HFW : Hid (∀ W, Keep NoF w W → Calls Tryz.prog 8 #[.agg #[.slice a S.A.length ca, .slice f S.F.length cf, .slice c S.C.length cc]] W (FewPostD W)) := Lib.hid fun W k => fewMt_any S a f c ca cf cc W (hS.keep k)
  have HAW : Hid (∀ W, Keep NoF w W → Calls Tryz.prog 10 #[] W fun e w' => e = .returned (.bool true) ∧ Keep NoF W w') := Lib.hid fun W k => awakeMt_any W (hT.1.keep0 k) (hT.2.keep0 k)
  have hlaw := valid_law S t.data.toList
  have HB0 := Lib.hid b0
  have HK0 := Lib.hid k0
  have HPB := Lib.hid fun n x (h : parseM S t.data.toList = (emptyM, n, x)) W (k : Keep NoF w W) => parse_bad h (hS.keep k) (hT.1.keep0 k) (hT.2.keep0 k)
  have HPG := Lib.hid fun M (h : parseM S t.data.toList = (M, 0, 0)) W (k : Keep NoF w W) => parse_good h (hS.keep k) (hT.1.keep0 k) (hT.2.keep0 k)
  have hlen : t.data.toList.length = t.size := by rw [Array.length_toList]; rfl
  have hcl := List.count_le_length (a := (10 : UInt8)) (l := t.data.toList)
  have HCN : Hid (∀ W, Calls Tryz.prog 16 #[.string t, .string ⟨#[10]⟩] W fun e w' => e = .returned (.int .i64 (t.data.toList.count 10 : Nat)) ∧ w' = W) := Lib.hid fun W => by rw [← count_one]; exact Tryz.strings_Count_one t 10 W
  clear hS hT b0 k0
  generalize t.data.toList.count 10 = cn at *
  generalize parseM S t.data.toList = q at *
  have HLN := Lib.hid (And.intro hlen hcl)
  clear hlen hcl
  go_enter Tryz.func5, Tryz.ntmps5
  go_upto_region 1 with (fail)
  generalize w.alloc (.cells #[.slice a S.A.length ca, .slice f S.F.length cf, .slice c S.C.length cc] 24) = W1 at *
  have s0 : W1.cell? ⟨w.heap.size, 0, none⟩ = some (.slice a S.A.length ca) := HB0.out.cell 0
  have s1 : W1.cell? ⟨w.heap.size, 1, none⟩ = some (.slice f S.F.length cf) := HB0.out.cell 1
  have s2 : W1.cell? ⟨w.heap.size, 2, none⟩ = some (.slice c S.C.length cc) := HB0.out.cell 2
  go_cut [15] from 8 to 16 (fun v15 wc => ∃ d : Bool, v15 = .bool d ∧ (d = false → t.size ≤ 2000) ∧ Keep NoF W1 wc)
  case first =>
    go_wp2_with (first
      | (go_at_call 8; (with_reducible refine (HFW.out _ HK0.out).mono ?_); rintro e w2 ⟨d1, rfl, K2⟩))
    all_goals go_meet
    all_goals first
      | exact ⟨_, rfl, (fun h => by have := of_decide_eq_false h; omega), K2⟩
      | exact ⟨true, rfl, (fun h => by cases h), K2⟩
  case rest =>
    obtain ⟨d, rfl, hd, K1⟩ := hcut
    have HW := Lib.hid (HK0.out.trans K1 fun _ _ h => h)
    have HBc := Lib.hid (HB0.out.keep K1 fun h => h)
    clear s0 s1 s2
    have s0 : wc.cell? ⟨w.heap.size, 0, none⟩ = some (.slice a S.A.length ca) := HBc.out.cell 0
    have s1 : wc.cell? ⟨w.heap.size, 1, none⟩ = some (.slice f S.F.length cf) := HBc.out.cell 1
    have s2 : wc.cell? ⟨w.heap.size, 2, none⟩ = some (.slice c S.C.length cc) := HBc.out.cell 2
    cases d with
    | true =>
      clear HPB HPG
      go_wp2_with (first
        | (go_at_call 10; (with_reducible refine (HAW.out _ HW.out).mono ?_); rintro e w2 ⟨rfl, K2⟩))
      go_ret
      exact ⟨rfl, HW.out.trans K2 fun _ _ h => h⟩
    | false =>
      have hts := hd rfl
      clear hd
      obtain ⟨M, n, x⟩ := q
      simp only at hlaw
      obtain ⟨hl1, hl2⟩ := hlaw
      by_cases hx : x = 0
      · subst hx
        obtain ⟨rfl, hok, hA, hF⟩ := hl2 rfl
        have HPQ := HPG.out M rfl
        have hE : ∀ (W : World) (va ra : Option Addr) (cv cr : Nat) (rs : List (Option Addr × Nat)), MdR W M va cv ra cr rs → Calls Tryz.prog 17 #[.agg #[.int .i64 M.W, .slice va M.V.length cv, .slice ra M.R.length cr]] W fun e w' => e = .returned (.int .i64 0) ∧ Keep NoF W w' := fun W va ra cv cr rs h => by
          have h1 := moCheck_any W h
          rw [(Ev.model_zero h.u).2 hok] at h1
          exact h1
        have HE := Lib.hid hE
        have HPQ' := Lib.hid HPQ
        have hAI : ((M.R.length : Int) == (S.A.length : Int)) = true := by simp; omega
        have hFI : ((M.V.length : Int) == (S.F.length : Int)) = true := by simp; omega
        clear hl1 hl2 hok HPB HPG hE HPQ hA hF
        go_upto_region 4 with (first
          | (go_at_call 13; (with_reducible refine (HPQ'.out _ HW.out).mono ?_); rintro e w2 ⟨va, cv, ra, cr, rs, rfl, hM2, K2⟩))
        have b3 := Bk.new w2 28 #[.int .i64 M.W, .slice va M.V.length cv, .slice ra M.R.length cr]
        have k3 : Keep NoF w2 (w2.alloc (.cells #[.int .i64 M.W, .slice va M.V.length cv, .slice ra M.R.length cr] 28)) := (Keep.refl _ _).alloc _
        have HM3 := Lib.hid (HE.out _ _ _ _ _ _ (hM2.keep k3))
        have HK3 := Lib.hid ((HW.out.trans K2 fun _ _ h => h).trans k3 fun _ _ h => h)
        have HBM := Lib.hid b3
        have HB3 := Lib.hid (HBc.out.keep (K2.trans k3 fun _ _ h => h) fun h => h)
        clear hM2 HE b3 k3 K2 s0 s1 s2
        generalize w2.alloc (.cells #[.int .i64 M.W, .slice va M.V.length cv, .slice ra M.R.length cr] 28) = W3 at *
        have m0 : W3.cell? ⟨w2.heap.size, 0, none⟩ = some (.int .i64 M.W) := HBM.out.cell 0
        have m1 : W3.cell? ⟨w2.heap.size, 1, none⟩ = some (.slice va M.V.length cv) := HBM.out.cell 1
        have m2 : W3.cell? ⟨w2.heap.size, 2, none⟩ = some (.slice ra M.R.length cr) := HBM.out.cell 2
        go_wp2_with (first
          | (go_at_call 17; (with_reducible refine HM3.out.mono ?_); rintro e w4 ⟨rfl, K4⟩
             have n1 : w4.cell? ⟨w2.heap.size, 1, none⟩ = some (.slice va M.V.length cv) := (HBM.out.keep K4 fun h => h).cell 1
             have n2 : w4.cell? ⟨w2.heap.size, 2, none⟩ = some (.slice ra M.R.length cr) := (HBM.out.keep K4 fun h => h).cell 2
             have s0 : w4.cell? ⟨w.heap.size, 0, none⟩ = some (.slice a S.A.length ca) := (HB3.out.keep K4 fun h => h).cell 0
             have s1 : w4.cell? ⟨w.heap.size, 1, none⟩ = some (.slice f S.F.length cf) := (HB3.out.keep K4 fun h => h).cell 1
             have HK4 := Lib.hid (HK3.out.trans K4 fun _ _ h => h))
          | (go_at_call 10; (with_reducible refine (HAW.out _ HK4.out).mono ?_); rintro e w9 ⟨rfl, K9⟩))
        go_ret
        exact ⟨rfl, HK4.out.trans K9 fun _ _ h => h⟩
      · obtain ⟨rfl, hn⟩ := hl1 hx
        have HPQ := Lib.hid (HPB.out n x rfl)
        have hx' : (x != 0) = true := by simpa using hx
        have hn' : (n : Int) ≤ (cn : Int) + 1 := by omega
        have hn0 : (0 : Int) ≤ (n : Int) := by omega
        have hcn : (cn : Int) ≤ 2000 := by have := HLN.out; omega
        clear hl1 hl2 HPB HPG hx hn
        go_upto_region 5 with (first
          | (go_at_call 13; (with_reducible refine (HPQ.out _ HW.out).mono ?_); rintro e w2 ⟨va, cv, ra, cr, rfl, K2⟩))
        have b3 := Bk.new w2 28 #[.int .i64 0, .slice va 0 cv, .slice ra 0 cr]
        have k3 : Keep NoF w2 (w2.alloc (.cells #[.int .i64 0, .slice va 0 cv, .slice ra 0 cr] 28)) := (Keep.refl _ _).alloc _
        have HK3 := Lib.hid ((HW.out.trans K2 fun _ _ h => h).trans k3 fun _ _ h => h)
        have HBM := Lib.hid b3
        clear b3 k3 K2 s0 s1 s2
        generalize w2.alloc (.cells #[.int .i64 0, .slice va 0 cv, .slice ra 0 cr] 28) = W3 at *
        have m0 : W3.cell? ⟨w2.heap.size, 0, none⟩ = some (.int .i64 0) := HBM.out.cell 0
        have m1 : W3.cell? ⟨w2.heap.size, 1, none⟩ = some (.slice va 0 cv) := HBM.out.cell 1
        have m2 : W3.cell? ⟨w2.heap.size, 2, none⟩ = some (.slice ra 0 cr) := HBM.out.cell 2
        go_wp2_with (first
          | (go_at_call 16; (with_reducible refine (HCN.out _).mono ?_); rintro e w4 ⟨rfl, hw4⟩; obtain rfl := hw4.symm)
          | (go_at_call 10; (with_reducible refine (HAW.out _ HK3.out).mono ?_); rintro e w9 ⟨rfl, K9⟩))
        go_ret
        exact ⟨rfl, HK3.out.trans K9 fun _ _ h => h⟩
end
end Go.Proofs.YtmnhgeggojgflaaGreatDoor
