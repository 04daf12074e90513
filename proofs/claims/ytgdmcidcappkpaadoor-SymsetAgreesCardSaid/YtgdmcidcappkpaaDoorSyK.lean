/- Relations as diagrams: the program's Relation. No condition. -/
import Derived.Test.YtgdmcidcappkpaaDoorSyF
import Derived.Test.YtgdmcidcappkpaaDoorSyJ
set_option linter.unusedVariables false
set_option linter.unusedSimpArgs false
namespace Go.Proofs.YtgdmcidcappkpaaDoor
open Go.RowKit
open Dd (stF setF relP relF)

section
set_option maxRecDepth 100000
set_option maxHeartbeats 2000000
theorem Rel1_any (k S : Nat) (hk : k ≤ 6) (hS : S < 18446744073709551616) (kb : Nat) (w : World) (hc : w.cell? ⟨kb, 0, none⟩ = some (.int .i64 k)) : Calls Tryd.prog 50 #[.int .u64 S, .pointer (some ⟨kb, 0, none⟩)] w fun e w' => e = .returned (.bool (beyondB k S)) ∧ w' = w := by
  have HB := Lib.hid (beyond_any k S hk hS w)
  generalize beyondB k S = b at *
  go_enter Tryd.func50, Tryd.ntmps50
  go_wp2_with (go_at_call 24; (with_reducible refine HB.out.mono ?_); rintro e w' ⟨rfl, hw'⟩; obtain rfl := hw'.symm)
  go_ret
  exact ⟨rfl, rfl⟩
theorem IndexFunc64_any (k : Nat) (hk : k ≤ 6) (l : List Nat) (hl : ∀ x ∈ l, x < 18446744073709551616) (hn : l.length ≤ 9223372036854775807) (A : Option Addr) (c kb : Nat) (w : World) (hrd : Rd w (.slice A l.length c) 1 l.length (n64 l)) (hc : w.cell? ⟨kb, 0, none⟩ = some (.int .i64 k)) :
    Calls Tryd.prog 67 #[.slice A l.length c, .func (.func 50) #[] #[.pointer (some ⟨kb, 0, none⟩)]] w fun e w' => ∃ n : Int, e = .returned (.int .i64 n) ∧ (0 ≤ n ↔ l.any (beyondB k) = true) ∧ w' = w := by
  generalize hr : l.any (beyondB k) = r
  have HR := Lib.hid hr
  clear hr
  have HS := Lib.hid hl
  clear hl
  have HREL := Lib.hid fun S hS => Rel1_any k S hk hS kb w hc
  go_enter Tryd.func67, Tryd.ntmps67
  go_wp2
  go_loopw [8] (fun i wr => ∃ j : Nat, i = .int .i64 j ∧ j ≤ l.length ∧ Hid ((l.drop j).any (beyondB k) = r) ∧ wr = w) (fun i _ => l.length - (intOf i).toNat)
  case atStart => exact ⟨0, rfl, by omega, Lib.hid HR.out, rfl⟩
  case round =>
    obtain ⟨j, rfl, hj, ho, hw⟩ := hrel
    obtain rfl := hw.symm; clear hw HR
    by_cases hlt : j < l.length
    · have hx : l[j]? = some l[j] := List.getElem?_eq_getElem hlt
      obtain ⟨_, hcc, bl, off, rfl, hcell⟩ := hrd.at_ (by omega)
      have hc1 := hcell j (.int .u64 (l[j] : Nat)) (by rw [List.getElem?_map, hx]; rfl)
      have ho1 := ho.out
      rw [List.drop_eq_getElem_cons hlt, List.any_cons] at ho1
      have HX := Lib.hid (HREL.out _ (HS.out _ (List.getElem_mem hlt)))
      clear ho hcell hx
      generalize l[j] = x at *
      cases hn : beyondB k x with
      | true =>
        rw [hn] at ho1 HX
        have HO : Hid (r = true) := Lib.hid ho1.symm
        clear ho1 hn
        go_wp2_with (go_at_call 50; (with_reducible refine HX.out.mono ?_); rintro e w2 ⟨rfl, hw2⟩; obtain rfl := hw2.symm)
        go_ret
        exact ⟨(j : Int), rfl, by rw [HO.out]; simp, rfl⟩
      | false =>
        rw [hn, Bool.false_or] at ho1
        rw [hn] at HX
        have HO := Lib.hid ho1
        clear ho1 hn
        go_wp2_with (go_at_call 50; (with_reducible refine HX.out.mono ?_); rintro e w2 ⟨rfl, hw2⟩; obtain rfl := hw2.symm)
        go_roundw
        case rel => exact ⟨j + 1, by go_num, by omega, HO, by trivial⟩
        case measure => simp only [intOf]; omega
    · obtain rfl : j = l.length := by omega
      have HO : Hid (r = false) := Lib.hid (by rw [← ho.out, List.drop_length]; rfl)
      clear ho
      go_wp2
      go_ret
      exact ⟨(-1 : Int), rfl, by rw [HO.out]; simp, rfl⟩
theorem ContainsFunc64_any (k : Nat) (hk : k ≤ 6) (l : List Nat) (hl : ∀ x ∈ l, x < 18446744073709551616) (hn : l.length ≤ 9223372036854775807) (A : Option Addr) (c kb : Nat) (w : World) (hrd : Rd w (.slice A l.length c) 1 l.length (n64 l)) (hc : w.cell? ⟨kb, 0, none⟩ = some (.int .i64 k)) :
    Calls Tryd.prog 49 #[.slice A l.length c, .func (.func 50) #[] #[.pointer (some ⟨kb, 0, none⟩)]] w fun e w' => e = .returned (.bool (l.any (beyondB k))) ∧ w' = w := by
  have HI := Lib.hid (IndexFunc64_any k hk l hl hn A c kb w hrd hc)
  generalize l.any (beyondB k) = r at *
  clear hrd hl hc
  cases r with
  | true =>
    go_enter Tryd.func49, Tryd.ntmps49
    go_wp2_with (go_at_call 67; (with_reducible refine HI.out.mono ?_); rintro e w2 ⟨n, rfl, h2, hw2⟩; obtain rfl := hw2.symm; have h3 : 0 ≤ n := h2.2 rfl)
    go_ret
    exact ⟨rfl, rfl⟩
  | false =>
    go_enter Tryd.func49, Tryd.ntmps49
    go_wp2_with (go_at_call 67; (with_reducible refine HI.out.mono ?_); rintro e w2 ⟨n, rfl, h2, hw2⟩; obtain rfl := hw2.symm; have h3 : n < 0 := Int.not_le.1 (fun h => absurd (h2.1 h) (by simp)))
    go_ret
    exact ⟨rfl, rfl⟩
theorem Relation_any (k : Nat) (hk : k ≤ 6) (l : List Nat) (hlen : l.length = 2 ^ k) (hl : ∀ x ∈ l, x < 18446744073709551616) (hb : l.any (beyondB k) = false) (A : Option Addr) (c : Nat) (w : World) (hrd : Rd w (.slice A l.length c) 1 l.length (n64 l)) :
    Calls Tryd.prog 23 #[.int .i64 k, .slice A l.length c] w (DP w (2 * k) (relF k l)) := by
  obtain ⟨hp, hm64⟩ := pow_k hk
  have HE := Lib.hid fun ρ => Dd.relP_end k l ρ
  have HST := Lib.hid fun j => Dd.relP_succ k l j
  have HSTATE : Hid (∀ (j : Nat) W, j < 2 ^ k → Calls Tryd.prog 51 #[.int .i64 k, .int .i64 j, .int .i64 0] W (DP W (2 * k) (stF k j 0))) := Lib.hid fun j W hj => state_any k j 0 hk hj (by omega) W
  have HSET : Hid (∀ (S : Nat) W, S < 18446744073709551616 → Calls Tryd.prog 25 #[.int .i64 k, .int .u64 S, .int .i64 1] W (DP W (2 * k) (setF k S 1))) := Lib.hid fun S W hS => set_any k S 1 hk hS (by omega) W
  have HCF := Lib.hid fun (W : World) kb (hK : Keep NoF w W) hc => ContainsFunc64_any k hk l hl (by omega) A c kb W (hrd.kept hK fun _ _ h => h) hc
  rw [hb] at HCF
  have HL := Lib.hid hl
  have HRD := Lib.hid fun (W : World) (hK : Keep NoF w W) => hrd.kept hK fun _ _ h => h
  obtain ⟨V, hV⟩ : ∃ V, V = 2 * k := ⟨_, rfl⟩
  rw [← hV] at HSTATE HSET ⊢
  rw [← hlen] at hp hm64 HSTATE HE
  have hVk : (2 : Int) * (k : Int) = (V : Int) := by omega
  have HV := Lib.hid hV
  have hnl : (l.length : Int) = wrap64 ((2 : Int) ^ k) := hp.symm
  have hne : ((l.length : Int) != wrap64 ((2 : Int) ^ k)) = false := by rw [← hnl]; simp
  clear hV hl hrd hb hp hnl hlen
  have hV12 : V ≤ 12 := by have := HV.out; omega
  have HC := Lib.hid fun W => x_const V (by omega) false W
  go_enter Tryd.func23, Tryd.ntmps23
  go_upto_region 1 with (fail)
  have Bk0 := (Bk.new w 3 #[.int .i64 k]).alloc (.cells #[.int .i64 0, .slice none 0 0, .int .i64 0] 26)
  have Br0 := Bk.new (w.alloc (.cells #[.int .i64 k] 3)) 26 #[.int .i64 0, .slice none 0 0, .int .i64 0]
  rw [World.size_alloc] at Br0
  have K0 : Keep NoF w ((w.alloc (.cells #[.int .i64 k] 3)).alloc (.cells #[.int .i64 0, .slice none 0 0, .int .i64 0] 26)) := ((Keep.refl NoF w).alloc _).alloc _
  generalize (w.alloc (.cells #[.int .i64 k] 3)).alloc (.cells #[.int .i64 0, .slice none 0 0, .int .i64 0] 26) = W0 at *
  have ck : W0.cell? ⟨w.heap.size, 0, none⟩ = some (.int .i64 k) := Bk0.cell 0
  go_upto_region 8 with (first
                         | (go_at_call 49
                            (with_reducible refine (HCF.out W0 _ K0 ck).mono ?_)
                            rintro e w' ⟨rfl, hw'⟩
                            obtain rfl := hw'.symm)
                         | (go_at_call 28
                            (with_reducible refine (HC.out W0).mono ?_)
                            rintro e w1 ⟨A1, n1, c1, r1, rfl, D1, K1⟩))
  have Bkk := (Bk0.keep K1 fun h => h).alloc (.cells #[.int .i64 V, .slice A1 n1 c1, .int .i64 r1] 26)
  have Bres := (Br0.keep K1 fun h => h).alloc (.cells #[.int .i64 V, .slice A1 n1 c1, .int .i64 r1] 26)
  have hl1 := (Br0.keep K1 fun h => h).lt
  have Bd := Bk.new w1 26 #[.int .i64 V, .slice A1 n1 c1, .int .i64 r1]
  have Qd := D1.keep ((Keep.refl NoF w1).alloc (.cells #[.int .i64 V, .slice A1 n1 c1, .int .i64 r1] 26))
  have Kw : Keep NoF w (w1.alloc (.cells #[.int .i64 V, .slice A1 n1 c1, .int .i64 r1] 26)) := (K0.trans K1 fun _ _ h => h).alloc _
  generalize w1.alloc (.cells #[.int .i64 V, .slice A1 n1 c1, .int .i64 r1] 26) = W1 at *
  generalize w1.heap.size = bd at *
  clear ck Bk0 Br0 K0 K1 D1 HCF HC
  go_wp2
  go_loopw [7, 39] (fun v7 i wr => ∃ (j : Nat) (A : Option Addr) (n c r : Nat), v7 = .int .i64 0 ∧ i = .int .i64 j ∧ j ≤ l.length ∧ Bk wr bd 26 #[.int .i64 V, .slice A n c, .int .i64 r] ∧ IsD wr V (relP k l j) A n c r ∧ Bk wr (w.heap.size + 1) 26 #[.int .i64 0, .slice none 0 0, .int .i64 0] ∧ Bk wr w.heap.size 3 #[.int .i64 k] ∧ Keep NoF w wr) (fun _ i _ => l.length - (intOf i).toNat)
  case atStart => exact ⟨0, _, _, _, _, rfl, rfl, by omega, Bd, Qd, Bres, Bkk, Kw⟩
  case round =>
    clear Bd Qd Bres Bkk Kw
    obtain ⟨j, A1, n1, c1, r1, rfl, rfl, hj, Bd, Qd, Bres, Bkk, Kw⟩ := hrel
    by_cases hlt : j < l.length
    · have hx : l[j]? = some l[j] := List.getElem?_eq_getElem hlt
      obtain ⟨_, hcc, bl, off, rfl, hcell⟩ := (HRD.out wr Kw).at_ (by omega)
      have hc1 := hcell j (.int .u64 (l[j] : Nat)) (by rw [List.getElem?_map, hx]; rfl)
      have hS := HL.out _ (List.getElem_mem hlt)
      have hg : l.getD j 0 = l[j] := by rw [List.getD_eq_getElem?_getD, hx]; rfl
      have hsj := HST.out j
      rw [hg] at hsj
      clear hcell hx hg
      generalize l[j] = S at *
      by_cases hz : S = 0
      · subst hz
        have HSJ : Hid (∀ ρ, relP k l (j + 1) ρ = relP k l j ρ) := Lib.hid fun ρ => by rw [hsj]; simp [setF]
        clear hsj
        go_wp2
        go_roundw
        case rel => exact ⟨j + 1, A1, n1, c1, r1, rfl, by go_num, by omega, Bd, Qd.congr fun ρ => (HSJ.out ρ).symm, Bres, Bkk, Kw⟩
        case measure => simp only [intOf]; omega
      · have hz2 : ((S : Int) == 0) = false := by rw [beq_eq_false_iff_ne]; omega
        have HSJ := Lib.hid hsj
        have HX := Lib.hid fun W => HSTATE.out j W hlt
        have HY := Lib.hid fun W => HSET.out S W hS
        clear hsj
        have ck0 : wr.cell? ⟨w.heap.size, 0, none⟩ = some (.int .i64 k) := Bkk.cell 0
        have cd0 : wr.cell? ⟨bd, 0, none⟩ = some (.int .i64 V) := Bd.cell 0
        have cd1 : wr.cell? ⟨bd, 1, none⟩ = some (.slice A1 n1 c1) := Bd.cell 1
        have cd2 : wr.cell? ⟨bd, 2, none⟩ = some (.int .i64 r1) := Bd.cell 2
        go_upto_region 13 with (go_at_call 51
                                (with_reducible refine (HX.out wr).mono ?_)
                                rintro e w2 ⟨A2, n2, c2, r2, rfl, D2, K2⟩
                                have Bkn := Bkk.keep K2 fun h => h
                                have Lkn := Bkn.lt
                                have ek0 : w2.cell? ⟨w.heap.size, 0, none⟩ = some (.int .i64 k) := Bkn.cell 0
                                have Bdn := Bd.keep K2 fun h => h
                                have Ldn := Bdn.lt
                                have Bresn := Bres.keep K2 fun h => h
                                have Lresn := Bresn.lt)
        clear ck0 cd0 cd1 cd2
        have Bk_1 := Bkn.alloc (.cells #[.int .i64 V, .slice A2 n2 c2, .int .i64 r2] 26)
        have Bd_1 := Bdn.alloc (.cells #[.int .i64 V, .slice A2 n2 c2, .int .i64 r2] 26)
        have Qd_1 := (Qd.keep K2).keep ((Keep.refl NoF w2).alloc (.cells #[.int .i64 V, .slice A2 n2 c2, .int .i64 r2] 26))
        have Bres_1 := Bresn.alloc (.cells #[.int .i64 V, .slice A2 n2 c2, .int .i64 r2] 26)
        have Bx_1 := Bk.new w2 26 #[.int .i64 V, .slice A2 n2 c2, .int .i64 r2]
        have Qx_1 := D2.keep ((Keep.refl NoF w2).alloc (.cells #[.int .i64 V, .slice A2 n2 c2, .int .i64 r2] 26))
        have Kw_1 : Keep NoF w (w2.alloc (.cells #[.int .i64 V, .slice A2 n2 c2, .int .i64 r2] 26)) := (Kw.trans K2 fun _ _ h => h).alloc _
        generalize w2.alloc (.cells #[.int .i64 V, .slice A2 n2 c2, .int .i64 r2] 26) = W1 at *
        clear Bkk Bd Bres Qd Bkn Bdn Bresn Kw D2 K2
        have ck0 : W1.cell? ⟨w.heap.size, 0, none⟩ = some (.int .i64 k) := Bk_1.cell 0
        have cd0 : W1.cell? ⟨bd, 0, none⟩ = some (.int .i64 V) := Bd_1.cell 0
        have cd1 : W1.cell? ⟨bd, 1, none⟩ = some (.slice A1 n1 c1) := Bd_1.cell 1
        have cd2 : W1.cell? ⟨bd, 2, none⟩ = some (.int .i64 r1) := Bd_1.cell 2
        have cx0 : W1.cell? ⟨w2.heap.size, 0, none⟩ = some (.int .i64 V) := Bx_1.cell 0
        have cx1 : W1.cell? ⟨w2.heap.size, 1, none⟩ = some (.slice A2 n2 c2) := Bx_1.cell 1
        have cx2 : W1.cell? ⟨w2.heap.size, 2, none⟩ = some (.int .i64 r2) := Bx_1.cell 2
        go_upto_region 16 with (go_at_call 25
                                (with_reducible refine (HY.out W1).mono ?_)
                                rintro e w3 ⟨A3, n3, c3, r3, rfl, D3, K3⟩
                                have Bkn := Bk_1.keep K3 fun h => h
                                have Lkn := Bkn.lt
                                have ek0 : w3.cell? ⟨w.heap.size, 0, none⟩ = some (.int .i64 k) := Bkn.cell 0
                                have Bdn := Bd_1.keep K3 fun h => h
                                have Ldn := Bdn.lt
                                have Bresn := Bres_1.keep K3 fun h => h
                                have Lresn := Bresn.lt
                                have Bxn := Bx_1.keep K3 fun h => h
                                have Lxn := Bxn.lt)
        clear ck0 cd0 cd1 cd2 cx0 cx1 cx2
        have Bk_2 := Bkn.alloc (.cells #[.int .i64 V, .slice A3 n3 c3, .int .i64 r3] 26)
        have Bd_2 := Bdn.alloc (.cells #[.int .i64 V, .slice A3 n3 c3, .int .i64 r3] 26)
        have Qd_2 := (Qd_1.keep K3).keep ((Keep.refl NoF w3).alloc (.cells #[.int .i64 V, .slice A3 n3 c3, .int .i64 r3] 26))
        have Bres_2 := Bresn.alloc (.cells #[.int .i64 V, .slice A3 n3 c3, .int .i64 r3] 26)
        have Bx_2 := Bxn.alloc (.cells #[.int .i64 V, .slice A3 n3 c3, .int .i64 r3] 26)
        have Qx_2 := (Qx_1.keep K3).keep ((Keep.refl NoF w3).alloc (.cells #[.int .i64 V, .slice A3 n3 c3, .int .i64 r3] 26))
        have By_2 := Bk.new w3 26 #[.int .i64 V, .slice A3 n3 c3, .int .i64 r3]
        have Qy_2 := D3.keep ((Keep.refl NoF w3).alloc (.cells #[.int .i64 V, .slice A3 n3 c3, .int .i64 r3] 26))
        have Kw_2 : Keep NoF w (w3.alloc (.cells #[.int .i64 V, .slice A3 n3 c3, .int .i64 r3] 26)) := (Kw_1.trans K3 fun _ _ h => h).alloc _
        generalize w3.alloc (.cells #[.int .i64 V, .slice A3 n3 c3, .int .i64 r3] 26) = W2 at *
        clear Bk_1 Bd_1 Bres_1 Bx_1 Qd_1 Qx_1 Bkn Bdn Bresn Bxn Kw_1 D3 K3
        have HA := Lib.hid (x_and hV12 Qx_2 Qy_2)
        have ck0 : W2.cell? ⟨w.heap.size, 0, none⟩ = some (.int .i64 k) := Bk_2.cell 0
        have cd0 : W2.cell? ⟨bd, 0, none⟩ = some (.int .i64 V) := Bd_2.cell 0
        have cd1 : W2.cell? ⟨bd, 1, none⟩ = some (.slice A1 n1 c1) := Bd_2.cell 1
        have cd2 : W2.cell? ⟨bd, 2, none⟩ = some (.int .i64 r1) := Bd_2.cell 2
        have cx0 : W2.cell? ⟨w2.heap.size, 0, none⟩ = some (.int .i64 V) := Bx_2.cell 0
        have cx1 : W2.cell? ⟨w2.heap.size, 1, none⟩ = some (.slice A2 n2 c2) := Bx_2.cell 1
        have cx2 : W2.cell? ⟨w2.heap.size, 2, none⟩ = some (.int .i64 r2) := Bx_2.cell 2
        have cy0 : W2.cell? ⟨w3.heap.size, 0, none⟩ = some (.int .i64 V) := By_2.cell 0
        have cy1 : W2.cell? ⟨w3.heap.size, 1, none⟩ = some (.slice A3 n3 c3) := By_2.cell 1
        have cy2 : W2.cell? ⟨w3.heap.size, 2, none⟩ = some (.int .i64 r3) := By_2.cell 2
        go_upto_region 17 with (go_at_call 31
                                (with_reducible refine (HA.out).mono ?_)
                                rintro e w4 ⟨A4, n4, c4, r4, rfl, D4, K4⟩
                                have Bkn := Bk_2.keep K4 fun h => h
                                have Lkn := Bkn.lt
                                have ek0 : w4.cell? ⟨w.heap.size, 0, none⟩ = some (.int .i64 k) := Bkn.cell 0
                                have Bdn := Bd_2.keep K4 fun h => h
                                have Ldn := Bdn.lt
                                have Bresn := Bres_2.keep K4 fun h => h
                                have Lresn := Bresn.lt
                                have Bxn := Bx_2.keep K4 fun h => h
                                have Lxn := Bxn.lt
                                have Byn := By_2.keep K4 fun h => h
                                have Lyn := Byn.lt
                                have y0 : w4.cell? ⟨w2.heap.size, 0, none⟩ = some (.int .i64 V) := Bxn.cell 0
                                have y1 : w4.cell? ⟨w2.heap.size, 1, none⟩ = some (.slice A2 n2 c2) := Bxn.cell 1
                                have y2 : w4.cell? ⟨w2.heap.size, 2, none⟩ = some (.int .i64 r2) := Bxn.cell 2
                                have yf0 := Bxn.frozen 0
                                have yf1 := Bxn.frozen 1
                                have yf2 := Bxn.frozen 2)
        clear ck0 cd0 cd1 cd2 cx0 cx1 cx2 cy0 cy1 cy2
        obtain ⟨Bx_3, Qx_3, S3⟩ := set3_box Bxn sl_nint D4
        have Bk_3 := Bkn.keep S3 fun h => by omega
        have Bd_3 := Bdn.keep S3 fun h => by omega
        have Qd_3 := (Qd_2.keep K4).far_box Bxn sl_nint S3
        have Bres_3 := Bresn.keep S3 fun h => by omega
        have By_3 := Byn.keep S3 fun h => by omega
        have Qy_3 := (Qy_2.keep K4).far_box Bxn sl_nint S3
        have Kw_3 : Keep NoF w (((w4.setCell ⟨w2.heap.size, 0, none⟩ (.int .i64 V)).setCell ⟨w2.heap.size, 1, none⟩ (.slice A4 n4 c4)).setCell ⟨w2.heap.size, 2, none⟩ (.int .i64 r4)) := (Kw_2.trans K4 fun _ _ h => h).trans S3 fun i hi h => by omega
        generalize (((w4.setCell ⟨w2.heap.size, 0, none⟩ (.int .i64 V)).setCell ⟨w2.heap.size, 1, none⟩ (.slice A4 n4 c4)).setCell ⟨w2.heap.size, 2, none⟩ (.int .i64 r4)) = W3 at *
        clear Bk_2 Bd_2 Bres_2 Bx_2 By_2 Qd_2 Qx_2 Qy_2 Bkn Bdn Bresn Bxn Byn Kw_2 D4 K4 S3 y0 y1 y2 yf0 yf1 yf2
        have HO := Lib.hid (x_or hV12 Qd_3 Qx_3)
        have ck0 : W3.cell? ⟨w.heap.size, 0, none⟩ = some (.int .i64 k) := Bk_3.cell 0
        have cd0 : W3.cell? ⟨bd, 0, none⟩ = some (.int .i64 V) := Bd_3.cell 0
        have cd1 : W3.cell? ⟨bd, 1, none⟩ = some (.slice A1 n1 c1) := Bd_3.cell 1
        have cd2 : W3.cell? ⟨bd, 2, none⟩ = some (.int .i64 r1) := Bd_3.cell 2
        have cx0 : W3.cell? ⟨w2.heap.size, 0, none⟩ = some (.int .i64 V) := Bx_3.cell 0
        have cx1 : W3.cell? ⟨w2.heap.size, 1, none⟩ = some (.slice A4 n4 c4) := Bx_3.cell 1
        have cx2 : W3.cell? ⟨w2.heap.size, 2, none⟩ = some (.int .i64 r4) := Bx_3.cell 2
        have cy0 : W3.cell? ⟨w3.heap.size, 0, none⟩ = some (.int .i64 V) := By_3.cell 0
        have cy1 : W3.cell? ⟨w3.heap.size, 1, none⟩ = some (.slice A3 n3 c3) := By_3.cell 1
        have cy2 : W3.cell? ⟨w3.heap.size, 2, none⟩ = some (.int .i64 r3) := By_3.cell 2
        go_wp2_with (go_at_call 32
                     (with_reducible refine (HO.out).mono ?_)
                     rintro e w5 ⟨A5, n5, c5, r5, rfl, D5, K5⟩
                     have Bkn := Bk_3.keep K5 fun h => h
                     have Lkn := Bkn.lt
                     have ek0 : w5.cell? ⟨w.heap.size, 0, none⟩ = some (.int .i64 k) := Bkn.cell 0
                     have Bdn := Bd_3.keep K5 fun h => h
                     have Ldn := Bdn.lt
                     have Bresn := Bres_3.keep K5 fun h => h
                     have Lresn := Bresn.lt
                     have Bxn := Bx_3.keep K5 fun h => h
                     have Lxn := Bxn.lt
                     have Byn := By_3.keep K5 fun h => h
                     have Lyn := Byn.lt
                     have y0 : w5.cell? ⟨bd, 0, none⟩ = some (.int .i64 V) := Bdn.cell 0
                     have y1 : w5.cell? ⟨bd, 1, none⟩ = some (.slice A1 n1 c1) := Bdn.cell 1
                     have y2 : w5.cell? ⟨bd, 2, none⟩ = some (.int .i64 r1) := Bdn.cell 2
                     have yf0 := Bdn.frozen 0
                     have yf1 := Bdn.frozen 1
                     have yf2 := Bdn.frozen 2)
        clear ck0 cd0 cd1 cd2 cx0 cx1 cx2 cy0 cy1 cy2
        go_roundw
        case rel =>
          obtain ⟨s1, s2, S3⟩ := set3_box Bdn sl_nint D5
          exact ⟨j + 1, A5, n5, c5, r5, rfl, by go_num, by omega, s1, s2.congr fun ρ => (HSJ.out ρ).symm, Bresn.keep S3 fun h => by omega, Bkn.keep S3 fun h => by omega, (Kw_3.trans K5 fun _ _ h => h).trans S3 fun i hi h => by omega⟩
        case measure => simp only [intOf]; omega
    · obtain rfl : j = l.length := by omega
      have d0 : wr.cell? ⟨bd, 0, none⟩ = some (.int .i64 V) := Bd.cell 0
      have d1 : wr.cell? ⟨bd, 1, none⟩ = some (.slice A1 n1 c1) := Bd.cell 1
      have d2 : wr.cell? ⟨bd, 2, none⟩ = some (.int .i64 r1) := Bd.cell 2
      have z0 : wr.cell? ⟨w.heap.size + 1, 0, none⟩ = some (.int .i64 0) := Bres.cell 0
      have z1 : wr.cell? ⟨w.heap.size + 1, 1, none⟩ = some (.slice none 0 0) := Bres.cell 1
      have z2 : wr.cell? ⟨w.heap.size + 1, 2, none⟩ = some (.int .i64 0) := Bres.cell 2
      have zf0 := Bres.frozen 0
      have zf1 := Bres.frozen 1
      have zf2 := Bres.frozen 2
      have hlt2 := Bd.lt
      have hlt3 := Bres.lt
      go_wp2
      obtain ⟨s1, s2, s3⟩ := set3_box Bres sl_nint Qd
      have hKf : Keep NoF w (((wr.setCell ⟨w.heap.size + 1, 0, none⟩ (.int .i64 V)).setCell ⟨w.heap.size + 1, 1, none⟩ (.slice A1 n1 c1)).setCell ⟨w.heap.size + 1, 2, none⟩ (.int .i64 r1)) := Kw.trans s3 fun i hi h => by omega
      generalize (((wr.setCell ⟨w.heap.size + 1, 0, none⟩ (.int .i64 V)).setCell ⟨w.heap.size + 1, 1, none⟩ (.slice A1 n1 c1)).setCell ⟨w.heap.size + 1, 2, none⟩ (.int .i64 r1)) = W6 at *
      have h0 : W6.cell? ⟨w.heap.size + 1, 0, none⟩ = some (.int .i64 V) := s1.cell 0
      have h1 : W6.cell? ⟨w.heap.size + 1, 1, none⟩ = some (.slice A1 n1 c1) := s1.cell 1
      have h2 : W6.cell? ⟨w.heap.size + 1, 2, none⟩ = some (.int .i64 r1) := s1.cell 2
      refine bodyPost_ret (v := .tuple #[.agg #[.int .i64 V, .slice A1 n1 c1, .int .i64 r1], .int .i64 0]) (by simp [results, Tryd.results23, go_sem, h0, h1, h2]) rfl ?_
      exact ⟨A1, n1, c1, r1, rfl, s2.congr HE.out, hKf⟩
end
end Go.Proofs.YtgdmcidcappkpaaDoor
