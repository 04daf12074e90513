/- The reference of the text of a model: Format where it writes. No condition. -/
import Derived.Test.YtmnhgeggojgflaaGreatDoorMtZb
set_option linter.unusedVariables false
set_option linter.unusedSimpArgs false
namespace Go.Proofs.YtmnhgeggojgflaaGreatDoor
open Go.RowKit Go.Shelf
open Mt
open Ev (Md Okm modelE)
attribute [local go_sem] Oper.semAt_some
theorem zsz (l : List UInt8) : (txt l).size = l.length := by simp [txt, ByteArray.size]
theorem zcat (a b : List UInt8) : txt a ++ txt b = txt (a ++ b) := by
  apply ByteArray.ext
  simp [txt, ByteArray.data_append]
/-- Five pieces put behind a text. -/
theorem five (T a b c d e : List UInt8) : ∃ A1 A2 A3 A4 A5, txt T ++ txt a = txt A1 ∧ txt A1 ++ txt b = txt A2 ∧ txt A2 ++ txt c = txt A3 ∧ txt A3 ++ txt d = txt A4 ∧ txt A4 ++ txt e = txt A5 ∧ A5 = T ++ (a ++ b ++ c ++ d ++ e) ∧ A1.length + b.length = A2.length ∧ A2.length + c.length = A3.length ∧ A3.length + d.length = A4.length ∧ A4.length + e.length = A5.length ∧ T.length + a.length = A1.length :=
  ⟨_, _, _, _, _, zcat _ _, zcat _ _, zcat _ _, zcat _ _, zcat _ _, by simp, by simp [Nat.add_assoc], by simp [Nat.add_assoc], by simp [Nat.add_assoc], by simp [Nat.add_assoc], by simp⟩
theorem seven (T a b c d e g h : List UInt8) : ∃ A1 A2 A3 A4 A5 A6 A7, txt T ++ txt a = txt A1 ∧ txt A1 ++ txt b = txt A2 ∧ txt A2 ++ txt c = txt A3 ∧ txt A3 ++ txt d = txt A4 ∧ txt A4 ++ txt e = txt A5 ∧ txt A5 ++ txt g = txt A6 ∧ txt A6 ++ txt h = txt A7 ∧ A7 = T ++ (a ++ b ++ c ++ d ++ e ++ g ++ h) ∧ (T.length + a.length = A1.length ∧ A1.length + b.length = A2.length ∧ A2.length + c.length = A3.length ∧ A3.length + d.length = A4.length ∧ A4.length + e.length = A5.length ∧ A5.length + g.length = A6.length ∧ A6.length + h.length = A7.length) :=
  ⟨_, _, _, _, _, _, _, zcat _ _, zcat _ _, zcat _ _, zcat _ _, zcat _ _, zcat _ _, zcat _ _, by simp, by simp, by simp [Nat.add_assoc], by simp [Nat.add_assoc], by simp [Nat.add_assoc], by simp [Nat.add_assoc], by simp [Nat.add_assoc], by simp [Nat.add_assoc]⟩
theorem lA_text (S : Sg) (M : Md) (i j : Nat) : jn (lA S M (i, j)) ++ [10] = [97, 103, 101, 110, 116, 32] ++ nm (S.A.getD i default) ++ [32] ++ dec j ++ [32] ++ Ws.fmtS ((M.R.getD i []).getD j 0) ++ [10] := by
  simp [lA, jn, wAgent]
theorem lF_text (S : Sg) (M : Md) (i : Nat) : jn (lF S M i) ++ [10] = [102, 97, 99, 116, 32] ++ nm (S.F.getD i default) ++ [32] ++ Ws.fmtS (M.V.getD i 0) ++ [10] := by
  simp [lF, jn, wFact]
section
set_option maxRecDepth 100000
set_option maxHeartbeats 2000000
variable {M : Md} {va ra : Option Addr} {cv cr : Nat} {rs : List (Option Addr × Nat)}
theorem rmtFormat_ok (S : Sg) (a f c : Option Addr) (ca cf cc : Nat) (w : World) (hS : SigR w S a ca f cf c cc) (hM : MdR w M va cv ra cr rs) (h : checkS S = 0) (h2 : modelE M = 0) (h3 : S.A.length = M.R.length) (h4 : S.F.length = M.V.length) :
    Calls Tryz.prog 12 #[.agg #[.slice a S.A.length ca, .slice f S.F.length cf, .slice c S.C.length cc], .agg #[.int .i64 M.W, .slice va M.V.length cv, .slice ra M.R.length cr]] w fun e w' => e = .returned (.tuple #[.string (txt (textM S M)), .int .i64 0]) ∧ Keep NoF w w' := by
  have HP0 := Lib.hid (FB.new w S a ca f cf c cc M va cv ra cr)
  have HC := Lib.hid fun W (hk : Keep NoF w W) => rCheck_any S a f c ca cf cc W (hS.keep hk)
  have HM := Lib.hid fun W (hk : Keep NoF w W) => rmoCheck_any W (hM.keep hk)
  rw [h] at HC
  rw [h2] at HM
  have hok : Okm M := (Ev.model_zero hM.u).1 h2
  have HSg := Lib.hid hS
  have HMd := Lib.hid hM
  have hA' : ((M.R.length : Int) != (S.A.length : Int)) = false := by simp; omega
  have hF' : ((M.V.length : Int) != (S.F.length : Int)) = false := by simp; omega
  have HLen := Lib.hid (And.intro h3 h4)
  have HTx := Lib.hid (text_len h hok h4.symm h3.symm)
  obtain ⟨n1, n2, n3⟩ := hok.n1
  have HN := Lib.hid n3
  have HOk := Lib.hid hok
  obtain ⟨D, hD⟩ : ∃ D, dec M.n = D := ⟨_, rfl⟩
  have HI : Hid (∀ w, Calls Tryz.prog 25 #[.int .i64 M.W] w fun e w' => e = .returned (.string (txt D)) ∧ w' = w) := Lib.hid fun w => by rw [← n3, ← hD]; exact Tryz.strconv_Itoa_small M.n (by omega) w
  have hDl : D.length ≤ 2 := by rw [← hD]; exact dec_len' (by omega)
  obtain ⟨U1, hU1⟩ : ∃ U, ([119, 111, 114, 108, 100, 115, 32] : List UInt8) ++ D = U := ⟨_, rfl⟩
  have hUl : U1.length ≤ 9 := by rw [← hU1, List.length_append]; simp only [List.length_cons, List.length_nil]; omega
  have r1 : ⟨#[119, 111, 114, 108, 100, 115, 32]⟩ ++ txt D = txt U1 := by rw [← hU1]; exact zcat [119, 111, 114, 108, 100, 115, 32] D
  obtain ⟨U2, hU2⟩ : ∃ U, U1 ++ [10] = U := ⟨_, rfl⟩
  have r2 : txt U1 ++ ⟨#[10]⟩ = txt U2 := by rw [← hU2]; exact zcat U1 [10]
  have z1 : ¬ 9223372036854775807 < 7 + (txt D).size := by rw [zsz]; omega
  have z2 : ¬ 9223372036854775807 < (txt U1).size + 1 := by rw [zsz]; omega
  have HU2 := Lib.hid (show U2 = tx (preF S M 0) by rw [← hU2, ← hU1, ← hD]; simp [preF, tx, lW, jn, wWorlds])
  have hnn1 := Lib.hid n1
  have hnn2 := Lib.hid n2
  clear h hS hM h2 h3 h4 n1 n2 n3 hok hD hU1 hU2 hDl hUl
  go_enter Tryz.func12, Tryz.ntmps12
  go_upto_region 1 with (fail)
  generalize (w.alloc (.cells #[.slice a S.A.length ca, .slice f S.F.length cf, .slice c S.C.length cc] 24)).alloc (.cells #[.int .i64 M.W, .slice va M.V.length cv, .slice ra M.R.length cr] 28) = W0 at *
  have k0 := HP0.out.k
  have c0 : W0.cell? ⟨w.heap.size, 0, none⟩ = some (.slice a S.A.length ca) := HP0.out.s.cell 0
  have c1 : W0.cell? ⟨w.heap.size, 1, none⟩ = some (.slice f S.F.length cf) := HP0.out.s.cell 1
  have c2 : W0.cell? ⟨w.heap.size, 2, none⟩ = some (.slice c S.C.length cc) := HP0.out.s.cell 2
  go_upto_region 10 with (first
    | (go_at_call 28; (with_reducible refine (HC.out _ k0).mono ?_); rintro e w1 ⟨rfl, k1⟩
       have HP1 := Lib.hid (HP0.out.keep k1)
       have m0 : w1.cell? ⟨w.heap.size + 1, 0, none⟩ = some (.int .i64 M.W) := HP1.out.m.cell 0
       have m1 : w1.cell? ⟨w.heap.size + 1, 1, none⟩ = some (.slice va M.V.length cv) := HP1.out.m.cell 1
       have m2 : w1.cell? ⟨w.heap.size + 1, 2, none⟩ = some (.slice ra M.R.length cr) := HP1.out.m.cell 2)
    | (go_at_call 29; (with_reducible refine (HM.out _ HP1.out.k).mono ?_); rintro e w2 ⟨rfl, k2⟩
       have HP2 := Lib.hid (HP1.out.keep k2)
       have s0 : w2.cell? ⟨w.heap.size, 0, none⟩ = some (.slice a S.A.length ca) := HP2.out.s.cell 0
       have s1 : w2.cell? ⟨w.heap.size, 1, none⟩ = some (.slice f S.F.length cf) := HP2.out.s.cell 1
       have n0 : w2.cell? ⟨w.heap.size + 1, 0, none⟩ = some (.int .i64 M.W) := HP2.out.m.cell 0
       have n1 : w2.cell? ⟨w.heap.size + 1, 1, none⟩ = some (.slice va M.V.length cv) := HP2.out.m.cell 1
       have n2 : w2.cell? ⟨w.heap.size + 1, 2, none⟩ = some (.slice ra M.R.length cr) := HP2.out.m.cell 2)
    | (go_at_call 25; (with_reducible refine (HI.out _).mono ?_); rintro e w' ⟨rfl, hw'⟩; obtain rfl := hw'.symm))
  clear m0 m1 m2 s0 s1 n0 n1 n2 c0 c1 c2 r1 r2 z1 z2
  go_upto_region 11 with (fail)
  go_loopw [8, 9] (fun v8 v9 wr => ∃ i : Nat, v9 = .int .i64 i ∧ i ≤ M.V.length ∧ v8 = .string (txt (tx (preF S M i))) ∧ Keep NoF w2 wr) (fun _ v _ => M.V.length - (intOf v).toNat)
  case atStart => exact ⟨0, rfl, by omega, by rw [HU2.out], Keep.refl _ _⟩
  case round =>
    obtain ⟨i, rfl, hi, rfl, hkr⟩ := hrel
    have hbd := HMd.out.lv
    have HPr := Lib.hid (HP2.out.keep hkr)
    by_cases hlt : i < M.V.length
    · have hlt' : (i : Int) < (M.V.length : Int) := by omega
      have hi0 : (0 : Int) ≤ (i : Int) := by omega
      have hltF : i < S.F.length := by rw [HLen.out.2]; exact hlt
      have hltS : (i : Int) < (S.F.length : Int) := by omega
      have kr : Keep NoF w wr := HPr.out.k
      obtain ⟨-, hcf, bl, off, rfl, hc⟩ := (HSg.out.keep kr).F.str (List.getElem?_eq_getElem hltF)
      obtain ⟨-, hcv, bv, ov, rfl, hv⟩ := Rd.nat_lt (HMd.out.keep kr).V hlt
      have m1 : wr.cell? ⟨w.heap.size + 1, 1, none⟩ = some (.slice (some ⟨bv, ov, none⟩) M.V.length cv) := HPr.out.m.cell 1
      have s1 : wr.cell? ⟨w.heap.size, 1, none⟩ = some (.slice (some ⟨bl, off, none⟩) S.F.length cf) := HPr.out.s.cell 1
      have HF5 := Lib.hid fun W => Ws.rFormat_any (M.V.getD i 0) W (v64 HMd.out.u i)
      have K0 : Keep NoF wr wr.drew := (Keep.refl _ _).drew
      have hnx : S.F.getD i default = S.F[i] := by rw [List.getD_eq_getElem?_getD, List.getElem?_eq_getElem hltF]; rfl
      obtain ⟨A1, A2, A3, A4, A5, q1, q2, q3, q4, q5, q6, q7, q8, q9, q10, q11⟩ := five (tx (preF S M i)) [102, 97, 99, 116, 32] (nm S.F[i]) [32] (Ws.fmtS (M.V.getD i 0)) [10]
      have HA5 := Lib.hid (show tx (preF S M (i + 1)) = A5 by rw [preF_succ, tx_snoc, lF_text, q6, hnx])
      have hA5 : A5.length ≤ 100000 := by rw [← HA5.out]; exact Nat.le_trans (preF_le' S M (by omega)) HTx.out
      rw [show txt (nm S.F[i]) = S.F[i] from txt_data _] at q2
      have hx : (S.F[i]).size = (nm S.F[i]).length := by unfold nm; rw [Array.length_toList]; rfl
      have y1 : ¬ 9223372036854775807 < (txt (tx (preF S M i))).size + 5 := by rw [zsz]; simp only [List.length_cons, List.length_nil] at q11; omega
      have y2 : ¬ 9223372036854775807 < (txt A1).size + (S.F[i]).size := by rw [zsz, hx]; omega
      have y3 : ¬ 9223372036854775807 < (txt A2).size + 1 := by rw [zsz]; simp only [List.length_cons, List.length_nil] at q8; omega
      have y4 : ¬ 9223372036854775807 < (txt A3).size + (Ws.txt (Ws.fmtS (M.V.getD i 0))).size := by
        rw [zsz, show (Ws.txt (Ws.fmtS (M.V.getD i 0))).size = (Ws.fmtS (M.V.getD i 0)).length from zsz _]; omega
      have y5 : ¬ 9223372036854775807 < (txt A4).size + 1 := by rw [zsz]; simp only [List.length_cons, List.length_nil] at q10; omega
      have q4' : txt A3 ++ Ws.txt (Ws.fmtS (M.V.getD i 0)) = txt A4 := q4
      have q1' : txt (tx (preF S M i)) ++ ⟨#[102, 97, 99, 116, 32]⟩ = txt A1 := q1
      have q3' : txt A2 ++ ⟨#[32]⟩ = txt A3 := q3
      have q5' : txt A4 ++ ⟨#[10]⟩ = txt A5 := q5
      clear q1 q3 q4 q5 q6 q7 q8 q9 q10 q11 hx hA5 hnx
      generalize S.F[i] = name at *
      generalize Ws.fmtS (M.V.getD i 0) = fm at *
      generalize hV : M.V.getD i 0 = vi at *
      clear hV
      generalize tx (preF S M i) = T at *
      go_upto_region 13 with (fail)
      go_region_held3 (fun w' => w'.cell? ⟨w.heap.size + 1, 1, none⟩ = some (.slice (some ⟨bv, ov, none⟩) M.V.length cv) ∧ w'.cell? ⟨w.heap.size, 1, none⟩ = some (.slice (some ⟨bl, off, none⟩) S.F.length cf) ∧ w'.cell? ⟨bl, off + i, none⟩ = some (.string name) ∧ w'.cell? ⟨bv, ov + i, none⟩ = some (.int .u64 (vi : Int))) (go_keep)
        ((go_at_call 30; (with_reducible refine (HF5.out _).mono ?_); rintro e w5 ⟨rfl, hk5⟩
          have K5 := hk5.undrew
          have d0 : w5.cell? ⟨w.heap.size + 1, 1, none⟩ = some (.slice (some ⟨bv, ov, none⟩) M.V.length cv) := K5.cellv m1 fun h => h
          have d1 : w5.cell? ⟨w.heap.size, 1, none⟩ = some (.slice (some ⟨bl, off, none⟩) S.F.length cf) := K5.cellv s1 fun h => h
          have d2 : w5.cell? ⟨bl, off + i, none⟩ = some (.string name) := K5.cellv hc fun h => h
          have d3 : w5.cell? ⟨bv, ov + i, none⟩ = some (.int .u64 (vi : Int)) := K5.cellv hv fun h => h))
      go_wp2
      go_roundw
      case rel => exact ⟨i + 1, by go_num, by omega, by rw [HA5.out], hkr.trans K5 fun _ _ h => h⟩
      case measure => simp only [intOf]; omega
    · obtain rfl : i = M.V.length := by omega
      have hlt' : ¬ (M.V.length : Int) < (M.V.length : Int) := by omega
      have m1 : wr.cell? ⟨w.heap.size + 1, 1, none⟩ = some (.slice va M.V.length cv) := HPr.out.m.cell 1
      have HK7 := Lib.hid hkr
      have HT7 : Hid (tx (preF S M M.V.length) = tx (preA S M 0 0)) := Lib.hid (by rw [preA_zero])
      generalize tx (preF S M M.V.length) = T7 at *
      clear hi hkr
      go_upto_region 15 with (fail)
      clear m1
      go_loopw [8, 10] (fun v8 v10 wr => ∃ i : Nat, v10 = .int .i64 i ∧ i ≤ M.R.length ∧ v8 = .string (txt (tx (preA S M i 0))) ∧ Keep NoF w2 wr) (fun _ v _ => M.R.length - (intOf v).toNat)
      case atStart => exact ⟨0, rfl, by omega, by rw [HT7.out], HK7.out⟩
      case round =>
        obtain ⟨i, rfl, hi, rfl, hkr⟩ := hrel
        have hbr := HMd.out.lr
        have HPr := Lib.hid (HP2.out.keep hkr)
        have m2 : wr.cell? ⟨w.heap.size + 1, 2, none⟩ = some (.slice ra M.R.length cr) := HPr.out.m.cell 2
        by_cases hlt : i < M.R.length
        · have hlt' : (i : Int) < (M.R.length : Int) := by omega
          have hi0 : (0 : Int) ≤ (i : Int) := by omega
          have hltA : i < S.A.length := by rw [HLen.out.1]; exact hlt
          have hltS : (i : Int) < (S.A.length : Int) := by omega
          obtain ⟨bl, off, hae, hca, hc⟩ : ∃ bl off, a = some ⟨bl, off, none⟩ ∧ S.A.length ≤ ca ∧ w.cell? ⟨bl, off + i, none⟩ = some (.string S.A[i]) := by
            obtain ⟨-, h1, bl, off, h2, h3⟩ := HSg.out.A.str (List.getElem?_eq_getElem hltA)
            exact ⟨bl, off, h2, h1, h3⟩
          subst hae
          obtain ⟨bv, ov, rA, rc, rfl, hcr, hv0, hrd, -⟩ := HMd.out.at_ hlt
          have HRow := Lib.hid (row_n HOk.out hlt)
          rw [HRow.out] at hv0
          have HRD : Hid (∀ (j : Nat) (W : World), j < M.n → Keep NoF w W → M.n ≤ rc ∧ ∃ b' o', rA = some ⟨b', o', none⟩ ∧ W.cell? ⟨b', o' + j, none⟩ = some (.int .u64 ((M.R.getD i []).getD j 0 : Nat))) := Lib.hid fun j W hj hk => by
            obtain ⟨h1, h2, h3⟩ := Rd.nat_lt (hrd.kept hk fun _ _ h => h) (show j < (M.R.getD i []).length by rw [HRow.out]; exact hj)
            exact ⟨by rw [← HRow.out]; exact h2, h3⟩
          have hnx : S.A.getD i default = S.A[i] := by rw [List.getD_eq_getElem?_getD, List.getElem?_eq_getElem hltA]; rfl
          have HNM := Lib.hid hnx
          have HC0 := Lib.hid (And.intro hc hv0)
          clear hrd hnx hc hv0
          go_upto_region 18 with (fail)
          generalize wr = w8 at *
          clear m2
          go_loopw [8, 11] (fun v8 v11 wr => ∃ j : Nat, v11 = .int .i64 j ∧ j ≤ M.n ∧ v8 = .string (txt (tx (preA S M i j))) ∧ Keep NoF w2 wr) (fun _ v _ => M.n - (intOf v).toNat)
          case atStart => exact ⟨0, rfl, by omega, rfl, hkr⟩
          case round =>
            obtain ⟨j, rfl, hj, rfl, hkq⟩ := hrel
            have hbn := hnn2.out
            have HPq := Lib.hid (HP2.out.keep hkq)
            have n0 : wr.cell? ⟨w.heap.size + 1, 0, none⟩ = some (.int .i64 M.W) := HPq.out.m.cell 0
            by_cases hlj : j < M.n
            · have hljW : (j : Int) < M.W := by have := HN.out; omega
              have hj0 : (0 : Int) ≤ (j : Int) := by omega
              have hljn : (j : Int) < (M.n : Int) := by omega
              have kq : Keep NoF w wr := HPq.out.k
              obtain ⟨hrc, b', o', rfl, hcell⟩ := HRD.out j wr hlj kq
              have hc : wr.cell? ⟨bl, off + i, none⟩ = some (.string S.A[i]) := kq.cellv HC0.out.1 fun h => h
              have hv : wr.cell? ⟨bv, ov + i, none⟩ = some (.slice (some ⟨b', o', none⟩) M.n rc) := kq.cellv HC0.out.2 fun h => h
              have n2 : wr.cell? ⟨w.heap.size + 1, 2, none⟩ = some (.slice (some ⟨bv, ov, none⟩) M.R.length cr) := HPq.out.m.cell 2
              have s0 : wr.cell? ⟨w.heap.size, 0, none⟩ = some (.slice (some ⟨bl, off, none⟩) S.A.length ca) := HPq.out.s.cell 0
              have HIj := Lib.hid fun w => Tryz.strconv_Itoa_small j (by omega) w
              have HF5 := Lib.hid fun W => Ws.rFormat_any ((M.R.getD i []).getD j 0) W (r64 HMd.out.u i j)
              have K0 : Keep NoF wr wr.drew := (Keep.refl _ _).drew
              obtain ⟨A1, A2, A3, A4, A5, A6, A7, q1, q2, q3, q4, q5, q6, q7, q8, g1, g2, g3, g4, g5, g6, g7⟩ := seven (tx (preA S M i j)) [97, 103, 101, 110, 116, 32] (nm S.A[i]) [32] (dec j) [32] (Ws.fmtS ((M.R.getD i []).getD j 0)) [10]
              have HA7 := Lib.hid (show tx (preA S M i (j + 1)) = A7 by rw [preA_succ, tx_snoc, lA_text, q8, HNM.out])
              have hA7 : A7.length ≤ 100000 := by rw [← HA7.out]; exact Nat.le_trans (preA_le S M hlt (j := j + 1) (by omega)) HTx.out
              rw [show txt (nm S.A[i]) = S.A[i] from txt_data _] at q2
              have hx : (S.A[i]).size = (nm S.A[i]).length := by unfold nm; rw [Array.length_toList]; rfl
              simp only [List.length_cons, List.length_nil] at g1 g3 g5 g7
              have y1 : ¬ 9223372036854775807 < (txt (tx (preA S M i j))).size + 6 := by rw [zsz]; omega
              have y2 : ¬ 9223372036854775807 < (txt A1).size + (S.A[i]).size := by rw [zsz, hx]; omega
              have y3 : ¬ 9223372036854775807 < (txt A2).size + 1 := by rw [zsz]; omega
              have y4 : ¬ 9223372036854775807 < (txt A3).size + (txt (dec j)).size := by rw [zsz, zsz]; omega
              have y5 : ¬ 9223372036854775807 < (txt A4).size + 1 := by rw [zsz]; omega
              have y6 : ¬ 9223372036854775807 < (txt A5).size + (Ws.txt (Ws.fmtS ((M.R.getD i []).getD j 0))).size := by
                rw [zsz, show (Ws.txt (Ws.fmtS ((M.R.getD i []).getD j 0))).size = (Ws.fmtS ((M.R.getD i []).getD j 0)).length from zsz _]; omega
              have y7 : ¬ 9223372036854775807 < (txt A6).size + 1 := by rw [zsz]; omega
              have q1' : txt (tx (preA S M i j)) ++ ⟨#[97, 103, 101, 110, 116, 32]⟩ = txt A1 := q1
              have q3' : txt A2 ++ ⟨#[32]⟩ = txt A3 := q3
              have q5' : txt A4 ++ ⟨#[32]⟩ = txt A5 := q5
              have q6' : txt A5 ++ Ws.txt (Ws.fmtS ((M.R.getD i []).getD j 0)) = txt A6 := q6
              have q7' : txt A6 ++ ⟨#[10]⟩ = txt A7 := q7
              have HIj' : Hid (∀ w, Calls Tryz.prog 25 #[.int .i64 j] w fun e w' => e = .returned (.string (txt (dec j))) ∧ w' = w) := HIj
              clear q1 q3 q5 q6 q7 q8 g1 g2 g3 g4 g5 g6 g7 hx hA7 HIj
              generalize S.A[i] = name at *
              generalize dec j = dj at *
              generalize Ws.fmtS ((M.R.getD i []).getD j 0) = fm at *
              generalize hV : (M.R.getD i []).getD j 0 = vi at *
              clear hV
              generalize tx (preA S M i j) = T at *
              go_upto_region 20 with (fail)
              go_region_held3 (fun w' => w'.cell? ⟨w.heap.size, 0, none⟩ = some (.slice (some ⟨bl, off, none⟩) S.A.length ca) ∧ w'.cell? ⟨w.heap.size + 1, 2, none⟩ = some (.slice (some ⟨bv, ov, none⟩) M.R.length cr) ∧ w'.cell? ⟨bl, off + i, none⟩ = some (.string name) ∧ w'.cell? ⟨bv, ov + i, none⟩ = some (.slice (some ⟨b', o', none⟩) M.n rc) ∧ w'.cell? ⟨b', o' + j, none⟩ = some (.int .u64 (vi : Int))) (go_keep)
                (first
                  | (go_at_call 25; (with_reducible refine (HIj'.out _).mono ?_); rintro e w' ⟨rfl, hw'⟩; obtain rfl := hw'.symm)
                  | (go_at_call 30; (with_reducible refine (HF5.out _).mono ?_); rintro e w5 ⟨rfl, hk5⟩
                     have K5 := hk5.undrew
                     have d0 : w5.cell? ⟨w.heap.size, 0, none⟩ = some (.slice (some ⟨bl, off, none⟩) S.A.length ca) := K5.cellv s0 fun h => h
                     have d1 : w5.cell? ⟨w.heap.size + 1, 2, none⟩ = some (.slice (some ⟨bv, ov, none⟩) M.R.length cr) := K5.cellv n2 fun h => h
                     have d2 : w5.cell? ⟨bl, off + i, none⟩ = some (.string name) := K5.cellv hc fun h => h
                     have d3 : w5.cell? ⟨bv, ov + i, none⟩ = some (.slice (some ⟨b', o', none⟩) M.n rc) := K5.cellv hv fun h => h
                     have d4 : w5.cell? ⟨b', o' + j, none⟩ = some (.int .u64 (vi : Int)) := K5.cellv hcell fun h => h))
              go_wp2
              go_roundw
              case rel => exact ⟨j + 1, by go_num, by omega, by rw [HA7.out], hkq.trans K5 fun _ _ h => h⟩
              case measure => simp only [intOf]; omega
            · obtain rfl : j = M.n := by omega
              have hlj' : ¬ ((M.n : Nat) : Int) < M.W := by have := HN.out; omega
              have HRW := Lib.hid (preA_row S M i)
              go_wp2
              go_roundw
              case rel => exact ⟨i + 1, by go_num, by omega, by rw [← HRW.out], hkq⟩
              case measure => simp only [intOf]; omega
        · obtain rfl : i = M.R.length := by omega
          have hlt' : ¬ (M.R.length : Int) < (M.R.length : Int) := by omega
          go_wp2
          go_ret2
          exact ⟨by rw [preA_all]; rfl, HPr.out.k⟩
end
end Go.Proofs.YtmnhgeggojgflaaGreatDoor
