/- The examples of the chapter: what awake answers. No condition. -/
import Derived.Test.YtgdmcidcappkpaaDoorSyQ
import Derived.Test.YtgdmcidcappkpaaDoorSyK
set_option linter.unusedVariables false
set_option linter.unusedSimpArgs false
namespace Go.Proofs.YtgdmcidcappkpaaDoor
open Go.RowKit
open Dd (Rn rat ofN toN checkErr den lo var Within Valid supp canon setF relF memN swF imF prF boF imN prN boN cvN pairsN upF)

theorem DP.up {w w0 : World} {V : Nat} {f : BF} {e : Ending} {w' : World} (h : DP w0 V f e w') (hk : Keep NoF w w0) : DP w V f e w' := by
  obtain ⟨A, n, c, r, h1, h2, h3⟩ := h
  exact ⟨A, n, c, r, h1, h2, hk.trans h3 fun _ _ h => h⟩
def awR : List Nat := [2, 4, 4, 0]
theorem aw_num : cvN 2 awR = [0, 1, 6, 0] ∧ prN 2 awR 4 = 6 ∧ boN 2 awR 4 = 14 ∧ imN 2 awR 4 = 4 ∧
    reS 2 awR (iterN (reS 2 awR) 3 (imN 2 awR 1)) = iterN (reS 2 awR) 3 (imN 2 awR 1) ∧ iterN (reS 2 awR) 3 (imN 2 awR 1) = 6 ∧
    paS 2 awR 15 4 (iterN (paS 2 awR 15 4) 3 (alN 2)) = iterN (paS 2 awR 15 4) 3 (alN 2) ∧ iterN (paS 2 awR 15 4) 3 (alN 2) = 14 ∧
    paS 2 awR 4 4 (iterN (paS 2 awR 4 4) 3 (alN 2)) = iterN (paS 2 awR 4 4) 3 (alN 2) ∧ iterN (paS 2 awR 4 4) 3 (alN 2) = 15 := by decide +kernel
theorem aw_rel {V : Nat} (hV : V = 2 * 2) (w : World) : Calls Tryd.prog 23 #[.int .i64 2, .slice (some ⟨w.heap.size, 0, none⟩) 4 4] (w.alloc (.cells #[.int .u64 2, .int .u64 4, .int .u64 4, .int .u64 0] 31)) (DP w V (relF 2 awR)) := by
  have hrd := Rd.of_own (World.ownsRow_lit (base := 0) (e := 31) (size := 1) w (n64 awR).toArray 4 (by omega) (by simp [maxLen]) rfl)
  rw [hV]
  exact (Relation_any 2 (by omega) awR (by decide) (by decide) (by decide) (some ⟨w.heap.size, 0, none⟩) 4 _ hrd).mono fun e w' h => h.up ((Keep.refl _ _).alloc _)
theorem aw_set {V : Nat} (hV : V = 2 * 2) (S : Nat) (hS : S < 16) (w : World) : Calls Tryd.prog 6 #[.int .i64 2, .int .u64 S] w (DP w V (setF 2 S 0)) := by
  rw [hV]
  exact Set_any 2 S (by omega) (by omega) (by unfold beyondB; simp; omega) w
theorem aw_set1 {V : Nat} (hV : V = 2 * 1) (w : World) : Calls Tryd.prog 6 #[.int .i64 1, .int .u64 2] w (DP w V (setF 1 2 0)) := by
  rw [hV]
  exact Set_any 1 2 (by omega) (by omega) (by decide) w
section
variable {w : World} {V : Nat} {A B : Option Addr} {n c r n' c' r' : Nat}
theorem aw_conv (hV : V = 2 * 2) (D : IsD w V (relF 2 awR) A n c r) : Calls Tryd.prog 14 #[.agg #[.int .i64 V, .slice A n c, .int .i64 r]] w (DP w V (relF 2 [0, 1, 6, 0])) :=
  (Converse_ok (by omega) (by omega) A n c r w D).mono fun e w' h => h.congr fun ρ => by rw [hV, Dd.cv_law, aw_num.1]
theorem aw_pairs (hV : V = 2 * 2) (D : IsD w V (relF 2 [0, 1, 6, 0]) A n c r) : Calls Tryd.prog 15 #[.agg #[.int .i64 V, .slice A n c, .int .i64 r]] w fun e w' => ∃ AL cL, e = .returned (.tuple #[.slice AL 4 cL, .int .i64 0]) ∧ Rd w' (.slice AL 4 cL) 1 4 (n64 [0, 1, 6, 0]) ∧ Keep NoF w w' := by
  subst hV
  have h := Pairs_ok 2 (by omega) D
  rw [Dd.pairsN_rel (by decide) (by decide)] at h
  exact h
theorem aw_same {W : World} {AL : Option Addr} {cL : Nat} (h : Rd W (.slice AL 4 cL) 1 4 (n64 [0, 1, 6, 0])) : Calls Tryd.prog 16 #[.slice AL 4 cL, .slice (some ⟨W.heap.size, 0, none⟩) 4 4] (W.alloc (.cells #[.int .u64 0, .int .u64 1, .int .u64 6, .int .u64 0] 31)) fun e w' => e = .returned (.bool true) ∧ Keep NoF W w' := by
  have hrd := Rd.of_own (World.ownsRow_lit (base := 0) (e := 31) (size := 1) W (n64 [0, 1, 6, 0]).toArray 4 (by omega) (by simp [maxLen]) rfl)
  have hk : Keep NoF W (W.alloc (.cells #[.int .u64 0, .int .u64 1, .int .u64 6, .int .u64 0] 31)) := (Keep.refl _ _).alloc _
  exact (Same2_any [0, 1, 6, 0] AL (some ⟨W.heap.size, 0, none⟩) cL 4 _ (by decide) (h.kept hk fun _ _ h => h) hrd).mono fun e w' ⟨h1, h2⟩ => ⟨h1, hk.trans h2 fun _ _ h => h⟩
theorem aw_pre (hV : V = 2 * 2) (D : IsD w V (relF 2 awR) A n c r) (E : IsD w V (setF 2 4 0) B n' c' r') : Calls Tryd.prog 17 #[.agg #[.int .i64 V, .slice A n c, .int .i64 r], .agg #[.int .i64 V, .slice B n' c', .int .i64 r']] w (DP w V (setF 2 6 0)) :=
  (Pre_ok (by omega) (by omega) (setF_noOdd 2 4) _ _ _ _ _ _ _ _ w D E).mono fun e w' h => h.congr fun ρ => by rw [hV, Dd.pr_law, aw_num.2.1]
theorem aw_box (hV : V = 2 * 2) (D : IsD w V (relF 2 awR) A n c r) (E : IsD w V (setF 2 4 0) B n' c' r') : Calls Tryd.prog 18 #[.agg #[.int .i64 V, .slice A n c, .int .i64 r], .agg #[.int .i64 V, .slice B n' c', .int .i64 r']] w (DP w V (setF 2 14 0)) :=
  (Box_ok (by omega) (by omega) (setF_noOdd 2 4) _ _ _ _ _ _ _ _ w D E).mono fun e w' h => h.congr fun ρ => by rw [hV, Dd.bo_law, aw_num.2.2.1]
theorem aw_image (hV : V = 2 * 2) (D : IsD w V (relF 2 awR) A n c r) (E : IsD w V (setF 2 4 0) B n' c' r') : Calls Tryd.prog 19 #[.agg #[.int .i64 V, .slice A n c, .int .i64 r], .agg #[.int .i64 V, .slice B n' c', .int .i64 r']] w (DP w V (setF 2 4 0)) :=
  (Image_ok (by omega) (by omega) (setF_noOdd 2 4) _ _ _ _ _ _ _ _ w D E).mono fun e w' h => h.congr fun ρ => by rw [hV, Dd.im_law, aw_num.2.2.2.1]
theorem aw_reach (hV : V = 2 * 2) (D : IsD w V (relF 2 awR) A n c r) (E : IsD w V (setF 2 1 0) B n' c' r') : Calls Tryd.prog 20 #[.agg #[.int .i64 V, .slice A n c, .int .i64 r], .agg #[.int .i64 V, .slice B n' c', .int .i64 r']] w (DP w V (setF 2 6 0)) := by
  have h := Reach_ok 2 (by omega) awR 1 V 3 hV aw_num.2.2.2.2.1 _ _ _ _ _ _ _ _ w D E
  rw [aw_num.2.2.2.2.2.1] at h
  exact h
theorem aw_paths (hV : V = 2 * 2) (C T : Nat) (h : (C = 15 ∧ T = 14) ∨ (C = 4 ∧ T = 15)) {B2 : Option Addr} {n2 c2 r2 : Nat} (D : IsD w V (relF 2 awR) A n c r) (E : IsD w V (setF 2 C 0) B n' c' r') (F : IsD w V (setF 2 4 0) B2 n2 c2 r2) :
    Calls Tryd.prog 7 #[.agg #[.int .i64 V, .slice A n c, .int .i64 r], .agg #[.int .i64 V, .slice B n' c', .int .i64 r'], .agg #[.int .i64 V, .slice B2 n2 c2, .int .i64 r2]] w (DP w V (setF 2 T 0)) := by
  rcases h with ⟨rfl, rfl⟩ | ⟨rfl, rfl⟩
  · have h := Paths_ok 2 (by omega) awR 15 4 V 3 hV aw_num.2.2.2.2.2.2.1 _ _ _ _ _ _ _ _ _ _ _ _ w D E F
    rw [aw_num.2.2.2.2.2.2.2.1] at h
    exact h
  · have h := Paths_ok 2 (by omega) awR 4 4 V 3 hV aw_num.2.2.2.2.2.2.2.2.1 _ _ _ _ _ _ _ _ _ _ _ _ w D E F
    rw [aw_num.2.2.2.2.2.2.2.2.2] at h
    exact h
theorem aw_is (hV : V = 2 * 2) (S : Nat) (hS : S < 16) (D : IsD w V (setF 2 S 0) A n c r) : Calls Tryd.prog 21 #[.agg #[.int .i64 V, .slice A n c, .int .i64 r], .int .i64 0, .int .u64 S] w fun e w' => e = .returned (.bool true) ∧ Keep NoF w w' := by
  have h := is_ok 2 (by omega) S S (by omega) V hV A n c r w D
  rw [decide_eq_true rfl] at h
  exact h
theorem aw_prime (hV : V = 2 * 1) (D : IsD w V (setF 1 2 0) A n c r) : Calls Tryd.prog 41 #[.agg #[.int .i64 V, .slice A n c, .int .i64 r]] w (DP w V fun ρ => ρ 1) :=
  (Prime_ok (by omega) (by omega) (setF_noOdd 1 2) A n c r w D).mono fun e w' h => h.congr fun ρ => by
    rw [hV, Dd.upF_set]
    unfold setF Dd.cod Dd.enc Dd.enc
    cases h : ρ 1 <;> simp [h] <;> decide
/-- What depends on a next state is no set; an odd number of variables is none of a relation. -/
theorem aw_mem1 (hV : V = 2 * 1) (D : IsD w V (fun ρ => ρ 1) A n c r) : Calls Tryd.prog 8 #[.agg #[.int .i64 V, .slice A n c, .int .i64 r]] w fun e w' => e = .returned (.tuple #[.int .u64 0, .int .i64 1]) ∧ Keep NoF w w' := by
  obtain ⟨d, e1, e2, e3, e4, e5, M, hd, hv, hM⟩ := D.dg
  have hs : suppD d = supp M := by
    unfold suppD
    rw [if_pos e3, hd, Dd.toN_ofN]
  have hb : (supp M).testBit 1 = true := by
    cases hb : (supp M).testBit 1 with
    | true => rfl
    | false =>
      exfalso
      have hq : ∀ i, 2 ≤ i → i < M.length + 2 → Dd.var M i ≠ 1 := fun i h2 hi h1 => by
        have hm : (supp M).testBit (Dd.var M i) = true := by
          rw [Dd.supp_bit]
          refine ⟨M[i - 2], List.getElem_mem _, ?_⟩
          unfold Dd.var
          rw [if_neg (by omega), List.getD_eq_getElem?_getD, List.getElem?_eq_getElem (show i - 2 < M.length by omega)]
          rfl
        rw [h1, hb] at hm
        cases hm
      have h1 := Dd.valid_locQ hv (Q := fun x => x ≠ 1) hq (fun _ => false) (fun x => decide (x = 1)) fun x hx => by simp [hx]
      rw [hM, hM] at h1
      simp at h1
  have hse : setE d = 1 := by
    unfold setE
    rw [dg_relE e3 e4 (by omega), if_neg (by simp), hs, e4, Int.toNat_natCast, if_pos]
    intro h0
    have h1 : (supp M &&& Dd.odN V).testBit 1 = true := by rw [Nat.testBit_and, hb, Dd.odN_bit, hV]; rfl
    rw [h0] at h1
    simp at h1
  have h := Members_bad d w e2 (by rw [hse]; omega)
  rw [hse, e1] at h
  exact h
theorem aw_mem3 (hV : V = 3) (D : IsD w V (fun ρ => ρ 0) A n c r) : Calls Tryd.prog 8 #[.agg #[.int .i64 V, .slice A n c, .int .i64 r]] w fun e w' => e = .returned (.tuple #[.int .u64 0, .int .i64 3]) ∧ Keep NoF w w' := by
  obtain ⟨d, e1, e2, e3, e4, e5, M, hd, hv, hM⟩ := D.dg
  have hre : relE d = 3 := by
    unfold relE
    rw [if_neg (by simp [e3]), if_pos (by rw [e4, hV]; rfl)]
  have hse : setE d = 3 := by
    unfold setE
    rw [hre]
    rfl
  have h := Members_bad d w e2 (by rw [hse]; omega)
  rw [hse, e1] at h
  exact h
theorem aw_v (hV : V = 2 * 1) (w : World) : Calls Tryd.prog 40 #[.int .i64 2, .int .i64 1] w (DP w V fun ρ => ρ 1) := by
  subst hV
  exact x_var 2 1 (by omega) (by omega) w
theorem aw_u (hV : V = 3) (w : World) : Calls Tryd.prog 40 #[.int .i64 3, .int .i64 0] w (DP w V fun ρ => ρ 0) := by
  subst hV
  exact x_var 3 0 (by omega) (by omega) w
theorem aw_samed {f : BF} (D : IsD w V f A n c r) (E : IsD w V f B n' c' r') : Calls Tryd.prog 42 #[.agg #[.int .i64 V, .slice A n c, .int .i64 r], .agg #[.int .i64 V, .slice B n' c', .int .i64 r']] w fun e w' => e = .returned (.bool true) ∧ Keep NoF w w' :=
  d_same D E true ⟨fun _ _ => rfl, fun _ => rfl⟩
end
section
set_option maxRecDepth 100000
set_option maxHeartbeats 8000000
theorem awake_any (w : World) : Calls Tryd.prog 12 #[] w fun e w' => e = .returned (.bool true) ∧ Keep NoF w w' := by
  obtain ⟨V, hV⟩ : ∃ V, V = 2 * 2 := ⟨_, rfl⟩
  obtain ⟨V2, hV2⟩ : ∃ V, V = 2 * 1 := ⟨_, rfl⟩
  obtain ⟨V3, hV3⟩ : ∃ V, V = 3 := ⟨_, rfl⟩
  have HV := Lib.hid hV
  have HV2 := Lib.hid hV2
  have HV3 := Lib.hid hV3
  clear hV hV2 hV3
  have Kw : Keep NoF w w := Keep.refl _ _
  have HREL := Lib.hid (aw_rel HV.out w)
  go_enter Tryd.func12, Tryd.ntmps12
  go_upto_region 2 with (go_at_call 23
                         (with_reducible refine (HREL.out).mono ?_)
                         rintro e w1 ⟨A1, n1, c1, r1, rfl, D1, K1⟩)
  have Br_1 := Bk.new w1 26 #[.int .i64 V, .slice A1 n1 c1, .int .i64 r1]
  have Qr_1 := D1.keep ((Keep.refl NoF w1).alloc (.cells #[.int .i64 V, .slice A1 n1 c1, .int .i64 r1] 26))
  have Kw_1 : Keep NoF w (w1.alloc (.cells #[.int .i64 V, .slice A1 n1 c1, .int .i64 r1] 26)) := (Kw.trans K1 fun _ _ h => h).alloc _
  have Gr_1 : w.heap.size ≤ w1.heap.size := (Kw.trans K1 fun _ _ h => h).size
  generalize w1.alloc (.cells #[.int .i64 V, .slice A1 n1 c1, .int .i64 r1] 26) = W1 at *
  clear Kw D1 K1
  clear HREL
  have HS : Hid (Calls Tryd.prog 6 #[.int .i64 2, .int .u64 4] W1 (DP W1 V (setF 2 4 0))) := Lib.hid (aw_set HV.out 4 (by omega) W1)
  have cr0 : W1.cell? ⟨w1.heap.size, 0, none⟩ = some (.int .i64 V) := Br_1.cell 0
  have cr1 : W1.cell? ⟨w1.heap.size, 1, none⟩ = some (.slice A1 n1 c1) := Br_1.cell 1
  have cr2 : W1.cell? ⟨w1.heap.size, 2, none⟩ = some (.int .i64 r1) := Br_1.cell 2
  go_upto_region 3 with (go_at_call 6
                         (with_reducible refine (HS.out).mono ?_)
                         rintro e w2 ⟨A2, n2, c2, r2, rfl, D2, K2⟩
                         have Brn := Br_1.keep K2 fun h => h
                         have Lrn := Brn.lt)
  clear cr0 cr1 cr2
  have Br_2 := Brn.alloc (.cells #[.int .i64 V, .slice A2 n2 c2, .int .i64 r2] 26)
  have Qr_2 := (Qr_1.keep K2).keep ((Keep.refl NoF w2).alloc (.cells #[.int .i64 V, .slice A2 n2 c2, .int .i64 r2] 26))
  have Bs_2 := Bk.new w2 26 #[.int .i64 V, .slice A2 n2 c2, .int .i64 r2]
  have Qs_2 := D2.keep ((Keep.refl NoF w2).alloc (.cells #[.int .i64 V, .slice A2 n2 c2, .int .i64 r2] 26))
  have Kw_2 : Keep NoF w (w2.alloc (.cells #[.int .i64 V, .slice A2 n2 c2, .int .i64 r2] 26)) := (Kw_1.trans K2 fun _ _ h => h).alloc _
  have Gs_2 : w.heap.size ≤ w2.heap.size := (Kw_1.trans K2 fun _ _ h => h).size
  generalize w2.alloc (.cells #[.int .i64 V, .slice A2 n2 c2, .int .i64 r2] 26) = W2 at *
  clear Br_1 Qr_1 Brn Kw_1 D2 K2
  clear HS
  have HS : Hid (Calls Tryd.prog 6 #[.int .i64 2, .int .u64 1] W2 (DP W2 V (setF 2 1 0))) := Lib.hid (aw_set HV.out 1 (by omega) W2)
  have cr0 : W2.cell? ⟨w1.heap.size, 0, none⟩ = some (.int .i64 V) := Br_2.cell 0
  have cr1 : W2.cell? ⟨w1.heap.size, 1, none⟩ = some (.slice A1 n1 c1) := Br_2.cell 1
  have cr2 : W2.cell? ⟨w1.heap.size, 2, none⟩ = some (.int .i64 r1) := Br_2.cell 2
  have cs0 : W2.cell? ⟨w2.heap.size, 0, none⟩ = some (.int .i64 V) := Bs_2.cell 0
  have cs1 : W2.cell? ⟨w2.heap.size, 1, none⟩ = some (.slice A2 n2 c2) := Bs_2.cell 1
  have cs2 : W2.cell? ⟨w2.heap.size, 2, none⟩ = some (.int .i64 r2) := Bs_2.cell 2
  go_upto_region 4 with (go_at_call 6
                         (with_reducible refine (HS.out).mono ?_)
                         rintro e w3 ⟨A3, n3, c3, r3, rfl, D3, K3⟩
                         have Brn := Br_2.keep K3 fun h => h
                         have Lrn := Brn.lt
                         have Bsn := Bs_2.keep K3 fun h => h
                         have Lsn := Bsn.lt)
  clear cr0 cr1 cr2 cs0 cs1 cs2
  have Br_3 := Brn.alloc (.cells #[.int .i64 V, .slice A3 n3 c3, .int .i64 r3] 26)
  have Qr_3 := (Qr_2.keep K3).keep ((Keep.refl NoF w3).alloc (.cells #[.int .i64 V, .slice A3 n3 c3, .int .i64 r3] 26))
  have Bs_3 := Bsn.alloc (.cells #[.int .i64 V, .slice A3 n3 c3, .int .i64 r3] 26)
  have Qs_3 := (Qs_2.keep K3).keep ((Keep.refl NoF w3).alloc (.cells #[.int .i64 V, .slice A3 n3 c3, .int .i64 r3] 26))
  have Bone_3 := Bk.new w3 26 #[.int .i64 V, .slice A3 n3 c3, .int .i64 r3]
  have Qone_3 := D3.keep ((Keep.refl NoF w3).alloc (.cells #[.int .i64 V, .slice A3 n3 c3, .int .i64 r3] 26))
  have Kw_3 : Keep NoF w (w3.alloc (.cells #[.int .i64 V, .slice A3 n3 c3, .int .i64 r3] 26)) := (Kw_2.trans K3 fun _ _ h => h).alloc _
  have Gone_3 : w.heap.size ≤ w3.heap.size := (Kw_2.trans K3 fun _ _ h => h).size
  generalize w3.alloc (.cells #[.int .i64 V, .slice A3 n3 c3, .int .i64 r3] 26) = W3 at *
  clear Br_2 Bs_2 Qr_2 Qs_2 Brn Bsn Kw_2 D3 K3
  clear HS
  have HS : Hid (Calls Tryd.prog 6 #[.int .i64 2, .int .u64 15] W3 (DP W3 V (setF 2 15 0))) := Lib.hid (aw_set HV.out 15 (by omega) W3)
  have cr0 : W3.cell? ⟨w1.heap.size, 0, none⟩ = some (.int .i64 V) := Br_3.cell 0
  have cr1 : W3.cell? ⟨w1.heap.size, 1, none⟩ = some (.slice A1 n1 c1) := Br_3.cell 1
  have cr2 : W3.cell? ⟨w1.heap.size, 2, none⟩ = some (.int .i64 r1) := Br_3.cell 2
  have cs0 : W3.cell? ⟨w2.heap.size, 0, none⟩ = some (.int .i64 V) := Bs_3.cell 0
  have cs1 : W3.cell? ⟨w2.heap.size, 1, none⟩ = some (.slice A2 n2 c2) := Bs_3.cell 1
  have cs2 : W3.cell? ⟨w2.heap.size, 2, none⟩ = some (.int .i64 r2) := Bs_3.cell 2
  have cone0 : W3.cell? ⟨w3.heap.size, 0, none⟩ = some (.int .i64 V) := Bone_3.cell 0
  have cone1 : W3.cell? ⟨w3.heap.size, 1, none⟩ = some (.slice A3 n3 c3) := Bone_3.cell 1
  have cone2 : W3.cell? ⟨w3.heap.size, 2, none⟩ = some (.int .i64 r3) := Bone_3.cell 2
  go_upto_region 5 with (go_at_call 6
                         (with_reducible refine (HS.out).mono ?_)
                         rintro e w4 ⟨A4, n4, c4, r4, rfl, D4, K4⟩
                         have Brn := Br_3.keep K4 fun h => h
                         have Lrn := Brn.lt
                         have Bsn := Bs_3.keep K4 fun h => h
                         have Lsn := Bsn.lt
                         have Bonen := Bone_3.keep K4 fun h => h
                         have Lonen := Bonen.lt)
  clear cr0 cr1 cr2 cs0 cs1 cs2 cone0 cone1 cone2
  have Br_4 := Brn.alloc (.cells #[.int .i64 V, .slice A4 n4 c4, .int .i64 r4] 26)
  have Qr_4 := (Qr_3.keep K4).keep ((Keep.refl NoF w4).alloc (.cells #[.int .i64 V, .slice A4 n4 c4, .int .i64 r4] 26))
  have Bs_4 := Bsn.alloc (.cells #[.int .i64 V, .slice A4 n4 c4, .int .i64 r4] 26)
  have Qs_4 := (Qs_3.keep K4).keep ((Keep.refl NoF w4).alloc (.cells #[.int .i64 V, .slice A4 n4 c4, .int .i64 r4] 26))
  have Bone_4 := Bonen.alloc (.cells #[.int .i64 V, .slice A4 n4 c4, .int .i64 r4] 26)
  have Qone_4 := (Qone_3.keep K4).keep ((Keep.refl NoF w4).alloc (.cells #[.int .i64 V, .slice A4 n4 c4, .int .i64 r4] 26))
  have Ball_4 := Bk.new w4 26 #[.int .i64 V, .slice A4 n4 c4, .int .i64 r4]
  have Qall_4 := D4.keep ((Keep.refl NoF w4).alloc (.cells #[.int .i64 V, .slice A4 n4 c4, .int .i64 r4] 26))
  have Kw_4 : Keep NoF w (w4.alloc (.cells #[.int .i64 V, .slice A4 n4 c4, .int .i64 r4] 26)) := (Kw_3.trans K4 fun _ _ h => h).alloc _
  have Gall_4 : w.heap.size ≤ w4.heap.size := (Kw_3.trans K4 fun _ _ h => h).size
  generalize w4.alloc (.cells #[.int .i64 V, .slice A4 n4 c4, .int .i64 r4] 26) = W4 at *
  clear Br_3 Bs_3 Bone_3 Qr_3 Qs_3 Qone_3 Brn Bsn Bonen Kw_3 D4 K4
  clear HS
  have HS := Lib.hid (aw_conv HV.out Qr_4)
  have cr0 : W4.cell? ⟨w1.heap.size, 0, none⟩ = some (.int .i64 V) := Br_4.cell 0
  have cr1 : W4.cell? ⟨w1.heap.size, 1, none⟩ = some (.slice A1 n1 c1) := Br_4.cell 1
  have cr2 : W4.cell? ⟨w1.heap.size, 2, none⟩ = some (.int .i64 r1) := Br_4.cell 2
  have cs0 : W4.cell? ⟨w2.heap.size, 0, none⟩ = some (.int .i64 V) := Bs_4.cell 0
  have cs1 : W4.cell? ⟨w2.heap.size, 1, none⟩ = some (.slice A2 n2 c2) := Bs_4.cell 1
  have cs2 : W4.cell? ⟨w2.heap.size, 2, none⟩ = some (.int .i64 r2) := Bs_4.cell 2
  have cone0 : W4.cell? ⟨w3.heap.size, 0, none⟩ = some (.int .i64 V) := Bone_4.cell 0
  have cone1 : W4.cell? ⟨w3.heap.size, 1, none⟩ = some (.slice A3 n3 c3) := Bone_4.cell 1
  have cone2 : W4.cell? ⟨w3.heap.size, 2, none⟩ = some (.int .i64 r3) := Bone_4.cell 2
  have call0 : W4.cell? ⟨w4.heap.size, 0, none⟩ = some (.int .i64 V) := Ball_4.cell 0
  have call1 : W4.cell? ⟨w4.heap.size, 1, none⟩ = some (.slice A4 n4 c4) := Ball_4.cell 1
  have call2 : W4.cell? ⟨w4.heap.size, 2, none⟩ = some (.int .i64 r4) := Ball_4.cell 2
  go_upto_region 6 with (go_at_call 14
                         (with_reducible refine (HS.out).mono ?_)
                         rintro e w5 ⟨A5, n5, c5, r5, rfl, D5, K5⟩
                         have Brn := Br_4.keep K5 fun h => h
                         have Lrn := Brn.lt
                         have Bsn := Bs_4.keep K5 fun h => h
                         have Lsn := Bsn.lt
                         have Bonen := Bone_4.keep K5 fun h => h
                         have Lonen := Bonen.lt
                         have Balln := Ball_4.keep K5 fun h => h
                         have Lalln := Balln.lt)
  clear cr0 cr1 cr2 cs0 cs1 cs2 cone0 cone1 cone2 call0 call1 call2
  have Br_5 := Brn.alloc (.cells #[.int .i64 V, .slice A5 n5 c5, .int .i64 r5] 26)
  have Qr_5 := (Qr_4.keep K5).keep ((Keep.refl NoF w5).alloc (.cells #[.int .i64 V, .slice A5 n5 c5, .int .i64 r5] 26))
  have Bs_5 := Bsn.alloc (.cells #[.int .i64 V, .slice A5 n5 c5, .int .i64 r5] 26)
  have Qs_5 := (Qs_4.keep K5).keep ((Keep.refl NoF w5).alloc (.cells #[.int .i64 V, .slice A5 n5 c5, .int .i64 r5] 26))
  have Bone_5 := Bonen.alloc (.cells #[.int .i64 V, .slice A5 n5 c5, .int .i64 r5] 26)
  have Qone_5 := (Qone_4.keep K5).keep ((Keep.refl NoF w5).alloc (.cells #[.int .i64 V, .slice A5 n5 c5, .int .i64 r5] 26))
  have Ball_5 := Balln.alloc (.cells #[.int .i64 V, .slice A5 n5 c5, .int .i64 r5] 26)
  have Qall_5 := (Qall_4.keep K5).keep ((Keep.refl NoF w5).alloc (.cells #[.int .i64 V, .slice A5 n5 c5, .int .i64 r5] 26))
  have Bc_5 := Bk.new w5 26 #[.int .i64 V, .slice A5 n5 c5, .int .i64 r5]
  have Qc_5 := D5.keep ((Keep.refl NoF w5).alloc (.cells #[.int .i64 V, .slice A5 n5 c5, .int .i64 r5] 26))
  have Kw_5 : Keep NoF w (w5.alloc (.cells #[.int .i64 V, .slice A5 n5 c5, .int .i64 r5] 26)) := (Kw_4.trans K5 fun _ _ h => h).alloc _
  have Gc_5 : w.heap.size ≤ w5.heap.size := (Kw_4.trans K5 fun _ _ h => h).size
  generalize w5.alloc (.cells #[.int .i64 V, .slice A5 n5 c5, .int .i64 r5] 26) = W5 at *
  clear Br_4 Bs_4 Bone_4 Ball_4 Qr_4 Qs_4 Qone_4 Qall_4 Brn Bsn Bonen Balln Kw_4 D5 K5
  clear HS
  have HS := Lib.hid (aw_pairs HV.out Qc_5)
  have cr0 : W5.cell? ⟨w1.heap.size, 0, none⟩ = some (.int .i64 V) := Br_5.cell 0
  have cr1 : W5.cell? ⟨w1.heap.size, 1, none⟩ = some (.slice A1 n1 c1) := Br_5.cell 1
  have cr2 : W5.cell? ⟨w1.heap.size, 2, none⟩ = some (.int .i64 r1) := Br_5.cell 2
  have cs0 : W5.cell? ⟨w2.heap.size, 0, none⟩ = some (.int .i64 V) := Bs_5.cell 0
  have cs1 : W5.cell? ⟨w2.heap.size, 1, none⟩ = some (.slice A2 n2 c2) := Bs_5.cell 1
  have cs2 : W5.cell? ⟨w2.heap.size, 2, none⟩ = some (.int .i64 r2) := Bs_5.cell 2
  have cone0 : W5.cell? ⟨w3.heap.size, 0, none⟩ = some (.int .i64 V) := Bone_5.cell 0
  have cone1 : W5.cell? ⟨w3.heap.size, 1, none⟩ = some (.slice A3 n3 c3) := Bone_5.cell 1
  have cone2 : W5.cell? ⟨w3.heap.size, 2, none⟩ = some (.int .i64 r3) := Bone_5.cell 2
  have call0 : W5.cell? ⟨w4.heap.size, 0, none⟩ = some (.int .i64 V) := Ball_5.cell 0
  have call1 : W5.cell? ⟨w4.heap.size, 1, none⟩ = some (.slice A4 n4 c4) := Ball_5.cell 1
  have call2 : W5.cell? ⟨w4.heap.size, 2, none⟩ = some (.int .i64 r4) := Ball_5.cell 2
  have cc0 : W5.cell? ⟨w5.heap.size, 0, none⟩ = some (.int .i64 V) := Bc_5.cell 0
  have cc1 : W5.cell? ⟨w5.heap.size, 1, none⟩ = some (.slice A5 n5 c5) := Bc_5.cell 1
  have cc2 : W5.cell? ⟨w5.heap.size, 2, none⟩ = some (.int .i64 r5) := Bc_5.cell 2
  go_upto_region 7 with (first
                         | (go_at_call 15
                            (with_reducible refine (HS.out).mono ?_)
                            rintro e p1 ⟨AL, cL, rfl, RL, p1Z⟩
                            have p1K : Keep NoF W5 p1 := (Keep.refl NoF W5).trans p1Z fun _ _ h => h)
                         | fail)
  clear cr0 cr1 cr2 cs0 cs1 cs2 cone0 cone1 cone2 call0 call1 call2 cc0 cc1 cc2
  have Br_6 := Br_5.keep p1K fun h => h
  have Qr_6 := Qr_5.keep p1K
  have Bs_6 := Bs_5.keep p1K fun h => h
  have Qs_6 := Qs_5.keep p1K
  have Bone_6 := Bone_5.keep p1K fun h => h
  have Qone_6 := Qone_5.keep p1K
  have Ball_6 := Ball_5.keep p1K fun h => h
  have Qall_6 := Qall_5.keep p1K
  have Bc_6 := Bc_5.keep p1K fun h => h
  have Qc_6 := Qc_5.keep p1K
  have Kw_6 := Kw_5.trans p1K fun _ _ h => h
  clear Kw_5 p1K p1Z Br_5 Qr_5 Bs_5 Qs_5 Bone_5 Qone_5 Ball_5 Qall_5 Bc_5 Qc_5
  clear HS
  clear Bc_6 Qc_6
  have HS := Lib.hid (aw_same RL)
  clear RL
  have cr0 : p1.cell? ⟨w1.heap.size, 0, none⟩ = some (.int .i64 V) := Br_6.cell 0
  have cr1 : p1.cell? ⟨w1.heap.size, 1, none⟩ = some (.slice A1 n1 c1) := Br_6.cell 1
  have cr2 : p1.cell? ⟨w1.heap.size, 2, none⟩ = some (.int .i64 r1) := Br_6.cell 2
  have cs0 : p1.cell? ⟨w2.heap.size, 0, none⟩ = some (.int .i64 V) := Bs_6.cell 0
  have cs1 : p1.cell? ⟨w2.heap.size, 1, none⟩ = some (.slice A2 n2 c2) := Bs_6.cell 1
  have cs2 : p1.cell? ⟨w2.heap.size, 2, none⟩ = some (.int .i64 r2) := Bs_6.cell 2
  have cone0 : p1.cell? ⟨w3.heap.size, 0, none⟩ = some (.int .i64 V) := Bone_6.cell 0
  have cone1 : p1.cell? ⟨w3.heap.size, 1, none⟩ = some (.slice A3 n3 c3) := Bone_6.cell 1
  have cone2 : p1.cell? ⟨w3.heap.size, 2, none⟩ = some (.int .i64 r3) := Bone_6.cell 2
  have call0 : p1.cell? ⟨w4.heap.size, 0, none⟩ = some (.int .i64 V) := Ball_6.cell 0
  have call1 : p1.cell? ⟨w4.heap.size, 1, none⟩ = some (.slice A4 n4 c4) := Ball_6.cell 1
  have call2 : p1.cell? ⟨w4.heap.size, 2, none⟩ = some (.int .i64 r4) := Ball_6.cell 2
  go_upto_region 9 with (first
                         | (go_at_call 16
                            (with_reducible refine (HS.out).mono ?_)
                            rintro e p2 ⟨rfl, p2Z⟩
                            have p2K : Keep NoF p1 p2 := (Keep.refl NoF p1).trans p2Z fun _ _ h => h)
                         | fail)
  clear cr0 cr1 cr2 cs0 cs1 cs2 cone0 cone1 cone2 call0 call1 call2
  have Br_7 := Br_6.keep p2K fun h => h
  have Qr_7 := Qr_6.keep p2K
  have Bs_7 := Bs_6.keep p2K fun h => h
  have Qs_7 := Qs_6.keep p2K
  have Bone_7 := Bone_6.keep p2K fun h => h
  have Qone_7 := Qone_6.keep p2K
  have Ball_7 := Ball_6.keep p2K fun h => h
  have Qall_7 := Qall_6.keep p2K
  have Kw_7 := Kw_6.trans p2K fun _ _ h => h
  clear Kw_6 p2K p2Z Br_6 Qr_6 Bs_6 Qs_6 Bone_6 Qone_6 Ball_6 Qall_6
  clear HS
  have HS := Lib.hid (aw_pre HV.out Qr_7 Qs_7)
  have cr0 : p2.cell? ⟨w1.heap.size, 0, none⟩ = some (.int .i64 V) := Br_7.cell 0
  have cr1 : p2.cell? ⟨w1.heap.size, 1, none⟩ = some (.slice A1 n1 c1) := Br_7.cell 1
  have cr2 : p2.cell? ⟨w1.heap.size, 2, none⟩ = some (.int .i64 r1) := Br_7.cell 2
  have cs0 : p2.cell? ⟨w2.heap.size, 0, none⟩ = some (.int .i64 V) := Bs_7.cell 0
  have cs1 : p2.cell? ⟨w2.heap.size, 1, none⟩ = some (.slice A2 n2 c2) := Bs_7.cell 1
  have cs2 : p2.cell? ⟨w2.heap.size, 2, none⟩ = some (.int .i64 r2) := Bs_7.cell 2
  go_upto_region 10 with (go_at_call 17
                          (with_reducible refine (HS.out).mono ?_)
                          rintro e w6 ⟨A6, n6, c6, r6, rfl, D6, K6⟩
                          have Brn := Br_7.keep K6 fun h => h
                          have Lrn := Brn.lt
                          have Bsn := Bs_7.keep K6 fun h => h
                          have Lsn := Bsn.lt
                          have Bonen := Bone_7.keep K6 fun h => h
                          have Lonen := Bonen.lt
                          have Balln := Ball_7.keep K6 fun h => h
                          have Lalln := Balln.lt)
  clear cr0 cr1 cr2 cs0 cs1 cs2
  have Br_8 := Brn.alloc (.cells #[.int .i64 V, .slice A6 n6 c6, .int .i64 r6] 26)
  have Qr_8 := (Qr_7.keep K6).keep ((Keep.refl NoF w6).alloc (.cells #[.int .i64 V, .slice A6 n6 c6, .int .i64 r6] 26))
  have Bs_8 := Bsn.alloc (.cells #[.int .i64 V, .slice A6 n6 c6, .int .i64 r6] 26)
  have Qs_8 := (Qs_7.keep K6).keep ((Keep.refl NoF w6).alloc (.cells #[.int .i64 V, .slice A6 n6 c6, .int .i64 r6] 26))
  have Bone_8 := Bonen.alloc (.cells #[.int .i64 V, .slice A6 n6 c6, .int .i64 r6] 26)
  have Qone_8 := (Qone_7.keep K6).keep ((Keep.refl NoF w6).alloc (.cells #[.int .i64 V, .slice A6 n6 c6, .int .i64 r6] 26))
  have Ball_8 := Balln.alloc (.cells #[.int .i64 V, .slice A6 n6 c6, .int .i64 r6] 26)
  have Qall_8 := (Qall_7.keep K6).keep ((Keep.refl NoF w6).alloc (.cells #[.int .i64 V, .slice A6 n6 c6, .int .i64 r6] 26))
  have Ba_8 := Bk.new w6 26 #[.int .i64 V, .slice A6 n6 c6, .int .i64 r6]
  have Qa_8 := D6.keep ((Keep.refl NoF w6).alloc (.cells #[.int .i64 V, .slice A6 n6 c6, .int .i64 r6] 26))
  have Kw_8 : Keep NoF w (w6.alloc (.cells #[.int .i64 V, .slice A6 n6 c6, .int .i64 r6] 26)) := (Kw_7.trans K6 fun _ _ h => h).alloc _
  have Ga_8 : w.heap.size ≤ w6.heap.size := (Kw_7.trans K6 fun _ _ h => h).size
  generalize w6.alloc (.cells #[.int .i64 V, .slice A6 n6 c6, .int .i64 r6] 26) = W8 at *
  clear Br_7 Bs_7 Bone_7 Ball_7 Qr_7 Qs_7 Qone_7 Qall_7 Brn Bsn Bonen Balln Kw_7 D6 K6
  clear HS
  have HS := Lib.hid (aw_box HV.out Qr_8 Qs_8)
  have cr0 : W8.cell? ⟨w1.heap.size, 0, none⟩ = some (.int .i64 V) := Br_8.cell 0
  have cr1 : W8.cell? ⟨w1.heap.size, 1, none⟩ = some (.slice A1 n1 c1) := Br_8.cell 1
  have cr2 : W8.cell? ⟨w1.heap.size, 2, none⟩ = some (.int .i64 r1) := Br_8.cell 2
  have cs0 : W8.cell? ⟨w2.heap.size, 0, none⟩ = some (.int .i64 V) := Bs_8.cell 0
  have cs1 : W8.cell? ⟨w2.heap.size, 1, none⟩ = some (.slice A2 n2 c2) := Bs_8.cell 1
  have cs2 : W8.cell? ⟨w2.heap.size, 2, none⟩ = some (.int .i64 r2) := Bs_8.cell 2
  go_upto_region 11 with (go_at_call 18
                          (with_reducible refine (HS.out).mono ?_)
                          rintro e w7 ⟨A7, n7, c7, r7, rfl, D7, K7⟩
                          have Brn := Br_8.keep K7 fun h => h
                          have Lrn := Brn.lt
                          have Bsn := Bs_8.keep K7 fun h => h
                          have Lsn := Bsn.lt
                          have Bonen := Bone_8.keep K7 fun h => h
                          have Lonen := Bonen.lt
                          have Balln := Ball_8.keep K7 fun h => h
                          have Lalln := Balln.lt
                          have Ban := Ba_8.keep K7 fun h => h
                          have Lan := Ban.lt)
  clear cr0 cr1 cr2 cs0 cs1 cs2
  have Br_9 := Brn.alloc (.cells #[.int .i64 V, .slice A7 n7 c7, .int .i64 r7] 26)
  have Qr_9 := (Qr_8.keep K7).keep ((Keep.refl NoF w7).alloc (.cells #[.int .i64 V, .slice A7 n7 c7, .int .i64 r7] 26))
  have Bs_9 := Bsn.alloc (.cells #[.int .i64 V, .slice A7 n7 c7, .int .i64 r7] 26)
  have Qs_9 := (Qs_8.keep K7).keep ((Keep.refl NoF w7).alloc (.cells #[.int .i64 V, .slice A7 n7 c7, .int .i64 r7] 26))
  have Bone_9 := Bonen.alloc (.cells #[.int .i64 V, .slice A7 n7 c7, .int .i64 r7] 26)
  have Qone_9 := (Qone_8.keep K7).keep ((Keep.refl NoF w7).alloc (.cells #[.int .i64 V, .slice A7 n7 c7, .int .i64 r7] 26))
  have Ball_9 := Balln.alloc (.cells #[.int .i64 V, .slice A7 n7 c7, .int .i64 r7] 26)
  have Qall_9 := (Qall_8.keep K7).keep ((Keep.refl NoF w7).alloc (.cells #[.int .i64 V, .slice A7 n7 c7, .int .i64 r7] 26))
  have Ba_9 := Ban.alloc (.cells #[.int .i64 V, .slice A7 n7 c7, .int .i64 r7] 26)
  have Qa_9 := (Qa_8.keep K7).keep ((Keep.refl NoF w7).alloc (.cells #[.int .i64 V, .slice A7 n7 c7, .int .i64 r7] 26))
  have Bb_9 := Bk.new w7 26 #[.int .i64 V, .slice A7 n7 c7, .int .i64 r7]
  have Qb_9 := D7.keep ((Keep.refl NoF w7).alloc (.cells #[.int .i64 V, .slice A7 n7 c7, .int .i64 r7] 26))
  have Kw_9 : Keep NoF w (w7.alloc (.cells #[.int .i64 V, .slice A7 n7 c7, .int .i64 r7] 26)) := (Kw_8.trans K7 fun _ _ h => h).alloc _
  have Gb_9 : w.heap.size ≤ w7.heap.size := (Kw_8.trans K7 fun _ _ h => h).size
  generalize w7.alloc (.cells #[.int .i64 V, .slice A7 n7 c7, .int .i64 r7] 26) = W9 at *
  clear Br_8 Bs_8 Bone_8 Ball_8 Ba_8 Qr_8 Qs_8 Qone_8 Qall_8 Qa_8 Brn Bsn Bonen Balln Ban Kw_8 D7 K7
  clear HS
  have HS := Lib.hid (aw_image HV.out Qr_9 Qs_9)
  have cr0 : W9.cell? ⟨w1.heap.size, 0, none⟩ = some (.int .i64 V) := Br_9.cell 0
  have cr1 : W9.cell? ⟨w1.heap.size, 1, none⟩ = some (.slice A1 n1 c1) := Br_9.cell 1
  have cr2 : W9.cell? ⟨w1.heap.size, 2, none⟩ = some (.int .i64 r1) := Br_9.cell 2
  have cs0 : W9.cell? ⟨w2.heap.size, 0, none⟩ = some (.int .i64 V) := Bs_9.cell 0
  have cs1 : W9.cell? ⟨w2.heap.size, 1, none⟩ = some (.slice A2 n2 c2) := Bs_9.cell 1
  have cs2 : W9.cell? ⟨w2.heap.size, 2, none⟩ = some (.int .i64 r2) := Bs_9.cell 2
  go_upto_region 12 with (go_at_call 19
                          (with_reducible refine (HS.out).mono ?_)
                          rintro e w8 ⟨A8, n8, c8, r8, rfl, D8, K8⟩
                          have Brn := Br_9.keep K8 fun h => h
                          have Lrn := Brn.lt
                          have Bsn := Bs_9.keep K8 fun h => h
                          have Lsn := Bsn.lt
                          have Bonen := Bone_9.keep K8 fun h => h
                          have Lonen := Bonen.lt
                          have Balln := Ball_9.keep K8 fun h => h
                          have Lalln := Balln.lt
                          have Ban := Ba_9.keep K8 fun h => h
                          have Lan := Ban.lt
                          have Bbn := Bb_9.keep K8 fun h => h
                          have Lbn := Bbn.lt)
  clear cr0 cr1 cr2 cs0 cs1 cs2
  have Br_10 := Brn.alloc (.cells #[.int .i64 V, .slice A8 n8 c8, .int .i64 r8] 26)
  have Qr_10 := (Qr_9.keep K8).keep ((Keep.refl NoF w8).alloc (.cells #[.int .i64 V, .slice A8 n8 c8, .int .i64 r8] 26))
  have Bs_10 := Bsn.alloc (.cells #[.int .i64 V, .slice A8 n8 c8, .int .i64 r8] 26)
  have Qs_10 := (Qs_9.keep K8).keep ((Keep.refl NoF w8).alloc (.cells #[.int .i64 V, .slice A8 n8 c8, .int .i64 r8] 26))
  have Bone_10 := Bonen.alloc (.cells #[.int .i64 V, .slice A8 n8 c8, .int .i64 r8] 26)
  have Qone_10 := (Qone_9.keep K8).keep ((Keep.refl NoF w8).alloc (.cells #[.int .i64 V, .slice A8 n8 c8, .int .i64 r8] 26))
  have Ball_10 := Balln.alloc (.cells #[.int .i64 V, .slice A8 n8 c8, .int .i64 r8] 26)
  have Qall_10 := (Qall_9.keep K8).keep ((Keep.refl NoF w8).alloc (.cells #[.int .i64 V, .slice A8 n8 c8, .int .i64 r8] 26))
  have Ba_10 := Ban.alloc (.cells #[.int .i64 V, .slice A8 n8 c8, .int .i64 r8] 26)
  have Qa_10 := (Qa_9.keep K8).keep ((Keep.refl NoF w8).alloc (.cells #[.int .i64 V, .slice A8 n8 c8, .int .i64 r8] 26))
  have Bb_10 := Bbn.alloc (.cells #[.int .i64 V, .slice A8 n8 c8, .int .i64 r8] 26)
  have Qb_10 := (Qb_9.keep K8).keep ((Keep.refl NoF w8).alloc (.cells #[.int .i64 V, .slice A8 n8 c8, .int .i64 r8] 26))
  have Bd_10 := Bk.new w8 26 #[.int .i64 V, .slice A8 n8 c8, .int .i64 r8]
  have Qd_10 := D8.keep ((Keep.refl NoF w8).alloc (.cells #[.int .i64 V, .slice A8 n8 c8, .int .i64 r8] 26))
  have Kw_10 : Keep NoF w (w8.alloc (.cells #[.int .i64 V, .slice A8 n8 c8, .int .i64 r8] 26)) := (Kw_9.trans K8 fun _ _ h => h).alloc _
  have Gd_10 : w.heap.size ≤ w8.heap.size := (Kw_9.trans K8 fun _ _ h => h).size
  generalize w8.alloc (.cells #[.int .i64 V, .slice A8 n8 c8, .int .i64 r8] 26) = W10 at *
  clear Br_9 Bs_9 Bone_9 Ball_9 Ba_9 Bb_9 Qr_9 Qs_9 Qone_9 Qall_9 Qa_9 Qb_9 Brn Bsn Bonen Balln Ban Bbn Kw_9 D8 K8
  clear HS
  have HIa : Hid (∀ W, Keep NoF W10 W → Calls Tryd.prog 21 #[.agg #[.int .i64 V, .slice A6 n6 c6, .int .i64 r6], .int .i64 0, .int .u64 6] W fun e w' => e = .returned (.bool true) ∧ Keep NoF W w') := Lib.hid fun W hk => aw_is HV.out 6 (by omega) (Qa_10.keep hk)
  have HIb : Hid (∀ W, Keep NoF W10 W → Calls Tryd.prog 21 #[.agg #[.int .i64 V, .slice A7 n7 c7, .int .i64 r7], .int .i64 0, .int .u64 14] W fun e w' => e = .returned (.bool true) ∧ Keep NoF W w') := Lib.hid fun W hk => aw_is HV.out 14 (by omega) (Qb_10.keep hk)
  have HId : Hid (∀ W, Keep NoF W10 W → Calls Tryd.prog 21 #[.agg #[.int .i64 V, .slice A8 n8 c8, .int .i64 r8], .int .i64 0, .int .u64 4] W fun e w' => e = .returned (.bool true) ∧ Keep NoF W w') := Lib.hid fun W hk => aw_is HV.out 4 (by omega) (Qd_10.keep hk)
  have ca0 : W10.cell? ⟨w6.heap.size, 0, none⟩ = some (.int .i64 V) := Ba_10.cell 0
  have ca1 : W10.cell? ⟨w6.heap.size, 1, none⟩ = some (.slice A6 n6 c6) := Ba_10.cell 1
  have ca2 : W10.cell? ⟨w6.heap.size, 2, none⟩ = some (.int .i64 r6) := Ba_10.cell 2
  go_upto_region 14 with (first
                          | (go_at_call 21
                             (with_reducible refine (HIa.out _ (Keep.refl NoF W10)).mono ?_)
                             rintro e p3 ⟨rfl, p3Z⟩
                             have p3K : Keep NoF W10 p3 := (Keep.refl NoF W10).trans p3Z fun _ _ h => h
                             have mb0 : p3.cell? ⟨w7.heap.size, 0, none⟩ = some (.int .i64 V) := (Bb_10.keep p3K fun h => h).cell 0
                             have mb1 : p3.cell? ⟨w7.heap.size, 1, none⟩ = some (.slice A7 n7 c7) := (Bb_10.keep p3K fun h => h).cell 1
                             have mb2 : p3.cell? ⟨w7.heap.size, 2, none⟩ = some (.int .i64 r7) := (Bb_10.keep p3K fun h => h).cell 2)
                          | (go_at_call 21
                             (with_reducible refine (HIb.out _ p3K).mono ?_)
                             rintro e p4 ⟨rfl, p4Z⟩
                             have p4K : Keep NoF W10 p4 := p3K.trans p4Z fun _ _ h => h
                             have md0 : p4.cell? ⟨w8.heap.size, 0, none⟩ = some (.int .i64 V) := (Bd_10.keep p4K fun h => h).cell 0
                             have md1 : p4.cell? ⟨w8.heap.size, 1, none⟩ = some (.slice A8 n8 c8) := (Bd_10.keep p4K fun h => h).cell 1
                             have md2 : p4.cell? ⟨w8.heap.size, 2, none⟩ = some (.int .i64 r8) := (Bd_10.keep p4K fun h => h).cell 2)
                          | (go_at_call 21
                             (with_reducible refine (HId.out _ p4K).mono ?_)
                             rintro e p5 ⟨rfl, p5Z⟩
                             have p5K : Keep NoF W10 p5 := p4K.trans p5Z fun _ _ h => h))
  clear ca0 ca1 ca2
  clear mb0 mb1 mb2 md0 md1 md2
  have Br_11 := Br_10.keep p5K fun h => h
  have Qr_11 := Qr_10.keep p5K
  have Bs_11 := Bs_10.keep p5K fun h => h
  have Qs_11 := Qs_10.keep p5K
  have Bone_11 := Bone_10.keep p5K fun h => h
  have Qone_11 := Qone_10.keep p5K
  have Ball_11 := Ball_10.keep p5K fun h => h
  have Qall_11 := Qall_10.keep p5K
  have Ba_11 := Ba_10.keep p5K fun h => h
  have Qa_11 := Qa_10.keep p5K
  have Bb_11 := Bb_10.keep p5K fun h => h
  have Qb_11 := Qb_10.keep p5K
  have Bd_11 := Bd_10.keep p5K fun h => h
  have Qd_11 := Qd_10.keep p5K
  have Kw_11 := Kw_10.trans p5K fun _ _ h => h
  clear Kw_10 p3K p4K p5K p3Z p4Z p5Z Br_10 Qr_10 Bs_10 Qs_10 Bone_10 Qone_10 Ball_10 Qall_10 Ba_10 Qa_10 Bb_10 Qb_10 Bd_10 Qd_10
  clear HIa HIb HId
  have HS := Lib.hid (aw_reach HV.out Qr_11 Qone_11)
  have cr0 : p5.cell? ⟨w1.heap.size, 0, none⟩ = some (.int .i64 V) := Br_11.cell 0
  have cr1 : p5.cell? ⟨w1.heap.size, 1, none⟩ = some (.slice A1 n1 c1) := Br_11.cell 1
  have cr2 : p5.cell? ⟨w1.heap.size, 2, none⟩ = some (.int .i64 r1) := Br_11.cell 2
  have cone0 : p5.cell? ⟨w3.heap.size, 0, none⟩ = some (.int .i64 V) := Bone_11.cell 0
  have cone1 : p5.cell? ⟨w3.heap.size, 1, none⟩ = some (.slice A3 n3 c3) := Bone_11.cell 1
  have cone2 : p5.cell? ⟨w3.heap.size, 2, none⟩ = some (.int .i64 r3) := Bone_11.cell 2
  go_upto_region 15 with (go_at_call 20
                          (with_reducible refine (HS.out).mono ?_)
                          rintro e w9 ⟨A9, n9, c9, r9, rfl, D9, K9⟩
                          have Brn := Br_11.keep K9 fun h => h
                          have Lrn := Brn.lt
                          have Bsn := Bs_11.keep K9 fun h => h
                          have Lsn := Bsn.lt
                          have Bonen := Bone_11.keep K9 fun h => h
                          have Lonen := Bonen.lt
                          have Balln := Ball_11.keep K9 fun h => h
                          have Lalln := Balln.lt
                          have Ban := Ba_11.keep K9 fun h => h
                          have Lan := Ban.lt
                          have Bbn := Bb_11.keep K9 fun h => h
                          have Lbn := Bbn.lt
                          have Bdn := Bd_11.keep K9 fun h => h
                          have Ldn := Bdn.lt
                          have y0 : w9.cell? ⟨w6.heap.size, 0, none⟩ = some (.int .i64 V) := Ban.cell 0
                          have y1 : w9.cell? ⟨w6.heap.size, 1, none⟩ = some (.slice A6 n6 c6) := Ban.cell 1
                          have y2 : w9.cell? ⟨w6.heap.size, 2, none⟩ = some (.int .i64 r6) := Ban.cell 2
                          have yf0 := Ban.frozen 0
                          have yf1 := Ban.frozen 1
                          have yf2 := Ban.frozen 2)
  clear cr0 cr1 cr2 cone0 cone1 cone2
  obtain ⟨Ba_12, Qa_12, S3⟩ := set3_box Ban sl_nint D9
  have Br_12 := Brn.keep S3 fun h => by omega
  have Qr_12 := (Qr_11.keep K9).far_box Ban sl_nint S3
  have Bs_12 := Bsn.keep S3 fun h => by omega
  have Qs_12 := (Qs_11.keep K9).far_box Ban sl_nint S3
  have Bone_12 := Bonen.keep S3 fun h => by omega
  have Qone_12 := (Qone_11.keep K9).far_box Ban sl_nint S3
  have Ball_12 := Balln.keep S3 fun h => by omega
  have Qall_12 := (Qall_11.keep K9).far_box Ban sl_nint S3
  have Bb_12 := Bbn.keep S3 fun h => by omega
  have Qb_12 := (Qb_11.keep K9).far_box Ban sl_nint S3
  have Bd_12 := Bdn.keep S3 fun h => by omega
  have Qd_12 := (Qd_11.keep K9).far_box Ban sl_nint S3
  have Kw_12 : Keep NoF w (((w9.setCell ⟨w6.heap.size, 0, none⟩ (.int .i64 V)).setCell ⟨w6.heap.size, 1, none⟩ (.slice A9 n9 c9)).setCell ⟨w6.heap.size, 2, none⟩ (.int .i64 r9)) := (Kw_11.trans K9 fun _ _ h => h).trans S3 fun i hi h => by omega
  generalize (((w9.setCell ⟨w6.heap.size, 0, none⟩ (.int .i64 V)).setCell ⟨w6.heap.size, 1, none⟩ (.slice A9 n9 c9)).setCell ⟨w6.heap.size, 2, none⟩ (.int .i64 r9)) = W12 at *
  clear Br_11 Bs_11 Bone_11 Ball_11 Ba_11 Bb_11 Bd_11 Qr_11 Qs_11 Qone_11 Qall_11 Qa_11 Qb_11 Qd_11 Brn Bsn Bonen Balln Ban Bbn Bdn Kw_11 D9 K9 S3 y0 y1 y2 yf0 yf1 yf2
  clear HS
  clear Bone_12 Qone_12
  have HS := Lib.hid (aw_paths HV.out 15 14 (.inl ⟨rfl, rfl⟩) Qr_12 Qall_12 Qs_12)
  have cr0 : W12.cell? ⟨w1.heap.size, 0, none⟩ = some (.int .i64 V) := Br_12.cell 0
  have cr1 : W12.cell? ⟨w1.heap.size, 1, none⟩ = some (.slice A1 n1 c1) := Br_12.cell 1
  have cr2 : W12.cell? ⟨w1.heap.size, 2, none⟩ = some (.int .i64 r1) := Br_12.cell 2
  have cs0 : W12.cell? ⟨w2.heap.size, 0, none⟩ = some (.int .i64 V) := Bs_12.cell 0
  have cs1 : W12.cell? ⟨w2.heap.size, 1, none⟩ = some (.slice A2 n2 c2) := Bs_12.cell 1
  have cs2 : W12.cell? ⟨w2.heap.size, 2, none⟩ = some (.int .i64 r2) := Bs_12.cell 2
  have call0 : W12.cell? ⟨w4.heap.size, 0, none⟩ = some (.int .i64 V) := Ball_12.cell 0
  have call1 : W12.cell? ⟨w4.heap.size, 1, none⟩ = some (.slice A4 n4 c4) := Ball_12.cell 1
  have call2 : W12.cell? ⟨w4.heap.size, 2, none⟩ = some (.int .i64 r4) := Ball_12.cell 2
  go_upto_region 16 with (go_at_call 7
                          (with_reducible refine (HS.out).mono ?_)
                          rintro e w10 ⟨A10, n10, c10, r10, rfl, D10, K10⟩
                          have Brn := Br_12.keep K10 fun h => h
                          have Lrn := Brn.lt
                          have Bsn := Bs_12.keep K10 fun h => h
                          have Lsn := Bsn.lt
                          have Balln := Ball_12.keep K10 fun h => h
                          have Lalln := Balln.lt
                          have Ban := Ba_12.keep K10 fun h => h
                          have Lan := Ban.lt
                          have Bbn := Bb_12.keep K10 fun h => h
                          have Lbn := Bbn.lt
                          have Bdn := Bd_12.keep K10 fun h => h
                          have Ldn := Bdn.lt
                          have y0 : w10.cell? ⟨w7.heap.size, 0, none⟩ = some (.int .i64 V) := Bbn.cell 0
                          have y1 : w10.cell? ⟨w7.heap.size, 1, none⟩ = some (.slice A7 n7 c7) := Bbn.cell 1
                          have y2 : w10.cell? ⟨w7.heap.size, 2, none⟩ = some (.int .i64 r7) := Bbn.cell 2
                          have yf0 := Bbn.frozen 0
                          have yf1 := Bbn.frozen 1
                          have yf2 := Bbn.frozen 2)
  clear cr0 cr1 cr2 cs0 cs1 cs2 call0 call1 call2
  obtain ⟨Bb_13, Qb_13, S3⟩ := set3_box Bbn sl_nint D10
  have Br_13 := Brn.keep S3 fun h => by omega
  have Qr_13 := (Qr_12.keep K10).far_box Bbn sl_nint S3
  have Bs_13 := Bsn.keep S3 fun h => by omega
  have Qs_13 := (Qs_12.keep K10).far_box Bbn sl_nint S3
  have Ball_13 := Balln.keep S3 fun h => by omega
  have Qall_13 := (Qall_12.keep K10).far_box Bbn sl_nint S3
  have Ba_13 := Ban.keep S3 fun h => by omega
  have Qa_13 := (Qa_12.keep K10).far_box Bbn sl_nint S3
  have Bd_13 := Bdn.keep S3 fun h => by omega
  have Qd_13 := (Qd_12.keep K10).far_box Bbn sl_nint S3
  have Kw_13 : Keep NoF w (((w10.setCell ⟨w7.heap.size, 0, none⟩ (.int .i64 V)).setCell ⟨w7.heap.size, 1, none⟩ (.slice A10 n10 c10)).setCell ⟨w7.heap.size, 2, none⟩ (.int .i64 r10)) := (Kw_12.trans K10 fun _ _ h => h).trans S3 fun i hi h => by omega
  generalize (((w10.setCell ⟨w7.heap.size, 0, none⟩ (.int .i64 V)).setCell ⟨w7.heap.size, 1, none⟩ (.slice A10 n10 c10)).setCell ⟨w7.heap.size, 2, none⟩ (.int .i64 r10)) = W13 at *
  clear Br_12 Bs_12 Ball_12 Ba_12 Bb_12 Bd_12 Qr_12 Qs_12 Qall_12 Qa_12 Qb_12 Qd_12 Brn Bsn Balln Ban Bbn Bdn Kw_12 D10 K10 S3 y0 y1 y2 yf0 yf1 yf2
  clear HS
  clear Ball_13 Qall_13
  have HS := Lib.hid (aw_paths HV.out 4 15 (.inr ⟨rfl, rfl⟩) Qr_13 Qs_13 Qs_13)
  have cr0 : W13.cell? ⟨w1.heap.size, 0, none⟩ = some (.int .i64 V) := Br_13.cell 0
  have cr1 : W13.cell? ⟨w1.heap.size, 1, none⟩ = some (.slice A1 n1 c1) := Br_13.cell 1
  have cr2 : W13.cell? ⟨w1.heap.size, 2, none⟩ = some (.int .i64 r1) := Br_13.cell 2
  have cs0 : W13.cell? ⟨w2.heap.size, 0, none⟩ = some (.int .i64 V) := Bs_13.cell 0
  have cs1 : W13.cell? ⟨w2.heap.size, 1, none⟩ = some (.slice A2 n2 c2) := Bs_13.cell 1
  have cs2 : W13.cell? ⟨w2.heap.size, 2, none⟩ = some (.int .i64 r2) := Bs_13.cell 2
  go_upto_region 17 with (go_at_call 7
                          (with_reducible refine (HS.out).mono ?_)
                          rintro e w11 ⟨A11, n11, c11, r11, rfl, D11, K11⟩
                          have Brn := Br_13.keep K11 fun h => h
                          have Lrn := Brn.lt
                          have Bsn := Bs_13.keep K11 fun h => h
                          have Lsn := Bsn.lt
                          have Ban := Ba_13.keep K11 fun h => h
                          have Lan := Ban.lt
                          have Bbn := Bb_13.keep K11 fun h => h
                          have Lbn := Bbn.lt
                          have Bdn := Bd_13.keep K11 fun h => h
                          have Ldn := Bdn.lt
                          have y0 : w11.cell? ⟨w8.heap.size, 0, none⟩ = some (.int .i64 V) := Bdn.cell 0
                          have y1 : w11.cell? ⟨w8.heap.size, 1, none⟩ = some (.slice A8 n8 c8) := Bdn.cell 1
                          have y2 : w11.cell? ⟨w8.heap.size, 2, none⟩ = some (.int .i64 r8) := Bdn.cell 2
                          have yf0 := Bdn.frozen 0
                          have yf1 := Bdn.frozen 1
                          have yf2 := Bdn.frozen 2)
  clear cr0 cr1 cr2 cs0 cs1 cs2
  obtain ⟨Bd_14, Qd_14, S3⟩ := set3_box Bdn sl_nint D11
  have Br_14 := Brn.keep S3 fun h => by omega
  have Qr_14 := (Qr_13.keep K11).far_box Bdn sl_nint S3
  have Bs_14 := Bsn.keep S3 fun h => by omega
  have Qs_14 := (Qs_13.keep K11).far_box Bdn sl_nint S3
  have Ba_14 := Ban.keep S3 fun h => by omega
  have Qa_14 := (Qa_13.keep K11).far_box Bdn sl_nint S3
  have Bb_14 := Bbn.keep S3 fun h => by omega
  have Qb_14 := (Qb_13.keep K11).far_box Bdn sl_nint S3
  have Kw_14 : Keep NoF w (((w11.setCell ⟨w8.heap.size, 0, none⟩ (.int .i64 V)).setCell ⟨w8.heap.size, 1, none⟩ (.slice A11 n11 c11)).setCell ⟨w8.heap.size, 2, none⟩ (.int .i64 r11)) := (Kw_13.trans K11 fun _ _ h => h).trans S3 fun i hi h => by omega
  generalize (((w11.setCell ⟨w8.heap.size, 0, none⟩ (.int .i64 V)).setCell ⟨w8.heap.size, 1, none⟩ (.slice A11 n11 c11)).setCell ⟨w8.heap.size, 2, none⟩ (.int .i64 r11)) = W14 at *
  clear Br_13 Bs_13 Ba_13 Bb_13 Bd_13 Qr_13 Qs_13 Qa_13 Qb_13 Qd_13 Brn Bsn Ban Bbn Bdn Kw_13 D11 K11 S3 y0 y1 y2 yf0 yf1 yf2
  clear HS
  clear Br_14 Qr_14
  clear Bs_14 Qs_14
  have HS := Lib.hid (aw_v HV2.out W14)
  go_upto_region 18 with (go_at_call 40
                          (with_reducible refine (HS.out).mono ?_)
                          rintro e w12 ⟨A12, n12, c12, r12, rfl, D12, K12⟩
                          have Ban := Ba_14.keep K12 fun h => h
                          have Lan := Ban.lt
                          have Bbn := Bb_14.keep K12 fun h => h
                          have Lbn := Bbn.lt
                          have Bdn := Bd_14.keep K12 fun h => h
                          have Ldn := Bdn.lt)
  have Ba_15 := Ban.alloc (.cells #[.int .i64 V2, .slice A12 n12 c12, .int .i64 r12] 26)
  have Qa_15 := (Qa_14.keep K12).keep ((Keep.refl NoF w12).alloc (.cells #[.int .i64 V2, .slice A12 n12 c12, .int .i64 r12] 26))
  have Bb_15 := Bbn.alloc (.cells #[.int .i64 V2, .slice A12 n12 c12, .int .i64 r12] 26)
  have Qb_15 := (Qb_14.keep K12).keep ((Keep.refl NoF w12).alloc (.cells #[.int .i64 V2, .slice A12 n12 c12, .int .i64 r12] 26))
  have Bd_15 := Bdn.alloc (.cells #[.int .i64 V2, .slice A12 n12 c12, .int .i64 r12] 26)
  have Qd_15 := (Qd_14.keep K12).keep ((Keep.refl NoF w12).alloc (.cells #[.int .i64 V2, .slice A12 n12 c12, .int .i64 r12] 26))
  have Bv_15 := Bk.new w12 26 #[.int .i64 V2, .slice A12 n12 c12, .int .i64 r12]
  have Qv_15 := D12.keep ((Keep.refl NoF w12).alloc (.cells #[.int .i64 V2, .slice A12 n12 c12, .int .i64 r12] 26))
  have Kw_15 : Keep NoF w (w12.alloc (.cells #[.int .i64 V2, .slice A12 n12 c12, .int .i64 r12] 26)) := (Kw_14.trans K12 fun _ _ h => h).alloc _
  have Gv_15 : w.heap.size ≤ w12.heap.size := (Kw_14.trans K12 fun _ _ h => h).size
  generalize w12.alloc (.cells #[.int .i64 V2, .slice A12 n12 c12, .int .i64 r12] 26) = W15 at *
  clear Ba_14 Bb_14 Bd_14 Qa_14 Qb_14 Qd_14 Ban Bbn Bdn Kw_14 D12 K12
  clear HS
  have HS := Lib.hid (aw_u HV3.out W15)
  go_upto_region 19 with (go_at_call 40
                          (with_reducible refine (HS.out).mono ?_)
                          rintro e w13 ⟨A13, n13, c13, r13, rfl, D13, K13⟩
                          have Ban := Ba_15.keep K13 fun h => h
                          have Lan := Ban.lt
                          have Bbn := Bb_15.keep K13 fun h => h
                          have Lbn := Bbn.lt
                          have Bdn := Bd_15.keep K13 fun h => h
                          have Ldn := Bdn.lt
                          have Bvn := Bv_15.keep K13 fun h => h
                          have Lvn := Bvn.lt)
  have Ba_16 := Ban.alloc (.cells #[.int .i64 V3, .slice A13 n13 c13, .int .i64 r13] 26)
  have Qa_16 := (Qa_15.keep K13).keep ((Keep.refl NoF w13).alloc (.cells #[.int .i64 V3, .slice A13 n13 c13, .int .i64 r13] 26))
  have Bb_16 := Bbn.alloc (.cells #[.int .i64 V3, .slice A13 n13 c13, .int .i64 r13] 26)
  have Qb_16 := (Qb_15.keep K13).keep ((Keep.refl NoF w13).alloc (.cells #[.int .i64 V3, .slice A13 n13 c13, .int .i64 r13] 26))
  have Bd_16 := Bdn.alloc (.cells #[.int .i64 V3, .slice A13 n13 c13, .int .i64 r13] 26)
  have Qd_16 := (Qd_15.keep K13).keep ((Keep.refl NoF w13).alloc (.cells #[.int .i64 V3, .slice A13 n13 c13, .int .i64 r13] 26))
  have Bv_16 := Bvn.alloc (.cells #[.int .i64 V3, .slice A13 n13 c13, .int .i64 r13] 26)
  have Qv_16 := (Qv_15.keep K13).keep ((Keep.refl NoF w13).alloc (.cells #[.int .i64 V3, .slice A13 n13 c13, .int .i64 r13] 26))
  have Bu_16 := Bk.new w13 26 #[.int .i64 V3, .slice A13 n13 c13, .int .i64 r13]
  have Qu_16 := D13.keep ((Keep.refl NoF w13).alloc (.cells #[.int .i64 V3, .slice A13 n13 c13, .int .i64 r13] 26))
  have Kw_16 : Keep NoF w (w13.alloc (.cells #[.int .i64 V3, .slice A13 n13 c13, .int .i64 r13] 26)) := (Kw_15.trans K13 fun _ _ h => h).alloc _
  have Gu_16 : w.heap.size ≤ w13.heap.size := (Kw_15.trans K13 fun _ _ h => h).size
  generalize w13.alloc (.cells #[.int .i64 V3, .slice A13 n13 c13, .int .i64 r13] 26) = W16 at *
  clear Ba_15 Bb_15 Bd_15 Bv_15 Qa_15 Qb_15 Qd_15 Qv_15 Ban Bbn Bdn Bvn Kw_15 D13 K13
  clear HS
  have HS := Lib.hid (aw_mem1 HV2.out Qv_16)
  have cv0 : W16.cell? ⟨w12.heap.size, 0, none⟩ = some (.int .i64 V2) := Bv_16.cell 0
  have cv1 : W16.cell? ⟨w12.heap.size, 1, none⟩ = some (.slice A12 n12 c12) := Bv_16.cell 1
  have cv2 : W16.cell? ⟨w12.heap.size, 2, none⟩ = some (.int .i64 r12) := Bv_16.cell 2
  go_upto_region 20 with (first
                          | (go_at_call 8
                             (with_reducible refine (HS.out).mono ?_)
                             rintro e p6 ⟨rfl, p6Z⟩
                             have p6K : Keep NoF W16 p6 := (Keep.refl NoF W16).trans p6Z fun _ _ h => h)
                          | fail)
  clear cv0 cv1 cv2
  have Ba_17 := Ba_16.keep p6K fun h => h
  have Qa_17 := Qa_16.keep p6K
  have Bb_17 := Bb_16.keep p6K fun h => h
  have Qb_17 := Qb_16.keep p6K
  have Bd_17 := Bd_16.keep p6K fun h => h
  have Qd_17 := Qd_16.keep p6K
  have Bv_17 := Bv_16.keep p6K fun h => h
  have Qv_17 := Qv_16.keep p6K
  have Bu_17 := Bu_16.keep p6K fun h => h
  have Qu_17 := Qu_16.keep p6K
  have Kw_17 := Kw_16.trans p6K fun _ _ h => h
  clear Kw_16 p6K p6Z Ba_16 Qa_16 Bb_16 Qb_16 Bd_16 Qd_16 Bv_16 Qv_16 Bu_16 Qu_16
  clear HS
  have HS := Lib.hid (aw_mem3 HV3.out Qu_17)
  have cu0 : p6.cell? ⟨w13.heap.size, 0, none⟩ = some (.int .i64 V3) := Bu_17.cell 0
  have cu1 : p6.cell? ⟨w13.heap.size, 1, none⟩ = some (.slice A13 n13 c13) := Bu_17.cell 1
  have cu2 : p6.cell? ⟨w13.heap.size, 2, none⟩ = some (.int .i64 r13) := Bu_17.cell 2
  go_upto_region 21 with (first
                          | (go_at_call 8
                             (with_reducible refine (HS.out).mono ?_)
                             rintro e p7 ⟨rfl, p7Z⟩
                             have p7K : Keep NoF p6 p7 := (Keep.refl NoF p6).trans p7Z fun _ _ h => h)
                          | fail)
  clear cu0 cu1 cu2
  have Ba_18 := Ba_17.keep p7K fun h => h
  have Qa_18 := Qa_17.keep p7K
  have Bb_18 := Bb_17.keep p7K fun h => h
  have Qb_18 := Qb_17.keep p7K
  have Bd_18 := Bd_17.keep p7K fun h => h
  have Qd_18 := Qd_17.keep p7K
  have Bv_18 := Bv_17.keep p7K fun h => h
  have Qv_18 := Qv_17.keep p7K
  have Bu_18 := Bu_17.keep p7K fun h => h
  have Qu_18 := Qu_17.keep p7K
  have Kw_18 := Kw_17.trans p7K fun _ _ h => h
  clear Kw_17 p7K p7Z Ba_17 Qa_17 Bb_17 Qb_17 Bd_17 Qd_17 Bv_17 Qv_17 Bu_17 Qu_17
  clear HS
  clear Bu_18 Qu_18
  have HS := Lib.hid (aw_set1 HV2.out p7)
  go_upto_region 22 with (go_at_call 6
                          (with_reducible refine (HS.out).mono ?_)
                          rintro e w14 ⟨A14, n14, c14, r14, rfl, D14, K14⟩
                          have Ban := Ba_18.keep K14 fun h => h
                          have Lan := Ban.lt
                          have Bbn := Bb_18.keep K14 fun h => h
                          have Lbn := Bbn.lt
                          have Bdn := Bd_18.keep K14 fun h => h
                          have Ldn := Bdn.lt
                          have Bvn := Bv_18.keep K14 fun h => h
                          have Lvn := Bvn.lt)
  have Ba_19 := Ban.alloc (.cells #[.int .i64 V2, .slice A14 n14 c14, .int .i64 r14] 26)
  have Qa_19 := (Qa_18.keep K14).keep ((Keep.refl NoF w14).alloc (.cells #[.int .i64 V2, .slice A14 n14 c14, .int .i64 r14] 26))
  have Bb_19 := Bbn.alloc (.cells #[.int .i64 V2, .slice A14 n14 c14, .int .i64 r14] 26)
  have Qb_19 := (Qb_18.keep K14).keep ((Keep.refl NoF w14).alloc (.cells #[.int .i64 V2, .slice A14 n14 c14, .int .i64 r14] 26))
  have Bd_19 := Bdn.alloc (.cells #[.int .i64 V2, .slice A14 n14 c14, .int .i64 r14] 26)
  have Qd_19 := (Qd_18.keep K14).keep ((Keep.refl NoF w14).alloc (.cells #[.int .i64 V2, .slice A14 n14 c14, .int .i64 r14] 26))
  have Bv_19 := Bvn.alloc (.cells #[.int .i64 V2, .slice A14 n14 c14, .int .i64 r14] 26)
  have Qv_19 := (Qv_18.keep K14).keep ((Keep.refl NoF w14).alloc (.cells #[.int .i64 V2, .slice A14 n14 c14, .int .i64 r14] 26))
  have Btwo_19 := Bk.new w14 26 #[.int .i64 V2, .slice A14 n14 c14, .int .i64 r14]
  have Qtwo_19 := D14.keep ((Keep.refl NoF w14).alloc (.cells #[.int .i64 V2, .slice A14 n14 c14, .int .i64 r14] 26))
  have Kw_19 : Keep NoF w (w14.alloc (.cells #[.int .i64 V2, .slice A14 n14 c14, .int .i64 r14] 26)) := (Kw_18.trans K14 fun _ _ h => h).alloc _
  have Gtwo_19 : w.heap.size ≤ w14.heap.size := (Kw_18.trans K14 fun _ _ h => h).size
  generalize w14.alloc (.cells #[.int .i64 V2, .slice A14 n14 c14, .int .i64 r14] 26) = W19 at *
  clear Ba_18 Bb_18 Bd_18 Bv_18 Qa_18 Qb_18 Qd_18 Qv_18 Ban Bbn Bdn Bvn Kw_18 D14 K14
  clear HS
  have HS := Lib.hid (aw_prime HV2.out Qtwo_19)
  have ctwo0 : W19.cell? ⟨w14.heap.size, 0, none⟩ = some (.int .i64 V2) := Btwo_19.cell 0
  have ctwo1 : W19.cell? ⟨w14.heap.size, 1, none⟩ = some (.slice A14 n14 c14) := Btwo_19.cell 1
  have ctwo2 : W19.cell? ⟨w14.heap.size, 2, none⟩ = some (.int .i64 r14) := Btwo_19.cell 2
  go_upto_region 23 with (go_at_call 41
                          (with_reducible refine (HS.out).mono ?_)
                          rintro e w15 ⟨A15, n15, c15, r15, rfl, D15, K15⟩
                          have Ban := Ba_19.keep K15 fun h => h
                          have Lan := Ban.lt
                          have Bbn := Bb_19.keep K15 fun h => h
                          have Lbn := Bbn.lt
                          have Bdn := Bd_19.keep K15 fun h => h
                          have Ldn := Bdn.lt
                          have Bvn := Bv_19.keep K15 fun h => h
                          have Lvn := Bvn.lt
                          have Btwon := Btwo_19.keep K15 fun h => h
                          have Ltwon := Btwon.lt)
  clear ctwo0 ctwo1 ctwo2
  have Ba_20 := Ban.alloc (.cells #[.int .i64 V2, .slice A15 n15 c15, .int .i64 r15] 26)
  have Qa_20 := (Qa_19.keep K15).keep ((Keep.refl NoF w15).alloc (.cells #[.int .i64 V2, .slice A15 n15 c15, .int .i64 r15] 26))
  have Bb_20 := Bbn.alloc (.cells #[.int .i64 V2, .slice A15 n15 c15, .int .i64 r15] 26)
  have Qb_20 := (Qb_19.keep K15).keep ((Keep.refl NoF w15).alloc (.cells #[.int .i64 V2, .slice A15 n15 c15, .int .i64 r15] 26))
  have Bd_20 := Bdn.alloc (.cells #[.int .i64 V2, .slice A15 n15 c15, .int .i64 r15] 26)
  have Qd_20 := (Qd_19.keep K15).keep ((Keep.refl NoF w15).alloc (.cells #[.int .i64 V2, .slice A15 n15 c15, .int .i64 r15] 26))
  have Bv_20 := Bvn.alloc (.cells #[.int .i64 V2, .slice A15 n15 c15, .int .i64 r15] 26)
  have Qv_20 := (Qv_19.keep K15).keep ((Keep.refl NoF w15).alloc (.cells #[.int .i64 V2, .slice A15 n15 c15, .int .i64 r15] 26))
  have Btwo_20 := Btwon.alloc (.cells #[.int .i64 V2, .slice A15 n15 c15, .int .i64 r15] 26)
  have Qtwo_20 := (Qtwo_19.keep K15).keep ((Keep.refl NoF w15).alloc (.cells #[.int .i64 V2, .slice A15 n15 c15, .int .i64 r15] 26))
  have Bp_20 := Bk.new w15 26 #[.int .i64 V2, .slice A15 n15 c15, .int .i64 r15]
  have Qp_20 := D15.keep ((Keep.refl NoF w15).alloc (.cells #[.int .i64 V2, .slice A15 n15 c15, .int .i64 r15] 26))
  have Kw_20 : Keep NoF w (w15.alloc (.cells #[.int .i64 V2, .slice A15 n15 c15, .int .i64 r15] 26)) := (Kw_19.trans K15 fun _ _ h => h).alloc _
  have Gp_20 : w.heap.size ≤ w15.heap.size := (Kw_19.trans K15 fun _ _ h => h).size
  generalize w15.alloc (.cells #[.int .i64 V2, .slice A15 n15 c15, .int .i64 r15] 26) = W20 at *
  clear Ba_19 Bb_19 Bd_19 Bv_19 Btwo_19 Qa_19 Qb_19 Qd_19 Qv_19 Qtwo_19 Ban Bbn Bdn Bvn Btwon Kw_19 D15 K15
  clear HS
  clear Btwo_20 Qtwo_20
  have HIa : Hid (∀ W, Keep NoF W20 W → Calls Tryd.prog 21 #[.agg #[.int .i64 V, .slice A9 n9 c9, .int .i64 r9], .int .i64 0, .int .u64 6] W fun e w' => e = .returned (.bool true) ∧ Keep NoF W w') := Lib.hid fun W hk => aw_is HV.out 6 (by omega) (Qa_20.keep hk)
  have HIb : Hid (∀ W, Keep NoF W20 W → Calls Tryd.prog 21 #[.agg #[.int .i64 V, .slice A10 n10 c10, .int .i64 r10], .int .i64 0, .int .u64 14] W fun e w' => e = .returned (.bool true) ∧ Keep NoF W w') := Lib.hid fun W hk => aw_is HV.out 14 (by omega) (Qb_20.keep hk)
  have HId : Hid (∀ W, Keep NoF W20 W → Calls Tryd.prog 21 #[.agg #[.int .i64 V, .slice A11 n11 c11, .int .i64 r11], .int .i64 0, .int .u64 15] W fun e w' => e = .returned (.bool true) ∧ Keep NoF W w') := Lib.hid fun W hk => aw_is HV.out 15 (by omega) (Qd_20.keep hk)
  have HSD := Lib.hid fun W (hk : Keep NoF W20 W) => aw_samed (Qp_20.keep hk) (Qv_20.keep hk)
  have ca0 : W20.cell? ⟨w6.heap.size, 0, none⟩ = some (.int .i64 V) := Ba_20.cell 0
  have ca1 : W20.cell? ⟨w6.heap.size, 1, none⟩ = some (.slice A9 n9 c9) := Ba_20.cell 1
  have ca2 : W20.cell? ⟨w6.heap.size, 2, none⟩ = some (.int .i64 r9) := Ba_20.cell 2
  go_wp2_with (first
               | (go_at_call 21
                  (with_reducible refine (HIa.out _ (Keep.refl NoF W20)).mono ?_)
                  rintro e p8 ⟨rfl, p8Z⟩
                  have p8K : Keep NoF W20 p8 := (Keep.refl NoF W20).trans p8Z fun _ _ h => h
                  have mb0 : p8.cell? ⟨w7.heap.size, 0, none⟩ = some (.int .i64 V) := (Bb_20.keep p8K fun h => h).cell 0
                  have mb1 : p8.cell? ⟨w7.heap.size, 1, none⟩ = some (.slice A10 n10 c10) := (Bb_20.keep p8K fun h => h).cell 1
                  have mb2 : p8.cell? ⟨w7.heap.size, 2, none⟩ = some (.int .i64 r10) := (Bb_20.keep p8K fun h => h).cell 2)
               | (go_at_call 21
                  (with_reducible refine (HIb.out _ p8K).mono ?_)
                  rintro e p9 ⟨rfl, p9Z⟩
                  have p9K : Keep NoF W20 p9 := p8K.trans p9Z fun _ _ h => h
                  have md0 : p9.cell? ⟨w8.heap.size, 0, none⟩ = some (.int .i64 V) := (Bd_20.keep p9K fun h => h).cell 0
                  have md1 : p9.cell? ⟨w8.heap.size, 1, none⟩ = some (.slice A11 n11 c11) := (Bd_20.keep p9K fun h => h).cell 1
                  have md2 : p9.cell? ⟨w8.heap.size, 2, none⟩ = some (.int .i64 r11) := (Bd_20.keep p9K fun h => h).cell 2)
               | (go_at_call 21
                  (with_reducible refine (HId.out _ p9K).mono ?_)
                  rintro e pa ⟨rfl, paZ⟩
                  have paK : Keep NoF W20 pa := p9K.trans paZ fun _ _ h => h
                  have mp0 : pa.cell? ⟨w15.heap.size, 0, none⟩ = some (.int .i64 V2) := (Bp_20.keep paK fun h => h).cell 0
                  have mp1 : pa.cell? ⟨w15.heap.size, 1, none⟩ = some (.slice A15 n15 c15) := (Bp_20.keep paK fun h => h).cell 1
                  have mp2 : pa.cell? ⟨w15.heap.size, 2, none⟩ = some (.int .i64 r15) := (Bp_20.keep paK fun h => h).cell 2
                  have mv0 : pa.cell? ⟨w12.heap.size, 0, none⟩ = some (.int .i64 V2) := (Bv_20.keep paK fun h => h).cell 0
                  have mv1 : pa.cell? ⟨w12.heap.size, 1, none⟩ = some (.slice A12 n12 c12) := (Bv_20.keep paK fun h => h).cell 1
                  have mv2 : pa.cell? ⟨w12.heap.size, 2, none⟩ = some (.int .i64 r12) := (Bv_20.keep paK fun h => h).cell 2)
               | (go_at_call 42
                  (with_reducible refine (HSD.out _ paK).mono ?_)
                  rintro e pb ⟨rfl, pbZ⟩
                  have pbK : Keep NoF W20 pb := paK.trans pbZ fun _ _ h => h))
  clear ca0 ca1 ca2
  clear mb0 mb1 mb2 md0 md1 md2 mp0 mp1 mp2 mv0 mv1 mv2
  have Ba_21 := Ba_20.keep pbK fun h => h
  have Qa_21 := Qa_20.keep pbK
  have Bb_21 := Bb_20.keep pbK fun h => h
  have Qb_21 := Qb_20.keep pbK
  have Bd_21 := Bd_20.keep pbK fun h => h
  have Qd_21 := Qd_20.keep pbK
  have Bv_21 := Bv_20.keep pbK fun h => h
  have Qv_21 := Qv_20.keep pbK
  have Bp_21 := Bp_20.keep pbK fun h => h
  have Qp_21 := Qp_20.keep pbK
  have Kw_21 := Kw_20.trans pbK fun _ _ h => h
  clear Kw_20 p8K p9K paK pbK p8Z p9Z paZ pbZ Ba_20 Qa_20 Bb_20 Qb_20 Bd_20 Qd_20 Bv_20 Qv_20 Bp_20 Qp_20
  go_ret
  exact ⟨rfl, Kw_21⟩
end
end Go.Proofs.YtgdmcidcappkpaaDoor
