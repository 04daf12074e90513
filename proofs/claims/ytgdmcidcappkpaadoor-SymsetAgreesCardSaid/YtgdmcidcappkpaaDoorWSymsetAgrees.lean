/- The law SymsetAgrees answers true. Conditions: the library's table of trailing zeros lies in its variable. -/
import Derived.Test.YtgdmcidcappkpaaDoorRlH
import Derived.Test.YtgdmcidcappkpaaDoorRlR
import Derived.Deep.RegionHeld3
set_option linter.unusedVariables false
set_option linter.unusedSimpArgs false
namespace Go.Proofs.YtgdmcidcappkpaaDoor
open Go.RowKit Go.Shelf
open Dd (Rn rat ofN toN checkErr den lo var Within Valid supp canon setF relF imN prN boN cvN)

section
variable {V : Nat} (hV : V = 2 * 3) {L : List Nat} {s : Nat} {w : World} {A1 : Option Addr} {n1 c1 r1 : Nat} {A2 : Option Addr} {n2 c2 r2 : Nat}
include hV
theorem pre3 (D1 : IsD w V (relF 3 L) A1 n1 c1 r1) (D2 : IsD w V (setF 3 s 0) A2 n2 c2 r2) : Calls Tryd.prog 17 #[.agg #[.int .i64 V, .slice A1 n1 c1, .int .i64 r1], .agg #[.int .i64 V, .slice A2 n2 c2, .int .i64 r2]] w (DP w V (setF 3 (prN 3 L s) 0)) :=
  (Pre_ok (by omega) (by omega) (setF_noOdd 3 s) A1 n1 c1 r1 A2 n2 c2 r2 w D1 D2).mono fun e w' h => h.congr fun ρ => by subst hV; exact Dd.pr_law ρ
theorem box3 (D1 : IsD w V (relF 3 L) A1 n1 c1 r1) (D2 : IsD w V (setF 3 s 0) A2 n2 c2 r2) : Calls Tryd.prog 18 #[.agg #[.int .i64 V, .slice A1 n1 c1, .int .i64 r1], .agg #[.int .i64 V, .slice A2 n2 c2, .int .i64 r2]] w (DP w V (setF 3 (boN 3 L s) 0)) :=
  (Box_ok (by omega) (by omega) (setF_noOdd 3 s) A1 n1 c1 r1 A2 n2 c2 r2 w D1 D2).mono fun e w' h => h.congr fun ρ => by subst hV; exact Dd.bo_law ρ
theorem image3 (D1 : IsD w V (relF 3 L) A1 n1 c1 r1) (D2 : IsD w V (setF 3 s 0) A2 n2 c2 r2) : Calls Tryd.prog 19 #[.agg #[.int .i64 V, .slice A1 n1 c1, .int .i64 r1], .agg #[.int .i64 V, .slice A2 n2 c2, .int .i64 r2]] w (DP w V (setF 3 (imN 3 L s) 0)) :=
  (Image_ok (by omega) (by omega) (setF_noOdd 3 s) A1 n1 c1 r1 A2 n2 c2 r2 w D1 D2).mono fun e w' h => h.congr fun ρ => by subst hV; exact Dd.im_law ρ
theorem conv3 (D1 : IsD w V (relF 3 L) A1 n1 c1 r1) : Calls Tryd.prog 14 #[.agg #[.int .i64 V, .slice A1 n1 c1, .int .i64 r1]] w (DP w V (relF 3 (cvN 3 L))) :=
  (Converse_ok (by omega) (by omega) A1 n1 c1 r1 w D1).mono fun e w' h => h.congr fun ρ => by subst hV; exact Dd.cv_law ρ
theorem pairs3 (hL : L.length = 8) (hx : ∀ x ∈ L, x < 256) (D1 : IsD w V (relF 3 L) A1 n1 c1 r1) : Calls Tryd.prog 15 #[.agg #[.int .i64 V, .slice A1 n1 c1, .int .i64 r1]] w fun e w' => ∃ AL cL, e = .returned (.tuple #[.slice AL 8 cL, .int .i64 0]) ∧ Rd w' (.slice AL 8 cL) 1 8 (n64 L) ∧ Keep NoF w w' := by
  subst hV
  have h := Pairs_ok 3 (by omega) D1
  rw [Dd.pairsN_rel hL hx] at h
  exact h.mono fun e w' hp => by unfold ListPost at hp; rw [hL] at hp; exact hp
theorem is3 {S T : Nat} (hS : S < 256) (hT : S = T) (D1 : IsD w V (setF 3 S 0) A1 n1 c1 r1) : Calls Tryd.prog 21 #[.agg #[.int .i64 V, .slice A1 n1 c1, .int .i64 r1], .int .i64 0, .int .u64 T] w fun e w' => e = .returned (.bool true) ∧ Keep NoF w w' := by
  have h := is_ok 3 (by omega) S T (by omega) V hV A1 n1 c1 r1 w D1
  rw [decide_eq_true hT] at h
  exact h
end
theorem cv_len (L : List Nat) : (cvN 3 L).length = 8 := by unfold cvN; simp
theorem cv_lt (L : List Nat) : ∀ x ∈ cvN 3 L, x < 256 := fun x hx => by
  unfold cvN at hx
  obtain ⟨v, -, rfl⟩ := List.mem_map.1 hx
  exact Dd.enc_lt _ _
theorem pr_cv (L : List Nat) (s : Nat) : prN 3 (cvN 3 L) s = imN 3 L s := by
  apply Nat.eq_of_testBit_eq
  intro i
  rw [Bool.eq_iff_iff, prN_bit, imN_bit]
  refine and_congr_right fun hi => exists_congr fun v => and_congr_right fun hv => ?_
  rw [And.comm]
  refine and_congr_right fun _ => ?_
  unfold cvN
  rw [List.getD_eq_getElem?_getD, List.getElem?_map, List.getElem?_range hi, Option.map_some, Option.getD_some, Dd.enc_bit, decide_eq_true hv, Bool.true_and]
section
set_option maxRecDepth 100000
set_option maxHeartbeats 4000000
theorem walk_SymsetAgrees (x0 x1 x2 x3 x4 x5 x6 x7 s : Nat) (w : World) (h0 : x0 < 256) (h1 : x1 < 256) (h2 : x2 < 256) (h3 : x3 < 256) (h4 : x4 < 256) (h5 : x5 < 256) (h6 : x6 < 256) (h7 : x7 < 256) (hs : s < 256) (ht : Tab w) : Calls Tryd.prog 4 #[.agg #[.int .u8 x0, .int .u8 x1, .int .u8 x2, .int .u8 x3, .int .u8 x4, .int .u8 x5, .int .u8 x6, .int .u8 x7], .int .u8 s] w fun e w' => e = .returned (.bool true) ∧ Keep NoF w w' := by
  obtain ⟨V, hV⟩ : ∃ V, V = 2 * 3 := ⟨_, rfl⟩
  have hx : ∀ x ∈ [x0, x1, x2, x3, x4, x5, x6, x7], x < 256 := by simp only [List.mem_cons, List.not_mem_nil, or_false]; rintro x (rfl | rfl | rfl | rfl | rfl | rfl | rfl | rfl) <;> assumption
  obtain ⟨m, hm⟩ := reach_end 3 [x0, x1, x2, x3, x4, x5, x6, x7] (imN 3 [x0, x1, x2, x3, x4, x5, x6, x7] s) (imN_lt 3 [x0, x1, x2, x3, x4, x5, x6, x7] s)
  have HS : Hid (∀ W : World, Calls Tryd.prog 5 #[.agg #[.int .u8 x0, .int .u8 x1, .int .u8 x2, .int .u8 x3, .int .u8 x4, .int .u8 x5, .int .u8 x6, .int .u8 x7], .int .u8 s] W fun e w' => ∃ (A1 : Option Addr) (c1 : Nat) (A2 : Option Addr) (n2 c2 r2 : Nat) (A3 : Option Addr) (n3 c3 r3 : Nat),
    e = .returned (.tuple #[.slice A1 8 c1, .agg #[.int .i64 V, .slice A2 n2 c2, .int .i64 r2], .agg #[.int .i64 V, .slice A3 n3 c3, .int .i64 r3], .bool true]) ∧ Rd w' (.slice A1 8 c1) 1 8 (n64 [x0, x1, x2, x3, x4, x5, x6, x7]) ∧ IsD w' V (relF 3 [x0, x1, x2, x3, x4, x5, x6, x7]) A2 n2 c2 r2 ∧ IsD w' V (setF 3 s 0) A3 n3 c3 r3 ∧ Keep NoF W w') := Lib.hid fun W => states_ok [x0, x1, x2, x3, x4, x5, x6, x7] rfl hx s hs V hV W
  have HRC : Hid (∀ (W : World) A c, Rd W (.slice A 8 c) 1 8 (n64 [x0, x1, x2, x3, x4, x5, x6, x7]) → Keep NoF w W → Calls Tryd.prog 13 #[.slice A 8 c] W fun e w' => ∃ A' c', e = .returned (.tuple #[.slice A' 8 c', .int .i64 0]) ∧ Rd w' (.slice A' 8 c') 1 8 (n64 (cvN 3 [x0, x1, x2, x3, x4, x5, x6, x7])) ∧ Keep NoF W w') :=
    Lib.hid fun W A c hrd hk => rlConverse_any [x0, x1, x2, x3, x4, x5, x6, x7] (ok8 rfl hx) rfl A c W hrd (ht.keep0 hk)
  have HDC := Lib.hid fun (W : World) A1 n1 c1 r1 (D : IsD W V (relF 3 [x0, x1, x2, x3, x4, x5, x6, x7]) A1 n1 c1 r1) => conv3 hV D
  have HPR := Lib.hid fun (W : World) A1 n1 c1 r1 (D : IsD W V (relF 3 (cvN 3 [x0, x1, x2, x3, x4, x5, x6, x7])) A1 n1 c1 r1) => pairs3 hV (cv_len [x0, x1, x2, x3, x4, x5, x6, x7]) (cv_lt [x0, x1, x2, x3, x4, x5, x6, x7]) D
  have HEQ : Hid (∀ A B c d W, Rd W (.slice A 8 c) 1 8 (n64 (cvN 3 [x0, x1, x2, x3, x4, x5, x6, x7])) → Rd W (.slice B 8 d) 1 8 (n64 (cvN 3 [x0, x1, x2, x3, x4, x5, x6, x7])) → Calls Tryd.prog 16 #[.slice A 8 c, .slice B 8 d] W fun e w' => e = .returned (.bool true) ∧ Keep NoF W w') := Lib.hid fun A B c d W h1 h2 => by
    have := Same2_any (cvN 3 [x0, x1, x2, x3, x4, x5, x6, x7]) A B c d W (by rw [cv_len]; omega) (by rw [cv_len]; exact h1) (by rw [cv_len]; exact h2)
    rw [cv_len] at this
    exact this
  have HPRE := Lib.hid fun (W : World) A1 n1 c1 r1 A2 n2 c2 r2 (D : IsD W V (relF 3 [x0, x1, x2, x3, x4, x5, x6, x7]) A1 n1 c1 r1) (E : IsD W V (setF 3 s 0) A2 n2 c2 r2) => pre3 hV D E
  have HBOX := Lib.hid fun (W : World) A1 n1 c1 r1 A2 n2 c2 r2 (D : IsD W V (relF 3 [x0, x1, x2, x3, x4, x5, x6, x7]) A1 n1 c1 r1) (E : IsD W V (setF 3 s 0) A2 n2 c2 r2) => box3 hV D E
  have HIMG := Lib.hid fun (W : World) A1 n1 c1 r1 A2 n2 c2 r2 (D : IsD W V (relF 3 [x0, x1, x2, x3, x4, x5, x6, x7]) A1 n1 c1 r1) (E : IsD W V (setF 3 s 0) A2 n2 c2 r2) => image3 hV D E
  have HREA : Hid (∀ (W : World) A1 n1 c1 r1 A2 n2 c2 r2, IsD W V (relF 3 [x0, x1, x2, x3, x4, x5, x6, x7]) A1 n1 c1 r1 → IsD W V (setF 3 s 0) A2 n2 c2 r2 → Calls Tryd.prog 20 #[.agg #[.int .i64 V, .slice A1 n1 c1, .int .i64 r1], .agg #[.int .i64 V, .slice A2 n2 c2, .int .i64 r2]] W (DP W V (setF 3 (iterN (reS 3 [x0, x1, x2, x3, x4, x5, x6, x7]) m (imN 3 [x0, x1, x2, x3, x4, x5, x6, x7] s)) 0))) :=
    Lib.hid fun W A1 n1 c1 r1 A2 n2 c2 r2 D E => Reach_ok 3 (by omega) [x0, x1, x2, x3, x4, x5, x6, x7] s V m hV hm A1 n1 c1 r1 A2 n2 c2 r2 W D E
  have HD1 : Hid (∀ A c W, Rd W (.slice A 8 c) 1 8 (n64 [x0, x1, x2, x3, x4, x5, x6, x7]) → Calls Tryd.prog 22 #[.slice A 8 c, .int .u64 s] W fun e w' => e = .returned (.int .u64 (prN 3 [x0, x1, x2, x3, x4, x5, x6, x7] s)) ∧ w' = W) := Lib.hid fun A c W h => by
    have := Diamond_any [x0, x1, x2, x3, x4, x5, x6, x7] (ok8 rfl hx) s (by omega) A c W h
    rw [dia_eq (k := 3) (by omega) rfl hx (by omega)] at this
    exact this
  have HB1 : Hid (∀ A c W, Rd W (.slice A 8 c) 1 8 (n64 [x0, x1, x2, x3, x4, x5, x6, x7]) → Calls Tryd.prog 10 #[.slice A 8 c, .int .u64 s] W fun e w' => e = .returned (.int .u64 (boN 3 [x0, x1, x2, x3, x4, x5, x6, x7] s)) ∧ w' = W) := Lib.hid fun A c W h => by
    have := Box_any [x0, x1, x2, x3, x4, x5, x6, x7] (ok8 rfl hx) s (by omega) A c W h
    rw [box_eq (k := 3) (by omega) rfl hx (by omega)] at this
    exact this
  have HD2 : Hid (∀ A c W, Rd W (.slice A 8 c) 1 8 (n64 (cvN 3 [x0, x1, x2, x3, x4, x5, x6, x7])) → Calls Tryd.prog 22 #[.slice A 8 c, .int .u64 s] W fun e w' => e = .returned (.int .u64 (imN 3 [x0, x1, x2, x3, x4, x5, x6, x7] s)) ∧ w' = W) := Lib.hid fun A c W h => by
    have := Diamond_any (cvN 3 [x0, x1, x2, x3, x4, x5, x6, x7]) (ok8 (cv_len [x0, x1, x2, x3, x4, x5, x6, x7]) (cv_lt [x0, x1, x2, x3, x4, x5, x6, x7])) s (by omega) A c W (by rw [cv_len]; exact h)
    rw [dia_eq (k := 3) (by omega) (cv_len [x0, x1, x2, x3, x4, x5, x6, x7]) (cv_lt [x0, x1, x2, x3, x4, x5, x6, x7]) (by omega), pr_cv, cv_len] at this
    exact this
  have HRE : Hid (∀ A c W, Rd W (.slice A 8 c) 1 8 (n64 [x0, x1, x2, x3, x4, x5, x6, x7]) → Keep NoF w W → Calls Tryd.prog 11 #[.slice A 8 c, .int .u64 s] W fun e w' => e = .returned (.int .u64 (iterN (reS 3 [x0, x1, x2, x3, x4, x5, x6, x7]) m (imN 3 [x0, x1, x2, x3, x4, x5, x6, x7] s))) ∧ Keep NoF W w') :=
    Lib.hid fun A c W h hk => reach3_ok [x0, x1, x2, x3, x4, x5, x6, x7] rfl hx s hs m hm A c W h (ht.keep0 hk)
  have HIS : Hid (∀ (W : World) S, S < 256 → ∀ A1 n1 c1 r1, IsD W V (setF 3 S 0) A1 n1 c1 r1 → Calls Tryd.prog 21 #[.agg #[.int .i64 V, .slice A1 n1 c1, .int .i64 r1], .int .i64 0, .int .u64 S] W fun e w' => e = .returned (.bool true) ∧ Keep NoF W w') := Lib.hid fun W S hS A1 n1 c1 r1 D => is3 hV hS rfl D
  have hP : prN 3 [x0, x1, x2, x3, x4, x5, x6, x7] s < 256 := Dd.enc_lt _ _
  have hB : boN 3 [x0, x1, x2, x3, x4, x5, x6, x7] s < 256 := boN_lt 3 [x0, x1, x2, x3, x4, x5, x6, x7] s
  have hI : imN 3 [x0, x1, x2, x3, x4, x5, x6, x7] s < 256 := imN_lt 3 [x0, x1, x2, x3, x4, x5, x6, x7] s
  have hR : iterN (reS 3 [x0, x1, x2, x3, x4, x5, x6, x7]) m (imN 3 [x0, x1, x2, x3, x4, x5, x6, x7] s) < 256 := re_lt 3 [x0, x1, x2, x3, x4, x5, x6, x7] _ (imN_lt 3 [x0, x1, x2, x3, x4, x5, x6, x7] s) m
  have b8 := Bk.new w 22 #[.int .u8 x0, .int .u8 x1, .int .u8 x2, .int .u8 x3, .int .u8 x4, .int .u8 x5, .int .u8 x6, .int .u8 x7]
  have Kw0 : Keep NoF w (w.alloc (.cells #[.int .u8 x0, .int .u8 x1, .int .u8 x2, .int .u8 x3, .int .u8 x4, .int .u8 x5, .int .u8 x6, .int .u8 x7] 22)) := (Keep.refl _ _).alloc _
  clear hV hx hm
  generalize iterN (reS 3 [x0, x1, x2, x3, x4, x5, x6, x7]) m (imN 3 [x0, x1, x2, x3, x4, x5, x6, x7] s) = SR at *
  generalize prN 3 [x0, x1, x2, x3, x4, x5, x6, x7] s = SP at *
  generalize boN 3 [x0, x1, x2, x3, x4, x5, x6, x7] s = SB at *
  generalize imN 3 [x0, x1, x2, x3, x4, x5, x6, x7] s = SI at *
  generalize relF 3 (cvN 3 [x0, x1, x2, x3, x4, x5, x6, x7]) = FC at *
  generalize relF 3 [x0, x1, x2, x3, x4, x5, x6, x7] = F at *
  generalize n64 (cvN 3 [x0, x1, x2, x3, x4, x5, x6, x7]) = NC at *
  generalize n64 [x0, x1, x2, x3, x4, x5, x6, x7] = NL at *
  go_enter Tryd.func4, Tryd.ntmps4
  go_upto_region 1 with (fail)
  generalize w.alloc (.cells #[.int .u8 x0, .int .u8 x1, .int .u8 x2, .int .u8 x3, .int .u8 x4, .int .u8 x5, .int .u8 x6, .int .u8 x7] 22) = W0 at *
  have u0 := b8.cell 0
  have u1 := b8.cell 1
  have u2 := b8.cell 2
  have u3 := b8.cell 3
  have u4 := b8.cell 4
  have u5 := b8.cell 5
  have u6 := b8.cell 6
  have u7 := b8.cell 7
  go_upto_region 2 with (go_at_call 5
                         (with_reducible refine (HS.out _).mono ?_)
                         rintro e w1 ⟨A1, c1, A2, n2, c2, r2, A3, n3, c3, r3, rfl, RL, D2, D3, K1⟩)
  clear u0 u1 u2 u3 u4 u5 u6 u7 b8
  have Ba := (Bk.new w1 26 #[.int .i64 V, .slice A2 n2 c2, .int .i64 r2]).alloc (.cells #[.int .i64 V, .slice A3 n3 c3, .int .i64 r3] 26)
  have Bb := Bk.new (w1.alloc (.cells #[.int .i64 V, .slice A2 n2 c2, .int .i64 r2] 26)) 26 #[.int .i64 V, .slice A3 n3 c3, .int .i64 r3]
  simp only [World.size_alloc] at Bb
  have KN : Keep NoF w1 ((w1.alloc (.cells #[.int .i64 V, .slice A2 n2 c2, .int .i64 r2] 26)).alloc (.cells #[.int .i64 V, .slice A3 n3 c3, .int .i64 r3] 26)) := ((Keep.refl _ _).alloc _).alloc _
  have Qa := D2.keep KN
  have Qb := D3.keep KN
  have R1 := RL.kept KN fun _ _ h => h
  have Kw := (Kw0.trans K1 fun _ _ h => h).trans KN fun _ _ h => h
  have G1 : w.heap.size ≤ w1.heap.size := (Kw0.trans K1 fun _ _ h => h).size
  generalize (w1.alloc (.cells #[.int .i64 V, .slice A2 n2 c2, .int .i64 r2] 26)).alloc (.cells #[.int .i64 V, .slice A3 n3 c3, .int .i64 r3] 26) = W1 at *
  clear Kw0 K1 D2 D3 RL KN
  go_upto_region 5 with (first
                         | (go_at_call 13
                            (with_reducible refine (HRC.out _ _ _ (R1.kept (Keep.refl NoF W1) fun _ _ h => h) (Kw.trans (Keep.refl NoF W1) fun _ _ h => h)).mono ?_)
                            rintro e p1 ⟨A9, c9, rfl, R9, p1Z⟩
                            have p1K : Keep NoF W1 p1 := (Keep.refl NoF W1).trans p1Z fun _ _ h => h)
                         | fail)
  have Ba_1 := Ba.keep p1K fun h => h
  have Qa_1 := Qa.keep p1K
  have Bb_1 := Bb.keep p1K fun h => h
  have Qb_1 := Qb.keep p1K
  have R1_1 := R1.kept p1K fun _ _ h => h
  have Kw_1 := Kw.trans p1K fun _ _ h => h
  clear Kw p1K p1Z Ba Qa Bb Qb R1
  have ca0 : p1.cell? ⟨w1.heap.size, 0, none⟩ = some (.int .i64 V) := Ba_1.cell 0
  have ca1 : p1.cell? ⟨w1.heap.size, 1, none⟩ = some (.slice A2 n2 c2) := Ba_1.cell 1
  have ca2 : p1.cell? ⟨w1.heap.size, 2, none⟩ = some (.int .i64 r2) := Ba_1.cell 2
  go_upto_region 6 with (go_at_call 14
                         (with_reducible refine (HDC.out _ _ _ _ _ Qa_1).mono ?_)
                         rintro e w4 ⟨A4, n4, c4, r4, rfl, D4, K4⟩
                         have Ban := Ba_1.keep K4 fun h => h
                         have Lan := Ban.lt
                         have Bbn := Bb_1.keep K4 fun h => h
                         have Lbn := Bbn.lt)
  clear ca0 ca1 ca2
  have Ba_2 := Ban.alloc (.cells #[.int .i64 V, .slice A4 n4 c4, .int .i64 r4] 26)
  have Qa_2 := (Qa_1.keep K4).keep ((Keep.refl NoF w4).alloc (.cells #[.int .i64 V, .slice A4 n4 c4, .int .i64 r4] 26))
  have Bb_2 := Bbn.alloc (.cells #[.int .i64 V, .slice A4 n4 c4, .int .i64 r4] 26)
  have Qb_2 := (Qb_1.keep K4).keep ((Keep.refl NoF w4).alloc (.cells #[.int .i64 V, .slice A4 n4 c4, .int .i64 r4] 26))
  have R1_2 := (R1_1.kept K4 fun _ _ h => h).kept ((Keep.refl NoF w4).alloc (.cells #[.int .i64 V, .slice A4 n4 c4, .int .i64 r4] 26)) fun _ _ h => h
  have R9_2 := (R9.kept K4 fun _ _ h => h).kept ((Keep.refl NoF w4).alloc (.cells #[.int .i64 V, .slice A4 n4 c4, .int .i64 r4] 26)) fun _ _ h => h
  have Bx_2 := Bk.new w4 26 #[.int .i64 V, .slice A4 n4 c4, .int .i64 r4]
  have Qx_2 := D4.keep ((Keep.refl NoF w4).alloc (.cells #[.int .i64 V, .slice A4 n4 c4, .int .i64 r4] 26))
  have Kw_2 : Keep NoF w (w4.alloc (.cells #[.int .i64 V, .slice A4 n4 c4, .int .i64 r4] 26)) := (Kw_1.trans K4 fun _ _ h => h).alloc _
  have Gx_2 : w.heap.size ≤ w4.heap.size := (Kw_1.trans K4 fun _ _ h => h).size
  generalize w4.alloc (.cells #[.int .i64 V, .slice A4 n4 c4, .int .i64 r4] 26) = W2 at *
  clear Ba_1 Bb_1 Qa_1 Qb_1 Ban Bbn Kw_1 D4 K4 R1_1 R9
  have cx0 : W2.cell? ⟨w4.heap.size, 0, none⟩ = some (.int .i64 V) := Bx_2.cell 0
  have cx1 : W2.cell? ⟨w4.heap.size, 1, none⟩ = some (.slice A4 n4 c4) := Bx_2.cell 1
  have cx2 : W2.cell? ⟨w4.heap.size, 2, none⟩ = some (.int .i64 r4) := Bx_2.cell 2
  go_upto_region 7 with (first
                         | (go_at_call 15
                            (with_reducible refine (HPR.out _ _ _ _ _ (Qx_2.keep (Keep.refl NoF W2))).mono ?_)
                            rintro e p2 ⟨AL, cL, rfl, RP, p2Z⟩
                            have p2K : Keep NoF W2 p2 := (Keep.refl NoF W2).trans p2Z fun _ _ h => h)
                         | fail)
  clear cx0 cx1 cx2
  have Ba_3 := Ba_2.keep p2K fun h => h
  have Qa_3 := Qa_2.keep p2K
  have Bb_3 := Bb_2.keep p2K fun h => h
  have Qb_3 := Qb_2.keep p2K
  have Bx_3 := Bx_2.keep p2K fun h => h
  have Qx_3 := Qx_2.keep p2K
  have R1_3 := R1_2.kept p2K fun _ _ h => h
  have R9_3 := R9_2.kept p2K fun _ _ h => h
  have Kw_3 := Kw_2.trans p2K fun _ _ h => h
  clear Kw_2 p2K p2Z Ba_2 Qa_2 Bb_2 Qb_2 Bx_2 Qx_2 R1_2 R9_2
  go_upto_region 9 with (first
                         | (go_at_call 16
                            (with_reducible refine (HEQ.out _ _ _ _ _ (R9_3.kept (Keep.refl NoF p2) fun _ _ h => h) (RP.kept (Keep.refl NoF p2) fun _ _ h => h)).mono ?_)
                            rintro e p3 ⟨rfl, p3Z⟩
                            have p3K : Keep NoF p2 p3 := (Keep.refl NoF p2).trans p3Z fun _ _ h => h)
                         | fail)
  have Ba_4 := Ba_3.keep p3K fun h => h
  have Qa_4 := Qa_3.keep p3K
  have Bb_4 := Bb_3.keep p3K fun h => h
  have Qb_4 := Qb_3.keep p3K
  have Bx_4 := Bx_3.keep p3K fun h => h
  have Qx_4 := Qx_3.keep p3K
  have R1_4 := R1_3.kept p3K fun _ _ h => h
  have R9_4 := R9_3.kept p3K fun _ _ h => h
  have RP_4 := RP.kept p3K fun _ _ h => h
  have Kw_4 := Kw_3.trans p3K fun _ _ h => h
  clear Kw_3 p3K p3Z Ba_3 Qa_3 Bb_3 Qb_3 Bx_3 Qx_3 R1_3 R9_3 RP
  have ca0 : p3.cell? ⟨w1.heap.size, 0, none⟩ = some (.int .i64 V) := Ba_4.cell 0
  have ca1 : p3.cell? ⟨w1.heap.size, 1, none⟩ = some (.slice A2 n2 c2) := Ba_4.cell 1
  have ca2 : p3.cell? ⟨w1.heap.size, 2, none⟩ = some (.int .i64 r2) := Ba_4.cell 2
  have cb0 : p3.cell? ⟨w1.heap.size + 1, 0, none⟩ = some (.int .i64 V) := Bb_4.cell 0
  have cb1 : p3.cell? ⟨w1.heap.size + 1, 1, none⟩ = some (.slice A3 n3 c3) := Bb_4.cell 1
  have cb2 : p3.cell? ⟨w1.heap.size + 1, 2, none⟩ = some (.int .i64 r3) := Bb_4.cell 2
  go_upto_region 10 with (go_at_call 17
                          (with_reducible refine (HPRE.out _ _ _ _ _ _ _ _ _ Qa_4 Qb_4).mono ?_)
                          rintro e w5 ⟨A5, n5, c5, r5, rfl, D5, K5⟩
                          have Ban := Ba_4.keep K5 fun h => h
                          have Lan := Ban.lt
                          have Bbn := Bb_4.keep K5 fun h => h
                          have Lbn := Bbn.lt
                          have Bxn := Bx_4.keep K5 fun h => h
                          have Lxn := Bxn.lt)
  clear ca0 ca1 ca2 cb0 cb1 cb2
  have Ba_5 := Ban.alloc (.cells #[.int .i64 V, .slice A5 n5 c5, .int .i64 r5] 26)
  have Qa_5 := (Qa_4.keep K5).keep ((Keep.refl NoF w5).alloc (.cells #[.int .i64 V, .slice A5 n5 c5, .int .i64 r5] 26))
  have Bb_5 := Bbn.alloc (.cells #[.int .i64 V, .slice A5 n5 c5, .int .i64 r5] 26)
  have Qb_5 := (Qb_4.keep K5).keep ((Keep.refl NoF w5).alloc (.cells #[.int .i64 V, .slice A5 n5 c5, .int .i64 r5] 26))
  have Bx_5 := Bxn.alloc (.cells #[.int .i64 V, .slice A5 n5 c5, .int .i64 r5] 26)
  have Qx_5 := (Qx_4.keep K5).keep ((Keep.refl NoF w5).alloc (.cells #[.int .i64 V, .slice A5 n5 c5, .int .i64 r5] 26))
  have R1_5 := (R1_4.kept K5 fun _ _ h => h).kept ((Keep.refl NoF w5).alloc (.cells #[.int .i64 V, .slice A5 n5 c5, .int .i64 r5] 26)) fun _ _ h => h
  have R9_5 := (R9_4.kept K5 fun _ _ h => h).kept ((Keep.refl NoF w5).alloc (.cells #[.int .i64 V, .slice A5 n5 c5, .int .i64 r5] 26)) fun _ _ h => h
  have RP_5 := (RP_4.kept K5 fun _ _ h => h).kept ((Keep.refl NoF w5).alloc (.cells #[.int .i64 V, .slice A5 n5 c5, .int .i64 r5] 26)) fun _ _ h => h
  have Bp_5 := Bk.new w5 26 #[.int .i64 V, .slice A5 n5 c5, .int .i64 r5]
  have Qp_5 := D5.keep ((Keep.refl NoF w5).alloc (.cells #[.int .i64 V, .slice A5 n5 c5, .int .i64 r5] 26))
  have Kw_5 : Keep NoF w (w5.alloc (.cells #[.int .i64 V, .slice A5 n5 c5, .int .i64 r5] 26)) := (Kw_4.trans K5 fun _ _ h => h).alloc _
  have Gp_5 : w.heap.size ≤ w5.heap.size := (Kw_4.trans K5 fun _ _ h => h).size
  generalize w5.alloc (.cells #[.int .i64 V, .slice A5 n5 c5, .int .i64 r5] 26) = W5 at *
  clear Ba_4 Bb_4 Bx_4 Qa_4 Qb_4 Qx_4 Ban Bbn Bxn Kw_4 D5 K5 R1_4 R9_4 RP_4
  have ca0 : W5.cell? ⟨w1.heap.size, 0, none⟩ = some (.int .i64 V) := Ba_5.cell 0
  have ca1 : W5.cell? ⟨w1.heap.size, 1, none⟩ = some (.slice A2 n2 c2) := Ba_5.cell 1
  have ca2 : W5.cell? ⟨w1.heap.size, 2, none⟩ = some (.int .i64 r2) := Ba_5.cell 2
  have cb0 : W5.cell? ⟨w1.heap.size + 1, 0, none⟩ = some (.int .i64 V) := Bb_5.cell 0
  have cb1 : W5.cell? ⟨w1.heap.size + 1, 1, none⟩ = some (.slice A3 n3 c3) := Bb_5.cell 1
  have cb2 : W5.cell? ⟨w1.heap.size + 1, 2, none⟩ = some (.int .i64 r3) := Bb_5.cell 2
  go_upto_region 11 with (go_at_call 18
                          (with_reducible refine (HBOX.out _ _ _ _ _ _ _ _ _ Qa_5 Qb_5).mono ?_)
                          rintro e w6 ⟨A6, n6, c6, r6, rfl, D6, K6⟩
                          have Ban := Ba_5.keep K6 fun h => h
                          have Lan := Ban.lt
                          have Bbn := Bb_5.keep K6 fun h => h
                          have Lbn := Bbn.lt
                          have Bxn := Bx_5.keep K6 fun h => h
                          have Lxn := Bxn.lt
                          have Bpn := Bp_5.keep K6 fun h => h
                          have Lpn := Bpn.lt)
  clear ca0 ca1 ca2 cb0 cb1 cb2
  have Ba_6 := Ban.alloc (.cells #[.int .i64 V, .slice A6 n6 c6, .int .i64 r6] 26)
  have Qa_6 := (Qa_5.keep K6).keep ((Keep.refl NoF w6).alloc (.cells #[.int .i64 V, .slice A6 n6 c6, .int .i64 r6] 26))
  have Bb_6 := Bbn.alloc (.cells #[.int .i64 V, .slice A6 n6 c6, .int .i64 r6] 26)
  have Qb_6 := (Qb_5.keep K6).keep ((Keep.refl NoF w6).alloc (.cells #[.int .i64 V, .slice A6 n6 c6, .int .i64 r6] 26))
  have Bx_6 := Bxn.alloc (.cells #[.int .i64 V, .slice A6 n6 c6, .int .i64 r6] 26)
  have Qx_6 := (Qx_5.keep K6).keep ((Keep.refl NoF w6).alloc (.cells #[.int .i64 V, .slice A6 n6 c6, .int .i64 r6] 26))
  have Bp_6 := Bpn.alloc (.cells #[.int .i64 V, .slice A6 n6 c6, .int .i64 r6] 26)
  have Qp_6 := (Qp_5.keep K6).keep ((Keep.refl NoF w6).alloc (.cells #[.int .i64 V, .slice A6 n6 c6, .int .i64 r6] 26))
  have R1_6 := (R1_5.kept K6 fun _ _ h => h).kept ((Keep.refl NoF w6).alloc (.cells #[.int .i64 V, .slice A6 n6 c6, .int .i64 r6] 26)) fun _ _ h => h
  have R9_6 := (R9_5.kept K6 fun _ _ h => h).kept ((Keep.refl NoF w6).alloc (.cells #[.int .i64 V, .slice A6 n6 c6, .int .i64 r6] 26)) fun _ _ h => h
  have RP_6 := (RP_5.kept K6 fun _ _ h => h).kept ((Keep.refl NoF w6).alloc (.cells #[.int .i64 V, .slice A6 n6 c6, .int .i64 r6] 26)) fun _ _ h => h
  have Bq_6 := Bk.new w6 26 #[.int .i64 V, .slice A6 n6 c6, .int .i64 r6]
  have Qq_6 := D6.keep ((Keep.refl NoF w6).alloc (.cells #[.int .i64 V, .slice A6 n6 c6, .int .i64 r6] 26))
  have Kw_6 : Keep NoF w (w6.alloc (.cells #[.int .i64 V, .slice A6 n6 c6, .int .i64 r6] 26)) := (Kw_5.trans K6 fun _ _ h => h).alloc _
  have Gq_6 : w.heap.size ≤ w6.heap.size := (Kw_5.trans K6 fun _ _ h => h).size
  generalize w6.alloc (.cells #[.int .i64 V, .slice A6 n6 c6, .int .i64 r6] 26) = W6 at *
  clear Ba_5 Bb_5 Bx_5 Bp_5 Qa_5 Qb_5 Qx_5 Qp_5 Ban Bbn Bxn Bpn Kw_5 D6 K6 R1_5 R9_5 RP_5
  have ca0 : W6.cell? ⟨w1.heap.size, 0, none⟩ = some (.int .i64 V) := Ba_6.cell 0
  have ca1 : W6.cell? ⟨w1.heap.size, 1, none⟩ = some (.slice A2 n2 c2) := Ba_6.cell 1
  have ca2 : W6.cell? ⟨w1.heap.size, 2, none⟩ = some (.int .i64 r2) := Ba_6.cell 2
  have cb0 : W6.cell? ⟨w1.heap.size + 1, 0, none⟩ = some (.int .i64 V) := Bb_6.cell 0
  have cb1 : W6.cell? ⟨w1.heap.size + 1, 1, none⟩ = some (.slice A3 n3 c3) := Bb_6.cell 1
  have cb2 : W6.cell? ⟨w1.heap.size + 1, 2, none⟩ = some (.int .i64 r3) := Bb_6.cell 2
  go_upto_region 12 with (go_at_call 19
                          (with_reducible refine (HIMG.out _ _ _ _ _ _ _ _ _ Qa_6 Qb_6).mono ?_)
                          rintro e w7 ⟨A7, n7, c7, r7, rfl, D7, K7⟩
                          have Ban := Ba_6.keep K7 fun h => h
                          have Lan := Ban.lt
                          have Bbn := Bb_6.keep K7 fun h => h
                          have Lbn := Bbn.lt
                          have Bxn := Bx_6.keep K7 fun h => h
                          have Lxn := Bxn.lt
                          have Bpn := Bp_6.keep K7 fun h => h
                          have Lpn := Bpn.lt
                          have Bqn := Bq_6.keep K7 fun h => h
                          have Lqn := Bqn.lt)
  clear ca0 ca1 ca2 cb0 cb1 cb2
  have Ba_7 := Ban.alloc (.cells #[.int .i64 V, .slice A7 n7 c7, .int .i64 r7] 26)
  have Qa_7 := (Qa_6.keep K7).keep ((Keep.refl NoF w7).alloc (.cells #[.int .i64 V, .slice A7 n7 c7, .int .i64 r7] 26))
  have Bb_7 := Bbn.alloc (.cells #[.int .i64 V, .slice A7 n7 c7, .int .i64 r7] 26)
  have Qb_7 := (Qb_6.keep K7).keep ((Keep.refl NoF w7).alloc (.cells #[.int .i64 V, .slice A7 n7 c7, .int .i64 r7] 26))
  have Bx_7 := Bxn.alloc (.cells #[.int .i64 V, .slice A7 n7 c7, .int .i64 r7] 26)
  have Qx_7 := (Qx_6.keep K7).keep ((Keep.refl NoF w7).alloc (.cells #[.int .i64 V, .slice A7 n7 c7, .int .i64 r7] 26))
  have Bp_7 := Bpn.alloc (.cells #[.int .i64 V, .slice A7 n7 c7, .int .i64 r7] 26)
  have Qp_7 := (Qp_6.keep K7).keep ((Keep.refl NoF w7).alloc (.cells #[.int .i64 V, .slice A7 n7 c7, .int .i64 r7] 26))
  have Bq_7 := Bqn.alloc (.cells #[.int .i64 V, .slice A7 n7 c7, .int .i64 r7] 26)
  have Qq_7 := (Qq_6.keep K7).keep ((Keep.refl NoF w7).alloc (.cells #[.int .i64 V, .slice A7 n7 c7, .int .i64 r7] 26))
  have R1_7 := (R1_6.kept K7 fun _ _ h => h).kept ((Keep.refl NoF w7).alloc (.cells #[.int .i64 V, .slice A7 n7 c7, .int .i64 r7] 26)) fun _ _ h => h
  have R9_7 := (R9_6.kept K7 fun _ _ h => h).kept ((Keep.refl NoF w7).alloc (.cells #[.int .i64 V, .slice A7 n7 c7, .int .i64 r7] 26)) fun _ _ h => h
  have RP_7 := (RP_6.kept K7 fun _ _ h => h).kept ((Keep.refl NoF w7).alloc (.cells #[.int .i64 V, .slice A7 n7 c7, .int .i64 r7] 26)) fun _ _ h => h
  have Bm_7 := Bk.new w7 26 #[.int .i64 V, .slice A7 n7 c7, .int .i64 r7]
  have Qm_7 := D7.keep ((Keep.refl NoF w7).alloc (.cells #[.int .i64 V, .slice A7 n7 c7, .int .i64 r7] 26))
  have Kw_7 : Keep NoF w (w7.alloc (.cells #[.int .i64 V, .slice A7 n7 c7, .int .i64 r7] 26)) := (Kw_6.trans K7 fun _ _ h => h).alloc _
  have Gm_7 : w.heap.size ≤ w7.heap.size := (Kw_6.trans K7 fun _ _ h => h).size
  generalize w7.alloc (.cells #[.int .i64 V, .slice A7 n7 c7, .int .i64 r7] 26) = W7 at *
  clear Ba_6 Bb_6 Bx_6 Bp_6 Bq_6 Qa_6 Qb_6 Qx_6 Qp_6 Qq_6 Ban Bbn Bxn Bpn Bqn Kw_6 D7 K7 R1_6 R9_6 RP_6
  have ca0 : W7.cell? ⟨w1.heap.size, 0, none⟩ = some (.int .i64 V) := Ba_7.cell 0
  have ca1 : W7.cell? ⟨w1.heap.size, 1, none⟩ = some (.slice A2 n2 c2) := Ba_7.cell 1
  have ca2 : W7.cell? ⟨w1.heap.size, 2, none⟩ = some (.int .i64 r2) := Ba_7.cell 2
  have cb0 : W7.cell? ⟨w1.heap.size + 1, 0, none⟩ = some (.int .i64 V) := Bb_7.cell 0
  have cb1 : W7.cell? ⟨w1.heap.size + 1, 1, none⟩ = some (.slice A3 n3 c3) := Bb_7.cell 1
  have cb2 : W7.cell? ⟨w1.heap.size + 1, 2, none⟩ = some (.int .i64 r3) := Bb_7.cell 2
  go_upto_region 13 with (go_at_call 20
                          (with_reducible refine (HREA.out _ _ _ _ _ _ _ _ _ Qa_7 Qb_7).mono ?_)
                          rintro e w8 ⟨A8, n8, c8, r8, rfl, D8, K8⟩
                          have Ban := Ba_7.keep K8 fun h => h
                          have Lan := Ban.lt
                          have Bbn := Bb_7.keep K8 fun h => h
                          have Lbn := Bbn.lt
                          have Bxn := Bx_7.keep K8 fun h => h
                          have Lxn := Bxn.lt
                          have Bpn := Bp_7.keep K8 fun h => h
                          have Lpn := Bpn.lt
                          have Bqn := Bq_7.keep K8 fun h => h
                          have Lqn := Bqn.lt
                          have Bmn := Bm_7.keep K8 fun h => h
                          have Lmn := Bmn.lt)
  clear ca0 ca1 ca2 cb0 cb1 cb2
  have Ba_8 := Ban.alloc (.cells #[.int .i64 V, .slice A8 n8 c8, .int .i64 r8] 26)
  have Qa_8 := (Qa_7.keep K8).keep ((Keep.refl NoF w8).alloc (.cells #[.int .i64 V, .slice A8 n8 c8, .int .i64 r8] 26))
  have Bb_8 := Bbn.alloc (.cells #[.int .i64 V, .slice A8 n8 c8, .int .i64 r8] 26)
  have Qb_8 := (Qb_7.keep K8).keep ((Keep.refl NoF w8).alloc (.cells #[.int .i64 V, .slice A8 n8 c8, .int .i64 r8] 26))
  have Bx_8 := Bxn.alloc (.cells #[.int .i64 V, .slice A8 n8 c8, .int .i64 r8] 26)
  have Qx_8 := (Qx_7.keep K8).keep ((Keep.refl NoF w8).alloc (.cells #[.int .i64 V, .slice A8 n8 c8, .int .i64 r8] 26))
  have Bp_8 := Bpn.alloc (.cells #[.int .i64 V, .slice A8 n8 c8, .int .i64 r8] 26)
  have Qp_8 := (Qp_7.keep K8).keep ((Keep.refl NoF w8).alloc (.cells #[.int .i64 V, .slice A8 n8 c8, .int .i64 r8] 26))
  have Bq_8 := Bqn.alloc (.cells #[.int .i64 V, .slice A8 n8 c8, .int .i64 r8] 26)
  have Qq_8 := (Qq_7.keep K8).keep ((Keep.refl NoF w8).alloc (.cells #[.int .i64 V, .slice A8 n8 c8, .int .i64 r8] 26))
  have Bm_8 := Bmn.alloc (.cells #[.int .i64 V, .slice A8 n8 c8, .int .i64 r8] 26)
  have Qm_8 := (Qm_7.keep K8).keep ((Keep.refl NoF w8).alloc (.cells #[.int .i64 V, .slice A8 n8 c8, .int .i64 r8] 26))
  have R1_8 := (R1_7.kept K8 fun _ _ h => h).kept ((Keep.refl NoF w8).alloc (.cells #[.int .i64 V, .slice A8 n8 c8, .int .i64 r8] 26)) fun _ _ h => h
  have R9_8 := (R9_7.kept K8 fun _ _ h => h).kept ((Keep.refl NoF w8).alloc (.cells #[.int .i64 V, .slice A8 n8 c8, .int .i64 r8] 26)) fun _ _ h => h
  have RP_8 := (RP_7.kept K8 fun _ _ h => h).kept ((Keep.refl NoF w8).alloc (.cells #[.int .i64 V, .slice A8 n8 c8, .int .i64 r8] 26)) fun _ _ h => h
  have Bt_8 := Bk.new w8 26 #[.int .i64 V, .slice A8 n8 c8, .int .i64 r8]
  have Qt_8 := D8.keep ((Keep.refl NoF w8).alloc (.cells #[.int .i64 V, .slice A8 n8 c8, .int .i64 r8] 26))
  have Kw_8 : Keep NoF w (w8.alloc (.cells #[.int .i64 V, .slice A8 n8 c8, .int .i64 r8] 26)) := (Kw_7.trans K8 fun _ _ h => h).alloc _
  have Gt_8 : w.heap.size ≤ w8.heap.size := (Kw_7.trans K8 fun _ _ h => h).size
  generalize w8.alloc (.cells #[.int .i64 V, .slice A8 n8 c8, .int .i64 r8] 26) = W8 at *
  clear Ba_7 Bb_7 Bx_7 Bp_7 Bq_7 Bm_7 Qa_7 Qb_7 Qx_7 Qp_7 Qq_7 Qm_7 Ban Bbn Bxn Bpn Bqn Bmn Kw_7 D8 K8 R1_7 R9_7 RP_7
  have hws : IntKind.u64.wrap (s : Int) = (s : Int) := by rw [IntKind.wrap_u64]; omega
  have HI1 := Lib.hid fun W (hk : Keep NoF W8 W) => HIS.out W SP hP _ _ _ _ (Qp_8.keep hk)
  have HI2 := Lib.hid fun W (hk : Keep NoF W8 W) => HIS.out W SB hB _ _ _ _ (Qq_8.keep hk)
  have HI3 := Lib.hid fun W (hk : Keep NoF W8 W) => HIS.out W SI hI _ _ _ _ (Qm_8.keep hk)
  have HI4 := Lib.hid fun W (hk : Keep NoF W8 W) => HIS.out W SR hR _ _ _ _ (Qt_8.keep hk)
  have HG1 := Lib.hid fun W (hk : Keep NoF W8 W) => HD1.out _ _ W (R1_8.kept hk fun _ _ h => h)
  have HG2 := Lib.hid fun W (hk : Keep NoF W8 W) => HB1.out _ _ W (R1_8.kept hk fun _ _ h => h)
  have HG3 := Lib.hid fun W (hk : Keep NoF W8 W) => HD2.out _ _ W (R9_8.kept hk fun _ _ h => h)
  have HG4 := Lib.hid fun W (hk : Keep NoF W8 W) => HRE.out _ _ W (R1_8.kept hk fun _ _ h => h) (Kw_8.trans hk fun _ _ h => h)
  have up0 : W8.cell? ⟨w5.heap.size, 0, none⟩ = some (.int .i64 V) := Bp_8.cell 0
  have up1 : W8.cell? ⟨w5.heap.size, 1, none⟩ = some (.slice A5 n5 c5) := Bp_8.cell 1
  have up2 : W8.cell? ⟨w5.heap.size, 2, none⟩ = some (.int .i64 r5) := Bp_8.cell 2
  have uq0 : W8.cell? ⟨w6.heap.size, 0, none⟩ = some (.int .i64 V) := Bq_8.cell 0
  have uq1 : W8.cell? ⟨w6.heap.size, 1, none⟩ = some (.slice A6 n6 c6) := Bq_8.cell 1
  have uq2 : W8.cell? ⟨w6.heap.size, 2, none⟩ = some (.int .i64 r6) := Bq_8.cell 2
  have um0 : W8.cell? ⟨w7.heap.size, 0, none⟩ = some (.int .i64 V) := Bm_8.cell 0
  have um1 : W8.cell? ⟨w7.heap.size, 1, none⟩ = some (.slice A7 n7 c7) := Bm_8.cell 1
  have um2 : W8.cell? ⟨w7.heap.size, 2, none⟩ = some (.int .i64 r7) := Bm_8.cell 2
  have ut0 : W8.cell? ⟨w8.heap.size, 0, none⟩ = some (.int .i64 V) := Bt_8.cell 0
  have ut1 : W8.cell? ⟨w8.heap.size, 1, none⟩ = some (.slice A8 n8 c8) := Bt_8.cell 1
  have ut2 : W8.cell? ⟨w8.heap.size, 2, none⟩ = some (.int .i64 r8) := Bt_8.cell 2
  go_region_held3 (fun w' => w'.cell? ⟨w5.heap.size, 0, none⟩ = some (.int .i64 V) ∧ w'.cell? ⟨w5.heap.size, 1, none⟩ = some (.slice A5 n5 c5) ∧ w'.cell? ⟨w5.heap.size, 2, none⟩ = some (.int .i64 r5) ∧ w'.cell? ⟨w6.heap.size, 0, none⟩ = some (.int .i64 V) ∧ w'.cell? ⟨w6.heap.size, 1, none⟩ = some (.slice A6 n6 c6) ∧ w'.cell? ⟨w6.heap.size, 2, none⟩ = some (.int .i64 r6) ∧ w'.cell? ⟨w7.heap.size, 0, none⟩ = some (.int .i64 V) ∧ w'.cell? ⟨w7.heap.size, 1, none⟩ = some (.slice A7 n7 c7) ∧ w'.cell? ⟨w7.heap.size, 2, none⟩ = some (.int .i64 r7) ∧ w'.cell? ⟨w8.heap.size, 0, none⟩ = some (.int .i64 V) ∧ w'.cell? ⟨w8.heap.size, 1, none⟩ = some (.slice A8 n8 c8) ∧ w'.cell? ⟨w8.heap.size, 2, none⟩ = some (.int .i64 r8))
    (first | with_reducible exact ⟨up0, up1, up2, uq0, uq1, uq2, um0, um1, um2, ut0, ut1, ut2⟩ | exact ⟨up0, up1, up2, uq0, uq1, uq2, um0, um1, um2, ut0, ut1, ut2⟩)
    (first
  | (go_at_call 12
     (with_reducible refine (awake_any _).mono ?_)
     rintro e q6 ⟨rfl, q6Z⟩
     have q6K : Keep NoF W8 q6 := q5K.trans q6Z fun _ _ h => h
     have up0 : q6.cell? ⟨w5.heap.size, 0, none⟩ = some (.int .i64 V) := (Bp_8.keep q6K fun h => h).cell 0
     have up1 : q6.cell? ⟨w5.heap.size, 1, none⟩ = some (.slice A5 n5 c5) := (Bp_8.keep q6K fun h => h).cell 1
     have up2 : q6.cell? ⟨w5.heap.size, 2, none⟩ = some (.int .i64 r5) := (Bp_8.keep q6K fun h => h).cell 2
     have uq0 : q6.cell? ⟨w6.heap.size, 0, none⟩ = some (.int .i64 V) := (Bq_8.keep q6K fun h => h).cell 0
     have uq1 : q6.cell? ⟨w6.heap.size, 1, none⟩ = some (.slice A6 n6 c6) := (Bq_8.keep q6K fun h => h).cell 1
     have uq2 : q6.cell? ⟨w6.heap.size, 2, none⟩ = some (.int .i64 r6) := (Bq_8.keep q6K fun h => h).cell 2
     have um0 : q6.cell? ⟨w7.heap.size, 0, none⟩ = some (.int .i64 V) := (Bm_8.keep q6K fun h => h).cell 0
     have um1 : q6.cell? ⟨w7.heap.size, 1, none⟩ = some (.slice A7 n7 c7) := (Bm_8.keep q6K fun h => h).cell 1
     have um2 : q6.cell? ⟨w7.heap.size, 2, none⟩ = some (.int .i64 r7) := (Bm_8.keep q6K fun h => h).cell 2
     have ut0 : q6.cell? ⟨w8.heap.size, 0, none⟩ = some (.int .i64 V) := (Bt_8.keep q6K fun h => h).cell 0
     have ut1 : q6.cell? ⟨w8.heap.size, 1, none⟩ = some (.slice A8 n8 c8) := (Bt_8.keep q6K fun h => h).cell 1
     have ut2 : q6.cell? ⟨w8.heap.size, 2, none⟩ = some (.int .i64 r8) := (Bt_8.keep q6K fun h => h).cell 2)
  | (go_at_call 21
     (with_reducible refine (HI4.out _ q4K).mono ?_)
     rintro e q5 ⟨rfl, q5Z⟩
     have q5K : Keep NoF W8 q5 := q4K.trans q5Z fun _ _ h => h
     have up0 : q5.cell? ⟨w5.heap.size, 0, none⟩ = some (.int .i64 V) := (Bp_8.keep q5K fun h => h).cell 0
     have up1 : q5.cell? ⟨w5.heap.size, 1, none⟩ = some (.slice A5 n5 c5) := (Bp_8.keep q5K fun h => h).cell 1
     have up2 : q5.cell? ⟨w5.heap.size, 2, none⟩ = some (.int .i64 r5) := (Bp_8.keep q5K fun h => h).cell 2
     have uq0 : q5.cell? ⟨w6.heap.size, 0, none⟩ = some (.int .i64 V) := (Bq_8.keep q5K fun h => h).cell 0
     have uq1 : q5.cell? ⟨w6.heap.size, 1, none⟩ = some (.slice A6 n6 c6) := (Bq_8.keep q5K fun h => h).cell 1
     have uq2 : q5.cell? ⟨w6.heap.size, 2, none⟩ = some (.int .i64 r6) := (Bq_8.keep q5K fun h => h).cell 2
     have um0 : q5.cell? ⟨w7.heap.size, 0, none⟩ = some (.int .i64 V) := (Bm_8.keep q5K fun h => h).cell 0
     have um1 : q5.cell? ⟨w7.heap.size, 1, none⟩ = some (.slice A7 n7 c7) := (Bm_8.keep q5K fun h => h).cell 1
     have um2 : q5.cell? ⟨w7.heap.size, 2, none⟩ = some (.int .i64 r7) := (Bm_8.keep q5K fun h => h).cell 2
     have ut0 : q5.cell? ⟨w8.heap.size, 0, none⟩ = some (.int .i64 V) := (Bt_8.keep q5K fun h => h).cell 0
     have ut1 : q5.cell? ⟨w8.heap.size, 1, none⟩ = some (.slice A8 n8 c8) := (Bt_8.keep q5K fun h => h).cell 1
     have ut2 : q5.cell? ⟨w8.heap.size, 2, none⟩ = some (.int .i64 r8) := (Bt_8.keep q5K fun h => h).cell 2)
  | (go_at_call 11
     (with_reducible refine (HG4.out _ q3K).mono ?_)
     rintro e q4 ⟨rfl, q4Z⟩
     have q4K : Keep NoF W8 q4 := q3K.trans q4Z fun _ _ h => h
     have up0 : q4.cell? ⟨w5.heap.size, 0, none⟩ = some (.int .i64 V) := (Bp_8.keep q4K fun h => h).cell 0
     have up1 : q4.cell? ⟨w5.heap.size, 1, none⟩ = some (.slice A5 n5 c5) := (Bp_8.keep q4K fun h => h).cell 1
     have up2 : q4.cell? ⟨w5.heap.size, 2, none⟩ = some (.int .i64 r5) := (Bp_8.keep q4K fun h => h).cell 2
     have uq0 : q4.cell? ⟨w6.heap.size, 0, none⟩ = some (.int .i64 V) := (Bq_8.keep q4K fun h => h).cell 0
     have uq1 : q4.cell? ⟨w6.heap.size, 1, none⟩ = some (.slice A6 n6 c6) := (Bq_8.keep q4K fun h => h).cell 1
     have uq2 : q4.cell? ⟨w6.heap.size, 2, none⟩ = some (.int .i64 r6) := (Bq_8.keep q4K fun h => h).cell 2
     have um0 : q4.cell? ⟨w7.heap.size, 0, none⟩ = some (.int .i64 V) := (Bm_8.keep q4K fun h => h).cell 0
     have um1 : q4.cell? ⟨w7.heap.size, 1, none⟩ = some (.slice A7 n7 c7) := (Bm_8.keep q4K fun h => h).cell 1
     have um2 : q4.cell? ⟨w7.heap.size, 2, none⟩ = some (.int .i64 r7) := (Bm_8.keep q4K fun h => h).cell 2
     have ut0 : q4.cell? ⟨w8.heap.size, 0, none⟩ = some (.int .i64 V) := (Bt_8.keep q4K fun h => h).cell 0
     have ut1 : q4.cell? ⟨w8.heap.size, 1, none⟩ = some (.slice A8 n8 c8) := (Bt_8.keep q4K fun h => h).cell 1
     have ut2 : q4.cell? ⟨w8.heap.size, 2, none⟩ = some (.int .i64 r8) := (Bt_8.keep q4K fun h => h).cell 2)
  | (go_at_call 21
     (with_reducible refine (HI3.out _ q2K).mono ?_)
     rintro e q3 ⟨rfl, q3Z⟩
     have q3K : Keep NoF W8 q3 := q2K.trans q3Z fun _ _ h => h
     have up0 : q3.cell? ⟨w5.heap.size, 0, none⟩ = some (.int .i64 V) := (Bp_8.keep q3K fun h => h).cell 0
     have up1 : q3.cell? ⟨w5.heap.size, 1, none⟩ = some (.slice A5 n5 c5) := (Bp_8.keep q3K fun h => h).cell 1
     have up2 : q3.cell? ⟨w5.heap.size, 2, none⟩ = some (.int .i64 r5) := (Bp_8.keep q3K fun h => h).cell 2
     have uq0 : q3.cell? ⟨w6.heap.size, 0, none⟩ = some (.int .i64 V) := (Bq_8.keep q3K fun h => h).cell 0
     have uq1 : q3.cell? ⟨w6.heap.size, 1, none⟩ = some (.slice A6 n6 c6) := (Bq_8.keep q3K fun h => h).cell 1
     have uq2 : q3.cell? ⟨w6.heap.size, 2, none⟩ = some (.int .i64 r6) := (Bq_8.keep q3K fun h => h).cell 2
     have um0 : q3.cell? ⟨w7.heap.size, 0, none⟩ = some (.int .i64 V) := (Bm_8.keep q3K fun h => h).cell 0
     have um1 : q3.cell? ⟨w7.heap.size, 1, none⟩ = some (.slice A7 n7 c7) := (Bm_8.keep q3K fun h => h).cell 1
     have um2 : q3.cell? ⟨w7.heap.size, 2, none⟩ = some (.int .i64 r7) := (Bm_8.keep q3K fun h => h).cell 2
     have ut0 : q3.cell? ⟨w8.heap.size, 0, none⟩ = some (.int .i64 V) := (Bt_8.keep q3K fun h => h).cell 0
     have ut1 : q3.cell? ⟨w8.heap.size, 1, none⟩ = some (.slice A8 n8 c8) := (Bt_8.keep q3K fun h => h).cell 1
     have ut2 : q3.cell? ⟨w8.heap.size, 2, none⟩ = some (.int .i64 r8) := (Bt_8.keep q3K fun h => h).cell 2)
  | (go_at_call 22
     (with_reducible refine (HG3.out _ q2K).mono ?_)
     rintro e w' ⟨rfl, hw'⟩
     obtain rfl := hw'.symm)
  | (go_at_call 21
     (with_reducible refine (HI2.out _ q1K).mono ?_)
     rintro e q2 ⟨rfl, q2Z⟩
     have q2K : Keep NoF W8 q2 := q1K.trans q2Z fun _ _ h => h
     have up0 : q2.cell? ⟨w5.heap.size, 0, none⟩ = some (.int .i64 V) := (Bp_8.keep q2K fun h => h).cell 0
     have up1 : q2.cell? ⟨w5.heap.size, 1, none⟩ = some (.slice A5 n5 c5) := (Bp_8.keep q2K fun h => h).cell 1
     have up2 : q2.cell? ⟨w5.heap.size, 2, none⟩ = some (.int .i64 r5) := (Bp_8.keep q2K fun h => h).cell 2
     have uq0 : q2.cell? ⟨w6.heap.size, 0, none⟩ = some (.int .i64 V) := (Bq_8.keep q2K fun h => h).cell 0
     have uq1 : q2.cell? ⟨w6.heap.size, 1, none⟩ = some (.slice A6 n6 c6) := (Bq_8.keep q2K fun h => h).cell 1
     have uq2 : q2.cell? ⟨w6.heap.size, 2, none⟩ = some (.int .i64 r6) := (Bq_8.keep q2K fun h => h).cell 2
     have um0 : q2.cell? ⟨w7.heap.size, 0, none⟩ = some (.int .i64 V) := (Bm_8.keep q2K fun h => h).cell 0
     have um1 : q2.cell? ⟨w7.heap.size, 1, none⟩ = some (.slice A7 n7 c7) := (Bm_8.keep q2K fun h => h).cell 1
     have um2 : q2.cell? ⟨w7.heap.size, 2, none⟩ = some (.int .i64 r7) := (Bm_8.keep q2K fun h => h).cell 2
     have ut0 : q2.cell? ⟨w8.heap.size, 0, none⟩ = some (.int .i64 V) := (Bt_8.keep q2K fun h => h).cell 0
     have ut1 : q2.cell? ⟨w8.heap.size, 1, none⟩ = some (.slice A8 n8 c8) := (Bt_8.keep q2K fun h => h).cell 1
     have ut2 : q2.cell? ⟨w8.heap.size, 2, none⟩ = some (.int .i64 r8) := (Bt_8.keep q2K fun h => h).cell 2)
  | (go_at_call 10
     (with_reducible refine (HG2.out _ q1K).mono ?_)
     rintro e w' ⟨rfl, hw'⟩
     obtain rfl := hw'.symm)
  | (go_at_call 21
     (with_reducible refine (HI1.out _ (Keep.refl NoF W8).drew).mono ?_)
     rintro e q1 ⟨rfl, q1Z⟩
     have q1K : Keep NoF W8 q1 := (Keep.refl NoF W8).drew.trans q1Z fun _ _ h => h
     have up0 : q1.cell? ⟨w5.heap.size, 0, none⟩ = some (.int .i64 V) := (Bp_8.keep q1K fun h => h).cell 0
     have up1 : q1.cell? ⟨w5.heap.size, 1, none⟩ = some (.slice A5 n5 c5) := (Bp_8.keep q1K fun h => h).cell 1
     have up2 : q1.cell? ⟨w5.heap.size, 2, none⟩ = some (.int .i64 r5) := (Bp_8.keep q1K fun h => h).cell 2
     have uq0 : q1.cell? ⟨w6.heap.size, 0, none⟩ = some (.int .i64 V) := (Bq_8.keep q1K fun h => h).cell 0
     have uq1 : q1.cell? ⟨w6.heap.size, 1, none⟩ = some (.slice A6 n6 c6) := (Bq_8.keep q1K fun h => h).cell 1
     have uq2 : q1.cell? ⟨w6.heap.size, 2, none⟩ = some (.int .i64 r6) := (Bq_8.keep q1K fun h => h).cell 2
     have um0 : q1.cell? ⟨w7.heap.size, 0, none⟩ = some (.int .i64 V) := (Bm_8.keep q1K fun h => h).cell 0
     have um1 : q1.cell? ⟨w7.heap.size, 1, none⟩ = some (.slice A7 n7 c7) := (Bm_8.keep q1K fun h => h).cell 1
     have um2 : q1.cell? ⟨w7.heap.size, 2, none⟩ = some (.int .i64 r7) := (Bm_8.keep q1K fun h => h).cell 2
     have ut0 : q1.cell? ⟨w8.heap.size, 0, none⟩ = some (.int .i64 V) := (Bt_8.keep q1K fun h => h).cell 0
     have ut1 : q1.cell? ⟨w8.heap.size, 1, none⟩ = some (.slice A8 n8 c8) := (Bt_8.keep q1K fun h => h).cell 1
     have ut2 : q1.cell? ⟨w8.heap.size, 2, none⟩ = some (.int .i64 r8) := (Bt_8.keep q1K fun h => h).cell 2)
  | (go_at_call 22
     (with_reducible refine (HG1.out _ (Keep.refl NoF W8).drew).mono ?_)
     rintro e w' ⟨rfl, hw'⟩
     obtain rfl := hw'.symm))
  go_wp2
  go_ret
  exact ⟨rfl, Kw_8.trans q6K fun _ _ h => h⟩
end
end Go.Proofs.YtgdmcidcappkpaaDoor
