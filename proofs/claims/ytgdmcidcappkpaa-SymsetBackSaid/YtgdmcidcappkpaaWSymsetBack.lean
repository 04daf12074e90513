/- The law SymsetBack answers true. No condition. -/
import Derived.Test.YtgdmcidcappkpaaSyS
import Derived.Test.YtgdmcidcappkpaaSyT
set_option linter.unusedVariables false
set_option linter.unusedSimpArgs false
namespace Go.Proofs.Ytgdmcidcappkpaa
open Go.RowKit
open Dd (Rn rat ofN toN checkErr den lo var Within Valid supp canon setF relF)

theorem small_set {s : Nat} (hs : s < 256) : beyondB 3 s = false := by
  unfold beyondB
  rw [show s / 2 ^ 2 ^ 3 = 0 from Nat.div_eq_of_lt (by omega)]
  simp
theorem back_pairs {L : List Nat} (hL : L.length = 8) (hx : ∀ x ∈ L, x < 256) {V : Nat} (hV : V = 2 * 3) {w : World} {A : Option Addr} {n c r : Nat} (D : IsD w V (relF 3 L) A n c r) : Calls Try.prog 15 #[.agg #[.int .i64 V, .slice A n c, .int .i64 r]] w fun e w' => ∃ AL cL, e = .returned (.tuple #[.slice AL 8 cL, .int .i64 0]) ∧ Rd w' (.slice AL 8 cL) 1 8 (n64 L) ∧ Keep NoF w w' := by
  subst hV
  have h := Pairs_ok 3 (by omega) D
  rw [Dd.pairsN_rel hL hx] at h
  exact h.mono fun e w' hp => by unfold ListPost at hp; rw [hL] at hp; exact hp
theorem back_same {s t : Nat} (hs : s < 256) (ht : t < 256) {V : Nat} {w : World} {A : Option Addr} {n c r : Nat} {B : Option Addr} {n' c' r' : Nat} (D : IsD w V (setF 3 s 0) A n c r) (E : IsD w V (setF 3 t 0) B n' c' r') : Calls Try.prog 11 #[.agg #[.int .i64 V, .slice A n c, .int .i64 r], .agg #[.int .i64 V, .slice B n' c', .int .i64 r']] w fun e w' => e = .returned (.bool (decide (s = t))) ∧ Keep NoF w w' := by
  refine d_same D E (decide (s = t)) ⟨fun h ρ => by rw [of_decide_eq_true h], fun h => ?_⟩
  exact decide_eq_true (Dd.setF_eq (k := 3) (by omega) (by omega) h)
theorem back_set {s : Nat} (hs : s < 256) {V : Nat} (hV : V = 2 * 3) (w : World) : Calls Try.prog 7 #[.int .i64 3, .int .u64 s] w (DP w V (setF 3 s 0)) := by
  rw [hV]
  exact Set_any 3 s (by omega) (by omega) (small_set hs) w
theorem back_is {s : Nat} (hs : s < 256) {V : Nat} (hV : V = 2 * 3) {w : World} {A : Option Addr} {n c r : Nat} (D : IsD w V (setF 3 s 0) A n c r) : Calls Try.prog 19 #[.agg #[.int .i64 V, .slice A n c, .int .i64 r], .int .i64 0, .int .u64 s] w fun e w' => e = .returned (.bool true) ∧ Keep NoF w w' := by
  have h := is_ok 3 (by omega) s s (by omega) V hV A n c r w D
  rw [decide_eq_true rfl] at h
  exact h
section
set_option maxRecDepth 100000
set_option maxHeartbeats 4000000
theorem walk_SymsetBack (x0 x1 x2 x3 x4 x5 x6 x7 s t : Nat) (w : World) (h0 : x0 < 256) (h1 : x1 < 256) (h2 : x2 < 256) (h3 : x3 < 256) (h4 : x4 < 256) (h5 : x5 < 256) (h6 : x6 < 256) (h7 : x7 < 256) (hs : s < 256) (ht : t < 256) : Calls Try.prog 5 #[.agg #[.int .u8 x0, .int .u8 x1, .int .u8 x2, .int .u8 x3, .int .u8 x4, .int .u8 x5, .int .u8 x6, .int .u8 x7], .int .u8 s, .int .u8 t] w fun e w' => e = .returned (.bool true) ∧ Keep NoF w w' := by
  obtain ⟨V, hV⟩ : ∃ V, V = 2 * 3 := ⟨_, rfl⟩
  have hx : ∀ x ∈ [x0, x1, x2, x3, x4, x5, x6, x7], x < 256 := by simp only [List.mem_cons, List.not_mem_nil, or_false]; rintro x (rfl | rfl | rfl | rfl | rfl | rfl | rfl | rfl) <;> assumption
  have HS : Hid (∀ W : World, Calls Try.prog 18 #[.agg #[.int .u8 x0, .int .u8 x1, .int .u8 x2, .int .u8 x3, .int .u8 x4, .int .u8 x5, .int .u8 x6, .int .u8 x7], .int .u8 s] W fun e w' => ∃ (A1 : Option Addr) (c1 : Nat) (A2 : Option Addr) (n2 c2 r2 : Nat) (A3 : Option Addr) (n3 c3 r3 : Nat),
    e = .returned (.tuple #[.slice A1 8 c1, .agg #[.int .i64 V, .slice A2 n2 c2, .int .i64 r2], .agg #[.int .i64 V, .slice A3 n3 c3, .int .i64 r3], .bool true]) ∧ Rd w' (.slice A1 8 c1) 1 8 (n64 [x0, x1, x2, x3, x4, x5, x6, x7]) ∧ IsD w' V (relF 3 [x0, x1, x2, x3, x4, x5, x6, x7]) A2 n2 c2 r2 ∧ IsD w' V (setF 3 s 0) A3 n3 c3 r3 ∧ Keep NoF W w') := Lib.hid fun W => states_ok [x0, x1, x2, x3, x4, x5, x6, x7] rfl hx s hs V hV W
  have HP := Lib.hid fun (W : World) A n c r (D : IsD W V (relF 3 [x0, x1, x2, x3, x4, x5, x6, x7]) A n c r) => back_pairs rfl hx hV D
  have HT := Lib.hid fun (W : World) => back_set ht hV W
  have HI := Lib.hid fun (W : World) A n c r (D : IsD W V (setF 3 s 0) A n c r) => back_is hs hV D
  have HSM := Lib.hid fun (W : World) A n c r B n' c' r' (D : IsD W V (setF 3 s 0) A n c r) (E : IsD W V (setF 3 t 0) B n' c' r') => back_same hs ht D E
  have HEQ : Hid (∀ A B c d W, Rd W (.slice A 8 c) 1 8 (n64 [x0, x1, x2, x3, x4, x5, x6, x7]) → Rd W (.slice B 8 d) 1 8 (n64 [x0, x1, x2, x3, x4, x5, x6, x7]) → Calls Try.prog 17 #[.slice A 8 c, .slice B 8 d] W fun e w' => e = .returned (.bool true) ∧ Keep NoF W w') := Lib.hid fun A B c d W h1 h2 => Same2_any [x0, x1, x2, x3, x4, x5, x6, x7] A B c d W (by simp) h1 h2
  have b8 := Bk.new w 39 #[.int .u8 x0, .int .u8 x1, .int .u8 x2, .int .u8 x3, .int .u8 x4, .int .u8 x5, .int .u8 x6, .int .u8 x7]
  have Kw0 : Keep NoF w (w.alloc (.cells #[.int .u8 x0, .int .u8 x1, .int .u8 x2, .int .u8 x3, .int .u8 x4, .int .u8 x5, .int .u8 x6, .int .u8 x7] 39)) := (Keep.refl _ _).alloc _
  clear hV hx
  generalize relF 3 [x0, x1, x2, x3, x4, x5, x6, x7] = F at *
  generalize n64 [x0, x1, x2, x3, x4, x5, x6, x7] = NL at *
  go_enter Try.func5, Try.ntmps5
  go_upto_region 1 with (fail)
  generalize w.alloc (.cells #[.int .u8 x0, .int .u8 x1, .int .u8 x2, .int .u8 x3, .int .u8 x4, .int .u8 x5, .int .u8 x6, .int .u8 x7] 39) = W0 at *
  have u0 := b8.cell 0
  have u1 := b8.cell 1
  have u2 := b8.cell 2
  have u3 := b8.cell 3
  have u4 := b8.cell 4
  have u5 := b8.cell 5
  have u6 := b8.cell 6
  have u7 := b8.cell 7
  go_upto_region 2 with (go_at_call 18
                         (with_reducible refine (HS.out _).mono ?_)
                         rintro e w1 ⟨A1, c1, A2, n2, c2, r2, A3, n3, c3, r3, rfl, RL, D2, D3, K1⟩)
  have u := 0
  clear u u0 u1 u2 u3 u4 u5 u6 u7 b8
  have Ba := (Bk.new w1 27 #[.int .i64 V, .slice A2 n2 c2, .int .i64 r2]).alloc (.cells #[.int .i64 V, .slice A3 n3 c3, .int .i64 r3] 27)
  have Bb := Bk.new (w1.alloc (.cells #[.int .i64 V, .slice A2 n2 c2, .int .i64 r2] 27)) 27 #[.int .i64 V, .slice A3 n3 c3, .int .i64 r3]
  simp only [World.size_alloc] at Bb
  have KN : Keep NoF w1 ((w1.alloc (.cells #[.int .i64 V, .slice A2 n2 c2, .int .i64 r2] 27)).alloc (.cells #[.int .i64 V, .slice A3 n3 c3, .int .i64 r3] 27)) := ((Keep.refl _ _).alloc _).alloc _
  have Qa := D2.keep KN
  have Qb := D3.keep KN
  have R1 := RL.kept KN fun _ _ h => h
  have Kw := (Kw0.trans K1 fun _ _ h => h).trans KN fun _ _ h => h
  have G1 : w.heap.size ≤ w1.heap.size := (Kw0.trans K1 fun _ _ h => h).size
  generalize (w1.alloc (.cells #[.int .i64 V, .slice A2 n2 c2, .int .i64 r2] 27)).alloc (.cells #[.int .i64 V, .slice A3 n3 c3, .int .i64 r3] 27) = W1 at *
  clear Kw0 K1 D2 D3 RL KN
  have ca0 : W1.cell? ⟨w1.heap.size, 0, none⟩ = some (.int .i64 V) := Ba.cell 0
  have ca1 : W1.cell? ⟨w1.heap.size, 1, none⟩ = some (.slice A2 n2 c2) := Ba.cell 1
  have ca2 : W1.cell? ⟨w1.heap.size, 2, none⟩ = some (.int .i64 r2) := Ba.cell 2
  go_upto_region 3 with (first
                         | (go_at_call 15
                            (with_reducible refine (HP.out _ _ _ _ _ (Qa.keep (Keep.refl NoF W1))).mono ?_)
                            rintro e p1 ⟨AL, cL, rfl, RP, p1Z⟩
                            have p1K : Keep NoF W1 p1 := (Keep.refl NoF W1).trans p1Z fun _ _ h => h)
                         | fail)
  clear ca0 ca1 ca2
  have Ba_1 := Ba.keep p1K fun h => h
  have Qa_1 := Qa.keep p1K
  have Bb_1 := Bb.keep p1K fun h => h
  have Qb_1 := Qb.keep p1K
  have R1_1 := R1.kept p1K fun _ _ h => h
  have Kw_1 := Kw.trans p1K fun _ _ h => h
  clear Kw p1K p1Z Ba Qa Bb Qb R1
  go_upto_region 4 with (go_at_call 7
                         (with_reducible refine (HT.out _).mono ?_)
                         rintro e w4 ⟨A4, n4, c4, r4, rfl, D4, K4⟩
                         have Ban := Ba_1.keep K4 fun h => h
                         have Lan := Ban.lt
                         have Bbn := Bb_1.keep K4 fun h => h
                         have Lbn := Bbn.lt)
  have Ba_2 := Ban.alloc (.cells #[.int .i64 V, .slice A4 n4 c4, .int .i64 r4] 27)
  have Qa_2 := (Qa_1.keep K4).keep ((Keep.refl NoF w4).alloc (.cells #[.int .i64 V, .slice A4 n4 c4, .int .i64 r4] 27))
  have Bb_2 := Bbn.alloc (.cells #[.int .i64 V, .slice A4 n4 c4, .int .i64 r4] 27)
  have Qb_2 := (Qb_1.keep K4).keep ((Keep.refl NoF w4).alloc (.cells #[.int .i64 V, .slice A4 n4 c4, .int .i64 r4] 27))
  have R1_2 := (R1_1.kept K4 fun _ _ h => h).kept ((Keep.refl NoF w4).alloc (.cells #[.int .i64 V, .slice A4 n4 c4, .int .i64 r4] 27)) fun _ _ h => h
  have RP_2 := (RP.kept K4 fun _ _ h => h).kept ((Keep.refl NoF w4).alloc (.cells #[.int .i64 V, .slice A4 n4 c4, .int .i64 r4] 27)) fun _ _ h => h
  have Bc_2 := Bk.new w4 27 #[.int .i64 V, .slice A4 n4 c4, .int .i64 r4]
  have Qc_2 := D4.keep ((Keep.refl NoF w4).alloc (.cells #[.int .i64 V, .slice A4 n4 c4, .int .i64 r4] 27))
  have Kw_2 : Keep NoF w (w4.alloc (.cells #[.int .i64 V, .slice A4 n4 c4, .int .i64 r4] 27)) := (Kw_1.trans K4 fun _ _ h => h).alloc _
  have Gc_2 : w.heap.size ≤ w4.heap.size := (Kw_1.trans K4 fun _ _ h => h).size
  generalize w4.alloc (.cells #[.int .i64 V, .slice A4 n4 c4, .int .i64 r4] 27) = W2 at *
  clear Ba_1 Bb_1 Qa_1 Qb_1 Ban Bbn Kw_1 D4 K4 R1_1 RP
  have HI2 := Lib.hid fun W (hk : Keep NoF W2 W) => HI.out _ _ _ _ _ (Qb_2.keep hk)
  have HS2 := Lib.hid fun W (hk : Keep NoF W2 W) => HSM.out _ _ _ _ _ _ _ _ _ (Qb_2.keep hk) (Qc_2.keep hk)
  have HC2 := Lib.hid fun W (hk : Keep NoF W2 W) => d_check (Qa_2.keep hk)
  have HQ2 := Lib.hid fun W (hk : Keep NoF W2 W) => HEQ.out _ _ _ _ W (R1_2.kept hk fun _ _ h => h) (RP_2.kept hk fun _ _ h => h)
  have eb : ((decide (s = t) == decide (s = t)) : Bool) = true := by simp
  have est : (((s : Int) == (t : Int)) : Bool) = decide (s = t) := by rw [Bool.eq_iff_iff]; simp only [beq_iff_eq, decide_eq_true_eq]; omega
  go_wp2_with (first
               | (go_at_call 17
                  (with_reducible refine (HQ2.out _ (Keep.refl NoF W2)).mono ?_)
                  rintro e p3 ⟨rfl, p3Z⟩
                  have p3K : Keep NoF W2 p3 := (Keep.refl NoF W2).trans p3Z fun _ _ h => h
                  have mb0 : p3.cell? ⟨w1.heap.size + 1, 0, none⟩ = some (.int .i64 V) := (Bb_2.keep p3K fun h => h).cell 0
                  have mb1 : p3.cell? ⟨w1.heap.size + 1, 1, none⟩ = some (.slice A3 n3 c3) := (Bb_2.keep p3K fun h => h).cell 1
                  have mb2 : p3.cell? ⟨w1.heap.size + 1, 2, none⟩ = some (.int .i64 r3) := (Bb_2.keep p3K fun h => h).cell 2)
               | (go_at_call 19
                  (with_reducible refine (HI2.out _ p3K).mono ?_)
                  rintro e p4 ⟨rfl, p4Z⟩
                  have p4K : Keep NoF W2 p4 := p3K.trans p4Z fun _ _ h => h
                  clear mb0 mb1 mb2
                  have mb0 : p4.cell? ⟨w1.heap.size + 1, 0, none⟩ = some (.int .i64 V) := (Bb_2.keep p4K fun h => h).cell 0
                  have mb1 : p4.cell? ⟨w1.heap.size + 1, 1, none⟩ = some (.slice A3 n3 c3) := (Bb_2.keep p4K fun h => h).cell 1
                  have mb2 : p4.cell? ⟨w1.heap.size + 1, 2, none⟩ = some (.int .i64 r3) := (Bb_2.keep p4K fun h => h).cell 2
                  have mc0 : p4.cell? ⟨w4.heap.size, 0, none⟩ = some (.int .i64 V) := (Bc_2.keep p4K fun h => h).cell 0
                  have mc1 : p4.cell? ⟨w4.heap.size, 1, none⟩ = some (.slice A4 n4 c4) := (Bc_2.keep p4K fun h => h).cell 1
                  have mc2 : p4.cell? ⟨w4.heap.size, 2, none⟩ = some (.int .i64 r4) := (Bc_2.keep p4K fun h => h).cell 2)
               | (go_at_call 11
                  (with_reducible refine (HS2.out _ p4K).mono ?_)
                  rintro e p5 ⟨rfl, p5Z⟩
                  have p5K : Keep NoF W2 p5 := p4K.trans p5Z fun _ _ h => h
                  have ma0 : p5.cell? ⟨w1.heap.size, 0, none⟩ = some (.int .i64 V) := (Ba_2.keep p5K fun h => h).cell 0
                  have ma1 : p5.cell? ⟨w1.heap.size, 1, none⟩ = some (.slice A2 n2 c2) := (Ba_2.keep p5K fun h => h).cell 1
                  have ma2 : p5.cell? ⟨w1.heap.size, 2, none⟩ = some (.int .i64 r2) := (Ba_2.keep p5K fun h => h).cell 2)
               | (go_at_call 20
                  (with_reducible refine (HC2.out _ p5K).mono ?_)
                  rintro e p6 ⟨rfl, p6Z⟩
                  have p6K : Keep NoF W2 p6 := p5K.trans p6Z fun _ _ h => h)
               | (go_at_call 6
                  (with_reducible refine (awake_any _).mono ?_)
                  rintro e p7 ⟨rfl, p7Z⟩
                  have p7K : Keep NoF W2 p7 := p6K.trans p7Z fun _ _ h => h))
  clear mb0 mb1 mb2 mc0 mc1 mc2 ma0 ma1 ma2
  have Ba_3 := Ba_2.keep p7K fun h => h
  have Qa_3 := Qa_2.keep p7K
  have Bb_3 := Bb_2.keep p7K fun h => h
  have Qb_3 := Qb_2.keep p7K
  have Bc_3 := Bc_2.keep p7K fun h => h
  have Qc_3 := Qc_2.keep p7K
  have R1_3 := R1_2.kept p7K fun _ _ h => h
  have RP_3 := RP_2.kept p7K fun _ _ h => h
  have Kw_3 := Kw_2.trans p7K fun _ _ h => h
  clear Kw_2 p3K p4K p5K p6K p7K p3Z p4Z p5Z p6Z p7Z Ba_2 Qa_2 Bb_2 Qb_2 Bc_2 Qc_2 R1_2 RP_2
  go_ret
  exact ⟨rfl, Kw_3⟩
end
end Go.Proofs.Ytgdmcidcappkpaa
