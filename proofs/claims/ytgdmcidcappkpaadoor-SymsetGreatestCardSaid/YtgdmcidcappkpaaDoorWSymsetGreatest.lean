/- The law SymsetGreatest answers true. Conditions: the library's table of trailing zeros lies in its variable. -/
import Derived.Test.YtgdmcidcappkpaaDoorRlH
import Derived.Deep.RegionHeld3
set_option linter.unusedVariables false
set_option linter.unusedSimpArgs false
namespace Go.Proofs.YtgdmcidcappkpaaDoor
open Go.RowKit Go.Shelf
open Dd (Rn rat ofN toN checkErr den lo var Within Valid supp canon setF relF imN)

section
set_option maxRecDepth 100000
set_option maxHeartbeats 4000000
theorem walk_SymsetGreatest (x0 x1 x2 x3 x4 x5 x6 x7 c s : Nat) (w : World) (h0 : x0 < 256) (h1 : x1 < 256) (h2 : x2 < 256) (h3 : x3 < 256) (h4 : x4 < 256) (h5 : x5 < 256) (h6 : x6 < 256) (h7 : x7 < 256) (hc : c < 256) (hs : s < 256) (ht : Tab w) : Calls Tryd.prog 3 #[.agg #[.int .u8 x0, .int .u8 x1, .int .u8 x2, .int .u8 x3, .int .u8 x4, .int .u8 x5, .int .u8 x6, .int .u8 x7], .int .u8 c, .int .u8 s] w fun e w' => e = .returned (.bool true) ∧ Keep NoF w w' := by
  obtain ⟨V, hV⟩ : ∃ V, V = 2 * 3 := ⟨_, rfl⟩
  have hx : ∀ x ∈ [x0, x1, x2, x3, x4, x5, x6, x7], x < 256 := by simp only [List.mem_cons, List.not_mem_nil, or_false]; rintro x (rfl | rfl | rfl | rfl | rfl | rfl | rfl | rfl) <;> assumption
  obtain ⟨m, hm⟩ := path_end 3 [x0, x1, x2, x3, x4, x5, x6, x7] c s
  obtain ⟨m2, hm2⟩ := path_end 3 [x0, x1, x2, x3, x4, x5, x6, x7] 255 s
  obtain ⟨mr, hr⟩ : ∃ mr : Nat → Nat, ∀ v, v < 8 → reS 3 [x0, x1, x2, x3, x4, x5, x6, x7] (iterN (reS 3 [x0, x1, x2, x3, x4, x5, x6, x7]) (mr v) (imN 3 [x0, x1, x2, x3, x4, x5, x6, x7] (2 ^ v))) = iterN (reS 3 [x0, x1, x2, x3, x4, x5, x6, x7]) (mr v) (imN 3 [x0, x1, x2, x3, x4, x5, x6, x7] (2 ^ v)) :=
    ⟨fun v => (reach_end 3 [x0, x1, x2, x3, x4, x5, x6, x7] (imN 3 [x0, x1, x2, x3, x4, x5, x6, x7] (2 ^ v)) (imN_lt 3 [x0, x1, x2, x3, x4, x5, x6, x7] (2 ^ v))).choose, fun v _ => (reach_end 3 [x0, x1, x2, x3, x4, x5, x6, x7] (imN 3 [x0, x1, x2, x3, x4, x5, x6, x7] (2 ^ v)) (imN_lt 3 [x0, x1, x2, x3, x4, x5, x6, x7] (2 ^ v))).choose_spec⟩
  have HS : Hid (∀ W : World, Calls Tryd.prog 5 #[.agg #[.int .u8 x0, .int .u8 x1, .int .u8 x2, .int .u8 x3, .int .u8 x4, .int .u8 x5, .int .u8 x6, .int .u8 x7], .int .u8 s] W fun e w' => ∃ (A1 : Option Addr) (c1 : Nat) (A2 : Option Addr) (n2 c2 r2 : Nat) (A3 : Option Addr) (n3 c3 r3 : Nat),
    e = .returned (.tuple #[.slice A1 8 c1, .agg #[.int .i64 V, .slice A2 n2 c2, .int .i64 r2], .agg #[.int .i64 V, .slice A3 n3 c3, .int .i64 r3], .bool true]) ∧ Rd w' (.slice A1 8 c1) 1 8 (n64 [x0, x1, x2, x3, x4, x5, x6, x7]) ∧ IsD w' V (relF 3 [x0, x1, x2, x3, x4, x5, x6, x7]) A2 n2 c2 r2 ∧ IsD w' V (setF 3 s 0) A3 n3 c3 r3 ∧ Keep NoF W w') := Lib.hid fun W => states_ok [x0, x1, x2, x3, x4, x5, x6, x7] rfl hx s hs V hV W
  have HTC := Lib.hid fun (W : World) => set3_ok hc hV W
  have HTA : Hid (∀ W : World, Calls Tryd.prog 6 #[.int .i64 3, .int .u64 255] W (DP W V (setF 3 255 0))) := Lib.hid fun (W : World) => set3_ok (show 255 < 256 by omega) hV W
  have HP : Hid (∀ (W : World) A1 n1 c1 r1 A2 n2 c2 r2 A3 n3 c3 r3, IsD W V (relF 3 [x0, x1, x2, x3, x4, x5, x6, x7]) A1 n1 c1 r1 → IsD W V (setF 3 c 0) A2 n2 c2 r2 → IsD W V (setF 3 s 0) A3 n3 c3 r3 → Calls Tryd.prog 7 #[.agg #[.int .i64 V, .slice A1 n1 c1, .int .i64 r1], .agg #[.int .i64 V, .slice A2 n2 c2, .int .i64 r2], .agg #[.int .i64 V, .slice A3 n3 c3, .int .i64 r3]] W (DP W V (setF 3 (iterN (paS 3 [x0, x1, x2, x3, x4, x5, x6, x7] c s) m (alN 3)) 0))) :=
    Lib.hid fun W A1 n1 c1 r1 A2 n2 c2 r2 A3 n3 c3 r3 D1 D2 D3 => Paths_ok 3 (by omega) [x0, x1, x2, x3, x4, x5, x6, x7] c s V m hV hm A1 n1 c1 r1 A2 n2 c2 r2 A3 n3 c3 r3 W D1 D2 D3
  have HPA : Hid (∀ (W : World) A1 n1 c1 r1 A2 n2 c2 r2 A3 n3 c3 r3, IsD W V (relF 3 [x0, x1, x2, x3, x4, x5, x6, x7]) A1 n1 c1 r1 → IsD W V (setF 3 255 0) A2 n2 c2 r2 → IsD W V (setF 3 s 0) A3 n3 c3 r3 → Calls Tryd.prog 7 #[.agg #[.int .i64 V, .slice A1 n1 c1, .int .i64 r1], .agg #[.int .i64 V, .slice A2 n2 c2, .int .i64 r2], .agg #[.int .i64 V, .slice A3 n3 c3, .int .i64 r3]] W (DP W V (setF 3 (iterN (paS 3 [x0, x1, x2, x3, x4, x5, x6, x7] 255 s) m2 (alN 3)) 0))) :=
    Lib.hid fun W A1 n1 c1 r1 A2 n2 c2 r2 A3 n3 c3 r3 D1 D2 D3 => Paths_ok 3 (by omega) [x0, x1, x2, x3, x4, x5, x6, x7] 255 s V m2 hV hm2 A1 n1 c1 r1 A2 n2 c2 r2 A3 n3 c3 r3 W D1 D2 D3
  have hX : iterN (paS 3 [x0, x1, x2, x3, x4, x5, x6, x7] c s) m (alN 3) < 256 := pa_lt 3 [x0, x1, x2, x3, x4, x5, x6, x7] c s (alN 3) (by decide) m
  have hY : iterN (paS 3 [x0, x1, x2, x3, x4, x5, x6, x7] 255 s) m2 (alN 3) < 256 := pa_lt 3 [x0, x1, x2, x3, x4, x5, x6, x7] 255 s (alN 3) (by decide) m2
  have HGZ := Lib.hid fun z (hz : z < 256) => great_z (R := [x0, x1, x2, x3, x4, x5, x6, x7]) (c := c) (s := s) (m := m) hz
  have HON := Lib.hid fun v (hv : v < 8) => only_v (R := [x0, x1, x2, x3, x4, x5, x6, x7]) rfl hx hs hm2 mr hr hv
  have HFX : Hid (paS 3 [x0, x1, x2, x3, x4, x5, x6, x7] c s (iterN (paS 3 [x0, x1, x2, x3, x4, x5, x6, x7] c s) m (alN 3)) = iterN (paS 3 [x0, x1, x2, x3, x4, x5, x6, x7] c s) m (alN 3)) := Lib.hid hm
  have HST : Hid (∀ (z : Nat) A cp b7 b4 b5 W, z < 256 → Rd W (.slice A 8 cp) 1 8 (n64 [x0, x1, x2, x3, x4, x5, x6, x7]) → W.cell? ⟨b7, 0, none⟩ = some (.slice A 8 cp) → W.cell? ⟨b4, 0, none⟩ = some (.int .u8 c) → W.cell? ⟨b5, 0, none⟩ = some (.int .u8 s) →
    Calls Tryd.prog 9 #[.int .u64 z, .pointer (some ⟨b7, 0, none⟩), .pointer (some ⟨b4, 0, none⟩), .pointer (some ⟨b5, 0, none⟩)] W fun e w' => e = .returned (.int .u64 (paS 3 [x0, x1, x2, x3, x4, x5, x6, x7] c s z)) ∧ w' = W) :=
    Lib.hid fun z A cp b7 b4 b5 W hz hrd g7 g4 g5 => step_ok [x0, x1, x2, x3, x4, x5, x6, x7] rfl hx c s z hc hs hz A cp b7 b4 b5 W hrd g7 g4 g5
  have HRE : Hid (∀ v, v < 8 → ∀ A cp W, Rd W (.slice A 8 cp) 1 8 (n64 [x0, x1, x2, x3, x4, x5, x6, x7]) → Keep NoF w W → Calls Tryd.prog 11 #[.slice A 8 cp, .int .u64 ((2 ^ v : Nat) : Int)] W fun e w' => e = .returned (.int .u64 (iterN (reS 3 [x0, x1, x2, x3, x4, x5, x6, x7]) (mr v) (imN 3 [x0, x1, x2, x3, x4, x5, x6, x7] (2 ^ v)))) ∧ Keep NoF W w') :=
    Lib.hid fun v hv A cp W hrd hk => reach3_ok [x0, x1, x2, x3, x4, x5, x6, x7] rfl hx (2 ^ v) (by have : 2 ^ v < 2 ^ 8 := Nat.pow_lt_pow_right (by omega) hv; omega) (mr v) (hr v hv) A cp W hrd (ht.keep0 hk)
  have HMX := Lib.hid fun (W : World) A n c' r (D : IsD W V (setF 3 (iterN (paS 3 [x0, x1, x2, x3, x4, x5, x6, x7] c s) m (alN 3)) 0) A n c' r) => members3_ok hX hV D
  have HMY := Lib.hid fun (W : World) A n c' r (D : IsD W V (setF 3 (iterN (paS 3 [x0, x1, x2, x3, x4, x5, x6, x7] 255 s) m2 (alN 3)) 0) A n c' r) => members3_ok hY hV D
  clear hV hx hm hm2 hr
  generalize relF 3 [x0, x1, x2, x3, x4, x5, x6, x7] = F at *
  generalize n64 [x0, x1, x2, x3, x4, x5, x6, x7] = NL at *
  generalize hf : (fun v => iterN (reS 3 [x0, x1, x2, x3, x4, x5, x6, x7]) (mr v) (imN 3 [x0, x1, x2, x3, x4, x5, x6, x7] (2 ^ v))) = re at *
  have HRV : Hid (∀ v, iterN (reS 3 [x0, x1, x2, x3, x4, x5, x6, x7]) (mr v) (imN 3 [x0, x1, x2, x3, x4, x5, x6, x7] (2 ^ v)) = re v) := Lib.hid fun v => by rw [← hf]
  clear hf
  generalize iterN (paS 3 [x0, x1, x2, x3, x4, x5, x6, x7] c s) m (alN 3) = X at *
  generalize iterN (paS 3 [x0, x1, x2, x3, x4, x5, x6, x7] 255 s) m2 (alN 3) = Y at *
  generalize paS 3 [x0, x1, x2, x3, x4, x5, x6, x7] c s = σ at *
  have b8 := ((Bk.new w 22 #[.int .u8 x0, .int .u8 x1, .int .u8 x2, .int .u8 x3, .int .u8 x4, .int .u8 x5, .int .u8 x6, .int .u8 x7]).alloc (.cells #[.int .u8 c] 5)).alloc (.cells #[.int .u8 s] 5)
  have Bc := (Bk.new (w.alloc (.cells #[.int .u8 x0, .int .u8 x1, .int .u8 x2, .int .u8 x3, .int .u8 x4, .int .u8 x5, .int .u8 x6, .int .u8 x7] 22)) 5 #[.int .u8 c]).alloc (.cells #[.int .u8 s] 5)
  have Bs := Bk.new ((w.alloc (.cells #[.int .u8 x0, .int .u8 x1, .int .u8 x2, .int .u8 x3, .int .u8 x4, .int .u8 x5, .int .u8 x6, .int .u8 x7] 22)).alloc (.cells #[.int .u8 c] 5)) 5 #[.int .u8 s]
  simp only [World.size_alloc, Nat.add_assoc, Nat.reduceAdd] at Bc Bs
  have Kw0 : Keep NoF w (((w.alloc (.cells #[.int .u8 x0, .int .u8 x1, .int .u8 x2, .int .u8 x3, .int .u8 x4, .int .u8 x5, .int .u8 x6, .int .u8 x7] 22)).alloc (.cells #[.int .u8 c] 5)).alloc (.cells #[.int .u8 s] 5)) := (((Keep.refl _ _).alloc _).alloc _).alloc _
  go_enter Tryd.func3, Tryd.ntmps3
  go_upto_region 1 with (fail)
  generalize ((w.alloc (.cells #[.int .u8 x0, .int .u8 x1, .int .u8 x2, .int .u8 x3, .int .u8 x4, .int .u8 x5, .int .u8 x6, .int .u8 x7] 22)).alloc (.cells #[.int .u8 c] 5)).alloc (.cells #[.int .u8 s] 5) = W0 at *
  have u0 := b8.cell 0
  have u1 := b8.cell 1
  have u2 := b8.cell 2
  have u3 := b8.cell 3
  have u4 := b8.cell 4
  have u5 := b8.cell 5
  have u6 := b8.cell 6
  have u7 := b8.cell 7
  have us := Bs.cell 0
  go_upto_region 2 with (go_at_call 5
                         (with_reducible refine (HS.out _).mono ?_)
                         rintro e w1 ⟨A1, c1, A2, n2, c2, r2, A3, n3, c3, r3, rfl, RL, D2, D3, K1⟩)
  clear u0 u1 u2 u3 u4 u5 u6 u7 us b8
  have Bt := ((Bk.new w1 23 #[.slice A1 8 c1]).alloc (.cells #[.int .i64 V, .slice A2 n2 c2, .int .i64 r2] 26)).alloc (.cells #[.int .i64 V, .slice A3 n3 c3, .int .i64 r3] 26)
  have Ba := (Bk.new (w1.alloc (.cells #[.slice A1 8 c1] 23)) 26 #[.int .i64 V, .slice A2 n2 c2, .int .i64 r2]).alloc (.cells #[.int .i64 V, .slice A3 n3 c3, .int .i64 r3] 26)
  have Bb := Bk.new ((w1.alloc (.cells #[.slice A1 8 c1] 23)).alloc (.cells #[.int .i64 V, .slice A2 n2 c2, .int .i64 r2] 26)) 26 #[.int .i64 V, .slice A3 n3 c3, .int .i64 r3]
  simp only [World.size_alloc, Nat.add_assoc, Nat.reduceAdd] at Ba Bb
  have KN : Keep NoF w1 (((w1.alloc (.cells #[.slice A1 8 c1] 23)).alloc (.cells #[.int .i64 V, .slice A2 n2 c2, .int .i64 r2] 26)).alloc (.cells #[.int .i64 V, .slice A3 n3 c3, .int .i64 r3] 26)) := (((Keep.refl _ _).alloc _).alloc _).alloc _
  have Qa := D2.keep KN
  have Qb := D3.keep KN
  have R1 := RL.kept KN fun _ _ h => h
  have Kw := (Kw0.trans K1 fun _ _ h => h).trans KN fun _ _ h => h
  have Bc_0 := (Bc.keep K1 fun h => h).keep KN fun h => h
  have Bs_0 := (Bs.keep K1 fun h => h).keep KN fun h => h
  have G1 : w.heap.size ≤ w1.heap.size := (Kw0.trans K1 fun _ _ h => h).size
  generalize (((w1.alloc (.cells #[.slice A1 8 c1] 23)).alloc (.cells #[.int .i64 V, .slice A2 n2 c2, .int .i64 r2] 26)).alloc (.cells #[.int .i64 V, .slice A3 n3 c3, .int .i64 r3] 26)) = W1 at *
  clear Kw0 K1 D2 D3 RL KN Bc Bs
  have cc0 : W1.cell? ⟨w.heap.size + 1, 0, none⟩ = some (.int .u8 c) := Bc_0.cell 0
  have cs0 : W1.cell? ⟨w.heap.size + 2, 0, none⟩ = some (.int .u8 s) := Bs_0.cell 0
  have ct0 : W1.cell? ⟨w1.heap.size, 0, none⟩ = some (.slice A1 8 c1) := Bt.cell 0
  go_upto_region 3 with (go_at_call 6
                         (with_reducible refine (HTC.out _).mono ?_)
                         rintro e w4 ⟨A4, n4, c4, r4, rfl, D4, K4⟩
                         have Bcn := Bc_0.keep K4 fun h => h
                         have Lcn := Bcn.lt
                         have ec0 : w4.cell? ⟨w.heap.size + 1, 0, none⟩ = some (.int .u8 c) := Bcn.cell 0
                         have Bsn := Bs_0.keep K4 fun h => h
                         have Lsn := Bsn.lt
                         have es0 : w4.cell? ⟨w.heap.size + 2, 0, none⟩ = some (.int .u8 s) := Bsn.cell 0
                         have Btn := Bt.keep K4 fun h => h
                         have Ltn := Btn.lt
                         have et0 : w4.cell? ⟨w1.heap.size, 0, none⟩ = some (.slice A1 8 c1) := Btn.cell 0
                         have Ban := Ba.keep K4 fun h => h
                         have Lan := Ban.lt
                         have Bbn := Bb.keep K4 fun h => h
                         have Lbn := Bbn.lt)
  clear cc0 cs0 ct0
  have Bc_1 := Bcn.alloc (.cells #[.int .i64 V, .slice A4 n4 c4, .int .i64 r4] 26)
  have Bs_1 := Bsn.alloc (.cells #[.int .i64 V, .slice A4 n4 c4, .int .i64 r4] 26)
  have Bt_1 := Btn.alloc (.cells #[.int .i64 V, .slice A4 n4 c4, .int .i64 r4] 26)
  have Ba_1 := Ban.alloc (.cells #[.int .i64 V, .slice A4 n4 c4, .int .i64 r4] 26)
  have Qa_1 := (Qa.keep K4).keep ((Keep.refl NoF w4).alloc (.cells #[.int .i64 V, .slice A4 n4 c4, .int .i64 r4] 26))
  have Bb_1 := Bbn.alloc (.cells #[.int .i64 V, .slice A4 n4 c4, .int .i64 r4] 26)
  have Qb_1 := (Qb.keep K4).keep ((Keep.refl NoF w4).alloc (.cells #[.int .i64 V, .slice A4 n4 c4, .int .i64 r4] 26))
  have R1_1 := (R1.kept K4 fun _ _ h => h).kept ((Keep.refl NoF w4).alloc (.cells #[.int .i64 V, .slice A4 n4 c4, .int .i64 r4] 26)) fun _ _ h => h
  have Bd_1 := Bk.new w4 26 #[.int .i64 V, .slice A4 n4 c4, .int .i64 r4]
  have Qd_1 := D4.keep ((Keep.refl NoF w4).alloc (.cells #[.int .i64 V, .slice A4 n4 c4, .int .i64 r4] 26))
  have Kw_1 : Keep NoF w (w4.alloc (.cells #[.int .i64 V, .slice A4 n4 c4, .int .i64 r4] 26)) := (Kw.trans K4 fun _ _ h => h).alloc _
  have Gd_1 : w.heap.size ≤ w4.heap.size := (Kw.trans K4 fun _ _ h => h).size
  generalize w4.alloc (.cells #[.int .i64 V, .slice A4 n4 c4, .int .i64 r4] 26) = W1 at *
  clear Bc_0 Bs_0 Bt Ba Bb Qa Qb Bcn Bsn Btn Ban Bbn Kw D4 K4 R1
  have cc0 : W1.cell? ⟨w.heap.size + 1, 0, none⟩ = some (.int .u8 c) := Bc_1.cell 0
  have cs0 : W1.cell? ⟨w.heap.size + 2, 0, none⟩ = some (.int .u8 s) := Bs_1.cell 0
  have ct0 : W1.cell? ⟨w1.heap.size, 0, none⟩ = some (.slice A1 8 c1) := Bt_1.cell 0
  have ca0 : W1.cell? ⟨w1.heap.size + 1, 0, none⟩ = some (.int .i64 V) := Ba_1.cell 0
  have ca1 : W1.cell? ⟨w1.heap.size + 1, 1, none⟩ = some (.slice A2 n2 c2) := Ba_1.cell 1
  have ca2 : W1.cell? ⟨w1.heap.size + 1, 2, none⟩ = some (.int .i64 r2) := Ba_1.cell 2
  have cb0 : W1.cell? ⟨w1.heap.size + 2, 0, none⟩ = some (.int .i64 V) := Bb_1.cell 0
  have cb1 : W1.cell? ⟨w1.heap.size + 2, 1, none⟩ = some (.slice A3 n3 c3) := Bb_1.cell 1
  have cb2 : W1.cell? ⟨w1.heap.size + 2, 2, none⟩ = some (.int .i64 r3) := Bb_1.cell 2
  have cd0 : W1.cell? ⟨w4.heap.size, 0, none⟩ = some (.int .i64 V) := Bd_1.cell 0
  have cd1 : W1.cell? ⟨w4.heap.size, 1, none⟩ = some (.slice A4 n4 c4) := Bd_1.cell 1
  have cd2 : W1.cell? ⟨w4.heap.size, 2, none⟩ = some (.int .i64 r4) := Bd_1.cell 2
  go_upto_region 4 with (go_at_call 7
                         (with_reducible refine (HP.out _ _ _ _ _ _ _ _ _ _ _ _ _ Qa_1 Qd_1 Qb_1).mono ?_)
                         rintro e w5 ⟨A5, n5, c5, r5, rfl, D5, K5⟩
                         have Bcn := Bc_1.keep K5 fun h => h
                         have Lcn := Bcn.lt
                         have ec0 : w5.cell? ⟨w.heap.size + 1, 0, none⟩ = some (.int .u8 c) := Bcn.cell 0
                         have Bsn := Bs_1.keep K5 fun h => h
                         have Lsn := Bsn.lt
                         have es0 : w5.cell? ⟨w.heap.size + 2, 0, none⟩ = some (.int .u8 s) := Bsn.cell 0
                         have Btn := Bt_1.keep K5 fun h => h
                         have Ltn := Btn.lt
                         have et0 : w5.cell? ⟨w1.heap.size, 0, none⟩ = some (.slice A1 8 c1) := Btn.cell 0
                         have Ban := Ba_1.keep K5 fun h => h
                         have Lan := Ban.lt
                         have Bbn := Bb_1.keep K5 fun h => h
                         have Lbn := Bbn.lt
                         have Bdn := Bd_1.keep K5 fun h => h
                         have Ldn := Bdn.lt)
  clear cc0 cs0 ct0 ca0 ca1 ca2 cb0 cb1 cb2 cd0 cd1 cd2
  have Bc_2 := Bcn.alloc (.cells #[.int .i64 V, .slice A5 n5 c5, .int .i64 r5] 26)
  have Bs_2 := Bsn.alloc (.cells #[.int .i64 V, .slice A5 n5 c5, .int .i64 r5] 26)
  have Bt_2 := Btn.alloc (.cells #[.int .i64 V, .slice A5 n5 c5, .int .i64 r5] 26)
  have Ba_2 := Ban.alloc (.cells #[.int .i64 V, .slice A5 n5 c5, .int .i64 r5] 26)
  have Qa_2 := (Qa_1.keep K5).keep ((Keep.refl NoF w5).alloc (.cells #[.int .i64 V, .slice A5 n5 c5, .int .i64 r5] 26))
  have Bb_2 := Bbn.alloc (.cells #[.int .i64 V, .slice A5 n5 c5, .int .i64 r5] 26)
  have Qb_2 := (Qb_1.keep K5).keep ((Keep.refl NoF w5).alloc (.cells #[.int .i64 V, .slice A5 n5 c5, .int .i64 r5] 26))
  have Bd_2 := Bdn.alloc (.cells #[.int .i64 V, .slice A5 n5 c5, .int .i64 r5] 26)
  have Qd_2 := (Qd_1.keep K5).keep ((Keep.refl NoF w5).alloc (.cells #[.int .i64 V, .slice A5 n5 c5, .int .i64 r5] 26))
  have R1_2 := (R1_1.kept K5 fun _ _ h => h).kept ((Keep.refl NoF w5).alloc (.cells #[.int .i64 V, .slice A5 n5 c5, .int .i64 r5] 26)) fun _ _ h => h
  have Bp_2 := Bk.new w5 26 #[.int .i64 V, .slice A5 n5 c5, .int .i64 r5]
  have Qp_2 := D5.keep ((Keep.refl NoF w5).alloc (.cells #[.int .i64 V, .slice A5 n5 c5, .int .i64 r5] 26))
  have Kw_2 : Keep NoF w (w5.alloc (.cells #[.int .i64 V, .slice A5 n5 c5, .int .i64 r5] 26)) := (Kw_1.trans K5 fun _ _ h => h).alloc _
  have Gp_2 : w.heap.size ≤ w5.heap.size := (Kw_1.trans K5 fun _ _ h => h).size
  generalize w5.alloc (.cells #[.int .i64 V, .slice A5 n5 c5, .int .i64 r5] 26) = W2 at *
  clear Bc_1 Bs_1 Bt_1 Ba_1 Bb_1 Bd_1 Qa_1 Qb_1 Qd_1 Bcn Bsn Btn Ban Bbn Bdn Kw_1 D5 K5 R1_1
  have cc0 : W2.cell? ⟨w.heap.size + 1, 0, none⟩ = some (.int .u8 c) := Bc_2.cell 0
  have cs0 : W2.cell? ⟨w.heap.size + 2, 0, none⟩ = some (.int .u8 s) := Bs_2.cell 0
  have ct0 : W2.cell? ⟨w1.heap.size, 0, none⟩ = some (.slice A1 8 c1) := Bt_2.cell 0
  have cp0 : W2.cell? ⟨w5.heap.size, 0, none⟩ = some (.int .i64 V) := Bp_2.cell 0
  have cp1 : W2.cell? ⟨w5.heap.size, 1, none⟩ = some (.slice A5 n5 c5) := Bp_2.cell 1
  have cp2 : W2.cell? ⟨w5.heap.size, 2, none⟩ = some (.int .i64 r5) := Bp_2.cell 2
  go_upto_region 5 with (first
                         | (go_at_call 8
                            (with_reducible refine (HMX.out _ _ _ _ _ (Qp_2.keep (Keep.refl NoF W2))).mono ?_)
                            rintro e p1 ⟨rfl, p1Z⟩
                            have p1K : Keep NoF W2 p1 := (Keep.refl NoF W2).trans p1Z fun _ _ h => h)
                         | fail)
  clear cc0 cs0 ct0 cp0 cp1 cp2
  have Bc_3 := Bc_2.keep p1K fun h => h
  have Bs_3 := Bs_2.keep p1K fun h => h
  have Bt_3 := Bt_2.keep p1K fun h => h
  have Ba_3 := Ba_2.keep p1K fun h => h
  have Qa_3 := Qa_2.keep p1K
  have Bb_3 := Bb_2.keep p1K fun h => h
  have Qb_3 := Qb_2.keep p1K
  have Bd_3 := Bd_2.keep p1K fun h => h
  have Qd_3 := Qd_2.keep p1K
  have Bp_3 := Bp_2.keep p1K fun h => h
  have Qp_3 := Qp_2.keep p1K
  have R1_3 := R1_2.kept p1K fun _ _ h => h
  have Kw_3 := Kw_2.trans p1K fun _ _ h => h
  clear Kw_2 p1K p1Z Bc_2 Bs_2 Bt_2 Ba_2 Qa_2 Bb_2 Qb_2 Bd_2 Qd_2 Bp_2 Qp_2 R1_2
  have hx8 : ((X : Int) / 2 ^ 8 != 0) = false := by rw [show (X : Int) / 2 ^ 8 = 0 by omega]; rfl
  have cc0 : p1.cell? ⟨w.heap.size + 1, 0, none⟩ = some (.int .u8 c) := Bc_3.cell 0
  have cs0 : p1.cell? ⟨w.heap.size + 2, 0, none⟩ = some (.int .u8 s) := Bs_3.cell 0
  have ct0 : p1.cell? ⟨w1.heap.size, 0, none⟩ = some (.slice A1 8 c1) := Bt_3.cell 0
  have HFX2 : (((σ X : Nat) : Int) != (X : Int)) = false := by rw [HFX.out]; simp
  go_upto_region 11 with (go_at_call 9
                          (with_reducible refine (HST.out _ _ _ _ _ _ _ hX R1_3 ct0 cc0 cs0).mono ?_)
                          rintro e w' ⟨rfl, hw'⟩
                          obtain rfl := hw'.symm)
  go_wp2

  go_loopw [18] (fun t wr => ∃ z : Nat, t = .int .u64 z ∧ z ≤ 256 ∧ wr = p1) (fun t _ => 256 - (intOf t).toNat)
  case atStart => exact ⟨0, rfl, by omega, rfl⟩
  case round =>
    obtain ⟨z, rfl, hz, rfl⟩ := hrel
    obtain ⟨wa, rfl⟩ : ∃ wa : World, wa = wr := ⟨_, rfl⟩
    by_cases hlt : z < 256
    · have hlt' : (z : Int) < 256 := by omega
      have hgz := HGZ.out z hlt
      cases hb : (bits .andNot .u64 (z : Int) ((σ z : Nat) : Int) == 0) with
      | true =>
        have hb2 := hgz hb
        clear hgz
        go_wp2_with (go_at_call 9; (with_reducible refine (HST.out _ _ _ _ _ _ _ hlt R1_3 ct0 cc0 cs0).mono ?_); rintro e w' ⟨rfl, hw'⟩; obtain rfl := hw'.symm)
        go_roundw
        case rel => exact ⟨z + 1, by go_num, by omega, by trivial⟩
        case measure => simp only [intOf]; omega
      | false =>
        clear hgz
        go_wp2_with (go_at_call 9; (with_reducible refine (HST.out _ _ _ _ _ _ _ hlt R1_3 ct0 cc0 cs0).mono ?_); rintro e w' ⟨rfl, hw'⟩; obtain rfl := hw'.symm)
        go_roundw
        case rel => exact ⟨z + 1, by go_num, by omega, by trivial⟩
        case measure => simp only [intOf]; omega
    · have hlt' : ¬ (z : Int) < 256 := by omega
      clear hx8 HFX2
      clear cc0 cs0 ct0
      have cc0 : wa.cell? ⟨w.heap.size + 1, 0, none⟩ = some (.int .u8 c) := Bc_3.cell 0
      have cs0 : wa.cell? ⟨w.heap.size + 2, 0, none⟩ = some (.int .u8 s) := Bs_3.cell 0
      have ct0 : wa.cell? ⟨w1.heap.size, 0, none⟩ = some (.slice A1 8 c1) := Bt_3.cell 0
      go_upto_region 16 with (go_at_call 6
                              (with_reducible refine (HTA.out _).mono ?_)
                              rintro e w6 ⟨A6, n6, c6, r6, rfl, D6, K6⟩
                              have Bcn := Bc_3.keep K6 fun h => h
                              have Lcn := Bcn.lt
                              have ec0 : w6.cell? ⟨w.heap.size + 1, 0, none⟩ = some (.int .u8 c) := Bcn.cell 0
                              have Bsn := Bs_3.keep K6 fun h => h
                              have Lsn := Bsn.lt
                              have es0 : w6.cell? ⟨w.heap.size + 2, 0, none⟩ = some (.int .u8 s) := Bsn.cell 0
                              have Btn := Bt_3.keep K6 fun h => h
                              have Ltn := Btn.lt
                              have et0 : w6.cell? ⟨w1.heap.size, 0, none⟩ = some (.slice A1 8 c1) := Btn.cell 0
                              have Ban := Ba_3.keep K6 fun h => h
                              have Lan := Ban.lt
                              have Bbn := Bb_3.keep K6 fun h => h
                              have Lbn := Bbn.lt
                              have Bdn := Bd_3.keep K6 fun h => h
                              have Ldn := Bdn.lt
                              have Bpn := Bp_3.keep K6 fun h => h
                              have Lpn := Bpn.lt)
      clear cc0 cs0 ct0
      have Bc_4 := Bcn.alloc (.cells #[.int .i64 V, .slice A6 n6 c6, .int .i64 r6] 26)
      have Bs_4 := Bsn.alloc (.cells #[.int .i64 V, .slice A6 n6 c6, .int .i64 r6] 26)
      have Bt_4 := Btn.alloc (.cells #[.int .i64 V, .slice A6 n6 c6, .int .i64 r6] 26)
      have Ba_4 := Ban.alloc (.cells #[.int .i64 V, .slice A6 n6 c6, .int .i64 r6] 26)
      have Qa_4 := (Qa_3.keep K6).keep ((Keep.refl NoF w6).alloc (.cells #[.int .i64 V, .slice A6 n6 c6, .int .i64 r6] 26))
      have Bb_4 := Bbn.alloc (.cells #[.int .i64 V, .slice A6 n6 c6, .int .i64 r6] 26)
      have Qb_4 := (Qb_3.keep K6).keep ((Keep.refl NoF w6).alloc (.cells #[.int .i64 V, .slice A6 n6 c6, .int .i64 r6] 26))
      have Bd_4 := Bdn.alloc (.cells #[.int .i64 V, .slice A6 n6 c6, .int .i64 r6] 26)
      have Qd_4 := (Qd_3.keep K6).keep ((Keep.refl NoF w6).alloc (.cells #[.int .i64 V, .slice A6 n6 c6, .int .i64 r6] 26))
      have Bp_4 := Bpn.alloc (.cells #[.int .i64 V, .slice A6 n6 c6, .int .i64 r6] 26)
      have Qp_4 := (Qp_3.keep K6).keep ((Keep.refl NoF w6).alloc (.cells #[.int .i64 V, .slice A6 n6 c6, .int .i64 r6] 26))
      have R1_4 := (R1_3.kept K6 fun _ _ h => h).kept ((Keep.refl NoF w6).alloc (.cells #[.int .i64 V, .slice A6 n6 c6, .int .i64 r6] 26)) fun _ _ h => h
      have Bl_4 := Bk.new w6 26 #[.int .i64 V, .slice A6 n6 c6, .int .i64 r6]
      have Ql_4 := D6.keep ((Keep.refl NoF w6).alloc (.cells #[.int .i64 V, .slice A6 n6 c6, .int .i64 r6] 26))
      have Kw_4 : Keep NoF w (w6.alloc (.cells #[.int .i64 V, .slice A6 n6 c6, .int .i64 r6] 26)) := (Kw_3.trans K6 fun _ _ h => h).alloc _
      have Gl_4 : w.heap.size ≤ w6.heap.size := (Kw_3.trans K6 fun _ _ h => h).size
      generalize w6.alloc (.cells #[.int .i64 V, .slice A6 n6 c6, .int .i64 r6] 26) = W4 at *
      clear Bc_3 Bs_3 Bt_3 Ba_3 Bb_3 Bd_3 Bp_3 Qa_3 Qb_3 Qd_3 Qp_3 Bcn Bsn Btn Ban Bbn Bdn Bpn Kw_3 D6 K6 R1_3
      have cc0 : W4.cell? ⟨w.heap.size + 1, 0, none⟩ = some (.int .u8 c) := Bc_4.cell 0
      have cs0 : W4.cell? ⟨w.heap.size + 2, 0, none⟩ = some (.int .u8 s) := Bs_4.cell 0
      have ct0 : W4.cell? ⟨w1.heap.size, 0, none⟩ = some (.slice A1 8 c1) := Bt_4.cell 0
      have ca0 : W4.cell? ⟨w1.heap.size + 1, 0, none⟩ = some (.int .i64 V) := Ba_4.cell 0
      have ca1 : W4.cell? ⟨w1.heap.size + 1, 1, none⟩ = some (.slice A2 n2 c2) := Ba_4.cell 1
      have ca2 : W4.cell? ⟨w1.heap.size + 1, 2, none⟩ = some (.int .i64 r2) := Ba_4.cell 2
      have cb0 : W4.cell? ⟨w1.heap.size + 2, 0, none⟩ = some (.int .i64 V) := Bb_4.cell 0
      have cb1 : W4.cell? ⟨w1.heap.size + 2, 1, none⟩ = some (.slice A3 n3 c3) := Bb_4.cell 1
      have cb2 : W4.cell? ⟨w1.heap.size + 2, 2, none⟩ = some (.int .i64 r3) := Bb_4.cell 2
      have cl0 : W4.cell? ⟨w6.heap.size, 0, none⟩ = some (.int .i64 V) := Bl_4.cell 0
      have cl1 : W4.cell? ⟨w6.heap.size, 1, none⟩ = some (.slice A6 n6 c6) := Bl_4.cell 1
      have cl2 : W4.cell? ⟨w6.heap.size, 2, none⟩ = some (.int .i64 r6) := Bl_4.cell 2
      go_upto_region 17 with (go_at_call 7
                              (with_reducible refine (HPA.out _ _ _ _ _ _ _ _ _ _ _ _ _ Qa_4 Ql_4 Qb_4).mono ?_)
                              rintro e w7 ⟨A7, n7, c7, r7, rfl, D7, K7⟩
                              have Bcn := Bc_4.keep K7 fun h => h
                              have Lcn := Bcn.lt
                              have ec0 : w7.cell? ⟨w.heap.size + 1, 0, none⟩ = some (.int .u8 c) := Bcn.cell 0
                              have Bsn := Bs_4.keep K7 fun h => h
                              have Lsn := Bsn.lt
                              have es0 : w7.cell? ⟨w.heap.size + 2, 0, none⟩ = some (.int .u8 s) := Bsn.cell 0
                              have Btn := Bt_4.keep K7 fun h => h
                              have Ltn := Btn.lt
                              have et0 : w7.cell? ⟨w1.heap.size, 0, none⟩ = some (.slice A1 8 c1) := Btn.cell 0
                              have Ban := Ba_4.keep K7 fun h => h
                              have Lan := Ban.lt
                              have Bbn := Bb_4.keep K7 fun h => h
                              have Lbn := Bbn.lt
                              have Bdn := Bd_4.keep K7 fun h => h
                              have Ldn := Bdn.lt
                              have Bpn := Bp_4.keep K7 fun h => h
                              have Lpn := Bpn.lt
                              have Bln := Bl_4.keep K7 fun h => h
                              have Lln := Bln.lt)
      clear cc0 cs0 ct0 ca0 ca1 ca2 cb0 cb1 cb2 cl0 cl1 cl2
      have Bc_5 := Bcn.alloc (.cells #[.int .i64 V, .slice A7 n7 c7, .int .i64 r7] 26)
      have Bs_5 := Bsn.alloc (.cells #[.int .i64 V, .slice A7 n7 c7, .int .i64 r7] 26)
      have Bt_5 := Btn.alloc (.cells #[.int .i64 V, .slice A7 n7 c7, .int .i64 r7] 26)
      have Ba_5 := Ban.alloc (.cells #[.int .i64 V, .slice A7 n7 c7, .int .i64 r7] 26)
      have Qa_5 := (Qa_4.keep K7).keep ((Keep.refl NoF w7).alloc (.cells #[.int .i64 V, .slice A7 n7 c7, .int .i64 r7] 26))
      have Bb_5 := Bbn.alloc (.cells #[.int .i64 V, .slice A7 n7 c7, .int .i64 r7] 26)
      have Qb_5 := (Qb_4.keep K7).keep ((Keep.refl NoF w7).alloc (.cells #[.int .i64 V, .slice A7 n7 c7, .int .i64 r7] 26))
      have Bd_5 := Bdn.alloc (.cells #[.int .i64 V, .slice A7 n7 c7, .int .i64 r7] 26)
      have Qd_5 := (Qd_4.keep K7).keep ((Keep.refl NoF w7).alloc (.cells #[.int .i64 V, .slice A7 n7 c7, .int .i64 r7] 26))
      have Bp_5 := Bpn.alloc (.cells #[.int .i64 V, .slice A7 n7 c7, .int .i64 r7] 26)
      have Qp_5 := (Qp_4.keep K7).keep ((Keep.refl NoF w7).alloc (.cells #[.int .i64 V, .slice A7 n7 c7, .int .i64 r7] 26))
      have Bl_5 := Bln.alloc (.cells #[.int .i64 V, .slice A7 n7 c7, .int .i64 r7] 26)
      have Ql_5 := (Ql_4.keep K7).keep ((Keep.refl NoF w7).alloc (.cells #[.int .i64 V, .slice A7 n7 c7, .int .i64 r7] 26))
      have R1_5 := (R1_4.kept K7 fun _ _ h => h).kept ((Keep.refl NoF w7).alloc (.cells #[.int .i64 V, .slice A7 n7 c7, .int .i64 r7] 26)) fun _ _ h => h
      have Bq_5 := Bk.new w7 26 #[.int .i64 V, .slice A7 n7 c7, .int .i64 r7]
      have Qq_5 := D7.keep ((Keep.refl NoF w7).alloc (.cells #[.int .i64 V, .slice A7 n7 c7, .int .i64 r7] 26))
      have Kw_5 : Keep NoF w (w7.alloc (.cells #[.int .i64 V, .slice A7 n7 c7, .int .i64 r7] 26)) := (Kw_4.trans K7 fun _ _ h => h).alloc _
      have Gq_5 : w.heap.size ≤ w7.heap.size := (Kw_4.trans K7 fun _ _ h => h).size
      generalize w7.alloc (.cells #[.int .i64 V, .slice A7 n7 c7, .int .i64 r7] 26) = W5 at *
      clear Bc_4 Bs_4 Bt_4 Ba_4 Bb_4 Bd_4 Bp_4 Bl_4 Qa_4 Qb_4 Qd_4 Qp_4 Ql_4 Bcn Bsn Btn Ban Bbn Bdn Bpn Bln Kw_4 D7 K7 R1_4
      have cc0 : W5.cell? ⟨w.heap.size + 1, 0, none⟩ = some (.int .u8 c) := Bc_5.cell 0
      have cs0 : W5.cell? ⟨w.heap.size + 2, 0, none⟩ = some (.int .u8 s) := Bs_5.cell 0
      have ct0 : W5.cell? ⟨w1.heap.size, 0, none⟩ = some (.slice A1 8 c1) := Bt_5.cell 0
      have cq0 : W5.cell? ⟨w7.heap.size, 0, none⟩ = some (.int .i64 V) := Bq_5.cell 0
      have cq1 : W5.cell? ⟨w7.heap.size, 1, none⟩ = some (.slice A7 n7 c7) := Bq_5.cell 1
      have cq2 : W5.cell? ⟨w7.heap.size, 2, none⟩ = some (.int .i64 r7) := Bq_5.cell 2
      go_upto_region 18 with (first
                              | (go_at_call 8
                                 (with_reducible refine (HMY.out _ _ _ _ _ (Qq_5.keep (Keep.refl NoF W5))).mono ?_)
                                 rintro e p2 ⟨rfl, p2Z⟩
                                 have p2K : Keep NoF W5 p2 := (Keep.refl NoF W5).trans p2Z fun _ _ h => h)
                              | fail)
      clear cc0 cs0 ct0 cq0 cq1 cq2
      have Bc_6 := Bc_5.keep p2K fun h => h
      have Bs_6 := Bs_5.keep p2K fun h => h
      have Bt_6 := Bt_5.keep p2K fun h => h
      have Ba_6 := Ba_5.keep p2K fun h => h
      have Qa_6 := Qa_5.keep p2K
      have Bb_6 := Bb_5.keep p2K fun h => h
      have Qb_6 := Qb_5.keep p2K
      have Bd_6 := Bd_5.keep p2K fun h => h
      have Qd_6 := Qd_5.keep p2K
      have Bp_6 := Bp_5.keep p2K fun h => h
      have Qp_6 := Qp_5.keep p2K
      have Bl_6 := Bl_5.keep p2K fun h => h
      have Ql_6 := Ql_5.keep p2K
      have Bq_6 := Bq_5.keep p2K fun h => h
      have Qq_6 := Qq_5.keep p2K
      have R1_6 := R1_5.kept p2K fun _ _ h => h
      have Kw_6 := Kw_5.trans p2K fun _ _ h => h
      clear Kw_5 p2K p2Z Bc_5 Bs_5 Bt_5 Ba_5 Qa_5 Bb_5 Qb_5 Bd_5 Qd_5 Bp_5 Qp_5 Bl_5 Ql_5 Bq_5 Qq_5 R1_5
      have cc0 : p2.cell? ⟨w.heap.size + 1, 0, none⟩ = some (.int .u8 c) := Bc_6.cell 0
      have cs0 : p2.cell? ⟨w.heap.size + 2, 0, none⟩ = some (.int .u8 s) := Bs_6.cell 0
      have ct0 : p2.cell? ⟨w1.heap.size, 0, none⟩ = some (.slice A1 8 c1) := Bt_6.cell 0
      go_wp2
      go_loopw [25] (fun t wr => ∃ v : Nat, t = .int .i64 v ∧ v ≤ 8 ∧ Keep NoF p2 wr) (fun t _ => 8 - (intOf t).toNat)
      case atStart => exact ⟨0, rfl, by omega, Keep.refl _ _⟩
      case round =>
        obtain ⟨v, rfl, hv, hk⟩ := hrel
        by_cases hlt : v < 8
        · have hlt' : (v : Int) < 8 := by omega
          have hv0 : (0 : Int) ≤ (v : Int) := by omega
          have hon := HON.out v hlt
          have hbo := bit_one Y v (by omega)
          have HREV := HRE.out v hlt
          rw [HRV.out] at hon HREV
          generalize Y.testBit v = b at *
          have hwv : IntKind.u64.wrap (v : Int) = (v : Int) := by rw [IntKind.wrap_u64]; omega
          have hws : IntKind.u64.wrap (s : Int) = (s : Int) := by rw [IntKind.wrap_u64]; omega
          have HPW := Lib.hid (shl1 (k := v) (by omega))
          have hmin : min v 64 = v := by omega
          have d7 : wr.drew.cell? ⟨w1.heap.size, 0, none⟩ = some (.slice A1 8 c1) := (Bt_6.keep hk fun h => h).cell 0
          have d5 : wr.drew.cell? ⟨w.heap.size + 2, 0, none⟩ = some (.int .u8 s) := (Bs_6.keep hk fun h => h).cell 0
          have HCAX := Lib.hid (HREV _ _ wr.drew ((R1_6.kept hk fun _ _ h => h).kept (Keep.refl NoF wr).drew fun _ _ h => h) ((Kw_6.trans hk fun _ _ h => h).trans (Keep.refl NoF wr).drew fun _ _ h => h))
          clear HREV
          generalize re v = rv at *
          have hbb : (b != b) = false := by simp
          go_wp2
          go_region_held3 (fun w' => w'.cell? ⟨w1.heap.size, 0, none⟩ = some (.slice A1 8 c1) ∧ w'.cell? ⟨w.heap.size + 2, 0, none⟩ = some (.int .u8 s))
            (first
              | with_reducible exact ⟨d7, d5⟩
              | with_reducible exact ⟨e7, e5⟩)
            (first
              | (go_at_call 11
                 rw [HPW.out]
                 (with_reducible refine HCAX.out.mono ?_)
                 rintro e w9 ⟨rfl, K9⟩
                 have K9' : Keep NoF wr w9 := (Keep.refl NoF wr).drew.trans K9 fun _ _ h => h
                 have e7 : w9.cell? ⟨w1.heap.size, 0, none⟩ = some (.slice A1 8 c1) := K9.cellv d7 fun h => h
                 have e5 : w9.cell? ⟨w.heap.size + 2, 0, none⟩ = some (.int .u8 s) := K9.cellv d5 fun h => h))
          go_wp2
          go_roundw
          case rel => exact ⟨v + 1, by go_num, by omega, hk.trans K9' fun _ _ h => h⟩
          case measure => simp only [intOf]; omega
        · have hlt' : ¬ (v : Int) < 8 := by omega
          go_wp2_with (go_at_call 12; (with_reducible refine (awake_any _).mono ?_); rintro e w7 ⟨rfl, K7⟩)
          go_ret
          exact ⟨rfl, (Kw_6.trans hk fun _ _ h => h).trans K7 fun _ _ h => h⟩
end
end Go.Proofs.YtgdmcidcappkpaaDoor
