/- A relation between eight states, as diagrams: what states answers. No condition. -/
import Derived.Test.YtgdmcidcappkpaaDoorSyS
import Derived.RegionTactic
import Derived.Outline
set_option linter.unusedVariables false
set_option linter.unusedSimpArgs false
namespace Go.Proofs.YtgdmcidcappkpaaDoor
open Go.RowKit
open Dd (Rn rat ofN toN checkErr den lo var Within Valid supp canon setF relF)

abbrev u8s (l : List Nat) : List Value := l.map fun n : Nat => Value.int .u8 (n : Int)
theorem n64_snoc (l : List Nat) (x : Nat) : n64 l ++ [Value.int .u64 (x : Int)] = n64 (l ++ [x]) := by simp [n64]
theorem small_beyond {L : List Nat} (h : ∀ x ∈ L, x < 256) : L.any (beyondB 3) = false := by
  rw [List.any_eq_false]
  intro x hx
  have := h x hx
  unfold beyondB
  rw [show x / 2 ^ 2 ^ 3 = 0 from Nat.div_eq_of_lt (by omega)]
  simp
section
set_option maxRecDepth 100000
set_option maxHeartbeats 4000000
theorem states_ok (L : List Nat) (hL : L.length = 8) (hx : ∀ x ∈ L, x < 256) (s : Nat) (hs : s < 256) (V : Nat) (hV : V = 2 * 3) (w : World) : Calls Tryd.prog 5 #[.agg (u8s L).toArray, .int .u8 s] w fun e w' => ∃ (A1 : Option Addr) (c1 : Nat) (A2 : Option Addr) (n2 c2 r2 : Nat) (A3 : Option Addr) (n3 c3 r3 : Nat),
    e = .returned (.tuple #[.slice A1 8 c1, .agg #[.int .i64 V, .slice A2 n2 c2, .int .i64 r2], .agg #[.int .i64 V, .slice A3 n3 c3, .int .i64 r3], .bool true]) ∧ Rd w' (.slice A1 8 c1) 1 8 (n64 L) ∧ IsD w' V (relF 3 L) A2 n2 c2 r2 ∧ IsD w' V (setF 3 s 0) A3 n3 c3 r3 ∧ Keep NoF w w' := by
  have HREL : Hid (∀ (W : World) A c, Rd W (.slice A 8 c) 1 8 (n64 L) → Calls Tryd.prog 23 #[.int .i64 3, .slice A 8 c] W (DP W V (relF 3 L))) := Lib.hid fun W A c h => by
    have := Relation_any 3 (by omega) L (by rw [hL]) (fun x hx' => by have := hx x hx'; omega) (small_beyond hx) A c W (by rw [hL]; exact h)
    rw [hL, ← hV] at this
    exact this
  have HSET : Hid (∀ W : World, Calls Tryd.prog 6 #[.int .i64 3, .int .u64 s] W (DP W V (setF 3 s 0))) := Lib.hid fun W => by
    rw [hV]
    exact Set_any 3 s (by omega) (by omega) (by unfold beyondB; rw [show s / 2 ^ 2 ^ 3 = 0 from Nat.div_eq_of_lt (by omega)]; simp) W
  have HL := Lib.hid hL
  have HX := Lib.hid hx
  clear hL hx hV
  go_enter Tryd.func5, Tryd.ntmps5
  go_upto_region 1 with (fail)
  have Bx := ((Bk.new w 22 (u8s L).toArray).alloc (.cells #[.int .i64 0, .slice none 0 0, .int .i64 0] 26)).alloc (.cells #[.int .i64 0, .slice none 0 0, .int .i64 0] 26)
  have Bp := (Bk.new (w.alloc (.cells (u8s L).toArray 22)) 26 #[.int .i64 0, .slice none 0 0, .int .i64 0]).alloc (.cells #[.int .i64 0, .slice none 0 0, .int .i64 0] 26)
  have Bq := Bk.new ((w.alloc (.cells (u8s L).toArray 22)).alloc (.cells #[.int .i64 0, .slice none 0 0, .int .i64 0] 26)) 26 #[.int .i64 0, .slice none 0 0, .int .i64 0]
  simp only [World.size_alloc, Nat.add_assoc, Nat.reduceAdd] at Bp Bq
  have Kw : Keep NoF w (((w.alloc (.cells (u8s L).toArray 22)).alloc (.cells #[.int .i64 0, .slice none 0 0, .int .i64 0] 26)).alloc (.cells #[.int .i64 0, .slice none 0 0, .int .i64 0] 26)) := (((Keep.refl NoF w).alloc _).alloc _).alloc _
  generalize ((w.alloc (.cells (u8s L).toArray 22)).alloc (.cells #[.int .i64 0, .slice none 0 0, .int .i64 0] 26)).alloc (.cells #[.int .i64 0, .slice none 0 0, .int .i64 0] 26) = W0 at *
  go_wp2
  go_loopw [8, 9] (fun v i wr => ∃ j : Nat, i = .int .i64 j ∧ j ≤ 8 ∧ wr.ownsRow W0.heap.size 31 1 v j (n64 (L.take j)) ∧ Bk wr w.heap.size 22 (u8s L).toArray ∧ Bk wr (w.heap.size + 1) 26 #[.int .i64 0, .slice none 0 0, .int .i64 0] ∧ Bk wr (w.heap.size + 2) 26 #[.int .i64 0, .slice none 0 0, .int .i64 0] ∧ W0.heap.size ≤ wr.heap.size ∧ Keep NoF w wr) (fun _ i _ => 8 - (intOf i).toNat)
  case atStart => exact ⟨0, rfl, by omega, World.ownsRow_nil _ _ _ _, Bx, Bp, Bq, Nat.le_refl _, Kw⟩
  case round =>
    have hlq := Bq.lt
    clear Bx Bp Bq Kw
    obtain ⟨j, rfl, hj, hown, Bx, Bp, Bq, hz, Kw⟩ := hrel
    by_cases hlt : j < 8
    · have hjl : j < L.length := by rw [HL.out]; exact hlt
      have hjx : L[j]? = some L[j] := List.getElem?_eq_getElem hjl
      have hc : wr.cell? ⟨w.heap.size, j, none⟩ = some (.int .u8 (L[j] : Nat)) := by rw [Bx.cell, List.getElem?_toArray, List.getElem?_map, hjx]; rfl
      have hb := HX.out _ (List.getElem_mem hjl)
      have HTK : Hid (L.take (j + 1) = L.take j ++ [L[j]]) := Lib.hid (by rw [List.take_add_one, hjx]; rfl)
      clear hjx
      generalize L[j] = x at *
      obtain ⟨OB, oc, rfl⟩ := own_form hown
      have hi0 : (0 : Int) ≤ (j : Int) := by omega
      have hi8 : (j : Int) < 8 := by omega
      go_wp2_with (at_builtin
                   refine wpList_app (by rfl) eU64 (.tmp 18) (.tmp 23) (by rfl) (by rfl) (hown.alloc _) ⟨wr.heap.size, 0, none⟩ 1 1 [.int .u64 x] (by rfl) (by rfl)
                     (World.news_of_block (cs := #[.int .u64 x]) (t := 31) (fr := (0, 0)) (heap_alloc_new wr _)) (by simp [Value.oneCell']) (by omega) (by omega) (by omega) (by simp; omega) ?_
                   intro g4 cap4 w4 hown4 hA4)
      have nb : ∀ b, b < W0.heap.size → some b ≠ (Value.slice OB j oc).ownBlock := fun b hb h => by have := (hown.lt _ h.symm).1; omega
      have hs4 := hA4.grown.size
      simp only [World.size_alloc] at hs4
      go_roundw
      case rel =>
        refine ⟨j + 1, by go_num, by omega, ?_, (Bx.alloc _).grown hA4.grown (nb _ (by omega)), (Bp.alloc _).grown hA4.grown (nb _ (by omega)), (Bq.alloc _).grown hA4.grown (nb _ (by omega)), by omega, (Kw.alloc _).grown hA4.grown fun k hk => .inr (by have := (hown.lt k hk).1; omega)⟩
        rw [HTK.out, ← n64_snoc]
        exact hown4
      case measure => simp only [intOf]; omega
    · obtain rfl : j = 8 := by omega
      have hlx := Bx.lt
      obtain ⟨OB, oc, rfl⟩ := own_form hown
      have RL := Rd.of_own hown
      rw [show L.take 8 = L by rw [← HL.out]; exact List.take_length] at RL
      have hOB : ∀ k, (Value.slice OB 8 oc).ownBlock = some k → W0.heap.size ≤ k := fun k hk => (hown.lt k hk).1
      clear hown Bx
      have HR := Lib.hid (HREL.out wr OB oc RL)
      go_upto_region 7 with (go_at_call 23
                             (with_reducible refine (HR.out).mono ?_)
                             rintro e w2 ⟨A2, n2, c2, r2, rfl, D2, K2⟩
                             have Bpn := Bp.keep K2 fun h => h
                             have Lpn := Bpn.lt
                             have Bqn := Bq.keep K2 fun h => h
                             have Lqn := Bqn.lt)
      have Bp_1 := Bpn.alloc (.cells #[.int .i64 V, .slice A2 n2 c2, .int .i64 r2] 26)
      have Bq_1 := Bqn.alloc (.cells #[.int .i64 V, .slice A2 n2 c2, .int .i64 r2] 26)
      have RL_1 := (RL.kept K2 fun _ _ h => h).kept ((Keep.refl NoF w2).alloc (.cells #[.int .i64 V, .slice A2 n2 c2, .int .i64 r2] 26)) fun _ _ h => h
      have Ba_1 := Bk.new w2 26 #[.int .i64 V, .slice A2 n2 c2, .int .i64 r2]
      have Qa_1 := D2.keep ((Keep.refl NoF w2).alloc (.cells #[.int .i64 V, .slice A2 n2 c2, .int .i64 r2] 26))
      have Kw_1 : Keep NoF w (w2.alloc (.cells #[.int .i64 V, .slice A2 n2 c2, .int .i64 r2] 26)) := (Kw.trans K2 fun _ _ h => h).alloc _
      have Ga_1 : w.heap.size ≤ w2.heap.size := (Kw.trans K2 fun _ _ h => h).size
      generalize w2.alloc (.cells #[.int .i64 V, .slice A2 n2 c2, .int .i64 r2] 26) = W1 at *
      clear Bp Bq Bpn Bqn Kw D2 K2 RL
      have HS := Lib.hid (HSET.out W1)
      go_upto_region 8 with (go_at_call 6
                             (with_reducible refine (HS.out).mono ?_)
                             rintro e w3 ⟨A3, n3, c3, r3, rfl, D3, K3⟩
                             have Bpn := Bp_1.keep K3 fun h => h
                             have Lpn := Bpn.lt
                             have Bqn := Bq_1.keep K3 fun h => h
                             have Lqn := Bqn.lt
                             have Ban := Ba_1.keep K3 fun h => h
                             have Lan := Ban.lt)
      have Bp_2 := Bpn.alloc (.cells #[.int .i64 V, .slice A3 n3 c3, .int .i64 r3] 26)
      have Bq_2 := Bqn.alloc (.cells #[.int .i64 V, .slice A3 n3 c3, .int .i64 r3] 26)
      have Ba_2 := Ban.alloc (.cells #[.int .i64 V, .slice A3 n3 c3, .int .i64 r3] 26)
      have Qa_2 := (Qa_1.keep K3).keep ((Keep.refl NoF w3).alloc (.cells #[.int .i64 V, .slice A3 n3 c3, .int .i64 r3] 26))
      have RL_2 := (RL_1.kept K3 fun _ _ h => h).kept ((Keep.refl NoF w3).alloc (.cells #[.int .i64 V, .slice A3 n3 c3, .int .i64 r3] 26)) fun _ _ h => h
      have Bb_2 := Bk.new w3 26 #[.int .i64 V, .slice A3 n3 c3, .int .i64 r3]
      have Qb_2 := D3.keep ((Keep.refl NoF w3).alloc (.cells #[.int .i64 V, .slice A3 n3 c3, .int .i64 r3] 26))
      have Kw_2 : Keep NoF w (w3.alloc (.cells #[.int .i64 V, .slice A3 n3 c3, .int .i64 r3] 26)) := (Kw_1.trans K3 fun _ _ h => h).alloc _
      have Gb_2 : w.heap.size ≤ w3.heap.size := (Kw_1.trans K3 fun _ _ h => h).size
      generalize w3.alloc (.cells #[.int .i64 V, .slice A3 n3 c3, .int .i64 r3] 26) = W2 at *
      clear Bp_1 Bq_1 Ba_1 Qa_1 Bpn Bqn Ban Kw_1 D3 K3 RL_1
      have xa0 : W2.cell? ⟨w2.heap.size, 0, none⟩ = some (.int .i64 V) := Ba_2.cell 0
      have xa1 : W2.cell? ⟨w2.heap.size, 1, none⟩ = some (.slice A2 n2 c2) := Ba_2.cell 1
      have xa2 : W2.cell? ⟨w2.heap.size, 2, none⟩ = some (.int .i64 r2) := Ba_2.cell 2
      have xb0 : W2.cell? ⟨w3.heap.size, 0, none⟩ = some (.int .i64 V) := Bb_2.cell 0
      have xb1 : W2.cell? ⟨w3.heap.size, 1, none⟩ = some (.slice A3 n3 c3) := Bb_2.cell 1
      have xb2 : W2.cell? ⟨w3.heap.size, 2, none⟩ = some (.int .i64 r3) := Bb_2.cell 2
      have yp0 : W2.cell? ⟨w.heap.size + 1, 0, none⟩ = some (.int .i64 0) := Bp_2.cell 0
      have yp1 : W2.cell? ⟨w.heap.size + 1, 1, none⟩ = some (.slice none 0 0) := Bp_2.cell 1
      have yp2 : W2.cell? ⟨w.heap.size + 1, 2, none⟩ = some (.int .i64 0) := Bp_2.cell 2
      have ypf0 := Bp_2.frozen 0
      have ypf1 := Bp_2.frozen 1
      have ypf2 := Bp_2.frozen 2
      have yq0 : W2.cell? ⟨w.heap.size + 2, 0, none⟩ = some (.int .i64 0) := Bq_2.cell 0
      have yq1 : W2.cell? ⟨w.heap.size + 2, 1, none⟩ = some (.slice none 0 0) := Bq_2.cell 1
      have yq2 : W2.cell? ⟨w.heap.size + 2, 2, none⟩ = some (.int .i64 0) := Bq_2.cell 2
      have yqf0 := Bq_2.frozen 0
      have yqf1 := Bq_2.frozen 1
      have yqf2 := Bq_2.frozen 2
      have lp := Bp_2.lt
      have lq := Bq_2.lt
      have la := Ba_2.lt
      have lb := Bb_2.lt
      have ne0 : w2.heap.size ≠ w.heap.size + 1 := by omega
      have ne1 : w2.heap.size ≠ w.heap.size + 2 := by omega
      have ne2 : w3.heap.size ≠ w.heap.size + 1 := by omega
      have ne3 : w3.heap.size ≠ w.heap.size + 2 := by omega
      have ne4 : w.heap.size + 1 ≠ w2.heap.size := by omega
      have ne5 : w.heap.size + 2 ≠ w2.heap.size := by omega
      have ne6 : w.heap.size + 1 ≠ w3.heap.size := by omega
      have ne7 : w.heap.size + 2 ≠ w3.heap.size := by omega
      go_region
      all_goals go_wp2
      obtain ⟨s1, s2, S3⟩ := set3_box Bp_2 sl_nint Qa_2
      have t1 : Bk _ (w.heap.size + 1 + 1) 26 _ := Bq_2.keep S3 fun h => by omega
      have t2 := Qb_2.far_box Bp_2 sl_nint S3
      have t3 := RL_2.kept S3 fun k hk h => by have := hOB k hk; omega
      have t4 := Kw_2.trans S3 fun i hi h => by omega
      generalize (((W2.setCell ⟨w.heap.size + 1, 0, none⟩ (.int .i64 V)).setCell ⟨w.heap.size + 1, 1, none⟩ (.slice A2 n2 c2)).setCell ⟨w.heap.size + 1, 2, none⟩ (.int .i64 r2)) = W5 at *
      obtain ⟨q1, q2, Z3⟩ := set3_box t1 sl_nint t2
      have p1 := s1.keep Z3 fun h => by omega
      have p2 := s2.far_box t1 sl_nint Z3
      have p3 := t3.kept Z3 fun k hk h => by have := hOB k hk; omega
      have p4 := t4.trans Z3 fun i hi h => by omega
      generalize (((W5.setCell ⟨w.heap.size + 1 + 1, 0, none⟩ (.int .i64 V)).setCell ⟨w.heap.size + 1 + 1, 1, none⟩ (.slice A3 n3 c3)).setCell ⟨w.heap.size + 1 + 1, 2, none⟩ (.int .i64 r3)) = W6 at *
      have h0 : W6.drew.cell? ⟨w.heap.size + 1, 0, none⟩ = some (.int .i64 V) := p1.drew.cell 0
      have h1 : W6.drew.cell? ⟨w.heap.size + 1, 1, none⟩ = some (.slice A2 n2 c2) := p1.drew.cell 1
      have h2 : W6.drew.cell? ⟨w.heap.size + 1, 2, none⟩ = some (.int .i64 r2) := p1.drew.cell 2
      have i0 : W6.drew.cell? ⟨w.heap.size + 1 + 1, 0, none⟩ = some (.int .i64 V) := q1.drew.cell 0
      have i1 : W6.drew.cell? ⟨w.heap.size + 1 + 1, 1, none⟩ = some (.slice A3 n3 c3) := q1.drew.cell 1
      have i2 : W6.drew.cell? ⟨w.heap.size + 1 + 1, 2, none⟩ = some (.int .i64 r3) := q1.drew.cell 2
      refine bodyPost_ret (v := .tuple #[.slice OB 8 oc, .agg #[.int .i64 V, .slice A2 n2 c2, .int .i64 r2], .agg #[.int .i64 V, .slice A3 n3 c3, .int .i64 r3], .bool true]) (by simp [results, Tryd.results5, go_sem, h0, h1, h2, i0, i1, i2]) rfl ?_
      have KD := (Keep.refl NoF W6).drew
      exact ⟨OB, oc, A2, n2, c2, r2, A3, n3, c3, r3, rfl, p3.kept KD fun _ _ h => h, p2.keep KD, q2.keep KD, p4.trans KD fun _ _ h => h⟩
end
end Go.Proofs.YtgdmcidcappkpaaDoor
