/- The printer's reference: the text of a node. Conditions: the signature is right, the texts of the nodes before it are not too long. -/
import Derived.Test.YtbidfbojealmlaaGreatDoorRfI
import Derived.Deep.RegionHeld3
set_option linter.unusedVariables false
set_option linter.unusedSimpArgs false
namespace Go.Proofs.YtbidfbojealmlaaGreatDoor
open Go.RowKit
open Fm (Nd usesX usesY)
section
set_option maxRecDepth 100000
set_option maxHeartbeats 4000000
variable {S : Sg} {w : World} {a f c A T : Option Addr} {ca cf cc c1 cT i : Nat} {L : List Nd} {tx : List ByteArray}
theorem rtext_1 (hS : SigR w S a ca f cf c cc) (hrd : Rd w (.slice A L.length c1) 6 L.length (fmC L)) (hL : L.length ≤ 200) (ht : Rd w (.slice T i cT) 1 tx.length (strs tx)) (hti : tx.length = i) {x y : Int} (hn : L[i]? = some ⟨1, 0, 0, 0, x, y⟩) :
    Calls Tryz.prog 34 #[.agg #[.slice a S.A.length ca, .slice f S.F.length cf, .slice c S.C.length cc], .slice A L.length c1, .slice T i cT, .int .i64 (i : Int)] w fun e w' => e = .returned (.string (txt ([116, 114, 117, 101]))) ∧ Keep NoF w w' := by
  have HR : Hid (txt [116, 114, 117, 101] = ⟨#[116, 114, 117, 101]⟩) := Lib.hid rfl
  have hlt : i < L.length := (List.getElem?_eq_some_iff.1 hn).1
  obtain ⟨bl, off, rfl, _, hcap, -, -, -, -, -, -⟩ := hrd.nd hn
  have z1 : (0 : Int) ≤ (i : Int) := by omega
  have z2 : (i : Int) < (L.length : Int) := by omega
  have k0 : Keep NoF w (w.alloc (.cells #[.slice a S.A.length ca, .slice f S.F.length cf, .slice c S.C.length cc] 24)) := (Keep.refl _ _).alloc _
  have b0 : Bk (w.alloc (.cells #[.slice a S.A.length ca, .slice f S.F.length cf, .slice c S.C.length cc] 24)) w.heap.size 24 #[.slice a S.A.length ca, .slice f S.F.length cf, .slice c S.C.length cc] := Bk.new w _ _
  have HS0 := Lib.hid hS
  have HRD := Lib.hid hrd
  have HT := Lib.hid ht
  have HN := Lib.hid hn
  clear hS hrd ht hn
  go_enter Tryz.func34, Tryz.ntmps34
  go_upto_region 1 with (fail)
  generalize w.alloc (.cells #[.slice a S.A.length ca, .slice f S.F.length cf, .slice c S.C.length cc] 24) = W0 at *
  obtain ⟨bl', off', he, _, _, x0, x1, x2, x3, x4, x5⟩ := (HRD.out.kept k0 fun _ _ h => h).nd HN.out
  cases he
  simp only at x0 x1 x2 x3 x4 x5
  have hK0 : Keep NoF w (W0.alloc (.cells #[.int .i64 1, .int .i64 0, .int .i64 0, .int .i64 0, .int .i64 x, .int .i64 y] 49)) := k0.alloc _
  have b1 : Bk (W0.alloc (.cells #[.int .i64 1, .int .i64 0, .int .i64 0, .int .i64 0, .int .i64 x, .int .i64 y] 49)) W0.heap.size 49 #[.int .i64 1, .int .i64 0, .int .i64 0, .int .i64 0, .int .i64 x, .int .i64 y] := Bk.new W0 _ _
  have b0 := b0.alloc (.cells #[.int .i64 1, .int .i64 0, .int .i64 0, .int .i64 0, .int .i64 x, .int .i64 y] 49)
  go_upto_region 2 with (fail)
  clear x0 x1 x2 x3 x4 x5
  generalize W0.alloc (.cells #[.int .i64 1, .int .i64 0, .int .i64 0, .int .i64 0, .int .i64 x, .int .i64 y] 49) = W at *
  have HSG := Lib.hid (HS0.out.keep hK0)
  have s0 : W.cell? ⟨w.heap.size, 0, none⟩ = some (.slice a S.A.length ca) := b0.cell 0
  have s1 : W.cell? ⟨w.heap.size, 1, none⟩ = some (.slice f S.F.length cf) := b0.cell 1
  have s2 : W.cell? ⟨w.heap.size, 2, none⟩ = some (.slice c S.C.length cc) := b0.cell 2
  have n0 : W.cell? ⟨W0.heap.size, 0, none⟩ = some (.int .i64 1) := b1.cell 0
  have n1 : W.cell? ⟨W0.heap.size, 1, none⟩ = some (.int .i64 0) := b1.cell 1
  have n2 : W.cell? ⟨W0.heap.size, 2, none⟩ = some (.int .i64 0) := b1.cell 2
  have n3 : W.cell? ⟨W0.heap.size, 3, none⟩ = some (.int .i64 0) := b1.cell 3
  have n4 : W.cell? ⟨W0.heap.size, 4, none⟩ = some (.int .i64 x) := b1.cell 4
  have n5 : W.cell? ⟨W0.heap.size, 5, none⟩ = some (.int .i64 y) := b1.cell 5
  clear b0 b1
  go_wp2
  all_goals
    go_wp2
    refine bodyPost_ret (v := .string (⟨#[116, 114, 117, 101]⟩)) (by simp [results, Tryz.results34, go_sem]) rfl ?_
    exact ⟨by rw [HR.out], hK0⟩
theorem rtext_2 (hS : SigR w S a ca f cf c cc) (hrd : Rd w (.slice A L.length c1) 6 L.length (fmC L)) (hL : L.length ≤ 200) (ht : Rd w (.slice T i cT) 1 tx.length (strs tx)) (hti : tx.length = i) {x y : Int} (hn : L[i]? = some ⟨2, 0, 0, 0, x, y⟩) :
    Calls Tryz.prog 34 #[.agg #[.slice a S.A.length ca, .slice f S.F.length cf, .slice c S.C.length cc], .slice A L.length c1, .slice T i cT, .int .i64 (i : Int)] w fun e w' => e = .returned (.string (txt ([102, 97, 108, 115, 101]))) ∧ Keep NoF w w' := by
  have HR : Hid (txt [102, 97, 108, 115, 101] = ⟨#[102, 97, 108, 115, 101]⟩) := Lib.hid rfl
  have hlt : i < L.length := (List.getElem?_eq_some_iff.1 hn).1
  obtain ⟨bl, off, rfl, _, hcap, -, -, -, -, -, -⟩ := hrd.nd hn
  have z1 : (0 : Int) ≤ (i : Int) := by omega
  have z2 : (i : Int) < (L.length : Int) := by omega
  have k0 : Keep NoF w (w.alloc (.cells #[.slice a S.A.length ca, .slice f S.F.length cf, .slice c S.C.length cc] 24)) := (Keep.refl _ _).alloc _
  have b0 : Bk (w.alloc (.cells #[.slice a S.A.length ca, .slice f S.F.length cf, .slice c S.C.length cc] 24)) w.heap.size 24 #[.slice a S.A.length ca, .slice f S.F.length cf, .slice c S.C.length cc] := Bk.new w _ _
  have HS0 := Lib.hid hS
  have HRD := Lib.hid hrd
  have HT := Lib.hid ht
  have HN := Lib.hid hn
  clear hS hrd ht hn
  go_enter Tryz.func34, Tryz.ntmps34
  go_upto_region 1 with (fail)
  generalize w.alloc (.cells #[.slice a S.A.length ca, .slice f S.F.length cf, .slice c S.C.length cc] 24) = W0 at *
  obtain ⟨bl', off', he, _, _, x0, x1, x2, x3, x4, x5⟩ := (HRD.out.kept k0 fun _ _ h => h).nd HN.out
  cases he
  simp only at x0 x1 x2 x3 x4 x5
  have hK0 : Keep NoF w (W0.alloc (.cells #[.int .i64 2, .int .i64 0, .int .i64 0, .int .i64 0, .int .i64 x, .int .i64 y] 49)) := k0.alloc _
  have b1 : Bk (W0.alloc (.cells #[.int .i64 2, .int .i64 0, .int .i64 0, .int .i64 0, .int .i64 x, .int .i64 y] 49)) W0.heap.size 49 #[.int .i64 2, .int .i64 0, .int .i64 0, .int .i64 0, .int .i64 x, .int .i64 y] := Bk.new W0 _ _
  have b0 := b0.alloc (.cells #[.int .i64 2, .int .i64 0, .int .i64 0, .int .i64 0, .int .i64 x, .int .i64 y] 49)
  go_upto_region 2 with (fail)
  clear x0 x1 x2 x3 x4 x5
  generalize W0.alloc (.cells #[.int .i64 2, .int .i64 0, .int .i64 0, .int .i64 0, .int .i64 x, .int .i64 y] 49) = W at *
  have HSG := Lib.hid (HS0.out.keep hK0)
  have s0 : W.cell? ⟨w.heap.size, 0, none⟩ = some (.slice a S.A.length ca) := b0.cell 0
  have s1 : W.cell? ⟨w.heap.size, 1, none⟩ = some (.slice f S.F.length cf) := b0.cell 1
  have s2 : W.cell? ⟨w.heap.size, 2, none⟩ = some (.slice c S.C.length cc) := b0.cell 2
  have n0 : W.cell? ⟨W0.heap.size, 0, none⟩ = some (.int .i64 2) := b1.cell 0
  have n1 : W.cell? ⟨W0.heap.size, 1, none⟩ = some (.int .i64 0) := b1.cell 1
  have n2 : W.cell? ⟨W0.heap.size, 2, none⟩ = some (.int .i64 0) := b1.cell 2
  have n3 : W.cell? ⟨W0.heap.size, 3, none⟩ = some (.int .i64 0) := b1.cell 3
  have n4 : W.cell? ⟨W0.heap.size, 4, none⟩ = some (.int .i64 x) := b1.cell 4
  have n5 : W.cell? ⟨W0.heap.size, 5, none⟩ = some (.int .i64 y) := b1.cell 5
  clear b0 b1
  go_wp2
  all_goals
    go_wp2
    refine bodyPost_ret (v := .string (⟨#[102, 97, 108, 115, 101]⟩)) (by simp [results, Tryz.results34, go_sem]) rfl ?_
    exact ⟨by rw [HR.out], hK0⟩
theorem rtext_3 (hS : SigR w S a ca f cf c cc) (hrd : Rd w (.slice A L.length c1) 6 L.length (fmC L)) (hL : L.length ≤ 200) (ht : Rd w (.slice T i cT) 1 tx.length (strs tx)) (hti : tx.length = i) {x y : Int} {n : Nat} (hn0 : n < S.F.length) (hn : L[i]? = some ⟨3, (n : Int), 0, 0, x, y⟩) :
    Calls Tryz.prog 34 #[.agg #[.slice a S.A.length ca, .slice f S.F.length cf, .slice c S.C.length cc], .slice A L.length c1, .slice T i cT, .int .i64 (i : Int)] w fun e w' => e = .returned (.string (txt ((nmB S.F (n : Int)).data.toList))) ∧ Keep NoF w w' := by
  have hx := nm_at hn0
  have hb1 : (0 : Int) ≤ (n : Int) := by omega
  have hb2 : (n : Int) < (S.F.length : Int) := by omega
  have HR : Hid (txt (nmB S.F (n : Int)).data.toList = nmB S.F n) := Lib.hid (txt_data _)
  generalize nmB S.F (n : Int) = nm at *
  have hlt : i < L.length := (List.getElem?_eq_some_iff.1 hn).1
  obtain ⟨bl, off, rfl, _, hcap, -, -, -, -, -, -⟩ := hrd.nd hn
  have z1 : (0 : Int) ≤ (i : Int) := by omega
  have z2 : (i : Int) < (L.length : Int) := by omega
  have k0 : Keep NoF w (w.alloc (.cells #[.slice a S.A.length ca, .slice f S.F.length cf, .slice c S.C.length cc] 24)) := (Keep.refl _ _).alloc _
  have b0 : Bk (w.alloc (.cells #[.slice a S.A.length ca, .slice f S.F.length cf, .slice c S.C.length cc] 24)) w.heap.size 24 #[.slice a S.A.length ca, .slice f S.F.length cf, .slice c S.C.length cc] := Bk.new w _ _
  have HS0 := Lib.hid hS
  have HRD := Lib.hid hrd
  have HT := Lib.hid ht
  have HN := Lib.hid hn
  clear hS hrd ht hn
  go_enter Tryz.func34, Tryz.ntmps34
  go_upto_region 1 with (fail)
  generalize w.alloc (.cells #[.slice a S.A.length ca, .slice f S.F.length cf, .slice c S.C.length cc] 24) = W0 at *
  obtain ⟨bl', off', he, _, _, x0, x1, x2, x3, x4, x5⟩ := (HRD.out.kept k0 fun _ _ h => h).nd HN.out
  cases he
  simp only at x0 x1 x2 x3 x4 x5
  have hK0 : Keep NoF w (W0.alloc (.cells #[.int .i64 3, .int .i64 (n : Int), .int .i64 0, .int .i64 0, .int .i64 x, .int .i64 y] 49)) := k0.alloc _
  have b1 : Bk (W0.alloc (.cells #[.int .i64 3, .int .i64 (n : Int), .int .i64 0, .int .i64 0, .int .i64 x, .int .i64 y] 49)) W0.heap.size 49 #[.int .i64 3, .int .i64 (n : Int), .int .i64 0, .int .i64 0, .int .i64 x, .int .i64 y] := Bk.new W0 _ _
  have b0 := b0.alloc (.cells #[.int .i64 3, .int .i64 (n : Int), .int .i64 0, .int .i64 0, .int .i64 x, .int .i64 y] 49)
  go_upto_region 2 with (fail)
  clear x0 x1 x2 x3 x4 x5
  generalize W0.alloc (.cells #[.int .i64 3, .int .i64 (n : Int), .int .i64 0, .int .i64 0, .int .i64 x, .int .i64 y] 49) = W at *
  have HSG := Lib.hid (HS0.out.keep hK0)
  have s0 : W.cell? ⟨w.heap.size, 0, none⟩ = some (.slice a S.A.length ca) := b0.cell 0
  have s1 : W.cell? ⟨w.heap.size, 1, none⟩ = some (.slice f S.F.length cf) := b0.cell 1
  have s2 : W.cell? ⟨w.heap.size, 2, none⟩ = some (.slice c S.C.length cc) := b0.cell 2
  have n0 : W.cell? ⟨W0.heap.size, 0, none⟩ = some (.int .i64 3) := b1.cell 0
  have n1 : W.cell? ⟨W0.heap.size, 1, none⟩ = some (.int .i64 (n : Int)) := b1.cell 1
  have n2 : W.cell? ⟨W0.heap.size, 2, none⟩ = some (.int .i64 0) := b1.cell 2
  have n3 : W.cell? ⟨W0.heap.size, 3, none⟩ = some (.int .i64 0) := b1.cell 3
  have n4 : W.cell? ⟨W0.heap.size, 4, none⟩ = some (.int .i64 x) := b1.cell 4
  have n5 : W.cell? ⟨W0.heap.size, 5, none⟩ = some (.int .i64 y) := b1.cell 5
  clear b0 b1
  obtain ⟨-, hcc, fb, fo, hA0, hc⟩ := HSG.out.F.str hx
  rw [hA0] at s1
  go_wp2
  all_goals
    go_wp2
    refine bodyPost_ret (v := .string (nm)) (by simp [results, Tryz.results34, go_sem]) rfl ?_
    exact ⟨by rw [HR.out], hK0⟩
theorem parL_len (own level : Nat) {l : List UInt8} (h : l.length ≤ 4000) : (parL own level l).length ≤ 4002 := by
  unfold parL
  split
  · omega
  · simp; omega
theorem rtext_un (hS : SigR w S a ca f cf c cc) (hrd : Rd w (.slice A L.length c1) 6 L.length (fmC L)) (hL : L.length ≤ 200) (ht : Rd w (.slice T i cT) 1 tx.length (strs tx)) (hti : tx.length = i) {op ni ne ng ny : Int} {ax : Nat} (hn : L[i]? = some ⟨op, ni, ne, ng, (ax : Int), ny⟩) (hax : ax < i) {m : Nd} (hm : L[ax]? = some m) {l : List UInt8} (hl : tx[ax]? = some (txt l)) (hl2 : l.length ≤ 4000) (h1 : op ≠ 1) (h2 : op ≠ 2) (h3 : op ≠ 3) (h16 : op ≠ 16) (h13 : op ≠ 13) (h14 : op ≠ 14) (hv : lvO op = 5)
    {hd : List UInt8} (hhd : hd.length ≤ 5000) (HH : ∀ W, SigR W S a ca f cf c cc → Calls Tryz.prog 64 #[.agg #[.slice a S.A.length ca, .slice f S.F.length cf, .slice c S.C.length cc], .agg #[.int .i64 op, .int .i64 ni, .int .i64 ne, .int .i64 ng, .int .i64 (ax : Int), .int .i64 ny], .string ⟨#[]⟩] W fun e w' => e = .returned (.string (txt hd)) ∧ Keep NoF W w') :
    Calls Tryz.prog 34 #[.agg #[.slice a S.A.length ca, .slice f S.F.length cf, .slice c S.C.length cc], .slice A L.length c1, .slice T i cT, .int .i64 (i : Int)] w fun e w' => e = .returned (.string (txt (hd ++ parL (lvO m.op) 5 l))) ∧ Keep NoF w w' := by
  have HLV : Hid (∀ W : World, Calls Tryz.prog 63 #[.int .i64 op] W fun e w' => e = .returned (.int .i64 5) ∧ w' = W) := Lib.hid fun W => by have := rLevel_any op W; rwa [hv] at this
  clear hv
  have hlt : i < L.length := (List.getElem?_eq_some_iff.1 hn).1
  obtain ⟨bl, off, rfl, _, hcap, -, -, -, -, -, -⟩ := hrd.nd hn
  have z1 : (0 : Int) ≤ (i : Int) := by omega
  have z2 : (i : Int) < (L.length : Int) := by omega
  have k0 : Keep NoF w (w.alloc (.cells #[.slice a S.A.length ca, .slice f S.F.length cf, .slice c S.C.length cc] 24)) := (Keep.refl _ _).alloc _
  have b0 : Bk (w.alloc (.cells #[.slice a S.A.length ca, .slice f S.F.length cf, .slice c S.C.length cc] 24)) w.heap.size 24 #[.slice a S.A.length ca, .slice f S.F.length cf, .slice c S.C.length cc] := Bk.new w _ _
  obtain ⟨-, hcT, tb, tu, rfl, -⟩ := ht.str hl
  have z3 : (0 : Int) ≤ (ax : Int) := by omega
  have z4 : (ax : Int) < (L.length : Int) := by omega
  have z5 : (ax : Int) < (i : Int) := by omega
  have hs1 : (txt hd).size ≤ 5000 := by rw [txt_size]; exact hhd
  have hs2 : (txt (parL (lvO m.op) 5 l)).size ≤ 4002 := by rw [txt_size]; exact parL_len _ _ hl2
  have HR : Hid (txt (hd ++ parL (lvO m.op) 5 l) = txt hd ++ txt (parL (lvO m.op) 5 l)) := Lib.hid (txt_app _ _).symm
  have hq1 : ¬ 9223372036854775807 < (txt hd).size + (txt (parL (lvO m.op) 5 l)).size := by omega
  have HH := Lib.hid HH
  have HLM := Lib.hid fun W => rLevel_any m.op W
  have HE : Hid (∀ W : World, Calls Tryz.prog 62 #[.string (txt l), .int .i64 (lvO m.op : Int), .int .i64 5] W fun e w' => e = .returned (.string (txt (parL (lvO m.op) 5 l))) ∧ w' = W) := Lib.hid fun W => renclosed_any l (lvO m.op) 5 W (by omega)
  generalize txt (parL (lvO m.op) 5 l) = eb at *
  generalize txt l = tl at *
  generalize txt hd = hb at *
  generalize ((lvO m.op : Nat) : Int) = lv at *
  have e1 : (op == 1) = false := by simpa using h1
  have e2 : (op == 2) = false := by simpa using h2
  have e3 : (op == 3) = false := by simpa using h3
  have e16 : (op == 16) = false := by simpa using h16
  have e13 : (op == 13) = false := by simpa using h13
  have e14 : (op == 14) = false := by simpa using h14
  have HS0 := Lib.hid hS
  have HRD := Lib.hid hrd
  have HT := Lib.hid ht
  have HN := Lib.hid hn
  clear hS hrd ht hn
  go_enter Tryz.func34, Tryz.ntmps34
  go_upto_region 1 with (fail)
  generalize w.alloc (.cells #[.slice a S.A.length ca, .slice f S.F.length cf, .slice c S.C.length cc] 24) = W0 at *
  obtain ⟨bl', off', he, _, _, x0, x1, x2, x3, x4, x5⟩ := (HRD.out.kept k0 fun _ _ h => h).nd HN.out
  cases he
  simp only at x0 x1 x2 x3 x4 x5
  have hK0 : Keep NoF w (W0.alloc (.cells #[.int .i64 op, .int .i64 ni, .int .i64 ne, .int .i64 ng, .int .i64 (ax : Int), .int .i64 ny] 49)) := k0.alloc _
  have b1 : Bk (W0.alloc (.cells #[.int .i64 op, .int .i64 ni, .int .i64 ne, .int .i64 ng, .int .i64 (ax : Int), .int .i64 ny] 49)) W0.heap.size 49 #[.int .i64 op, .int .i64 ni, .int .i64 ne, .int .i64 ng, .int .i64 (ax : Int), .int .i64 ny] := Bk.new W0 _ _
  have b0 := b0.alloc (.cells #[.int .i64 op, .int .i64 ni, .int .i64 ne, .int .i64 ng, .int .i64 (ax : Int), .int .i64 ny] 49)
  go_upto_region 2 with (fail)
  clear x0 x1 x2 x3 x4 x5
  generalize W0.alloc (.cells #[.int .i64 op, .int .i64 ni, .int .i64 ne, .int .i64 ng, .int .i64 (ax : Int), .int .i64 ny] 49) = W at *
  have HSG := Lib.hid (HS0.out.keep hK0)
  have s0 : W.cell? ⟨w.heap.size, 0, none⟩ = some (.slice a S.A.length ca) := b0.cell 0
  have s1 : W.cell? ⟨w.heap.size, 1, none⟩ = some (.slice f S.F.length cf) := b0.cell 1
  have s2 : W.cell? ⟨w.heap.size, 2, none⟩ = some (.slice c S.C.length cc) := b0.cell 2
  have n0 : W.cell? ⟨W0.heap.size, 0, none⟩ = some (.int .i64 op) := b1.cell 0
  have n1 : W.cell? ⟨W0.heap.size, 1, none⟩ = some (.int .i64 ni) := b1.cell 1
  have n2 : W.cell? ⟨W0.heap.size, 2, none⟩ = some (.int .i64 ne) := b1.cell 2
  have n3 : W.cell? ⟨W0.heap.size, 3, none⟩ = some (.int .i64 ng) := b1.cell 3
  have n4 : W.cell? ⟨W0.heap.size, 4, none⟩ = some (.int .i64 (ax : Int)) := b1.cell 4
  have n5 : W.cell? ⟨W0.heap.size, 5, none⟩ = some (.int .i64 ny) := b1.cell 5
  obtain ⟨-, -, tb', tu', he, ht0⟩ := (HT.out.kept hK0 fun _ _ h => h).str hl
  cases he
  obtain ⟨bl', off', he, _, _, y0, _, _, _, _, _⟩ := (HRD.out.kept hK0 fun _ _ h => h).nd hm
  cases he
  clear b0 b1
  clear h1 h2 h3 h16 h13 h14
  go_upto_region 19 with (first
    | (go_at_call 63; (with_reducible refine (HLV.out _).mono ?_); rintro e w1 ⟨rfl, hw⟩; obtain rfl := hw.symm))
  clear HLV e1 e2 e3 e16 e13 e14
  have ds0 : W.drew.cell? ⟨w.heap.size, 0, none⟩ = some (.slice a S.A.length ca) := s0
  have ds1 : W.drew.cell? ⟨w.heap.size, 1, none⟩ = some (.slice f S.F.length cf) := s1
  have ds2 : W.drew.cell? ⟨w.heap.size, 2, none⟩ = some (.slice c S.C.length cc) := s2
  have dn0 : W.drew.cell? ⟨W0.heap.size, 0, none⟩ = some (.int .i64 op) := n0
  have dn1 : W.drew.cell? ⟨W0.heap.size, 1, none⟩ = some (.int .i64 ni) := n1
  have dn2 : W.drew.cell? ⟨W0.heap.size, 2, none⟩ = some (.int .i64 ne) := n2
  have dn3 : W.drew.cell? ⟨W0.heap.size, 3, none⟩ = some (.int .i64 ng) := n3
  have dn4 : W.drew.cell? ⟨W0.heap.size, 4, none⟩ = some (.int .i64 (ax : Int)) := n4
  have dn5 : W.drew.cell? ⟨W0.heap.size, 5, none⟩ = some (.int .i64 ny) := n5
  have dht0 : W.drew.cell? ⟨tb, tu + ax, none⟩ = some (.string tl) := ht0
  have dy0 : W.drew.cell? ⟨bl, off + ax * 6, none⟩ = some (.int .i64 m.op) := y0
  have HHD := Lib.hid (HH.out W.drew (HSG.out.keep (Keep.refl NoF W).drew))
  go_region_held3 (fun w' => w'.cell? ⟨w.heap.size, 0, none⟩ = some (.slice a S.A.length ca) ∧ w'.cell? ⟨w.heap.size, 1, none⟩ = some (.slice f S.F.length cf) ∧ w'.cell? ⟨w.heap.size, 2, none⟩ = some (.slice c S.C.length cc) ∧ w'.cell? ⟨W0.heap.size, 0, none⟩ = some (.int .i64 op) ∧ w'.cell? ⟨W0.heap.size, 1, none⟩ = some (.int .i64 ni) ∧ w'.cell? ⟨W0.heap.size, 2, none⟩ = some (.int .i64 ne) ∧ w'.cell? ⟨W0.heap.size, 3, none⟩ = some (.int .i64 ng) ∧ w'.cell? ⟨W0.heap.size, 4, none⟩ = some (.int .i64 (ax : Int)) ∧ w'.cell? ⟨W0.heap.size, 5, none⟩ = some (.int .i64 ny) ∧ w'.cell? ⟨tb, tu + ax, none⟩ = some (.string tl) ∧ w'.cell? ⟨bl, off + ax * 6, none⟩ = some (.int .i64 m.op))
    (first | with_reducible exact ⟨ds0, ds1, ds2, dn0, dn1, dn2, dn3, dn4, dn5, dht0, dy0⟩ | with_reducible exact ⟨es0, es1, es2, en0, en1, en2, en3, en4, en5, eht0, ey0⟩)
    (first
      | (go_at_call 64
         (with_reducible refine HHD.out.mono ?_)
         rintro e w3 ⟨rfl, k3⟩
         have es0 : w3.cell? ⟨w.heap.size, 0, none⟩ = some (.slice a S.A.length ca) := k3.cellv ds0 fun h => h
         have es1 : w3.cell? ⟨w.heap.size, 1, none⟩ = some (.slice f S.F.length cf) := k3.cellv ds1 fun h => h
         have es2 : w3.cell? ⟨w.heap.size, 2, none⟩ = some (.slice c S.C.length cc) := k3.cellv ds2 fun h => h
         have en0 : w3.cell? ⟨W0.heap.size, 0, none⟩ = some (.int .i64 op) := k3.cellv dn0 fun h => h
         have en1 : w3.cell? ⟨W0.heap.size, 1, none⟩ = some (.int .i64 ni) := k3.cellv dn1 fun h => h
         have en2 : w3.cell? ⟨W0.heap.size, 2, none⟩ = some (.int .i64 ne) := k3.cellv dn2 fun h => h
         have en3 : w3.cell? ⟨W0.heap.size, 3, none⟩ = some (.int .i64 ng) := k3.cellv dn3 fun h => h
         have en4 : w3.cell? ⟨W0.heap.size, 4, none⟩ = some (.int .i64 (ax : Int)) := k3.cellv dn4 fun h => h
         have en5 : w3.cell? ⟨W0.heap.size, 5, none⟩ = some (.int .i64 ny) := k3.cellv dn5 fun h => h
         have eht0 : w3.cell? ⟨tb, tu + ax, none⟩ = some (.string tl) := k3.cellv dht0 fun h => h
         have ey0 : w3.cell? ⟨bl, off + ax * 6, none⟩ = some (.int .i64 m.op) := k3.cellv dy0 fun h => h)
      | (go_at_call 63; (with_reducible refine (HLM.out _).mono ?_); rintro e w4 ⟨rfl, hw⟩; obtain rfl := hw.symm)
      | (go_at_call 62; (with_reducible refine (HE.out _).mono ?_); rintro e w5 ⟨rfl, hw⟩; obtain rfl := hw.symm))
  all_goals
    go_wp2
    refine bodyPost_ret (v := .string (hb ++ eb)) (by simp [results, Tryz.results34, go_sem]) rfl ?_
    exact ⟨by rw [HR.out], (hK0.drew).trans k3 fun _ _ h => h⟩
theorem rtext_16 (hS : SigR w S a ca f cf c cc) (hrd : Rd w (.slice A L.length c1) 6 L.length (fmC L)) (hL : L.length ≤ 200) (ht : Rd w (.slice T i cT) 1 tx.length (strs tx)) (hti : tx.length = i) {ax ay : Nat} (hn : L[i]? = some ⟨16, 0, 0, 0, (ax : Int), (ay : Int)⟩) (hax : ax < i) (hay : ay < i) {m m' : Nd} (hm : L[ax]? = some m) (hm' : L[ay]? = some m') {l k : List UInt8} (hl : tx[ax]? = some (txt l)) (hk : tx[ay]? = some (txt k)) (hl2 : l.length ≤ 4000) (hk2 : k.length ≤ 4000) :
    Calls Tryz.prog 34 #[.agg #[.slice a S.A.length ca, .slice f S.F.length cf, .slice c S.C.length cc], .slice A L.length c1, .slice T i cT, .int .i64 (i : Int)] w fun e w' => e = .returned (.string (txt (91 :: 33 :: (l ++ 93 :: parL (lvO m'.op) 5 k)))) ∧ Keep NoF w w' := by
  have hs1 : (txt l).size ≤ 4000 := by rw [txt_size]; exact hl2
  have hs2 : (txt (parL (lvO m'.op) 5 k)).size ≤ 4002 := by rw [txt_size]; exact parL_len _ _ hk2
  have HR : Hid (txt (91 :: 33 :: (l ++ 93 :: parL (lvO m'.op) 5 k)) = (((⟨#[91, 33]⟩ : ByteArray) ++ txt l) ++ ⟨#[93]⟩) ++ txt (parL (lvO m'.op) 5 k)) := Lib.hid (by
    show _ = ((txt [91, 33] ++ txt l) ++ txt [93]) ++ txt (parL (lvO m'.op) 5 k)
    rw [txt_app, txt_app, txt_app]
    simp)
  have hs3 : ((⟨#[91, 33]⟩ : ByteArray) ++ txt l).size = 2 + (txt l).size := by rw [ByteArray.size_append]; rfl
  have HLM := Lib.hid fun W => rLevel_any m'.op W
  have HE : Hid (∀ W : World, Calls Tryz.prog 62 #[.string (txt k), .int .i64 (lvO m'.op : Int), .int .i64 5] W fun e w' => e = .returned (.string (txt (parL (lvO m'.op) 5 k))) ∧ w' = W) := Lib.hid fun W => renclosed_any k (lvO m'.op) 5 W (by omega)
  generalize txt (parL (lvO m'.op) 5 k) = eb at *
  generalize ((lvO m'.op : Nat) : Int) = lv at *
  have hlt : i < L.length := (List.getElem?_eq_some_iff.1 hn).1
  obtain ⟨bl, off, rfl, _, hcap, -, -, -, -, -, -⟩ := hrd.nd hn
  have z1 : (0 : Int) ≤ (i : Int) := by omega
  have z2 : (i : Int) < (L.length : Int) := by omega
  have k0 : Keep NoF w (w.alloc (.cells #[.slice a S.A.length ca, .slice f S.F.length cf, .slice c S.C.length cc] 24)) := (Keep.refl _ _).alloc _
  have b0 : Bk (w.alloc (.cells #[.slice a S.A.length ca, .slice f S.F.length cf, .slice c S.C.length cc] 24)) w.heap.size 24 #[.slice a S.A.length ca, .slice f S.F.length cf, .slice c S.C.length cc] := Bk.new w _ _
  obtain ⟨-, hcT, tb, tu, rfl, -⟩ := ht.str hl
  have z3 : (0 : Int) ≤ (ax : Int) := by omega
  have z4 : (ax : Int) < (L.length : Int) := by omega
  have z5 : (ax : Int) < (i : Int) := by omega
  have z6 : (0 : Int) ≤ (ay : Int) := by omega
  have z7 : (ay : Int) < (L.length : Int) := by omega
  have z8 : (ay : Int) < (i : Int) := by omega
  have HS0 := Lib.hid hS
  have HRD := Lib.hid hrd
  have HT := Lib.hid ht
  have HN := Lib.hid hn
  clear hS hrd ht hn
  go_enter Tryz.func34, Tryz.ntmps34
  go_upto_region 1 with (fail)
  generalize w.alloc (.cells #[.slice a S.A.length ca, .slice f S.F.length cf, .slice c S.C.length cc] 24) = W0 at *
  obtain ⟨bl', off', he, _, _, x0, x1, x2, x3, x4, x5⟩ := (HRD.out.kept k0 fun _ _ h => h).nd HN.out
  cases he
  simp only at x0 x1 x2 x3 x4 x5
  have hK0 : Keep NoF w (W0.alloc (.cells #[.int .i64 16, .int .i64 0, .int .i64 0, .int .i64 0, .int .i64 (ax : Int), .int .i64 (ay : Int)] 49)) := k0.alloc _
  have b1 : Bk (W0.alloc (.cells #[.int .i64 16, .int .i64 0, .int .i64 0, .int .i64 0, .int .i64 (ax : Int), .int .i64 (ay : Int)] 49)) W0.heap.size 49 #[.int .i64 16, .int .i64 0, .int .i64 0, .int .i64 0, .int .i64 (ax : Int), .int .i64 (ay : Int)] := Bk.new W0 _ _
  have b0 := b0.alloc (.cells #[.int .i64 16, .int .i64 0, .int .i64 0, .int .i64 0, .int .i64 (ax : Int), .int .i64 (ay : Int)] 49)
  go_upto_region 2 with (fail)
  clear x0 x1 x2 x3 x4 x5
  generalize W0.alloc (.cells #[.int .i64 16, .int .i64 0, .int .i64 0, .int .i64 0, .int .i64 (ax : Int), .int .i64 (ay : Int)] 49) = W at *
  have HSG := Lib.hid (HS0.out.keep hK0)
  have s0 : W.cell? ⟨w.heap.size, 0, none⟩ = some (.slice a S.A.length ca) := b0.cell 0
  have s1 : W.cell? ⟨w.heap.size, 1, none⟩ = some (.slice f S.F.length cf) := b0.cell 1
  have s2 : W.cell? ⟨w.heap.size, 2, none⟩ = some (.slice c S.C.length cc) := b0.cell 2
  have n0 : W.cell? ⟨W0.heap.size, 0, none⟩ = some (.int .i64 16) := b1.cell 0
  have n1 : W.cell? ⟨W0.heap.size, 1, none⟩ = some (.int .i64 0) := b1.cell 1
  have n2 : W.cell? ⟨W0.heap.size, 2, none⟩ = some (.int .i64 0) := b1.cell 2
  have n3 : W.cell? ⟨W0.heap.size, 3, none⟩ = some (.int .i64 0) := b1.cell 3
  have n4 : W.cell? ⟨W0.heap.size, 4, none⟩ = some (.int .i64 (ax : Int)) := b1.cell 4
  have n5 : W.cell? ⟨W0.heap.size, 5, none⟩ = some (.int .i64 (ay : Int)) := b1.cell 5
  obtain ⟨-, -, tb', tu', he, ht0⟩ := (HT.out.kept hK0 fun _ _ h => h).str hl
  cases he
  obtain ⟨bl', off', he, _, _, y0, _, _, _, _, _⟩ := (HRD.out.kept hK0 fun _ _ h => h).nd hm
  cases he
  obtain ⟨-, -, tb', tu', he, ht1⟩ := (HT.out.kept hK0 fun _ _ h => h).str hk
  cases he
  obtain ⟨bl', off', he, _, _, v0, _, _, _, _, _⟩ := (HRD.out.kept hK0 fun _ _ h => h).nd hm'
  cases he
  clear b0 b1
  generalize txt l = tl at *
  generalize txt k = tk at *
  go_upto_region 10 with (fail)
  have hz1 : ¬ 9223372036854775807 < 2 + tl.size := by omega
  have hz2 : ¬ 9223372036854775807 < 2 + tl.size + 1 := by omega
  have hz3 : ¬ 9223372036854775807 < 2 + tl.size + 1 + eb.size := by omega
  go_quiet (first
    | (go_at_call 63; with_reducible exact Calls.quiet_of_same (HLM.out _))
    | (go_at_call 62; with_reducible exact Calls.quiet_of_same (HE.out _)))
  all_goals
    go_wp2
    refine bodyPost_ret (v := .string ((((⟨#[91, 33]⟩ : ByteArray) ++ tl) ++ ⟨#[93]⟩) ++ eb)) (by simp [results, Tryz.results34, go_sem]) rfl ?_
    exact ⟨by rw [HR.out], hK0.drewN _⟩
theorem rtext_5 (hS : SigR w S a ca f cf c cc) (hrd : Rd w (.slice A L.length c1) 6 L.length (fmC L)) (hL : L.length ≤ 200) (ht : Rd w (.slice T i cT) 1 tx.length (strs tx)) (hti : tx.length = i) {ax ay : Nat} (hn : L[i]? = some ⟨5, 0, 0, 0, (ax : Int), (ay : Int)⟩) (hax : ax < i) (hay : ay < i) {m m' : Nd} (hm : L[ax]? = some m) (hm' : L[ay]? = some m') {l k : List UInt8} (hl : tx[ax]? = some (txt l)) (hk : tx[ay]? = some (txt k)) (hl2 : l.length ≤ 4000) (hk2 : k.length ≤ 4000) :
    Calls Tryz.prog 34 #[.agg #[.slice a S.A.length ca, .slice f S.F.length cf, .slice c S.C.length cc], .slice A L.length c1, .slice T i cT, .int .i64 (i : Int)] w fun e w' => e = .returned (.string (txt (parL (lvO m.op) 4 l ++ (sgL 5 ++ parL (lvO m'.op) 5 k)))) ∧ Keep NoF w w' := by
  have hs1 : (txt (parL (lvO m.op) 4 l)).size ≤ 4002 := by rw [txt_size]; exact parL_len _ _ hl2
  have hs2 : (txt (parL (lvO m'.op) 5 k)).size ≤ 4002 := by rw [txt_size]; exact parL_len _ _ hk2
  have hs3 : (txt (sgL 5)).size ≤ 7 := by rw [txt_size]; decide
  have HR : Hid (txt (parL (lvO m.op) 4 l ++ (sgL 5 ++ parL (lvO m'.op) 5 k)) = (txt (parL (lvO m.op) 4 l) ++ txt (sgL 5)) ++ txt (parL (lvO m'.op) 5 k)) := Lib.hid (by
    rw [txt_app, txt_app, List.append_assoc])
  have HLV := Lib.hid fun W => rLevel_5 W
  have HSN := Lib.hid fun W => rsign_5 W
  have HL1 := Lib.hid fun W => rLevel_any m.op W
  have HL2 := Lib.hid fun W => rLevel_any m'.op W
  have HE1 : Hid (∀ W : World, Calls Tryz.prog 62 #[.string (txt l), .int .i64 (lvO m.op : Int), .int .i64 4] W fun e w' => e = .returned (.string (txt (parL (lvO m.op) 4 l))) ∧ w' = W) := Lib.hid fun W => renclosed_any l (lvO m.op) 4 W (by omega)
  have HE2 : Hid (∀ W : World, Calls Tryz.prog 62 #[.string (txt k), .int .i64 (lvO m'.op : Int), .int .i64 5] W fun e w' => e = .returned (.string (txt (parL (lvO m'.op) 5 k))) ∧ w' = W) := Lib.hid fun W => renclosed_any k (lvO m'.op) 5 W (by omega)
  generalize txt (parL (lvO m.op) 4 l) = e1b at *
  generalize txt (parL (lvO m'.op) 5 k) = e2b at *
  generalize txt (sgL 5) = sb at *
  generalize ((lvO m.op : Nat) : Int) = lv1 at *
  generalize ((lvO m'.op : Nat) : Int) = lv2 at *
  have hlt : i < L.length := (List.getElem?_eq_some_iff.1 hn).1
  obtain ⟨bl, off, rfl, _, hcap, -, -, -, -, -, -⟩ := hrd.nd hn
  have z1 : (0 : Int) ≤ (i : Int) := by omega
  have z2 : (i : Int) < (L.length : Int) := by omega
  have k0 : Keep NoF w (w.alloc (.cells #[.slice a S.A.length ca, .slice f S.F.length cf, .slice c S.C.length cc] 24)) := (Keep.refl _ _).alloc _
  have b0 : Bk (w.alloc (.cells #[.slice a S.A.length ca, .slice f S.F.length cf, .slice c S.C.length cc] 24)) w.heap.size 24 #[.slice a S.A.length ca, .slice f S.F.length cf, .slice c S.C.length cc] := Bk.new w _ _
  obtain ⟨-, hcT, tb, tu, rfl, -⟩ := ht.str hl
  have z3 : (0 : Int) ≤ (ax : Int) := by omega
  have z4 : (ax : Int) < (L.length : Int) := by omega
  have z5 : (ax : Int) < (i : Int) := by omega
  have z6 : (0 : Int) ≤ (ay : Int) := by omega
  have z7 : (ay : Int) < (L.length : Int) := by omega
  have z8 : (ay : Int) < (i : Int) := by omega
  have HS0 := Lib.hid hS
  have HRD := Lib.hid hrd
  have HT := Lib.hid ht
  have HN := Lib.hid hn
  clear hS hrd ht hn
  go_enter Tryz.func34, Tryz.ntmps34
  go_upto_region 1 with (fail)
  generalize w.alloc (.cells #[.slice a S.A.length ca, .slice f S.F.length cf, .slice c S.C.length cc] 24) = W0 at *
  obtain ⟨bl', off', he, _, _, x0, x1, x2, x3, x4, x5⟩ := (HRD.out.kept k0 fun _ _ h => h).nd HN.out
  cases he
  simp only at x0 x1 x2 x3 x4 x5
  have hK0 : Keep NoF w (W0.alloc (.cells #[.int .i64 5, .int .i64 0, .int .i64 0, .int .i64 0, .int .i64 (ax : Int), .int .i64 (ay : Int)] 49)) := k0.alloc _
  have b1 : Bk (W0.alloc (.cells #[.int .i64 5, .int .i64 0, .int .i64 0, .int .i64 0, .int .i64 (ax : Int), .int .i64 (ay : Int)] 49)) W0.heap.size 49 #[.int .i64 5, .int .i64 0, .int .i64 0, .int .i64 0, .int .i64 (ax : Int), .int .i64 (ay : Int)] := Bk.new W0 _ _
  have b0 := b0.alloc (.cells #[.int .i64 5, .int .i64 0, .int .i64 0, .int .i64 0, .int .i64 (ax : Int), .int .i64 (ay : Int)] 49)
  go_upto_region 2 with (fail)
  clear x0 x1 x2 x3 x4 x5
  generalize W0.alloc (.cells #[.int .i64 5, .int .i64 0, .int .i64 0, .int .i64 0, .int .i64 (ax : Int), .int .i64 (ay : Int)] 49) = W at *
  have HSG := Lib.hid (HS0.out.keep hK0)
  have s0 : W.cell? ⟨w.heap.size, 0, none⟩ = some (.slice a S.A.length ca) := b0.cell 0
  have s1 : W.cell? ⟨w.heap.size, 1, none⟩ = some (.slice f S.F.length cf) := b0.cell 1
  have s2 : W.cell? ⟨w.heap.size, 2, none⟩ = some (.slice c S.C.length cc) := b0.cell 2
  have n0 : W.cell? ⟨W0.heap.size, 0, none⟩ = some (.int .i64 5) := b1.cell 0
  have n1 : W.cell? ⟨W0.heap.size, 1, none⟩ = some (.int .i64 0) := b1.cell 1
  have n2 : W.cell? ⟨W0.heap.size, 2, none⟩ = some (.int .i64 0) := b1.cell 2
  have n3 : W.cell? ⟨W0.heap.size, 3, none⟩ = some (.int .i64 0) := b1.cell 3
  have n4 : W.cell? ⟨W0.heap.size, 4, none⟩ = some (.int .i64 (ax : Int)) := b1.cell 4
  have n5 : W.cell? ⟨W0.heap.size, 5, none⟩ = some (.int .i64 (ay : Int)) := b1.cell 5
  obtain ⟨-, -, tb', tu', he, ht0⟩ := (HT.out.kept hK0 fun _ _ h => h).str hl
  cases he
  obtain ⟨bl', off', he, _, _, y0, _, _, _, _, _⟩ := (HRD.out.kept hK0 fun _ _ h => h).nd hm
  cases he
  obtain ⟨-, -, tb', tu', he, ht1⟩ := (HT.out.kept hK0 fun _ _ h => h).str hk
  cases he
  obtain ⟨bl', off', he, _, _, v0, _, _, _, _, _⟩ := (HRD.out.kept hK0 fun _ _ h => h).nd hm'
  cases he
  clear b0 b1
  generalize txt l = tl at *
  generalize txt k = tk at *
  go_upto_region 23 with (first
    | (go_at_call 63; (with_reducible refine (HLV.out _).mono ?_); rintro e w1 ⟨rfl, hw⟩; obtain rfl := hw.symm))
  clear HLV
  have hz1 : ¬ 9223372036854775807 < e1b.size + sb.size := by omega
  have hz2 : ¬ 9223372036854775807 < e1b.size + sb.size + e2b.size := by omega
  go_quiet (first
    | (go_at_call 63; with_reducible exact Calls.quiet_of_same (HL1.out _))
    | (go_at_call 63; with_reducible exact Calls.quiet_of_same (HL2.out _))
    | (go_at_call 65; with_reducible exact Calls.quiet_of_same (HSN.out _))
    | (go_at_call 62; with_reducible exact Calls.quiet_of_same (HE1.out _))
    | (go_at_call 62; with_reducible exact Calls.quiet_of_same (HE2.out _)))
  all_goals
    go_wp2
    refine bodyPost_ret (v := .string ((e1b ++ sb) ++ e2b)) (by simp [results, Tryz.results34, go_sem]) rfl ?_
    exact ⟨by rw [HR.out], hK0.drewN _⟩
theorem rtext_6 (hS : SigR w S a ca f cf c cc) (hrd : Rd w (.slice A L.length c1) 6 L.length (fmC L)) (hL : L.length ≤ 200) (ht : Rd w (.slice T i cT) 1 tx.length (strs tx)) (hti : tx.length = i) {ax ay : Nat} (hn : L[i]? = some ⟨6, 0, 0, 0, (ax : Int), (ay : Int)⟩) (hax : ax < i) (hay : ay < i) {m m' : Nd} (hm : L[ax]? = some m) (hm' : L[ay]? = some m') {l k : List UInt8} (hl : tx[ax]? = some (txt l)) (hk : tx[ay]? = some (txt k)) (hl2 : l.length ≤ 4000) (hk2 : k.length ≤ 4000) :
    Calls Tryz.prog 34 #[.agg #[.slice a S.A.length ca, .slice f S.F.length cf, .slice c S.C.length cc], .slice A L.length c1, .slice T i cT, .int .i64 (i : Int)] w fun e w' => e = .returned (.string (txt (parL (lvO m.op) 3 l ++ (sgL 6 ++ parL (lvO m'.op) 4 k)))) ∧ Keep NoF w w' := by
  have hs1 : (txt (parL (lvO m.op) 3 l)).size ≤ 4002 := by rw [txt_size]; exact parL_len _ _ hl2
  have hs2 : (txt (parL (lvO m'.op) 4 k)).size ≤ 4002 := by rw [txt_size]; exact parL_len _ _ hk2
  have hs3 : (txt (sgL 6)).size ≤ 7 := by rw [txt_size]; decide
  have HR : Hid (txt (parL (lvO m.op) 3 l ++ (sgL 6 ++ parL (lvO m'.op) 4 k)) = (txt (parL (lvO m.op) 3 l) ++ txt (sgL 6)) ++ txt (parL (lvO m'.op) 4 k)) := Lib.hid (by
    rw [txt_app, txt_app, List.append_assoc])
  have HLV := Lib.hid fun W => rLevel_6 W
  have HSN := Lib.hid fun W => rsign_6 W
  have HL1 := Lib.hid fun W => rLevel_any m.op W
  have HL2 := Lib.hid fun W => rLevel_any m'.op W
  have HE1 : Hid (∀ W : World, Calls Tryz.prog 62 #[.string (txt l), .int .i64 (lvO m.op : Int), .int .i64 3] W fun e w' => e = .returned (.string (txt (parL (lvO m.op) 3 l))) ∧ w' = W) := Lib.hid fun W => renclosed_any l (lvO m.op) 3 W (by omega)
  have HE2 : Hid (∀ W : World, Calls Tryz.prog 62 #[.string (txt k), .int .i64 (lvO m'.op : Int), .int .i64 4] W fun e w' => e = .returned (.string (txt (parL (lvO m'.op) 4 k))) ∧ w' = W) := Lib.hid fun W => renclosed_any k (lvO m'.op) 4 W (by omega)
  generalize txt (parL (lvO m.op) 3 l) = e1b at *
  generalize txt (parL (lvO m'.op) 4 k) = e2b at *
  generalize txt (sgL 6) = sb at *
  generalize ((lvO m.op : Nat) : Int) = lv1 at *
  generalize ((lvO m'.op : Nat) : Int) = lv2 at *
  have hlt : i < L.length := (List.getElem?_eq_some_iff.1 hn).1
  obtain ⟨bl, off, rfl, _, hcap, -, -, -, -, -, -⟩ := hrd.nd hn
  have z1 : (0 : Int) ≤ (i : Int) := by omega
  have z2 : (i : Int) < (L.length : Int) := by omega
  have k0 : Keep NoF w (w.alloc (.cells #[.slice a S.A.length ca, .slice f S.F.length cf, .slice c S.C.length cc] 24)) := (Keep.refl _ _).alloc _
  have b0 : Bk (w.alloc (.cells #[.slice a S.A.length ca, .slice f S.F.length cf, .slice c S.C.length cc] 24)) w.heap.size 24 #[.slice a S.A.length ca, .slice f S.F.length cf, .slice c S.C.length cc] := Bk.new w _ _
  obtain ⟨-, hcT, tb, tu, rfl, -⟩ := ht.str hl
  have z3 : (0 : Int) ≤ (ax : Int) := by omega
  have z4 : (ax : Int) < (L.length : Int) := by omega
  have z5 : (ax : Int) < (i : Int) := by omega
  have z6 : (0 : Int) ≤ (ay : Int) := by omega
  have z7 : (ay : Int) < (L.length : Int) := by omega
  have z8 : (ay : Int) < (i : Int) := by omega
  have HS0 := Lib.hid hS
  have HRD := Lib.hid hrd
  have HT := Lib.hid ht
  have HN := Lib.hid hn
  clear hS hrd ht hn
  go_enter Tryz.func34, Tryz.ntmps34
  go_upto_region 1 with (fail)
  generalize w.alloc (.cells #[.slice a S.A.length ca, .slice f S.F.length cf, .slice c S.C.length cc] 24) = W0 at *
  obtain ⟨bl', off', he, _, _, x0, x1, x2, x3, x4, x5⟩ := (HRD.out.kept k0 fun _ _ h => h).nd HN.out
  cases he
  simp only at x0 x1 x2 x3 x4 x5
  have hK0 : Keep NoF w (W0.alloc (.cells #[.int .i64 6, .int .i64 0, .int .i64 0, .int .i64 0, .int .i64 (ax : Int), .int .i64 (ay : Int)] 49)) := k0.alloc _
  have b1 : Bk (W0.alloc (.cells #[.int .i64 6, .int .i64 0, .int .i64 0, .int .i64 0, .int .i64 (ax : Int), .int .i64 (ay : Int)] 49)) W0.heap.size 49 #[.int .i64 6, .int .i64 0, .int .i64 0, .int .i64 0, .int .i64 (ax : Int), .int .i64 (ay : Int)] := Bk.new W0 _ _
  have b0 := b0.alloc (.cells #[.int .i64 6, .int .i64 0, .int .i64 0, .int .i64 0, .int .i64 (ax : Int), .int .i64 (ay : Int)] 49)
  go_upto_region 2 with (fail)
  clear x0 x1 x2 x3 x4 x5
  generalize W0.alloc (.cells #[.int .i64 6, .int .i64 0, .int .i64 0, .int .i64 0, .int .i64 (ax : Int), .int .i64 (ay : Int)] 49) = W at *
  have HSG := Lib.hid (HS0.out.keep hK0)
  have s0 : W.cell? ⟨w.heap.size, 0, none⟩ = some (.slice a S.A.length ca) := b0.cell 0
  have s1 : W.cell? ⟨w.heap.size, 1, none⟩ = some (.slice f S.F.length cf) := b0.cell 1
  have s2 : W.cell? ⟨w.heap.size, 2, none⟩ = some (.slice c S.C.length cc) := b0.cell 2
  have n0 : W.cell? ⟨W0.heap.size, 0, none⟩ = some (.int .i64 6) := b1.cell 0
  have n1 : W.cell? ⟨W0.heap.size, 1, none⟩ = some (.int .i64 0) := b1.cell 1
  have n2 : W.cell? ⟨W0.heap.size, 2, none⟩ = some (.int .i64 0) := b1.cell 2
  have n3 : W.cell? ⟨W0.heap.size, 3, none⟩ = some (.int .i64 0) := b1.cell 3
  have n4 : W.cell? ⟨W0.heap.size, 4, none⟩ = some (.int .i64 (ax : Int)) := b1.cell 4
  have n5 : W.cell? ⟨W0.heap.size, 5, none⟩ = some (.int .i64 (ay : Int)) := b1.cell 5
  obtain ⟨-, -, tb', tu', he, ht0⟩ := (HT.out.kept hK0 fun _ _ h => h).str hl
  cases he
  obtain ⟨bl', off', he, _, _, y0, _, _, _, _, _⟩ := (HRD.out.kept hK0 fun _ _ h => h).nd hm
  cases he
  obtain ⟨-, -, tb', tu', he, ht1⟩ := (HT.out.kept hK0 fun _ _ h => h).str hk
  cases he
  obtain ⟨bl', off', he, _, _, v0, _, _, _, _, _⟩ := (HRD.out.kept hK0 fun _ _ h => h).nd hm'
  cases he
  clear b0 b1
  generalize txt l = tl at *
  generalize txt k = tk at *
  go_upto_region 23 with (first
    | (go_at_call 63; (with_reducible refine (HLV.out _).mono ?_); rintro e w1 ⟨rfl, hw⟩; obtain rfl := hw.symm))
  clear HLV
  have hz1 : ¬ 9223372036854775807 < e1b.size + sb.size := by omega
  have hz2 : ¬ 9223372036854775807 < e1b.size + sb.size + e2b.size := by omega
  go_quiet (first
    | (go_at_call 63; with_reducible exact Calls.quiet_of_same (HL1.out _))
    | (go_at_call 63; with_reducible exact Calls.quiet_of_same (HL2.out _))
    | (go_at_call 65; with_reducible exact Calls.quiet_of_same (HSN.out _))
    | (go_at_call 62; with_reducible exact Calls.quiet_of_same (HE1.out _))
    | (go_at_call 62; with_reducible exact Calls.quiet_of_same (HE2.out _)))
  all_goals
    go_wp2
    refine bodyPost_ret (v := .string ((e1b ++ sb) ++ e2b)) (by simp [results, Tryz.results34, go_sem]) rfl ?_
    exact ⟨by rw [HR.out], hK0.drewN _⟩
theorem rtext_7 (hS : SigR w S a ca f cf c cc) (hrd : Rd w (.slice A L.length c1) 6 L.length (fmC L)) (hL : L.length ≤ 200) (ht : Rd w (.slice T i cT) 1 tx.length (strs tx)) (hti : tx.length = i) {ax ay : Nat} (hn : L[i]? = some ⟨7, 0, 0, 0, (ax : Int), (ay : Int)⟩) (hax : ax < i) (hay : ay < i) {m m' : Nd} (hm : L[ax]? = some m) (hm' : L[ay]? = some m') {l k : List UInt8} (hl : tx[ax]? = some (txt l)) (hk : tx[ay]? = some (txt k)) (hl2 : l.length ≤ 4000) (hk2 : k.length ≤ 4000) :
    Calls Tryz.prog 34 #[.agg #[.slice a S.A.length ca, .slice f S.F.length cf, .slice c S.C.length cc], .slice A L.length c1, .slice T i cT, .int .i64 (i : Int)] w fun e w' => e = .returned (.string (txt (parL (lvO m.op) 2 l ++ (sgL 7 ++ parL (lvO m'.op) 1 k)))) ∧ Keep NoF w w' := by
  have hs1 : (txt (parL (lvO m.op) 2 l)).size ≤ 4002 := by rw [txt_size]; exact parL_len _ _ hl2
  have hs2 : (txt (parL (lvO m'.op) 1 k)).size ≤ 4002 := by rw [txt_size]; exact parL_len _ _ hk2
  have hs3 : (txt (sgL 7)).size ≤ 7 := by rw [txt_size]; decide
  have HR : Hid (txt (parL (lvO m.op) 2 l ++ (sgL 7 ++ parL (lvO m'.op) 1 k)) = (txt (parL (lvO m.op) 2 l) ++ txt (sgL 7)) ++ txt (parL (lvO m'.op) 1 k)) := Lib.hid (by
    rw [txt_app, txt_app, List.append_assoc])
  have HLV := Lib.hid fun W => rLevel_7 W
  have HSN := Lib.hid fun W => rsign_7 W
  have HL1 := Lib.hid fun W => rLevel_any m.op W
  have HL2 := Lib.hid fun W => rLevel_any m'.op W
  have HE1 : Hid (∀ W : World, Calls Tryz.prog 62 #[.string (txt l), .int .i64 (lvO m.op : Int), .int .i64 2] W fun e w' => e = .returned (.string (txt (parL (lvO m.op) 2 l))) ∧ w' = W) := Lib.hid fun W => renclosed_any l (lvO m.op) 2 W (by omega)
  have HE2 : Hid (∀ W : World, Calls Tryz.prog 62 #[.string (txt k), .int .i64 (lvO m'.op : Int), .int .i64 1] W fun e w' => e = .returned (.string (txt (parL (lvO m'.op) 1 k))) ∧ w' = W) := Lib.hid fun W => renclosed_any k (lvO m'.op) 1 W (by omega)
  generalize txt (parL (lvO m.op) 2 l) = e1b at *
  generalize txt (parL (lvO m'.op) 1 k) = e2b at *
  generalize txt (sgL 7) = sb at *
  generalize ((lvO m.op : Nat) : Int) = lv1 at *
  generalize ((lvO m'.op : Nat) : Int) = lv2 at *
  have hlt : i < L.length := (List.getElem?_eq_some_iff.1 hn).1
  obtain ⟨bl, off, rfl, _, hcap, -, -, -, -, -, -⟩ := hrd.nd hn
  have z1 : (0 : Int) ≤ (i : Int) := by omega
  have z2 : (i : Int) < (L.length : Int) := by omega
  have k0 : Keep NoF w (w.alloc (.cells #[.slice a S.A.length ca, .slice f S.F.length cf, .slice c S.C.length cc] 24)) := (Keep.refl _ _).alloc _
  have b0 : Bk (w.alloc (.cells #[.slice a S.A.length ca, .slice f S.F.length cf, .slice c S.C.length cc] 24)) w.heap.size 24 #[.slice a S.A.length ca, .slice f S.F.length cf, .slice c S.C.length cc] := Bk.new w _ _
  obtain ⟨-, hcT, tb, tu, rfl, -⟩ := ht.str hl
  have z3 : (0 : Int) ≤ (ax : Int) := by omega
  have z4 : (ax : Int) < (L.length : Int) := by omega
  have z5 : (ax : Int) < (i : Int) := by omega
  have z6 : (0 : Int) ≤ (ay : Int) := by omega
  have z7 : (ay : Int) < (L.length : Int) := by omega
  have z8 : (ay : Int) < (i : Int) := by omega
  have HS0 := Lib.hid hS
  have HRD := Lib.hid hrd
  have HT := Lib.hid ht
  have HN := Lib.hid hn
  clear hS hrd ht hn
  go_enter Tryz.func34, Tryz.ntmps34
  go_upto_region 1 with (fail)
  generalize w.alloc (.cells #[.slice a S.A.length ca, .slice f S.F.length cf, .slice c S.C.length cc] 24) = W0 at *
  obtain ⟨bl', off', he, _, _, x0, x1, x2, x3, x4, x5⟩ := (HRD.out.kept k0 fun _ _ h => h).nd HN.out
  cases he
  simp only at x0 x1 x2 x3 x4 x5
  have hK0 : Keep NoF w (W0.alloc (.cells #[.int .i64 7, .int .i64 0, .int .i64 0, .int .i64 0, .int .i64 (ax : Int), .int .i64 (ay : Int)] 49)) := k0.alloc _
  have b1 : Bk (W0.alloc (.cells #[.int .i64 7, .int .i64 0, .int .i64 0, .int .i64 0, .int .i64 (ax : Int), .int .i64 (ay : Int)] 49)) W0.heap.size 49 #[.int .i64 7, .int .i64 0, .int .i64 0, .int .i64 0, .int .i64 (ax : Int), .int .i64 (ay : Int)] := Bk.new W0 _ _
  have b0 := b0.alloc (.cells #[.int .i64 7, .int .i64 0, .int .i64 0, .int .i64 0, .int .i64 (ax : Int), .int .i64 (ay : Int)] 49)
  go_upto_region 2 with (fail)
  clear x0 x1 x2 x3 x4 x5
  generalize W0.alloc (.cells #[.int .i64 7, .int .i64 0, .int .i64 0, .int .i64 0, .int .i64 (ax : Int), .int .i64 (ay : Int)] 49) = W at *
  have HSG := Lib.hid (HS0.out.keep hK0)
  have s0 : W.cell? ⟨w.heap.size, 0, none⟩ = some (.slice a S.A.length ca) := b0.cell 0
  have s1 : W.cell? ⟨w.heap.size, 1, none⟩ = some (.slice f S.F.length cf) := b0.cell 1
  have s2 : W.cell? ⟨w.heap.size, 2, none⟩ = some (.slice c S.C.length cc) := b0.cell 2
  have n0 : W.cell? ⟨W0.heap.size, 0, none⟩ = some (.int .i64 7) := b1.cell 0
  have n1 : W.cell? ⟨W0.heap.size, 1, none⟩ = some (.int .i64 0) := b1.cell 1
  have n2 : W.cell? ⟨W0.heap.size, 2, none⟩ = some (.int .i64 0) := b1.cell 2
  have n3 : W.cell? ⟨W0.heap.size, 3, none⟩ = some (.int .i64 0) := b1.cell 3
  have n4 : W.cell? ⟨W0.heap.size, 4, none⟩ = some (.int .i64 (ax : Int)) := b1.cell 4
  have n5 : W.cell? ⟨W0.heap.size, 5, none⟩ = some (.int .i64 (ay : Int)) := b1.cell 5
  obtain ⟨-, -, tb', tu', he, ht0⟩ := (HT.out.kept hK0 fun _ _ h => h).str hl
  cases he
  obtain ⟨bl', off', he, _, _, y0, _, _, _, _, _⟩ := (HRD.out.kept hK0 fun _ _ h => h).nd hm
  cases he
  obtain ⟨-, -, tb', tu', he, ht1⟩ := (HT.out.kept hK0 fun _ _ h => h).str hk
  cases he
  obtain ⟨bl', off', he, _, _, v0, _, _, _, _, _⟩ := (HRD.out.kept hK0 fun _ _ h => h).nd hm'
  cases he
  clear b0 b1
  generalize txt l = tl at *
  generalize txt k = tk at *
  go_upto_region 23 with (first
    | (go_at_call 63; (with_reducible refine (HLV.out _).mono ?_); rintro e w1 ⟨rfl, hw⟩; obtain rfl := hw.symm))
  clear HLV
  have hz1 : ¬ 9223372036854775807 < e1b.size + sb.size := by omega
  have hz2 : ¬ 9223372036854775807 < e1b.size + sb.size + e2b.size := by omega
  go_quiet (first
    | (go_at_call 63; with_reducible exact Calls.quiet_of_same (HL1.out _))
    | (go_at_call 63; with_reducible exact Calls.quiet_of_same (HL2.out _))
    | (go_at_call 65; with_reducible exact Calls.quiet_of_same (HSN.out _))
    | (go_at_call 62; with_reducible exact Calls.quiet_of_same (HE1.out _))
    | (go_at_call 62; with_reducible exact Calls.quiet_of_same (HE2.out _)))
  all_goals
    go_wp2
    refine bodyPost_ret (v := .string ((e1b ++ sb) ++ e2b)) (by simp [results, Tryz.results34, go_sem]) rfl ?_
    exact ⟨by rw [HR.out], hK0.drewN _⟩
theorem rtext_8 (hS : SigR w S a ca f cf c cc) (hrd : Rd w (.slice A L.length c1) 6 L.length (fmC L)) (hL : L.length ≤ 200) (ht : Rd w (.slice T i cT) 1 tx.length (strs tx)) (hti : tx.length = i) {ax ay : Nat} (hn : L[i]? = some ⟨8, 0, 0, 0, (ax : Int), (ay : Int)⟩) (hax : ax < i) (hay : ay < i) {m m' : Nd} (hm : L[ax]? = some m) (hm' : L[ay]? = some m') {l k : List UInt8} (hl : tx[ax]? = some (txt l)) (hk : tx[ay]? = some (txt k)) (hl2 : l.length ≤ 4000) (hk2 : k.length ≤ 4000) :
    Calls Tryz.prog 34 #[.agg #[.slice a S.A.length ca, .slice f S.F.length cf, .slice c S.C.length cc], .slice A L.length c1, .slice T i cT, .int .i64 (i : Int)] w fun e w' => e = .returned (.string (txt (parL (lvO m.op) 0 l ++ (sgL 8 ++ parL (lvO m'.op) 1 k)))) ∧ Keep NoF w w' := by
  have hs1 : (txt (parL (lvO m.op) 0 l)).size ≤ 4002 := by rw [txt_size]; exact parL_len _ _ hl2
  have hs2 : (txt (parL (lvO m'.op) 1 k)).size ≤ 4002 := by rw [txt_size]; exact parL_len _ _ hk2
  have hs3 : (txt (sgL 8)).size ≤ 7 := by rw [txt_size]; decide
  have HR : Hid (txt (parL (lvO m.op) 0 l ++ (sgL 8 ++ parL (lvO m'.op) 1 k)) = (txt (parL (lvO m.op) 0 l) ++ txt (sgL 8)) ++ txt (parL (lvO m'.op) 1 k)) := Lib.hid (by
    rw [txt_app, txt_app, List.append_assoc])
  have HLV := Lib.hid fun W => rLevel_8 W
  have HSN := Lib.hid fun W => rsign_8 W
  have HL1 := Lib.hid fun W => rLevel_any m.op W
  have HL2 := Lib.hid fun W => rLevel_any m'.op W
  have HE1 : Hid (∀ W : World, Calls Tryz.prog 62 #[.string (txt l), .int .i64 (lvO m.op : Int), .int .i64 0] W fun e w' => e = .returned (.string (txt (parL (lvO m.op) 0 l))) ∧ w' = W) := Lib.hid fun W => renclosed_any l (lvO m.op) 0 W (by omega)
  have HE2 : Hid (∀ W : World, Calls Tryz.prog 62 #[.string (txt k), .int .i64 (lvO m'.op : Int), .int .i64 1] W fun e w' => e = .returned (.string (txt (parL (lvO m'.op) 1 k))) ∧ w' = W) := Lib.hid fun W => renclosed_any k (lvO m'.op) 1 W (by omega)
  generalize txt (parL (lvO m.op) 0 l) = e1b at *
  generalize txt (parL (lvO m'.op) 1 k) = e2b at *
  generalize txt (sgL 8) = sb at *
  generalize ((lvO m.op : Nat) : Int) = lv1 at *
  generalize ((lvO m'.op : Nat) : Int) = lv2 at *
  have hlt : i < L.length := (List.getElem?_eq_some_iff.1 hn).1
  obtain ⟨bl, off, rfl, _, hcap, -, -, -, -, -, -⟩ := hrd.nd hn
  have z1 : (0 : Int) ≤ (i : Int) := by omega
  have z2 : (i : Int) < (L.length : Int) := by omega
  have k0 : Keep NoF w (w.alloc (.cells #[.slice a S.A.length ca, .slice f S.F.length cf, .slice c S.C.length cc] 24)) := (Keep.refl _ _).alloc _
  have b0 : Bk (w.alloc (.cells #[.slice a S.A.length ca, .slice f S.F.length cf, .slice c S.C.length cc] 24)) w.heap.size 24 #[.slice a S.A.length ca, .slice f S.F.length cf, .slice c S.C.length cc] := Bk.new w _ _
  obtain ⟨-, hcT, tb, tu, rfl, -⟩ := ht.str hl
  have z3 : (0 : Int) ≤ (ax : Int) := by omega
  have z4 : (ax : Int) < (L.length : Int) := by omega
  have z5 : (ax : Int) < (i : Int) := by omega
  have z6 : (0 : Int) ≤ (ay : Int) := by omega
  have z7 : (ay : Int) < (L.length : Int) := by omega
  have z8 : (ay : Int) < (i : Int) := by omega
  have HS0 := Lib.hid hS
  have HRD := Lib.hid hrd
  have HT := Lib.hid ht
  have HN := Lib.hid hn
  clear hS hrd ht hn
  go_enter Tryz.func34, Tryz.ntmps34
  go_upto_region 1 with (fail)
  generalize w.alloc (.cells #[.slice a S.A.length ca, .slice f S.F.length cf, .slice c S.C.length cc] 24) = W0 at *
  obtain ⟨bl', off', he, _, _, x0, x1, x2, x3, x4, x5⟩ := (HRD.out.kept k0 fun _ _ h => h).nd HN.out
  cases he
  simp only at x0 x1 x2 x3 x4 x5
  have hK0 : Keep NoF w (W0.alloc (.cells #[.int .i64 8, .int .i64 0, .int .i64 0, .int .i64 0, .int .i64 (ax : Int), .int .i64 (ay : Int)] 49)) := k0.alloc _
  have b1 : Bk (W0.alloc (.cells #[.int .i64 8, .int .i64 0, .int .i64 0, .int .i64 0, .int .i64 (ax : Int), .int .i64 (ay : Int)] 49)) W0.heap.size 49 #[.int .i64 8, .int .i64 0, .int .i64 0, .int .i64 0, .int .i64 (ax : Int), .int .i64 (ay : Int)] := Bk.new W0 _ _
  have b0 := b0.alloc (.cells #[.int .i64 8, .int .i64 0, .int .i64 0, .int .i64 0, .int .i64 (ax : Int), .int .i64 (ay : Int)] 49)
  go_upto_region 2 with (fail)
  clear x0 x1 x2 x3 x4 x5
  generalize W0.alloc (.cells #[.int .i64 8, .int .i64 0, .int .i64 0, .int .i64 0, .int .i64 (ax : Int), .int .i64 (ay : Int)] 49) = W at *
  have HSG := Lib.hid (HS0.out.keep hK0)
  have s0 : W.cell? ⟨w.heap.size, 0, none⟩ = some (.slice a S.A.length ca) := b0.cell 0
  have s1 : W.cell? ⟨w.heap.size, 1, none⟩ = some (.slice f S.F.length cf) := b0.cell 1
  have s2 : W.cell? ⟨w.heap.size, 2, none⟩ = some (.slice c S.C.length cc) := b0.cell 2
  have n0 : W.cell? ⟨W0.heap.size, 0, none⟩ = some (.int .i64 8) := b1.cell 0
  have n1 : W.cell? ⟨W0.heap.size, 1, none⟩ = some (.int .i64 0) := b1.cell 1
  have n2 : W.cell? ⟨W0.heap.size, 2, none⟩ = some (.int .i64 0) := b1.cell 2
  have n3 : W.cell? ⟨W0.heap.size, 3, none⟩ = some (.int .i64 0) := b1.cell 3
  have n4 : W.cell? ⟨W0.heap.size, 4, none⟩ = some (.int .i64 (ax : Int)) := b1.cell 4
  have n5 : W.cell? ⟨W0.heap.size, 5, none⟩ = some (.int .i64 (ay : Int)) := b1.cell 5
  obtain ⟨-, -, tb', tu', he, ht0⟩ := (HT.out.kept hK0 fun _ _ h => h).str hl
  cases he
  obtain ⟨bl', off', he, _, _, y0, _, _, _, _, _⟩ := (HRD.out.kept hK0 fun _ _ h => h).nd hm
  cases he
  obtain ⟨-, -, tb', tu', he, ht1⟩ := (HT.out.kept hK0 fun _ _ h => h).str hk
  cases he
  obtain ⟨bl', off', he, _, _, v0, _, _, _, _, _⟩ := (HRD.out.kept hK0 fun _ _ h => h).nd hm'
  cases he
  clear b0 b1
  generalize txt l = tl at *
  generalize txt k = tk at *
  go_upto_region 23 with (first
    | (go_at_call 63; (with_reducible refine (HLV.out _).mono ?_); rintro e w1 ⟨rfl, hw⟩; obtain rfl := hw.symm))
  clear HLV
  have hz1 : ¬ 9223372036854775807 < e1b.size + sb.size := by omega
  have hz2 : ¬ 9223372036854775807 < e1b.size + sb.size + e2b.size := by omega
  go_quiet (first
    | (go_at_call 63; with_reducible exact Calls.quiet_of_same (HL1.out _))
    | (go_at_call 63; with_reducible exact Calls.quiet_of_same (HL2.out _))
    | (go_at_call 65; with_reducible exact Calls.quiet_of_same (HSN.out _))
    | (go_at_call 62; with_reducible exact Calls.quiet_of_same (HE1.out _))
    | (go_at_call 62; with_reducible exact Calls.quiet_of_same (HE2.out _)))
  all_goals
    go_wp2
    refine bodyPost_ret (v := .string ((e1b ++ sb) ++ e2b)) (by simp [results, Tryz.results34, go_sem]) rfl ?_
    exact ⟨by rw [HR.out], hK0.drewN _⟩
theorem rtext_19 (hS : SigR w S a ca f cf c cc) (hrd : Rd w (.slice A L.length c1) 6 L.length (fmC L)) (hL : L.length ≤ 200) (ht : Rd w (.slice T i cT) 1 tx.length (strs tx)) (hti : tx.length = i) {ax ay : Nat} (hn : L[i]? = some ⟨19, 0, 0, 0, (ax : Int), (ay : Int)⟩) (hax : ax < i) (hay : ay < i) {m m' : Nd} (hm : L[ax]? = some m) (hm' : L[ay]? = some m') {l k : List UInt8} (hl : tx[ax]? = some (txt l)) (hk : tx[ay]? = some (txt k)) (hl2 : l.length ≤ 4000) (hk2 : k.length ≤ 4000) :
    Calls Tryz.prog 34 #[.agg #[.slice a S.A.length ca, .slice f S.F.length cf, .slice c S.C.length cc], .slice A L.length c1, .slice T i cT, .int .i64 (i : Int)] w fun e w' => e = .returned (.string (txt (parL (lvO m.op) 3 l ++ (sgL 19 ++ parL (lvO m'.op) 2 k)))) ∧ Keep NoF w w' := by
  have hs1 : (txt (parL (lvO m.op) 3 l)).size ≤ 4002 := by rw [txt_size]; exact parL_len _ _ hl2
  have hs2 : (txt (parL (lvO m'.op) 2 k)).size ≤ 4002 := by rw [txt_size]; exact parL_len _ _ hk2
  have hs3 : (txt (sgL 19)).size ≤ 7 := by rw [txt_size]; decide
  have HR : Hid (txt (parL (lvO m.op) 3 l ++ (sgL 19 ++ parL (lvO m'.op) 2 k)) = (txt (parL (lvO m.op) 3 l) ++ txt (sgL 19)) ++ txt (parL (lvO m'.op) 2 k)) := Lib.hid (by
    rw [txt_app, txt_app, List.append_assoc])
  have HLV := Lib.hid fun W => rLevel_19 W
  have HSN := Lib.hid fun W => rsign_19 W
  have HL1 := Lib.hid fun W => rLevel_any m.op W
  have HL2 := Lib.hid fun W => rLevel_any m'.op W
  have HE1 : Hid (∀ W : World, Calls Tryz.prog 62 #[.string (txt l), .int .i64 (lvO m.op : Int), .int .i64 3] W fun e w' => e = .returned (.string (txt (parL (lvO m.op) 3 l))) ∧ w' = W) := Lib.hid fun W => renclosed_any l (lvO m.op) 3 W (by omega)
  have HE2 : Hid (∀ W : World, Calls Tryz.prog 62 #[.string (txt k), .int .i64 (lvO m'.op : Int), .int .i64 2] W fun e w' => e = .returned (.string (txt (parL (lvO m'.op) 2 k))) ∧ w' = W) := Lib.hid fun W => renclosed_any k (lvO m'.op) 2 W (by omega)
  generalize txt (parL (lvO m.op) 3 l) = e1b at *
  generalize txt (parL (lvO m'.op) 2 k) = e2b at *
  generalize txt (sgL 19) = sb at *
  generalize ((lvO m.op : Nat) : Int) = lv1 at *
  generalize ((lvO m'.op : Nat) : Int) = lv2 at *
  have hlt : i < L.length := (List.getElem?_eq_some_iff.1 hn).1
  obtain ⟨bl, off, rfl, _, hcap, -, -, -, -, -, -⟩ := hrd.nd hn
  have z1 : (0 : Int) ≤ (i : Int) := by omega
  have z2 : (i : Int) < (L.length : Int) := by omega
  have k0 : Keep NoF w (w.alloc (.cells #[.slice a S.A.length ca, .slice f S.F.length cf, .slice c S.C.length cc] 24)) := (Keep.refl _ _).alloc _
  have b0 : Bk (w.alloc (.cells #[.slice a S.A.length ca, .slice f S.F.length cf, .slice c S.C.length cc] 24)) w.heap.size 24 #[.slice a S.A.length ca, .slice f S.F.length cf, .slice c S.C.length cc] := Bk.new w _ _
  obtain ⟨-, hcT, tb, tu, rfl, -⟩ := ht.str hl
  have z3 : (0 : Int) ≤ (ax : Int) := by omega
  have z4 : (ax : Int) < (L.length : Int) := by omega
  have z5 : (ax : Int) < (i : Int) := by omega
  have z6 : (0 : Int) ≤ (ay : Int) := by omega
  have z7 : (ay : Int) < (L.length : Int) := by omega
  have z8 : (ay : Int) < (i : Int) := by omega
  have HS0 := Lib.hid hS
  have HRD := Lib.hid hrd
  have HT := Lib.hid ht
  have HN := Lib.hid hn
  clear hS hrd ht hn
  go_enter Tryz.func34, Tryz.ntmps34
  go_upto_region 1 with (fail)
  generalize w.alloc (.cells #[.slice a S.A.length ca, .slice f S.F.length cf, .slice c S.C.length cc] 24) = W0 at *
  obtain ⟨bl', off', he, _, _, x0, x1, x2, x3, x4, x5⟩ := (HRD.out.kept k0 fun _ _ h => h).nd HN.out
  cases he
  simp only at x0 x1 x2 x3 x4 x5
  have hK0 : Keep NoF w (W0.alloc (.cells #[.int .i64 19, .int .i64 0, .int .i64 0, .int .i64 0, .int .i64 (ax : Int), .int .i64 (ay : Int)] 49)) := k0.alloc _
  have b1 : Bk (W0.alloc (.cells #[.int .i64 19, .int .i64 0, .int .i64 0, .int .i64 0, .int .i64 (ax : Int), .int .i64 (ay : Int)] 49)) W0.heap.size 49 #[.int .i64 19, .int .i64 0, .int .i64 0, .int .i64 0, .int .i64 (ax : Int), .int .i64 (ay : Int)] := Bk.new W0 _ _
  have b0 := b0.alloc (.cells #[.int .i64 19, .int .i64 0, .int .i64 0, .int .i64 0, .int .i64 (ax : Int), .int .i64 (ay : Int)] 49)
  go_upto_region 2 with (fail)
  clear x0 x1 x2 x3 x4 x5
  generalize W0.alloc (.cells #[.int .i64 19, .int .i64 0, .int .i64 0, .int .i64 0, .int .i64 (ax : Int), .int .i64 (ay : Int)] 49) = W at *
  have HSG := Lib.hid (HS0.out.keep hK0)
  have s0 : W.cell? ⟨w.heap.size, 0, none⟩ = some (.slice a S.A.length ca) := b0.cell 0
  have s1 : W.cell? ⟨w.heap.size, 1, none⟩ = some (.slice f S.F.length cf) := b0.cell 1
  have s2 : W.cell? ⟨w.heap.size, 2, none⟩ = some (.slice c S.C.length cc) := b0.cell 2
  have n0 : W.cell? ⟨W0.heap.size, 0, none⟩ = some (.int .i64 19) := b1.cell 0
  have n1 : W.cell? ⟨W0.heap.size, 1, none⟩ = some (.int .i64 0) := b1.cell 1
  have n2 : W.cell? ⟨W0.heap.size, 2, none⟩ = some (.int .i64 0) := b1.cell 2
  have n3 : W.cell? ⟨W0.heap.size, 3, none⟩ = some (.int .i64 0) := b1.cell 3
  have n4 : W.cell? ⟨W0.heap.size, 4, none⟩ = some (.int .i64 (ax : Int)) := b1.cell 4
  have n5 : W.cell? ⟨W0.heap.size, 5, none⟩ = some (.int .i64 (ay : Int)) := b1.cell 5
  obtain ⟨-, -, tb', tu', he, ht0⟩ := (HT.out.kept hK0 fun _ _ h => h).str hl
  cases he
  obtain ⟨bl', off', he, _, _, y0, _, _, _, _, _⟩ := (HRD.out.kept hK0 fun _ _ h => h).nd hm
  cases he
  obtain ⟨-, -, tb', tu', he, ht1⟩ := (HT.out.kept hK0 fun _ _ h => h).str hk
  cases he
  obtain ⟨bl', off', he, _, _, v0, _, _, _, _, _⟩ := (HRD.out.kept hK0 fun _ _ h => h).nd hm'
  cases he
  clear b0 b1
  generalize txt l = tl at *
  generalize txt k = tk at *
  go_upto_region 23 with (first
    | (go_at_call 63; (with_reducible refine (HLV.out _).mono ?_); rintro e w1 ⟨rfl, hw⟩; obtain rfl := hw.symm))
  clear HLV
  have hz1 : ¬ 9223372036854775807 < e1b.size + sb.size := by omega
  have hz2 : ¬ 9223372036854775807 < e1b.size + sb.size + e2b.size := by omega
  go_quiet (first
    | (go_at_call 63; with_reducible exact Calls.quiet_of_same (HL1.out _))
    | (go_at_call 63; with_reducible exact Calls.quiet_of_same (HL2.out _))
    | (go_at_call 65; with_reducible exact Calls.quiet_of_same (HSN.out _))
    | (go_at_call 62; with_reducible exact Calls.quiet_of_same (HE1.out _))
    | (go_at_call 62; with_reducible exact Calls.quiet_of_same (HE2.out _)))
  all_goals
    go_wp2
    refine bodyPost_ret (v := .string ((e1b ++ sb) ++ e2b)) (by simp [results, Tryz.results34, go_sem]) rfl ?_
    exact ⟨by rw [HR.out], hK0.drewN _⟩
theorem rtext_21 (hS : SigR w S a ca f cf c cc) (hrd : Rd w (.slice A L.length c1) 6 L.length (fmC L)) (hL : L.length ≤ 200) (ht : Rd w (.slice T i cT) 1 tx.length (strs tx)) (hti : tx.length = i) {ax ay : Nat} (hn : L[i]? = some ⟨21, 0, 0, 0, (ax : Int), (ay : Int)⟩) (hax : ax < i) (hay : ay < i) {m m' : Nd} (hm : L[ax]? = some m) (hm' : L[ay]? = some m') {l k : List UInt8} (hl : tx[ax]? = some (txt l)) (hk : tx[ay]? = some (txt k)) (hl2 : l.length ≤ 4000) (hk2 : k.length ≤ 4000) :
    Calls Tryz.prog 34 #[.agg #[.slice a S.A.length ca, .slice f S.F.length cf, .slice c S.C.length cc], .slice A L.length c1, .slice T i cT, .int .i64 (i : Int)] w fun e w' => e = .returned (.string (txt (parL (lvO m.op) 3 l ++ (sgL 21 ++ parL (lvO m'.op) 2 k)))) ∧ Keep NoF w w' := by
  have hs1 : (txt (parL (lvO m.op) 3 l)).size ≤ 4002 := by rw [txt_size]; exact parL_len _ _ hl2
  have hs2 : (txt (parL (lvO m'.op) 2 k)).size ≤ 4002 := by rw [txt_size]; exact parL_len _ _ hk2
  have hs3 : (txt (sgL 21)).size ≤ 7 := by rw [txt_size]; decide
  have HR : Hid (txt (parL (lvO m.op) 3 l ++ (sgL 21 ++ parL (lvO m'.op) 2 k)) = (txt (parL (lvO m.op) 3 l) ++ txt (sgL 21)) ++ txt (parL (lvO m'.op) 2 k)) := Lib.hid (by
    rw [txt_app, txt_app, List.append_assoc])
  have HLV := Lib.hid fun W => rLevel_21 W
  have HSN := Lib.hid fun W => rsign_21 W
  have HL1 := Lib.hid fun W => rLevel_any m.op W
  have HL2 := Lib.hid fun W => rLevel_any m'.op W
  have HE1 : Hid (∀ W : World, Calls Tryz.prog 62 #[.string (txt l), .int .i64 (lvO m.op : Int), .int .i64 3] W fun e w' => e = .returned (.string (txt (parL (lvO m.op) 3 l))) ∧ w' = W) := Lib.hid fun W => renclosed_any l (lvO m.op) 3 W (by omega)
  have HE2 : Hid (∀ W : World, Calls Tryz.prog 62 #[.string (txt k), .int .i64 (lvO m'.op : Int), .int .i64 2] W fun e w' => e = .returned (.string (txt (parL (lvO m'.op) 2 k))) ∧ w' = W) := Lib.hid fun W => renclosed_any k (lvO m'.op) 2 W (by omega)
  generalize txt (parL (lvO m.op) 3 l) = e1b at *
  generalize txt (parL (lvO m'.op) 2 k) = e2b at *
  generalize txt (sgL 21) = sb at *
  generalize ((lvO m.op : Nat) : Int) = lv1 at *
  generalize ((lvO m'.op : Nat) : Int) = lv2 at *
  have hlt : i < L.length := (List.getElem?_eq_some_iff.1 hn).1
  obtain ⟨bl, off, rfl, _, hcap, -, -, -, -, -, -⟩ := hrd.nd hn
  have z1 : (0 : Int) ≤ (i : Int) := by omega
  have z2 : (i : Int) < (L.length : Int) := by omega
  have k0 : Keep NoF w (w.alloc (.cells #[.slice a S.A.length ca, .slice f S.F.length cf, .slice c S.C.length cc] 24)) := (Keep.refl _ _).alloc _
  have b0 : Bk (w.alloc (.cells #[.slice a S.A.length ca, .slice f S.F.length cf, .slice c S.C.length cc] 24)) w.heap.size 24 #[.slice a S.A.length ca, .slice f S.F.length cf, .slice c S.C.length cc] := Bk.new w _ _
  obtain ⟨-, hcT, tb, tu, rfl, -⟩ := ht.str hl
  have z3 : (0 : Int) ≤ (ax : Int) := by omega
  have z4 : (ax : Int) < (L.length : Int) := by omega
  have z5 : (ax : Int) < (i : Int) := by omega
  have z6 : (0 : Int) ≤ (ay : Int) := by omega
  have z7 : (ay : Int) < (L.length : Int) := by omega
  have z8 : (ay : Int) < (i : Int) := by omega
  have HS0 := Lib.hid hS
  have HRD := Lib.hid hrd
  have HT := Lib.hid ht
  have HN := Lib.hid hn
  clear hS hrd ht hn
  go_enter Tryz.func34, Tryz.ntmps34
  go_upto_region 1 with (fail)
  generalize w.alloc (.cells #[.slice a S.A.length ca, .slice f S.F.length cf, .slice c S.C.length cc] 24) = W0 at *
  obtain ⟨bl', off', he, _, _, x0, x1, x2, x3, x4, x5⟩ := (HRD.out.kept k0 fun _ _ h => h).nd HN.out
  cases he
  simp only at x0 x1 x2 x3 x4 x5
  have hK0 : Keep NoF w (W0.alloc (.cells #[.int .i64 21, .int .i64 0, .int .i64 0, .int .i64 0, .int .i64 (ax : Int), .int .i64 (ay : Int)] 49)) := k0.alloc _
  have b1 : Bk (W0.alloc (.cells #[.int .i64 21, .int .i64 0, .int .i64 0, .int .i64 0, .int .i64 (ax : Int), .int .i64 (ay : Int)] 49)) W0.heap.size 49 #[.int .i64 21, .int .i64 0, .int .i64 0, .int .i64 0, .int .i64 (ax : Int), .int .i64 (ay : Int)] := Bk.new W0 _ _
  have b0 := b0.alloc (.cells #[.int .i64 21, .int .i64 0, .int .i64 0, .int .i64 0, .int .i64 (ax : Int), .int .i64 (ay : Int)] 49)
  go_upto_region 2 with (fail)
  clear x0 x1 x2 x3 x4 x5
  generalize W0.alloc (.cells #[.int .i64 21, .int .i64 0, .int .i64 0, .int .i64 0, .int .i64 (ax : Int), .int .i64 (ay : Int)] 49) = W at *
  have HSG := Lib.hid (HS0.out.keep hK0)
  have s0 : W.cell? ⟨w.heap.size, 0, none⟩ = some (.slice a S.A.length ca) := b0.cell 0
  have s1 : W.cell? ⟨w.heap.size, 1, none⟩ = some (.slice f S.F.length cf) := b0.cell 1
  have s2 : W.cell? ⟨w.heap.size, 2, none⟩ = some (.slice c S.C.length cc) := b0.cell 2
  have n0 : W.cell? ⟨W0.heap.size, 0, none⟩ = some (.int .i64 21) := b1.cell 0
  have n1 : W.cell? ⟨W0.heap.size, 1, none⟩ = some (.int .i64 0) := b1.cell 1
  have n2 : W.cell? ⟨W0.heap.size, 2, none⟩ = some (.int .i64 0) := b1.cell 2
  have n3 : W.cell? ⟨W0.heap.size, 3, none⟩ = some (.int .i64 0) := b1.cell 3
  have n4 : W.cell? ⟨W0.heap.size, 4, none⟩ = some (.int .i64 (ax : Int)) := b1.cell 4
  have n5 : W.cell? ⟨W0.heap.size, 5, none⟩ = some (.int .i64 (ay : Int)) := b1.cell 5
  obtain ⟨-, -, tb', tu', he, ht0⟩ := (HT.out.kept hK0 fun _ _ h => h).str hl
  cases he
  obtain ⟨bl', off', he, _, _, y0, _, _, _, _, _⟩ := (HRD.out.kept hK0 fun _ _ h => h).nd hm
  cases he
  obtain ⟨-, -, tb', tu', he, ht1⟩ := (HT.out.kept hK0 fun _ _ h => h).str hk
  cases he
  obtain ⟨bl', off', he, _, _, v0, _, _, _, _, _⟩ := (HRD.out.kept hK0 fun _ _ h => h).nd hm'
  cases he
  clear b0 b1
  generalize txt l = tl at *
  generalize txt k = tk at *
  go_upto_region 23 with (first
    | (go_at_call 63; (with_reducible refine (HLV.out _).mono ?_); rintro e w1 ⟨rfl, hw⟩; obtain rfl := hw.symm))
  clear HLV
  have hz1 : ¬ 9223372036854775807 < e1b.size + sb.size := by omega
  have hz2 : ¬ 9223372036854775807 < e1b.size + sb.size + e2b.size := by omega
  go_quiet (first
    | (go_at_call 63; with_reducible exact Calls.quiet_of_same (HL1.out _))
    | (go_at_call 63; with_reducible exact Calls.quiet_of_same (HL2.out _))
    | (go_at_call 65; with_reducible exact Calls.quiet_of_same (HSN.out _))
    | (go_at_call 62; with_reducible exact Calls.quiet_of_same (HE1.out _))
    | (go_at_call 62; with_reducible exact Calls.quiet_of_same (HE2.out _)))
  all_goals
    go_wp2
    refine bodyPost_ret (v := .string ((e1b ++ sb) ++ e2b)) (by simp [results, Tryz.results34, go_sem]) rfl ?_
    exact ⟨by rw [HR.out], hK0.drewN _⟩
theorem rtext_13e (hS : SigR w S a ca f cf c cc) (hrd : Rd w (.slice A L.length c1) 6 L.length (fmC L)) (hL : L.length ≤ 200) (ht : Rd w (.slice T i cT) 1 tx.length (strs tx)) (hti : tx.length = i) {ng : Int} {ax ay : Nat} (hn : L[i]? = some ⟨13, 0, 0, ng, (ax : Int), (ay : Int)⟩) (hax : ax < i) (hay : ay < i) {m m' : Nd} (hm : L[ax]? = some m) (hm' : L[ay]? = some m') {l k : List UInt8} (hl : tx[ax]? = some (txt l)) (hk : tx[ay]? = some (txt k)) (hl2 : l.length ≤ 4000) (hk2 : k.length ≤ 4000) (hm1 : m.op = 1)
    {hd : List UInt8} (hhd : hd.length ≤ 5000) (HH : ∀ W, SigR W S a ca f cf c cc → Calls Tryz.prog 64 #[.agg #[.slice a S.A.length ca, .slice f S.F.length cf, .slice c S.C.length cc], .agg #[.int .i64 13, .int .i64 0, .int .i64 0, .int .i64 ng, .int .i64 (ax : Int), .int .i64 (ay : Int)], .string ⟨#[]⟩] W fun e w' => e = .returned (.string (txt hd)) ∧ Keep NoF W w') :
    Calls Tryz.prog 34 #[.agg #[.slice a S.A.length ca, .slice f S.F.length cf, .slice c S.C.length cc], .slice A L.length c1, .slice T i cT, .int .i64 (i : Int)] w fun e w' => e = .returned (.string (txt (hd ++ parL (lvO m'.op) 5 k))) ∧ Keep NoF w w' := by
  have hlt : i < L.length := (List.getElem?_eq_some_iff.1 hn).1
  obtain ⟨bl, off, rfl, _, hcap, -, -, -, -, -, -⟩ := hrd.nd hn
  have z1 : (0 : Int) ≤ (i : Int) := by omega
  have z2 : (i : Int) < (L.length : Int) := by omega
  have k0 : Keep NoF w (w.alloc (.cells #[.slice a S.A.length ca, .slice f S.F.length cf, .slice c S.C.length cc] 24)) := (Keep.refl _ _).alloc _
  have b0 : Bk (w.alloc (.cells #[.slice a S.A.length ca, .slice f S.F.length cf, .slice c S.C.length cc] 24)) w.heap.size 24 #[.slice a S.A.length ca, .slice f S.F.length cf, .slice c S.C.length cc] := Bk.new w _ _
  obtain ⟨-, hcT, tb, tu, rfl, -⟩ := ht.str hl
  have z3 : (0 : Int) ≤ (ax : Int) := by omega
  have z4 : (ax : Int) < (L.length : Int) := by omega
  have z5 : (ax : Int) < (i : Int) := by omega
  have z6 : (0 : Int) ≤ (ay : Int) := by omega
  have z7 : (ay : Int) < (L.length : Int) := by omega
  have z8 : (ay : Int) < (i : Int) := by omega
  have hs1 : (txt hd).size ≤ 5000 := by rw [txt_size]; exact hhd
  have hs2 : (txt (parL (lvO m'.op) 5 k)).size ≤ 4002 := by rw [txt_size]; exact parL_len _ _ hk2
  have HR : Hid (txt (hd ++ parL (lvO m'.op) 5 k) = txt hd ++ txt (parL (lvO m'.op) 5 k)) := Lib.hid (txt_app _ _).symm
  have hq1 : ¬ 9223372036854775807 < (txt hd).size + (txt (parL (lvO m'.op) 5 k)).size := by omega
  have HH := Lib.hid HH
  have HLM := Lib.hid fun W => rLevel_any m'.op W
  have HE : Hid (∀ W : World, Calls Tryz.prog 62 #[.string (txt k), .int .i64 (lvO m'.op : Int), .int .i64 5] W fun e w' => e = .returned (.string (txt (parL (lvO m'.op) 5 k))) ∧ w' = W) := Lib.hid fun W => renclosed_any k (lvO m'.op) 5 W (by omega)
  generalize txt (parL (lvO m'.op) 5 k) = eb at *
  generalize txt k = tk at *
  generalize txt hd = hb at *
  generalize ((lvO m'.op : Nat) : Int) = lv at *
  generalize txt l = tl at *
  have HS0 := Lib.hid hS
  have HRD := Lib.hid hrd
  have HT := Lib.hid ht
  have HN := Lib.hid hn
  clear hS hrd ht hn
  go_enter Tryz.func34, Tryz.ntmps34
  go_upto_region 1 with (fail)
  generalize w.alloc (.cells #[.slice a S.A.length ca, .slice f S.F.length cf, .slice c S.C.length cc] 24) = W0 at *
  obtain ⟨bl', off', he, _, _, x0, x1, x2, x3, x4, x5⟩ := (HRD.out.kept k0 fun _ _ h => h).nd HN.out
  cases he
  simp only at x0 x1 x2 x3 x4 x5
  have hK0 : Keep NoF w (W0.alloc (.cells #[.int .i64 13, .int .i64 0, .int .i64 0, .int .i64 ng, .int .i64 (ax : Int), .int .i64 (ay : Int)] 49)) := k0.alloc _
  have b1 : Bk (W0.alloc (.cells #[.int .i64 13, .int .i64 0, .int .i64 0, .int .i64 ng, .int .i64 (ax : Int), .int .i64 (ay : Int)] 49)) W0.heap.size 49 #[.int .i64 13, .int .i64 0, .int .i64 0, .int .i64 ng, .int .i64 (ax : Int), .int .i64 (ay : Int)] := Bk.new W0 _ _
  have b0 := b0.alloc (.cells #[.int .i64 13, .int .i64 0, .int .i64 0, .int .i64 ng, .int .i64 (ax : Int), .int .i64 (ay : Int)] 49)
  go_upto_region 2 with (fail)
  clear x0 x1 x2 x3 x4 x5
  generalize W0.alloc (.cells #[.int .i64 13, .int .i64 0, .int .i64 0, .int .i64 ng, .int .i64 (ax : Int), .int .i64 (ay : Int)] 49) = W at *
  have HSG := Lib.hid (HS0.out.keep hK0)
  have s0 : W.cell? ⟨w.heap.size, 0, none⟩ = some (.slice a S.A.length ca) := b0.cell 0
  have s1 : W.cell? ⟨w.heap.size, 1, none⟩ = some (.slice f S.F.length cf) := b0.cell 1
  have s2 : W.cell? ⟨w.heap.size, 2, none⟩ = some (.slice c S.C.length cc) := b0.cell 2
  have n0 : W.cell? ⟨W0.heap.size, 0, none⟩ = some (.int .i64 13) := b1.cell 0
  have n1 : W.cell? ⟨W0.heap.size, 1, none⟩ = some (.int .i64 0) := b1.cell 1
  have n2 : W.cell? ⟨W0.heap.size, 2, none⟩ = some (.int .i64 0) := b1.cell 2
  have n3 : W.cell? ⟨W0.heap.size, 3, none⟩ = some (.int .i64 ng) := b1.cell 3
  have n4 : W.cell? ⟨W0.heap.size, 4, none⟩ = some (.int .i64 (ax : Int)) := b1.cell 4
  have n5 : W.cell? ⟨W0.heap.size, 5, none⟩ = some (.int .i64 (ay : Int)) := b1.cell 5
  obtain ⟨-, -, tb', tu', he, ht0⟩ := (HT.out.kept hK0 fun _ _ h => h).str hl
  cases he
  obtain ⟨bl', off', he, _, _, y0, _, _, _, _, _⟩ := (HRD.out.kept hK0 fun _ _ h => h).nd hm
  cases he
  obtain ⟨-, -, tb', tu', he, ht1⟩ := (HT.out.kept hK0 fun _ _ h => h).str hk
  cases he
  obtain ⟨bl', off', he, _, _, v0, _, _, _, _, _⟩ := (HRD.out.kept hK0 fun _ _ h => h).nd hm'
  cases he
  clear b0 b1
  rw [hm1] at y0
  go_upto_region 16 with (fail)
  have ds0 : W.drew.cell? ⟨w.heap.size, 0, none⟩ = some (.slice a S.A.length ca) := s0
  have ds1 : W.drew.cell? ⟨w.heap.size, 1, none⟩ = some (.slice f S.F.length cf) := s1
  have ds2 : W.drew.cell? ⟨w.heap.size, 2, none⟩ = some (.slice c S.C.length cc) := s2
  have dn0 : W.drew.cell? ⟨W0.heap.size, 0, none⟩ = some (.int .i64 13) := n0
  have dn1 : W.drew.cell? ⟨W0.heap.size, 1, none⟩ = some (.int .i64 0) := n1
  have dn2 : W.drew.cell? ⟨W0.heap.size, 2, none⟩ = some (.int .i64 0) := n2
  have dn3 : W.drew.cell? ⟨W0.heap.size, 3, none⟩ = some (.int .i64 ng) := n3
  have dn4 : W.drew.cell? ⟨W0.heap.size, 4, none⟩ = some (.int .i64 (ax : Int)) := n4
  have dn5 : W.drew.cell? ⟨W0.heap.size, 5, none⟩ = some (.int .i64 (ay : Int)) := n5
  have dht1 : W.drew.cell? ⟨tb, tu + ay, none⟩ = some (.string tk) := ht1
  have dv0 : W.drew.cell? ⟨bl, off + ay * 6, none⟩ = some (.int .i64 m'.op) := v0
  have HHD := Lib.hid (HH.out W.drew (HSG.out.keep (Keep.refl NoF W).drew))
  go_region_held3 (fun w' => w'.cell? ⟨w.heap.size, 0, none⟩ = some (.slice a S.A.length ca) ∧ w'.cell? ⟨w.heap.size, 1, none⟩ = some (.slice f S.F.length cf) ∧ w'.cell? ⟨w.heap.size, 2, none⟩ = some (.slice c S.C.length cc) ∧ w'.cell? ⟨W0.heap.size, 0, none⟩ = some (.int .i64 13) ∧ w'.cell? ⟨W0.heap.size, 1, none⟩ = some (.int .i64 0) ∧ w'.cell? ⟨W0.heap.size, 2, none⟩ = some (.int .i64 0) ∧ w'.cell? ⟨W0.heap.size, 3, none⟩ = some (.int .i64 ng) ∧ w'.cell? ⟨W0.heap.size, 4, none⟩ = some (.int .i64 (ax : Int)) ∧ w'.cell? ⟨W0.heap.size, 5, none⟩ = some (.int .i64 (ay : Int)) ∧ w'.cell? ⟨tb, tu + ay, none⟩ = some (.string tk) ∧ w'.cell? ⟨bl, off + ay * 6, none⟩ = some (.int .i64 m'.op))
    (first | with_reducible exact ⟨ds0, ds1, ds2, dn0, dn1, dn2, dn3, dn4, dn5, dht1, dv0⟩ | with_reducible exact ⟨es0, es1, es2, en0, en1, en2, en3, en4, en5, eht1, ev0⟩)
    (first
      | (go_at_call 64
         (with_reducible refine HHD.out.mono ?_)
         rintro e w3 ⟨rfl, k3⟩
         have es0 : w3.cell? ⟨w.heap.size, 0, none⟩ = some (.slice a S.A.length ca) := k3.cellv ds0 fun h => h
         have es1 : w3.cell? ⟨w.heap.size, 1, none⟩ = some (.slice f S.F.length cf) := k3.cellv ds1 fun h => h
         have es2 : w3.cell? ⟨w.heap.size, 2, none⟩ = some (.slice c S.C.length cc) := k3.cellv ds2 fun h => h
         have en0 : w3.cell? ⟨W0.heap.size, 0, none⟩ = some (.int .i64 13) := k3.cellv dn0 fun h => h
         have en1 : w3.cell? ⟨W0.heap.size, 1, none⟩ = some (.int .i64 0) := k3.cellv dn1 fun h => h
         have en2 : w3.cell? ⟨W0.heap.size, 2, none⟩ = some (.int .i64 0) := k3.cellv dn2 fun h => h
         have en3 : w3.cell? ⟨W0.heap.size, 3, none⟩ = some (.int .i64 ng) := k3.cellv dn3 fun h => h
         have en4 : w3.cell? ⟨W0.heap.size, 4, none⟩ = some (.int .i64 (ax : Int)) := k3.cellv dn4 fun h => h
         have en5 : w3.cell? ⟨W0.heap.size, 5, none⟩ = some (.int .i64 (ay : Int)) := k3.cellv dn5 fun h => h
         have eht1 : w3.cell? ⟨tb, tu + ay, none⟩ = some (.string tk) := k3.cellv dht1 fun h => h
         have ev0 : w3.cell? ⟨bl, off + ay * 6, none⟩ = some (.int .i64 m'.op) := k3.cellv dv0 fun h => h)
      | (go_at_call 63; (with_reducible refine (HLM.out _).mono ?_); rintro e w4 ⟨rfl, hw⟩; obtain rfl := hw.symm)
      | (go_at_call 62; (with_reducible refine (HE.out _).mono ?_); rintro e w5 ⟨rfl, hw⟩; obtain rfl := hw.symm))
  all_goals
    go_wp2
    refine bodyPost_ret (v := .string (hb ++ eb)) (by simp [results, Tryz.results34, go_sem]) rfl ?_
    exact ⟨by rw [HR.out], (hK0.drew).trans k3 fun _ _ h => h⟩
theorem rtext_13 (hS : SigR w S a ca f cf c cc) (hrd : Rd w (.slice A L.length c1) 6 L.length (fmC L)) (hL : L.length ≤ 200) (ht : Rd w (.slice T i cT) 1 tx.length (strs tx)) (hti : tx.length = i) {ng : Int} {ax ay : Nat} (hn : L[i]? = some ⟨13, 0, 0, ng, (ax : Int), (ay : Int)⟩) (hax : ax < i) (hay : ay < i) {m m' : Nd} (hm : L[ax]? = some m) (hm' : L[ay]? = some m') {l k : List UInt8} (hl : tx[ax]? = some (txt l)) (hk : tx[ay]? = some (txt k)) (hl2 : l.length ≤ 4000) (hk2 : k.length ≤ 4000) (hm1 : m.op ≠ 1)
    {hd : List UInt8} (hhd : hd.length ≤ 5000) (HH : ∀ W, SigR W S a ca f cf c cc → Calls Tryz.prog 64 #[.agg #[.slice a S.A.length ca, .slice f S.F.length cf, .slice c S.C.length cc], .agg #[.int .i64 13, .int .i64 0, .int .i64 0, .int .i64 ng, .int .i64 (ax : Int), .int .i64 (ay : Int)], .string (txt l)] W fun e w' => e = .returned (.string (txt hd)) ∧ Keep NoF W w') :
    Calls Tryz.prog 34 #[.agg #[.slice a S.A.length ca, .slice f S.F.length cf, .slice c S.C.length cc], .slice A L.length c1, .slice T i cT, .int .i64 (i : Int)] w fun e w' => e = .returned (.string (txt (hd ++ parL (lvO m'.op) 5 k))) ∧ Keep NoF w w' := by
  have hlt : i < L.length := (List.getElem?_eq_some_iff.1 hn).1
  obtain ⟨bl, off, rfl, _, hcap, -, -, -, -, -, -⟩ := hrd.nd hn
  have z1 : (0 : Int) ≤ (i : Int) := by omega
  have z2 : (i : Int) < (L.length : Int) := by omega
  have k0 : Keep NoF w (w.alloc (.cells #[.slice a S.A.length ca, .slice f S.F.length cf, .slice c S.C.length cc] 24)) := (Keep.refl _ _).alloc _
  have b0 : Bk (w.alloc (.cells #[.slice a S.A.length ca, .slice f S.F.length cf, .slice c S.C.length cc] 24)) w.heap.size 24 #[.slice a S.A.length ca, .slice f S.F.length cf, .slice c S.C.length cc] := Bk.new w _ _
  obtain ⟨-, hcT, tb, tu, rfl, -⟩ := ht.str hl
  have z3 : (0 : Int) ≤ (ax : Int) := by omega
  have z4 : (ax : Int) < (L.length : Int) := by omega
  have z5 : (ax : Int) < (i : Int) := by omega
  have z6 : (0 : Int) ≤ (ay : Int) := by omega
  have z7 : (ay : Int) < (L.length : Int) := by omega
  have z8 : (ay : Int) < (i : Int) := by omega
  have hs1 : (txt hd).size ≤ 5000 := by rw [txt_size]; exact hhd
  have hs2 : (txt (parL (lvO m'.op) 5 k)).size ≤ 4002 := by rw [txt_size]; exact parL_len _ _ hk2
  have HR : Hid (txt (hd ++ parL (lvO m'.op) 5 k) = txt hd ++ txt (parL (lvO m'.op) 5 k)) := Lib.hid (txt_app _ _).symm
  have hq1 : ¬ 9223372036854775807 < (txt hd).size + (txt (parL (lvO m'.op) 5 k)).size := by omega
  have HH := Lib.hid HH
  have HLM := Lib.hid fun W => rLevel_any m'.op W
  have HE : Hid (∀ W : World, Calls Tryz.prog 62 #[.string (txt k), .int .i64 (lvO m'.op : Int), .int .i64 5] W fun e w' => e = .returned (.string (txt (parL (lvO m'.op) 5 k))) ∧ w' = W) := Lib.hid fun W => renclosed_any k (lvO m'.op) 5 W (by omega)
  generalize txt (parL (lvO m'.op) 5 k) = eb at *
  generalize txt k = tk at *
  generalize txt hd = hb at *
  generalize ((lvO m'.op : Nat) : Int) = lv at *
  generalize txt l = tl at *
  have em : (m.op == 1) = false := by simpa using hm1
  have HS0 := Lib.hid hS
  have HRD := Lib.hid hrd
  have HT := Lib.hid ht
  have HN := Lib.hid hn
  clear hS hrd ht hn
  go_enter Tryz.func34, Tryz.ntmps34
  go_upto_region 1 with (fail)
  generalize w.alloc (.cells #[.slice a S.A.length ca, .slice f S.F.length cf, .slice c S.C.length cc] 24) = W0 at *
  obtain ⟨bl', off', he, _, _, x0, x1, x2, x3, x4, x5⟩ := (HRD.out.kept k0 fun _ _ h => h).nd HN.out
  cases he
  simp only at x0 x1 x2 x3 x4 x5
  have hK0 : Keep NoF w (W0.alloc (.cells #[.int .i64 13, .int .i64 0, .int .i64 0, .int .i64 ng, .int .i64 (ax : Int), .int .i64 (ay : Int)] 49)) := k0.alloc _
  have b1 : Bk (W0.alloc (.cells #[.int .i64 13, .int .i64 0, .int .i64 0, .int .i64 ng, .int .i64 (ax : Int), .int .i64 (ay : Int)] 49)) W0.heap.size 49 #[.int .i64 13, .int .i64 0, .int .i64 0, .int .i64 ng, .int .i64 (ax : Int), .int .i64 (ay : Int)] := Bk.new W0 _ _
  have b0 := b0.alloc (.cells #[.int .i64 13, .int .i64 0, .int .i64 0, .int .i64 ng, .int .i64 (ax : Int), .int .i64 (ay : Int)] 49)
  go_upto_region 2 with (fail)
  clear x0 x1 x2 x3 x4 x5
  generalize W0.alloc (.cells #[.int .i64 13, .int .i64 0, .int .i64 0, .int .i64 ng, .int .i64 (ax : Int), .int .i64 (ay : Int)] 49) = W at *
  have HSG := Lib.hid (HS0.out.keep hK0)
  have s0 : W.cell? ⟨w.heap.size, 0, none⟩ = some (.slice a S.A.length ca) := b0.cell 0
  have s1 : W.cell? ⟨w.heap.size, 1, none⟩ = some (.slice f S.F.length cf) := b0.cell 1
  have s2 : W.cell? ⟨w.heap.size, 2, none⟩ = some (.slice c S.C.length cc) := b0.cell 2
  have n0 : W.cell? ⟨W0.heap.size, 0, none⟩ = some (.int .i64 13) := b1.cell 0
  have n1 : W.cell? ⟨W0.heap.size, 1, none⟩ = some (.int .i64 0) := b1.cell 1
  have n2 : W.cell? ⟨W0.heap.size, 2, none⟩ = some (.int .i64 0) := b1.cell 2
  have n3 : W.cell? ⟨W0.heap.size, 3, none⟩ = some (.int .i64 ng) := b1.cell 3
  have n4 : W.cell? ⟨W0.heap.size, 4, none⟩ = some (.int .i64 (ax : Int)) := b1.cell 4
  have n5 : W.cell? ⟨W0.heap.size, 5, none⟩ = some (.int .i64 (ay : Int)) := b1.cell 5
  obtain ⟨-, -, tb', tu', he, ht0⟩ := (HT.out.kept hK0 fun _ _ h => h).str hl
  cases he
  obtain ⟨bl', off', he, _, _, y0, _, _, _, _, _⟩ := (HRD.out.kept hK0 fun _ _ h => h).nd hm
  cases he
  obtain ⟨-, -, tb', tu', he, ht1⟩ := (HT.out.kept hK0 fun _ _ h => h).str hk
  cases he
  obtain ⟨bl', off', he, _, _, v0, _, _, _, _, _⟩ := (HRD.out.kept hK0 fun _ _ h => h).nd hm'
  cases he
  clear b0 b1
  go_upto_region 16 with (fail)
  have ds0 : W.drew.cell? ⟨w.heap.size, 0, none⟩ = some (.slice a S.A.length ca) := s0
  have ds1 : W.drew.cell? ⟨w.heap.size, 1, none⟩ = some (.slice f S.F.length cf) := s1
  have ds2 : W.drew.cell? ⟨w.heap.size, 2, none⟩ = some (.slice c S.C.length cc) := s2
  have dn0 : W.drew.cell? ⟨W0.heap.size, 0, none⟩ = some (.int .i64 13) := n0
  have dn1 : W.drew.cell? ⟨W0.heap.size, 1, none⟩ = some (.int .i64 0) := n1
  have dn2 : W.drew.cell? ⟨W0.heap.size, 2, none⟩ = some (.int .i64 0) := n2
  have dn3 : W.drew.cell? ⟨W0.heap.size, 3, none⟩ = some (.int .i64 ng) := n3
  have dn4 : W.drew.cell? ⟨W0.heap.size, 4, none⟩ = some (.int .i64 (ax : Int)) := n4
  have dn5 : W.drew.cell? ⟨W0.heap.size, 5, none⟩ = some (.int .i64 (ay : Int)) := n5
  have dht1 : W.drew.cell? ⟨tb, tu + ay, none⟩ = some (.string tk) := ht1
  have dv0 : W.drew.cell? ⟨bl, off + ay * 6, none⟩ = some (.int .i64 m'.op) := v0
  have HHD := Lib.hid (HH.out W.drew (HSG.out.keep (Keep.refl NoF W).drew))
  go_region_held3 (fun w' => w'.cell? ⟨w.heap.size, 0, none⟩ = some (.slice a S.A.length ca) ∧ w'.cell? ⟨w.heap.size, 1, none⟩ = some (.slice f S.F.length cf) ∧ w'.cell? ⟨w.heap.size, 2, none⟩ = some (.slice c S.C.length cc) ∧ w'.cell? ⟨W0.heap.size, 0, none⟩ = some (.int .i64 13) ∧ w'.cell? ⟨W0.heap.size, 1, none⟩ = some (.int .i64 0) ∧ w'.cell? ⟨W0.heap.size, 2, none⟩ = some (.int .i64 0) ∧ w'.cell? ⟨W0.heap.size, 3, none⟩ = some (.int .i64 ng) ∧ w'.cell? ⟨W0.heap.size, 4, none⟩ = some (.int .i64 (ax : Int)) ∧ w'.cell? ⟨W0.heap.size, 5, none⟩ = some (.int .i64 (ay : Int)) ∧ w'.cell? ⟨tb, tu + ay, none⟩ = some (.string tk) ∧ w'.cell? ⟨bl, off + ay * 6, none⟩ = some (.int .i64 m'.op))
    (first | with_reducible exact ⟨ds0, ds1, ds2, dn0, dn1, dn2, dn3, dn4, dn5, dht1, dv0⟩ | with_reducible exact ⟨es0, es1, es2, en0, en1, en2, en3, en4, en5, eht1, ev0⟩)
    (first
      | (go_at_call 64
         (with_reducible refine HHD.out.mono ?_)
         rintro e w3 ⟨rfl, k3⟩
         have es0 : w3.cell? ⟨w.heap.size, 0, none⟩ = some (.slice a S.A.length ca) := k3.cellv ds0 fun h => h
         have es1 : w3.cell? ⟨w.heap.size, 1, none⟩ = some (.slice f S.F.length cf) := k3.cellv ds1 fun h => h
         have es2 : w3.cell? ⟨w.heap.size, 2, none⟩ = some (.slice c S.C.length cc) := k3.cellv ds2 fun h => h
         have en0 : w3.cell? ⟨W0.heap.size, 0, none⟩ = some (.int .i64 13) := k3.cellv dn0 fun h => h
         have en1 : w3.cell? ⟨W0.heap.size, 1, none⟩ = some (.int .i64 0) := k3.cellv dn1 fun h => h
         have en2 : w3.cell? ⟨W0.heap.size, 2, none⟩ = some (.int .i64 0) := k3.cellv dn2 fun h => h
         have en3 : w3.cell? ⟨W0.heap.size, 3, none⟩ = some (.int .i64 ng) := k3.cellv dn3 fun h => h
         have en4 : w3.cell? ⟨W0.heap.size, 4, none⟩ = some (.int .i64 (ax : Int)) := k3.cellv dn4 fun h => h
         have en5 : w3.cell? ⟨W0.heap.size, 5, none⟩ = some (.int .i64 (ay : Int)) := k3.cellv dn5 fun h => h
         have eht1 : w3.cell? ⟨tb, tu + ay, none⟩ = some (.string tk) := k3.cellv dht1 fun h => h
         have ev0 : w3.cell? ⟨bl, off + ay * 6, none⟩ = some (.int .i64 m'.op) := k3.cellv dv0 fun h => h)
      | (go_at_call 63; (with_reducible refine (HLM.out _).mono ?_); rintro e w4 ⟨rfl, hw⟩; obtain rfl := hw.symm)
      | (go_at_call 62; (with_reducible refine (HE.out _).mono ?_); rintro e w5 ⟨rfl, hw⟩; obtain rfl := hw.symm))
  all_goals
    go_wp2
    refine bodyPost_ret (v := .string (hb ++ eb)) (by simp [results, Tryz.results34, go_sem]) rfl ?_
    exact ⟨by rw [HR.out], (hK0.drew).trans k3 fun _ _ h => h⟩
theorem rtext_14e (hS : SigR w S a ca f cf c cc) (hrd : Rd w (.slice A L.length c1) 6 L.length (fmC L)) (hL : L.length ≤ 200) (ht : Rd w (.slice T i cT) 1 tx.length (strs tx)) (hti : tx.length = i) {ni : Int} {ax ay : Nat} (hn : L[i]? = some ⟨14, ni, 0, 0, (ax : Int), (ay : Int)⟩) (hax : ax < i) (hay : ay < i) {m m' : Nd} (hm : L[ax]? = some m) (hm' : L[ay]? = some m') {l k : List UInt8} (hl : tx[ax]? = some (txt l)) (hk : tx[ay]? = some (txt k)) (hl2 : l.length ≤ 4000) (hk2 : k.length ≤ 4000) (hm1 : m.op = 1)
    {hd : List UInt8} (hhd : hd.length ≤ 5000) (HH : ∀ W, SigR W S a ca f cf c cc → Calls Tryz.prog 64 #[.agg #[.slice a S.A.length ca, .slice f S.F.length cf, .slice c S.C.length cc], .agg #[.int .i64 14, .int .i64 ni, .int .i64 0, .int .i64 0, .int .i64 (ax : Int), .int .i64 (ay : Int)], .string ⟨#[]⟩] W fun e w' => e = .returned (.string (txt hd)) ∧ Keep NoF W w') :
    Calls Tryz.prog 34 #[.agg #[.slice a S.A.length ca, .slice f S.F.length cf, .slice c S.C.length cc], .slice A L.length c1, .slice T i cT, .int .i64 (i : Int)] w fun e w' => e = .returned (.string (txt (hd ++ parL (lvO m'.op) 5 k))) ∧ Keep NoF w w' := by
  have hlt : i < L.length := (List.getElem?_eq_some_iff.1 hn).1
  obtain ⟨bl, off, rfl, _, hcap, -, -, -, -, -, -⟩ := hrd.nd hn
  have z1 : (0 : Int) ≤ (i : Int) := by omega
  have z2 : (i : Int) < (L.length : Int) := by omega
  have k0 : Keep NoF w (w.alloc (.cells #[.slice a S.A.length ca, .slice f S.F.length cf, .slice c S.C.length cc] 24)) := (Keep.refl _ _).alloc _
  have b0 : Bk (w.alloc (.cells #[.slice a S.A.length ca, .slice f S.F.length cf, .slice c S.C.length cc] 24)) w.heap.size 24 #[.slice a S.A.length ca, .slice f S.F.length cf, .slice c S.C.length cc] := Bk.new w _ _
  obtain ⟨-, hcT, tb, tu, rfl, -⟩ := ht.str hl
  have z3 : (0 : Int) ≤ (ax : Int) := by omega
  have z4 : (ax : Int) < (L.length : Int) := by omega
  have z5 : (ax : Int) < (i : Int) := by omega
  have z6 : (0 : Int) ≤ (ay : Int) := by omega
  have z7 : (ay : Int) < (L.length : Int) := by omega
  have z8 : (ay : Int) < (i : Int) := by omega
  have hs1 : (txt hd).size ≤ 5000 := by rw [txt_size]; exact hhd
  have hs2 : (txt (parL (lvO m'.op) 5 k)).size ≤ 4002 := by rw [txt_size]; exact parL_len _ _ hk2
  have HR : Hid (txt (hd ++ parL (lvO m'.op) 5 k) = txt hd ++ txt (parL (lvO m'.op) 5 k)) := Lib.hid (txt_app _ _).symm
  have hq1 : ¬ 9223372036854775807 < (txt hd).size + (txt (parL (lvO m'.op) 5 k)).size := by omega
  have HH := Lib.hid HH
  have HLM := Lib.hid fun W => rLevel_any m'.op W
  have HE : Hid (∀ W : World, Calls Tryz.prog 62 #[.string (txt k), .int .i64 (lvO m'.op : Int), .int .i64 5] W fun e w' => e = .returned (.string (txt (parL (lvO m'.op) 5 k))) ∧ w' = W) := Lib.hid fun W => renclosed_any k (lvO m'.op) 5 W (by omega)
  generalize txt (parL (lvO m'.op) 5 k) = eb at *
  generalize txt k = tk at *
  generalize txt hd = hb at *
  generalize ((lvO m'.op : Nat) : Int) = lv at *
  generalize txt l = tl at *
  have HS0 := Lib.hid hS
  have HRD := Lib.hid hrd
  have HT := Lib.hid ht
  have HN := Lib.hid hn
  clear hS hrd ht hn
  go_enter Tryz.func34, Tryz.ntmps34
  go_upto_region 1 with (fail)
  generalize w.alloc (.cells #[.slice a S.A.length ca, .slice f S.F.length cf, .slice c S.C.length cc] 24) = W0 at *
  obtain ⟨bl', off', he, _, _, x0, x1, x2, x3, x4, x5⟩ := (HRD.out.kept k0 fun _ _ h => h).nd HN.out
  cases he
  simp only at x0 x1 x2 x3 x4 x5
  have hK0 : Keep NoF w (W0.alloc (.cells #[.int .i64 14, .int .i64 ni, .int .i64 0, .int .i64 0, .int .i64 (ax : Int), .int .i64 (ay : Int)] 49)) := k0.alloc _
  have b1 : Bk (W0.alloc (.cells #[.int .i64 14, .int .i64 ni, .int .i64 0, .int .i64 0, .int .i64 (ax : Int), .int .i64 (ay : Int)] 49)) W0.heap.size 49 #[.int .i64 14, .int .i64 ni, .int .i64 0, .int .i64 0, .int .i64 (ax : Int), .int .i64 (ay : Int)] := Bk.new W0 _ _
  have b0 := b0.alloc (.cells #[.int .i64 14, .int .i64 ni, .int .i64 0, .int .i64 0, .int .i64 (ax : Int), .int .i64 (ay : Int)] 49)
  go_upto_region 2 with (fail)
  clear x0 x1 x2 x3 x4 x5
  generalize W0.alloc (.cells #[.int .i64 14, .int .i64 ni, .int .i64 0, .int .i64 0, .int .i64 (ax : Int), .int .i64 (ay : Int)] 49) = W at *
  have HSG := Lib.hid (HS0.out.keep hK0)
  have s0 : W.cell? ⟨w.heap.size, 0, none⟩ = some (.slice a S.A.length ca) := b0.cell 0
  have s1 : W.cell? ⟨w.heap.size, 1, none⟩ = some (.slice f S.F.length cf) := b0.cell 1
  have s2 : W.cell? ⟨w.heap.size, 2, none⟩ = some (.slice c S.C.length cc) := b0.cell 2
  have n0 : W.cell? ⟨W0.heap.size, 0, none⟩ = some (.int .i64 14) := b1.cell 0
  have n1 : W.cell? ⟨W0.heap.size, 1, none⟩ = some (.int .i64 ni) := b1.cell 1
  have n2 : W.cell? ⟨W0.heap.size, 2, none⟩ = some (.int .i64 0) := b1.cell 2
  have n3 : W.cell? ⟨W0.heap.size, 3, none⟩ = some (.int .i64 0) := b1.cell 3
  have n4 : W.cell? ⟨W0.heap.size, 4, none⟩ = some (.int .i64 (ax : Int)) := b1.cell 4
  have n5 : W.cell? ⟨W0.heap.size, 5, none⟩ = some (.int .i64 (ay : Int)) := b1.cell 5
  obtain ⟨-, -, tb', tu', he, ht0⟩ := (HT.out.kept hK0 fun _ _ h => h).str hl
  cases he
  obtain ⟨bl', off', he, _, _, y0, _, _, _, _, _⟩ := (HRD.out.kept hK0 fun _ _ h => h).nd hm
  cases he
  obtain ⟨-, -, tb', tu', he, ht1⟩ := (HT.out.kept hK0 fun _ _ h => h).str hk
  cases he
  obtain ⟨bl', off', he, _, _, v0, _, _, _, _, _⟩ := (HRD.out.kept hK0 fun _ _ h => h).nd hm'
  cases he
  clear b0 b1
  rw [hm1] at y0
  go_upto_region 16 with (fail)
  have ds0 : W.drew.cell? ⟨w.heap.size, 0, none⟩ = some (.slice a S.A.length ca) := s0
  have ds1 : W.drew.cell? ⟨w.heap.size, 1, none⟩ = some (.slice f S.F.length cf) := s1
  have ds2 : W.drew.cell? ⟨w.heap.size, 2, none⟩ = some (.slice c S.C.length cc) := s2
  have dn0 : W.drew.cell? ⟨W0.heap.size, 0, none⟩ = some (.int .i64 14) := n0
  have dn1 : W.drew.cell? ⟨W0.heap.size, 1, none⟩ = some (.int .i64 ni) := n1
  have dn2 : W.drew.cell? ⟨W0.heap.size, 2, none⟩ = some (.int .i64 0) := n2
  have dn3 : W.drew.cell? ⟨W0.heap.size, 3, none⟩ = some (.int .i64 0) := n3
  have dn4 : W.drew.cell? ⟨W0.heap.size, 4, none⟩ = some (.int .i64 (ax : Int)) := n4
  have dn5 : W.drew.cell? ⟨W0.heap.size, 5, none⟩ = some (.int .i64 (ay : Int)) := n5
  have dht1 : W.drew.cell? ⟨tb, tu + ay, none⟩ = some (.string tk) := ht1
  have dv0 : W.drew.cell? ⟨bl, off + ay * 6, none⟩ = some (.int .i64 m'.op) := v0
  have HHD := Lib.hid (HH.out W.drew (HSG.out.keep (Keep.refl NoF W).drew))
  go_region_held3 (fun w' => w'.cell? ⟨w.heap.size, 0, none⟩ = some (.slice a S.A.length ca) ∧ w'.cell? ⟨w.heap.size, 1, none⟩ = some (.slice f S.F.length cf) ∧ w'.cell? ⟨w.heap.size, 2, none⟩ = some (.slice c S.C.length cc) ∧ w'.cell? ⟨W0.heap.size, 0, none⟩ = some (.int .i64 14) ∧ w'.cell? ⟨W0.heap.size, 1, none⟩ = some (.int .i64 ni) ∧ w'.cell? ⟨W0.heap.size, 2, none⟩ = some (.int .i64 0) ∧ w'.cell? ⟨W0.heap.size, 3, none⟩ = some (.int .i64 0) ∧ w'.cell? ⟨W0.heap.size, 4, none⟩ = some (.int .i64 (ax : Int)) ∧ w'.cell? ⟨W0.heap.size, 5, none⟩ = some (.int .i64 (ay : Int)) ∧ w'.cell? ⟨tb, tu + ay, none⟩ = some (.string tk) ∧ w'.cell? ⟨bl, off + ay * 6, none⟩ = some (.int .i64 m'.op))
    (first | with_reducible exact ⟨ds0, ds1, ds2, dn0, dn1, dn2, dn3, dn4, dn5, dht1, dv0⟩ | with_reducible exact ⟨es0, es1, es2, en0, en1, en2, en3, en4, en5, eht1, ev0⟩)
    (first
      | (go_at_call 64
         (with_reducible refine HHD.out.mono ?_)
         rintro e w3 ⟨rfl, k3⟩
         have es0 : w3.cell? ⟨w.heap.size, 0, none⟩ = some (.slice a S.A.length ca) := k3.cellv ds0 fun h => h
         have es1 : w3.cell? ⟨w.heap.size, 1, none⟩ = some (.slice f S.F.length cf) := k3.cellv ds1 fun h => h
         have es2 : w3.cell? ⟨w.heap.size, 2, none⟩ = some (.slice c S.C.length cc) := k3.cellv ds2 fun h => h
         have en0 : w3.cell? ⟨W0.heap.size, 0, none⟩ = some (.int .i64 14) := k3.cellv dn0 fun h => h
         have en1 : w3.cell? ⟨W0.heap.size, 1, none⟩ = some (.int .i64 ni) := k3.cellv dn1 fun h => h
         have en2 : w3.cell? ⟨W0.heap.size, 2, none⟩ = some (.int .i64 0) := k3.cellv dn2 fun h => h
         have en3 : w3.cell? ⟨W0.heap.size, 3, none⟩ = some (.int .i64 0) := k3.cellv dn3 fun h => h
         have en4 : w3.cell? ⟨W0.heap.size, 4, none⟩ = some (.int .i64 (ax : Int)) := k3.cellv dn4 fun h => h
         have en5 : w3.cell? ⟨W0.heap.size, 5, none⟩ = some (.int .i64 (ay : Int)) := k3.cellv dn5 fun h => h
         have eht1 : w3.cell? ⟨tb, tu + ay, none⟩ = some (.string tk) := k3.cellv dht1 fun h => h
         have ev0 : w3.cell? ⟨bl, off + ay * 6, none⟩ = some (.int .i64 m'.op) := k3.cellv dv0 fun h => h)
      | (go_at_call 63; (with_reducible refine (HLM.out _).mono ?_); rintro e w4 ⟨rfl, hw⟩; obtain rfl := hw.symm)
      | (go_at_call 62; (with_reducible refine (HE.out _).mono ?_); rintro e w5 ⟨rfl, hw⟩; obtain rfl := hw.symm))
  all_goals
    go_wp2
    refine bodyPost_ret (v := .string (hb ++ eb)) (by simp [results, Tryz.results34, go_sem]) rfl ?_
    exact ⟨by rw [HR.out], (hK0.drew).trans k3 fun _ _ h => h⟩
theorem rtext_14 (hS : SigR w S a ca f cf c cc) (hrd : Rd w (.slice A L.length c1) 6 L.length (fmC L)) (hL : L.length ≤ 200) (ht : Rd w (.slice T i cT) 1 tx.length (strs tx)) (hti : tx.length = i) {ni : Int} {ax ay : Nat} (hn : L[i]? = some ⟨14, ni, 0, 0, (ax : Int), (ay : Int)⟩) (hax : ax < i) (hay : ay < i) {m m' : Nd} (hm : L[ax]? = some m) (hm' : L[ay]? = some m') {l k : List UInt8} (hl : tx[ax]? = some (txt l)) (hk : tx[ay]? = some (txt k)) (hl2 : l.length ≤ 4000) (hk2 : k.length ≤ 4000) (hm1 : m.op ≠ 1)
    {hd : List UInt8} (hhd : hd.length ≤ 5000) (HH : ∀ W, SigR W S a ca f cf c cc → Calls Tryz.prog 64 #[.agg #[.slice a S.A.length ca, .slice f S.F.length cf, .slice c S.C.length cc], .agg #[.int .i64 14, .int .i64 ni, .int .i64 0, .int .i64 0, .int .i64 (ax : Int), .int .i64 (ay : Int)], .string (txt l)] W fun e w' => e = .returned (.string (txt hd)) ∧ Keep NoF W w') :
    Calls Tryz.prog 34 #[.agg #[.slice a S.A.length ca, .slice f S.F.length cf, .slice c S.C.length cc], .slice A L.length c1, .slice T i cT, .int .i64 (i : Int)] w fun e w' => e = .returned (.string (txt (hd ++ parL (lvO m'.op) 5 k))) ∧ Keep NoF w w' := by
  have hlt : i < L.length := (List.getElem?_eq_some_iff.1 hn).1
  obtain ⟨bl, off, rfl, _, hcap, -, -, -, -, -, -⟩ := hrd.nd hn
  have z1 : (0 : Int) ≤ (i : Int) := by omega
  have z2 : (i : Int) < (L.length : Int) := by omega
  have k0 : Keep NoF w (w.alloc (.cells #[.slice a S.A.length ca, .slice f S.F.length cf, .slice c S.C.length cc] 24)) := (Keep.refl _ _).alloc _
  have b0 : Bk (w.alloc (.cells #[.slice a S.A.length ca, .slice f S.F.length cf, .slice c S.C.length cc] 24)) w.heap.size 24 #[.slice a S.A.length ca, .slice f S.F.length cf, .slice c S.C.length cc] := Bk.new w _ _
  obtain ⟨-, hcT, tb, tu, rfl, -⟩ := ht.str hl
  have z3 : (0 : Int) ≤ (ax : Int) := by omega
  have z4 : (ax : Int) < (L.length : Int) := by omega
  have z5 : (ax : Int) < (i : Int) := by omega
  have z6 : (0 : Int) ≤ (ay : Int) := by omega
  have z7 : (ay : Int) < (L.length : Int) := by omega
  have z8 : (ay : Int) < (i : Int) := by omega
  have hs1 : (txt hd).size ≤ 5000 := by rw [txt_size]; exact hhd
  have hs2 : (txt (parL (lvO m'.op) 5 k)).size ≤ 4002 := by rw [txt_size]; exact parL_len _ _ hk2
  have HR : Hid (txt (hd ++ parL (lvO m'.op) 5 k) = txt hd ++ txt (parL (lvO m'.op) 5 k)) := Lib.hid (txt_app _ _).symm
  have hq1 : ¬ 9223372036854775807 < (txt hd).size + (txt (parL (lvO m'.op) 5 k)).size := by omega
  have HH := Lib.hid HH
  have HLM := Lib.hid fun W => rLevel_any m'.op W
  have HE : Hid (∀ W : World, Calls Tryz.prog 62 #[.string (txt k), .int .i64 (lvO m'.op : Int), .int .i64 5] W fun e w' => e = .returned (.string (txt (parL (lvO m'.op) 5 k))) ∧ w' = W) := Lib.hid fun W => renclosed_any k (lvO m'.op) 5 W (by omega)
  generalize txt (parL (lvO m'.op) 5 k) = eb at *
  generalize txt k = tk at *
  generalize txt hd = hb at *
  generalize ((lvO m'.op : Nat) : Int) = lv at *
  generalize txt l = tl at *
  have em : (m.op == 1) = false := by simpa using hm1
  have HS0 := Lib.hid hS
  have HRD := Lib.hid hrd
  have HT := Lib.hid ht
  have HN := Lib.hid hn
  clear hS hrd ht hn
  go_enter Tryz.func34, Tryz.ntmps34
  go_upto_region 1 with (fail)
  generalize w.alloc (.cells #[.slice a S.A.length ca, .slice f S.F.length cf, .slice c S.C.length cc] 24) = W0 at *
  obtain ⟨bl', off', he, _, _, x0, x1, x2, x3, x4, x5⟩ := (HRD.out.kept k0 fun _ _ h => h).nd HN.out
  cases he
  simp only at x0 x1 x2 x3 x4 x5
  have hK0 : Keep NoF w (W0.alloc (.cells #[.int .i64 14, .int .i64 ni, .int .i64 0, .int .i64 0, .int .i64 (ax : Int), .int .i64 (ay : Int)] 49)) := k0.alloc _
  have b1 : Bk (W0.alloc (.cells #[.int .i64 14, .int .i64 ni, .int .i64 0, .int .i64 0, .int .i64 (ax : Int), .int .i64 (ay : Int)] 49)) W0.heap.size 49 #[.int .i64 14, .int .i64 ni, .int .i64 0, .int .i64 0, .int .i64 (ax : Int), .int .i64 (ay : Int)] := Bk.new W0 _ _
  have b0 := b0.alloc (.cells #[.int .i64 14, .int .i64 ni, .int .i64 0, .int .i64 0, .int .i64 (ax : Int), .int .i64 (ay : Int)] 49)
  go_upto_region 2 with (fail)
  clear x0 x1 x2 x3 x4 x5
  generalize W0.alloc (.cells #[.int .i64 14, .int .i64 ni, .int .i64 0, .int .i64 0, .int .i64 (ax : Int), .int .i64 (ay : Int)] 49) = W at *
  have HSG := Lib.hid (HS0.out.keep hK0)
  have s0 : W.cell? ⟨w.heap.size, 0, none⟩ = some (.slice a S.A.length ca) := b0.cell 0
  have s1 : W.cell? ⟨w.heap.size, 1, none⟩ = some (.slice f S.F.length cf) := b0.cell 1
  have s2 : W.cell? ⟨w.heap.size, 2, none⟩ = some (.slice c S.C.length cc) := b0.cell 2
  have n0 : W.cell? ⟨W0.heap.size, 0, none⟩ = some (.int .i64 14) := b1.cell 0
  have n1 : W.cell? ⟨W0.heap.size, 1, none⟩ = some (.int .i64 ni) := b1.cell 1
  have n2 : W.cell? ⟨W0.heap.size, 2, none⟩ = some (.int .i64 0) := b1.cell 2
  have n3 : W.cell? ⟨W0.heap.size, 3, none⟩ = some (.int .i64 0) := b1.cell 3
  have n4 : W.cell? ⟨W0.heap.size, 4, none⟩ = some (.int .i64 (ax : Int)) := b1.cell 4
  have n5 : W.cell? ⟨W0.heap.size, 5, none⟩ = some (.int .i64 (ay : Int)) := b1.cell 5
  obtain ⟨-, -, tb', tu', he, ht0⟩ := (HT.out.kept hK0 fun _ _ h => h).str hl
  cases he
  obtain ⟨bl', off', he, _, _, y0, _, _, _, _, _⟩ := (HRD.out.kept hK0 fun _ _ h => h).nd hm
  cases he
  obtain ⟨-, -, tb', tu', he, ht1⟩ := (HT.out.kept hK0 fun _ _ h => h).str hk
  cases he
  obtain ⟨bl', off', he, _, _, v0, _, _, _, _, _⟩ := (HRD.out.kept hK0 fun _ _ h => h).nd hm'
  cases he
  clear b0 b1
  go_upto_region 16 with (fail)
  have ds0 : W.drew.cell? ⟨w.heap.size, 0, none⟩ = some (.slice a S.A.length ca) := s0
  have ds1 : W.drew.cell? ⟨w.heap.size, 1, none⟩ = some (.slice f S.F.length cf) := s1
  have ds2 : W.drew.cell? ⟨w.heap.size, 2, none⟩ = some (.slice c S.C.length cc) := s2
  have dn0 : W.drew.cell? ⟨W0.heap.size, 0, none⟩ = some (.int .i64 14) := n0
  have dn1 : W.drew.cell? ⟨W0.heap.size, 1, none⟩ = some (.int .i64 ni) := n1
  have dn2 : W.drew.cell? ⟨W0.heap.size, 2, none⟩ = some (.int .i64 0) := n2
  have dn3 : W.drew.cell? ⟨W0.heap.size, 3, none⟩ = some (.int .i64 0) := n3
  have dn4 : W.drew.cell? ⟨W0.heap.size, 4, none⟩ = some (.int .i64 (ax : Int)) := n4
  have dn5 : W.drew.cell? ⟨W0.heap.size, 5, none⟩ = some (.int .i64 (ay : Int)) := n5
  have dht1 : W.drew.cell? ⟨tb, tu + ay, none⟩ = some (.string tk) := ht1
  have dv0 : W.drew.cell? ⟨bl, off + ay * 6, none⟩ = some (.int .i64 m'.op) := v0
  have HHD := Lib.hid (HH.out W.drew (HSG.out.keep (Keep.refl NoF W).drew))
  go_region_held3 (fun w' => w'.cell? ⟨w.heap.size, 0, none⟩ = some (.slice a S.A.length ca) ∧ w'.cell? ⟨w.heap.size, 1, none⟩ = some (.slice f S.F.length cf) ∧ w'.cell? ⟨w.heap.size, 2, none⟩ = some (.slice c S.C.length cc) ∧ w'.cell? ⟨W0.heap.size, 0, none⟩ = some (.int .i64 14) ∧ w'.cell? ⟨W0.heap.size, 1, none⟩ = some (.int .i64 ni) ∧ w'.cell? ⟨W0.heap.size, 2, none⟩ = some (.int .i64 0) ∧ w'.cell? ⟨W0.heap.size, 3, none⟩ = some (.int .i64 0) ∧ w'.cell? ⟨W0.heap.size, 4, none⟩ = some (.int .i64 (ax : Int)) ∧ w'.cell? ⟨W0.heap.size, 5, none⟩ = some (.int .i64 (ay : Int)) ∧ w'.cell? ⟨tb, tu + ay, none⟩ = some (.string tk) ∧ w'.cell? ⟨bl, off + ay * 6, none⟩ = some (.int .i64 m'.op))
    (first | with_reducible exact ⟨ds0, ds1, ds2, dn0, dn1, dn2, dn3, dn4, dn5, dht1, dv0⟩ | with_reducible exact ⟨es0, es1, es2, en0, en1, en2, en3, en4, en5, eht1, ev0⟩)
    (first
      | (go_at_call 64
         (with_reducible refine HHD.out.mono ?_)
         rintro e w3 ⟨rfl, k3⟩
         have es0 : w3.cell? ⟨w.heap.size, 0, none⟩ = some (.slice a S.A.length ca) := k3.cellv ds0 fun h => h
         have es1 : w3.cell? ⟨w.heap.size, 1, none⟩ = some (.slice f S.F.length cf) := k3.cellv ds1 fun h => h
         have es2 : w3.cell? ⟨w.heap.size, 2, none⟩ = some (.slice c S.C.length cc) := k3.cellv ds2 fun h => h
         have en0 : w3.cell? ⟨W0.heap.size, 0, none⟩ = some (.int .i64 14) := k3.cellv dn0 fun h => h
         have en1 : w3.cell? ⟨W0.heap.size, 1, none⟩ = some (.int .i64 ni) := k3.cellv dn1 fun h => h
         have en2 : w3.cell? ⟨W0.heap.size, 2, none⟩ = some (.int .i64 0) := k3.cellv dn2 fun h => h
         have en3 : w3.cell? ⟨W0.heap.size, 3, none⟩ = some (.int .i64 0) := k3.cellv dn3 fun h => h
         have en4 : w3.cell? ⟨W0.heap.size, 4, none⟩ = some (.int .i64 (ax : Int)) := k3.cellv dn4 fun h => h
         have en5 : w3.cell? ⟨W0.heap.size, 5, none⟩ = some (.int .i64 (ay : Int)) := k3.cellv dn5 fun h => h
         have eht1 : w3.cell? ⟨tb, tu + ay, none⟩ = some (.string tk) := k3.cellv dht1 fun h => h
         have ev0 : w3.cell? ⟨bl, off + ay * 6, none⟩ = some (.int .i64 m'.op) := k3.cellv dv0 fun h => h)
      | (go_at_call 63; (with_reducible refine (HLM.out _).mono ?_); rintro e w4 ⟨rfl, hw⟩; obtain rfl := hw.symm)
      | (go_at_call 62; (with_reducible refine (HE.out _).mono ?_); rintro e w5 ⟨rfl, hw⟩; obtain rfl := hw.symm))
  all_goals
    go_wp2
    refine bodyPost_ret (v := .string (hb ++ eb)) (by simp [results, Tryz.results34, go_sem]) rfl ?_
    exact ⟨by rw [HR.out], (hK0.drew).trans k3 fun _ _ h => h⟩
end
end Go.Proofs.YtbidfbojealmlaaGreatDoor
