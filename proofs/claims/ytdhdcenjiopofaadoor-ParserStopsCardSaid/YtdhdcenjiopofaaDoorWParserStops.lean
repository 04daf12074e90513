/- The law ParserStops answers true. Conditions: the variables lie as they are read. -/
import Derived.Test.YtdhdcenjiopofaaDoorPc7
import Derived.Test.YtdhdcenjiopofaaDoorWParserJoins
set_option linter.unusedVariables false
set_option linter.unusedSimpArgs false
namespace Go.Proofs.YtdhdcenjiopofaaDoor
open Go.RowKit
open Fm (Nd cl)
section
set_option maxRecDepth 100000
set_option maxHeartbeats 4000000
theorem stops_big (s0 s1 : ByteArray) (w : World) (hT : Tab w) (h : 300 < s0.size ∨ (¬ 300 < s0.size ∧ 300 < s1.size)) : Calls Tryd.prog 5 #[.string s0, .string s1] w fun e w' => e = .returned (.bool true) ∧ Keep NoF w w' := by
  have HT := Lib.hid hT
  clear hT
  rcases h with h | ⟨h, h'⟩
  all_goals
    go_enter Tryd.func5, Tryd.ntmps5
    go_wp2_with (first
      | (go_at_call 17; (with_reducible refine (example_any w).mono ?_); rintro e w1 ⟨a, f, c, rfl, S1, K1⟩; have X1 : Keep NoF w (w1.alloc (.cells #[.slice a 2 2, .slice f 3 3, .slice c 1 1] 31)) := K1.alloc _)
      | (go_at_call 8; (with_reducible refine (awake_any _ (HT.out.keep0 X1)).mono ?_); rintro e w5 ⟨rfl, K5⟩))
    refine bodyPost_ret (v := .bool true) (by simp [results, Tryd.results5, go_sem]) rfl ?_
    exact ⟨rfl, X1.trans K5 fun _ _ h => h⟩
theorem rd_at {w : World} {cs : Tk} {B : Option Addr} {d : Nat} (h : Rd w (.slice B cs.length d) 1 cs.length (tA cs)) {k : Nat} {c : Nat × List UInt8} (hk : cs[k]? = some c) : cs.length ≤ d ∧ ∃ bl off, B = some ⟨bl, off, none⟩ ∧ w.cell? ⟨bl, off + k, none⟩ = some (.int .i64 (c.1 : Int)) := by
  have hlt := (List.getElem?_eq_some_iff.1 hk).1
  obtain ⟨_, hc, bl, off, he, hcell⟩ := h.at_ (by omega)
  exact ⟨hc, bl, off, he, hcell _ _ (by unfold tA; rw [List.getElem?_map, hk]; rfl)⟩
theorem rd_wd {w : World} {cs : Tk} {B : Option Addr} {d : Nat} (h : Rd w (.slice B cs.length d) 1 cs.length (strs (tW cs))) {k : Nat} {c : Nat × List UInt8} (hk : cs[k]? = some c) : cs.length ≤ d ∧ ∃ bl off, B = some ⟨bl, off, none⟩ ∧ w.cell? ⟨bl, off + k, none⟩ = some (.string (txt c.2)) := by
  have hlt := (List.getElem?_eq_some_iff.1 hk).1
  obtain ⟨_, hc, bl, off, he, hcell⟩ := h.at_ (by omega)
  exact ⟨hc, bl, off, he, hcell _ _ (by unfold strs tW; rw [List.getElem?_map, List.getElem?_map, hk]; rfl)⟩
theorem walk_ParserStops (s0 s1 : ByteArray) (w : World) (hT : Tab w) : Calls Tryd.prog 5 #[.string s0, .string s1] w fun e w' => e = .returned (.bool true) ∧ Keep NoF w w' := by
  by_cases hb : 300 < s0.size ∨ (¬ 300 < s0.size ∧ 300 < s1.size)
  · exact stops_big s0 s1 w hT hb
  · have h0 : s0.size ≤ 300 := by omega
    have h1 : s1.size ≤ 300 := by omega
    obtain ⟨⟨f1, p, x⟩, q1⟩ : ∃ r, parseF SE s0 = r := ⟨_, rfl⟩
    have HT := Lib.hid hT
    have HP1 := Lib.hid q1
    clear hT q1 hb
    go_enter Tryd.func5, Tryd.ntmps5
    go_upto_region 7 with (first
      | (go_at_call 17
         (with_reducible refine (example_any w).mono ?_)
         rintro e w1 ⟨a, f, c, rfl, S1, K1⟩
         have HS1 := Lib.hid S1
         have X0 : Keep NoF w1 (w1.alloc (.cells #[.slice a 2 2, .slice f 3 3, .slice c 1 1] 31)) := (Keep.refl _ _).alloc _
         have HTK := Lib.hid (Tokens_any s0 (by omega) (w1.alloc (.cells #[.slice a 2 2, .slice f 3 3, .slice c 1 1] 31)))
         clear S1)
      | (go_at_call 9; (with_reducible refine HTK.out.mono ?_); rintro e w2 ⟨cs, A2, a2, B2, b2, y, yx, rfl, R2, Q2, K2, T2⟩; have HTK2 := Lib.hid (Tokens_any s1 (by omega) w2))
      | (go_at_call 9
         (with_reducible refine HTK2.out.mono ?_)
         rintro e w3 ⟨ds, A3, a3, B3, b3, z, zx, rfl, R3, Q3, K3, T3⟩
         have B03 : Keep NoF (w1.alloc (.cells #[.slice a 2 2, .slice f 3 3, .slice c 1 1] 31)) w3 := K2.trans K3 fun _ _ h => h
         obtain ⟨c0, c1, c2, z1⟩ := box3 B03
         have X3 : Keep NoF w1 w3 := X0.trans B03 fun _ _ h => h
         have HP1' := Lib.hid (parse_SE HP1.out (HS1.out.keep X3) (HT.out.keep0 (K1.trans X3 fun _ _ h => h)) (by omega)))
      | (go_at_call 14; (with_reducible refine HP1'.out.mono ?_); rintro e w4 ⟨A4, a4, rfl, R4, K4⟩))
    have B04 : Keep NoF (w1.alloc (.cells #[.slice a 2 2, .slice f 3 3, .slice c 1 1] 31)) w4 := B03.trans K4 fun _ _ h => h
    have X4 : Keep NoF w1 w4 := X3.trans K4 fun _ _ h => h
    have k4 : Keep NoF w w4 := K1.trans X4 fun _ _ h => h
    have HRW := Lib.hid (R2.kept (K3.trans K4 fun _ _ h => h) fun _ _ h => h)
    have HRA := Lib.hid (Q2.kept (K3.trans K4 fun _ _ h => h) fun _ _ h => h)
    have HT2 := Lib.hid T2
    have HT3 := Lib.hid T3
    have HBX := Lib.hid (fun W (hk : Keep NoF (w1.alloc (.cells #[.slice a 2 2, .slice f 3 3, .slice c 1 1] 31)) W) => box3 hk)
    clear c0 c1 c2 R2 Q2 R3 Q3 R4 T2 T3
    by_cases hy : yx ≠ 0
    · have hy' : (yx != 0) = true := by simpa using hy
      clear hy
      go_wp2_with (go_at_call 8; (with_reducible refine (awake_any w4 (HT.out.keep0 k4)).mono ?_); rintro e w5 ⟨rfl, K5⟩)
      refine bodyPost_ret (v := .bool true) (by simp [results, Tryd.results5, go_sem]) rfl ?_
      exact ⟨rfl, k4.trans K5 fun _ _ h => h⟩
    · obtain rfl : yx = 0 := by omega
      by_cases hz : zx ≠ 0
      · have hz' : (zx != 0) = true := by simpa using hz
        clear hz hy
        go_wp2_with (go_at_call 8; (with_reducible refine (awake_any w4 (HT.out.keep0 k4)).mono ?_); rintro e w5 ⟨rfl, K5⟩)
        refine bodyPost_ret (v := .bool true) (by simp [results, Tryd.results5, go_sem]) rfl ?_
        exact ⟨rfl, k4.trans K5 fun _ _ h => h⟩
      · obtain rfl : zx = 0 := by omega
        have htk : tokF s0 = .ok cs := by have := HT2.out.tokF; rwa [if_pos rfl] at this
        have htm : tokF s1 = .ok ds := by have := HT3.out.tokF; rwa [if_pos rfl] at this
        have hcl := (tokens_facts (tokF_wrds htk).2.2).2
        have hdl := (tokens_facts (tokF_wrds htm).2.2).2
        rw [data_len] at hcl hdl
        have hc300 : ((cs.length : Nat) : Int) ≤ 300 := by omega
        have hd300 : ((ds.length : Nat) : Int) ≤ 300 := by omega
        by_cases hx : x = 4 ∨ x = 5
        · have HLAW := Lib.hid (stops_law h0 h1 htk htm HP1.out hx)
          clear htk htm hy hz
          rcases HLAW.out with ⟨hp, hx4, hne⟩ | ⟨i0, cc, hc0, hp, hle, huq, g, hpg⟩
          · subst hp hx4
            have HNE := Lib.hid hne
            clear hne hx HLAW
            go_wp2
            go_loopw [86] (fun iv wr => ∃ k : Nat, iv = .int .i64 (k : Int) ∧ k ≤ cs.length ∧ wr = w4) (fun iv _ => cs.length - (intOf iv).toNat)
            case atStart => exact ⟨0, rfl, by omega, by trivial⟩
            case round =>
              obtain ⟨k, rfl, hk, hw⟩ := hrel
              obtain rfl := hw.symm; clear hw
              by_cases hlt : k < cs.length
              · have hck : cs[k]? = some cs[k] := List.getElem?_eq_getElem hlt
                obtain ⟨hcap, bl, off, rfl, hcell⟩ := rd_at HRA.out hck
                have hnek := HNE.out k _ hck
                clear hck
                generalize cs[k] = ck at *
                have hkk : (k : Int) < (cs.length : Int) := by omega
                have hk0 : (0 : Int) ≤ (k : Int) := by omega
                have hne1 : ((ck.1 : Int) != (s0.size : Int)) = true := by simpa using hnek
                clear hnek
                go_wp2
                go_roundw
                case rel => exact ⟨k + 1, by go_num, by omega, by trivial⟩
                case measure => simp only [intOf]; omega
              · have hkk : ¬ (k : Int) < (cs.length : Int) := by omega
                have hss : ((s0.size : Int) == (s0.size : Int)) = true := by simp
                go_wp2_with (go_at_call 8; (with_reducible refine (awake_any w4 (HT.out.keep0 k4)).mono ?_); rintro e w5 ⟨rfl, K5⟩)
                refine bodyPost_ret (v := .bool true) (by simp [results, Tryd.results5, go_sem]) rfl ?_
                exact ⟨rfl, k4.trans K5 fun _ _ h => h⟩
          · subst hp
            have HUQ := Lib.hid huq
            have HC0 := Lib.hid hc0
            have HPG := Lib.hid hpg
            clear huq hc0 hpg HLAW
            have hx4 : ((x != 4) && (x != 5)) = false := by rcases hx with rfl | rfl <;> rfl
            have hxx : (x == x) = true := by simp
            have hpp : ((cc.1 : Int) == (cc.1 : Int)) = true := by simp
            rcases hx with rfl | rfl
            all_goals
              clear hx4
              go_wp2
              go_loopw [86] (fun iv wr => ∃ k : Nat, iv = .int .i64 (k : Int) ∧ k ≤ cs.length ∧ k ≤ i0 ∧ wr = w4) (fun iv _ => cs.length - (intOf iv).toNat)
              case atStart => exact ⟨0, rfl, by omega, by omega, by trivial⟩
              case round =>
                obtain ⟨k, rfl, hk, hki, hw⟩ := hrel
                obtain rfl := hw.symm; clear hw
                have hi0 := (List.getElem?_eq_some_iff.1 HC0.out).1
                have hlt : k < cs.length := by omega
                have hck : cs[k]? = some cs[k] := List.getElem?_eq_getElem hlt
                obtain ⟨hcap, bl, off, rfl, hcell⟩ := rd_at HRA.out hck
                obtain ⟨hcap2, bm, ofm, rfl, hcellw⟩ := rd_wd HRW.out hck
                have HCK := Lib.hid hck
                clear hck
                generalize cs[k] = ck at *
                have hkk : (k : Int) < (cs.length : Int) := by omega
                have hk0 : (0 : Int) ≤ (k : Int) := by omega
                by_cases hpe : (ck.1 : Int) = (cc.1 : Int)
                · have hki0 : k = i0 := HUQ.out k ck HCK.out hpe
                  obtain rfl : ck = cc := by
                    have a1 := HCK.out
                    rw [hki0, HC0.out] at a1
                    exact (Option.some.inj a1).symm
                  have hsz : (txt ck.2).size = ck.2.length := txt_size _
                  have HG : Hid (parseF SE (((s0.extract 0 (ck.1 + (txt ck.2).size)) ++ ⟨#[32]⟩) ++ s1) = (g, (ck.1 : Int), _)) := Lib.hid (by rw [hsz]; exact HPG.out)
                  have hle2 : ck.1 + (txt ck.2).size ≤ s0.size := by omega
                  have HSS : Hid ((((s0.extract 0 (ck.1 + (txt ck.2).size)) ++ ⟨#[32]⟩) ++ s1).size ≤ 9223372036854775807) := Lib.hid (by
                    rw [← data_len]
                    simp [Lib.extract_data, data_len]
                    omega)
                  have hes : (s0.extract 0 (ck.1 + (txt ck.2).size)).size ≤ 300 := by
                    rw [← data_len]
                    simp [Lib.extract_data, data_len]
                    omega
                  clear hpe hki0 hsz HUQ
                  generalize hwd : txt ck.2 = wd at *
                  have hnn : ((ck.1 : Int) != (ck.1 : Int)) = false := by simp
                  have hp0 : ¬ (ck.1 : Int) < 0 := by omega
                  have hp1 : ¬ (s0.size : Int) < (ck.1 : Int) := by omega
                  have hp2 : ¬ (s0.size : Int) < (ck.1 : Int) + (wd.size : Int) := by omega
                  have hp3 : (ck.1 : Int) + (wd.size : Int) ≤ (s0.size : Int) := by omega
                  have hp4 : (0 : Int) ≤ (ck.1 : Int) + (wd.size : Int) := by omega
                  clear hwd
                  go_upto_region 13 with (fail)
                  obtain ⟨c0, c1, c2, z5⟩ := HBX.out w4.drew B04.drew
                  have hw4 : w4.drew.cell? ⟨bm, ofm + k, none⟩ = some (.string wd) := hcellw
                  have HGP := Lib.hid (parse_SE HG.out (HS1.out.keep X4.drew) (HT.out.keep0 k4.drew) HSS.out)
                  have a1 : IntKind.i64.wrap ((ck.1 : Int) + (wd.size : Int)) = (ck.1 : Int) + (wd.size : Int) := IntWalk.i64_in _ (by omega)
                  have hp5 : ((ck.1 : Int) + (wd.size : Int)).toNat = ck.1 + wd.size := by omega
                  have hq3 : ¬ 9223372036854775807 < ck.1 + wd.size + 1 := by omega
                  have hq4 : ¬ 9223372036854775807 < ck.1 + wd.size + 1 + s1.size := by omega
                  have hq1 : ¬ 9223372036854775807 < min (ck.1 + wd.size) s0.size + 1 := by omega
                  have hq2 : ¬ 9223372036854775807 < min (ck.1 + wd.size) s0.size + 1 + s1.size := by omega
                  go_region_held3 (fun w' => w'.cell? ⟨w1.heap.size, 0, none⟩ = some (.slice a 2 2) ∧ w'.cell? ⟨w1.heap.size, 1, none⟩ = some (.slice f 3 3) ∧ w'.cell? ⟨w1.heap.size, 2, none⟩ = some (.slice c 1 1) ∧ w'.cell? ⟨bm, ofm + k, none⟩ = some (.string wd))
                    (first | with_reducible exact ⟨c0, c1, c2, hw4⟩ | with_reducible exact ⟨e0, e1, e2, hw5⟩)
                    ((go_at_call 14
                      (with_reducible refine HGP.out.mono ?_)
                      rintro e w5 ⟨A5, a5, rfl, R5, K5⟩
                      have B05 : Keep NoF (w1.alloc (.cells #[.slice a 2 2, .slice f 3 3, .slice c 1 1] 31)) w5 := B04.drew.trans K5 fun _ _ h => h
                      have k5 : Keep NoF w w5 := k4.drew.trans K5 fun _ _ h => h
                      obtain ⟨e0, e1, e2, z6⟩ := box3 B05
                      have hw5 : w5.cell? ⟨bm, ofm + k, none⟩ = some (.string wd) := K5.cellv hw4 fun h => h))
                  clear a1 hp5 hq1 hq2 hq3 hq4
                  go_wp2_with (go_at_call 8; (with_reducible refine (awake_any w5 (HT.out.keep0 k5)).mono ?_); rintro e w6 ⟨rfl, K6⟩)
                  refine bodyPost_ret (v := .bool true) (by simp [results, Tryd.results5, go_sem]) rfl ?_
                  exact ⟨rfl, k5.trans K6 fun _ _ h => h⟩
                · have hne1 : ((ck.1 : Int) != (cc.1 : Int)) = true := by simpa using hpe
                  have hki2 : k ≠ i0 := by
                    rintro rfl
                    have a1 := HCK.out
                    rw [HC0.out] at a1
                    exact hpe (by rw [Option.some.inj a1])
                  clear hpe
                  go_wp2
                  go_roundw
                  case rel => exact ⟨k + 1, by go_num, by omega, by omega, by trivial⟩
                  case measure => simp only [intOf]; omega
        · have hx4 : (x != 4) = true := by simp; omega
          have hx5 : (x != 5) = true := by simp; omega
          clear hx hy hz htk htm
          go_wp2_with (go_at_call 8; (with_reducible refine (awake_any w4 (HT.out.keep0 k4)).mono ?_); rintro e w5 ⟨rfl, K5⟩)
          refine bodyPost_ret (v := .bool true) (by simp [results, Tryd.results5, go_sem]) rfl ?_
          exact ⟨rfl, k4.trans K5 fun _ _ h => h⟩
end
end Go.Proofs.YtdhdcenjiopofaaDoor
