/- The law ParserSpaces answers true. Conditions: the variables lie as they are read. -/
import Derived.Test.YtdhdcenjiopofaaDoorPaY
import Derived.Test.YtdhdcenjiopofaaDoorPc7
import Derived.Deep.RegionHeld3
set_option linter.unusedVariables false
set_option linter.unusedSimpArgs false
namespace Go.Proofs.YtdhdcenjiopofaaDoor
open Go.RowKit
open Fm (Nd cl)

theorem parse_eq {S : Sg} {a f c : Option Addr} {ca cf cc : Nat} {t : ByteArray} {l : List Nd} {p x : Int} {w : World} (hp : parseF S t = (l, p, x)) (hS : SigR w S a ca f cf c cc) (hT : Tab w) (ht : t.size ≤ 9223372036854775807) :
    Calls Tryd.prog 14 #[.agg #[.slice a S.A.length ca, .slice f S.F.length cf, .slice c S.C.length cc], .string t] w fun e w' => ∃ (A : Option Addr) (c : Nat), e = .returned (.tuple #[.slice A l.length c, .int .i64 p, .int .i64 x]) ∧ Rd w' (.slice A l.length c) 6 l.length (fmC l) ∧ Keep NoF w w' := by
  have := Parse_any S a f c ca cf cc t w hS hT ht
  unfold ParPost at this
  rw [hp] at this
  exact this
theorem parse_short (S : Sg) (t : ByteArray) : (parseF S t).1.length ≤ 200 := by
  by_cases hc : checkS S = 0
  · cases h : tokF t with
    | error px =>
      obtain ⟨p, x⟩ := px
      unfold parseF
      rw [if_neg (by rw [hc]; simp), h]
      simp
    | ok cs =>
      rw [parseF_tok hc h]
      by_cases h0 : (readF (sigP S) (tW cs)).2.2 = 0
      · obtain ⟨tr, _, hl, hr⟩ := read_zero h0
        rw [if_pos h0, hr]
        exact hl
      · rw [if_neg h0]; simp
  · rw [parseF_chk hc]; simp
theorem size_txt3 (t : ByteArray) : ((⟨#[40]⟩ : ByteArray) ++ t ++ ⟨#[41]⟩).size = t.size + 2 := by
  rw [← data_len]; simp
section
set_option maxRecDepth 100000
set_option maxHeartbeats 4000000
theorem walk_ParserSpaces (S : Sg) (a f c : Option Addr) (ca cf cc : Nat) (t : ByteArray) (n : Nat) (w : World) (hS : SigR w S a ca f cf c cc) (hn : n < 256) (hT : Tab w) :
    Calls Tryd.prog 4 #[.agg #[.slice a S.A.length ca, .slice f S.F.length cf, .slice c S.C.length cc], .string t, .int .u8 (n : Int)] w fun e w' => e = .returned (.bool true) ∧ Keep NoF w w' := by
  have hK0 : Keep NoF w (w.alloc (.cells (boxS S a ca f cf c cc) 31)) := (Keep.refl _ _).alloc _
  have HB := Lib.hid (fun w' => @box_cells w w' S a f c ca cf cc 31)
  have HS := Lib.hid hS
  have HT := Lib.hid hT
  have HFW := Lib.hid (few_any S a f c ca cf cc t _ (hS.keep hK0))
  unfold boxS at *
  clear hS hT
  have HKW : Hid (∀ v, Keep NoF (w.alloc (.cells #[.slice a S.A.length ca, .slice f S.F.length cf, .slice c S.C.length cc] 31)) v → Keep NoF w v) := Lib.hid fun v h => hK0.trans h fun _ _ h => h
  have HAW : Hid (∀ v, Keep NoF w v → _) := Lib.hid fun v (h : Keep NoF w v) => awake_any v (HT.out.keep0 h)
  obtain ⟨⟨pf, pp, px⟩, hpf⟩ : ∃ r, parseF S t = r := ⟨_, rfl⟩
  have HP1 := Lib.hid hpf
  clear hpf hK0
  go_enter Tryd.func4, Tryd.ntmps4
  go_upto_region 2 with (first
    | (go_at_call 13; (with_reducible refine HFW.out.mono ?_); rintro e w1 ⟨b, rfl, hb, K1⟩; obtain ⟨c0, c1, c2, hz1⟩ := HB.out w1 K1; have k1 := HKW.out _ K1; cases b))
  · go_wp2_with (go_at_call 8; (with_reducible refine (HAW.out w1 k1).mono ?_); rintro e w2 ⟨rfl, K2⟩)
    refine bodyPost_ret (v := .bool true) (by simp [results, Tryd.results4, go_sem]) rfl ?_
    exact ⟨rfl, k1.trans K2 fun _ _ h => h⟩
  · have ht : t.size ≤ 300 := hb trivial
    clear hb HFW
    cases htok : tokF t with
    | error q =>
      obtain ⟨qp, qx⟩ := q
      have hpx : px ≠ 0 := by have := parseF_err (S := S) htok; rw [HP1.out] at this; exact this
      have hpx' : (px != 0) = true := by simpa using hpx
      have HTK := Lib.hid htok
      clear htok hpx
      have H1 := Lib.hid (parse_eq HP1.out (HS.out.keep k1) (HT.out.keep0 k1) (by omega))
      go_wp2_with (first
        | (go_at_call 14; (with_reducible refine H1.out.mono ?_); rintro e w2 ⟨A2, c2', rfl, R2, K2⟩; have k2 := k1.trans K2 fun _ _ h => h)
        | (go_at_call 9; (with_reducible refine (tokens_err HTK.out (by omega) w2).mono ?_); rintro e w3 ⟨A3, c3, B3, d3, rfl, hx3, K3⟩; have k3 := k2.trans K3 fun _ _ h => h; have hx3' : (qx != 0) = true := (by simpa using hx3))
        | (go_at_call 8; (with_reducible refine (HAW.out w3 k3).mono ?_); rintro e w4 ⟨rfl, K4⟩; have k4 := k3.trans K4 fun _ _ h => h))
      refine bodyPost_ret (v := .bool true) (by simp [results, Tryd.results4, go_sem]) rfl ?_
      exact ⟨rfl, k4⟩
    | ok cs =>
      obtain ⟨l1, l2, q1, q2, q3⟩ := spaces_law S t n ht htok
      have HTK := Lib.hid htok
      have hf200 : pf.length ≤ 200 := by have := parse_short S t; rw [HP1.out] at this; exact this
      rw [HP1.out] at q1 q2 q3
      simp only at q1 q2 q3
      generalize ht2 : txt (spreadL n (dataL (tW cs))) = t2 at *
      have HT2 := Lib.hid ht2
      have HT24 : Hid (t2.size ≤ 9223372036854775807) := Lib.hid (by rw [← ht2, txt_size]; omega)
      obtain ⟨p2, hp2⟩ : ∃ p2, parseF S t2 = (pf, p2, px) := ⟨(parseF S t2).2.1, by rw [← q1, ← q2]⟩
      have HP2 := Lib.hid hp2
      obtain ⟨⟨f3, p3, x3⟩, hq3⟩ : ∃ r, parseF S ((⟨#[40]⟩ : ByteArray) ++ t ++ ⟨#[41]⟩) = r := ⟨_, rfl⟩
      have hxx : (px != px) = false := by simp
      have l3 : ((cs.length : Nat) : Int) ≤ 300 := by omega
      clear htok q1 q2 ht2 hp2
      by_cases hpx : px = 0
      · subst hpx
        have HP3 : Hid (parseF S ((⟨#[40]⟩ : ByteArray) ++ t ++ ⟨#[41]⟩) = (pf, p3, 0)) := Lib.hid (by obtain ⟨a1, a2⟩ := q3 rfl; rw [hq3] at a1 a2; rw [hq3]; simp only at a1 a2; rw [a1, a2])
        have e31 : f3.length ≤ 200 := by have := parse_short S ((⟨#[40]⟩ : ByteArray) ++ t ++ ⟨#[41]⟩); rw [hq3] at this; exact this
        clear q3 hq3
        have H1 := Lib.hid (parse_eq HP1.out (HS.out.keep k1) (HT.out.keep0 k1) (by omega))
        go_upto_region 9 with (first
          | (go_at_call 14; (with_reducible refine H1.out.mono ?_); rintro e w2 ⟨A2, c2', rfl, R2, K2⟩; have k2 := k1.trans K2 fun _ _ h => h)
          | (go_at_call 9; (with_reducible refine (tokens_ok HTK.out (by omega) w2).mono ?_); rintro e w3 ⟨A3, c3, B3, d3, rfl, R3, Q3, K3⟩; have k3 := k2.trans K3 fun _ _ h => h))
        have K13 : Keep NoF (w.alloc (.cells #[.slice a S.A.length ca, .slice f S.F.length cf, .slice c S.C.length cc] 31)) w3 := (K1.trans K2 fun _ _ h => h).trans K3 fun _ _ h => h
        clear c0 c1 c2
        obtain ⟨c0, c1, c2, hz3⟩ := HB.out w3.drew K13.drew
        have HSP : Hid (∀ W, Keep NoF w3 W → Calls Tryd.prog 15 #[.slice A3 cs.length c3, .int .u8 (n : Int)] W fun e w' => e = .returned (.string t2) ∧ Keep NoF W w') := Lib.hid fun W hk => by
          have := spread_any (tW cs) A3 c3 n W hn (by rw [tW_len]; omega) l2 (by rw [tW_len]; exact R3.kept hk fun _ _ h => h)
          rw [tW_len, HT2.out] at this
          exact this
        clear R3 Q3
        go_region_held3 (fun w' => w'.cell? ⟨w.heap.size, 0, none⟩ = some (.slice a S.A.length ca) ∧ w'.cell? ⟨w.heap.size, 1, none⟩ = some (.slice f S.F.length cf) ∧ w'.cell? ⟨w.heap.size, 2, none⟩ = some (.slice c S.C.length cc))
          (first | with_reducible exact ⟨c0, c1, c2⟩ | with_reducible exact ⟨e0, e1, e2⟩ | with_reducible exact ⟨g0, g1, g2⟩)
          (first
            | (go_at_call 15
               (with_reducible refine (HSP.out _ (Keep.refl NoF w3).drew).mono ?_)
               rintro e w4 ⟨rfl, K4'⟩
               have K4 : Keep NoF w3 w4 := (Keep.refl NoF w3).drew.trans K4' fun _ _ h => h
               have K14 := K13.trans K4 fun _ _ h => h
               have k4 := k3.trans K4 fun _ _ h => h
               obtain ⟨e0, e1, e2, hz4⟩ := HB.out w4 K14
               have H5 := Lib.hid (parse_eq HP2.out (HS.out.keep k4) (HT.out.keep0 k4) HT24.out))
            | (go_at_call 14
               (with_reducible refine H5.out.mono ?_)
               rintro e w5 ⟨A5, c5, rfl, R5, K5⟩
               have K15 := K14.trans K5 fun _ _ h => h
               have k5 := k4.trans K5 fun _ _ h => h
               obtain ⟨g0, g1, g2, hz5⟩ := HB.out w5 K15
               have R25 := (R2.kept (K3.trans (K4.trans K5 fun _ _ h => h) fun _ _ h => h) fun _ _ h => h)))
        have H6 := Lib.hid (parse_eq HP3.out (HS.out.keep k5) (HT.out.keep0 k5) (by rw [size_txt3]; omega))
        clear R2 c0 c1 c2 e0 e1 e2
        go_wp2_with (first
          | (go_at_call 14
             (with_reducible refine H6.out.mono ?_)
             rintro e w6 ⟨A6, c6, rfl, R6, K6⟩
             have k6 := k5.trans K6 fun _ _ h => h
             have HN1 := Lib.hid (sameNodes_any pf A2 A5 c2' c5 w6 (R25.kept K6 fun _ _ h => h) (R5.kept K6 fun _ _ h => h) (by omega)))
          | (go_at_call 16
             (with_reducible refine HN1.out.mono ?_)
             rintro e w7 ⟨rfl, K7⟩
             have k7 := k6.trans K7 fun _ _ h => h
             have HN2 := Lib.hid (sameNodes_any pf A2 A6 c2' c6 w7 ((R25.kept K6 fun _ _ h => h).kept K7 fun _ _ h => h) (R6.kept K7 fun _ _ h => h) (by omega)))
          | (go_at_call 16; (with_reducible refine HN2.out.mono ?_); rintro e w8 ⟨rfl, K8⟩; have k8 := k7.trans K8 fun _ _ h => h)
          | (go_at_call 8; (with_reducible refine (HAW.out w8 k8).mono ?_); rintro e w9 ⟨rfl, K9⟩; have k9 := k8.trans K9 fun _ _ h => h))
        refine bodyPost_ret (v := .bool true) (by simp [results, Tryd.results4, go_sem]) rfl ?_
        exact ⟨rfl, k9⟩
      · have hpx' : (px != 0) = true := by simpa using hpx
        clear hpx
        have HP3 : Hid (parseF S ((⟨#[40]⟩ : ByteArray) ++ t ++ ⟨#[41]⟩) = (f3, p3, x3)) := Lib.hid hq3
        have e31 : f3.length ≤ 200 := by have := parse_short S ((⟨#[40]⟩ : ByteArray) ++ t ++ ⟨#[41]⟩); rw [hq3] at this; exact this
        clear q3 hq3
        have H1 := Lib.hid (parse_eq HP1.out (HS.out.keep k1) (HT.out.keep0 k1) (by omega))
        go_upto_region 9 with (first
          | (go_at_call 14; (with_reducible refine H1.out.mono ?_); rintro e w2 ⟨A2, c2', rfl, R2, K2⟩; have k2 := k1.trans K2 fun _ _ h => h)
          | (go_at_call 9; (with_reducible refine (tokens_ok HTK.out (by omega) w2).mono ?_); rintro e w3 ⟨A3, c3, B3, d3, rfl, R3, Q3, K3⟩; have k3 := k2.trans K3 fun _ _ h => h))
        have K13 : Keep NoF (w.alloc (.cells #[.slice a S.A.length ca, .slice f S.F.length cf, .slice c S.C.length cc] 31)) w3 := (K1.trans K2 fun _ _ h => h).trans K3 fun _ _ h => h
        clear c0 c1 c2
        obtain ⟨c0, c1, c2, hz3⟩ := HB.out w3.drew K13.drew
        have HSP : Hid (∀ W, Keep NoF w3 W → Calls Tryd.prog 15 #[.slice A3 cs.length c3, .int .u8 (n : Int)] W fun e w' => e = .returned (.string t2) ∧ Keep NoF W w') := Lib.hid fun W hk => by
          have := spread_any (tW cs) A3 c3 n W hn (by rw [tW_len]; omega) l2 (by rw [tW_len]; exact R3.kept hk fun _ _ h => h)
          rw [tW_len, HT2.out] at this
          exact this
        clear R3 Q3
        go_region_held3 (fun w' => w'.cell? ⟨w.heap.size, 0, none⟩ = some (.slice a S.A.length ca) ∧ w'.cell? ⟨w.heap.size, 1, none⟩ = some (.slice f S.F.length cf) ∧ w'.cell? ⟨w.heap.size, 2, none⟩ = some (.slice c S.C.length cc))
          (first | with_reducible exact ⟨c0, c1, c2⟩ | with_reducible exact ⟨e0, e1, e2⟩ | with_reducible exact ⟨g0, g1, g2⟩)
          (first
            | (go_at_call 15
               (with_reducible refine (HSP.out _ (Keep.refl NoF w3).drew).mono ?_)
               rintro e w4 ⟨rfl, K4'⟩
               have K4 : Keep NoF w3 w4 := (Keep.refl NoF w3).drew.trans K4' fun _ _ h => h
               have K14 := K13.trans K4 fun _ _ h => h
               have k4 := k3.trans K4 fun _ _ h => h
               obtain ⟨e0, e1, e2, hz4⟩ := HB.out w4 K14
               have H5 := Lib.hid (parse_eq HP2.out (HS.out.keep k4) (HT.out.keep0 k4) HT24.out))
            | (go_at_call 14
               (with_reducible refine H5.out.mono ?_)
               rintro e w5 ⟨A5, c5, rfl, R5, K5⟩
               have K15 := K14.trans K5 fun _ _ h => h
               have k5 := k4.trans K5 fun _ _ h => h
               obtain ⟨g0, g1, g2, hz5⟩ := HB.out w5 K15
               have R25 := (R2.kept (K3.trans (K4.trans K5 fun _ _ h => h) fun _ _ h => h) fun _ _ h => h)))
        have H6 := Lib.hid (parse_eq HP3.out (HS.out.keep k5) (HT.out.keep0 k5) (by rw [size_txt3]; omega))
        clear R2 c0 c1 c2 e0 e1 e2
        go_wp2_with (first
          | (go_at_call 14
             (with_reducible refine H6.out.mono ?_)
             rintro e w6 ⟨A6, c6, rfl, R6, K6⟩
             have k6 := k5.trans K6 fun _ _ h => h
             have HN1 := Lib.hid (sameNodes_any pf A2 A5 c2' c5 w6 (R25.kept K6 fun _ _ h => h) (R5.kept K6 fun _ _ h => h) (by omega)))
          | (go_at_call 16
             (with_reducible refine HN1.out.mono ?_)
             rintro e w7 ⟨rfl, K7⟩
             have k7 := k6.trans K7 fun _ _ h => h
             skip)
          | (go_at_call 8; (with_reducible refine (HAW.out w7 k7).mono ?_); rintro e w9 ⟨rfl, K9⟩; have k9 := k7.trans K9 fun _ _ h => h))
        refine bodyPost_ret (v := .bool true) (by simp [results, Tryd.results4, go_sem]) rfl ?_
        exact ⟨rfl, k9⟩
end
end Go.Proofs.YtdhdcenjiopofaaDoor
