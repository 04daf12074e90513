/- The law PrinterMinimal answers true. Conditions: the variables lie as they are read. -/
import Derived.Test.YtbidfbojealmlaaGreatDoorPrR
import Derived.Deep.RegionHeld3
set_option linter.unusedVariables false
set_option linter.unusedSimpArgs false
namespace Go.Proofs.YtbidfbojealmlaaGreatDoor
open Go.RowKit
open Fm (Nd cl checkE compactL tr)
section
set_option maxRecDepth 100000
set_option maxHeartbeats 4000000
theorem dp_range (b : UInt8) : -1 ≤ dpB b ∧ dpB b ≤ 1 := by unfold dpB; split; decide; split <;> decide
theorem clo_at {l : List UInt8} {k : Nat} {b : UInt8} (h : l[k]? = some b) (d : Int) : cloG d k (l.drop k) = if d + dpB b = 0 then (k : Int) else cloG (d + dpB b) (k + 1) (l.drop (k + 1)) := by
  obtain ⟨h1, h2⟩ := List.getElem?_eq_some_iff.1 h
  rw [List.drop_eq_getElem_cons h1, h2]
  rfl
theorem prclosing_any (s : ByteArray) (at_ : Nat) (h : at_ ≤ s.size) (hs : s.size ≤ 4000) (w : World) :
    Calls Tryz.prog 23 #[.string s, .int .i64 (at_ : Int)] w fun e w' => e = .returned (.int .i64 (cloG 0 at_ (s.data.toList.drop at_))) ∧ w' = w := by
  have HB := Lib.hid fun (k : Nat) (hk : k < s.size) => at_list s k hk
  have HN := Lib.hid (data_len s)
  go_enter Tryz.func23, Tryz.ntmps23
  go_wp2
  go_loopw [5, 6] (fun dv iv wr => ∃ (k : Nat) (d : Int), dv = .int .i64 d ∧ iv = .int .i64 k ∧ k ≤ s.size ∧ -(k : Int) ≤ d ∧ d ≤ k ∧ Hid (cloG 0 at_ (s.data.toList.drop at_) = cloG d k (s.data.toList.drop k)) ∧ wr = w) (fun _ iv _ => s.size - (intOf iv).toNat)
  case atStart => exact ⟨at_, 0, rfl, rfl, h, by omega, by omega, Lib.hid rfl, rfl⟩
  case round =>
    obtain ⟨k, d, rfl, rfl, hk, hd1, hd2, HE, hw⟩ := hrel
    obtain rfl := hw.symm; clear hw
    by_cases hlt : k < s.size
    · have hk1 : (k : Int) < (s.size : Int) := by omega
      have hk0 : (0 : Int) ≤ (k : Int) := by omega
      have hbk := HB.out k hlt
      have hcl := clo_at hbk d
      have HBK := Lib.hid hbk
      clear hbk
      have h3 : (s[k] = 40 ∧ dpB s[k] = 1) ∨ (s[k] = 41 ∧ dpB s[k] = -1) ∨ (s[k] ≠ 40 ∧ s[k] ≠ 41 ∧ dpB s[k] = 0) := by
        by_cases h4 : s[k] = 40
        · exact .inl ⟨h4, by rw [h4]; rfl⟩
        · by_cases h5 : s[k] = 41
          · exact .inr (.inl ⟨h5, by rw [h5]; rfl⟩)
          · exact .inr (.inr ⟨h4, h5, by unfold dpB; rw [if_neg h4, if_neg h5]⟩)
      rcases h3 with ⟨h4, hdp⟩ | ⟨h4, hdp⟩ | ⟨h4, h5, hdp⟩
      · have q40 : ((s[k].toNat : Int) == 40) = true := by rw [h4]; rfl
        have q41 : ((s[k].toNat : Int) == 41) = false := by rw [h4]; rfl
        clear h4
        rw [hdp] at hcl
        clear hdp
        by_cases h0 : d + 1 = 0
        · have h0' : (d + 1 == 0) = true := by simpa using h0
          rw [if_pos h0] at hcl
          have HC := Lib.hid (HE.out.trans hcl)
          clear hcl h0
          go_wp2
          refine bodyPost_ret (v := .int .i64 (k : Int)) (by simp [results, Tryz.results23, go_sem]) rfl ?_
          exact ⟨by rw [HC.out], rfl⟩
        · have h0' : (d + 1 == 0) = false := by simpa using h0
          rw [if_neg h0] at hcl
          have HC := Lib.hid (HE.out.trans hcl)
          clear hcl h0
          go_wp2
          go_roundw
          case rel => exact ⟨k + 1, d + 1, by go_num, by go_num, by omega, by omega, by omega, HC, by trivial⟩
          case measure => simp only [intOf]; omega
      · have q40 : ((s[k].toNat : Int) == 40) = false := by rw [h4]; rfl
        have q41 : ((s[k].toNat : Int) == 41) = true := by rw [h4]; rfl
        clear h4
        rw [hdp] at hcl
        clear hdp
        by_cases h0 : d - 1 = 0
        · have h0' : (d - 1 == 0) = true := by simpa using h0
          rw [if_pos (by omega)] at hcl
          have HC := Lib.hid (HE.out.trans hcl)
          clear hcl h0
          go_wp2
          refine bodyPost_ret (v := .int .i64 (k : Int)) (by simp [results, Tryz.results23, go_sem]) rfl ?_
          exact ⟨by rw [HC.out], rfl⟩
        · have h0' : (d - 1 == 0) = false := by simpa using h0
          rw [if_neg (by omega)] at hcl
          have HC := Lib.hid (HE.out.trans hcl)
          clear hcl h0
          go_wp2
          go_roundw
          case rel => exact ⟨k + 1, d + -1, by go_num, by go_num, by omega, by omega, by omega, HC, by trivial⟩
          case measure => simp only [intOf]; omega
      · have q40 : ((s[k].toNat : Int) == 40) = false := beq_eq_false_iff_ne.2 fun e => h4 (UInt8.toNat_inj.1 (by rw [show (40 : UInt8).toNat = 40 from rfl]; omega))
        have q41 : ((s[k].toNat : Int) == 41) = false := beq_eq_false_iff_ne.2 fun e => h5 (UInt8.toNat_inj.1 (by rw [show (41 : UInt8).toNat = 41 from rfl]; omega))
        clear h4 h5
        rw [hdp, Int.add_zero] at hcl
        clear hdp
        by_cases h0 : d = 0
        · have h0' : (d == 0) = true := by simpa using h0
          rw [if_pos h0] at hcl
          have HC := Lib.hid (HE.out.trans hcl)
          clear hcl h0
          go_wp2
          refine bodyPost_ret (v := .int .i64 (k : Int)) (by simp [results, Tryz.results23, go_sem]) rfl ?_
          exact ⟨by rw [HC.out], rfl⟩
        · have h0' : (d == 0) = false := by simpa using h0
          rw [if_neg h0] at hcl
          have HC := Lib.hid (HE.out.trans hcl)
          clear hcl h0
          go_wp2
          go_roundw
          case rel => exact ⟨k + 1, d, by go_num, by go_num, by omega, by omega, by omega, HC, by trivial⟩
          case measure => simp only [intOf]; omega
    · have hk1 : ¬ (k : Int) < (s.size : Int) := by omega
      have HC : Hid (cloG 0 at_ (s.data.toList.drop at_) = -1) := Lib.hid (by
        rw [HE.out, List.drop_eq_nil_of_le (by rw [HN.out]; omega)]
        rfl)
      go_wp2
      refine bodyPost_ret (v := .int .i64 (-1)) (by simp [results, Tryz.results23, go_sem]) rfl ?_
      exact ⟨by rw [HC.out], rfl⟩
theorem walk_PrinterMinimal (S : Sg) (a f c : Option Addr) (ca cf cc : Nat) (l : List Nd) (A : Option Addr) (cA : Nat) (w : World) (hS : SigR w S a ca f cf c cc) (hll : l.length ≤ 9223372036854775807) (hrd : Rd w (.slice A l.length cA) 6 l.length (fmC l)) (hT : Tabs w) :
    Calls Tryz.prog 7 #[.agg #[.slice a S.A.length ca, .slice f S.F.length cf, .slice c S.C.length cc], .slice A l.length cA] w fun e w' => e = .returned (.bool true) ∧ Keep NoF w w' := by
  have hK0 : Keep NoF w (w.alloc (.cells (boxS S a ca f cf c cc) 24)) := (Keep.refl _ _).alloc _
  have HB := Lib.hid (fun w' => @box_cells w w' S a f c ca cf cc 24)
  have HS := Lib.hid hS
  have HT := Lib.hid hT
  have HK0 := Lib.hid hK0
  have HKW : Hid (∀ v, Keep NoF (w.alloc (.cells (boxS S a ca f cf c cc) 24)) v → Keep NoF w v) := Lib.hid fun v h => hK0.trans h fun _ _ h => h
  have HAW : Hid (∀ v, Keep NoF w v → _) := Lib.hid fun v (h : Keep NoF w v) => awake7_any v (HT.out.keep0 h)
  have HFW := Lib.hid fun W => fewP_any S a f c ca cf cc l.length A cA W
  obtain ⟨⟨s, x⟩, hpf⟩ : ∃ r, printF S l = r := ⟨_, rfl⟩
  have hle : s.length ≤ 4000 := by
    have := printF_len S l
    rwa [hpf] at this
  obtain ⟨st, hst⟩ : ∃ st : ByteArray, txt s = st := ⟨_, rfl⟩
  have hss : s = st.data.toList := by rw [← hst, data_txt]
  have hsz : st.size ≤ 4000 := by rw [← hst, txt_size]; exact hle
  have HPL : Hid (∀ W, Keep NoF w W → Calls Tryz.prog 12 #[.agg #[.slice a S.A.length ca, .slice f S.F.length cf, .slice c S.C.length cc], .slice A l.length cA] W fun e w' => e = .returned (.tuple #[.string st, .int .i64 x]) ∧ Keep NoF W w') := Lib.hid fun W hk => hst ▸ print_eq hpf (hS.keep hk) (hT.keep0 hk) hll (hrd.kept hk fun _ _ h => h)
  have HSM0 := Lib.hid fun (g : List Nd) (hg : g.length ≤ 200) W (hk : Keep NoF w W) B cB hg' => fmSame_any l g A B cA cB W (hrd.kept hk fun _ _ h => h) hg' hll (by omega)
  have HMN := Lib.hid fun (hx : x = 0) (i : Nat) (hi : st.data.toList[i]? = some 40) => minimal_law (S := S) (l := l) (s := st.data.toList) (by rw [hpf, hx, hss]) hi
  unfold boxS at *
  clear hS hT hrd hpf hss hle hst
  generalize (decide (l.length ≤ 60) && fewB S) = b at *
  cases b with
  | false =>
    clear HSM0 HMN HPL hK0
    generalize l.length = ll at *
    go_enter Tryz.func7, Tryz.ntmps7
    go_wp2_with (first
      | (go_at_call 10; (with_reducible refine (HFW.out _).mono ?_); rintro e w1 ⟨rfl, K1⟩; have k1 := HKW.out _ K1; obtain ⟨c0, c1, c2, hz1⟩ := HB.out w1 K1)
      | (go_at_call 11; (with_reducible refine (HAW.out _ k1).mono ?_); rintro e w9 ⟨rfl, K9⟩; have k9 := k1.trans K9 fun _ _ h => h))
    refine bodyPost_ret (v := .bool true) (by simp [results, Tryz.results7, go_sem]) rfl ?_
    exact ⟨rfl, k9⟩
  | true =>
    by_cases hx : x = 0
    · by_cases h3 : 300 < st.size
      · have h3' : (300 : Int) < (st.size : Int) := by omega
        subst hx
        clear HSM0 HMN hK0
        generalize l.length = ll at *
        go_enter Tryz.func7, Tryz.ntmps7
        go_wp2_with (first
          | (go_at_call 10; (with_reducible refine (HFW.out _).mono ?_); rintro e w1 ⟨rfl, K1⟩; have k1 := HKW.out _ K1; obtain ⟨c0, c1, c2, hz1⟩ := HB.out w1 K1; clear HFW)
          | (go_at_call 12; (with_reducible refine (HPL.out _ k1).mono ?_); rintro e w2 ⟨rfl, K2⟩; have k2 := k1.trans K2 fun _ _ h => h; have K12 := K1.trans K2 fun _ _ h => h; clear HPL)
          | (go_at_call 11; (with_reducible refine (HAW.out _ k2).mono ?_); rintro e w9 ⟨rfl, K9⟩; have k9 := k2.trans K9 fun _ _ h => h))
        refine bodyPost_ret (v := .bool true) (by simp [results, Tryz.results7, go_sem]) rfl ?_
        exact ⟨rfl, k9⟩
      · have h3' : ¬ (300 : Int) < (st.size : Int) := by omega
        have HM := Lib.hid (HMN.out hx)
        subst hx
        clear HMN hK0
        have HBY := Lib.hid fun (k : Nat) (hk : k < st.size) => at_list st k hk
        go_enter Tryz.func7, Tryz.ntmps7
        go_wp2_with (first
          | (go_at_call 10; (with_reducible refine (HFW.out _).mono ?_); rintro e w1 ⟨rfl, K1⟩; have k1 := HKW.out _ K1; obtain ⟨c0, c1, c2, hz1⟩ := HB.out w1 K1; clear HFW)
          | (go_at_call 12; (with_reducible refine (HPL.out _ k1).mono ?_); rintro e w2 ⟨rfl, K2⟩; have k2 := k1.trans K2 fun _ _ h => h; have K12 := K1.trans K2 fun _ _ h => h; clear HPL))
        go_loopw [7] (fun iv wr => ∃ i : Nat, iv = .int .i64 i ∧ i ≤ st.size ∧ Keep NoF (w.alloc (.cells #[.slice a S.A.length ca, .slice f S.F.length cf, .slice c S.C.length cc] 24)) wr) (fun iv _ => st.size - (intOf iv).toNat)
        case atStart => exact ⟨0, rfl, by omega, K12⟩
        case round =>
          obtain ⟨i, rfl, hi, KW⟩ := hrel
          have kw := HKW.out _ KW
          clear hz1 c0 c1 c2
          obtain ⟨c0, c1, c2, hz1⟩ := HB.out _ KW
          by_cases hlt : i < st.size
          · have hi1 : (i : Int) < (st.size : Int) := by omega
            have hi0 : (0 : Int) ≤ (i : Int) := by omega
            by_cases h40 : st[i] = 40
            · have q40 : ((st[i].toNat : Int) != 40) = false := by rw [h40]; rfl
              obtain ⟨k, e1, e2, e3, e4⟩ := HM.out i (by rw [HBY.out i hlt, h40])
              have e3' : k < st.size := by rw [data_len] at e3; exact e3
              obtain ⟨g, p, y, f1, f2, f3⟩ := e4 (txt (st.data.toList.take i ++ ((st.data.toList.drop (i + 1)).take (k - (i + 1)) ++ st.data.toList.drop (k + 1)))) (data_txt _)
              have HPM : Hid (∀ u : ByteArray, u = txt (st.data.toList.take i ++ ((st.data.toList.drop (i + 1)).take (k - (i + 1)) ++ st.data.toList.drop (k + 1))) → ∀ W, Keep NoF w W → Calls Tryz.prog 14 #[.agg #[.slice a S.A.length ca, .slice f S.F.length cf, .slice c S.C.length cc], .string u] W fun e w' => ∃ (A : Option Addr) (c : Nat), e = .returned (.tuple #[.slice A g.length c, .int .i64 p, .int .i64 y]) ∧ Rd w' (.slice A g.length c) 6 g.length (fmC g) ∧ Keep NoF W w') := Lib.hid fun u hu W hk => by
                have hu4 : u.size ≤ 4000 := by
                  rw [hu, txt_size]
                  simp only [List.length_append, List.length_take, List.length_drop, data_len]
                  omega
                rw [← hu] at f1
                exact parse_eq7 f1 (HS.out.keep hk) (HT.out.keep0 hk) (by omega)
              have HCUT : Hid (∀ u : ByteArray, u.data.toList = (st.data.toList.extract 0 i ++ st.data.toList.extract (i + 1) k) ++ st.data.toList.extract (k + 1) st.size → u = txt (st.data.toList.take i ++ ((st.data.toList.drop (i + 1)).take (k - (i + 1)) ++ st.data.toList.drop (k + 1)))) := Lib.hid fun u hu => by
                refine ba_ext ?_
                rw [hu, data_txt]
                simp only [List.extract_eq_take_drop, List.drop_zero, Nat.sub_zero, List.append_assoc]
                rw [List.take_of_length_le (l := st.data.toList.drop (k + 1)) (by rw [List.length_drop, data_len]; exact Nat.le_refl _)]
              have HCL : Hid (∀ W, Calls Tryz.prog 23 #[.string st, .int .i64 (i : Int)] W fun e w' => e = .returned (.int .i64 (k : Int)) ∧ w' = W) := Lib.hid fun W => e1 ▸ prclosing_any st i hi hsz W
              have HSM := Lib.hid (HSM0.out g f2)
              have z1 : ¬ (k : Int) < 0 := by omega
              have z2 : (i : Int) + 1 ≤ (k : Int) := by omega
              have z3 : (k : Int) < (st.size : Int) := by omega
              have z4 : (k : Int) + 1 ≤ (st.size : Int) := by omega
              have z5 : (0 : Int) ≤ (i : Int) + 1 := by omega
              have z9 : (k : Int) ≤ (st.size : Int) := by omega
              have zA : (0 : Int) ≤ (k : Int) := by omega
              have z6 : (0 : Int) ≤ (k : Int) + 1 := by omega
              clear e1 e4 f1 h40
              by_cases hy : y = 0
              · have hsb := f3 hy
                rw [hsb] at HSM
                subst hy
                clear f3 hsb
                go_upto_region 13 with ((go_at_call 23; (with_reducible refine (HCL.out _).mono ?_); rintro e w4 ⟨rfl, hw4⟩; obtain rfl := hw4.symm))
                obtain ⟨c0, c1, c2, z7⟩ := HB.out wr.drew KW.drew
                have kwd := HKW.out _ KW.drew
                have a1 : IntKind.i64.wrap ((i : Int) + 1) = (i : Int) + 1 := IntWalk.i64_in _ (by omega)
                have a2 : IntKind.i64.wrap ((k : Int) + 1) = (k : Int) + 1 := IntWalk.i64_in _ (by omega)
                have a3 : ((i : Int) + 1).toNat = i + 1 := by omega
                have a4 : ((k : Int) + 1).toNat = k + 1 := by omega
                have y1 : ¬ 9223372036854775807 < min i st.size + (min k st.size - (i + 1)) := by omega
                have y3 : ¬ 9223372036854775807 < i + (k - (i + 1)) := by omega
                have y4 : ¬ 9223372036854775807 < i + (k - (i + 1)) + (st.size - (k + 1)) := by omega
                have y5 : ¬ 9223372036854775807 < min i st.size + (k - (i + 1)) := by omega
                have y6 : ¬ 9223372036854775807 < min i st.size + (k - (i + 1)) + (st.size - (k + 1)) := by omega
                have y7 : ¬ 9223372036854775807 < i + (min k st.size - (i + 1)) := by omega
                have y8 : ¬ 9223372036854775807 < i + (min k st.size - (i + 1)) + (st.size - (k + 1)) := by omega
                have y2 : ¬ 9223372036854775807 < min i st.size + (min k st.size - (i + 1)) + (st.size - (k + 1)) := by omega
                go_region_held3 (fun w' => w'.cell? ⟨w.heap.size, 0, none⟩ = some (.slice a S.A.length ca) ∧ w'.cell? ⟨w.heap.size, 1, none⟩ = some (.slice f S.F.length cf) ∧ w'.cell? ⟨w.heap.size, 2, none⟩ = some (.slice c S.C.length cc))
                  (first | with_reducible exact ⟨c0, c1, c2⟩ | with_reducible exact ⟨e0, e1, e2⟩)
                  ((go_at_call 14
                    (with_reducible refine (HPM.out _ (HCUT.out _ (by simp only [ByteArray.data_append, ByteArray.data_extract, Array.toList_append, Array.toList_extract])) _ kwd).mono ?_)
                    rintro e w5 ⟨A5, c5, rfl, R5, K5⟩
                    have k5 : Keep NoF w w5 := kwd.trans K5 fun _ _ h => h
                    have Kb : Keep NoF (w.alloc (.cells #[.slice a S.A.length ca, .slice f S.F.length cf, .slice c S.C.length cc] 24)) w5 := KW.drew.trans K5 fun _ _ h => h
                    obtain ⟨e0, e1, e2, z8⟩ := HB.out w5 Kb
                    have HR5 := Lib.hid R5
                    clear R5))
                clear a1 a2 a3 a4 y1 y2 y3 y4 y5 y6 y7 y8
                go_wp2_with (first
                  | (go_at_call 24; (with_reducible refine (HSM.out _ k5 _ _ HR5.out).mono ?_); rintro e w6 ⟨rfl, K6⟩; have Kc := Kb.trans K6 fun _ _ h => h))
                go_roundw
                case rel => exact ⟨i + 1, by go_num, by omega, Kc⟩
                case measure => simp only [intOf]; omega
              · have hy' : (y == 0) = false := by simpa using hy
                clear f3 hy
                go_upto_region 13 with ((go_at_call 23; (with_reducible refine (HCL.out _).mono ?_); rintro e w4 ⟨rfl, hw4⟩; obtain rfl := hw4.symm))
                obtain ⟨c0, c1, c2, z7⟩ := HB.out wr.drew KW.drew
                have kwd := HKW.out _ KW.drew
                have a1 : IntKind.i64.wrap ((i : Int) + 1) = (i : Int) + 1 := IntWalk.i64_in _ (by omega)
                have a2 : IntKind.i64.wrap ((k : Int) + 1) = (k : Int) + 1 := IntWalk.i64_in _ (by omega)
                have a3 : ((i : Int) + 1).toNat = i + 1 := by omega
                have a4 : ((k : Int) + 1).toNat = k + 1 := by omega
                have y1 : ¬ 9223372036854775807 < min i st.size + (min k st.size - (i + 1)) := by omega
                have y3 : ¬ 9223372036854775807 < i + (k - (i + 1)) := by omega
                have y4 : ¬ 9223372036854775807 < i + (k - (i + 1)) + (st.size - (k + 1)) := by omega
                have y5 : ¬ 9223372036854775807 < min i st.size + (k - (i + 1)) := by omega
                have y6 : ¬ 9223372036854775807 < min i st.size + (k - (i + 1)) + (st.size - (k + 1)) := by omega
                have y7 : ¬ 9223372036854775807 < i + (min k st.size - (i + 1)) := by omega
                have y8 : ¬ 9223372036854775807 < i + (min k st.size - (i + 1)) + (st.size - (k + 1)) := by omega
                have y2 : ¬ 9223372036854775807 < min i st.size + (min k st.size - (i + 1)) + (st.size - (k + 1)) := by omega
                go_region_held3 (fun w' => w'.cell? ⟨w.heap.size, 0, none⟩ = some (.slice a S.A.length ca) ∧ w'.cell? ⟨w.heap.size, 1, none⟩ = some (.slice f S.F.length cf) ∧ w'.cell? ⟨w.heap.size, 2, none⟩ = some (.slice c S.C.length cc))
                  (first | with_reducible exact ⟨c0, c1, c2⟩ | with_reducible exact ⟨e0, e1, e2⟩)
                  ((go_at_call 14
                    (with_reducible refine (HPM.out _ (HCUT.out _ (by simp only [ByteArray.data_append, ByteArray.data_extract, Array.toList_append, Array.toList_extract])) _ kwd).mono ?_)
                    rintro e w5 ⟨A5, c5, rfl, R5, K5⟩
                    have k5 : Keep NoF w w5 := kwd.trans K5 fun _ _ h => h
                    have Kb : Keep NoF (w.alloc (.cells #[.slice a S.A.length ca, .slice f S.F.length cf, .slice c S.C.length cc] 24)) w5 := KW.drew.trans K5 fun _ _ h => h
                    obtain ⟨e0, e1, e2, z8⟩ := HB.out w5 Kb
                    have HR5 := Lib.hid R5
                    clear R5))
                clear a1 a2 a3 a4 y1 y2 y3 y4 y5 y6 y7 y8
                go_wp2
                go_roundw
                case rel => exact ⟨i + 1, by go_num, by omega, Kb⟩
                case measure => simp only [intOf]; omega
            · have q40 : ((st[i].toNat : Int) != 40) = true := bne_iff_ne.2 fun e => h40 (UInt8.toNat_inj.1 (by rw [show (40 : UInt8).toNat = 40 from rfl]; omega))
              go_wp2
              go_roundw
              case rel => exact ⟨i + 1, by go_num, by omega, KW⟩
              case measure => simp only [intOf]; omega
          · have hi1 : ¬ (i : Int) < (st.size : Int) := by omega
            go_wp2_with (first
              | (go_at_call 11; (with_reducible refine (HAW.out _ kw).mono ?_); rintro e w9 ⟨rfl, K9⟩; have k9 := kw.trans K9 fun _ _ h => h))
            refine bodyPost_ret (v := .bool true) (by simp [results, Tryz.results7, go_sem]) rfl ?_
            exact ⟨rfl, k9⟩
    · have hx' : (x != 0) = true := by simpa using hx
      clear HSM0 HMN hx hK0
      generalize l.length = ll at *
      go_enter Tryz.func7, Tryz.ntmps7
      go_wp2_with (first
        | (go_at_call 10; (with_reducible refine (HFW.out _).mono ?_); rintro e w1 ⟨rfl, K1⟩; have k1 := HKW.out _ K1; obtain ⟨c0, c1, c2, hz1⟩ := HB.out w1 K1; clear HFW)
        | (go_at_call 12; (with_reducible refine (HPL.out _ k1).mono ?_); rintro e w2 ⟨rfl, K2⟩; have k2 := k1.trans K2 fun _ _ h => h; have K12 := K1.trans K2 fun _ _ h => h; clear HPL)
        | (go_at_call 11; (with_reducible refine (HAW.out _ k2).mono ?_); rintro e w9 ⟨rfl, K9⟩; have k9 := k2.trans K9 fun _ _ h => h))
      refine bodyPost_ret (v := .bool true) (by simp [results, Tryz.results7, go_sem]) rfl ?_
      exact ⟨rfl, k9⟩
end
end Go.Proofs.YtbidfbojealmlaaGreatDoor
