/- The law PrinterNames answers true. Conditions: the variables lie as they are read. -/
import Derived.Test.YtbidfbojealmlaaGreatDoorPrN
import Derived.BigQuiet
set_option linter.unusedVariables false
set_option linter.unusedSimpArgs false
namespace Go.Proofs.YtbidfbojealmlaaGreatDoor
open Go.RowKit
open Fm (Nd cl checkE compactL tr)
theorem bit_ask8 {m j : Nat} (hm : m < 256) (hj : j < 8) : (bits BinOp.and IntKind.i64 ((m : Int) / 2 ^ j) 1 == 1) = m.testBit j := by
  have h : ∀ (m : Fin 256) (j : Fin 8), (bits BinOp.and IntKind.i64 ((m.val : Int) / 2 ^ j.val) 1 == 1) = m.val.testBit j.val := by decide +kernel
  exact h ⟨m, hm⟩ ⟨j, hj⟩
theorem Rd.str' {w : World} {A : Option Addr} {n c m : Nat} {l : List ByteArray} (h : Rd w (.slice A n c) 1 m (strs l)) (hm : m = l.length) {k : Nat} {x : ByteArray} (hk : l[k]? = some x) : n = l.length ∧ n ≤ c ∧ ∃ bl off, A = some ⟨bl, off, none⟩ ∧ w.cell? ⟨bl, off + k, none⟩ = some (.string x) := by
  subst hm
  exact h.str hk
theorem tok_few {t : ByteArray} {cs : Tk} (h : tokF t = .ok cs) : cs.length ≤ 4000 := by
  unfold tokF at h
  by_cases hs : 4000 < t.size
  · rw [if_pos hs] at h; cases h
  · rw [if_neg hs] at h
    cases ht : tokens t.data.toList 0 with
    | error p => rw [ht] at h; cases h
    | ok cs' =>
      rw [ht] at h; cases h
      have := (tokens_facts ht).2
      rw [data_len] at this
      omega
theorem tokens7_ok {t : ByteArray} {cs : Tk} (h : tokF t = .ok cs) (ht : t.size ≤ 9223372036854775807) (w : World) : Calls Tryz.prog 17 #[.string t] w fun e w' => ∃ (A : Option Addr) (c : Nat) (B : Option Addr) (d : Nat), e = .returned (.tuple #[.slice A cs.length c, .slice B cs.length d, .int .i64 0, .int .i64 0]) ∧
    Rd w' (.slice A cs.length c) 1 cs.length (strs (tW cs)) ∧ Rd w' (.slice B cs.length d) 1 cs.length (tA cs) ∧ Keep NoF w w' := by
  refine (Tokens_any t ht w).mono ?_
  rintro e w' ⟨cs', A, c, B, d, p, x, rfl, r1, r2, hk, hT⟩
  have h1 := hT.tokF
  rw [h] at h1
  by_cases hx : x = 0
  · rw [if_pos hx] at h1
    obtain rfl : cs = cs' := by cases h1; rfl
    have hp : p = 0 := by
      rcases hT with ⟨_, _, _, h⟩ | ⟨_, ⟨_, _, _, _, h⟩ | ⟨_, h3, _⟩⟩
      · omega
      · omega
      · exact h3
    exact ⟨A, c, B, d, by rw [hx, hp], r1, r2, hk⟩
  · rw [if_neg hx] at h1; cases h1
section
set_option maxRecDepth 100000
set_option maxHeartbeats 4000000
theorem walk_PrinterNames (S : Sg) (a f c : Option Addr) (ca cf cc : Nat) (l : List Nd) (A : Option Addr) (cA : Nat) (w : World) (hS : SigR w S a ca f cf c cc) (hll : l.length ≤ 9223372036854775807) (hrd : Rd w (.slice A l.length cA) 6 l.length (fmC l)) (hT : Tabs w) :
    Calls Tryz.prog 5 #[.agg #[.slice a S.A.length ca, .slice f S.F.length cf, .slice c S.C.length cc], .slice A l.length cA] w fun e w' => e = .returned (.bool true) ∧ Keep NoF w w' := by
  have hK0 : Keep NoF w (w.alloc (.cells (boxS S a ca f cf c cc) 24)) := (Keep.refl _ _).alloc _
  have HB := Lib.hid (fun w' => @box_cells w w' S a f c ca cf cc 24)
  have HS := Lib.hid hS
  have HT := Lib.hid hT
  have HKW : Hid (∀ v, Keep NoF (w.alloc (.cells (boxS S a ca f cf c cc) 24)) v → Keep NoF w v) := Lib.hid fun v h => hK0.trans h fun _ _ h => h
  have HAW : Hid (∀ v, Keep NoF w v → _) := Lib.hid fun v (h : Keep NoF w v) => awake7_any v (HT.out.keep0 h)
  have HFW := Lib.hid fun W => fewP_any S a f c ca cf cc l.length A cA W
  obtain ⟨⟨s, x⟩, hpf⟩ : ∃ r, printF S l = r := ⟨_, rfl⟩
  have hle : s.length ≤ 4000 := by
    have := printF_len S l
    rwa [hpf] at this
  have HPL := Lib.hid fun W (hk : Keep NoF w W) => print_eq hpf (hS.keep hk) (hT.keep0 hk) hll (hrd.kept hk fun _ _ h => h)
  have hsz : (txt s).size ≤ 4000 := by rw [txt_size]; exact hle
  have HFT0 := Lib.hid fun W (hk : Keep NoF w W) h1 h2 => Fits_ex l A cA S.A.length S.F.length W hll (hrd.kept hk fun _ _ h => h) h1 h2
  have HMA := Lib.hid fun W (hk : Keep NoF w W) => fmAgents_ex l A cA W hll (hrd.kept hk fun _ _ h => h) compact_own
  have HMF := Lib.hid fun W (hk : Keep NoF w W) => fmFacts_ex l A cA W hll (hrd.kept hk fun _ _ h => h) compact_own
  have HP := Lib.hid hpf
  unfold boxS at *
  clear hS hT hrd hpf hle
  generalize (decide (l.length ≤ 60) && fewB S) = b at *
  cases b with
  | false =>
    clear HFT0 HMA HMF HP HPL hK0
    generalize l.length = ll at *
    go_enter Tryz.func5, Tryz.ntmps5
    go_wp2_with (first
      | (go_at_call 10; (with_reducible refine (HFW.out _).mono ?_); rintro e w1 ⟨rfl, K1⟩; have k1 := HKW.out _ K1; obtain ⟨c0, c1, c2, hz1⟩ := HB.out w1 K1)
      | (go_at_call 11; (with_reducible refine (HAW.out _ k1).mono ?_); rintro e w9 ⟨rfl, K9⟩; have k9 := k1.trans K9 fun _ _ h => h))
    refine bodyPost_ret (v := .bool true) (by simp [results, Tryz.results5, go_sem]) rfl ?_
    exact ⟨rfl, k9⟩
  | true =>
    by_cases hx : x = 0
    · subst hx
      obtain ⟨⟨cs, hcs, hpw⟩, hfit, hlF, hlA⟩ := names_law HP.out
      have hcl := tok_few hcs
      have hk := checkS_ok (printF_ok HP.out).1
      have lA := hk.lA
      have lF := hk.lF
      clear hk
      rw [← hpw] at hlF hlA
      have HLF := Lib.hid hlF
      have HLA := Lib.hid hlA
      have HFT : Hid (∀ W, Keep NoF w W → Calls Tryz.prog 18 #[.slice A l.length cA, .int .i64 (S.A.length : Int), .int .i64 (S.F.length : Int)] W fun e w' => e = .returned (.bool true) ∧ Keep NoF W w') := Lib.hid fun W hk => hfit ▸ HFT0.out W hk (by omega) lF
      have hfm : orA (compactL l) < 256 ∧ orF (compactL l) < 256 := ⟨(orA_lt (b := 8)).2 fun n hn => mA_lt (compact_own n hn), (orF_lt (b := 8)).2 fun n hn => mF_lt (compact_own n hn)⟩
      obtain ⟨hoA, hoF⟩ := hfm
      have HTK := Lib.hid fun W => tokens7_ok hcs (by omega) W
      clear hlF hlA hpw hfit hcs HFT0 HP hK0
      generalize txt s = st at *
      generalize orA (compactL l) = ma at *
      generalize orF (compactL l) = mf at *
      generalize l.length = ll at *
      go_enter Tryz.func5, Tryz.ntmps5
      go_wp2_with (first
        | (go_at_call 10; (with_reducible refine (HFW.out _).mono ?_); rintro e w1 ⟨rfl, K1⟩; have k1 := HKW.out _ K1; obtain ⟨c0, c1, c2, hz1⟩ := HB.out w1 K1; clear HFW)
        | (go_at_call 12; (with_reducible refine (HPL.out _ k1).mono ?_); rintro e w2 ⟨rfl, K2⟩; have k2 := k1.trans K2 fun _ _ h => h; have K12 := K1.trans K2 fun _ _ h => h; obtain ⟨d0, d1, d2, hz2⟩ := HB.out w2 K12; clear HPL)
        | (go_at_call 17; (with_reducible refine (HTK.out w2).mono ?_); rintro e w3 ⟨A3, c3, B3, d3, rfl, R3, Q3, K3⟩; have k3 := k2.trans K3 fun _ _ h => h; have K13 := K12.trans K3 fun _ _ h => h; obtain ⟨e0, e1, e2, hz3⟩ := HB.out w3 K13; have HR3 := Lib.hid R3; clear R3 Q3)
        | (go_at_call 18; (with_reducible refine (HFT.out _ k3).mono ?_); rintro e w4 ⟨rfl, K4⟩; have k4 := k3.trans K4 fun _ _ h => h; have K14 := K13.trans K4 fun _ _ h => h; have HR4 := Lib.hid (HR3.out.kept K4 fun _ _ h => h); clear HR3 HFT))
      clear c0 c1 c2 d0 d1 d2 e0 e1 e2
      go_loopw [11] (fun iv wr => ∃ i : Nat, iv = .int .i64 i ∧ i ≤ S.F.length ∧ Keep NoF w4 wr) (fun iv _ => S.F.length - (intOf iv).toNat)
      case atStart => exact ⟨0, rfl, by omega, Keep.refl _ _⟩
      case round =>
        obtain ⟨i, rfl, hi, hkr⟩ := hrel
        have KW := K14.trans hkr fun _ _ h => h
        have kw := HKW.out _ KW
        obtain ⟨c0, c1, c2, hz5⟩ := HB.out _ KW
        by_cases hlt : i < S.F.length
        · have hi1 : (i : Int) < (S.F.length : Int) := by omega
          have hi0 : (0 : Int) ≤ (i : Int) := by omega
          have hi31 : (i : Int) < 31 := by omega
          have hx : S.F[i]? = some S.F[i] := List.getElem?_eq_getElem hlt
          obtain ⟨-, hcc, bl, off, hA0, hc⟩ := (HS.out.keep kw).F.str hx
          have hba := bit_ask8 hoF (show i < 8 by omega)
          rw [← HLF.out i _ hx] at hba
          clear hx
          generalize S.F[i] = x at *
          subst hA0
          have a1 : IntKind.u64.wrap (i : Int) = (i : Int) := IntWalk.u64_in _ ⟨by omega, by omega⟩
          go_wp2
          go_loopw [12, 13] (fun bv kv wi => ∃ k : Nat, kv = .int .i64 k ∧ k ≤ cs.length ∧ bv = .bool (fnd ((tW cs).take k) x) ∧ Keep NoF wr wi) (fun _ kv _ => cs.length - (intOf kv).toNat)
          case atStart => exact ⟨0, rfl, by omega, rfl, Keep.refl _ _⟩
          case round =>
            obtain ⟨k, rfl, hk, rfl, hki⟩ := hrel
            have KWi := KW.trans hki fun _ _ h => h
            have kwi := HKW.out _ KWi
            clear c0 c1 c2 hz5
            obtain ⟨c0, c1, c2, hz5⟩ := HB.out _ KWi
            have hci := hki.cellv hc fun h => h
            by_cases hkl : k < cs.length
            · have hk1 : (k : Int) < (cs.length : Int) := by omega
              have hk0 : (0 : Int) ≤ (k : Int) := by omega
              have hy : (tW cs)[k]? = some ((tW cs)[k]'(by rw [tW_len]; exact hkl)) := List.getElem?_eq_getElem _
              obtain ⟨-, hcc3, bl3, off3, hA3, hc3⟩ := (HR4.out.kept (hkr.trans hki fun _ _ h => h) fun _ _ h => h).str' (tW_len cs).symm hy
              have hsn := fnd_snoc hy x
              clear hy
              generalize (tW cs)[k]'(by rw [tW_len]; exact hkl) = y at *
              subst hA3
              have HSN := Lib.hid hsn
              clear hsn
              cases hb : fnd ((tW cs).take k) x with
              | true =>
                have HB1 : Hid (fnd ((tW cs).take (k + 1)) x = true) := Lib.hid (by rw [HSN.out, hb]; rfl)
                clear hb
                go_wp2
                go_quiet (fail)
                go_wp2
                go_roundw
                case rel => exact ⟨k + 1, by go_num, by omega, by rw [HB1.out], hki.drewN _⟩
                case measure => simp only [intOf]; omega
              | false =>
                have HB1 : Hid (fnd ((tW cs).take (k + 1)) x = (y.toList == x.toList)) := Lib.hid (by rw [HSN.out, hb]; rfl)
                clear hb
                go_wp2
                go_quiet (fail)
                go_wp2
                go_roundw
                case rel => exact ⟨k + 1, by go_num, by omega, by rw [HB1.out], hki.drewN _⟩
                case measure => simp only [intOf]; omega
            · have hk1 : ¬ (k : Int) < (cs.length : Int) := by omega
              have HE : Hid (fnd ((tW cs).take k) x = fnd (tW cs) x) := Lib.hid (by rw [List.take_of_length_le (by rw [tW_len]; omega)])
              rw [HE.out]
              generalize fnd (tW cs) x = b at *
              have hbb : (b != b) = false := by simp
              go_wp2_with (go_at_call 19; (with_reducible refine (HMF.out _ kwi).mono ?_); rintro e w6 ⟨rfl, K6⟩)
              go_roundw
              case rel => exact ⟨i + 1, by go_num, by omega, (hkr.trans hki fun _ _ h => h).trans K6 fun _ _ h => h⟩
              case measure => simp only [intOf]; omega
        · have hi1 : ¬ (i : Int) < (S.F.length : Int) := by omega
          have KW0 := KW
          go_wp2
          clear c0 c1 c2 hz5 hi1
          go_loopw [14] (fun iv wr => ∃ i : Nat, iv = .int .i64 i ∧ i ≤ S.A.length ∧ Keep NoF w4 wr) (fun iv _ => S.A.length - (intOf iv).toNat)
          case atStart => exact ⟨0, rfl, by omega, hkr⟩
          case round =>
            obtain ⟨i, rfl, hi, hkr⟩ := hrel
            have KW := K14.trans hkr fun _ _ h => h
            have kw := HKW.out _ KW
            obtain ⟨c0, c1, c2, hz5⟩ := HB.out _ KW
            by_cases hlt : i < S.A.length
            · have hi1 : (i : Int) < (S.A.length : Int) := by omega
              have hi0 : (0 : Int) ≤ (i : Int) := by omega
              have hi31 : (i : Int) < 31 := by omega
              have hx : S.A[i]? = some S.A[i] := List.getElem?_eq_getElem hlt
              obtain ⟨-, hcc, bl, off, hA0, hc⟩ := (HS.out.keep kw).A.str hx
              have hba := bit_ask8 hoA (show i < 8 by omega)
              rw [← HLA.out i _ hx] at hba
              clear hx
              generalize S.A[i] = x at *
              subst hA0
              have a1 : IntKind.u64.wrap (i : Int) = (i : Int) := IntWalk.u64_in _ ⟨by omega, by omega⟩
              go_wp2
              go_loopw [15, 16] (fun bv kv wi => ∃ k : Nat, kv = .int .i64 k ∧ k ≤ cs.length ∧ bv = .bool (fnd ((tW cs).take k) x) ∧ Keep NoF wr wi) (fun _ kv _ => cs.length - (intOf kv).toNat)
              case atStart => exact ⟨0, rfl, by omega, rfl, Keep.refl _ _⟩
              case round =>
                obtain ⟨k, rfl, hk, rfl, hki⟩ := hrel
                have KWi := KW.trans hki fun _ _ h => h
                have kwi := HKW.out _ KWi
                clear c0 c1 c2 hz5
                obtain ⟨c0, c1, c2, hz5⟩ := HB.out _ KWi
                have hci := hki.cellv hc fun h => h
                by_cases hkl : k < cs.length
                · have hk1 : (k : Int) < (cs.length : Int) := by omega
                  have hk0 : (0 : Int) ≤ (k : Int) := by omega
                  have hy : (tW cs)[k]? = some ((tW cs)[k]'(by rw [tW_len]; exact hkl)) := List.getElem?_eq_getElem _
                  obtain ⟨-, hcc3, bl3, off3, hA3, hc3⟩ := (HR4.out.kept (hkr.trans hki fun _ _ h => h) fun _ _ h => h).str' (tW_len cs).symm hy
                  have hsn := fnd_snoc hy x
                  clear hy
                  generalize (tW cs)[k]'(by rw [tW_len]; exact hkl) = y at *
                  subst hA3
                  have HSN := Lib.hid hsn
                  clear hsn
                  cases hb : fnd ((tW cs).take k) x with
                  | true =>
                    have HB1 : Hid (fnd ((tW cs).take (k + 1)) x = true) := Lib.hid (by rw [HSN.out, hb]; rfl)
                    clear hb
                    go_wp2
                    go_quiet (fail)
                    go_wp2
                    go_roundw
                    case rel => exact ⟨k + 1, by go_num, by omega, by rw [HB1.out], hki.drewN _⟩
                    case measure => simp only [intOf]; omega
                  | false =>
                    have HB1 : Hid (fnd ((tW cs).take (k + 1)) x = (y.toList == x.toList)) := Lib.hid (by rw [HSN.out, hb]; rfl)
                    clear hb
                    go_wp2
                    go_quiet (fail)
                    go_wp2
                    go_roundw
                    case rel => exact ⟨k + 1, by go_num, by omega, by rw [HB1.out], hki.drewN _⟩
                    case measure => simp only [intOf]; omega
                · have hk1 : ¬ (k : Int) < (cs.length : Int) := by omega
                  have HE : Hid (fnd ((tW cs).take k) x = fnd (tW cs) x) := Lib.hid (by rw [List.take_of_length_le (by rw [tW_len]; omega)])
                  rw [HE.out]
                  generalize fnd (tW cs) x = b at *
                  have hbb : (b != b) = false := by simp
                  go_wp2_with (go_at_call 20; (with_reducible refine (HMA.out _ kwi).mono ?_); rintro e w6 ⟨rfl, K6⟩)
                  go_roundw
                  case rel => exact ⟨i + 1, by go_num, by omega, (hkr.trans hki fun _ _ h => h).trans K6 fun _ _ h => h⟩
                  case measure => simp only [intOf]; omega
            · have hi1 : ¬ (i : Int) < (S.A.length : Int) := by omega
              go_wp2_with (first
                | (go_at_call 11; (with_reducible refine (HAW.out _ kw).mono ?_); rintro e w9 ⟨rfl, K9⟩; have k9 := kw.trans K9 fun _ _ h => h))
              refine bodyPost_ret (v := .bool true) (by simp [results, Tryz.results5, go_sem]) rfl ?_
              exact ⟨rfl, k9⟩
    · have hx' : (x != 0) = true := by simpa using hx
      obtain rfl := printF_err HP.out hx
      rw [show txt [] = ⟨#[]⟩ from rfl] at HPL
      clear HFT0 HMA HMF HP hx hK0
      generalize l.length = ll at *
      go_enter Tryz.func5, Tryz.ntmps5
      go_wp2_with (first
        | (go_at_call 10; (with_reducible refine (HFW.out _).mono ?_); rintro e w1 ⟨rfl, K1⟩; have k1 := HKW.out _ K1; obtain ⟨c0, c1, c2, hz1⟩ := HB.out w1 K1; clear HFW)
        | (go_at_call 12; (with_reducible refine (HPL.out _ k1).mono ?_); rintro e w2 ⟨rfl, K2⟩; have k2 := k1.trans K2 fun _ _ h => h; have K12 := K1.trans K2 fun _ _ h => h; obtain ⟨d0, d1, d2, hz2⟩ := HB.out w2 K12; clear HPL)
        | (go_at_call 11; (with_reducible refine (HAW.out _ k2).mono ?_); rintro e w9 ⟨rfl, K9⟩; have k9 := k2.trans K9 fun _ _ h => h))
      refine bodyPost_ret (v := .bool true) (by simp [results, Tryz.results5, go_sem]) rfl ?_
      exact ⟨rfl, k9⟩
end
end Go.Proofs.YtbidfbojealmlaaGreatDoor
