/- Whether a signature is valid: what the reference's Check does. No condition. -/
import Derived.Test.YtbidfbojealmlaaGreatDoorSgE
set_option linter.unusedVariables false
set_option linter.unusedSimpArgs false
namespace Go.Proofs.YtbidfbojealmlaaGreatDoor
open Go.RowKit

section
set_option maxRecDepth 100000
set_option maxHeartbeats 2000000
theorem rCheck_any (S : Sg) (a f c : Option Addr) (ca cf cc : Nat) (w : World) (hS : SigR w S a ca f cf c cc) :
    Calls Tryz.prog 30 #[.agg #[.slice a S.A.length ca, .slice f S.F.length cf, .slice c S.C.length cc]] w fun e w' => e = .returned (.int .i64 (checkS S)) ∧ Keep NoF w w' := by
  have hK0 : Keep NoF w (w.alloc (.cells (boxS S a ca f cf c cc) 24)) := (Keep.refl _ _).alloc _
  by_cases hlim : 4 < S.A.length ∨ 8 < S.F.length ∨ 8 < S.C.length
  · rw [checkS_lim hlim]
    unfold boxS at hK0
    have hlim2 : 4 < S.A.length ∨ (S.A.length ≤ 4 ∧ 8 < S.F.length) ∨ (S.A.length ≤ 4 ∧ S.F.length ≤ 8 ∧ 8 < S.C.length) := by omega
    clear hlim
    rcases hlim2 with h1 | ⟨h1, h2⟩ | ⟨h1, h2, h3⟩
    · go_enter Tryz.func30, Tryz.ntmps30
      go_wp2
      go_ret
      exact ⟨rfl, hK0⟩
    · go_enter Tryz.func30, Tryz.ntmps30
      go_wp2
      go_ret
      exact ⟨rfl, hK0⟩
    · go_enter Tryz.func30, Tryz.ntmps30
      go_wp2
      go_ret
      exact ⟨rfl, hK0⟩
  · obtain ⟨lA, lF, lC⟩ : S.A.length ≤ 4 ∧ S.F.length ≤ 8 ∧ S.C.length ≤ 8 := by omega
    have hsum := sum_lens S
    rw [checkS_in hlim]
    have HCC := Lib.hid (rall_any S a f c ca cf cc _ (hS.keep hK0) (by omega) (by omega) (by omega))
    have HK1 := Lib.hid hK0
    have HSZ := Lib.hid hS.sz
    clear hS hK0 hlim hsum
    unfold boxS at HCC HK1
    generalize hL : S.all = L at *
    clear hL
    generalize hr : chkN [] L = r
    have HR := Lib.hid hr
    clear hr
    go_enter Tryz.func30, Tryz.ntmps30
    go_wp2_with (go_at_call 55; (with_reducible refine HCC.out.mono ?_); rintro e w1 ⟨v, rfl, hnew⟩; obtain ⟨A, cA, rfl, hrd, hl63⟩ := hnew.cells)
    have hK2 : Keep NoF w w1 := HK1.out.trans hnew.2 fun _ _ h => h
    clear hnew HCC HK1
    go_loopw [4] (fun i wr => ∃ k : Nat, i = .int .i64 k ∧ k ≤ L.length ∧ Hid (r = chkN (L.take k) (L.drop k)) ∧ Keep NoF w1 wr) (fun i _ => L.length - (intOf i).toNat)
    case atStart => exact ⟨0, rfl, by omega, Lib.hid HR.out.symm, Keep.refl _ _⟩
    case round =>
      obtain ⟨k, rfl, hk, ho, hkr⟩ := hrel
      by_cases hlt : k < L.length
      · have hx : L[k]? = some L[k] := List.getElem?_eq_getElem hlt
        have hrd2 := hrd.kept hkr fun _ _ h => h
        obtain ⟨-, hcc, bl, off, rfl, hc⟩ := hrd2.str hx
        have ho1 := ho.out
        rw [chk_at hx] at ho1
        have hxs := HSZ.out _ (List.getElem_mem hlt)
        have HCT : Hid (∀ wq, Keep NoF w1 wq → Calls Tryz.prog 58 #[.slice (some ⟨bl, off, none⟩) L.length cA, .string L[k]] wq fun e w' => e = .returned (.int .i64 (Lib.idxOfS L L[k])) ∧ w' = wq) := Lib.hid fun wq hq =>
          rfind_any L (some ⟨bl, off, none⟩) cA L[k] wq hl63 (hrd.kept hq fun _ _ h => h)
        have HFL := Lib.hid (find_lt L k hx)
        have HC2 : Hid (∀ wq, Keep NoF wr wq → wq.cell? ⟨bl, off + k, none⟩ = some (.string L[k])) := Lib.hid fun wq hq => hq.cellv hc fun h => h
        clear ho hx hrd2
        generalize L[k] = x at *
        have HNM := Lib.hid (rIsName_any x wr hxs)
        cases hn : nameB x with
        | false =>
          rw [hn] at ho1 HNM
          have HO : Hid (r = 3) := Lib.hid ho1
          clear ho1 hn HR
          go_wp2_with (go_at_call 56; (with_reducible refine HNM.out.mono ?_); rintro e w2 ⟨rfl, hk2⟩)
          go_ret
          exact ⟨by rw [HO.out] <;> rfl, (hK2.trans hkr fun _ _ h => h).trans hk2 fun _ _ h => h⟩
        | true =>
          rw [hn, if_pos rfl] at ho1
          rw [hn] at HNM
          have HRS := Lib.hid (fun w2 => rReserved_any x w2)
          cases hv : reserved x with
          | true =>
            rw [hv, if_pos (.inl rfl)] at ho1
            rw [hv] at HRS
            have HO := Lib.hid ho1
            clear ho1 hn HR hv
            go_wp2_with (first
              | (go_at_call 56
                 (with_reducible refine HNM.out.mono ?_)
                 rintro e w2 ⟨rfl, hk2⟩
                 have hc2 := HC2.out w2 hk2
                 have hQ2 := Lib.hid (hkr.trans hk2 fun _ _ h => h))
              | (go_at_call 57; (with_reducible refine (HRS.out w2).mono ?_); rintro e w' ⟨rfl, hw'⟩; obtain rfl := hw'.symm))
            go_ret
            exact ⟨by rw [HO.out] <;> rfl, (hK2.trans hkr fun _ _ h => h).trans hk2 fun _ _ h => h⟩
          | false =>
            rw [hv] at ho1 HRS
            cases hq : Lib.containsS (L.take k) x with
            | true =>
              rw [hq, if_pos (.inr rfl)] at ho1
              have hidx : Lib.idxOfS L x < k := HFL.out.2 ((Lib.containsS_iff _ _).1 hq)
              generalize Lib.idxOfS L x = q at *
              have HO := Lib.hid ho1
              clear ho1 hn HR hv hq
              go_wp2_with (first
                | (go_at_call 56
                   (with_reducible refine HNM.out.mono ?_)
                   rintro e w2 ⟨rfl, hk2⟩
                   have hc2 := HC2.out w2 hk2
                   have hQ2 := Lib.hid (hkr.trans hk2 fun _ _ h => h))
                | (go_at_call 57; (with_reducible refine (HRS.out w2).mono ?_); rintro e w' ⟨rfl, hw'⟩; obtain rfl := hw'.symm)
                | (go_at_call 58; (with_reducible refine (HCT.out w2 hQ2.out).mono ?_); rintro e w' ⟨rfl, hw'⟩; obtain rfl := hw'.symm))
              go_ret
              exact ⟨by rw [HO.out] <;> rfl, (hK2.trans hkr fun _ _ h => h).trans hk2 fun _ _ h => h⟩
            | false =>
              rw [hq, if_neg (by simp)] at ho1
              have hidx : ¬ Lib.idxOfS L x < k := fun h => by rw [(Lib.containsS_iff _ _).2 (HFL.out.1 h)] at hq; cases hq
              generalize Lib.idxOfS L x = q at *
              have HO := Lib.hid ho1
              clear ho1 hn HR hv hq
              go_wp2_with (first
                | (go_at_call 56
                   (with_reducible refine HNM.out.mono ?_)
                   rintro e w2 ⟨rfl, hk2⟩
                   have hc2 := HC2.out w2 hk2
                   have hQ2 := Lib.hid (hkr.trans hk2 fun _ _ h => h))
                | (go_at_call 57; (with_reducible refine (HRS.out w2).mono ?_); rintro e w' ⟨rfl, hw'⟩; obtain rfl := hw'.symm)
                | (go_at_call 58; (with_reducible refine (HCT.out w2 hQ2.out).mono ?_); rintro e w' ⟨rfl, hw'⟩; obtain rfl := hw'.symm))
              go_roundw
              case rel => exact ⟨k + 1, by go_num, by omega, HO, hQ2.out⟩
              case measure => simp only [intOf]; omega
      · obtain rfl : k = L.length := by omega
        have HO : Hid (r = 0) := Lib.hid (by rw [ho.out, List.drop_length]; rfl)
        clear ho HR
        go_wp2
        go_ret
        exact ⟨by rw [HO.out] <;> rfl, hK2.trans hkr fun _ _ h => h⟩
end
end Go.Proofs.YtbidfbojealmlaaGreatDoor
