/- Whether a signature is valid: what both functions Check do. Conditions: the variables lie as they are read. -/
import Derived.Test.YtbidfbojealmlaaGreatDoorSgD
set_option linter.unusedVariables false
set_option linter.unusedSimpArgs false
namespace Go.Proofs.YtbidfbojealmlaaGreatDoor
open Go.RowKit

theorem sum_lens (S : Sg) : S.all.length = S.A.length + S.F.length + S.C.length := by simp [Sg.all, List.length_append, Nat.add_assoc]
theorem drop_at {l : List ByteArray} {k : Nat} {x : ByteArray} (h : l[k]? = some x) : l.drop k = x :: l.drop (k + 1) := by
  obtain ⟨hk, rfl⟩ := List.getElem?_eq_some_iff.1 h
  exact List.drop_eq_getElem_cons hk
theorem chk_at {l : List ByteArray} {k : Nat} {x : ByteArray} (h : l[k]? = some x) : chkN (l.take k) (l.drop k) = if nameB x = true then (if reserved x = true ∨ Lib.containsS (l.take k) x = true then 5 else chkN (l.take (k + 1)) (l.drop (k + 1))) else 3 := by
  rw [drop_at h, chkN_cons, take_snoc h]
theorem catL_sig (S : Sg) (a f c : Option Addr) (ca cf cc : Nat) : catL [(a, ca, S.A), (f, cf, S.F), (c, cc, S.C)] = S.all := by simp [catL, Sg.all]
theorem checkS_lim {S : Sg} (h : 4 < S.A.length ∨ 8 < S.F.length ∨ 8 < S.C.length) : checkS S = 8 := if_pos h
theorem checkS_in {S : Sg} (h : ¬ (4 < S.A.length ∨ 8 < S.F.length ∨ 8 < S.C.length)) : checkS S = chkN [] S.all := if_neg h
/-- The cells of a new list. -/
theorem NewL.cells {w w' : World} {l : List ByteArray} {v : Value} (h : NewL w l v w') : ∃ A c, v = .slice A l.length c ∧ Rd w' (.slice A l.length c) 1 l.length (strs l) ∧ l.length ≤ 9223372036854775807 := by
  obtain ⟨A, c, rfl⟩ := own_form h.1
  refine ⟨A, c, rfl, Rd.of_own h.1, ?_⟩
  rcases h.1.2 with ⟨_, h0⟩ | ⟨g, cap, cur, _, _, _, h1, h2, _⟩
  · omega
  · simp only [maxLen] at h2
    omega

section
set_option maxRecDepth 100000
set_option maxHeartbeats 2000000
theorem Check_any (S : Sg) (a f c : Option Addr) (ca cf cc : Nat) (w : World) (hS : SigR w S a ca f cf c cc) (hT : Tab w) :
    Calls Tryz.prog 27 #[.agg #[.slice a S.A.length ca, .slice f S.F.length cf, .slice c S.C.length cc]] w fun e w' => e = .returned (.int .i64 (checkS S)) ∧ Keep NoF w w' := by
  have hK0 : Keep NoF w (w.alloc (.cells (boxS S a ca f cf c cc) 24)) := (Keep.refl _ _).alloc _
  by_cases hlim : 4 < S.A.length ∨ 8 < S.F.length ∨ 8 < S.C.length
  · rw [checkS_lim hlim]
    unfold boxS at hK0
    have hlim2 : 4 < S.A.length ∨ (S.A.length ≤ 4 ∧ 8 < S.F.length) ∨ (S.A.length ≤ 4 ∧ S.F.length ≤ 8 ∧ 8 < S.C.length) := by omega
    clear hlim
    rcases hlim2 with h1 | ⟨h1, h2⟩ | ⟨h1, h2, h3⟩
    · go_enter Tryz.func27, Tryz.ntmps27
      go_wp2
      go_ret
      exact ⟨rfl, hK0⟩
    · go_enter Tryz.func27, Tryz.ntmps27
      go_wp2
      go_ret
      exact ⟨rfl, hK0⟩
    · go_enter Tryz.func27, Tryz.ntmps27
      go_wp2
      go_ret
      exact ⟨rfl, hK0⟩
  · obtain ⟨lA, lF, lC⟩ : S.A.length ≤ 4 ∧ S.F.length ≤ 8 ∧ S.C.length ≤ 8 := by omega
    have hsum := sum_lens S
    rw [checkS_in hlim]
    have hS1 := (hS.keep hK0)
    have hK1 : Keep NoF w ((w.alloc (.cells (boxS S a ca f cf c cc) 24)).alloc (.cells (boxS S a ca f cf c cc) 22)) := hK0.alloc _
    have hCC := Concat_any [(a, ca, S.A), (f, cf, S.F), (c, cc, S.C)] (w.heap.size + 1) 0 3 ((w.alloc (.cells (boxS S a ca f cf c cc) 24)).alloc (.cells (boxS S a ca f cf c cc) 22)) (by simp) (by rw [catL_sig]; omega) (by
      have hS2 := hS.keep hK1
      have hb := Bk.new (w.alloc (.cells (boxS S a ca f cf c cc) 24)) 22 (boxS S a ca f cf c cc)
      rw [World.size_alloc] at hb
      intro k x hx
      match k, hx with
      | 0, hx =>
        obtain rfl : (a, ca, S.A) = x := by simpa using hx
        exact ⟨(hb.cell 0).trans rfl, hS2.A⟩
      | 1, hx =>
        obtain rfl : (f, cf, S.F) = x := by simpa using hx
        exact ⟨(hb.cell 1).trans rfl, hS2.F⟩
      | 2, hx =>
        obtain rfl : (c, cc, S.C) = x := by simpa using hx
        exact ⟨(hb.cell 2).trans rfl, hS2.C⟩
      | k + 3, hx => simp at hx)
    rw [catL_sig, show [(a, ca, S.A), (f, cf, S.F), (c, cc, S.C)].length = 3 from rfl] at hCC
    have HCC := Lib.hid hCC
    have HSZ := Lib.hid hS.sz
    have HK1 := Lib.hid hK1
    clear hS hS1 hK0 hCC hlim hK1
    unfold boxS at HCC HK1
    generalize hL : S.all = L at *
    clear hL
    generalize hr : chkN [] L = r
    have HR := Lib.hid hr
    clear hr
    go_enter Tryz.func27, Tryz.ntmps27
    go_wp2_with (go_at_call 48; (with_reducible refine HCC.out.mono ?_); rintro e w1 ⟨v, rfl, hnew⟩; obtain ⟨A, cA, rfl, hrd, hl63⟩ := hnew.cells)
    have hK2 : Keep NoF w w1 := HK1.out.trans hnew.2 fun _ _ h => h
    have hT1 := hT.keep0 hK2
    clear hnew HCC HK1
    go_loopw [32] (fun i wr => ∃ k : Nat, i = .int .i64 k ∧ k ≤ L.length ∧ Hid (r = chkN (L.take k) (L.drop k)) ∧ Keep NoF w1 wr) (fun i _ => L.length - (intOf i).toNat)
    case atStart => exact ⟨0, rfl, by omega, Lib.hid HR.out.symm, Keep.refl _ _⟩
    case round =>
      obtain ⟨k, rfl, hk, ho, hkr⟩ := hrel
      by_cases hlt : k < L.length
      · have hx : L[k]? = some L[k] := List.getElem?_eq_getElem hlt
        have hrd2 := hrd.kept hkr fun _ _ h => h
        obtain ⟨-, hcc, bl, off, rfl, hc⟩ := hrd2.str hx
        have ho1 := ho.out
        rw [chk_at hx] at ho1
        have hxs := HSZ.out _ (List.getElem_mem hlt)
        have HAT := Lib.hid (hrd.at_ (by omega)).2.2
        have HCT : Hid (∀ wq, Keep NoF w1 wq → Calls Tryz.prog 51 #[.slice (some ⟨bl, off, none⟩) k cA, .string L[k]] wq fun e w' => e = .returned (.bool (Lib.containsS (L.take k) L[k])) ∧ w' = wq) := Lib.hid fun wq hq =>
          contains_any L k hk bl off cA L[k] wq hl63 fun j y hj => by
            obtain ⟨-, -, bl2, off2, he, hc2⟩ := (hrd.kept hq fun _ _ h => h).str hj
            injection he with he
            injection he with e1 e2 _
            subst e1 e2
            exact hc2
        clear ho hx hrd2 HAT
        generalize L[k] = x at *
        have HNM := Lib.hid (IsName_any x wr hxs)
        cases hn : nameB x with
        | false =>
          rw [hn] at ho1 HNM
          have HO : Hid (r = 3) := Lib.hid ho1
          clear ho1 hn HR
          go_wp2_with (go_at_call 49; (with_reducible refine HNM.out.mono ?_); rintro e w2 ⟨rfl, hk2⟩)
          go_ret
          exact ⟨by rw [HO.out] <;> rfl, (hK2.trans hkr fun _ _ h => h).trans hk2 fun _ _ h => h⟩
        | true =>
          rw [hn, if_pos rfl] at ho1
          rw [hn] at HNM
          have HRS := Lib.hid (fun w2 => Reserved_any x w2)
          cases hv : reserved x with
          | true =>
            rw [hv, if_pos (.inl rfl)] at ho1
            rw [hv] at HRS
            have HO := Lib.hid ho1
            clear ho1 hn HR hv
            go_wp2_with (first
              | (go_at_call 49
                 (with_reducible refine HNM.out.mono ?_)
                 rintro e w2 ⟨rfl, hk2⟩
                 have hT2 := Lib.hid (hT1.keep0 (hkr.trans hk2 fun _ _ h => h)))
              | (go_at_call 50; (with_reducible refine (HRS.out w2 hT2.out).mono ?_); rintro e w' ⟨rfl, hw'⟩; obtain rfl := hw'.symm))
            go_ret
            exact ⟨by rw [HO.out] <;> rfl, (hK2.trans hkr fun _ _ h => h).trans hk2 fun _ _ h => h⟩
          | false =>
            rw [hv] at ho1 HRS
            cases hq : Lib.containsS (L.take k) x with
            | true =>
              rw [hq, if_pos (.inr rfl)] at ho1
              rw [hq] at HCT
              have HO := Lib.hid ho1
              clear ho1 hn HR hv hq
              go_wp2_with (first
                | (go_at_call 49
                   (with_reducible refine HNM.out.mono ?_)
                   rintro e w2 ⟨rfl, hk2⟩
                   have hT2 := Lib.hid (hT1.keep0 (hkr.trans hk2 fun _ _ h => h))
                   have hQ2 := Lib.hid (hkr.trans hk2 fun _ _ h => h))
                | (go_at_call 50; (with_reducible refine (HRS.out w2 hT2.out).mono ?_); rintro e w' ⟨rfl, hw'⟩; obtain rfl := hw'.symm)
                | (go_at_call 51; (with_reducible refine (HCT.out w2 hQ2.out).mono ?_); rintro e w' ⟨rfl, hw'⟩; obtain rfl := hw'.symm))
              go_ret
              exact ⟨by rw [HO.out] <;> rfl, (hK2.trans hkr fun _ _ h => h).trans hk2 fun _ _ h => h⟩
            | false =>
              rw [hq, if_neg (by simp)] at ho1
              rw [hq] at HCT
              have HO := Lib.hid ho1
              clear ho1 hn HR hv hq
              go_wp2_with (first
                | (go_at_call 49
                   (with_reducible refine HNM.out.mono ?_)
                   rintro e w2 ⟨rfl, hk2⟩
                   have hT2 := Lib.hid (hT1.keep0 (hkr.trans hk2 fun _ _ h => h))
                   have hQ2 := Lib.hid (hkr.trans hk2 fun _ _ h => h))
                | (go_at_call 50; (with_reducible refine (HRS.out w2 hT2.out).mono ?_); rintro e w' ⟨rfl, hw'⟩; obtain rfl := hw'.symm)
                | (go_at_call 51; (with_reducible refine (HCT.out w2 hQ2.out).mono ?_); rintro e w' ⟨rfl, hw'⟩; obtain rfl := hw'.symm))
              go_roundw
              case rel => exact ⟨k + 1, by go_num, by omega, HO, hQ2.out⟩
              case measure => simp only [intOf]; omega
      · obtain rfl : k = L.length := by omega
        have HO : Hid (r = 0) := Lib.hid (by rw [ho.out, List.drop_length]; rfl)
        clear ho HR
        go_wp2
        go_ret
        exact ⟨by rw [HO.out] <;> rfl, hK2.trans hkr fun _ _ h => h⟩
end
end Go.Proofs.YtbidfbojealmlaaGreatDoor
