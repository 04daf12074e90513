/- The mask of names: what the reference's Group does. No condition. -/
import Derived.Test.YtcmoocemfnjkiaaDoorSgH
set_option linter.unusedVariables false
set_option linter.unusedSimpArgs false
namespace Go.Proofs.YtcmoocemfnjkiaaDoor
open Go.RowKit

theorem quiet_at {P : Program} {f : FuncId} {args : Array Value} {w : World} {a n : Nat} {v : Value} (h : Calls P f args (w.drewN (a + n)) fun e w' => e = .returned v ∧ w' = w.drewN (a + n)) : Calls P f args (w.drewN (a + n)) fun e w'' => e = .returned v ∧ ∃ m, w'' = w.drewN (a + m) :=
  h.mono fun _ _ ⟨he, hm⟩ => ⟨he, n, hm⟩
theorem bit_rem {m j : Nat} (hm : m < 16) (hj : j < 4) : (((m : Int) / 2 ^ j).tmod 2 == 1) = m.testBit j := by
  have h : ∀ (m : Fin 16) (j : Fin 4), (((m.val : Int) / 2 ^ j.val).tmod 2 == 1) = m.val.testBit j.val := by decide +kernel
  exact h ⟨m, hm⟩ ⟨j, hj⟩
theorem bit_add {m j : Nat} (hm : m < 16) (hj : j < 4) (hb : m.testBit j = false) : m + 2 ^ j < 16 ∧ wrap64 ((m : Int) + wrap64 (2 ^ j)) = ((m + 2 ^ j : Nat) : Int) := by
  have h : ∀ (m : Fin 16) (j : Fin 4), m.val.testBit j.val = false → m.val + 2 ^ j.val < 16 ∧ wrap64 ((m.val : Int) + wrap64 (2 ^ j.val)) = ((m.val + 2 ^ j.val : Nat) : Int) := by decide +kernel
  exact h ⟨m, hm⟩ ⟨j, hj⟩ hb
section
set_option maxRecDepth 100000
set_option maxHeartbeats 2000000
theorem rGroup_any (S : Sg) (a f c : Option Addr) (ca cf cc : Nat) (l : List ByteArray) (B : Option Addr) (cl : Nat) (w : World) (hS : SigR w S a ca f cf c cc) (hl : l.length ≤ 9223372036854775807) (hrd : Rd w (.slice B l.length cl) 1 l.length (strs l)) :
    Calls Tryd.prog 29 #[.agg #[.slice a S.A.length ca, .slice f S.F.length cf, .slice c S.C.length cc], .slice B l.length cl] w fun e w' => e = .returned (.tuple #[.int .i64 (groupS S l).1, .int .i64 (groupS S l).2]) ∧ Keep NoF w w' := by
  have hK0 : Keep NoF w (w.alloc (.cells (boxS S a ca f cf c cc) 24)) := (Keep.refl _ _).alloc _
  have HC := Lib.hid (rCheck_any S a f c ca cf cc _ (hS.keep hK0))
  by_cases h0 : checkS S = 0
  · have hA := (checkS_ok h0).lA
    rw [h0] at HC
    by_cases hn : l = []
    · subst hn
      rw [groupS_nil h0]
      unfold boxS at *
      go_enter Tryd.func29, Tryd.ntmps29
      go_wp2_with (go_at_call 13; (with_reducible refine HC.out.mono ?_); rintro e w1 ⟨rfl, hk1⟩; have hk := hK0.trans hk1 fun _ _ h => h)
      refine bodyPost_ret (v := .tuple #[.int .i64 0, .int .i64 1]) (by simp [results, Tryd.results29, go_sem]) rfl ?_
      exact ⟨rfl, hk⟩
    · rw [groupS_ok h0 hn]
      have hlen : ((l.length : Int) == 0) = false := by
        have : l.length ≠ 0 := fun e => hn (List.eq_nil_of_length_eq_zero e)
        simp
        omega
      have HI0 := Lib.hid (fun w1 (hk : Keep NoF w w1) x => rfind_any S.A a ca x w1 hS.lA (hS.keep hk).A)
      have HRD0 := Lib.hid (fun w1 (hk : Keep NoF w w1) => hrd.kept hk fun _ _ h => h)
      have HB := Lib.hid (fun w' => @box_cells w w' S a f c ca cf cc 24)
      generalize hr : grp S.A l 0 = r
      have HR := Lib.hid hr
      clear hr hrd
      unfold boxS at *
      clear hn
      go_enter Tryd.func29, Tryd.ntmps29
      go_wp2_with (go_at_call 13; (with_reducible refine HC.out.mono ?_); rintro e w1 ⟨rfl, hk1⟩; have hkK := hK0.trans hk1 fun _ _ h => h)
      obtain ⟨c0, c1, c2, hsz⟩ := HB.out w1 hk1
      go_loopw [7, 8] (fun v i wr => ∃ k m nq : Nat, i = .int .i64 k ∧ v = .int .i64 m ∧ k ≤ l.length ∧ m < 16 ∧ Hid (r = grp S.A (l.drop k) m) ∧ wr = w1.drewN nq) (fun _ i _ => l.length - (intOf i).toNat)
      case atStart => exact ⟨0, 0, 0, rfl, rfl, by omega, by omega, Lib.hid HR.out.symm, rfl⟩
      case round =>
        obtain ⟨k, m, nq0, rfl, rfl, hk, hm, ho, rfl⟩ := hrel
        by_cases hlt : k < l.length
        · have hx : l[k]? = some l[k] := List.getElem?_eq_getElem hlt
          obtain ⟨-, hcc, bl, off, rfl, hc⟩ := (HRD0.out w1 hkK).str hx
          have ho1 := ho.out
          rw [grp_at hx] at ho1
          clear ho hx
          generalize l[k] = x at *
          have hix := idx_cases S.A x
          have HI2 := Lib.hid (fun w2 (h2 : Keep NoF w w2) => HI0.out w2 h2 x)
          generalize Lib.idxOfS S.A x = q at *
          rcases hix with ⟨rfl, -⟩ | ⟨j, rfl, hj, -, -⟩
          · rw [if_pos (by omega)] at ho1
            have HO := Lib.hid ho1
            clear ho1
            go_wp2
            go_quiet ((go_at_call 38; exact quiet_at (HI2.out _ (hkK.drewN _))))
            go_wp2
            refine bodyPost_ret (v := .tuple #[.int .i64 0, .int .i64 6]) (by simp [results, Tryd.results29, go_sem]) rfl ?_
            exact ⟨by rw [HO.out] <;> rfl, hkK.drewN _⟩
          · rw [if_neg (by omega), Int.toNat_natCast] at ho1
            cases hb : m.testBit j with
            | true =>
              have hba := bit_rem hm (show j < 4 by omega)
              rw [hb, if_pos rfl] at ho1
              have HO := Lib.hid ho1
              rw [hb] at hba
              clear ho1 hb
              go_wp2
              go_quiet ((go_at_call 38; exact quiet_at (HI2.out _ (hkK.drewN _))))
              go_wp2
              refine bodyPost_ret (v := .tuple #[.int .i64 0, .int .i64 7]) (by simp [results, Tryd.results29, go_sem]) rfl ?_
              exact ⟨by rw [HO.out] <;> rfl, hkK.drewN _⟩
            | false =>
              have hba := bit_rem hm (show j < 4 by omega)
              rw [hb, if_neg (by simp)] at ho1
              have HO := Lib.hid ho1
              obtain ⟨h2, h3⟩ := bit_add hm (show j < 4 by omega) hb
              have H3 := Lib.hid h3
              rw [hb] at hba
              clear ho1 hb h3
              go_wp2
              go_quiet ((go_at_call 38; exact quiet_at (HI2.out _ (hkK.drewN _))))
              go_wp2
              go_roundw
              case rel => exact ⟨k + 1, m + 2 ^ j, nq0 + nq, by go_num, by rw [H3.out], by omega, h2, HO, rfl⟩
              case measure => simp only [intOf]; omega
        · obtain rfl : k = l.length := by omega
          have HO : Hid (r = (m, 0)) := Lib.hid (by rw [ho.out, List.drop_length]; rfl)
          clear ho
          go_wp2
          refine bodyPost_ret (v := .tuple #[.int .i64 m, .int .i64 0]) (by simp [results, Tryd.results29, go_sem]) rfl ?_
          exact ⟨by rw [HO.out] <;> rfl, hkK.drewN _⟩
  · rw [groupS_bad h0]
    unfold boxS at *
    generalize checkS S = n at *
    have hn : ((n : Int) != 0) = true := by simp; omega
    go_enter Tryd.func29, Tryd.ntmps29
    go_wp2_with (go_at_call 13; (with_reducible refine HC.out.mono ?_); rintro e w1 ⟨rfl, hk1⟩; have hk := hK0.trans hk1 fun _ _ h => h)
    refine bodyPost_ret (v := .tuple #[.int .i64 0, .int .i64 n]) (by simp [results, Tryd.results29, go_sem]) rfl ?_
    exact ⟨rfl, hk⟩
end
end Go.Proofs.YtcmoocemfnjkiaaDoor
