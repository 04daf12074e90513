/- The text of a group: what the reference's Text does. No condition. -/
import Derived.Test.YtbidfbojealmlaaGreatDoorSgHJ
set_option linter.unusedVariables false
set_option linter.unusedSimpArgs false
namespace Go.Proofs.YtbidfbojealmlaaGreatDoor
open Go.RowKit

section
set_option maxRecDepth 100000
set_option maxHeartbeats 2000000
theorem rText_any (S : Sg) (a f c : Option Addr) (ca cf cc : Nat) (g : Int) (w : World) (hS : SigR w S a ca f cf c cc) :
    Calls Tryz.prog 94 #[.agg #[.slice a S.A.length ca, .slice f S.F.length cf, .slice c S.C.length cc], .int .i64 g] w fun e w' => e = .returned (.tuple #[.string (textS S g).1, .int .i64 (textS S g).2]) ∧ Keep NoF w w' := by
  have hK0 : Keep NoF w (w.alloc (.cells (boxS S a ca f cf c cc) 24)) := (Keep.refl _ _).alloc _
  have HC := Lib.hid (rCheck_any S a f c ca cf cc _ (hS.keep hK0))
  have HB := Lib.hid (fun w' => @box_cells w w' S a f c ca cf cc 24)
  by_cases h0 : checkS S = 0
  · have hOk := checkS_ok h0
    have hA := hOk.lA
    obtain ⟨hpw, hp16⟩ := pow_wrap hA
    by_cases hg : g < 1 ∨ ((2 ^ S.A.length : Nat) : Int) ≤ g
    · rw [textS_out h0 hg]
      rw [h0] at HC
      unfold boxS at *
      by_cases hg1 : g < 1
      · clear hg hpw hp16
        go_enter Tryz.func94, Tryz.ntmps94
        go_wp2_with (go_at_call 30; (with_reducible refine HC.out.mono ?_); rintro e w1 ⟨rfl, hk1⟩; obtain ⟨c0, c1, c2, hsz⟩ := HB.out w1 hk1; have hk := hK0.trans hk1 fun _ _ h => h)
        refine bodyPost_ret (v := .tuple #[.string ⟨#[]⟩, .int .i64 2]) (by simp [results, Tryz.results94, go_sem]) rfl ?_
        exact ⟨rfl, hk⟩
      · have hge : wrap64 ((2 : Int) ^ S.A.length) ≤ g := by rw [hpw]; omega
        clear hg hpw hp16
        go_enter Tryz.func94, Tryz.ntmps94
        go_wp2_with (go_at_call 30; (with_reducible refine HC.out.mono ?_); rintro e w1 ⟨rfl, hk1⟩; obtain ⟨c0, c1, c2, hsz⟩ := HB.out w1 hk1; have hk := hK0.trans hk1 fun _ _ h => h)
        refine bodyPost_ret (v := .tuple #[.string ⟨#[]⟩, .int .i64 2]) (by simp [results, Tryz.results94, go_sem]) rfl ?_
        exact ⟨rfl, hk⟩
    · obtain ⟨n, rfl⟩ : ∃ n : Nat, g = n := ⟨g.toNat, by omega⟩
      have hn1 : 1 ≤ n := by omega
      have hn2 : n < 2 ^ S.A.length := by omega
      have hn16 : n < 16 := by omega
      rw [textS_in h0 hn1 hn2]
      rw [h0] at HC
      have hge : ¬ wrap64 ((2 : Int) ^ S.A.length) ≤ (n : Int) := by rw [hpw]; omega
      have HNM := Lib.hid (fun x (hx : x ∈ S.A) => name_size (hOk.name x (by simp [Sg.all, hx])).1)
      have HRD := Lib.hid (fun w1 (hk : Keep NoF w w1) => (hS.keep hk).A)
      generalize hr : joinC (sel n S.A 0) = r
      have HR := Lib.hid hr
      clear hr hg hpw hp16 hOk hn2
      unfold boxS at *
      go_enter Tryz.func94, Tryz.ntmps94
      go_wp2_with (go_at_call 30; (with_reducible refine HC.out.mono ?_); rintro e w1 ⟨rfl, hk1⟩; obtain ⟨c0, c1, c2, hsz⟩ := HB.out w1 hk1; have hkK := hK0.trans hk1 fun _ _ h => h)
      go_loopw [7, 8] (fun v i wr => ∃ (k : Nat) (b : ByteArray), i = .int .i64 k ∧ v = .string b ∧ k ≤ S.A.length ∧ Hid (b = joinC (sel n (S.A.take k) 0)) ∧ wr = w1) (fun _ i _ => S.A.length - (intOf i).toNat)
      case atStart => exact ⟨0, _, rfl, rfl, by omega, Lib.hid rfl, rfl⟩
      case round =>
        obtain ⟨k, b, rfl, rfl, hk, hb0, hw⟩ := hrel
        obtain rfl := hw.symm; clear hw
        by_cases hlt : k < S.A.length
        · have hx : S.A[k]? = some S.A[k] := List.getElem?_eq_getElem hlt
          obtain ⟨-, hcc, bl, off, rfl, hc⟩ := (HRD.out w1 hkK).str hx
          have hsel := sel_at hx n
          have hba := bit_rem hn16 (show k < 4 by omega)
          have hxs := HNM.out _ (List.mem_of_getElem? hx)
          have HP0 := Lib.hid (fun y (hy : y ∈ sel n (S.A.take k) 0) => HNM.out y (List.mem_of_mem_take (sel_sub n _ 0 y hy)))
          have hpl : (sel n (S.A.take k) 0).length ≤ 4 := by
            have := sel_len n (S.A.take k) 0
            rw [List.length_take] at this
            omega
          generalize sel n (S.A.take k) 0 = p at *
          have hbs : b.size ≤ 40 := by
            have := joinC_size p fun y hy => (HP0.out y hy).2
            rw [hb0.out]
            omega
          clear hx
          generalize S.A[k] = x at *
          cases hb : n.testBit k with
          | true =>
            rw [hb, if_pos rfl] at hsel
            rw [hb] at hba
            clear hb
            cases p with
            | nil =>
              have hbe : b = ⟨#[]⟩ := hb0.out
              subst hbe
              have HP : Hid ((⟨#[]⟩ : ByteArray) ++ x = joinC (sel n (S.A.take (k + 1)) 0)) := Lib.hid (by rw [hsel, List.nil_append, joinC_one]; apply ba_ext; simp)
              clear hsel hb0
              go_wp2
              go_roundw
              case rel => exact ⟨k + 1, _, by go_num, rfl, by omega, HP, by trivial⟩
              case measure => simp only [intOf]; omega
            | cons y q =>
              have hbe : (b.toList == []) = false := by
                rw [beq_eq_false_iff_ne, hb0.out]
                exact joinC_ne y q (HP0.out y (by simp)).1
              have HP : Hid (b ++ ⟨#[44]⟩ ++ x = joinC (sel n (S.A.take (k + 1)) 0)) := Lib.hid (by rw [hsel, joinC_snoc, hb0.out])
              clear hsel hb0
              go_wp2
              go_roundw
              case rel => exact ⟨k + 1, _, by go_num, rfl, by omega, HP, by trivial⟩
              case measure => simp only [intOf]; omega
          | false =>
            rw [hb, if_neg (by simp), List.append_nil] at hsel
            rw [hb] at hba
            have HP : Hid (b = joinC (sel n (S.A.take (k + 1)) 0)) := Lib.hid (by rw [hsel, hb0.out])
            clear hsel hb hb0
            go_wp2
            go_roundw
            case rel => exact ⟨k + 1, b, by go_num, rfl, by omega, HP, by trivial⟩
            case measure => simp only [intOf]; omega
        · obtain rfl : k = S.A.length := by omega
          have HP : Hid (b = r) := Lib.hid (by rw [hb0.out, List.take_length]; exact HR.out)
          clear hb0 HR
          go_wp2
          refine bodyPost_ret (v := .tuple #[.string b, .int .i64 0]) (by simp [results, Tryz.results94, go_sem]) rfl ?_
          exact ⟨by rw [HP.out] <;> rfl, hkK⟩
  · rw [textS_bad h0]
    unfold boxS at *
    generalize checkS S = n at *
    have hn : ((n : Int) != 0) = true := by simp; omega
    go_enter Tryz.func94, Tryz.ntmps94
    go_wp2_with (go_at_call 30; (with_reducible refine HC.out.mono ?_); rintro e w1 ⟨rfl, hk1⟩; have hk := hK0.trans hk1 fun _ _ h => h)
    refine bodyPost_ret (v := .tuple #[.string ⟨#[]⟩, .int .i64 n]) (by simp [results, Tryz.results94, go_sem]) rfl ?_
    exact ⟨rfl, hk⟩
end
end Go.Proofs.YtbidfbojealmlaaGreatDoor
