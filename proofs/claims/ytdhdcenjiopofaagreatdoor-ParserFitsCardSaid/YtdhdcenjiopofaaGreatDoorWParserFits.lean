/- The law ParserFits answers true. Conditions: the variables lie as they are read. -/
import Derived.Test.YtdhdcenjiopofaaGreatDoorPc7
import Derived.Test.YtdhdcenjiopofaaGreatDoorPc9
set_option linter.unusedVariables false
set_option linter.unusedSimpArgs false
namespace Go.Proofs.YtdhdcenjiopofaaGreatDoor
open Go.RowKit
open Fm (Nd cl checkE compactL)

theorem toks_error (l : List UInt8) : ∀ (f i q : Nat), toks l f i = .error q → q ≤ l.length
  | 0, i, q, h => by unfold toks at h; cases h
  | f + 1, i, q, h => by
    unfold toks at h
    cases hd : l.drop i with
    | nil => rw [hd] at h; cases h
    | cons b r =>
      have hlt : i < l.length := by
        false_or_by_contra
        rw [List.drop_eq_nil_of_le (by omega)] at hd
        cases hd
      rw [hd] at h
      simp only at h
      by_cases hs : spaceB b = true
      · rw [if_pos hs] at h; exact toks_error l f _ q h
      · rw [if_neg hs] at h
        by_cases hn : lenT (b :: r) = 0
        · rw [if_pos hn] at h; cases h; omega
        · rw [if_neg hn] at h
          cases hr : toks l f (i + lenT (b :: r)) with
          | error p => rw [hr] at h; cases h; exact toks_error l f _ _ hr
          | ok ts => rw [hr] at h; cases h
theorem tokF_place {t : ByteArray} {p x : Int} (h : tokF t = .error (p, x)) : 0 ≤ p ∧ p ≤ (t.size : Int) := by
  unfold tokF at h
  by_cases hs : 4000 < t.size
  · rw [if_pos hs] at h; cases h; omega
  · rw [if_neg hs] at h
    cases ht : tokens t.data.toList 0 with
    | error q =>
      rw [ht] at h; cases h
      have := toks_error _ _ _ _ ht
      rw [data_len] at this
      omega
    | ok cs => rw [ht] at h; cases h
theorem place_le {t : ByteArray} {cs : Tk} (h : tokF t = .ok cs) (m : Nat) : placeF t cs m ≤ t.size := by
  obtain ⟨_, _, h3⟩ := tokF_wrds h
  obtain ⟨h1, _⟩ := tokens_facts h3
  unfold placeF
  split
  · exact Nat.le_refl _
  · rw [List.getD_eq_getElem?_getD, List.getElem?_map]
    cases hc : cs[(tW cs).length - m]? with
    | none => exact Nat.zero_le _
    | some c =>
      have := (h1 c (List.mem_of_getElem? hc)).2.2.2
      rw [data_len] at this
      show c.1 ≤ t.size
      omega
theorem bd_S {S : Sg} (h0 : checkS S = 0) : Ps.Bd (sigP S) S.A.length S.F.length := by
  have hk := checkS_ok h0
  have h : ∀ (l : List ByteArray) (m : Nat), l.length ≤ m → ∀ t, findS S l t < (m : Int) := fun l m hl t => by
    rw [findS_ok h0]
    rcases idx_cases l t with ⟨h, _⟩ | ⟨k, h, hk, _⟩ <;> rw [h] <;> omega
  exact ⟨hk.lA, hk.lF, h S.A _ (Nat.le_refl _), h S.F _ (Nat.le_refl _), h S.C 8 hk.lC⟩
theorem fits_law (S : Sg) (t : ByteArray) : (∃ p x, parseF S t = ([], p, x) ∧ x ≠ 0 ∧ 0 ≤ p ∧ p ≤ (t.size : Int)) ∨
    ∃ l, parseF S t = (l, 0, 0) ∧ S.A.length ≤ 8 ∧ S.F.length ≤ 8 ∧ l.length ≤ 200 ∧ 0 < l.length ∧ checkE l = 0 ∧ compactL l = l ∧ QAll S.A.length S.F.length l := by
  by_cases hc : checkS S = 0
  · cases h : tokF t with
    | error px =>
      obtain ⟨p, x⟩ := px
      have hx := tokF_err h
      refine .inl ⟨p, x, ?_, hx, tokF_place h⟩
      unfold parseF
      rw [if_neg (by rw [hc]; simp), h]
    | ok cs =>
      rw [parseF_tok hc h]
      by_cases h0 : (readF (sigP S) (tW cs)).2.2 = 0
      · obtain ⟨tr, hw, hl, hr⟩ := read_zero h0
        have hv := Ps.val_form (bd_S hc) _ _ _ _ (Ps.whole_ok hw).1
        have hg := hv.good
        have hce := Fm.cl_check hg hl
        have hk := checkS_ok hc
        have := hk.lA
        refine .inr ⟨cl tr, by rw [if_pos h0, hr], by omega, hk.lF, hl, Fm.cl_pos _, hce, ?_, cl_q hv⟩
        rw [Fm.compactL_ok hce, Fm.tr_cl hg.fit]
      · have hp := place_le h (readF (sigP S) (tW cs)).2.1
        refine .inl ⟨_, _, by rw [if_neg h0], by omega, by omega, by omega⟩
  · refine .inl ⟨0, _, parseF_chk hc t, by omega, by omega, by omega⟩
theorem parse_eqF {S : Sg} {a f c : Option Addr} {ca cf cc : Nat} {t : ByteArray} {l : List Nd} {p x : Int} {w : World} (hp : parseF S t = (l, p, x)) (hS : SigR w S a ca f cf c cc) (hT : Tab w) (ht : t.size ≤ 9223372036854775807) :
    Calls Tryz.prog 7 #[.agg #[.slice a S.A.length ca, .slice f S.F.length cf, .slice c S.C.length cc], .string t] w fun e w' => ∃ (A : Option Addr) (c : Nat), e = .returned (.tuple #[.slice A l.length c, .int .i64 p, .int .i64 x]) ∧ Rd w' (.slice A l.length c) 6 l.length (fmC l) ∧ Keep NoF w w' := by
  have := Parse_any S a f c ca cf cc t w hS hT ht
  unfold ParPost at this
  rw [hp] at this
  exact this
section
set_option maxRecDepth 100000
set_option maxHeartbeats 4000000
theorem walk_ParserFits (S : Sg) (a f c : Option Addr) (ca cf cc : Nat) (t : ByteArray) (w : World) (hS : SigR w S a ca f cf c cc) (hT : Tab w) :
    Calls Tryz.prog 4 #[.agg #[.slice a S.A.length ca, .slice f S.F.length cf, .slice c S.C.length cc], .string t] w fun e w' => e = .returned (.bool true) ∧ Keep NoF w w' := by
  have hK0 : Keep NoF w (w.alloc (.cells (boxS S a ca f cf c cc) 24)) := (Keep.refl _ _).alloc _
  have HB := Lib.hid (fun w' => @box_cells w w' S a f c ca cf cc 24)
  have HS := Lib.hid hS
  have HT := Lib.hid hT
  have HFW := Lib.hid (few_any S a f c ca cf cc t _ (hS.keep hK0))
  unfold boxS at *
  clear hS hT
  have HKW : Hid (∀ v, Keep NoF (w.alloc (.cells #[.slice a S.A.length ca, .slice f S.F.length cf, .slice c S.C.length cc] 24)) v → Keep NoF w v) := Lib.hid fun v h => hK0.trans h fun _ _ h => h
  have HAW : Hid (∀ v, Keep NoF w v → _) := Lib.hid fun v (h : Keep NoF w v) => awake_any v (HT.out.keep0 h)
  clear hK0
  rcases fits_law S t with ⟨pp, px, hpf, hpx, hp0, hp1⟩ | ⟨l, hpf, ha8, hf8, hl, hl0, hce, hco, hq⟩
  · have HP := Lib.hid hpf
    have hpx' : (px != 0) = true := by simpa using hpx
    have hp2 : ¬ pp < 0 := by omega
    have hp3 : ¬ (t.size : Int) < pp := by omega
    clear hpf hpx
    go_enter Tryz.func4, Tryz.ntmps4
    go_upto_region 2 with (first
      | (go_at_call 5; (with_reducible refine HFW.out.mono ?_); rintro e w1 ⟨b, rfl, hb, K1⟩; obtain ⟨c0, c1, c2, hz1⟩ := HB.out w1 K1; have k1 := HKW.out _ K1; cases b))
    · go_wp2_with (go_at_call 6; (with_reducible refine (HAW.out w1 k1).mono ?_); rintro e w2 ⟨rfl, K2⟩)
      refine bodyPost_ret (v := .bool true) (by simp [results, Tryz.results4, go_sem]) rfl ?_
      exact ⟨rfl, k1.trans K2 fun _ _ h => h⟩
    · have ht : t.size ≤ 300 := hb trivial
      clear hb HFW
      have H1 := Lib.hid (parse_eqF HP.out (HS.out.keep k1) (HT.out.keep0 k1) (by omega))
      go_wp2_with (first
        | (go_at_call 7; (with_reducible refine H1.out.mono ?_); rintro e w2 ⟨A2, c2', rfl, R2, K2⟩; have k2 := k1.trans K2 fun _ _ h => h)
        | (go_at_call 6; (with_reducible refine (HAW.out w2 k2).mono ?_); rintro e w4 ⟨rfl, K4⟩; have k4 := k2.trans K4 fun _ _ h => h))
      refine bodyPost_ret (v := .bool true) (by simp [results, Tryz.results4, go_sem]) rfl ?_
      exact ⟨rfl, k4⟩
  · have HP := Lib.hid hpf
    have HCK := Lib.hid fun A c W h => hce ▸ fmCheck_any l A c W (by omega) h
    have HFT := Lib.hid fun A c W h => Fits_any l A c S.A.length S.F.length W (by omega) h hce ha8 hf8 (by rw [hco]; exact hq)
    have HCO := Lib.hid fun A c W h => hco ▸ Compact_any l A c W (by omega) h
    have HSN := Lib.hid fun A B c d W h1 h2 => sameNodes_any l A B c d W h1 h2 (by omega)
    have hl1 : ((l.length : Nat) : Int) ≤ 200 := by omega
    have hl2 : (0 : Int) < (l.length : Int) := by omega
    clear hpf hce hco hq
    go_enter Tryz.func4, Tryz.ntmps4
    go_upto_region 2 with (first
      | (go_at_call 5; (with_reducible refine HFW.out.mono ?_); rintro e w1 ⟨b, rfl, hb, K1⟩; obtain ⟨c0, c1, c2, hz1⟩ := HB.out w1 K1; have k1 := HKW.out _ K1; cases b))
    · go_wp2_with (go_at_call 6; (with_reducible refine (HAW.out w1 k1).mono ?_); rintro e w2 ⟨rfl, K2⟩)
      refine bodyPost_ret (v := .bool true) (by simp [results, Tryz.results4, go_sem]) rfl ?_
      exact ⟨rfl, k1.trans K2 fun _ _ h => h⟩
    · have ht : t.size ≤ 300 := hb trivial
      clear hb HFW
      have H1 := Lib.hid (parse_eqF HP.out (HS.out.keep k1) (HT.out.keep0 k1) (by omega))
      have HB' := Lib.hid fun w' (h : Keep NoF w1 w') => HB.out w' (K1.trans h fun _ _ h => h)
      go_wp2_with (first
        | (go_at_call 7; (with_reducible refine H1.out.mono ?_); rintro e w2 ⟨A2, c2', rfl, R2, K2⟩; have k2 := k1.trans K2 fun _ _ h => h; have HR2 := Lib.hid R2; clear R2)
        | (go_at_call 10; (with_reducible refine (HCK.out _ _ _ HR2.out).mono ?_); rintro e w3 ⟨rfl, K3⟩; have q3 := K3; have k3 := k2.trans K3 fun _ _ h => h; obtain ⟨d0, d1, d2, hz3⟩ := HB'.out w3 (K2.trans K3 fun _ _ h => h))
        | (go_at_call 11; (with_reducible refine (HFT.out _ _ _ (HR2.out.kept q3 fun _ _ h => h)).mono ?_); rintro e w4 ⟨rfl, K4⟩; have q4 := q3.trans K4 fun _ _ h => h; have k4 := k3.trans K4 fun _ _ h => h)
        | (go_at_call 12; (with_reducible refine (HCO.out _ _ _ (HR2.out.kept q4 fun _ _ h => h)).mono ?_); rintro e w5 ⟨A5, c5, rfl, R5, K5, F5⟩; have q5 := q4.trans K5 fun _ _ h => h; have k5 := k4.trans K5 fun _ _ h => h; have HR5 := Lib.hid R5; clear R5 F5)
        | (go_at_call 9; (with_reducible refine (HSN.out _ _ _ _ _ HR5.out (HR2.out.kept q5 fun _ _ h => h)).mono ?_); rintro e w6 ⟨rfl, K6⟩; have k6 := k5.trans K6 fun _ _ h => h)
        | (go_at_call 6; (with_reducible refine (HAW.out w6 k6).mono ?_); rintro e w7 ⟨rfl, K7⟩; have k7 := k6.trans K7 fun _ _ h => h))
      refine bodyPost_ret (v := .bool true) (by simp [results, Tryz.results4, go_sem]) rfl ?_
      exact ⟨rfl, k7⟩
end
end Go.Proofs.YtdhdcenjiopofaaGreatDoor
