/- The parts of a text between commas: the library's Split, and ContainsFunc with the program's function. Conditions: the library's variables lie as they are read. -/
import Derived.Test.YtcmoocemfnjkiaaDoorSgH
import Derived.Lib.SplitLaws
import Derived.Lib.IndexBytes
set_option linter.unusedVariables false
set_option linter.unusedSimpArgs false
namespace Go.Proofs.YtcmoocemfnjkiaaDoor
open Go.RowKit

theorem index_cons (b : UInt8) (l : List UInt8) (h : b ≠ 44) : Lib.index (b :: l) [44] = if Lib.index l [44] == -1 then -1 else Lib.index l [44] + 1 := by
  have hp : ([44] : List UInt8).isPrefixOf (b :: l) = false := by simp [List.isPrefixOf, Ne.symm h]
  rw [Lib.index, hp]
  simp
/-- The library's cut is this cut. -/
theorem split_flds : ∀ l : List UInt8, Lib.splitK [44] 0 (Lib.count l [44]) l = flds l
  | [] => rfl
  | b :: l => by
    have ih := split_flds l
    by_cases h : b = 44
    · subst h
      rw [Lib.count_cons_eq, Nat.add_comm]
      have hix : Lib.index (44 :: l) [44] = 0 := by rw [Lib.index]; simp [List.isPrefixOf]
      unfold Lib.splitK flds
      rw [hix, if_pos rfl]
      simpa using ih
    · rw [Lib.count_cons_ne _ _ _ h]
      have hix := index_cons b l h
      unfold flds
      rw [if_neg h]
      cases hk : Lib.count l [44] with
      | zero =>
        rw [hk] at ih
        rw [← ih]
        rfl
      | succ k =>
        rw [hk] at ih
        have hge := Lib.index_ge l [44]
        by_cases hm : Lib.index l [44] = -1
        · have := Lib.count_miss hm
          omega
        · obtain ⟨j, hj⟩ : ∃ j : Nat, Lib.index l [44] = j := ⟨(Lib.index l [44]).toNat, by omega⟩
          have hix' : Lib.index (b :: l) [44] = ((j + 1 : Nat) : Int) := by rw [hix, if_neg (fun e => hm (beq_iff_eq.1 e)), hj]; omega
          have e1 : ((((j + 1 : Nat) : Int)) == -1) = false := by rw [beq_eq_false_iff_ne]; omega
          have e2 : (((j : Nat) : Int) == -1) = false := by rw [beq_eq_false_iff_ne]; omega
          unfold Lib.splitK at ih ⊢
          rw [hj, e2] at ih
          rw [hix', e1, ← ih]
          simp
theorem flds_len : ∀ (l : List UInt8) (f : List UInt8), f ∈ flds l → f.length ≤ l.length
  | [], f, h => by
    have : f = [] := by simpa [flds] using h
    subst this
    simp
  | b :: l, f, h => by
    by_cases hb : b = 44
    · subst hb
      rw [flds_sp] at h
      rcases List.mem_cons.1 h with rfl | h
      · simp
      · have := flds_len l f h
        simp
        omega
    · rw [flds_ch _ hb] at h
      rcases List.mem_cons.1 h with rfl | h
      · have := flds_len l ((flds l).headD []) (by rw [flds_ne l]; simp)
        rw [List.length_cons, List.length_cons]
        omega
      · have := flds_len l f (by rw [flds_ne l]; exact List.mem_cons_of_mem _ h)
        simp
        omega
theorem flds_count : ∀ l : List UInt8, (flds l).length ≤ l.length + 1
  | [] => by simp [flds]
  | b :: l => by
    have := flds_count l
    by_cases hb : b = 44
    · subst hb
      rw [flds_sp, List.length_cons, List.length_cons]
      omega
    · rw [flds_ne l, List.length_cons] at this
      rw [flds_ch _ hb, List.length_cons, List.length_cons]
      omega
theorem parts_size (t : ByteArray) : ∀ x ∈ partsS t, x.size ≤ t.size := by
  intro x hx
  obtain ⟨f, hf, rfl⟩ := List.mem_map.1 hx
  have := flds_len _ f hf
  rw [data_len] at this
  rwa [txt_size]
theorem parts_len (t : ByteArray) : (partsS t).length ≤ t.size + 1 ∧ 1 ≤ (partsS t).length := by
  unfold partsS
  rw [List.length_map]
  have h1 := flds_count t.data.toList
  rw [data_len] at h1
  refine ⟨h1, ?_⟩
  rw [flds_ne, List.length_cons]
  omega
theorem split_any (s : ByteArray) (w : World) (hs : s.size ≤ 100000) (ht : Tab w) :
    Calls Tryd.prog 34 #[.string s, .string ⟨#[44]⟩] w fun e w' => e = .returned (.slice (some ⟨w.heap.size, 0, none⟩) (partsS s).length (partsS s).length) ∧ w' = w.alloc (.cells (strs (partsS s)).toArray 9) := by
  obtain ⟨m, hm⟩ := ht.2
  have h := Tryd.strings_Split s ⟨#[44]⟩ m w (by omega) hm (by decide)
  have hd : Lib.splitB ⟨#[44]⟩ 0 (Lib.countB s ⟨#[44]⟩) s = partsS s := by
    have e : (Lib.splitB ⟨#[44]⟩ 0 (Lib.countB s ⟨#[44]⟩) s).map (·.data.toList) = flds s.data.toList := by
      rw [Lib.splitB_data]
      exact split_flds _
    unfold partsS
    rw [← e, List.map_map]
    conv => lhs; rw [← List.map_id (Lib.splitB ⟨#[44]⟩ 0 (Lib.countB s ⟨#[44]⟩) s)]
    exact List.map_congr_left fun x _ => (txt_data x).symm
  have hl : (Lib.splitB ⟨#[44]⟩ 0 (Lib.countB s ⟨#[44]⟩) s).length = Lib.countB s ⟨#[44]⟩ + 1 := Lib.splitB_all _ (by decide) 0 _ s rfl
  rw [hd] at hl h
  rw [hl]
  exact h

section
set_option maxRecDepth 100000
set_option maxHeartbeats 2000000
theorem IndexFunc_any (l : List ByteArray) (A : Option Addr) (c : Nat) (w : World) (hl : l.length ≤ 9223372036854775807) (hs : ∀ x ∈ l, x.size ≤ 9223372036854775807) (hrd : Rd w (.slice A l.length c) 1 l.length (strs l)) :
    Calls Tryd.prog 61 #[.slice A l.length c, .func (.func 46) #[] #[]] w fun e w' => ∃ n : Int, e = .returned (.int .i64 n) ∧ (0 ≤ n ↔ l.all nameB = false) ∧ Keep NoF w w' := by
  generalize hr : l.all nameB = r
  have HR := Lib.hid hr
  clear hr
  have HS := Lib.hid hs
  go_enter Tryd.func61, Tryd.ntmps61
  go_wp2
  go_loopw [8] (fun i wr => ∃ k : Nat, i = .int .i64 k ∧ k ≤ l.length ∧ Hid ((l.drop k).all nameB = r) ∧ Keep NoF w wr) (fun i _ => l.length - (intOf i).toNat)
  case atStart => exact ⟨0, rfl, by omega, Lib.hid HR.out, Keep.refl _ _⟩
  case round =>
    obtain ⟨k, rfl, hk, ho, hkr⟩ := hrel
    by_cases hlt : k < l.length
    · have hx : l[k]? = some l[k] := List.getElem?_eq_getElem hlt
      obtain ⟨-, hcc, bl, off, rfl, hc⟩ := (hrd.kept hkr fun _ _ h => h).str hx
      have ho1 := ho.out
      rw [drop_at hx, List.all_cons] at ho1
      have HP := Lib.hid (Parse1_any l[k] wr (HS.out _ (List.getElem_mem hlt)))
      clear ho hx HR
      generalize l[k] = x at *
      cases hn : nameB x with
      | false =>
        rw [hn] at ho1 HP
        have HO : Hid (r = false) := Lib.hid ho1.symm
        clear ho1 hn
        go_wp2_with (go_at_call 46; (with_reducible refine HP.out.mono ?_); rintro e w2 ⟨rfl, hk2⟩)
        go_ret
        exact ⟨(k : Int), rfl, by rw [HO.out]; simp, hkr.trans hk2 fun _ _ h => h⟩
      | true =>
        rw [hn, Bool.true_and] at ho1
        rw [hn] at HP
        have HO := Lib.hid ho1
        clear ho1 hn
        go_wp2_with (go_at_call 46; (with_reducible refine HP.out.mono ?_); rintro e w2 ⟨rfl, hk2⟩)
        go_roundw
        case rel => exact ⟨k + 1, by go_num, by omega, HO, hkr.trans hk2 fun _ _ h => h⟩
        case measure => simp only [intOf]; omega
    · obtain rfl : k = l.length := by omega
      have HO : Hid (r = true) := Lib.hid (by rw [← ho.out, List.drop_length]; rfl)
      clear ho HR
      go_wp2
      go_ret
      exact ⟨(-1 : Int), rfl, by rw [HO.out]; simp, hkr⟩
theorem ContainsFunc_any (l : List ByteArray) (A : Option Addr) (c : Nat) (w : World) (hl : l.length ≤ 9223372036854775807) (hs : ∀ x ∈ l, x.size ≤ 9223372036854775807) (hrd : Rd w (.slice A l.length c) 1 l.length (strs l)) :
    Calls Tryd.prog 45 #[.slice A l.length c, .func (.func 46) #[] #[]] w fun e w' => e = .returned (.bool (!l.all nameB)) ∧ Keep NoF w w' := by
  have HI := Lib.hid (IndexFunc_any l A c w hl hs hrd)
  generalize l.all nameB = r at *
  go_enter Tryd.func45, Tryd.ntmps45
  cases r with
  | true =>
    go_wp2_with (go_at_call 61; (with_reducible refine HI.out.mono ?_); rintro e w2 ⟨n, rfl, h2, hk2⟩; have h3 : n < 0 := Int.not_le.1 (fun h => absurd (h2.1 h) (by simp)))
    go_ret
    exact ⟨rfl, hk2⟩
  | false =>
    go_wp2_with (go_at_call 61; (with_reducible refine HI.out.mono ?_); rintro e w2 ⟨n, rfl, h2, hk2⟩; have h3 : 0 ≤ n := h2.2 rfl)
    go_ret
    exact ⟨rfl, hk2⟩
theorem parseS_bad {S : Sg} (h : checkS S ≠ 0) (t : ByteArray) : parseS S t = (0, checkS S) := if_neg h
theorem parseS_no {S : Sg} (h : checkS S = 0) {t : ByteArray} (ht : (partsS t).all nameB = false) : parseS S t = (0, 4) := by unfold parseS; rw [if_pos h, ht]; rfl
theorem parseS_ok {S : Sg} (h : checkS S = 0) {t : ByteArray} (ht : (partsS t).all nameB = true) : parseS S t = grp S.A (partsS t) 0 := by unfold parseS; rw [if_pos h, if_pos ht]
theorem Parse_any (S : Sg) (a f c : Option Addr) (ca cf cc : Nat) (t : ByteArray) (w : World) (hS : SigR w S a ca f cf c cc) (hT : Tab w) (ht : t.size ≤ 100000) :
    Calls Tryd.prog 32 #[.agg #[.slice a S.A.length ca, .slice f S.F.length cf, .slice c S.C.length cc], .string t] w fun e w' => e = .returned (.tuple #[.int .i64 (parseS S t).1, .int .i64 (parseS S t).2]) ∧ Keep NoF w w' := by
  have hK0 : Keep NoF w (w.alloc (.cells (boxS S a ca f cf c cc) 24)) := (Keep.refl _ _).alloc _
  have HC := Lib.hid (Check_any S a f c ca cf cc _ (hS.keep hK0) (hT.keep0 hK0))
  have HB := Lib.hid (fun w' => @box_cells w w' S a f c ca cf cc 24)
  by_cases h0 : checkS S = 0
  · have hA := (checkS_ok h0).lA
    rw [h0] at HC
    obtain ⟨hpl, -⟩ := parts_len t
    have hps := parts_size t
    have HSP := Lib.hid (fun w1 (hk : Keep NoF w w1) => split_any t w1 ht (hT.keep0 hk))
    have HRD : Hid (∀ w1 : World, Rd (w1.alloc (.cells (strs (partsS t)).toArray 9)) (.slice (some ⟨w1.heap.size, 0, none⟩) (partsS t).length (partsS t).length) 1 (partsS t).length (strs (partsS t))) := Lib.hid fun w1 =>
      Rd.of_own (World.ownsRow_lit (base := 0) (e := 9) (size := 1) w1 (strs (partsS t)).toArray (partsS t).length (by omega) (by simp [maxLen]; omega) (by simp))
    have HCF := Lib.hid (fun A w2 h => ContainsFunc_any (partsS t) A (partsS t).length w2 (by omega) (fun x hx => by have := hps x hx; omega) h)
    have HG := Lib.hid (fun A w2 (hk : Keep NoF w w2) h => group_any S a f c ca cf cc (partsS t) A (partsS t).length w2 (hS.keep hk) hA (by omega) h)
    cases hal : (partsS t).all nameB with
    | false =>
      rw [parseS_no h0 hal]
      rw [hal] at HCF
      clear hal HG hps
      generalize partsS t = L at *
      unfold boxS at *
      go_enter Tryd.func32, Tryd.ntmps32
      go_wp2_with (first
        | (go_at_call 12; (with_reducible refine HC.out.mono ?_); rintro e w1 ⟨rfl, hk1⟩; have hk := hK0.trans hk1 fun _ _ h => h)
        | (go_at_call 34; (with_reducible refine (HSP.out w1 hk).mono ?_); rintro e w2 ⟨rfl, hw2⟩; have hrd2 := HRD.out w1; have hkk := hk.alloc (.cells (strs L).toArray 9); rw [← hw2] at hrd2 hkk; clear hw2)
        | (go_at_call 45; (with_reducible refine (HCF.out _ w2 hrd2).mono ?_); rintro e w3 ⟨rfl, hk3⟩))
      refine bodyPost_ret (v := .tuple #[.int .i64 0, .int .i64 4]) (by simp [results, Tryd.results32, go_sem]) rfl ?_
      exact ⟨rfl, hkk.trans hk3 fun _ _ h => h⟩
    | true =>
      rw [parseS_ok h0 hal]
      rw [hal] at HCF
      clear hal hps
      generalize partsS t = L at *
      generalize grp S.A L 0 = r at *
      unfold boxS at *
      go_enter Tryd.func32, Tryd.ntmps32
      go_wp2_with (first
        | (go_at_call 12; (with_reducible refine HC.out.mono ?_); rintro e w1 ⟨rfl, hk1⟩; have hk := hK0.trans hk1 fun _ _ h => h)
        | (go_at_call 34; (with_reducible refine (HSP.out w1 hk).mono ?_); rintro e w2 ⟨rfl, hw2⟩; have hrd2 := HRD.out w1; have hkk := hk.alloc (.cells (strs L).toArray 9); have hq2 := hk1.alloc (.cells (strs L).toArray 9); rw [← hw2] at hrd2 hkk hq2; clear hw2)
        | (go_at_call 45
           (with_reducible refine (HCF.out _ w2 hrd2).mono ?_)
           rintro e w3 ⟨rfl, hk3⟩
           obtain ⟨c0, c1, c2, hsz⟩ := HB.out w3 (hq2.trans hk3 fun _ _ h => h)
           have hk4 := hkk.trans hk3 fun _ _ h => h
           have hrd3 := hrd2.kept hk3 fun _ _ h => h)
        | (go_at_call 43; (with_reducible refine (HG.out _ w3 hk4 hrd3).mono ?_); rintro e w4 ⟨rfl, hk5⟩))
      refine bodyPost_ret (v := .tuple #[.int .i64 r.1, .int .i64 r.2]) (by simp [results, Tryd.results32, go_sem]) rfl ?_
      exact ⟨rfl, hk4.trans hk5 fun _ _ h => h⟩
  · rw [parseS_bad h0]
    unfold boxS at *
    generalize checkS S = n at *
    have hn : ((n : Int) != 0) = true := by simp; omega
    go_enter Tryd.func32, Tryd.ntmps32
    go_wp2_with (go_at_call 12; (with_reducible refine HC.out.mono ?_); rintro e w1 ⟨rfl, hk1⟩; have hk := hK0.trans hk1 fun _ _ h => h)
    refine bodyPost_ret (v := .tuple #[.int .i64 0, .int .i64 n]) (by simp [results, Tryd.results32, go_sem]) rfl ?_
    exact ⟨rfl, hk⟩
end
end Go.Proofs.YtcmoocemfnjkiaaDoor
