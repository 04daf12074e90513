/- The parts of a text between commas: what the reference's Parts and Parse do. No condition. -/
import Derived.Test.YtcmoocemfnjkiaaDoorSgL
import Derived.Test.YtcmoocemfnjkiaaDoorSgI
set_option linter.unusedVariables false
set_option linter.unusedSimpArgs false
namespace Go.Proofs.YtcmoocemfnjkiaaDoor
open Go.RowKit

/-- What has been cut off before byte k, and the part that is under way since byte a. -/
def Cut (t : ByteArray) (p : List ByteArray) (a k : Nat) : Prop :=
  (k ≤ t.size ∧ a ≤ k ∧ flds t.data.toList = p.map (·.data.toList) ++ ((t.data.toList.drop a).take (k - a) ++ (flds (t.data.toList.drop k)).headD []) :: (flds (t.data.toList.drop k)).tail) ∨
  (k = t.size + 1 ∧ flds t.data.toList = p.map (·.data.toList))
theorem ex_data (t : ByteArray) (a k : Nat) : (t.extract a k).data.toList = (t.data.toList.drop a).take (k - a) := by
  rw [Lib.extract_data]
theorem cut_start (t : ByteArray) : Cut t [] 0 0 := .inl ⟨by omega, by omega, by
  rw [List.map_nil, List.nil_append, Nat.sub_zero, List.take_zero, List.nil_append, List.drop_zero]
  exact flds_ne _⟩
theorem cut_end {t : ByteArray} {p : List ByteArray} {a : Nat} (h : Cut t p a (t.size + 1)) : p = partsS t := by
  rcases h with ⟨h, _⟩ | ⟨_, h⟩
  · omega
  · unfold partsS
    rw [h, List.map_map]
    conv => lhs; rw [← List.map_id p]
    exact List.map_congr_left fun x _ => (txt_data x).symm
theorem cut_last {t : ByteArray} {p : List ByteArray} {a : Nat} (h : Cut t p a t.size) : Cut t (p ++ [t.extract a t.size]) (t.size + 1) (t.size + 1) := by
  rcases h with ⟨_, _, h⟩ | ⟨h, _⟩
  · refine .inr ⟨rfl, ?_⟩
    rw [h, List.drop_eq_nil_of_le (i := t.size) (by rw [data_len]; exact Nat.le_refl _), List.map_append, List.map_cons, List.map_nil, ex_data]
    simp [flds]
  · omega
theorem cut_comma {t : ByteArray} {p : List ByteArray} {a k : Nat} (h : Cut t p a k) (hk : k < t.size) (hd : t.data.toList.drop k = 44 :: t.data.toList.drop (k + 1)) : Cut t (p ++ [t.extract a k]) (k + 1) (k + 1) := by
  rcases h with ⟨_, _, h⟩ | ⟨h, _⟩
  · refine .inl ⟨by omega, by omega, ?_⟩
    rw [h, hd, flds_sp, List.map_append, List.map_cons, List.map_nil, ex_data, Nat.sub_self, List.take_zero, List.nil_append, ← flds_ne]
    simp
  · omega
theorem cut_char {t : ByteArray} {p : List ByteArray} {a k : Nat} {b : UInt8} (h : Cut t p a k) (hk : k < t.size) (hb : b ≠ 44) (hd : t.data.toList.drop k = b :: t.data.toList.drop (k + 1)) : Cut t p a (k + 1) := by
  rcases h with ⟨_, ha, h⟩ | ⟨h, _⟩
  · refine .inl ⟨by omega, by omega, ?_⟩
    have e : (t.data.toList.drop a).take (k + 1 - a) = (t.data.toList.drop a).take (k - a) ++ [b] := by
      rw [show k + 1 - a = (k - a) + 1 by omega, List.take_add_one, List.getElem?_drop, show a + (k - a) = k by omega]
      have := congrArg (fun l => l[0]?) hd
      rw [List.getElem?_drop] at this
      rw [show k + 0 = k by omega] at this
      rw [this]
      rfl
    rw [h, hd, flds_ch _ hb, e]
    simp
  · omega

section
set_option maxRecDepth 100000
set_option maxHeartbeats 2000000
theorem rParts_any (t : ByteArray) (w : World) (ht : t.size ≤ 100000) : Calls Tryd.prog 47 #[.string t] w fun e w' => ∃ v, e = .returned v ∧ NewL w (partsS t) v w' := by
  have HCS := Lib.hid (cut_start t)
  go_enter Tryd.func47, Tryd.ntmps47
  go_wp2
  go_loopw [3, 4, 5] (fun v u i wr => ∃ (k a : Nat) (p : List ByteArray), i = .int .i64 k ∧ u = .int .i64 a ∧ k ≤ t.size + 1 ∧ a ≤ k ∧ p.length ≤ k ∧ Hid (Cut t p a k) ∧ wr.ownsRow w.heap.size 9 1 v p.length (strs p) ∧ Keep NoF w wr) (fun _ _ i _ => t.size + 1 - (intOf i).toNat)
  case atStart => exact ⟨0, 0, [], rfl, rfl, by omega, by omega, by simp, HCS, World.ownsRow_nil _ _ _ _, Keep.refl _ _⟩
  case round =>
    obtain ⟨k, a, p, rfl, rfl, hk, hak, hpk, ho, hown, hkr⟩ := hrel
    have hz := hkr.size
    obtain ⟨B, cb, rfl⟩ := own_form hown
    by_cases hlt : k < t.size
    · obtain ⟨b, hb, hd⟩ := byte_at t k hlt
      have hne : ((k : Int) == (t.size : Int)) = false := by simp; omega
      by_cases h44 : b = 44
      · subst h44
        have HC := Lib.hid (cut_comma ho.out hlt hd)
        have hb2 : t[k].toNat = 44 := by rw [hb]; rfl
        clear ho hd hb
        go_wp2_with (at_builtin
                     refine wpList_app (by rfl) eStrs (.tmp 22) (.tmp 27) (by rfl) (by rfl) (hown.alloc _) ⟨wr.heap.size, 0, none⟩ 1 1 [.string (t.extract a k)] (by rfl) (by rfl)
                       (World.news_of_block (cs := #[.string (t.extract a k)]) (t := 9) (fr := (0, 0)) (heap_alloc_new wr _)) (by simp [Value.oneCell']) (by omega) (by omega) (by omega) (by simp; omega) ?_
                     intro g4 cap4 w4 hown4 hA4)
        go_roundw
        case rel =>
          refine ⟨k + 1, k + 1, p ++ [t.extract a k], by go_num, by go_num, by omega, by omega, by simp; omega, HC, ?_, (hkr.alloc _).grown hA4.grown fun x hx => .inr (hown.lt x hx).1⟩
          rw [strs_snoc] at hown4
          rw [List.length_append]
          exact hown4
        case measure => simp only [intOf]; omega
      · have HC := Lib.hid (cut_char ho.out hlt h44 hd)
        have hb2 : t[k].toNat = b.toNat := congrArg UInt8.toNat hb
        have hne4 : ((b.toNat : Int) == 44) = false := by
          have : b.toNat ≠ 44 := fun e => h44 (UInt8.toNat_inj.1 e)
          simp
          omega
        clear ho hd hb h44
        generalize b.toNat = c at *
        go_wp2
        go_roundw
        case rel => exact ⟨k + 1, a, p, by go_num, rfl, by omega, by omega, by omega, HC, hown, hkr⟩
        case measure => simp only [intOf]; omega
    · by_cases hks : k = t.size
      · subst hks
        have HC := Lib.hid (cut_last ho.out)
        clear ho
        go_wp2_with (at_builtin
                     refine wpList_app (by rfl) eStrs (.tmp 22) (.tmp 27) (by rfl) (by rfl) (hown.alloc _) ⟨wr.heap.size, 0, none⟩ 1 1 [.string (t.extract a t.size)] (by rfl) (by rfl)
                       (World.news_of_block (cs := #[.string (t.extract a t.size)]) (t := 9) (fr := (0, 0)) (heap_alloc_new wr _)) (by simp [Value.oneCell']) (by omega) (by omega) (by omega) (by simp; omega) ?_
                     intro g4 cap4 w4 hown4 hA4)
        go_roundw
        case rel =>
          refine ⟨t.size + 1, t.size + 1, p ++ [t.extract a t.size], by go_num, by go_num, by omega, by omega, by simp; omega, HC, ?_, (hkr.alloc _).grown hA4.grown fun x hx => .inr (hown.lt x hx).1⟩
          rw [strs_snoc] at hown4
          rw [List.length_append]
          exact hown4
        case measure => simp only [intOf]; omega
      · obtain rfl : k = t.size + 1 := by omega
        have hp := cut_end ho.out
        subst hp
        clear ho
        go_wp2
        go_ret
        exact ⟨_, rfl, hown, hkr⟩
theorem rParse_any (S : Sg) (a f c : Option Addr) (ca cf cc : Nat) (t : ByteArray) (w : World) (hS : SigR w S a ca f cf c cc) (ht : t.size ≤ 100000) :
    Calls Tryd.prog 33 #[.agg #[.slice a S.A.length ca, .slice f S.F.length cf, .slice c S.C.length cc], .string t] w fun e w' => e = .returned (.tuple #[.int .i64 (parseS S t).1, .int .i64 (parseS S t).2]) ∧ Keep NoF w w' := by
  have hK0 : Keep NoF w (w.alloc (.cells (boxS S a ca f cf c cc) 24)) := (Keep.refl _ _).alloc _
  have HC := Lib.hid (rCheck_any S a f c ca cf cc _ (hS.keep hK0))
  have HB := Lib.hid (fun w' => @box_cells w w' S a f c ca cf cc 24)
  by_cases h0 : checkS S = 0
  · rw [h0] at HC
    obtain ⟨hpl, hp1⟩ := parts_len t
    have hps := parts_size t
    have HPT := Lib.hid (fun w1 => rParts_any t w1 ht)
    have HPS : Hid (∀ x ∈ partsS t, x.size ≤ 9223372036854775807) := Lib.hid (fun x hx => by have := hps x hx; omega)
    have HG := Lib.hid (fun A cl w2 (hk : Keep NoF w w2) h => rGroup_any S a f c ca cf cc (partsS t) A cl w2 (hS.keep hk) (by omega) h)
    have hP : parseS S t = if (partsS t).all nameB = true then groupS S (partsS t) else (0, 4) := by
      unfold parseS
      rw [if_pos h0]
      by_cases hal : (partsS t).all nameB = true
      · rw [if_pos hal, if_pos hal, groupS_ok h0 (by intro e; rw [e] at hp1; simp at hp1)]
      · rw [if_neg hal, if_neg hal]
    generalize parseS S t = R at *
    have HP := Lib.hid hP
    clear hP hps
    generalize partsS t = L at *
    generalize groupS S L = r at *
    unfold boxS at *
    go_enter Tryd.func33, Tryd.ntmps33
    go_wp2_with (first
      | (go_at_call 13; (with_reducible refine HC.out.mono ?_); rintro e w1 ⟨rfl, hk1⟩; have hk := hK0.trans hk1 fun _ _ h => h)
      | (go_at_call 47
         (with_reducible refine (HPT.out w1).mono ?_)
         rintro e w2 ⟨v, rfl, hnew⟩
         have hk2 := hnew.2
         have hkk := hk.trans hk2 fun _ _ h => h
         obtain ⟨A, cl, rfl, hrd, hl63⟩ := hnew.cells))
    go_loopw [8] (fun i wr => ∃ k : Nat, i = .int .i64 k ∧ k ≤ L.length ∧ Hid ((L.drop k).all nameB = L.all nameB) ∧ Keep NoF w2 wr) (fun i _ => L.length - (intOf i).toNat)
    case atStart => exact ⟨0, rfl, by omega, Lib.hid rfl, Keep.refl _ _⟩
    case round =>
      obtain ⟨k, rfl, hkl, ho, hkr⟩ := hrel
      have hkA : Keep NoF w wr := hkk.trans hkr fun _ _ h => h
      by_cases hlt : k < L.length
      · have hx : L[k]? = some L[k] := List.getElem?_eq_getElem hlt
        obtain ⟨-, hcc, bl, off, rfl, hc⟩ := (hrd.kept hkr fun _ _ h => h).str hx
        have ho1 := ho.out
        rw [drop_at hx, List.all_cons] at ho1
        have HN := Lib.hid (rIsName_any L[k] wr (HPS.out _ (List.getElem_mem hlt)))
        clear ho hx
        generalize L[k] = x at *
        cases hn : nameB x with
        | false =>
          rw [hn] at ho1 HN
          have HO : Hid (R = (0, 4)) := Lib.hid (by rw [HP.out, ← ho1]; rfl)
          clear ho1 hn
          go_wp2_with (go_at_call 15; (with_reducible refine HN.out.mono ?_); rintro e w3 ⟨rfl, hk3⟩)
          refine bodyPost_ret (v := .tuple #[.int .i64 0, .int .i64 4]) (by simp [results, Tryd.results33, go_sem]) rfl ?_
          exact ⟨by rw [HO.out] <;> rfl, hkA.trans hk3 fun _ _ h => h⟩
        | true =>
          rw [hn, Bool.true_and] at ho1
          rw [hn] at HN
          have HO := Lib.hid ho1
          clear ho1 hn
          go_wp2_with (go_at_call 15; (with_reducible refine HN.out.mono ?_); rintro e w3 ⟨rfl, hk3⟩)
          go_roundw
          case rel => exact ⟨k + 1, by go_num, by omega, HO, hkr.trans hk3 fun _ _ h => h⟩
          case measure => simp only [intOf]; omega
      · obtain rfl : k = L.length := by omega
        have HO : Hid (R = r) := Lib.hid (by rw [HP.out, ← ho.out, List.drop_length]; rfl)
        obtain ⟨c0, c1, c2, hsz⟩ := HB.out wr ((hk1.trans hk2 fun _ _ h => h).trans hkr fun _ _ h => h)
        have HG2 := Lib.hid (HG.out A cl wr hkA (hrd.kept hkr fun _ _ h => h))
        clear ho
        go_wp2_with (go_at_call 29; (with_reducible refine HG2.out.mono ?_); rintro e w3 ⟨rfl, hk3⟩)
        refine bodyPost_ret (v := .tuple #[.int .i64 r.1, .int .i64 r.2]) (by simp [results, Tryd.results33, go_sem]) rfl ?_
        exact ⟨by rw [HO.out] <;> rfl, hkA.trans hk3 fun _ _ h => h⟩
  · rw [parseS_bad h0]
    unfold boxS at *
    generalize checkS S = n at *
    have hn : ((n : Int) != 0) = true := by simp; omega
    go_enter Tryd.func33, Tryd.ntmps33
    go_wp2_with (go_at_call 13; (with_reducible refine HC.out.mono ?_); rintro e w1 ⟨rfl, hk1⟩; have hk := hK0.trans hk1 fun _ _ h => h)
    refine bodyPost_ret (v := .tuple #[.int .i64 0, .int .i64 n]) (by simp [results, Tryd.results33, go_sem]) rfl ?_
    exact ⟨rfl, hk⟩
end
end Go.Proofs.YtcmoocemfnjkiaaDoor
