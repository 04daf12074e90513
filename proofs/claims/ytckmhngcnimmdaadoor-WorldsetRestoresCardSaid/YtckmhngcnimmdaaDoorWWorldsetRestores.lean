/- The law WorldsetRestores answers true. Conditions: the library's variables lie as they are read. -/
import Derived.Test.YtckmhngcnimmdaaDoorWsAw
import Derived.Test.YtckmhngcnimmdaaDoorWsRa
set_option linter.unusedVariables false
set_option linter.unusedSimpArgs false
namespace Go.Proofs.YtckmhngcnimmdaaDoor
open Go.RowKit
section
set_option maxRecDepth 100000
set_option maxHeartbeats 1000000
theorem walk_WorldsetRestores (s : Nat) (w : World) (hs : s < 18446744073709551616) (ht : Tab w) :
    Calls Tryd.prog 6 #[.int .u64 s] w fun e w' => e = .returned (.bool true) ∧ Keep NoF w w' := by
  have HM := Lib.hid (Members_any s hs w ht)
  have HO : Hid (∀ A c w1, Rd w1 (.slice A (mem s).length c) 1 (mem s).length (((mem s).map Int.ofNat).map zV) → Calls Tryd.prog 12 #[.slice A (mem s).length c] w1 fun e w' => e = .returned (.tuple #[.int .u64 s, .int .i64 0]) ∧ w' = w1) := Lib.hid fun A c w1 h => by
    have := Of_any ((mem s).map Int.ofNat) A c w1 (by rw [List.length_map]; have := mem_len s; omega) (by simpa using h)
    rw [ofL_mem s hs, List.length_map] at this
    exact this
  have HF := Lib.hid (fun w1 (hT : Tab w1) => Format_any s w1 hs hT)
  have HP : Hid (∀ w1, Tab w1 → Calls Tryd.prog 27 #[.string (txt (fmtS s))] w1 fun e w' => e = .returned (.tuple #[.int .u64 s, .int .i64 0]) ∧ Keep NoF w1 w') := Lib.hid fun w1 hT => by
    have hsz : (txt (fmtS s)).size ≤ 1000 := by
      have h1 := joinT_len (mem s) fun x hx => by have := (mem_lt hx).1; omega
      have h2 := mem_len s
      rw [txt_size, fmtS, List.length_append, List.length_append, List.length_singleton, List.length_singleton]
      omega
    have := Parse_any (txt (fmtS s)) w1 hsz hT
    rw [show (txt (fmtS s)).data.toList = fmtS s by simp [txt], parse_fmt s hs] at this
    exact this
  have HC := Lib.hid (fun w1 => Count_any s hs w1)
  have HH := Lib.hid (fun w1 (x : Nat) => Has_any w1 s x hs)
  have HB := Lib.hid (fun x => bit_one s x hs)
  have HL := Lib.hid (fun w1 (hT : Tab w1) => Lowest_any s hs w1 hT)
  have HZ : Hid ((mem s).length = 0 → lowS s = -1) := Lib.hid fun h => by
    unfold lowS
    rw [List.eq_nil_of_length_eq_zero h]
  have HT : Hid (∀ x, x < 64 → s.testBit x = true → (memTo s x).length < (mem s).length ∧ (mem s)[(memTo s x).length]? = some x ∧ (memTo s (x + 1)).length = (memTo s x).length + 1) := Lib.hid fun x hx hb => by
    have h1 := mem_at s x hx hb
    exact ⟨(List.getElem?_eq_some_iff.1 h1).1, h1, by rw [memTo_succ, hb]; simp⟩
  have HE : Hid (∀ x, s.testBit x = false → (memTo s (x + 1)).length = (memTo s x).length) := Lib.hid fun x hb => by rw [memTo_succ, hb]; simp
  have H64 : Hid ((memTo s 64).length = (mem s).length) := Lib.hid rfl
  have HK : Hid (∀ x, (memTo s x).length ≤ x) := Lib.hid fun x => memTo_len s x
  have hml := mem_len s
  generalize mem s = m at *
  generalize txt (fmtS s) = F at *
  generalize lowS s = lo at *
  go_enter Tryd.func6, Tryd.ntmps6
  go_wp2_with (first
    | (go_at_call 17; (with_reducible refine HM.out.mono ?_); rintro e w1 ⟨v, rfl, ho, hk1⟩; obtain ⟨B, cb, rfl⟩ := own_form ho; have hrd := Rd.of_own ho; rw [inV_zV] at hrd)
    | (go_at_call 12; (with_reducible refine (HO.out B cb w1 hrd).mono ?_); rintro e w' ⟨rfl, hw'⟩; obtain rfl := hw'.symm)
    | (go_at_call 29; (with_reducible refine (HF.out w1 (ht.keep0 hk1)).mono ?_); rintro e w2 ⟨rfl, hk2⟩; have K2 := Lib.hid (hk1.trans hk2 fun _ _ h => h))
    | (go_at_call 27; (with_reducible refine (HP.out w2 (ht.keep0 K2.out)).mono ?_); rintro e w3 ⟨rfl, hk3⟩; have K3 := Lib.hid (K2.out.trans hk3 fun _ _ h => h); have hrd3 := (hrd.kept hk2 fun _ _ h => h).kept hk3 fun _ _ h => h)
    | (go_at_call 19; (with_reducible refine (HC.out _).mono ?_); rintro e w' ⟨rfl, hw'⟩; obtain rfl := hw'.symm))
  clear hrd ho
  go_loopw [8, 47] (fun v i wr => ∃ x : Nat, i = .int .i64 x ∧ v = .int .i64 (memTo s x).length ∧ x ≤ 64 ∧ wr = w3) (fun _ i _ => 64 - (intOf i).toNat)
  case atStart => exact ⟨0, rfl, rfl, by omega, rfl⟩
  case round =>
    obtain ⟨x, rfl, rfl, hx, hw⟩ := hrel
    obtain rfl := hw.symm; clear hw
    have hkx := HK.out x
    by_cases hlt : x < 64
    · have hh := hasS_nat (s := s) hlt
      have hb := HB.out x
      cases hbt : s.testBit x
      · have HN := Lib.hid (HE.out x hbt)
        rw [hbt] at hh hb
        clear hbt
        generalize (memTo s x).length = k at *
        go_wp2_with (go_at_call 23; (with_reducible refine (HH.out _ x).mono ?_); rintro e w' ⟨rfl, hw'⟩; obtain rfl := hw'.symm)
        go_roundw
        case rel => exact ⟨x + 1, by go_num, by rw [HN.out], by omega, by trivial⟩
        case measure => simp only [intOf]; omega
      · obtain ⟨hk1', hk2', hk3'⟩ := HT.out x hlt hbt
        have HN := Lib.hid hk3'
        rw [hbt] at hh hb
        obtain ⟨-, bl, off, rfl, hc⟩ := Rd.int (l := m.map Int.ofNat) (k := (memTo s x).length) (x := (x : Nat)) (by simpa using hrd3) (by simp [hk2'])
        clear hbt hk2' hk3' hrd3
        generalize (memTo s x).length = k at *
        go_wp2_with (go_at_call 23; (with_reducible refine (HH.out _ x).mono ?_); rintro e w' ⟨rfl, hw'⟩; obtain rfl := hw'.symm)
        go_roundw
        case rel => exact ⟨x + 1, by go_num, by rw [HN.out]; go_num, by omega, by trivial⟩
        case measure => simp only [intOf]; omega
    · obtain rfl : x = 64 := by omega
      rw [H64.out] at hkx ⊢
      by_cases hL : 0 < m.length
      · go_wp2_with (go_at_call 11; (with_reducible refine (awake_any w3 (ht.keep0 K3.out)).mono ?_); rintro e w4 ⟨rfl, hk4⟩)
        go_ret
        exact ⟨rfl, K3.out.trans hk4 fun _ _ h => h⟩
      · have h0 : m.length = 0 := by omega
        have hlo := HZ.out h0
        subst hlo
        rw [h0]
        go_wp2_with (first
          | (go_at_call 21; (with_reducible refine (HL.out w3 (ht.keep0 K3.out)).mono ?_); rintro e w' ⟨rfl, hw'⟩; obtain rfl := hw'.symm)
          | (go_at_call 11; (with_reducible refine (awake_any w3 (ht.keep0 K3.out)).mono ?_); rintro e w4 ⟨rfl, hk4⟩))
        go_ret
        exact ⟨rfl, K3.out.trans hk4 fun _ _ h => h⟩
end
end Go.Proofs.YtckmhngcnimmdaaDoor
