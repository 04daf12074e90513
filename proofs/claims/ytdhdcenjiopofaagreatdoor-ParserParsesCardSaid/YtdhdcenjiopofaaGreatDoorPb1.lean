/- The reference's Tokens. No condition. -/
import Derived.Test.YtdhdcenjiopofaaGreatDoorPb0
set_option linter.unusedVariables false
set_option linter.unusedSimpArgs false
namespace Go.Proofs.YtdhdcenjiopofaaGreatDoor
open Go.RowKit

section
set_option maxRecDepth 100000
set_option maxHeartbeats 2000000
theorem rTokens_any (t : ByteArray) (ht : t.size ≤ 9223372036854775807) (w : World) : Calls Tryz.prog 20 #[.string t] w (TokPost t w) := by
  by_cases hbig : 4000 < t.size
  · go_enter Tryz.func20, Tryz.ntmps20
    go_wp2
    refine bodyPost_ret (v := .tuple #[.slice none 0 0, .slice none 0 0, .int .i64 0, .int .i64 8]) (by simp [results, Tryz.results20, go_sem]) rfl ?_
    exact TokPost.nil (Keep.refl _ _) (.inl ⟨hbig, rfl, rfl, rfl⟩)
  · have HB := Lib.hid fun (k : Nat) (hk : k < t.size) => at_list t k hk
    have HLE := Lib.hid (data_len t)
    go_enter Tryz.func20, Tryz.ntmps20
    go_wp2
    go_loopw [6, 7, 8] (fun wv av iv wr => ∃ (i : Nat) (cs : Tk), iv = .int .i64 i ∧ i ≤ t.size ∧ cs.length ≤ i ∧ Hid (tokens t.data.toList 0 = preE cs (tokens t.data.toList i)) ∧ wr.ownsRow w.heap.size 9 1 wv cs.length (strs (tW cs)) ∧ wr.ownsRow w.heap.size 3 1 av cs.length (tA cs) ∧ Keep NoF w wr) (fun _ _ iv _ => t.size - (intOf iv).toNat)
    case atStart =>
      refine ⟨0, [], rfl, by omega, Nat.le_refl _, Lib.hid ?_, World.ownsRow_nil _ _ _ _, World.ownsRow_nil _ _ _ _, Keep.refl _ _⟩
      cases tokens t.data.toList 0 <;> simp [preE]
    case round =>
      obtain ⟨i, cs, rfl, hi, hcl, HT, ho1, ho2, hkr⟩ := hrel
      have hz := hkr.size
      by_cases hlt : i < t.size
      · have hlt' : (i : Int) < (t.size : Int) := by omega
        have hi0 : (0 : Int) ≤ (i : Int) := by omega
        have HBi := Lib.hid (HB.out i hlt)
        by_cases hs : spaceB t[i] = true
        · have HT2 : Hid (tokens t.data.toList 0 = preE cs (tokens t.data.toList (i + 1))) := Lib.hid (by rw [HT.out, tokens_space HBi.out hs])
          have h3 : t[i].toNat = 32 ∨ t[i].toNat = 9 ∨ t[i].toNat = 10 := by
            unfold spaceB at hs
            simp only [Bool.or_eq_true, beq_iff_eq] at hs
            rcases hs with (h | h) | h <;> rw [h] <;> decide
          clear hs
          have hgo : ∀ P : Prop, ((t[i].toNat = 32 → P) → (t[i].toNat = 9 → P) → (t[i].toNat = 10 → P) → P) := fun P a b c => by rcases h3 with h | h | h; exact a h; exact b h; exact c h
          refine hgo _ (fun h => ?_) (fun h => ?_) (fun h => ?_)
          · have q1 : ((t[i].toNat : Int) == 32) = true := by rw [h]; rfl
            clear h h3 hgo
            go_wp2
            go_roundw
            case rel => exact ⟨i + 1, cs, by go_num, by omega, by omega, HT2, ho1, ho2, hkr⟩
            case measure => simp only [intOf]; omega
          · have q1 : ((t[i].toNat : Int) == 32) = false := by rw [h]; rfl
            have q2 : ((t[i].toNat : Int) == 9) = true := by rw [h]; rfl
            clear h h3 hgo
            go_wp2
            go_roundw
            case rel => exact ⟨i + 1, cs, by go_num, by omega, by omega, HT2, ho1, ho2, hkr⟩
            case measure => simp only [intOf]; omega
          · have q1 : ((t[i].toNat : Int) == 32) = false := by rw [h]; rfl
            have q2 : ((t[i].toNat : Int) == 9) = false := by rw [h]; rfl
            have q3 : ((t[i].toNat : Int) == 10) = true := by rw [h]; rfl
            clear h h3 hgo
            go_wp2
            go_roundw
            case rel => exact ⟨i + 1, cs, by go_num, by omega, by omega, HT2, ho1, ho2, hkr⟩
            case measure => simp only [intOf]; omega
        · have hs' : spaceB t[i] = false := by cases h : spaceB t[i]; rfl; exact absurd h hs
          have hn3 : t[i].toNat ≠ 32 ∧ t[i].toNat ≠ 9 ∧ t[i].toNat ≠ 10 := by
            refine ⟨fun h => hs ?_, fun h => hs ?_, fun h => hs ?_⟩
            · have : t[i] = 32 := UInt8.toNat_inj.1 h
              rw [this]; decide
            · have : t[i] = 9 := UInt8.toNat_inj.1 h
              rw [this]; decide
            · have : t[i] = 10 := UInt8.toNat_inj.1 h
              rw [this]; decide
          have q1 : ((t[i].toNat : Int) == 32) = false := beq_eq_false_iff_ne.2 (by omega)
          have q2 : ((t[i].toNat : Int) == 9) = false := beq_eq_false_iff_ne.2 (by omega)
          have q3 : ((t[i].toNat : Int) == 10) = false := beq_eq_false_iff_ne.2 (by omega)
          have hL := Lib.hid fun W => part_any t i hlt (by omega) W
          have hle := lenT_le (t.data.toList.drop i)
          rw [List.length_drop, HLE.out] at hle
          have HBAD := Lib.hid (pre_bad (cs := cs) HBi.out hs')
          have HW := Lib.hid (pre_word (cs := cs) HBi.out hs')
          have HEX := Lib.hid (ext_txt t i (lenT (t.data.toList.drop i)))
          clear hs hs' hn3
          generalize lenT (t.data.toList.drop i) = n at *
          by_cases hn : n = 0
          · have HE : Hid (tokens t.data.toList 0 = .error i) := Lib.hid (HT.out.trans (HBAD.out hn))
            subst hn
            have hL0 : Hid (∀ W, Calls Tryz.prog 42 #[.string t, .int .i64 (i : Int)] W fun e w' => e = .returned (.int .i64 (i : Int)) ∧ Keep NoF W w') := hL
            clear HW HBAD hL
            go_wp2_with (go_at_call 42; (with_reducible refine (hL0.out _).mono ?_); rintro e w2 ⟨rfl, hk2⟩)
            refine bodyPost_ret (v := .tuple #[.slice none 0 0, .slice none 0 0, .int .i64 i, .int .i64 4]) (by simp [results, Tryz.results20, go_sem]) rfl ?_
            exact TokPost.nil (hkr.trans hk2 fun _ _ h => h) (.inr ⟨by omega, .inl ⟨i, HE.out, rfl, rfl, rfl⟩⟩)
          · have HT2 := Lib.hid (HT.out.trans (HW.out hn))
            have hn1 : 0 < n := by omega
            have HEX2 : Hid (.string (t.extract i (i + n)) = Value.string (txt ((t.data.toList.drop i).take n))) := Lib.hid (by rw [HEX.out])
            clear HW HBAD hn HEX
            generalize hkk : i + n = k at *
            have HKK := Lib.hid hkk
            have hik : (i : Int) ≤ (k : Int) := by omega
            have hkt : (k : Int) ≤ (t.size : Int) := by omega
            have hk0 : (0 : Int) ≤ (k : Int) := by omega
            have hne : ((k : Int) == (i : Int)) = false := beq_eq_false_iff_ne.2 (by omega)
            have hkn : i < k ∧ k ≤ t.size := by omega
            clear hkk
            have hap := own_apart ho2 ho1 (by decide)
            obtain ⟨A, c, rfl⟩ := own_form ho1
            obtain ⟨B, d, rfl⟩ := own_form ho2
            go_wp2_with (first
              | (go_at_call 42
                 (with_reducible refine (hL.out _).mono ?_)
                 rintro e w2 ⟨rfl, hk2⟩
                 have hkr2 := hkr.trans hk2 fun _ _ h => h
                 have hz2 := hkr2.size
                 have ho12 := own_keep ho1 fun k hk => hk2.block k (ho1.lt k hk).2 fun h => h
                 have ho22 := own_keep ho2 fun k hk => hk2.block k (ho2.lt k hk).2 fun h => h)
              | (at_builtin
                 refine wpList_app ?_ eStrs (.tmp 42) (.tmp 47) ?_ ?_ (ho12.alloc _) ⟨w2.heap.size, 0, none⟩ 1 1 [.string (t.extract i k)] ?_ ?_ ?_ ?_ ?_ ?_ ?_ ?_ ?_
                 · rfl
                 · rfl
                 · rfl
                 · rfl
                 · rfl
                 · exact World.news_of_block (cs := #[.string (t.extract i k)]) (t := 9) (fr := (0, 0)) (heap_alloc_new w2 _)
                 · simp [Value.oneCell']
                 · omega
                 · omega
                 · omega
                 · simp; omega
                 intro g4 cap4 w4 hown4 hA4
                 have ho24 := own_keep (ho22.alloc (.cells #[.string (t.extract i k)] 9)) fun k hk => hA4.grown.block k (by have := (ho22.lt k hk).2; rw [World.size_alloc]; omega) fun e => hap k hk e.symm)
              | (at_builtin
                 refine wpList_app ?_ eInt1 (.tmp 49) (.tmp 51) ?_ ?_ (ho24.alloc _) ⟨w4.heap.size, 0, none⟩ 1 1 [.int .i64 (i : Int)] ?_ ?_ ?_ ?_ ?_ ?_ ?_ ?_ ?_
                 · rfl
                 · rfl
                 · rfl
                 · rfl
                 · rfl
                 · exact World.news_of_block (cs := #[.int .i64 (i : Int)]) (t := 3) (fr := (0, 0)) (heap_alloc_new w4 _)
                 · simp [Value.oneCell']
                 · omega
                 · omega
                 · omega
                 · have := hA4.grown.size; simp at this ⊢; omega
                 intro g5 cap5 w5 hown5 hA5))
            go_roundw
            case rel =>
              have hk5 : Keep NoF w w5 := (((hkr2.alloc _).grown hA4.grown fun x hx => .inr (ho1.lt x hx).1).alloc _).grown hA5.grown fun x hx => .inr (ho2.lt x hx).1
              refine ⟨k, cs ++ [(i, (t.data.toList.drop i).take n)], rfl, by omega, by simp; omega, HT2, ?_, ?_, hk5⟩
              · rw [← tW_snoc, List.length_append]
                rw [HEX2.out] at hown4
                refine own_keep hown4 fun k hk => ?_
                rw [hA5.grown.block k (by rw [World.size_alloc]; have := (hown4.lt k hk).2; omega) fun e => ?_]
                · exact Below.heap_alloc w4 _ k (hown4.lt k hk).2
                · exact own_apart ho24 hown4 (by decide) k e.symm hk
              · rw [← tA_snoc, List.length_append]
                exact hown5
            case measure => simp only [intOf]; omega
      · obtain rfl : i = t.size := by omega
        have HE : Hid (tokens t.data.toList 0 = .ok cs) := Lib.hid (HT.out.trans (pre_end (by rw [HLE.out]; omega)))
        obtain ⟨A, c, rfl⟩ := own_form ho1
        obtain ⟨B, d, rfl⟩ := own_form ho2
        go_wp2
        refine bodyPost_ret (v := .tuple #[.slice A cs.length c, .slice B cs.length d, .int .i64 0, .int .i64 0]) (by simp [results, Tryz.results20, go_sem]) rfl ?_
        exact ⟨cs, A, c, B, d, 0, 0, rfl, Rd.of_own ho1, Rd.of_own ho2, hkr, .inr ⟨by omega, .inr ⟨HE.out, rfl, rfl⟩⟩⟩
end
end Go.Proofs.YtdhdcenjiopofaaGreatDoor
