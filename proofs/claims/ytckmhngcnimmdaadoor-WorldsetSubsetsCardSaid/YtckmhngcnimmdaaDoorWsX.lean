/- The text of a set: how the reference reads a number. No condition. -/
import Derived.Test.YtckmhngcnimmdaaDoorWsY
set_option linter.unusedVariables false
set_option linter.unusedSimpArgs false
namespace Go.Proofs.YtckmhngcnimmdaaDoor
open Go.RowKit

theorem data_len (t : ByteArray) : t.data.toList.length = t.size := by rw [Array.length_toList]; rfl
theorem byte_at (t : ByteArray) (i : Nat) (h : i < t.size) : ∃ b : UInt8, t[i] = b ∧ t.data.toList.drop i = b :: t.data.toList.drop (i + 1) := by
  refine ⟨t[i], rfl, ?_⟩
  have hl : i < t.data.toList.length := by rw [data_len]; exact h
  rw [List.drop_eq_getElem_cons hl]
  rfl
theorem isD_iff (b : UInt8) : isD b = true ↔ 48 ≤ b.toNat ∧ b.toNat ≤ 57 := by
  unfold isD
  simp

section
set_option maxRecDepth 100000
set_option maxHeartbeats 1000000
theorem rnumber_any (t : ByteArray) (a : Nat) (w : World) (ht : t.size ≤ 9223372036854775806) (ha : a ≤ t.size) (R : Nat × Nat) (hR : Hid (R = match numL (t.data.toList.drop a) 0 0 with | none => (a, 0) | some (k, v) => (a + k, v))) :
    Calls Tryd.prog 50 #[.string t, .int .i64 a] w fun e w' => e = .returned (.tuple #[.int .i64 R.1, .int .i64 R.2]) ∧ w' = w := by
  go_enter Tryd.func50, Tryd.ntmps50
  go_wp2
  go_loopw [6, 7] (fun i v wr => ∃ x n : Nat, i = .int .i64 x ∧ v = .int .i64 n ∧ a ≤ x ∧ x - a ≤ 9 ∧ x ≤ t.size ∧ Hid (n + 1 ≤ 10 ^ (x - a)) ∧ Hid (R = match numL (t.data.toList.drop x) (x - a) n with | none => (a, 0) | some (k, v) => (a + k, v)) ∧ wr = w) (fun i _ _ => t.size - (intOf i).toNat)
  case atStart => exact ⟨a, 0, rfl, rfl, by omega, by omega, by omega, Lib.hid (by simp), by rw [Nat.sub_self]; exact hR, rfl⟩
  case round =>
    obtain ⟨x, n, rfl, rfl, hax, hk, hxs, HN, ho, hw⟩ := hrel
    obtain rfl := hw.symm; clear hw hR
    by_cases hlt : x < t.size
    · obtain ⟨b, hb, hd⟩ := byte_at t x hlt
      have hb2 : t[x].toNat = b.toNat := by rw [hb]
      have hD := isD_iff b
      have ho1 := ho.out
      rw [hd] at ho1
      unfold numL at ho1
      clear ho hd hb
      by_cases hdig : 48 ≤ b.toNat ∧ b.toNat ≤ 57
      · rw [hD.2 hdig, if_pos rfl] at ho1
        obtain ⟨h1, h2⟩ := hdig
        clear hD
        generalize b.toNat = c at *
        by_cases h9 : x - a = 9
        · rw [if_pos (.inl h9)] at ho1
          have HO := Lib.hid ho1
          have e9 : ((x : Int) - a == 9) = true := by simp; omega
          have e9' : (x : Int) - a = 9 := by omega
          clear ho1 h9
          go_wp2
          refine bodyPost_ret (v := .tuple #[.int .i64 a, .int .i64 0]) (by simp [results, Tryd.results50, go_sem]) rfl ?_
          exact ⟨by rw [HO.out] <;> rfl, rfl⟩
        · have e9 : ((x : Int) - a == 9) = false := by simp; omega
          have e9' : ¬ ((x : Int) - a = 9) := by omega
          by_cases hz : 0 < x - a ∧ n = 0
          · rw [if_pos (.inr hz)] at ho1
            have HO := Lib.hid ho1
            obtain ⟨hz1, rfl⟩ := hz
            clear ho1 h9
            go_wp2
            refine bodyPost_ret (v := .tuple #[.int .i64 a, .int .i64 0]) (by simp [results, Tryd.results50, go_sem]) rfl ?_
            exact ⟨by rw [HO.out] <;> rfl, rfl⟩
          · rw [if_neg (by omega)] at ho1
            have HO := Lib.hid ho1
            have hn8 : n ≤ 99999999 := by
              have h10 : 10 ^ (x - a) ≤ 10 ^ 8 := Nat.pow_le_pow_right (by omega) (by omega)
              have := HN.out
              omega
            have HN2 : Hid (n * 10 + (c - 48) + 1 ≤ 10 ^ (x + 1 - a)) := Lib.hid (by
              have := HN.out
              rw [show x + 1 - a = (x - a) + 1 by omega, Nat.pow_succ]
              omega)
            have HO2 : Hid (R = match numL (t.data.toList.drop (x + 1)) (x + 1 - a) (n * 10 + (c - 48)) with | none => (a, 0) | some (k, v) => (a + k, v)) := Lib.hid (by rw [show x + 1 - a = x - a + 1 by omega]; exact HO.out)
            by_cases hxa : x = a
            · subst hxa
              clear ho1 HO HN h9 hz e9' hax hk
              have e9 : ((x : Int) - x == 9) = false := by simp
              go_wp2
              go_roundw
              case rel => exact ⟨x + 1, n * 10 + (c - 48), by go_num, by go_num, by omega, by omega, by omega, HN2, HO2, by trivial⟩
              case measure => simp only [intOf]; omega
            · have hz3 : ((n : Int) == 0) = false := by simp; omega
              have hax2 : a < x := by omega
              clear ho1 HO HN h9 hz hxa
              go_wp2
              go_roundw
              case rel => exact ⟨x + 1, n * 10 + (c - 48), by go_num, by go_num, by omega, by omega, by omega, HN2, HO2, by trivial⟩
              case measure => simp only [intOf]; omega
      · have hf : isD b = false := by
          cases h : isD b
          · rfl
          · exact absurd (hD.1 h) hdig
        rw [hf] at ho1
        have HO : Hid (R = (x, n)) := Lib.hid (by rw [ho1]; simp; omega)
        clear ho1 hD hf HN
        generalize b.toNat = c at *
        have hcc : c < 48 ∨ 57 < c := by omega
        clear hdig
        rcases hcc with hcc | hcc
        · go_wp2
          refine bodyPost_ret (v := .tuple #[.int .i64 x, .int .i64 n]) (by simp [results, Tryd.results50, go_sem]) rfl ?_
          exact ⟨by rw [HO.out] <;> rfl, rfl⟩
        · go_wp2
          refine bodyPost_ret (v := .tuple #[.int .i64 x, .int .i64 n]) (by simp [results, Tryd.results50, go_sem]) rfl ?_
          exact ⟨by rw [HO.out] <;> rfl, rfl⟩
    · obtain rfl : x = t.size := by omega
      have HO : Hid (R = (t.size, n)) := Lib.hid (by
        have := ho.out
        rw [List.drop_eq_nil_of_le (by rw [data_len]; exact Nat.le_refl _)] at this
        unfold numL at this
        rw [this]
        simp
        omega)
      clear ho HN
      go_wp2
      refine bodyPost_ret (v := .tuple #[.int .i64 t.size, .int .i64 n]) (by simp [results, Tryd.results50, go_sem]) rfl ?_
      exact ⟨by rw [HO.out] <;> rfl, rfl⟩
end
end Go.Proofs.YtckmhngcnimmdaaDoor
