/- The text of a set: how the program reads a number. No condition. -/
import Derived.Test.YtckmhngcnimmdaaDoorWsPa
import Derived.Lib.ConvBytes
set_option linter.unusedVariables false
set_option linter.unusedSimpArgs false
namespace Go.Proofs.YtckmhngcnimmdaaDoor
open Go.RowKit

theorem conv_bytes (t : ByteArray) (w : World) : ∃ cap W2, (convert 9 42 (.string t)).run Tryd.prog w = .ok (.slice (some ⟨w.heap.size, 0, none⟩) t.size cap) W2 ∧ Keep NoF w W2 ∧ ∀ j b, t.data.toList[j]? = some b → W2.cell? ⟨w.heap.size, j, none⟩ = some (.int .u8 b.toNat) := by
  refine ⟨_, _, Lib.run_convert_string_bytes w 9 42 5 t Tryd.underlying9 Tryd.underlying42 Tryd.underlying5, ⟨rfl, rfl, rfl, by rw [Lib.bytesWorld_size]; omega, fun k hk _ => Lib.bytesWorld_at_old w _ t k hk⟩, fun j b hb => ?_⟩
  have hlt := (List.getElem?_eq_some_iff.1 hb).1
  rw [Lib.bytesWorld_cell w 5 t j (by rwa [data_len] at hlt), List.getD_eq_getElem?_getD, hb]
  rfl
def numR (f : List UInt8) : Nat × Bool := match numF f with | none => (0, false) | some n => (n, true)

section
set_option maxRecDepth 100000
set_option maxHeartbeats 1000000
theorem number_any (t : ByteArray) (w : World) (ht : t.size ≤ 1000) :
    Calls Tryd.prog 43 #[.string t] w fun e w' => e = .returned (.tuple #[.int .i64 (numR t.data.toList).1, .bool (numR t.data.toList).2]) ∧ Keep NoF w w' := by
  have hdl := data_len t
  by_cases h1 : t.size < 1
  · rw [show numR t.data.toList = (0, false) by unfold numR numF; rw [if_pos (.inl (by omega))]]
    go_enter Tryd.func43, Tryd.ntmps43
    go_wp2
    refine bodyPost_ret (v := .tuple #[.int .i64 0, .bool false]) (by simp [results, Tryd.results43, go_sem]) rfl ?_
    exact ⟨rfl, Keep.refl _ _⟩
  · by_cases h9 : 9 < t.size
    · rw [show numR t.data.toList = (0, false) by unfold numR numF; rw [if_pos (.inr (.inl (by omega)))]]
      go_enter Tryd.func43, Tryd.ntmps43
      go_wp2
      refine bodyPost_ret (v := .tuple #[.int .i64 0, .bool false]) (by simp [results, Tryd.results43, go_sem]) rfl ?_
      exact ⟨rfl, Keep.refl _ _⟩
    · have hs0 : 0 < t.size := by omega
      have hh := headD_at t hs0
      by_cases hz : 1 < t.size ∧ t[0] = 48
      · rw [show numR t.data.toList = (0, false) by unfold numR numF; rw [if_pos (.inr (.inr ⟨by omega, by rw [hh, hz.2]⟩))]]
        have e0 : t[0].toNat = 48 := by rw [hz.2]; rfl
        have hz1 := hz.1
        clear hz hh
        go_enter Tryd.func43, Tryd.ntmps43
        go_wp2
        refine bodyPost_ret (v := .tuple #[.int .i64 0, .bool false]) (by simp [results, Tryd.results43, go_sem]) rfl ?_
        exact ⟨rfl, Keep.refl _ _⟩
      · have hz2 : t.size = 1 ∨ (1 < t.size ∧ ((t[0].toNat : Int) == 48) = false) := by
          by_cases h : t.size = 1
          · exact .inl h
          · right
            have : t[0].toNat ≠ 48 := fun e => hz ⟨by omega, UInt8.toNat_inj.1 e⟩
            refine ⟨by omega, ?_⟩
            simp
            omega
        have HF : Hid (numF t.data.toList = dgs t.data.toList 0) := Lib.hid (if_neg (by rw [hdl, hh]; rintro (h | h | h); omega; omega; exact hz h))
        generalize hr : numR t.data.toList = r
        have HR : Hid (r = match dgs t.data.toList 0 with | none => (0, false) | some n => (n, true)) := Lib.hid (by rw [← hr]; unfold numR; rw [HF.out])
        clear hr HF hh hz
        obtain ⟨cap, W2, hconv, hK2, hcells⟩ := conv_bytes t w
        have HCC := Lib.hid hcells
        clear hcells
        go_enter Tryd.func43, Tryd.ntmps43
        rcases hz2 with hz2 | ⟨hz1, hz2⟩
        · go_wp2
          go_loopw [4, 28] (fun v i wr => ∃ k n : Nat, i = .int .i64 k ∧ v = .int .i64 n ∧ k ≤ t.size ∧ Hid (n + 1 ≤ 10 ^ k) ∧ Hid (r = match dgs (t.data.toList.drop k) n with | none => (0, false) | some n => (n, true)) ∧ wr = W2) (fun _ i _ => t.size - (intOf i).toNat)
          case atStart => exact ⟨0, 0, rfl, rfl, by omega, Lib.hid (by simp), HR, rfl⟩
          case round =>
            obtain ⟨k, n, rfl, rfl, hk, HN, ho, hw⟩ := hrel
            obtain rfl := hw.symm; clear hw HR
            by_cases hlt : k < t.size
            · obtain ⟨b, hb, hd⟩ := byte_at t k hlt
              have hc := HCC.out k b (by have := congrArg (fun l => l[0]?) hd; simpa using this)
              have hD := isD_iff b
              have ho1 := ho.out
              rw [hd] at ho1
              clear ho hd hb
              by_cases hdig : 48 ≤ b.toNat ∧ b.toNat ≤ 57
              · rw [dgs_cons (hD.2 hdig)] at ho1
                obtain ⟨h4, h5⟩ := hdig
                clear hD
                generalize b.toNat = c at *
                have hn8 : n ≤ 99999999 := by
                  have h10 : 10 ^ k ≤ 10 ^ 8 := Nat.pow_le_pow_right (by omega) (by omega)
                  have := HN.out
                  omega
                have HN2 : Hid (10 * n + (c - 48) + 1 ≤ 10 ^ (k + 1)) := Lib.hid (by
                  have := HN.out
                  rw [Nat.pow_succ]
                  omega)
                have HO := Lib.hid ho1
                clear ho1 HN
                go_wp2
                go_roundw
                case rel => exact ⟨k + 1, 10 * n + (c - 48), by go_num, by go_num, by omega, HN2, HO, by trivial⟩
                case measure => simp only [intOf]; omega
              · have hf : isD b = false := by
                  cases h : isD b
                  · rfl
                  · exact absurd (hD.1 h) hdig
                have HO : Hid (r = (0, false)) := Lib.hid (by
                  rw [ho1, show b :: t.data.toList.drop (k + 1) = [] ++ b :: t.data.toList.drop (k + 1) from rfl, dgs_bad [] _ b n hf])
                clear ho1 hD hf HN
                generalize b.toNat = c at *
                have hcc : c < 48 ∨ 57 < c := by omega
                clear hdig
                rcases hcc with hcc | hcc
                · go_wp2
                  refine bodyPost_ret (v := .tuple #[.int .i64 0, .bool false]) (by simp [results, Tryd.results43, go_sem]) rfl ?_
                  exact ⟨by rw [HO.out] <;> rfl, hK2⟩
                · go_wp2
                  refine bodyPost_ret (v := .tuple #[.int .i64 0, .bool false]) (by simp [results, Tryd.results43, go_sem]) rfl ?_
                  exact ⟨by rw [HO.out] <;> rfl, hK2⟩
            · obtain rfl : k = t.size := by omega
              have HO : Hid (r = (n, true)) := Lib.hid (by
                have := ho.out
                rw [List.drop_eq_nil_of_le (by rw [data_len]; exact Nat.le_refl _)] at this
                rw [this]
                rfl)
              clear ho HN
              go_wp2
              refine bodyPost_ret (v := .tuple #[.int .i64 n, .bool true]) (by simp [results, Tryd.results43, go_sem]) rfl ?_
              exact ⟨by rw [HO.out] <;> rfl, hK2⟩
        · go_wp2
          go_loopw [4, 28] (fun v i wr => ∃ k n : Nat, i = .int .i64 k ∧ v = .int .i64 n ∧ k ≤ t.size ∧ Hid (n + 1 ≤ 10 ^ k) ∧ Hid (r = match dgs (t.data.toList.drop k) n with | none => (0, false) | some n => (n, true)) ∧ wr = W2) (fun _ i _ => t.size - (intOf i).toNat)
          case atStart => exact ⟨0, 0, rfl, rfl, by omega, Lib.hid (by simp), HR, rfl⟩
          case round =>
            obtain ⟨k, n, rfl, rfl, hk, HN, ho, hw⟩ := hrel
            obtain rfl := hw.symm; clear hw HR
            by_cases hlt : k < t.size
            · obtain ⟨b, hb, hd⟩ := byte_at t k hlt
              have hc := HCC.out k b (by have := congrArg (fun l => l[0]?) hd; simpa using this)
              have hD := isD_iff b
              have ho1 := ho.out
              rw [hd] at ho1
              clear ho hd hb
              by_cases hdig : 48 ≤ b.toNat ∧ b.toNat ≤ 57
              · rw [dgs_cons (hD.2 hdig)] at ho1
                obtain ⟨h4, h5⟩ := hdig
                clear hD
                generalize b.toNat = c at *
                have hn8 : n ≤ 99999999 := by
                  have h10 : 10 ^ k ≤ 10 ^ 8 := Nat.pow_le_pow_right (by omega) (by omega)
                  have := HN.out
                  omega
                have HN2 : Hid (10 * n + (c - 48) + 1 ≤ 10 ^ (k + 1)) := Lib.hid (by
                  have := HN.out
                  rw [Nat.pow_succ]
                  omega)
                have HO := Lib.hid ho1
                clear ho1 HN
                go_wp2
                go_roundw
                case rel => exact ⟨k + 1, 10 * n + (c - 48), by go_num, by go_num, by omega, HN2, HO, by trivial⟩
                case measure => simp only [intOf]; omega
              · have hf : isD b = false := by
                  cases h : isD b
                  · rfl
                  · exact absurd (hD.1 h) hdig
                have HO : Hid (r = (0, false)) := Lib.hid (by
                  rw [ho1, show b :: t.data.toList.drop (k + 1) = [] ++ b :: t.data.toList.drop (k + 1) from rfl, dgs_bad [] _ b n hf])
                clear ho1 hD hf HN
                generalize b.toNat = c at *
                have hcc : c < 48 ∨ 57 < c := by omega
                clear hdig
                rcases hcc with hcc | hcc
                · go_wp2
                  refine bodyPost_ret (v := .tuple #[.int .i64 0, .bool false]) (by simp [results, Tryd.results43, go_sem]) rfl ?_
                  exact ⟨by rw [HO.out] <;> rfl, hK2⟩
                · go_wp2
                  refine bodyPost_ret (v := .tuple #[.int .i64 0, .bool false]) (by simp [results, Tryd.results43, go_sem]) rfl ?_
                  exact ⟨by rw [HO.out] <;> rfl, hK2⟩
            · obtain rfl : k = t.size := by omega
              have HO : Hid (r = (n, true)) := Lib.hid (by
                have := ho.out
                rw [List.drop_eq_nil_of_le (by rw [data_len]; exact Nat.le_refl _)] at this
                rw [this]
                rfl)
              clear ho HN
              go_wp2
              refine bodyPost_ret (v := .tuple #[.int .i64 n, .bool true]) (by simp [results, Tryd.results43, go_sem]) rfl ?_
              exact ⟨by rw [HO.out] <;> rfl, hK2⟩
end
end Go.Proofs.YtckmhngcnimmdaaDoor
