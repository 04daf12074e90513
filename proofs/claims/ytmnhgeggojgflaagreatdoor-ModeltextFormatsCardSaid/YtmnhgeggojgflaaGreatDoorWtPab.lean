/- The text of a set: what the reference's Parse does. The text of a set: how the program reads a number. No condition. -/
import Derived.Test.YtmnhgeggojgflaaGreatDoorWtXZ
import Derived.Test.YtmnhgeggojgflaaGreatDoorWtR
import Derived.Lib.ConvBytes
set_option linter.unusedVariables false
set_option linter.unusedSimpArgs false
namespace Go.Proofs.YtmnhgeggojgflaaGreatDoor.Ws
open Go.RowKit

theorem own_len {w : World} {base n : Nat} {e : TypeId} {size : Nat} {v : Value} {xs : List Value} (h : w.ownsRow base e size v n xs) : n ≤ 9223372036854775807 := by
  rcases h.2 with ⟨_, rfl⟩ | ⟨g, cap, cur, rfl, _, _, h1, h2, _⟩
  · omega
  · simp only [maxLen] at h2
    omega
theorem drewN_drewN (w : World) (a b : Nat) : (w.drewN a).drewN b = w.drewN (a + b) := by
  simp [World.drewN, Nat.add_assoc]
theorem bad_cons (n : Nat) (r : List Nat) (last : Option Nat) : bad (n :: r) last = if 63 < n then some 2 else match last with
    | none => bad r (some n)
    | some m => if n ≤ m then some 9 else bad r (some n) := rfl
theorem chk_eq (l : List Nat) : chk l 0 (-1) = match bad l none with | none => ofL 0 (l.map Int.ofNat) | some e => (0, e) :=
  ofL_chk l 0 none (by simp) (by simp)

section
set_option maxRecDepth 100000
set_option maxHeartbeats 1000000
theorem rParse_any (t : ByteArray) (w : World) (ht : t.size ≤ 100000) :
    Calls Tryz.prog 133 #[.string t] w fun e w' => e = .returned (.tuple #[.int .u64 (parseS t.data.toList).1, .int .i64 (parseS t.data.toList).2]) ∧ Keep NoF w w' := by
  have HN := Lib.hid (rnumbers_any t w ht)
  have hpe := parseS_eq t.data.toList
  generalize parseS t.data.toList = P at *
  cases hr : numbersS t.data.toList with
  | none =>
    rw [hr] at HN hpe
    subst hpe
    go_enter Tryz.func133, Tryz.ntmps133
    go_wp2_with (go_at_call 146
                 (with_reducible refine HN.out.mono ?_)
                 rintro e w1 ⟨v, b, rfl, hk1, rfl, rfl⟩)
    refine bodyPost_ret (v := .tuple #[.int .u64 0, .int .i64 4]) (by simp [results, Tryz.results133, go_sem]) rfl ?_
    exact ⟨rfl, hk1⟩
  | some l =>
    rw [hr] at HN hpe
    have hpe2 : P = match bad l none with | none => ofL 0 (l.map Int.ofNat) | some e => (0, e) := by rw [hpe]; exact chk_eq l
    have HPE := Lib.hid hpe2
    clear hpe hpe2 hr
    go_enter Tryz.func133, Tryz.ntmps133
    go_upto_region 2 with (go_at_call 146
                           (with_reducible refine HN.out.mono ?_)
                           rintro e w1 ⟨v, b, rfl, hk1, rfl, hown⟩
                           obtain ⟨A, c, rfl⟩ := own_form hown)
    have hrd := Rd.of_own hown
    rw [inV_zV] at hrd
    have hll : l.length ≤ 9223372036854775807 := own_len hown
    clear HN
    go_wp2
    go_loopw [6] (fun i wr => ∃ k : Nat, i = .int .i64 k ∧ k ≤ l.length ∧ Hid (bad (l.drop k) (if k = 0 then none else l[k - 1]?) = bad l none) ∧ ∃ nq, wr = w1.drewN nq) (fun i _ => l.length - (intOf i).toNat)
    case atStart => exact ⟨0, rfl, by omega, Lib.hid rfl, 0, rfl⟩
    case round =>
      obtain ⟨k, rfl, hk, ho, nq0, rfl⟩ := hrel
      by_cases hlt : k < l.length
      · have hx : l[k]? = some l[k] := List.getElem?_eq_getElem hlt
        obtain ⟨-, bl, off, rfl, hc⟩ := Rd.int (l := l.map Int.ofNat) (k := k) (x := (l[k] : Nat)) (by simpa using hrd) (by simp [hx])
        have ho1 := ho.out
        rw [ndrop_at hx, bad_cons] at ho1
        have HX := Lib.hid hx
        clear ho hx
        generalize l[k] = x at *
        by_cases h63 : 63 < x
        · rw [if_pos h63] at ho1
          have HP : Hid (P = (0, 2)) := Lib.hid (by rw [HPE.out, ← ho1])
          clear ho1 HPE hrd HX
          go_wp2
          refine bodyPost_ret (v := .tuple #[.int .u64 0, .int .i64 2]) (by simp [results, Tryz.results133, go_sem]) rfl ?_
          exact ⟨by rw [HP.out] <;> rfl, hk1.drewN _⟩
        · rw [if_neg h63] at ho1
          by_cases hk0 : k = 0
          · subst hk0
            have HO : Hid (bad (l.drop (0 + 1)) (some x) = bad l none) := Lib.hid ho1
            clear ho1
            rw [Nat.add_zero] at hc
            go_wp2
            go_quiet (fail)
            go_wp2
            go_roundw
            case rel => exact ⟨1, rfl, by omega, Lib.hid (by rw [if_neg (by omega)]; show bad (l.drop 1) (l[0]?) = _; rw [HX.out]; exact HO.out), nq0 + nq, rfl⟩
            case measure => simp only [intOf]; omega
          · rw [if_neg hk0] at ho1
            have hy : l[k - 1]? = some l[k - 1] := List.getElem?_eq_getElem (by omega)
            obtain ⟨-, bl2, off2, hbb, hc2⟩ := Rd.int (l := l.map Int.ofNat) (k := k - 1) (x := (l[k - 1] : Nat)) (by simpa using hrd) (by simp [hy])
            rw [hy] at ho1
            clear hy
            injection hbb with hbb
            injection hbb with hbb1 hbb2 _
            subst hbb1 hbb2
            generalize l[k - 1] = y at *
            have hd : decide (0 < k) = true := by simp; omega
            have ho2 : (if x ≤ y then some 9 else bad (l.drop (k + 1)) (some x)) = bad l none := ho1
            clear ho1
            by_cases hxy : x ≤ y
            · rw [if_pos hxy] at ho2
              have HP : Hid (P = (0, 9)) := Lib.hid (by rw [HPE.out, ← ho2])
              clear ho2 HPE hrd HX
              go_wp2
              go_quiet (fail)
              go_wp2
              refine bodyPost_ret (v := .tuple #[.int .u64 0, .int .i64 9]) (by simp [results, Tryz.results133, go_sem]) rfl ?_
              exact ⟨by rw [HP.out] <;> rfl, (hk1.drewN _).drewN _⟩
            · rw [if_neg hxy] at ho2
              have HO : Hid (bad (l.drop (k + 1)) (if k + 1 = 0 then none else l[k + 1 - 1]?) = bad l none) := Lib.hid (by rw [if_neg (by omega), Nat.add_sub_cancel, HX.out]; exact ho2)
              clear ho2 HX
              go_wp2
              go_quiet (fail)
              go_wp2
              go_roundw
              case rel => exact ⟨k + 1, by go_num, by omega, HO, nq0 + nq, rfl⟩
              case measure => simp only [intOf]; omega
      · obtain rfl : k = l.length := by omega
        have HB : Hid (bad l none = none) := Lib.hid (by rw [← ho.out, List.drop_length]; rfl)
        have HP : Hid (P = ofL 0 (l.map Int.ofNat)) := Lib.hid (by rw [HPE.out, HB.out])
        have hrd2 : Rd (w1.drewN nq0) (.slice A l.length c) 1 l.length (List.map zV (List.map Int.ofNat l)) := hrd
        have HOF := rOf_any (l.map Int.ofNat) A c (w1.drewN nq0) (by simpa using hll) (by simpa using hrd2)
        rw [List.length_map] at HOF
        have HOF2 := Lib.hid HOF
        clear ho HOF HPE hrd
        rw [← HP.out] at HOF2
        go_wp2_with (go_at_call 147; (with_reducible refine HOF2.out.mono ?_); rintro e w' ⟨rfl, hw'⟩; obtain rfl := hw'.symm)
        refine bodyPost_ret (v := .tuple #[.int .u64 P.1, .int .i64 P.2]) (by simp [results, Tryz.results133, go_sem]) rfl ?_
        exact ⟨rfl, hk1.drewN _⟩
end
end Go.Proofs.YtmnhgeggojgflaaGreatDoor.Ws
namespace Go.Proofs.YtmnhgeggojgflaaGreatDoor.Ws
open Go.RowKit

theorem conv_bytes (t : ByteArray) (w : World) : ∃ cap W2, (convert 9 41 (.string t)).run Tryz.prog w = .ok (.slice (some ⟨w.heap.size, 0, none⟩) t.size cap) W2 ∧ Keep NoF w W2 ∧ ∀ j b, t.data.toList[j]? = some b → W2.cell? ⟨w.heap.size, j, none⟩ = some (.int .u8 b.toNat) := by
  refine ⟨_, _, Lib.run_convert_string_bytes w 9 41 5 t Tryz.underlying9 Tryz.underlying41 Tryz.underlying5, ⟨rfl, rfl, rfl, by rw [Lib.bytesWorld_size]; omega, fun k hk _ => Lib.bytesWorld_at_old w _ t k hk⟩, fun j b hb => ?_⟩
  have hlt := (List.getElem?_eq_some_iff.1 hb).1
  rw [Lib.bytesWorld_cell w 5 t j (by rwa [data_len] at hlt), List.getD_eq_getElem?_getD, hb]
  rfl
def numR (f : List UInt8) : Nat × Bool := match numF f with | none => (0, false) | some n => (n, true)

section
set_option maxRecDepth 100000
set_option maxHeartbeats 1000000
theorem number_any (t : ByteArray) (w : World) (ht : t.size ≤ 100000) :
    Calls Tryz.prog 145 #[.string t] w fun e w' => e = .returned (.tuple #[.int .i64 (numR t.data.toList).1, .bool (numR t.data.toList).2]) ∧ Keep NoF w w' := by
  have hdl := data_len t
  by_cases h1 : t.size < 1
  · rw [show numR t.data.toList = (0, false) by unfold numR numF; rw [if_pos (.inl (by omega))]]
    go_enter Tryz.func145, Tryz.ntmps145
    go_wp2
    refine bodyPost_ret (v := .tuple #[.int .i64 0, .bool false]) (by simp [results, Tryz.results145, go_sem]) rfl ?_
    exact ⟨rfl, Keep.refl _ _⟩
  · by_cases h9 : 9 < t.size
    · rw [show numR t.data.toList = (0, false) by unfold numR numF; rw [if_pos (.inr (.inl (by omega)))]]
      go_enter Tryz.func145, Tryz.ntmps145
      go_wp2
      refine bodyPost_ret (v := .tuple #[.int .i64 0, .bool false]) (by simp [results, Tryz.results145, go_sem]) rfl ?_
      exact ⟨rfl, Keep.refl _ _⟩
    · have hs0 : 0 < t.size := by omega
      have hh := headD_at t hs0
      by_cases hz : 1 < t.size ∧ t[0] = 48
      · rw [show numR t.data.toList = (0, false) by unfold numR numF; rw [if_pos (.inr (.inr ⟨by omega, by rw [hh, hz.2]⟩))]]
        have e0 : t[0].toNat = 48 := by rw [hz.2]; rfl
        have hz1 := hz.1
        clear hz hh
        go_enter Tryz.func145, Tryz.ntmps145
        go_wp2
        refine bodyPost_ret (v := .tuple #[.int .i64 0, .bool false]) (by simp [results, Tryz.results145, go_sem]) rfl ?_
        exact ⟨rfl, Keep.refl _ _⟩
      · have hz2 : t.size = 1 ∨ (1 < t.size ∧ ((t[0].toNat : Int) == 48) = false) := by
          by_cases h : t.size = 1
          · exact .inl h
          · right
            have : t[0].toNat ≠ 48 := fun e => hz ⟨by omega, UInt8.toNat_inj.1 e⟩
            refine ⟨by omega, ?_⟩
            simp
            omega
        have HF : Hid (numF t.data.toList = dgs t.data.toList 0) := Lib.hid (if_neg (by rw [hdl, hh]; rintro (h | h | h); omega; omega; exact hz h))
        generalize hr : numR t.data.toList = r
        have HR : Hid (r = match dgs t.data.toList 0 with | none => (0, false) | some n => (n, true)) := Lib.hid (by rw [← hr]; unfold numR; rw [HF.out])
        clear hr HF hh hz
        obtain ⟨cap, W2, hconv, hK2, hcells⟩ := conv_bytes t w
        have HCC := Lib.hid hcells
        clear hcells
        go_enter Tryz.func145, Tryz.ntmps145
        rcases hz2 with hz2 | ⟨hz1, hz2⟩
        · go_wp2
          go_loopw [4, 28] (fun v i wr => ∃ k n : Nat, i = .int .i64 k ∧ v = .int .i64 n ∧ k ≤ t.size ∧ Hid (n + 1 ≤ 10 ^ k) ∧ Hid (r = match dgs (t.data.toList.drop k) n with | none => (0, false) | some n => (n, true)) ∧ wr = W2) (fun _ i _ => t.size - (intOf i).toNat)
          case atStart => exact ⟨0, 0, rfl, rfl, by omega, Lib.hid (by simp), HR, rfl⟩
          case round =>
            obtain ⟨k, n, rfl, rfl, hk, HN, ho, hw⟩ := hrel
            obtain rfl := hw.symm; clear hw HR
            by_cases hlt : k < t.size
            · obtain ⟨b, hb, hd⟩ := byte_at t k hlt
              have hc := HCC.out k b (by have := congrArg (fun l => l[0]?) hd; simpa using this)
              have hD := isD_iff b
              have ho1 := ho.out
              rw [hd] at ho1
              clear ho hd hb
              by_cases hdig : 48 ≤ b.toNat ∧ b.toNat ≤ 57
              · rw [dgs_cons (hD.2 hdig)] at ho1
                obtain ⟨h4, h5⟩ := hdig
                clear hD
                generalize b.toNat = c at *
                have hn8 : n ≤ 99999999 := by
                  have h10 : 10 ^ k ≤ 10 ^ 8 := Nat.pow_le_pow_right (by omega) (by omega)
                  have := HN.out
                  omega
                have HN2 : Hid (10 * n + (c - 48) + 1 ≤ 10 ^ (k + 1)) := Lib.hid (by
                  have := HN.out
                  rw [Nat.pow_succ]
                  omega)
                have HO := Lib.hid ho1
                clear ho1 HN
                go_wp2
                go_roundw
                case rel => exact ⟨k + 1, 10 * n + (c - 48), by go_num, by go_num, by omega, HN2, HO, by trivial⟩
                case measure => simp only [intOf]; omega
              · have hf : isD b = false := by
                  cases h : isD b
                  · rfl
                  · exact absurd (hD.1 h) hdig
                have HO : Hid (r = (0, false)) := Lib.hid (by
                  rw [ho1, show b :: t.data.toList.drop (k + 1) = [] ++ b :: t.data.toList.drop (k + 1) from rfl, dgs_bad [] _ b n hf])
                clear ho1 hD hf HN
                generalize b.toNat = c at *
                have hcc : c < 48 ∨ 57 < c := by omega
                clear hdig
                rcases hcc with hcc | hcc
                · go_wp2
                  refine bodyPost_ret (v := .tuple #[.int .i64 0, .bool false]) (by simp [results, Tryz.results145, go_sem]) rfl ?_
                  exact ⟨by rw [HO.out] <;> rfl, hK2⟩
                · go_wp2
                  refine bodyPost_ret (v := .tuple #[.int .i64 0, .bool false]) (by simp [results, Tryz.results145, go_sem]) rfl ?_
                  exact ⟨by rw [HO.out] <;> rfl, hK2⟩
            · obtain rfl : k = t.size := by omega
              have HO : Hid (r = (n, true)) := Lib.hid (by
                have := ho.out
                rw [List.drop_eq_nil_of_le (by rw [data_len]; exact Nat.le_refl _)] at this
                rw [this]
                rfl)
              clear ho HN
              go_wp2
              refine bodyPost_ret (v := .tuple #[.int .i64 n, .bool true]) (by simp [results, Tryz.results145, go_sem]) rfl ?_
              exact ⟨by rw [HO.out] <;> rfl, hK2⟩
        · go_wp2
          go_loopw [4, 28] (fun v i wr => ∃ k n : Nat, i = .int .i64 k ∧ v = .int .i64 n ∧ k ≤ t.size ∧ Hid (n + 1 ≤ 10 ^ k) ∧ Hid (r = match dgs (t.data.toList.drop k) n with | none => (0, false) | some n => (n, true)) ∧ wr = W2) (fun _ i _ => t.size - (intOf i).toNat)
          case atStart => exact ⟨0, 0, rfl, rfl, by omega, Lib.hid (by simp), HR, rfl⟩
          case round =>
            obtain ⟨k, n, rfl, rfl, hk, HN, ho, hw⟩ := hrel
            obtain rfl := hw.symm; clear hw HR
            by_cases hlt : k < t.size
            · obtain ⟨b, hb, hd⟩ := byte_at t k hlt
              have hc := HCC.out k b (by have := congrArg (fun l => l[0]?) hd; simpa using this)
              have hD := isD_iff b
              have ho1 := ho.out
              rw [hd] at ho1
              clear ho hd hb
              by_cases hdig : 48 ≤ b.toNat ∧ b.toNat ≤ 57
              · rw [dgs_cons (hD.2 hdig)] at ho1
                obtain ⟨h4, h5⟩ := hdig
                clear hD
                generalize b.toNat = c at *
                have hn8 : n ≤ 99999999 := by
                  have h10 : 10 ^ k ≤ 10 ^ 8 := Nat.pow_le_pow_right (by omega) (by omega)
                  have := HN.out
                  omega
                have HN2 : Hid (10 * n + (c - 48) + 1 ≤ 10 ^ (k + 1)) := Lib.hid (by
                  have := HN.out
                  rw [Nat.pow_succ]
                  omega)
                have HO := Lib.hid ho1
                clear ho1 HN
                go_wp2
                go_roundw
                case rel => exact ⟨k + 1, 10 * n + (c - 48), by go_num, by go_num, by omega, HN2, HO, by trivial⟩
                case measure => simp only [intOf]; omega
              · have hf : isD b = false := by
                  cases h : isD b
                  · rfl
                  · exact absurd (hD.1 h) hdig
                have HO : Hid (r = (0, false)) := Lib.hid (by
                  rw [ho1, show b :: t.data.toList.drop (k + 1) = [] ++ b :: t.data.toList.drop (k + 1) from rfl, dgs_bad [] _ b n hf])
                clear ho1 hD hf HN
                generalize b.toNat = c at *
                have hcc : c < 48 ∨ 57 < c := by omega
                clear hdig
                rcases hcc with hcc | hcc
                · go_wp2
                  refine bodyPost_ret (v := .tuple #[.int .i64 0, .bool false]) (by simp [results, Tryz.results145, go_sem]) rfl ?_
                  exact ⟨by rw [HO.out] <;> rfl, hK2⟩
                · go_wp2
                  refine bodyPost_ret (v := .tuple #[.int .i64 0, .bool false]) (by simp [results, Tryz.results145, go_sem]) rfl ?_
                  exact ⟨by rw [HO.out] <;> rfl, hK2⟩
            · obtain rfl : k = t.size := by omega
              have HO : Hid (r = (n, true)) := Lib.hid (by
                have := ho.out
                rw [List.drop_eq_nil_of_le (by rw [data_len]; exact Nat.le_refl _)] at this
                rw [this]
                rfl)
              clear ho HN
              go_wp2
              refine bodyPost_ret (v := .tuple #[.int .i64 n, .bool true]) (by simp [results, Tryz.results145, go_sem]) rfl ?_
              exact ⟨by rw [HO.out] <;> rfl, hK2⟩
end
end Go.Proofs.YtmnhgeggojgflaaGreatDoor.Ws
