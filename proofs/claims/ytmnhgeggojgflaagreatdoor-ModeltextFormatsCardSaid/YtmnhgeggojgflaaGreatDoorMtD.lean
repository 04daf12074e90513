/- The text of a model: how the program reads a number; whether an item is a set. No condition. -/
import Derived.Test.YtmnhgeggojgflaaGreatDoorMtA
import Derived.Test.YtmnhgeggojgflaaGreatDoorWtPab
import Derived.Test.YtmnhgeggojgflaaGreatDoorMtSh
import Derived.Lib.ConvBytes
set_option linter.unusedVariables false
set_option linter.unusedSimpArgs false
namespace Mt
open Go (Lib.atoi Lib.decFrom Lib.digitVal Lib.decNat)
open Go.Proofs.YtmnhgeggojgflaaGreatDoor.Ws (dgs)
theorem dec_dgs : ∀ (l : List UInt8) (n m : Nat), dgs l n = some m → Lib.decFrom n l = some m
  | [], n, m, h => h
  | c :: r, n, m, h => by
    unfold dgs at h
    split at h
    · cases h
    · next hc =>
      have hd : Lib.digitVal c = some (c.toNat - 48) := by unfold Go.Lib.digitVal; rw [if_pos (by omega)]
      have := dec_dgs r _ m h
      unfold Go.Lib.decFrom
      rw [hd]
      show Go.Lib.decFrom (n * 10 + (c.toNat - 48)) r = some m
      rw [Nat.mul_comm n 10]
      exact this
theorem atoi_dgs {l : List UInt8} {m : Nat} (hl : l ≠ []) (h : dgs l 0 = some m) : Lib.atoi l = some (m : Int) := by
  have hd := dec_dgs l 0 m h
  cases l with
  | nil => exact absurd rfl hl
  | cons c r =>
    have hc : ¬ (c.toNat < 48 ∨ 57 < c.toNat) := fun hc => by
      unfold dgs at h
      rw [if_pos hc] at h
      cases h
    have hn : Go.Lib.decNat (c :: r) = some m := by unfold Go.Lib.decNat; rw [if_neg (by simp)]; exact hd
    have h45 : (c == 45) = false := by rw [beq_eq_false_iff_ne]; rintro rfl; exact hc (by decide)
    have h43 : (c == 43) = false := by rw [beq_eq_false_iff_ne]; rintro rfl; exact hc (by decide)
    show (if (c == 45) = true then (Go.Lib.decNat r).map (fun (m : Nat) => -(m : Int)) else if (c == 43) = true then (Go.Lib.decNat r).map (fun (m : Nat) => (m : Int)) else (Go.Lib.decNat (c :: r)).map (fun (m : Nat) => (m : Int))) = some (m : Int)
    rw [h45, h43, hn]
    rfl
end Mt
namespace Go.Proofs.YtmnhgeggojgflaaGreatDoor
open Go.RowKit
open Mt
open Ws (dgs conv_bytes headD_at isD isD_iff dgs_cons dgs_bad)
attribute [local go_sem] Oper.semAt_some
section
set_option maxRecDepth 100000
set_option maxHeartbeats 1000000
theorem mtset_any (t : ByteArray) (w : World) (h0 : 0 < t.size) : Calls Tryz.prog 103 #[.string t] w fun e w' => e = .returned (.bool (isS t.data.toList)) ∧ w' = w := by
  have hh := headD_at t h0
  have hb : ((t[0].toNat : Int) == 123) = isS t.data.toList := by
    unfold isS
    rw [hh]
    by_cases h : t[0] = 123
    · rw [h]; rfl
    · have h1 : t[0].toNat ≠ 123 := fun e => h (UInt8.toNat_inj.1 e)
      rw [beq_eq_false_iff_ne.2 h, beq_eq_false_iff_ne.2 (by omega)]
  generalize isS t.data.toList = d at *
  clear hh
  go_enter Tryz.func103, Tryz.ntmps103
  go_wp2
  go_ret
  exact ⟨rfl, rfl⟩
theorem mtnumber_any (t : ByteArray) (w : World) : Calls Tryz.prog 102 #[.string t] w fun e w' => e = .returned (.tuple #[.int .i64 ((numB t.data.toList).getD 0 : Nat), .bool (numB t.data.toList).isSome]) ∧ Keep NoF w w' := by
  have hdl := data_len t
  by_cases h1 : t.size < 1
  · rw [show numB t.data.toList = none by unfold numB; rw [if_pos (.inl (by omega))]]
    go_enter Tryz.func102, Tryz.ntmps102
    go_wp2
    refine bodyPost_ret (v := .tuple #[.int .i64 0, .bool false]) (by simp [results, Tryz.results102, go_sem]) rfl ?_
    exact ⟨rfl, Keep.refl _ _⟩
  · by_cases h9 : 3 < t.size
    · rw [show numB t.data.toList = none by unfold numB; rw [if_pos (.inr (.inl (by omega)))]]
      go_enter Tryz.func102, Tryz.ntmps102
      go_wp2
      refine bodyPost_ret (v := .tuple #[.int .i64 0, .bool false]) (by simp [results, Tryz.results102, go_sem]) rfl ?_
      exact ⟨rfl, Keep.refl _ _⟩
    · have hs0 : 0 < t.size := by omega
      have hh := headD_at t hs0
      by_cases hz : 1 < t.size ∧ t[0] = 48
      · rw [show numB t.data.toList = none by unfold numB; rw [if_pos (.inr (.inr ⟨by omega, by rw [hh, hz.2]⟩))]]
        have e0 : t[0].toNat = 48 := by rw [hz.2]; rfl
        have hz1 := hz.1
        clear hz hh
        go_enter Tryz.func102, Tryz.ntmps102
        go_wp2
        refine bodyPost_ret (v := .tuple #[.int .i64 0, .bool false]) (by simp [results, Tryz.results102, go_sem]) rfl ?_
        exact ⟨rfl, Keep.refl _ _⟩
      · have hz2 : t.size = 1 ∨ (1 < t.size ∧ ((t[0].toNat : Int) == 48) = false) := by
          by_cases h : t.size = 1
          · exact .inl h
          · right
            have : t[0].toNat ≠ 48 := fun e => hz ⟨by omega, UInt8.toNat_inj.1 e⟩
            refine ⟨by omega, ?_⟩
            simp
            omega
        have HF : Hid (numB t.data.toList = dgs t.data.toList 0) := Lib.hid (if_neg (by rw [hdl, hh]; rintro (h | h | h); omega; omega; exact hz h))
        have HA : Hid (∀ m, dgs t.data.toList 0 = some m → Lib.atoi t.data.toList = some (m : Int)) := Lib.hid fun m h => atoi_dgs (fun e => by rw [e] at hdl; simp at hdl; omega) h
        rw [HF.out]
        generalize hr : dgs t.data.toList 0 = r at *
        have HR := Lib.hid hr
        clear hr HF hh hz
        obtain ⟨cap, W2, hconv, hK2, hcells⟩ := conv_bytes t w
        have HCC := Lib.hid hcells
        clear hcells
        go_enter Tryz.func102, Tryz.ntmps102
        go_upto_region 1 with (fail)
        go_cut [25] from 8 to 26 (fun v25 wc => v25 = .bool false ∧ wc = w)
        case first =>
          rcases hz2 with hz2 | ⟨hz1, hz2⟩
          · go_wp2
            go_meet
            exact ⟨by simp [hz2], rfl⟩
          · go_wp2
            go_meet
            exact ⟨by simp; omega, rfl⟩
        case rest =>
          obtain ⟨rfl, hwc⟩ := hcut
          obtain rfl : wc = w := hwc
          clear hz2
          go_wp2
          go_loopw [5, 29] (fun _ i wr => ∃ k n : Nat, i = .int .i64 k ∧ k ≤ t.size ∧ Hid (dgs (t.data.toList.drop k) n = r) ∧ wr = W2) (fun _ i _ => t.size - (intOf i).toNat)
          case atStart => exact ⟨0, 0, rfl, by omega, Lib.hid (by rw [List.drop_zero]; exact HR.out), rfl⟩
          case round =>
            obtain ⟨k, n, rfl, hk, ho, hw⟩ := hrel
            obtain rfl := hw.symm; clear hw
            by_cases hlt : k < t.size
            · obtain ⟨b, hb, hd⟩ := Ws.byte_at t k hlt
              have hc := HCC.out k b (by have := congrArg (fun l => l[0]?) hd; simpa using this)
              have hD := isD_iff b
              have ho1 := ho.out
              rw [hd] at ho1
              clear ho hd hb
              by_cases hdig : 48 ≤ b.toNat ∧ b.toNat ≤ 57
              · rw [dgs_cons (hD.2 hdig)] at ho1
                obtain ⟨h4, h5⟩ := hdig
                clear hD
                have HO := Lib.hid ho1
                clear ho1
                generalize b.toNat = c at *
                go_wp2
                exact ⟨⟨k + 1, _, by simp, by omega, HO, trivial⟩, by show t.size - ((k : Int) + 1).toNat < t.size - ((k : Int)).toNat; omega⟩
              · have hf : isD b = false := by
                  cases h : isD b
                  · rfl
                  · exact absurd (hD.1 h) hdig
                have HO : Hid (r = none) := Lib.hid (by
                  rw [← ho1, show b :: t.data.toList.drop (k + 1) = [] ++ b :: t.data.toList.drop (k + 1) from rfl, dgs_bad [] _ b n hf])
                clear ho1 hD hf
                generalize b.toNat = c at *
                have hcc : c < 48 ∨ 57 < c := by omega
                clear hdig
                rcases hcc with hcc | hcc
                · go_wp2
                  refine bodyPost_ret (v := .tuple #[.int .i64 0, .bool false]) (by simp [results, Tryz.results102, go_sem]) rfl ?_
                  exact ⟨by rw [HO.out] <;> rfl, hK2⟩
                · go_wp2
                  refine bodyPost_ret (v := .tuple #[.int .i64 0, .bool false]) (by simp [results, Tryz.results102, go_sem]) rfl ?_
                  exact ⟨by rw [HO.out] <;> rfl, hK2⟩
            · obtain rfl : k = t.size := by omega
              have HO : Hid (r = some n) := Lib.hid (by
                have := ho.out
                rw [List.drop_eq_nil_of_le (by rw [data_len]; exact Nat.le_refl _)] at this
                exact this.symm)
              have HAT := Lib.hid (HA.out n HO.out)
              clear ho
              have hkeep : ∀ (W : World) tt, Keep NoF W (Lib.bytesWorld W 5 tt) := fun W tt => ⟨rfl, rfl, rfl, by rw [Lib.bytesWorld_size]; omega, fun k hk _ => Lib.bytesWorld_at_old W _ tt k hk⟩
              go_upto_region 10 with (first
                | (go_at_call 129; (with_reducible refine (Tryz.strconv_Atoi t n (by omega) HAT.out _).mono ?_); rintro e w4 ⟨rfl, tt, rfl⟩))
              go_quiet (fail)
              go_wp2
              refine bodyPost_ret (v := .tuple #[.int .i64 (n : Nat), .bool true]) (by simp [results, Tryz.results102, go_sem]) rfl ?_
              exact ⟨by rw [HO.out] <;> rfl, (hK2.trans (hkeep _ tt) fun _ _ h => h).drewN _⟩
end
end Go.Proofs.YtmnhgeggojgflaaGreatDoor
