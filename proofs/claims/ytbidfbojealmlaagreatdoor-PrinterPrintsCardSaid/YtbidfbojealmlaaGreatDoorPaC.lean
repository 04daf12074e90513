/- Tokens: what the parser's function length does. Conditions: the text is not empty. -/
import Derived.Test.YtbidfbojealmlaaGreatDoorPaA
import Derived.Test.YtbidfbojealmlaaGreatDoorPaSh
set_option linter.unusedVariables false
set_option linter.unusedSimpArgs false
namespace Go.Proofs.YtbidfbojealmlaaGreatDoor
open Go.RowKit

theorem byte_back (b : UInt8) : ((b.toNat : Int)).toNat.toUInt8 = b := by simp
theorem at_list (t : ByteArray) (k : Nat) (h : k < t.size) : t.data.toList[k]? = some t[k] := by
  rw [Array.getElem?_toList, Array.getElem?_eq_getElem (by exact h)]
  rfl
section
set_option maxRecDepth 100000
set_option maxHeartbeats 1000000
theorem length_any (t : ByteArray) (h : 0 < t.size) (hs : t.size ≤ 9223372036854775807) (w : World) : Calls Tryz.prog 39 #[.string t] w fun e w' => e = .returned (.int .i64 (lenT t.data.toList)) ∧ Keep NoF w w' := by
  have HP1 := Lib.hid fun W => Tryz.strings_HasPrefix t ⟨#[60, 45, 62]⟩ W
  have HP2 := Lib.hid fun W => Tryz.strings_HasPrefix t ⟨#[45, 62]⟩ W
  have hA := at_list t 0 h
  have HIX := Lib.hid fun W => Tryz.strings_IndexByte ⟨#[126, 38, 124, 40, 41, 91, 93, 44, 46, 33]⟩ (t[0].toNat : Int) W
  rw [byte_back] at HIX
  have hlen : t.data.toList.length = t.size := by simp
  have hne : ∃ r, t.data.toList = t[0] :: r := by
    cases hl : t.data.toList with
    | nil => rw [hl] at hA; simp at hA
    | cons a r => rw [hl] at hA; simp at hA; exact ⟨r, by rw [hA]⟩
  have HT : Hid (lenT t.data.toList = if Lib.hasPrefix t.data.toList [60, 45, 62] = true then 3 else if Lib.hasPrefix t.data.toList [45, 62] = true then 2 else if t[0] ∈ signs then 1 else if letN t[0].toNat = true then (t.data.toList.takeWhile wordB).length else (t.data.toList.takeWhile digB).length) := Lib.hid (by
    obtain ⟨r, hr⟩ := hne
    unfold lenT
    rw [hr])
  have HSG := Lib.hid (sign_iff t[0])
  have Bq := Bk.new w 9 #[.string ⟨#[60, 45, 62]⟩, .string ⟨#[45, 62]⟩]
  have Kq : Keep NoF w (w.alloc (.cells #[.string ⟨#[60, 45, 62]⟩, .string ⟨#[45, 62]⟩] 9)) := (Keep.refl _ _).alloc _
  generalize hp1 : Lib.hasPrefix t.data.toList [60, 45, 62] = p1 at *
  generalize hp2 : Lib.hasPrefix t.data.toList [45, 62] = p2 at *
  have HP1' : Hid (∀ W, Calls Tryz.prog 72 #[.string t, .string ⟨#[60, 45, 62]⟩] W fun e w' => e = .returned (.bool p1) ∧ w' = W) := Lib.hid HP1.out
  have HP2' : Hid (∀ W, Calls Tryz.prog 72 #[.string t, .string ⟨#[45, 62]⟩] W fun e w' => e = .returned (.bool p2) ∧ w' = W) := Lib.hid HP2.out
  clear HP1 HP2 hp1 hp2 hne hA
  go_enter Tryz.func39, Tryz.ntmps39
  go_wp2
  generalize w.alloc (.cells #[.string ⟨#[60, 45, 62]⟩, .string ⟨#[45, 62]⟩] 9) = W0 at *
  have s0 := Bq.cell 0
  have s1 := Bq.cell 1
  go_loopw [9] (fun i wr => ∃ j : Nat, i = .int .i64 j ∧ j ≤ 2 ∧ (1 ≤ j → p1 = false) ∧ (2 ≤ j → p2 = false) ∧ wr = W0) (fun i _ => 2 - (intOf i).toNat)
  case atStart => exact ⟨0, rfl, by omega, fun h => by omega, fun h => by omega, rfl⟩
  case round =>
    obtain ⟨j, rfl, hj, h1, h2, rfl⟩ := hrel
    obtain ⟨W0, rfl⟩ : ∃ W0 : World, W0 = wr := ⟨_, rfl⟩
    have h3 : j = 0 ∨ j = 1 ∨ j = 2 := by omega
    rcases h3 with rfl | rfl | rfl
    · clear h1 h2
      cases p1 with
      | true =>
        go_wp2_with (go_at_call 72; (with_reducible refine (HP1'.out _).mono ?_); rintro e w' ⟨rfl, hw'⟩; obtain rfl := hw'.symm)
        go_ret
        have e3 : lenT t.data.toList = 3 := by rw [HT.out]; simp
        exact ⟨by rw [e3]; rfl, Kq⟩
      | false =>
        go_wp2_with (go_at_call 72; (with_reducible refine (HP1'.out _).mono ?_); rintro e w' ⟨rfl, hw'⟩; obtain rfl := hw'.symm)
        go_roundw
        case rel => exact ⟨1, rfl, by omega, fun _ => (by trivial), fun h => by omega, by trivial⟩
        case measure => simp [intOf]
    · obtain rfl := h1 (by omega)
      clear h1 h2
      cases p2 with
      | true =>
        go_wp2_with (go_at_call 72; (with_reducible refine (HP2'.out _).mono ?_); rintro e w' ⟨rfl, hw'⟩; obtain rfl := hw'.symm)
        go_ret
        have e3 : lenT t.data.toList = 2 := by rw [HT.out]; simp
        exact ⟨by rw [e3]; rfl, Kq⟩
      | false =>
        go_wp2_with (go_at_call 72; (with_reducible refine (HP2'.out _).mono ?_); rintro e w' ⟨rfl, hw'⟩; obtain rfl := hw'.symm)
        go_roundw
        case rel => exact ⟨2, rfl, by omega, fun _ => (by trivial), fun _ => (by trivial), by trivial⟩
        case measure => simp [intOf]
    · obtain rfl := h1 (by omega)
      obtain rfl := h2 (by omega)
      have HT1 : Hid (lenT t.data.toList = if t[0] ∈ signs then 1 else if letN t[0].toNat = true then (t.data.toList.takeWhile wordB).length else (t.data.toList.takeWhile digB).length) := Lib.hid (by rw [HT.out]; simp)
      clear HT HP1' HP2'
      have HL := Lib.hid fun W => fletter_any t[0].toNat W
      have HB : ∀ (k : Nat) (hk : k < t.size), t.data.toList[k]? = some t[k] := fun k hk => at_list t k hk
      have HBB := Lib.hid HB
      clear HB
      by_cases hsg : t[0] ∈ signs
      · have hge := HSG.out.2 hsg
        have HT2 : Hid (lenT t.data.toList = 1) := Lib.hid (by rw [HT1.out, if_pos hsg])
        have hge' : (0 : Int) ≤ Lib.indexByte [126, 38, 124, 40, 41, 91, 93, 44, 46, 33] t[0] := hge
        clear hge hsg
        go_wp2_with (go_at_call 38; (with_reducible refine (HIX.out _).mono ?_); rintro e w' ⟨rfl, hw'⟩; obtain rfl := hw'.symm)
        go_ret
        exact ⟨by rw [HT2.out]; rfl, Kq⟩
      · have hlt : ¬ (0 : Int) ≤ Lib.indexByte [126, 38, 124, 40, 41, 91, 93, 44, 46, 33] t[0] := fun h => hsg (HSG.out.1 h)
        cases hl0 : letN t[0].toNat with
        | true =>
          have HT2 : Hid (lenT t.data.toList = (t.data.toList.takeWhile wordB).length) := Lib.hid (by rw [HT1.out, if_neg hsg, if_pos hl0])
          clear hsg
          go_wp2_with (first
            | (go_at_call 38; (with_reducible refine (HIX.out _).mono ?_); rintro e w' ⟨rfl, hw'⟩; obtain rfl := hw'.symm)
            | (go_at_call 73; (with_reducible refine (HL.out _).mono ?_); rintro e w' ⟨rfl, hw'⟩; obtain rfl := hw'.symm))
          go_loopw [5] (fun nv wr => ∃ k : Nat, nv = .int .i64 k ∧ k ≤ t.size ∧ Hid (∀ j, j < k → ∃ b, t.data.toList[j]? = some b ∧ wordB b = true) ∧ wr = W0) (fun nv _ => t.size - (intOf nv).toNat)
          case atStart => exact ⟨0, rfl, by omega, Lib.hid (fun j hj => by omega), by trivial⟩
          case round =>
            obtain ⟨k, rfl, hk, hall, rfl⟩ := hrel
            by_cases hks : k < t.size
            · have hk1 : (k : Int) < (t.size : Int) := by omega
              have hk0 : (0 : Int) ≤ (k : Int) := by omega
              have HBK := Lib.hid (HBB.out k hks)
              cases hl1 : letN t[k].toNat with
              | true =>
                go_wp2_with (first | (go_at_call 73; (with_reducible refine (fletter_any _ _).mono ?_); rintro e w' ⟨rfl, hw'⟩; obtain rfl := hw'.symm) | (go_at_call 74; (with_reducible refine (fdigit_any _ _).mono ?_); rintro e w' ⟨rfl, hw'⟩; obtain rfl := hw'.symm))
                go_roundw
                case rel => exact ⟨k + 1, by go_num, by omega, Lib.hid (fun j hj => if h : j < k then hall.out j h else (by obtain rfl : j = k := (by omega); exact ⟨_, HBK.out, by simp [wordB, hl1]⟩)), by trivial⟩
                case measure => simp only [intOf]; omega
              | false =>
                cases hd1 : digN t[k].toNat with
                | true =>
                  go_wp2_with (first | (go_at_call 73; (with_reducible refine (fletter_any _ _).mono ?_); rintro e w' ⟨rfl, hw'⟩; obtain rfl := hw'.symm) | (go_at_call 74; (with_reducible refine (fdigit_any _ _).mono ?_); rintro e w' ⟨rfl, hw'⟩; obtain rfl := hw'.symm))
                  go_roundw
                  case rel => exact ⟨k + 1, by go_num, by omega, Lib.hid (fun j hj => if h : j < k then hall.out j h else (by obtain rfl : j = k := (by omega); exact ⟨_, HBK.out, by simp [wordB, hd1]⟩)), by trivial⟩
                  case measure => simp only [intOf]; omega
                | false =>
                  have e9 : (t.data.toList.takeWhile wordB).length = k := tw_len hall.out (.inr ⟨_, HBK.out, by simp [wordB, hl1, hd1]⟩)
                  have E9 := Lib.hid (HT2.out.trans e9)
                  clear e9
                  go_wp2_with (first | (go_at_call 73; (with_reducible refine (fletter_any _ _).mono ?_); rintro e w' ⟨rfl, hw'⟩; obtain rfl := hw'.symm) | (go_at_call 74; (with_reducible refine (fdigit_any _ _).mono ?_); rintro e w' ⟨rfl, hw'⟩; obtain rfl := hw'.symm))
                  go_ret
                  exact ⟨by rw [E9.out]; rfl, Kq⟩
            · have hk1 : ¬ (k : Int) < (t.size : Int) := by omega
              have e9 : (t.data.toList.takeWhile wordB).length = k := tw_len hall.out (.inl (by omega))
              have E9 := Lib.hid (HT2.out.trans e9)
              clear e9
              go_wp2
              go_ret
              exact ⟨by rw [E9.out]; rfl, Kq⟩
        | false =>
          have HT2 : Hid (lenT t.data.toList = (t.data.toList.takeWhile digB).length) := Lib.hid (by rw [HT1.out, if_neg hsg, if_neg (by rw [hl0]; simp)])
          clear hsg
          go_wp2_with (first
            | (go_at_call 38; (with_reducible refine (HIX.out _).mono ?_); rintro e w' ⟨rfl, hw'⟩; obtain rfl := hw'.symm)
            | (go_at_call 73; (with_reducible refine (HL.out _).mono ?_); rintro e w' ⟨rfl, hw'⟩; obtain rfl := hw'.symm))
          go_loopw [5] (fun nv wr => ∃ k : Nat, nv = .int .i64 k ∧ k ≤ t.size ∧ Hid (∀ j, j < k → ∃ b, t.data.toList[j]? = some b ∧ digB b = true) ∧ wr = W0) (fun nv _ => t.size - (intOf nv).toNat)
          case atStart => exact ⟨0, rfl, by omega, Lib.hid (fun j hj => by omega), by trivial⟩
          case round =>
            obtain ⟨k, rfl, hk, hall, rfl⟩ := hrel
            by_cases hks : k < t.size
            · have hk1 : (k : Int) < (t.size : Int) := by omega
              have hk0 : (0 : Int) ≤ (k : Int) := by omega
              have HBK := Lib.hid (HBB.out k hks)
              cases hd1 : digN t[k].toNat with
              | true =>
                go_wp2_with (first | (go_at_call 74; (with_reducible refine (fdigit_any _ _).mono ?_); rintro e w' ⟨rfl, hw'⟩; obtain rfl := hw'.symm))
                go_roundw
                case rel => exact ⟨k + 1, by go_num, by omega, Lib.hid (fun j hj => if h : j < k then hall.out j h else (by obtain rfl : j = k := (by omega); exact ⟨_, HBK.out, by simp [digB, hd1]⟩)), by trivial⟩
                case measure => simp only [intOf]; omega
              | false =>
                have e9 : (t.data.toList.takeWhile digB).length = k := tw_len hall.out (.inr ⟨_, HBK.out, by simp [digB, hd1]⟩)
                have E9 := Lib.hid (HT2.out.trans e9)
                clear e9
                go_wp2_with (first | (go_at_call 74; (with_reducible refine (fdigit_any _ _).mono ?_); rintro e w' ⟨rfl, hw'⟩; obtain rfl := hw'.symm))
                go_ret
                exact ⟨by rw [E9.out]; rfl, Kq⟩
            · have hk1 : ¬ (k : Int) < (t.size : Int) := by omega
              have e9 : (t.data.toList.takeWhile digB).length = k := tw_len hall.out (.inl (by omega))
              have E9 := Lib.hid (HT2.out.trans e9)
              clear e9
              go_wp2
              go_ret
              exact ⟨by rw [E9.out]; rfl, Kq⟩
end
end Go.Proofs.YtbidfbojealmlaaGreatDoor
