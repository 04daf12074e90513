/- The reference's Tokens: part and Tokens. No condition. -/
import Derived.Test.YtdhdcenjiopofaaGreatDoorPaY
import Derived.Test.YtdhdcenjiopofaaGreatDoorPb00
set_option linter.unusedVariables false
set_option linter.unusedSimpArgs false
namespace Go.Proofs.YtdhdcenjiopofaaGreatDoor
open Go.RowKit

section
set_option maxRecDepth 100000
set_option maxHeartbeats 2000000
theorem part_any (t : ByteArray) (i : Nat) (hi : i < t.size) (hs : t.size ≤ 4000) (w : World) : Calls Tryz.prog 42 #[.string t, .int .i64 (i : Int)] w fun e w' => e = .returned (.int .i64 ((i + lenT (t.data.toList.drop i) : Nat) : Int)) ∧ Keep NoF w w' := by
  have HBB := Lib.hid fun (k : Nat) (hk : k < t.size) => at_list t k hk
  have HDR : Hid (∀ j (h : i + j < t.size), (t.data.toList.drop i)[j]? = some t[i + j]) := Lib.hid fun j h => by rw [List.getElem?_drop]; exact at_list t _ h
  have HDL : Hid ((t.data.toList.drop i).length = t.size - i) := Lib.hid (by rw [List.length_drop, data_len])
  have hd : t.data.toList.drop i = t[i] :: t.data.toList.drop (i + 1) := by
    have hl : i < t.data.toList.length := by rw [data_len]; exact hi
    rw [List.drop_eq_getElem_cons hl]; rfl
  have hi' : (i : Int) < (t.size : Int) := by omega
  have hi0 : (0 : Int) ≤ (i : Int) := by omega
  have HL := Lib.hid fun W => rletter_any t[i].toNat W
  cases hlt : letN t[i].toNat with
  | true =>
    have HLN : Hid (lenT (t.data.toList.drop i) = ((t.data.toList.drop i).takeWhile wordB).length) := Lib.hid (by rw [hd]; exact lenT_let hlt)
    rw [hlt] at HL
    clear hd hlt
    generalize hq : lenT (t.data.toList.drop i) = q at *
    clear hq
    go_enter Tryz.func42, Tryz.ntmps42
    go_wp2_with (go_at_call 65; (with_reducible refine (HL.out _).mono ?_); rintro e w' ⟨rfl, hw'⟩; obtain rfl := hw'.symm)
    go_loopw [5] (fun kv wr => ∃ j : Nat, kv = .int .i64 ((i + j : Nat) : Int) ∧ i + j ≤ t.size ∧ Hid (∀ m, m < j → ∃ b, (t.data.toList.drop i)[m]? = some b ∧ wordB b = true) ∧ wr = w) (fun kv _ => t.size - (intOf kv).toNat)
    case atStart => exact ⟨0, rfl, by omega, Lib.hid (fun j hj => by omega), by trivial⟩
    case round =>
      obtain ⟨j, rfl, hk, hall, hw⟩ := hrel
      obtain rfl := hw.symm; clear hw
      generalize hkk : i + j = k at *
      have HKJ := Lib.hid hkk
      clear hkk
      by_cases hks : k < t.size
      · have hk1 : (k : Int) < (t.size : Int) := by omega
        have hk0 : (0 : Int) ≤ (k : Int) := by omega
        have HBK : Hid ((t.data.toList.drop i)[j]? = some t[k]) := Lib.hid (by have h := HDR.out j (by rw [HKJ.out]; exact hks); simpa [HKJ.out] using h)
        cases hl1 : letN t[k].toNat with
        | true =>
          have HL1 := Lib.hid fun W => rletter_any t[k].toNat W
          rw [hl1] at HL1
          have hwb : wordB t[k] = true := by simp [wordB, hl1]
          have HWB := Lib.hid hwb
          clear hl1 hwb
          go_wp2_with (go_at_call 65; (with_reducible refine (HL1.out _).mono ?_); rintro e w' ⟨rfl, hw'⟩; obtain rfl := hw'.symm)
          go_roundw
          case rel => exact ⟨j + 1, by rw [← Nat.add_assoc, HKJ.out]; go_num, by rw [← Nat.add_assoc, HKJ.out]; omega, Lib.hid (fun m hm => if h : m < j then hall.out m h else (by obtain rfl : m = j := (by omega); exact ⟨_, HBK.out, HWB.out⟩)), by trivial⟩
          case measure => simp only [intOf]; omega
        | false =>
          have HL1 := Lib.hid fun W => rletter_any t[k].toNat W
          rw [hl1] at HL1
          have HD1 := Lib.hid fun W => rdigit_any t[k].toNat W
          cases hd1 : digN t[k].toNat with
          | true =>
            rw [hd1] at HD1
            have hwb : wordB t[k] = true := by simp [wordB, hd1]
            have HWB := Lib.hid hwb
            clear hl1 hwb hd1
            go_wp2_with (first
              | (go_at_call 65; (with_reducible refine (HL1.out _).mono ?_); rintro e w' ⟨rfl, hw'⟩; obtain rfl := hw'.symm)
              | (go_at_call 66; (with_reducible refine (HD1.out _).mono ?_); rintro e w' ⟨rfl, hw'⟩; obtain rfl := hw'.symm))
            go_roundw
            case rel => exact ⟨j + 1, by rw [← Nat.add_assoc, HKJ.out]; go_num, by rw [← Nat.add_assoc, HKJ.out]; omega, Lib.hid (fun m hm => if h : m < j then hall.out m h else (by obtain rfl : m = j := (by omega); exact ⟨_, HBK.out, HWB.out⟩)), by trivial⟩
            case measure => simp only [intOf]; omega
          | false =>
            rw [hd1] at HD1
            have e9 : ((t.data.toList.drop i).takeWhile wordB).length = j := tw_len hall.out (.inr ⟨_, HBK.out, by simp [wordB, hl1, hd1]⟩)
            have E9 : Hid (i + q = k) := Lib.hid (by rw [HLN.out, e9, HKJ.out])
            clear e9 hl1 hd1
            go_wp2_with (first
              | (go_at_call 65; (with_reducible refine (HL1.out _).mono ?_); rintro e w' ⟨rfl, hw'⟩; obtain rfl := hw'.symm)
              | (go_at_call 66; (with_reducible refine (HD1.out _).mono ?_); rintro e w' ⟨rfl, hw'⟩; obtain rfl := hw'.symm))
            refine bodyPost_ret (v := .int .i64 (k : Int)) (by simp [results, Tryz.results42, go_sem]) rfl ?_
            exact ⟨congrArg (fun z => Ending.returned (Value.int .i64 z)) (by have := E9.out; omega), Keep.refl _ _⟩
      · have hk1 : ¬ (k : Int) < (t.size : Int) := by omega
        have e9 : ((t.data.toList.drop i).takeWhile wordB).length = j := tw_len hall.out (.inl (by rw [HDL.out]; have := HKJ.out; omega))
        have E9 : Hid (i + q = k) := Lib.hid (by rw [HLN.out, e9, HKJ.out])
        clear e9
        go_wp2
        refine bodyPost_ret (v := .int .i64 (k : Int)) (by simp [results, Tryz.results42, go_sem]) rfl ?_
        exact ⟨congrArg (fun z => Ending.returned (Value.int .i64 z)) (by have := E9.out; omega), Keep.refl _ _⟩
  | false =>
    rw [hlt] at HL
    cases hdg : digN t[i].toNat with
    | true =>
      have HLN : Hid (lenT (t.data.toList.drop i) = ((t.data.toList.drop i).takeWhile digB).length ∧ 0 < lenT (t.data.toList.drop i)) := Lib.hid (by
        rw [hd]
        have h := lenT_dig (r := t.data.toList.drop (i + 1)) hdg
        refine ⟨h, ?_⟩
        rw [h, List.takeWhile_cons, if_pos (by unfold digB; exact hdg)]
        simp)
      clear hd hlt hdg
      generalize hq : lenT (t.data.toList.drop i) = q at *
      clear hq
      go_enter Tryz.func42, Tryz.ntmps42
      go_wp2_with (go_at_call 65; (with_reducible refine (HL.out _).mono ?_); rintro e w' ⟨rfl, hw'⟩; obtain rfl := hw'.symm)
      go_loopw [5] (fun kv wr => ∃ j : Nat, kv = .int .i64 ((i + j : Nat) : Int) ∧ i + j ≤ t.size ∧ Hid (∀ m, m < j → ∃ b, (t.data.toList.drop i)[m]? = some b ∧ digB b = true) ∧ wr = w) (fun kv _ => t.size - (intOf kv).toNat)
      case atStart => exact ⟨0, rfl, by omega, Lib.hid (fun j hj => by omega), by trivial⟩
      case round =>
        obtain ⟨j, rfl, hk, hall, hw⟩ := hrel
        obtain rfl := hw.symm; clear hw
        generalize hkk : i + j = k at *
        have HKJ := Lib.hid hkk
        clear hkk
        by_cases hks : k < t.size
        · have hk1 : (k : Int) < (t.size : Int) := by omega
          have hk0 : (0 : Int) ≤ (k : Int) := by omega
          have HBK : Hid ((t.data.toList.drop i)[j]? = some t[k]) := Lib.hid (by have h := HDR.out j (by rw [HKJ.out]; exact hks); simpa [HKJ.out] using h)
          have HD1 := Lib.hid fun W => rdigit_any t[k].toNat W
          cases hd1 : digN t[k].toNat with
          | true =>
            rw [hd1] at HD1
            have HWB : Hid (digB t[k] = true) := Lib.hid hd1
            clear hd1
            go_wp2_with (go_at_call 66; (with_reducible refine (HD1.out _).mono ?_); rintro e w' ⟨rfl, hw'⟩; obtain rfl := hw'.symm)
            go_roundw
            case rel => exact ⟨j + 1, by rw [← Nat.add_assoc, HKJ.out]; go_num, by rw [← Nat.add_assoc, HKJ.out]; omega, Lib.hid (fun m hm => if h : m < j then hall.out m h else (by obtain rfl : m = j := (by omega); exact ⟨_, HBK.out, HWB.out⟩)), by trivial⟩
            case measure => simp only [intOf]; omega
          | false =>
            rw [hd1] at HD1
            have e9 : ((t.data.toList.drop i).takeWhile digB).length = j := tw_len hall.out (.inr ⟨_, HBK.out, hd1⟩)
            have E9 : Hid (i + q = k) := Lib.hid (by rw [HLN.out.1, e9, HKJ.out])
            have hgt : (i : Int) < (k : Int) := by have := HLN.out.2; have := E9.out; omega
            clear e9 hd1
            go_wp2_with (go_at_call 66; (with_reducible refine (HD1.out _).mono ?_); rintro e w' ⟨rfl, hw'⟩; obtain rfl := hw'.symm)
            refine bodyPost_ret (v := .int .i64 (k : Int)) (by simp [results, Tryz.results42, go_sem]) rfl ?_
            exact ⟨congrArg (fun z => Ending.returned (Value.int .i64 z)) (by have := E9.out; omega), Keep.refl _ _⟩
        · have hk1 : ¬ (k : Int) < (t.size : Int) := by omega
          have e9 : ((t.data.toList.drop i).takeWhile digB).length = j := tw_len hall.out (.inl (by rw [HDL.out]; have := HKJ.out; omega))
          have E9 : Hid (i + q = k) := Lib.hid (by rw [HLN.out.1, e9, HKJ.out])
          have hgt : (i : Int) < (k : Int) := by have := HLN.out.2; have := E9.out; omega
          clear e9
          go_wp2
          refine bodyPost_ret (v := .int .i64 (k : Int)) (by simp [results, Tryz.results42, go_sem]) rfl ?_
          exact ⟨congrArg (fun z => Ending.returned (Value.int .i64 z)) (by have := E9.out; omega), Keep.refl _ _⟩
    | false =>
      have HLN : Hid (lenT (t.data.toList.drop i) = if Lib.hasPrefix (t.data.toList.drop i) [60, 45, 62] = true then 3 else if Lib.hasPrefix (t.data.toList.drop i) [45, 62] = true then 2 else if t[i] ∈ signs then 1 else 0) := Lib.hid (by
        rw [hd]; exact lenT_oth hlt hdg)
      have HD1 := Lib.hid fun W => rdigit_any t[i].toNat W
      rw [hdg] at HD1
      have HP3 := Lib.hid fun h => pre_ext t i 3 [60, 45, 62] rfl h
      have HP2 := Lib.hid fun h => pre_ext t i 2 [45, 62] rfl h
      have HS3 := Lib.hid fun h => pre_short (t.data.toList.drop i) [60, 45, 62] h
      have HS2 := Lib.hid fun h => pre_short (t.data.toList.drop i) [45, 62] h
      clear hd hlt hdg
      generalize hq : lenT (t.data.toList.drop i) = q at *
      clear hq
      generalize hp3 : Lib.hasPrefix (t.data.toList.drop i) [60, 45, 62] = p3 at *
      generalize hp2 : Lib.hasPrefix (t.data.toList.drop i) [45, 62] = p2 at *
      clear hp3 hp2
      have hii : ¬ (i : Int) < (i : Int) := by omega
      have a3 : IntKind.i64.wrap ((i : Int) + 3) = (i : Int) + 3 := IntWalk.i64_in _ (by omega)
      have b3 : ((i : Int) + 3).toNat = i + 3 := by omega
      have b2 : ((i : Int) + 2).toNat = i + 2 := by omega
      have g3 : (i : Int) ≤ (i : Int) + 3 := by omega
      have g2 : (i : Int) ≤ (i : Int) + 2 := by omega
      cases p3 with
      | true =>
        have h3 : i + 3 ≤ t.size := by
          false_or_by_contra
          have := HS3.out (by rw [HDL.out]; simp; omega)
          cases this
        have h3' : (i : Int) + 3 ≤ (t.size : Int) := by omega
        have e3 := HP3.out h3
        have HQ : Hid (q = 3) := Lib.hid (by rw [HLN.out]; rfl)
        go_enter Tryz.func42, Tryz.ntmps42
        go_wp2_with (go_at_call 65; (with_reducible refine (HL.out _).mono ?_); rintro e w' ⟨rfl, hw'⟩; obtain rfl := hw'.symm)
        go_loopw [5] (fun kv wr => kv = .int .i64 (i : Int) ∧ wr = w) (fun kv _ => 0)
        case atStart => exact ⟨rfl, by trivial⟩
        case round =>
          obtain ⟨rfl, hw⟩ := hrel
          obtain rfl := hw.symm; clear hw
          go_wp2_with (go_at_call 66; (with_reducible refine (HD1.out _).mono ?_); rintro e w' ⟨rfl, hw'⟩; obtain rfl := hw'.symm)
          refine bodyPost_ret (v := .int .i64 ((i : Int) + 3)) (by simp [results, Tryz.results42, go_sem]) rfl ?_
          exact ⟨congrArg (fun z => Ending.returned (Value.int .i64 z)) (by have := HQ.out; omega), Keep.refl _ _⟩
      | false =>
        have HQ0 : Hid (q = if p2 = true then 2 else if t[i] ∈ signs then 1 else 0) := Lib.hid (by rw [HLN.out]; rfl)
        clear HLN
        by_cases h3 : i + 3 ≤ t.size
        · have h3' : (i : Int) + 3 ≤ (t.size : Int) := by omega
          have e3 := HP3.out h3
          cases p2 with
          | true =>
            have h2 : i + 2 ≤ t.size := by
              false_or_by_contra
              have := HS2.out (by rw [HDL.out]; simp; omega)
              cases this
            have h2' : (i : Int) + 2 ≤ (t.size : Int) := by omega
            have e2 := HP2.out h2
            have HQ : Hid (q = 2) := Lib.hid (by rw [HQ0.out]; rfl)
            go_enter Tryz.func42, Tryz.ntmps42
            go_wp2_with (go_at_call 65; (with_reducible refine (HL.out _).mono ?_); rintro e w' ⟨rfl, hw'⟩; obtain rfl := hw'.symm)
            go_loopw [5] (fun kv wr => kv = .int .i64 (i : Int) ∧ wr = w) (fun kv _ => 0)
            case atStart => exact ⟨rfl, by trivial⟩
            case round =>
              obtain ⟨rfl, hw⟩ := hrel
              obtain rfl := hw.symm; clear hw
              go_wp2_with (go_at_call 66; (with_reducible refine (HD1.out _).mono ?_); rintro e w' ⟨rfl, hw'⟩; obtain rfl := hw'.symm)
              refine bodyPost_ret (v := .int .i64 ((i : Int) + 2)) (by simp [results, Tryz.results42, go_sem]) rfl ?_
              exact ⟨congrArg (fun z => Ending.returned (Value.int .i64 z)) (by have := HQ.out; omega), Keep.refl _ _⟩
          | false =>
            have HQ1 : Hid (q = if t[i] ∈ signs then 1 else 0) := Lib.hid (by rw [HQ0.out]; rfl)
            clear HQ0
            by_cases h2 : i + 2 ≤ t.size
            · have h2' : (i : Int) + 2 ≤ (t.size : Int) := by omega
              have e2 := HP2.out h2
              go_enter Tryz.func42, Tryz.ntmps42
              go_wp2_with (go_at_call 65; (with_reducible refine (HL.out _).mono ?_); rintro e w' ⟨rfl, hw'⟩; obtain rfl := hw'.symm)
              go_loopw [5] (fun kv wr => kv = .int .i64 (i : Int) ∧ wr = w) (fun kv _ => 0)
              case atStart => exact ⟨rfl, by trivial⟩
              case round =>
                obtain ⟨rfl, hw⟩ := hrel
                obtain rfl := hw.symm; clear hw
                go_wp2_with (go_at_call 66; (with_reducible refine (HD1.out _).mono ?_); rintro e w' ⟨rfl, hw'⟩; obtain rfl := hw'.symm)
                go_loopw [7] (fun nv wr => ∃ n : Nat, nv = .int .i64 (n : Int) ∧ n ≤ 10 ∧ Hid (∀ m, m < n → signs[m]? ≠ some t[i]) ∧ Keep NoF w wr) (fun nv _ => 10 - (intOf nv).toNat)
                case atStart => exact ⟨0, rfl, by omega, Lib.hid (fun m hm => by omega), Keep.refl _ _⟩
                case round =>
                  obtain ⟨n, rfl, hn, hall, hkw⟩ := hrel
                  have hnn : n = 0 ∨ n = 1 ∨ n = 2 ∨ n = 3 ∨ n = 4 ∨ n = 5 ∨ n = 6 ∨ n = 7 ∨ n = 8 ∨ n = 9 ∨ n = 10 := by omega
                  rcases hnn with rfl | rfl | rfl | rfl | rfl | rfl | rfl | rfl | rfl | rfl | rfl
                  · by_cases hb : t[i] = 126
                    · have hbi : ((((⟨#[126, 38, 124, 40, 41, 91, 93, 44, 46, 33]⟩ : ByteArray)[0]'(by decide)).toNat : Int) == (t[i].toNat : Int)) = true := by rw [hb]; rfl
                      have HQ : Hid (q = 1) := Lib.hid (by rw [HQ1.out, if_pos (by rw [hb]; decide)])
                      clear hb
                      go_wp2
                      go_quiet (fail)
                      go_wp2
                      refine bodyPost_ret (v := .int .i64 ((i : Int) + 1)) (by simp [results, Tryz.results42, go_sem]) rfl ?_
                      exact ⟨congrArg (fun z => Ending.returned (Value.int .i64 z)) (by have := HQ.out; omega), hkw.drewN _⟩
                    · have hbi : ((((⟨#[126, 38, 124, 40, 41, 91, 93, 44, 46, 33]⟩ : ByteArray)[0]'(by decide)).toNat : Int) == (t[i].toNat : Int)) = false := beq_eq_false_iff_ne.2 fun e => hb (UInt8.toNat_inj.1 (by have h : ((⟨#[126, 38, 124, 40, 41, 91, 93, 44, 46, 33]⟩ : ByteArray)[0]'(by decide)).toNat = 126 := rfl; have h2 : (126 : UInt8).toNat = 126 := rfl; omega))
                      have HB := Lib.hid hb
                      clear hb
                      go_wp2
                      go_quiet (fail)
                      go_wp2
                      go_roundw
                      case rel => exact ⟨1, by first | rfl | go_num, by omega, Lib.hid (fun m hm => if h : m < 0 then hall.out m h else (by obtain rfl : m = 0 := (by omega); intro e; exact HB.out (Option.some.inj e).symm)), hkw.drewN _⟩
                      case measure => simp [intOf]
                  · by_cases hb : t[i] = 38
                    · have hbi : ((((⟨#[126, 38, 124, 40, 41, 91, 93, 44, 46, 33]⟩ : ByteArray)[1]'(by decide)).toNat : Int) == (t[i].toNat : Int)) = true := by rw [hb]; rfl
                      have HQ : Hid (q = 1) := Lib.hid (by rw [HQ1.out, if_pos (by rw [hb]; decide)])
                      clear hb
                      go_wp2
                      go_quiet (fail)
                      go_wp2
                      refine bodyPost_ret (v := .int .i64 ((i : Int) + 1)) (by simp [results, Tryz.results42, go_sem]) rfl ?_
                      exact ⟨congrArg (fun z => Ending.returned (Value.int .i64 z)) (by have := HQ.out; omega), hkw.drewN _⟩
                    · have hbi : ((((⟨#[126, 38, 124, 40, 41, 91, 93, 44, 46, 33]⟩ : ByteArray)[1]'(by decide)).toNat : Int) == (t[i].toNat : Int)) = false := beq_eq_false_iff_ne.2 fun e => hb (UInt8.toNat_inj.1 (by have h : ((⟨#[126, 38, 124, 40, 41, 91, 93, 44, 46, 33]⟩ : ByteArray)[1]'(by decide)).toNat = 38 := rfl; have h2 : (38 : UInt8).toNat = 38 := rfl; omega))
                      have HB := Lib.hid hb
                      clear hb
                      go_wp2
                      go_quiet (fail)
                      go_wp2
                      go_roundw
                      case rel => exact ⟨2, by first | rfl | go_num, by omega, Lib.hid (fun m hm => if h : m < 1 then hall.out m h else (by obtain rfl : m = 1 := (by omega); intro e; exact HB.out (Option.some.inj e).symm)), hkw.drewN _⟩
                      case measure => simp [intOf]
                  · by_cases hb : t[i] = 124
                    · have hbi : ((((⟨#[126, 38, 124, 40, 41, 91, 93, 44, 46, 33]⟩ : ByteArray)[2]'(by decide)).toNat : Int) == (t[i].toNat : Int)) = true := by rw [hb]; rfl
                      have HQ : Hid (q = 1) := Lib.hid (by rw [HQ1.out, if_pos (by rw [hb]; decide)])
                      clear hb
                      go_wp2
                      go_quiet (fail)
                      go_wp2
                      refine bodyPost_ret (v := .int .i64 ((i : Int) + 1)) (by simp [results, Tryz.results42, go_sem]) rfl ?_
                      exact ⟨congrArg (fun z => Ending.returned (Value.int .i64 z)) (by have := HQ.out; omega), hkw.drewN _⟩
                    · have hbi : ((((⟨#[126, 38, 124, 40, 41, 91, 93, 44, 46, 33]⟩ : ByteArray)[2]'(by decide)).toNat : Int) == (t[i].toNat : Int)) = false := beq_eq_false_iff_ne.2 fun e => hb (UInt8.toNat_inj.1 (by have h : ((⟨#[126, 38, 124, 40, 41, 91, 93, 44, 46, 33]⟩ : ByteArray)[2]'(by decide)).toNat = 124 := rfl; have h2 : (124 : UInt8).toNat = 124 := rfl; omega))
                      have HB := Lib.hid hb
                      clear hb
                      go_wp2
                      go_quiet (fail)
                      go_wp2
                      go_roundw
                      case rel => exact ⟨3, by first | rfl | go_num, by omega, Lib.hid (fun m hm => if h : m < 2 then hall.out m h else (by obtain rfl : m = 2 := (by omega); intro e; exact HB.out (Option.some.inj e).symm)), hkw.drewN _⟩
                      case measure => simp [intOf]
                  · by_cases hb : t[i] = 40
                    · have hbi : ((((⟨#[126, 38, 124, 40, 41, 91, 93, 44, 46, 33]⟩ : ByteArray)[3]'(by decide)).toNat : Int) == (t[i].toNat : Int)) = true := by rw [hb]; rfl
                      have HQ : Hid (q = 1) := Lib.hid (by rw [HQ1.out, if_pos (by rw [hb]; decide)])
                      clear hb
                      go_wp2
                      go_quiet (fail)
                      go_wp2
                      refine bodyPost_ret (v := .int .i64 ((i : Int) + 1)) (by simp [results, Tryz.results42, go_sem]) rfl ?_
                      exact ⟨congrArg (fun z => Ending.returned (Value.int .i64 z)) (by have := HQ.out; omega), hkw.drewN _⟩
                    · have hbi : ((((⟨#[126, 38, 124, 40, 41, 91, 93, 44, 46, 33]⟩ : ByteArray)[3]'(by decide)).toNat : Int) == (t[i].toNat : Int)) = false := beq_eq_false_iff_ne.2 fun e => hb (UInt8.toNat_inj.1 (by have h : ((⟨#[126, 38, 124, 40, 41, 91, 93, 44, 46, 33]⟩ : ByteArray)[3]'(by decide)).toNat = 40 := rfl; have h2 : (40 : UInt8).toNat = 40 := rfl; omega))
                      have HB := Lib.hid hb
                      clear hb
                      go_wp2
                      go_quiet (fail)
                      go_wp2
                      go_roundw
                      case rel => exact ⟨4, by first | rfl | go_num, by omega, Lib.hid (fun m hm => if h : m < 3 then hall.out m h else (by obtain rfl : m = 3 := (by omega); intro e; exact HB.out (Option.some.inj e).symm)), hkw.drewN _⟩
                      case measure => simp [intOf]
                  · by_cases hb : t[i] = 41
                    · have hbi : ((((⟨#[126, 38, 124, 40, 41, 91, 93, 44, 46, 33]⟩ : ByteArray)[4]'(by decide)).toNat : Int) == (t[i].toNat : Int)) = true := by rw [hb]; rfl
                      have HQ : Hid (q = 1) := Lib.hid (by rw [HQ1.out, if_pos (by rw [hb]; decide)])
                      clear hb
                      go_wp2
                      go_quiet (fail)
                      go_wp2
                      refine bodyPost_ret (v := .int .i64 ((i : Int) + 1)) (by simp [results, Tryz.results42, go_sem]) rfl ?_
                      exact ⟨congrArg (fun z => Ending.returned (Value.int .i64 z)) (by have := HQ.out; omega), hkw.drewN _⟩
                    · have hbi : ((((⟨#[126, 38, 124, 40, 41, 91, 93, 44, 46, 33]⟩ : ByteArray)[4]'(by decide)).toNat : Int) == (t[i].toNat : Int)) = false := beq_eq_false_iff_ne.2 fun e => hb (UInt8.toNat_inj.1 (by have h : ((⟨#[126, 38, 124, 40, 41, 91, 93, 44, 46, 33]⟩ : ByteArray)[4]'(by decide)).toNat = 41 := rfl; have h2 : (41 : UInt8).toNat = 41 := rfl; omega))
                      have HB := Lib.hid hb
                      clear hb
                      go_wp2
                      go_quiet (fail)
                      go_wp2
                      go_roundw
                      case rel => exact ⟨5, by first | rfl | go_num, by omega, Lib.hid (fun m hm => if h : m < 4 then hall.out m h else (by obtain rfl : m = 4 := (by omega); intro e; exact HB.out (Option.some.inj e).symm)), hkw.drewN _⟩
                      case measure => simp [intOf]
                  · by_cases hb : t[i] = 91
                    · have hbi : ((((⟨#[126, 38, 124, 40, 41, 91, 93, 44, 46, 33]⟩ : ByteArray)[5]'(by decide)).toNat : Int) == (t[i].toNat : Int)) = true := by rw [hb]; rfl
                      have HQ : Hid (q = 1) := Lib.hid (by rw [HQ1.out, if_pos (by rw [hb]; decide)])
                      clear hb
                      go_wp2
                      go_quiet (fail)
                      go_wp2
                      refine bodyPost_ret (v := .int .i64 ((i : Int) + 1)) (by simp [results, Tryz.results42, go_sem]) rfl ?_
                      exact ⟨congrArg (fun z => Ending.returned (Value.int .i64 z)) (by have := HQ.out; omega), hkw.drewN _⟩
                    · have hbi : ((((⟨#[126, 38, 124, 40, 41, 91, 93, 44, 46, 33]⟩ : ByteArray)[5]'(by decide)).toNat : Int) == (t[i].toNat : Int)) = false := beq_eq_false_iff_ne.2 fun e => hb (UInt8.toNat_inj.1 (by have h : ((⟨#[126, 38, 124, 40, 41, 91, 93, 44, 46, 33]⟩ : ByteArray)[5]'(by decide)).toNat = 91 := rfl; have h2 : (91 : UInt8).toNat = 91 := rfl; omega))
                      have HB := Lib.hid hb
                      clear hb
                      go_wp2
                      go_quiet (fail)
                      go_wp2
                      go_roundw
                      case rel => exact ⟨6, by first | rfl | go_num, by omega, Lib.hid (fun m hm => if h : m < 5 then hall.out m h else (by obtain rfl : m = 5 := (by omega); intro e; exact HB.out (Option.some.inj e).symm)), hkw.drewN _⟩
                      case measure => simp [intOf]
                  · by_cases hb : t[i] = 93
                    · have hbi : ((((⟨#[126, 38, 124, 40, 41, 91, 93, 44, 46, 33]⟩ : ByteArray)[6]'(by decide)).toNat : Int) == (t[i].toNat : Int)) = true := by rw [hb]; rfl
                      have HQ : Hid (q = 1) := Lib.hid (by rw [HQ1.out, if_pos (by rw [hb]; decide)])
                      clear hb
                      go_wp2
                      go_quiet (fail)
                      go_wp2
                      refine bodyPost_ret (v := .int .i64 ((i : Int) + 1)) (by simp [results, Tryz.results42, go_sem]) rfl ?_
                      exact ⟨congrArg (fun z => Ending.returned (Value.int .i64 z)) (by have := HQ.out; omega), hkw.drewN _⟩
                    · have hbi : ((((⟨#[126, 38, 124, 40, 41, 91, 93, 44, 46, 33]⟩ : ByteArray)[6]'(by decide)).toNat : Int) == (t[i].toNat : Int)) = false := beq_eq_false_iff_ne.2 fun e => hb (UInt8.toNat_inj.1 (by have h : ((⟨#[126, 38, 124, 40, 41, 91, 93, 44, 46, 33]⟩ : ByteArray)[6]'(by decide)).toNat = 93 := rfl; have h2 : (93 : UInt8).toNat = 93 := rfl; omega))
                      have HB := Lib.hid hb
                      clear hb
                      go_wp2
                      go_quiet (fail)
                      go_wp2
                      go_roundw
                      case rel => exact ⟨7, by first | rfl | go_num, by omega, Lib.hid (fun m hm => if h : m < 6 then hall.out m h else (by obtain rfl : m = 6 := (by omega); intro e; exact HB.out (Option.some.inj e).symm)), hkw.drewN _⟩
                      case measure => simp [intOf]
                  · by_cases hb : t[i] = 44
                    · have hbi : ((((⟨#[126, 38, 124, 40, 41, 91, 93, 44, 46, 33]⟩ : ByteArray)[7]'(by decide)).toNat : Int) == (t[i].toNat : Int)) = true := by rw [hb]; rfl
                      have HQ : Hid (q = 1) := Lib.hid (by rw [HQ1.out, if_pos (by rw [hb]; decide)])
                      clear hb
                      go_wp2
                      go_quiet (fail)
                      go_wp2
                      refine bodyPost_ret (v := .int .i64 ((i : Int) + 1)) (by simp [results, Tryz.results42, go_sem]) rfl ?_
                      exact ⟨congrArg (fun z => Ending.returned (Value.int .i64 z)) (by have := HQ.out; omega), hkw.drewN _⟩
                    · have hbi : ((((⟨#[126, 38, 124, 40, 41, 91, 93, 44, 46, 33]⟩ : ByteArray)[7]'(by decide)).toNat : Int) == (t[i].toNat : Int)) = false := beq_eq_false_iff_ne.2 fun e => hb (UInt8.toNat_inj.1 (by have h : ((⟨#[126, 38, 124, 40, 41, 91, 93, 44, 46, 33]⟩ : ByteArray)[7]'(by decide)).toNat = 44 := rfl; have h2 : (44 : UInt8).toNat = 44 := rfl; omega))
                      have HB := Lib.hid hb
                      clear hb
                      go_wp2
                      go_quiet (fail)
                      go_wp2
                      go_roundw
                      case rel => exact ⟨8, by first | rfl | go_num, by omega, Lib.hid (fun m hm => if h : m < 7 then hall.out m h else (by obtain rfl : m = 7 := (by omega); intro e; exact HB.out (Option.some.inj e).symm)), hkw.drewN _⟩
                      case measure => simp [intOf]
                  · by_cases hb : t[i] = 46
                    · have hbi : ((((⟨#[126, 38, 124, 40, 41, 91, 93, 44, 46, 33]⟩ : ByteArray)[8]'(by decide)).toNat : Int) == (t[i].toNat : Int)) = true := by rw [hb]; rfl
                      have HQ : Hid (q = 1) := Lib.hid (by rw [HQ1.out, if_pos (by rw [hb]; decide)])
                      clear hb
                      go_wp2
                      go_quiet (fail)
                      go_wp2
                      refine bodyPost_ret (v := .int .i64 ((i : Int) + 1)) (by simp [results, Tryz.results42, go_sem]) rfl ?_
                      exact ⟨congrArg (fun z => Ending.returned (Value.int .i64 z)) (by have := HQ.out; omega), hkw.drewN _⟩
                    · have hbi : ((((⟨#[126, 38, 124, 40, 41, 91, 93, 44, 46, 33]⟩ : ByteArray)[8]'(by decide)).toNat : Int) == (t[i].toNat : Int)) = false := beq_eq_false_iff_ne.2 fun e => hb (UInt8.toNat_inj.1 (by have h : ((⟨#[126, 38, 124, 40, 41, 91, 93, 44, 46, 33]⟩ : ByteArray)[8]'(by decide)).toNat = 46 := rfl; have h2 : (46 : UInt8).toNat = 46 := rfl; omega))
                      have HB := Lib.hid hb
                      clear hb
                      go_wp2
                      go_quiet (fail)
                      go_wp2
                      go_roundw
                      case rel => exact ⟨9, by first | rfl | go_num, by omega, Lib.hid (fun m hm => if h : m < 8 then hall.out m h else (by obtain rfl : m = 8 := (by omega); intro e; exact HB.out (Option.some.inj e).symm)), hkw.drewN _⟩
                      case measure => simp [intOf]
                  · by_cases hb : t[i] = 33
                    · have hbi : ((((⟨#[126, 38, 124, 40, 41, 91, 93, 44, 46, 33]⟩ : ByteArray)[9]'(by decide)).toNat : Int) == (t[i].toNat : Int)) = true := by rw [hb]; rfl
                      have HQ : Hid (q = 1) := Lib.hid (by rw [HQ1.out, if_pos (by rw [hb]; decide)])
                      clear hb
                      go_wp2
                      go_quiet (fail)
                      go_wp2
                      refine bodyPost_ret (v := .int .i64 ((i : Int) + 1)) (by simp [results, Tryz.results42, go_sem]) rfl ?_
                      exact ⟨congrArg (fun z => Ending.returned (Value.int .i64 z)) (by have := HQ.out; omega), hkw.drewN _⟩
                    · have hbi : ((((⟨#[126, 38, 124, 40, 41, 91, 93, 44, 46, 33]⟩ : ByteArray)[9]'(by decide)).toNat : Int) == (t[i].toNat : Int)) = false := beq_eq_false_iff_ne.2 fun e => hb (UInt8.toNat_inj.1 (by have h : ((⟨#[126, 38, 124, 40, 41, 91, 93, 44, 46, 33]⟩ : ByteArray)[9]'(by decide)).toNat = 33 := rfl; have h2 : (33 : UInt8).toNat = 33 := rfl; omega))
                      have HB := Lib.hid hb
                      clear hb
                      go_wp2
                      go_quiet (fail)
                      go_wp2
                      go_roundw
                      case rel => exact ⟨10, by first | rfl | go_num, by omega, Lib.hid (fun m hm => if h : m < 9 then hall.out m h else (by obtain rfl : m = 9 := (by omega); intro e; exact HB.out (Option.some.inj e).symm)), hkw.drewN _⟩
                      case measure => simp [intOf]
                  · have HQ : Hid (q = 0) := Lib.hid (by
                      rw [HQ1.out, if_neg]
                      intro hm
                      obtain ⟨m, hm2⟩ := List.getElem?_of_mem hm
                      exact hall.out m (by have := (List.getElem?_eq_some_iff.1 hm2).1; have h10 : signs.length = 10 := rfl; omega) hm2)
                    go_wp2
                    refine bodyPost_ret (v := .int .i64 (i : Int)) (by simp [results, Tryz.results42, go_sem]) rfl ?_
                    exact ⟨congrArg (fun z => Ending.returned (Value.int .i64 z)) (by have := HQ.out; omega), hkw⟩
            · omega
        · have h3' : ¬ (i : Int) + 3 ≤ (t.size : Int) := by omega
          cases p2 with
          | true =>
            have h2 : i + 2 ≤ t.size := by
              false_or_by_contra
              have := HS2.out (by rw [HDL.out]; simp; omega)
              cases this
            have h2' : (i : Int) + 2 ≤ (t.size : Int) := by omega
            have e2 := HP2.out h2
            have HQ : Hid (q = 2) := Lib.hid (by rw [HQ0.out]; rfl)
            go_enter Tryz.func42, Tryz.ntmps42
            go_wp2_with (go_at_call 65; (with_reducible refine (HL.out _).mono ?_); rintro e w' ⟨rfl, hw'⟩; obtain rfl := hw'.symm)
            go_loopw [5] (fun kv wr => kv = .int .i64 (i : Int) ∧ wr = w) (fun kv _ => 0)
            case atStart => exact ⟨rfl, by trivial⟩
            case round =>
              obtain ⟨rfl, hw⟩ := hrel
              obtain rfl := hw.symm; clear hw
              go_wp2_with (go_at_call 66; (with_reducible refine (HD1.out _).mono ?_); rintro e w' ⟨rfl, hw'⟩; obtain rfl := hw'.symm)
              refine bodyPost_ret (v := .int .i64 ((i : Int) + 2)) (by simp [results, Tryz.results42, go_sem]) rfl ?_
              exact ⟨congrArg (fun z => Ending.returned (Value.int .i64 z)) (by have := HQ.out; omega), Keep.refl _ _⟩
          | false =>
            have HQ1 : Hid (q = if t[i] ∈ signs then 1 else 0) := Lib.hid (by rw [HQ0.out]; rfl)
            clear HQ0
            by_cases h2 : i + 2 ≤ t.size
            · have h2' : (i : Int) + 2 ≤ (t.size : Int) := by omega
              have e2 := HP2.out h2
              go_enter Tryz.func42, Tryz.ntmps42
              go_wp2_with (go_at_call 65; (with_reducible refine (HL.out _).mono ?_); rintro e w' ⟨rfl, hw'⟩; obtain rfl := hw'.symm)
              go_loopw [5] (fun kv wr => kv = .int .i64 (i : Int) ∧ wr = w) (fun kv _ => 0)
              case atStart => exact ⟨rfl, by trivial⟩
              case round =>
                obtain ⟨rfl, hw⟩ := hrel
                obtain rfl := hw.symm; clear hw
                go_wp2_with (go_at_call 66; (with_reducible refine (HD1.out _).mono ?_); rintro e w' ⟨rfl, hw'⟩; obtain rfl := hw'.symm)
                go_loopw [7] (fun nv wr => ∃ n : Nat, nv = .int .i64 (n : Int) ∧ n ≤ 10 ∧ Hid (∀ m, m < n → signs[m]? ≠ some t[i]) ∧ Keep NoF w wr) (fun nv _ => 10 - (intOf nv).toNat)
                case atStart => exact ⟨0, rfl, by omega, Lib.hid (fun m hm => by omega), Keep.refl _ _⟩
                case round =>
                  obtain ⟨n, rfl, hn, hall, hkw⟩ := hrel
                  have hnn : n = 0 ∨ n = 1 ∨ n = 2 ∨ n = 3 ∨ n = 4 ∨ n = 5 ∨ n = 6 ∨ n = 7 ∨ n = 8 ∨ n = 9 ∨ n = 10 := by omega
                  rcases hnn with rfl | rfl | rfl | rfl | rfl | rfl | rfl | rfl | rfl | rfl | rfl
                  · by_cases hb : t[i] = 126
                    · have hbi : ((((⟨#[126, 38, 124, 40, 41, 91, 93, 44, 46, 33]⟩ : ByteArray)[0]'(by decide)).toNat : Int) == (t[i].toNat : Int)) = true := by rw [hb]; rfl
                      have HQ : Hid (q = 1) := Lib.hid (by rw [HQ1.out, if_pos (by rw [hb]; decide)])
                      clear hb
                      go_wp2
                      go_quiet (fail)
                      go_wp2
                      refine bodyPost_ret (v := .int .i64 ((i : Int) + 1)) (by simp [results, Tryz.results42, go_sem]) rfl ?_
                      exact ⟨congrArg (fun z => Ending.returned (Value.int .i64 z)) (by have := HQ.out; omega), hkw.drewN _⟩
                    · have hbi : ((((⟨#[126, 38, 124, 40, 41, 91, 93, 44, 46, 33]⟩ : ByteArray)[0]'(by decide)).toNat : Int) == (t[i].toNat : Int)) = false := beq_eq_false_iff_ne.2 fun e => hb (UInt8.toNat_inj.1 (by have h : ((⟨#[126, 38, 124, 40, 41, 91, 93, 44, 46, 33]⟩ : ByteArray)[0]'(by decide)).toNat = 126 := rfl; have h2 : (126 : UInt8).toNat = 126 := rfl; omega))
                      have HB := Lib.hid hb
                      clear hb
                      go_wp2
                      go_quiet (fail)
                      go_wp2
                      go_roundw
                      case rel => exact ⟨1, by first | rfl | go_num, by omega, Lib.hid (fun m hm => if h : m < 0 then hall.out m h else (by obtain rfl : m = 0 := (by omega); intro e; exact HB.out (Option.some.inj e).symm)), hkw.drewN _⟩
                      case measure => simp [intOf]
                  · by_cases hb : t[i] = 38
                    · have hbi : ((((⟨#[126, 38, 124, 40, 41, 91, 93, 44, 46, 33]⟩ : ByteArray)[1]'(by decide)).toNat : Int) == (t[i].toNat : Int)) = true := by rw [hb]; rfl
                      have HQ : Hid (q = 1) := Lib.hid (by rw [HQ1.out, if_pos (by rw [hb]; decide)])
                      clear hb
                      go_wp2
                      go_quiet (fail)
                      go_wp2
                      refine bodyPost_ret (v := .int .i64 ((i : Int) + 1)) (by simp [results, Tryz.results42, go_sem]) rfl ?_
                      exact ⟨congrArg (fun z => Ending.returned (Value.int .i64 z)) (by have := HQ.out; omega), hkw.drewN _⟩
                    · have hbi : ((((⟨#[126, 38, 124, 40, 41, 91, 93, 44, 46, 33]⟩ : ByteArray)[1]'(by decide)).toNat : Int) == (t[i].toNat : Int)) = false := beq_eq_false_iff_ne.2 fun e => hb (UInt8.toNat_inj.1 (by have h : ((⟨#[126, 38, 124, 40, 41, 91, 93, 44, 46, 33]⟩ : ByteArray)[1]'(by decide)).toNat = 38 := rfl; have h2 : (38 : UInt8).toNat = 38 := rfl; omega))
                      have HB := Lib.hid hb
                      clear hb
                      go_wp2
                      go_quiet (fail)
                      go_wp2
                      go_roundw
                      case rel => exact ⟨2, by first | rfl | go_num, by omega, Lib.hid (fun m hm => if h : m < 1 then hall.out m h else (by obtain rfl : m = 1 := (by omega); intro e; exact HB.out (Option.some.inj e).symm)), hkw.drewN _⟩
                      case measure => simp [intOf]
                  · by_cases hb : t[i] = 124
                    · have hbi : ((((⟨#[126, 38, 124, 40, 41, 91, 93, 44, 46, 33]⟩ : ByteArray)[2]'(by decide)).toNat : Int) == (t[i].toNat : Int)) = true := by rw [hb]; rfl
                      have HQ : Hid (q = 1) := Lib.hid (by rw [HQ1.out, if_pos (by rw [hb]; decide)])
                      clear hb
                      go_wp2
                      go_quiet (fail)
                      go_wp2
                      refine bodyPost_ret (v := .int .i64 ((i : Int) + 1)) (by simp [results, Tryz.results42, go_sem]) rfl ?_
                      exact ⟨congrArg (fun z => Ending.returned (Value.int .i64 z)) (by have := HQ.out; omega), hkw.drewN _⟩
                    · have hbi : ((((⟨#[126, 38, 124, 40, 41, 91, 93, 44, 46, 33]⟩ : ByteArray)[2]'(by decide)).toNat : Int) == (t[i].toNat : Int)) = false := beq_eq_false_iff_ne.2 fun e => hb (UInt8.toNat_inj.1 (by have h : ((⟨#[126, 38, 124, 40, 41, 91, 93, 44, 46, 33]⟩ : ByteArray)[2]'(by decide)).toNat = 124 := rfl; have h2 : (124 : UInt8).toNat = 124 := rfl; omega))
                      have HB := Lib.hid hb
                      clear hb
                      go_wp2
                      go_quiet (fail)
                      go_wp2
                      go_roundw
                      case rel => exact ⟨3, by first | rfl | go_num, by omega, Lib.hid (fun m hm => if h : m < 2 then hall.out m h else (by obtain rfl : m = 2 := (by omega); intro e; exact HB.out (Option.some.inj e).symm)), hkw.drewN _⟩
                      case measure => simp [intOf]
                  · by_cases hb : t[i] = 40
                    · have hbi : ((((⟨#[126, 38, 124, 40, 41, 91, 93, 44, 46, 33]⟩ : ByteArray)[3]'(by decide)).toNat : Int) == (t[i].toNat : Int)) = true := by rw [hb]; rfl
                      have HQ : Hid (q = 1) := Lib.hid (by rw [HQ1.out, if_pos (by rw [hb]; decide)])
                      clear hb
                      go_wp2
                      go_quiet (fail)
                      go_wp2
                      refine bodyPost_ret (v := .int .i64 ((i : Int) + 1)) (by simp [results, Tryz.results42, go_sem]) rfl ?_
                      exact ⟨congrArg (fun z => Ending.returned (Value.int .i64 z)) (by have := HQ.out; omega), hkw.drewN _⟩
                    · have hbi : ((((⟨#[126, 38, 124, 40, 41, 91, 93, 44, 46, 33]⟩ : ByteArray)[3]'(by decide)).toNat : Int) == (t[i].toNat : Int)) = false := beq_eq_false_iff_ne.2 fun e => hb (UInt8.toNat_inj.1 (by have h : ((⟨#[126, 38, 124, 40, 41, 91, 93, 44, 46, 33]⟩ : ByteArray)[3]'(by decide)).toNat = 40 := rfl; have h2 : (40 : UInt8).toNat = 40 := rfl; omega))
                      have HB := Lib.hid hb
                      clear hb
                      go_wp2
                      go_quiet (fail)
                      go_wp2
                      go_roundw
                      case rel => exact ⟨4, by first | rfl | go_num, by omega, Lib.hid (fun m hm => if h : m < 3 then hall.out m h else (by obtain rfl : m = 3 := (by omega); intro e; exact HB.out (Option.some.inj e).symm)), hkw.drewN _⟩
                      case measure => simp [intOf]
                  · by_cases hb : t[i] = 41
                    · have hbi : ((((⟨#[126, 38, 124, 40, 41, 91, 93, 44, 46, 33]⟩ : ByteArray)[4]'(by decide)).toNat : Int) == (t[i].toNat : Int)) = true := by rw [hb]; rfl
                      have HQ : Hid (q = 1) := Lib.hid (by rw [HQ1.out, if_pos (by rw [hb]; decide)])
                      clear hb
                      go_wp2
                      go_quiet (fail)
                      go_wp2
                      refine bodyPost_ret (v := .int .i64 ((i : Int) + 1)) (by simp [results, Tryz.results42, go_sem]) rfl ?_
                      exact ⟨congrArg (fun z => Ending.returned (Value.int .i64 z)) (by have := HQ.out; omega), hkw.drewN _⟩
                    · have hbi : ((((⟨#[126, 38, 124, 40, 41, 91, 93, 44, 46, 33]⟩ : ByteArray)[4]'(by decide)).toNat : Int) == (t[i].toNat : Int)) = false := beq_eq_false_iff_ne.2 fun e => hb (UInt8.toNat_inj.1 (by have h : ((⟨#[126, 38, 124, 40, 41, 91, 93, 44, 46, 33]⟩ : ByteArray)[4]'(by decide)).toNat = 41 := rfl; have h2 : (41 : UInt8).toNat = 41 := rfl; omega))
                      have HB := Lib.hid hb
                      clear hb
                      go_wp2
                      go_quiet (fail)
                      go_wp2
                      go_roundw
                      case rel => exact ⟨5, by first | rfl | go_num, by omega, Lib.hid (fun m hm => if h : m < 4 then hall.out m h else (by obtain rfl : m = 4 := (by omega); intro e; exact HB.out (Option.some.inj e).symm)), hkw.drewN _⟩
                      case measure => simp [intOf]
                  · by_cases hb : t[i] = 91
                    · have hbi : ((((⟨#[126, 38, 124, 40, 41, 91, 93, 44, 46, 33]⟩ : ByteArray)[5]'(by decide)).toNat : Int) == (t[i].toNat : Int)) = true := by rw [hb]; rfl
                      have HQ : Hid (q = 1) := Lib.hid (by rw [HQ1.out, if_pos (by rw [hb]; decide)])
                      clear hb
                      go_wp2
                      go_quiet (fail)
                      go_wp2
                      refine bodyPost_ret (v := .int .i64 ((i : Int) + 1)) (by simp [results, Tryz.results42, go_sem]) rfl ?_
                      exact ⟨congrArg (fun z => Ending.returned (Value.int .i64 z)) (by have := HQ.out; omega), hkw.drewN _⟩
                    · have hbi : ((((⟨#[126, 38, 124, 40, 41, 91, 93, 44, 46, 33]⟩ : ByteArray)[5]'(by decide)).toNat : Int) == (t[i].toNat : Int)) = false := beq_eq_false_iff_ne.2 fun e => hb (UInt8.toNat_inj.1 (by have h : ((⟨#[126, 38, 124, 40, 41, 91, 93, 44, 46, 33]⟩ : ByteArray)[5]'(by decide)).toNat = 91 := rfl; have h2 : (91 : UInt8).toNat = 91 := rfl; omega))
                      have HB := Lib.hid hb
                      clear hb
                      go_wp2
                      go_quiet (fail)
                      go_wp2
                      go_roundw
                      case rel => exact ⟨6, by first | rfl | go_num, by omega, Lib.hid (fun m hm => if h : m < 5 then hall.out m h else (by obtain rfl : m = 5 := (by omega); intro e; exact HB.out (Option.some.inj e).symm)), hkw.drewN _⟩
                      case measure => simp [intOf]
                  · by_cases hb : t[i] = 93
                    · have hbi : ((((⟨#[126, 38, 124, 40, 41, 91, 93, 44, 46, 33]⟩ : ByteArray)[6]'(by decide)).toNat : Int) == (t[i].toNat : Int)) = true := by rw [hb]; rfl
                      have HQ : Hid (q = 1) := Lib.hid (by rw [HQ1.out, if_pos (by rw [hb]; decide)])
                      clear hb
                      go_wp2
                      go_quiet (fail)
                      go_wp2
                      refine bodyPost_ret (v := .int .i64 ((i : Int) + 1)) (by simp [results, Tryz.results42, go_sem]) rfl ?_
                      exact ⟨congrArg (fun z => Ending.returned (Value.int .i64 z)) (by have := HQ.out; omega), hkw.drewN _⟩
                    · have hbi : ((((⟨#[126, 38, 124, 40, 41, 91, 93, 44, 46, 33]⟩ : ByteArray)[6]'(by decide)).toNat : Int) == (t[i].toNat : Int)) = false := beq_eq_false_iff_ne.2 fun e => hb (UInt8.toNat_inj.1 (by have h : ((⟨#[126, 38, 124, 40, 41, 91, 93, 44, 46, 33]⟩ : ByteArray)[6]'(by decide)).toNat = 93 := rfl; have h2 : (93 : UInt8).toNat = 93 := rfl; omega))
                      have HB := Lib.hid hb
                      clear hb
                      go_wp2
                      go_quiet (fail)
                      go_wp2
                      go_roundw
                      case rel => exact ⟨7, by first | rfl | go_num, by omega, Lib.hid (fun m hm => if h : m < 6 then hall.out m h else (by obtain rfl : m = 6 := (by omega); intro e; exact HB.out (Option.some.inj e).symm)), hkw.drewN _⟩
                      case measure => simp [intOf]
                  · by_cases hb : t[i] = 44
                    · have hbi : ((((⟨#[126, 38, 124, 40, 41, 91, 93, 44, 46, 33]⟩ : ByteArray)[7]'(by decide)).toNat : Int) == (t[i].toNat : Int)) = true := by rw [hb]; rfl
                      have HQ : Hid (q = 1) := Lib.hid (by rw [HQ1.out, if_pos (by rw [hb]; decide)])
                      clear hb
                      go_wp2
                      go_quiet (fail)
                      go_wp2
                      refine bodyPost_ret (v := .int .i64 ((i : Int) + 1)) (by simp [results, Tryz.results42, go_sem]) rfl ?_
                      exact ⟨congrArg (fun z => Ending.returned (Value.int .i64 z)) (by have := HQ.out; omega), hkw.drewN _⟩
                    · have hbi : ((((⟨#[126, 38, 124, 40, 41, 91, 93, 44, 46, 33]⟩ : ByteArray)[7]'(by decide)).toNat : Int) == (t[i].toNat : Int)) = false := beq_eq_false_iff_ne.2 fun e => hb (UInt8.toNat_inj.1 (by have h : ((⟨#[126, 38, 124, 40, 41, 91, 93, 44, 46, 33]⟩ : ByteArray)[7]'(by decide)).toNat = 44 := rfl; have h2 : (44 : UInt8).toNat = 44 := rfl; omega))
                      have HB := Lib.hid hb
                      clear hb
                      go_wp2
                      go_quiet (fail)
                      go_wp2
                      go_roundw
                      case rel => exact ⟨8, by first | rfl | go_num, by omega, Lib.hid (fun m hm => if h : m < 7 then hall.out m h else (by obtain rfl : m = 7 := (by omega); intro e; exact HB.out (Option.some.inj e).symm)), hkw.drewN _⟩
                      case measure => simp [intOf]
                  · by_cases hb : t[i] = 46
                    · have hbi : ((((⟨#[126, 38, 124, 40, 41, 91, 93, 44, 46, 33]⟩ : ByteArray)[8]'(by decide)).toNat : Int) == (t[i].toNat : Int)) = true := by rw [hb]; rfl
                      have HQ : Hid (q = 1) := Lib.hid (by rw [HQ1.out, if_pos (by rw [hb]; decide)])
                      clear hb
                      go_wp2
                      go_quiet (fail)
                      go_wp2
                      refine bodyPost_ret (v := .int .i64 ((i : Int) + 1)) (by simp [results, Tryz.results42, go_sem]) rfl ?_
                      exact ⟨congrArg (fun z => Ending.returned (Value.int .i64 z)) (by have := HQ.out; omega), hkw.drewN _⟩
                    · have hbi : ((((⟨#[126, 38, 124, 40, 41, 91, 93, 44, 46, 33]⟩ : ByteArray)[8]'(by decide)).toNat : Int) == (t[i].toNat : Int)) = false := beq_eq_false_iff_ne.2 fun e => hb (UInt8.toNat_inj.1 (by have h : ((⟨#[126, 38, 124, 40, 41, 91, 93, 44, 46, 33]⟩ : ByteArray)[8]'(by decide)).toNat = 46 := rfl; have h2 : (46 : UInt8).toNat = 46 := rfl; omega))
                      have HB := Lib.hid hb
                      clear hb
                      go_wp2
                      go_quiet (fail)
                      go_wp2
                      go_roundw
                      case rel => exact ⟨9, by first | rfl | go_num, by omega, Lib.hid (fun m hm => if h : m < 8 then hall.out m h else (by obtain rfl : m = 8 := (by omega); intro e; exact HB.out (Option.some.inj e).symm)), hkw.drewN _⟩
                      case measure => simp [intOf]
                  · by_cases hb : t[i] = 33
                    · have hbi : ((((⟨#[126, 38, 124, 40, 41, 91, 93, 44, 46, 33]⟩ : ByteArray)[9]'(by decide)).toNat : Int) == (t[i].toNat : Int)) = true := by rw [hb]; rfl
                      have HQ : Hid (q = 1) := Lib.hid (by rw [HQ1.out, if_pos (by rw [hb]; decide)])
                      clear hb
                      go_wp2
                      go_quiet (fail)
                      go_wp2
                      refine bodyPost_ret (v := .int .i64 ((i : Int) + 1)) (by simp [results, Tryz.results42, go_sem]) rfl ?_
                      exact ⟨congrArg (fun z => Ending.returned (Value.int .i64 z)) (by have := HQ.out; omega), hkw.drewN _⟩
                    · have hbi : ((((⟨#[126, 38, 124, 40, 41, 91, 93, 44, 46, 33]⟩ : ByteArray)[9]'(by decide)).toNat : Int) == (t[i].toNat : Int)) = false := beq_eq_false_iff_ne.2 fun e => hb (UInt8.toNat_inj.1 (by have h : ((⟨#[126, 38, 124, 40, 41, 91, 93, 44, 46, 33]⟩ : ByteArray)[9]'(by decide)).toNat = 33 := rfl; have h2 : (33 : UInt8).toNat = 33 := rfl; omega))
                      have HB := Lib.hid hb
                      clear hb
                      go_wp2
                      go_quiet (fail)
                      go_wp2
                      go_roundw
                      case rel => exact ⟨10, by first | rfl | go_num, by omega, Lib.hid (fun m hm => if h : m < 9 then hall.out m h else (by obtain rfl : m = 9 := (by omega); intro e; exact HB.out (Option.some.inj e).symm)), hkw.drewN _⟩
                      case measure => simp [intOf]
                  · have HQ : Hid (q = 0) := Lib.hid (by
                      rw [HQ1.out, if_neg]
                      intro hm
                      obtain ⟨m, hm2⟩ := List.getElem?_of_mem hm
                      exact hall.out m (by have := (List.getElem?_eq_some_iff.1 hm2).1; have h10 : signs.length = 10 := rfl; omega) hm2)
                    go_wp2
                    refine bodyPost_ret (v := .int .i64 (i : Int)) (by simp [results, Tryz.results42, go_sem]) rfl ?_
                    exact ⟨congrArg (fun z => Ending.returned (Value.int .i64 z)) (by have := HQ.out; omega), hkw⟩
            · have h2' : ¬ (i : Int) + 2 ≤ (t.size : Int) := by omega
              go_enter Tryz.func42, Tryz.ntmps42
              go_wp2_with (go_at_call 65; (with_reducible refine (HL.out _).mono ?_); rintro e w' ⟨rfl, hw'⟩; obtain rfl := hw'.symm)
              go_loopw [5] (fun kv wr => kv = .int .i64 (i : Int) ∧ wr = w) (fun kv _ => 0)
              case atStart => exact ⟨rfl, by trivial⟩
              case round =>
                obtain ⟨rfl, hw⟩ := hrel
                obtain rfl := hw.symm; clear hw
                go_wp2_with (go_at_call 66; (with_reducible refine (HD1.out _).mono ?_); rintro e w' ⟨rfl, hw'⟩; obtain rfl := hw'.symm)
                go_loopw [7] (fun nv wr => ∃ n : Nat, nv = .int .i64 (n : Int) ∧ n ≤ 10 ∧ Hid (∀ m, m < n → signs[m]? ≠ some t[i]) ∧ Keep NoF w wr) (fun nv _ => 10 - (intOf nv).toNat)
                case atStart => exact ⟨0, rfl, by omega, Lib.hid (fun m hm => by omega), Keep.refl _ _⟩
                case round =>
                  obtain ⟨n, rfl, hn, hall, hkw⟩ := hrel
                  have hnn : n = 0 ∨ n = 1 ∨ n = 2 ∨ n = 3 ∨ n = 4 ∨ n = 5 ∨ n = 6 ∨ n = 7 ∨ n = 8 ∨ n = 9 ∨ n = 10 := by omega
                  rcases hnn with rfl | rfl | rfl | rfl | rfl | rfl | rfl | rfl | rfl | rfl | rfl
                  · by_cases hb : t[i] = 126
                    · have hbi : ((((⟨#[126, 38, 124, 40, 41, 91, 93, 44, 46, 33]⟩ : ByteArray)[0]'(by decide)).toNat : Int) == (t[i].toNat : Int)) = true := by rw [hb]; rfl
                      have HQ : Hid (q = 1) := Lib.hid (by rw [HQ1.out, if_pos (by rw [hb]; decide)])
                      clear hb
                      go_wp2
                      go_quiet (fail)
                      go_wp2
                      refine bodyPost_ret (v := .int .i64 ((i : Int) + 1)) (by simp [results, Tryz.results42, go_sem]) rfl ?_
                      exact ⟨congrArg (fun z => Ending.returned (Value.int .i64 z)) (by have := HQ.out; omega), hkw.drewN _⟩
                    · have hbi : ((((⟨#[126, 38, 124, 40, 41, 91, 93, 44, 46, 33]⟩ : ByteArray)[0]'(by decide)).toNat : Int) == (t[i].toNat : Int)) = false := beq_eq_false_iff_ne.2 fun e => hb (UInt8.toNat_inj.1 (by have h : ((⟨#[126, 38, 124, 40, 41, 91, 93, 44, 46, 33]⟩ : ByteArray)[0]'(by decide)).toNat = 126 := rfl; have h2 : (126 : UInt8).toNat = 126 := rfl; omega))
                      have HB := Lib.hid hb
                      clear hb
                      go_wp2
                      go_quiet (fail)
                      go_wp2
                      go_roundw
                      case rel => exact ⟨1, by first | rfl | go_num, by omega, Lib.hid (fun m hm => if h : m < 0 then hall.out m h else (by obtain rfl : m = 0 := (by omega); intro e; exact HB.out (Option.some.inj e).symm)), hkw.drewN _⟩
                      case measure => simp [intOf]
                  · by_cases hb : t[i] = 38
                    · have hbi : ((((⟨#[126, 38, 124, 40, 41, 91, 93, 44, 46, 33]⟩ : ByteArray)[1]'(by decide)).toNat : Int) == (t[i].toNat : Int)) = true := by rw [hb]; rfl
                      have HQ : Hid (q = 1) := Lib.hid (by rw [HQ1.out, if_pos (by rw [hb]; decide)])
                      clear hb
                      go_wp2
                      go_quiet (fail)
                      go_wp2
                      refine bodyPost_ret (v := .int .i64 ((i : Int) + 1)) (by simp [results, Tryz.results42, go_sem]) rfl ?_
                      exact ⟨congrArg (fun z => Ending.returned (Value.int .i64 z)) (by have := HQ.out; omega), hkw.drewN _⟩
                    · have hbi : ((((⟨#[126, 38, 124, 40, 41, 91, 93, 44, 46, 33]⟩ : ByteArray)[1]'(by decide)).toNat : Int) == (t[i].toNat : Int)) = false := beq_eq_false_iff_ne.2 fun e => hb (UInt8.toNat_inj.1 (by have h : ((⟨#[126, 38, 124, 40, 41, 91, 93, 44, 46, 33]⟩ : ByteArray)[1]'(by decide)).toNat = 38 := rfl; have h2 : (38 : UInt8).toNat = 38 := rfl; omega))
                      have HB := Lib.hid hb
                      clear hb
                      go_wp2
                      go_quiet (fail)
                      go_wp2
                      go_roundw
                      case rel => exact ⟨2, by first | rfl | go_num, by omega, Lib.hid (fun m hm => if h : m < 1 then hall.out m h else (by obtain rfl : m = 1 := (by omega); intro e; exact HB.out (Option.some.inj e).symm)), hkw.drewN _⟩
                      case measure => simp [intOf]
                  · by_cases hb : t[i] = 124
                    · have hbi : ((((⟨#[126, 38, 124, 40, 41, 91, 93, 44, 46, 33]⟩ : ByteArray)[2]'(by decide)).toNat : Int) == (t[i].toNat : Int)) = true := by rw [hb]; rfl
                      have HQ : Hid (q = 1) := Lib.hid (by rw [HQ1.out, if_pos (by rw [hb]; decide)])
                      clear hb
                      go_wp2
                      go_quiet (fail)
                      go_wp2
                      refine bodyPost_ret (v := .int .i64 ((i : Int) + 1)) (by simp [results, Tryz.results42, go_sem]) rfl ?_
                      exact ⟨congrArg (fun z => Ending.returned (Value.int .i64 z)) (by have := HQ.out; omega), hkw.drewN _⟩
                    · have hbi : ((((⟨#[126, 38, 124, 40, 41, 91, 93, 44, 46, 33]⟩ : ByteArray)[2]'(by decide)).toNat : Int) == (t[i].toNat : Int)) = false := beq_eq_false_iff_ne.2 fun e => hb (UInt8.toNat_inj.1 (by have h : ((⟨#[126, 38, 124, 40, 41, 91, 93, 44, 46, 33]⟩ : ByteArray)[2]'(by decide)).toNat = 124 := rfl; have h2 : (124 : UInt8).toNat = 124 := rfl; omega))
                      have HB := Lib.hid hb
                      clear hb
                      go_wp2
                      go_quiet (fail)
                      go_wp2
                      go_roundw
                      case rel => exact ⟨3, by first | rfl | go_num, by omega, Lib.hid (fun m hm => if h : m < 2 then hall.out m h else (by obtain rfl : m = 2 := (by omega); intro e; exact HB.out (Option.some.inj e).symm)), hkw.drewN _⟩
                      case measure => simp [intOf]
                  · by_cases hb : t[i] = 40
                    · have hbi : ((((⟨#[126, 38, 124, 40, 41, 91, 93, 44, 46, 33]⟩ : ByteArray)[3]'(by decide)).toNat : Int) == (t[i].toNat : Int)) = true := by rw [hb]; rfl
                      have HQ : Hid (q = 1) := Lib.hid (by rw [HQ1.out, if_pos (by rw [hb]; decide)])
                      clear hb
                      go_wp2
                      go_quiet (fail)
                      go_wp2
                      refine bodyPost_ret (v := .int .i64 ((i : Int) + 1)) (by simp [results, Tryz.results42, go_sem]) rfl ?_
                      exact ⟨congrArg (fun z => Ending.returned (Value.int .i64 z)) (by have := HQ.out; omega), hkw.drewN _⟩
                    · have hbi : ((((⟨#[126, 38, 124, 40, 41, 91, 93, 44, 46, 33]⟩ : ByteArray)[3]'(by decide)).toNat : Int) == (t[i].toNat : Int)) = false := beq_eq_false_iff_ne.2 fun e => hb (UInt8.toNat_inj.1 (by have h : ((⟨#[126, 38, 124, 40, 41, 91, 93, 44, 46, 33]⟩ : ByteArray)[3]'(by decide)).toNat = 40 := rfl; have h2 : (40 : UInt8).toNat = 40 := rfl; omega))
                      have HB := Lib.hid hb
                      clear hb
                      go_wp2
                      go_quiet (fail)
                      go_wp2
                      go_roundw
                      case rel => exact ⟨4, by first | rfl | go_num, by omega, Lib.hid (fun m hm => if h : m < 3 then hall.out m h else (by obtain rfl : m = 3 := (by omega); intro e; exact HB.out (Option.some.inj e).symm)), hkw.drewN _⟩
                      case measure => simp [intOf]
                  · by_cases hb : t[i] = 41
                    · have hbi : ((((⟨#[126, 38, 124, 40, 41, 91, 93, 44, 46, 33]⟩ : ByteArray)[4]'(by decide)).toNat : Int) == (t[i].toNat : Int)) = true := by rw [hb]; rfl
                      have HQ : Hid (q = 1) := Lib.hid (by rw [HQ1.out, if_pos (by rw [hb]; decide)])
                      clear hb
                      go_wp2
                      go_quiet (fail)
                      go_wp2
                      refine bodyPost_ret (v := .int .i64 ((i : Int) + 1)) (by simp [results, Tryz.results42, go_sem]) rfl ?_
                      exact ⟨congrArg (fun z => Ending.returned (Value.int .i64 z)) (by have := HQ.out; omega), hkw.drewN _⟩
                    · have hbi : ((((⟨#[126, 38, 124, 40, 41, 91, 93, 44, 46, 33]⟩ : ByteArray)[4]'(by decide)).toNat : Int) == (t[i].toNat : Int)) = false := beq_eq_false_iff_ne.2 fun e => hb (UInt8.toNat_inj.1 (by have h : ((⟨#[126, 38, 124, 40, 41, 91, 93, 44, 46, 33]⟩ : ByteArray)[4]'(by decide)).toNat = 41 := rfl; have h2 : (41 : UInt8).toNat = 41 := rfl; omega))
                      have HB := Lib.hid hb
                      clear hb
                      go_wp2
                      go_quiet (fail)
                      go_wp2
                      go_roundw
                      case rel => exact ⟨5, by first | rfl | go_num, by omega, Lib.hid (fun m hm => if h : m < 4 then hall.out m h else (by obtain rfl : m = 4 := (by omega); intro e; exact HB.out (Option.some.inj e).symm)), hkw.drewN _⟩
                      case measure => simp [intOf]
                  · by_cases hb : t[i] = 91
                    · have hbi : ((((⟨#[126, 38, 124, 40, 41, 91, 93, 44, 46, 33]⟩ : ByteArray)[5]'(by decide)).toNat : Int) == (t[i].toNat : Int)) = true := by rw [hb]; rfl
                      have HQ : Hid (q = 1) := Lib.hid (by rw [HQ1.out, if_pos (by rw [hb]; decide)])
                      clear hb
                      go_wp2
                      go_quiet (fail)
                      go_wp2
                      refine bodyPost_ret (v := .int .i64 ((i : Int) + 1)) (by simp [results, Tryz.results42, go_sem]) rfl ?_
                      exact ⟨congrArg (fun z => Ending.returned (Value.int .i64 z)) (by have := HQ.out; omega), hkw.drewN _⟩
                    · have hbi : ((((⟨#[126, 38, 124, 40, 41, 91, 93, 44, 46, 33]⟩ : ByteArray)[5]'(by decide)).toNat : Int) == (t[i].toNat : Int)) = false := beq_eq_false_iff_ne.2 fun e => hb (UInt8.toNat_inj.1 (by have h : ((⟨#[126, 38, 124, 40, 41, 91, 93, 44, 46, 33]⟩ : ByteArray)[5]'(by decide)).toNat = 91 := rfl; have h2 : (91 : UInt8).toNat = 91 := rfl; omega))
                      have HB := Lib.hid hb
                      clear hb
                      go_wp2
                      go_quiet (fail)
                      go_wp2
                      go_roundw
                      case rel => exact ⟨6, by first | rfl | go_num, by omega, Lib.hid (fun m hm => if h : m < 5 then hall.out m h else (by obtain rfl : m = 5 := (by omega); intro e; exact HB.out (Option.some.inj e).symm)), hkw.drewN _⟩
                      case measure => simp [intOf]
                  · by_cases hb : t[i] = 93
                    · have hbi : ((((⟨#[126, 38, 124, 40, 41, 91, 93, 44, 46, 33]⟩ : ByteArray)[6]'(by decide)).toNat : Int) == (t[i].toNat : Int)) = true := by rw [hb]; rfl
                      have HQ : Hid (q = 1) := Lib.hid (by rw [HQ1.out, if_pos (by rw [hb]; decide)])
                      clear hb
                      go_wp2
                      go_quiet (fail)
                      go_wp2
                      refine bodyPost_ret (v := .int .i64 ((i : Int) + 1)) (by simp [results, Tryz.results42, go_sem]) rfl ?_
                      exact ⟨congrArg (fun z => Ending.returned (Value.int .i64 z)) (by have := HQ.out; omega), hkw.drewN _⟩
                    · have hbi : ((((⟨#[126, 38, 124, 40, 41, 91, 93, 44, 46, 33]⟩ : ByteArray)[6]'(by decide)).toNat : Int) == (t[i].toNat : Int)) = false := beq_eq_false_iff_ne.2 fun e => hb (UInt8.toNat_inj.1 (by have h : ((⟨#[126, 38, 124, 40, 41, 91, 93, 44, 46, 33]⟩ : ByteArray)[6]'(by decide)).toNat = 93 := rfl; have h2 : (93 : UInt8).toNat = 93 := rfl; omega))
                      have HB := Lib.hid hb
                      clear hb
                      go_wp2
                      go_quiet (fail)
                      go_wp2
                      go_roundw
                      case rel => exact ⟨7, by first | rfl | go_num, by omega, Lib.hid (fun m hm => if h : m < 6 then hall.out m h else (by obtain rfl : m = 6 := (by omega); intro e; exact HB.out (Option.some.inj e).symm)), hkw.drewN _⟩
                      case measure => simp [intOf]
                  · by_cases hb : t[i] = 44
                    · have hbi : ((((⟨#[126, 38, 124, 40, 41, 91, 93, 44, 46, 33]⟩ : ByteArray)[7]'(by decide)).toNat : Int) == (t[i].toNat : Int)) = true := by rw [hb]; rfl
                      have HQ : Hid (q = 1) := Lib.hid (by rw [HQ1.out, if_pos (by rw [hb]; decide)])
                      clear hb
                      go_wp2
                      go_quiet (fail)
                      go_wp2
                      refine bodyPost_ret (v := .int .i64 ((i : Int) + 1)) (by simp [results, Tryz.results42, go_sem]) rfl ?_
                      exact ⟨congrArg (fun z => Ending.returned (Value.int .i64 z)) (by have := HQ.out; omega), hkw.drewN _⟩
                    · have hbi : ((((⟨#[126, 38, 124, 40, 41, 91, 93, 44, 46, 33]⟩ : ByteArray)[7]'(by decide)).toNat : Int) == (t[i].toNat : Int)) = false := beq_eq_false_iff_ne.2 fun e => hb (UInt8.toNat_inj.1 (by have h : ((⟨#[126, 38, 124, 40, 41, 91, 93, 44, 46, 33]⟩ : ByteArray)[7]'(by decide)).toNat = 44 := rfl; have h2 : (44 : UInt8).toNat = 44 := rfl; omega))
                      have HB := Lib.hid hb
                      clear hb
                      go_wp2
                      go_quiet (fail)
                      go_wp2
                      go_roundw
                      case rel => exact ⟨8, by first | rfl | go_num, by omega, Lib.hid (fun m hm => if h : m < 7 then hall.out m h else (by obtain rfl : m = 7 := (by omega); intro e; exact HB.out (Option.some.inj e).symm)), hkw.drewN _⟩
                      case measure => simp [intOf]
                  · by_cases hb : t[i] = 46
                    · have hbi : ((((⟨#[126, 38, 124, 40, 41, 91, 93, 44, 46, 33]⟩ : ByteArray)[8]'(by decide)).toNat : Int) == (t[i].toNat : Int)) = true := by rw [hb]; rfl
                      have HQ : Hid (q = 1) := Lib.hid (by rw [HQ1.out, if_pos (by rw [hb]; decide)])
                      clear hb
                      go_wp2
                      go_quiet (fail)
                      go_wp2
                      refine bodyPost_ret (v := .int .i64 ((i : Int) + 1)) (by simp [results, Tryz.results42, go_sem]) rfl ?_
                      exact ⟨congrArg (fun z => Ending.returned (Value.int .i64 z)) (by have := HQ.out; omega), hkw.drewN _⟩
                    · have hbi : ((((⟨#[126, 38, 124, 40, 41, 91, 93, 44, 46, 33]⟩ : ByteArray)[8]'(by decide)).toNat : Int) == (t[i].toNat : Int)) = false := beq_eq_false_iff_ne.2 fun e => hb (UInt8.toNat_inj.1 (by have h : ((⟨#[126, 38, 124, 40, 41, 91, 93, 44, 46, 33]⟩ : ByteArray)[8]'(by decide)).toNat = 46 := rfl; have h2 : (46 : UInt8).toNat = 46 := rfl; omega))
                      have HB := Lib.hid hb
                      clear hb
                      go_wp2
                      go_quiet (fail)
                      go_wp2
                      go_roundw
                      case rel => exact ⟨9, by first | rfl | go_num, by omega, Lib.hid (fun m hm => if h : m < 8 then hall.out m h else (by obtain rfl : m = 8 := (by omega); intro e; exact HB.out (Option.some.inj e).symm)), hkw.drewN _⟩
                      case measure => simp [intOf]
                  · by_cases hb : t[i] = 33
                    · have hbi : ((((⟨#[126, 38, 124, 40, 41, 91, 93, 44, 46, 33]⟩ : ByteArray)[9]'(by decide)).toNat : Int) == (t[i].toNat : Int)) = true := by rw [hb]; rfl
                      have HQ : Hid (q = 1) := Lib.hid (by rw [HQ1.out, if_pos (by rw [hb]; decide)])
                      clear hb
                      go_wp2
                      go_quiet (fail)
                      go_wp2
                      refine bodyPost_ret (v := .int .i64 ((i : Int) + 1)) (by simp [results, Tryz.results42, go_sem]) rfl ?_
                      exact ⟨congrArg (fun z => Ending.returned (Value.int .i64 z)) (by have := HQ.out; omega), hkw.drewN _⟩
                    · have hbi : ((((⟨#[126, 38, 124, 40, 41, 91, 93, 44, 46, 33]⟩ : ByteArray)[9]'(by decide)).toNat : Int) == (t[i].toNat : Int)) = false := beq_eq_false_iff_ne.2 fun e => hb (UInt8.toNat_inj.1 (by have h : ((⟨#[126, 38, 124, 40, 41, 91, 93, 44, 46, 33]⟩ : ByteArray)[9]'(by decide)).toNat = 33 := rfl; have h2 : (33 : UInt8).toNat = 33 := rfl; omega))
                      have HB := Lib.hid hb
                      clear hb
                      go_wp2
                      go_quiet (fail)
                      go_wp2
                      go_roundw
                      case rel => exact ⟨10, by first | rfl | go_num, by omega, Lib.hid (fun m hm => if h : m < 9 then hall.out m h else (by obtain rfl : m = 9 := (by omega); intro e; exact HB.out (Option.some.inj e).symm)), hkw.drewN _⟩
                      case measure => simp [intOf]
                  · have HQ : Hid (q = 0) := Lib.hid (by
                      rw [HQ1.out, if_neg]
                      intro hm
                      obtain ⟨m, hm2⟩ := List.getElem?_of_mem hm
                      exact hall.out m (by have := (List.getElem?_eq_some_iff.1 hm2).1; have h10 : signs.length = 10 := rfl; omega) hm2)
                    go_wp2
                    refine bodyPost_ret (v := .int .i64 (i : Int)) (by simp [results, Tryz.results42, go_sem]) rfl ?_
                    exact ⟨congrArg (fun z => Ending.returned (Value.int .i64 z)) (by have := HQ.out; omega), hkw⟩
end
end Go.Proofs.YtdhdcenjiopofaaGreatDoor
