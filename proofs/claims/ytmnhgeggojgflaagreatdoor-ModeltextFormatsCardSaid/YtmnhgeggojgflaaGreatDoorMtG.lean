/- A line of a model's text: whether its items are those of a line of the table. No condition. -/
import Derived.Test.YtmnhgeggojgflaaGreatDoorMtF
set_option linter.unusedVariables false
set_option linter.unusedSimpArgs false
namespace Mt
open Go (Lib.trimB Lib.trimLeftB Lib.trimRightB)
open Go.Proofs.YtmnhgeggojgflaaGreatDoor (txt data_txt)
def kb : Kd → UInt8
  | .s => 115
  | .n => 110
  | .w => 119
def kT (l : List (List UInt8)) : ByteArray := txt ((l.map kd).map kb)
theorem kb_ne (x : Kd) : (((kb x).toNat : Int) != 115) = !(x == .s) := by cases x <;> rfl
theorem kb_eq (x : Kd) : (((kb x).toNat : Int) == 115) = (x == .s) := by cases x <;> rfl
theorem beq_dec (a b : List UInt8) : (a == b) = decide (a = b) := by
  by_cases h : a = b
  · subst h; simp
  · rw [decide_eq_false h, beq_eq_false_iff_ne]; exact h
theorem kb_inj : ∀ {a b : List Kd}, a.map kb = b.map kb → a = b
  | [], [], _ => rfl
  | [], _ :: _, h => by simp at h
  | _ :: _, [], h => by simp at h
  | a :: l, b :: r, h => by
    simp only [List.map_cons, List.cons.injEq] at h
    rw [kb_inj h.2]
    congr 1
    revert h
    cases a <;> cases b <;> simp [kb]
theorem kT_beq (l : List (List UInt8)) (k : List Kd) : ((kT l).toList == k.map kb) = decide (l.map kd = k) := by
  rw [Go.ByteArray.toList_eq, kT, data_txt]
  by_cases h : l.map kd = k
  · simp [h]
  · rw [decide_eq_false h, beq_eq_false_iff_ne]
    exact fun e => h (kb_inj e)
theorem kT_size (l : List (List UInt8)) : (kT l).size = l.length := by
  rw [← Go.Proofs.YtmnhgeggojgflaaGreatDoor.data_len, kT, data_txt, List.length_map, List.length_map]
theorem dropW_all {p : UInt8 → Bool} : ∀ {l : List UInt8}, l.dropWhile p = [] ↔ l.all p = true
  | [] => by simp
  | b :: l => by
    rw [List.dropWhile_cons]
    cases hb : p b with
    | true => simp [hb, dropW_all (l := l)]
    | false => simp [hb]
theorem dropW_no {p : UInt8 → Bool} : ∀ {l r : List UInt8} {x : UInt8}, l.dropWhile p = x :: r → p x = false
  | [], _, _, h => by cases h
  | b :: l, r, x, h => by
    rw [List.dropWhile_cons] at h
    cases hb : p b with
    | true =>
      rw [hb, if_pos rfl] at h
      exact dropW_no h
    | false =>
      rw [hb, if_neg (by simp)] at h
      injection h with h1 h2
      exact h1 ▸ hb
theorem trimB_nil (l : List UInt8) (c : UInt8) : (Lib.trimB l c == []) = l.all (· == c) := by
  unfold Go.Lib.trimB Go.Lib.trimLeftB Go.Lib.trimRightB
  cases h : l.all (· == c) with
  | true =>
    have : l.reverse.dropWhile (· == c) = [] := dropW_all.2 (by simpa using h)
    rw [this]
    rfl
  | false =>
    rw [beq_eq_false_iff_ne]
    intro e
    have h2 := dropW_all.1 e
    rw [List.all_reverse] at h2
    -- a byte that is no c is kept by the walk from the right, and is met by the walk from the left
    have h3 : l.reverse.dropWhile (· == c) = [] := by
      cases hq : l.reverse.dropWhile (· == c) with
      | nil => rfl
      | cons x r =>
        have hx := dropW_no hq
        rw [hq] at h2
        simp only [List.all_cons, Bool.and_eq_true] at h2
        rw [hx] at h2
        cases h2.1
    have h4 := dropW_all.1 h3
    rw [List.all_reverse, h] at h4
    cases h4
theorem all_s (k : List Kd) : (k.map kb).all (· == 115) = k.all (· == .s) := by
  rw [List.all_map]
  congr 1
  funext x
  cases x <;> rfl
end Mt
namespace Go.Proofs.YtmnhgeggojgflaaGreatDoor
open Go.RowKit
open Mt
attribute [local go_sem] Oper.semAt_some
theorem kT_snoc {l : List (List UInt8)} {k : Nat} {x : List UInt8} (h : l[k]? = some x) : kT (l.take (k + 1)) = kT (l.take k) ++ txt [kb (kd x)] := by
  refine ba_ext ?_
  rw [ByteArray.data_append, Array.toList_append]
  unfold kT
  rw [data_txt, data_txt, data_txt, List.take_add_one, h]
  simp
theorem kT_at {l : List (List UInt8)} {k : Nat} {x : List UInt8} (h : l[k]? = some x) (hk : k < (kT l).size) : (kT l)[k]'hk = kb (kd x) := by
  have := Lib.data_getElem? (kT l) k hk
  unfold kT at this
  rw [data_txt, List.getElem?_map, List.getElem?_map, h] at this
  exact (Option.some.inj this).symm
section
set_option maxRecDepth 100000
set_option maxHeartbeats 2000000
theorem mtform_any (l : List (List UInt8)) (A : Option Addr) (c : Nat) (w : World) (hrd : Rd w (.slice A l.length c) 1 l.length (strs (l.map txt))) (hl0 : l ≠ []) (hn : l.length ≤ 4294967296) (hne : ∀ x ∈ l, x ≠ []) :
    Calls Tryz.prog 68 #[.slice A l.length c] w fun e w' => e = .returned (.bool (formL l)) ∧ Keep NoF w w' := by
  have hl1 : 0 < l.length := List.length_pos_iff.2 hl0
  obtain ⟨-, hc1, bl, off, rfl, hcells⟩ := hrd.at_ hl1
  have HC : Hid (∀ k x, l[k]? = some x → w.cell? ⟨bl, off + k, none⟩ = some (.string (txt x))) := Lib.hid fun k x h => hcells k _ (by simp [strs, List.getElem?_map, h])
  have hbl : bl < w.heap.size := World.block_lt_of_cell? w _ (HC.out 0 l[0] (List.getElem?_eq_getElem hl1))
  clear hcells
  obtain ⟨Fr, hFr⟩ : ∃ Fr, formL l = Fr := ⟨_, rfl⟩
  rw [hFr]
  have HFR := Lib.hid hFr
  clear hFr
  go_enter Tryz.func68, Tryz.ntmps68
  go_wp2
  go_loopw [3, 11] (fun kv iv wr => ∃ i : Nat, iv = .int .i64 i ∧ i ≤ l.length ∧ kv = .string (kT (l.take i)) ∧ Keep NoF w wr) (fun _ iv _ => l.length - (intOf iv).toNat)
  case atStart => exact ⟨0, rfl, by omega, rfl, Keep.refl _ _⟩
  case round =>
    obtain ⟨i, rfl, hi, rfl, hkr⟩ := hrel
    have hz := hkr.size
    by_cases hlt : i < l.length
    · have hx : l[i]? = some l[i] := List.getElem?_eq_getElem hlt
      have hx0 := hne _ (List.getElem_mem hlt)
      have hst := kT_snoc hx
      have hks := kT_size (l.take i)
      have hc0 := hkr.cellv (HC.out i _ hx) (fun h => h)
      rw [List.length_take] at hks
      generalize l[i] = x at *
      have hxs : 0 < (txt x).size := by rw [← data_len, data_txt]; exact List.length_pos_iff.2 hx0
      have HN := Lib.hid fun W => mtnumber_any (txt x) W
      have HSt := Lib.hid fun W => mtset_any (txt x) W hxs
      rw [data_txt] at HN HSt
      have hst' : kT (l.take (i + 1)) = kT (l.take i) ++ txt [if isS x = true then 115 else if (numB x).isSome = true then 110 else 119] := by
        rw [hst]
        unfold kd
        cases isS x <;> cases (numB x).isSome <;> rfl
      clear hst hx hx0
      generalize isS x = b1 at *
      generalize (numB x).isSome = b2 at *
      generalize (numB x).getD 0 = m at *
      generalize kT (l.take i) = T at *
      have hi2 : (i : Int) < (l.length : Int) := by omega
      have HST := Lib.hid hst'
      clear hst'
      cases b1 with
      | true =>
        go_wp2_with (first
          | (go_at_call 102; (with_reducible refine (HN.out _).mono ?_); rintro e w2 ⟨rfl, hk2⟩; have hz2 := hk2.size)
          | (go_at_call 103; (with_reducible refine (HSt.out _).mono ?_); rintro e w' ⟨rfl, hw'⟩; obtain rfl := hw'.symm))
        go_roundw
        case rel => exact ⟨i + 1, by go_num, by omega, by rw [HST.out]; rfl, hkr.trans hk2 fun _ _ h => h⟩
        case measure => simp only [intOf]; omega
      | false =>
        cases b2 with
        | true =>
          go_wp2_with (first
            | (go_at_call 102; (with_reducible refine (HN.out _).mono ?_); rintro e w2 ⟨rfl, hk2⟩; have hz2 := hk2.size)
            | (go_at_call 103; (with_reducible refine (HSt.out _).mono ?_); rintro e w' ⟨rfl, hw'⟩; obtain rfl := hw'.symm))
          go_roundw
          case rel => exact ⟨i + 1, by go_num, by omega, by rw [HST.out]; rfl, hkr.trans hk2 fun _ _ h => h⟩
          case measure => simp only [intOf]; omega
        | false =>
          go_wp2_with (first
            | (go_at_call 102; (with_reducible refine (HN.out _).mono ?_); rintro e w2 ⟨rfl, hk2⟩; have hz2 := hk2.size)
            | (go_at_call 103; (with_reducible refine (HSt.out _).mono ?_); rintro e w' ⟨rfl, hw'⟩; obtain rfl := hw'.symm))
          go_roundw
          case rel => exact ⟨i + 1, by go_num, by omega, by rw [HST.out]; rfl, hkr.trans hk2 fun _ _ h => h⟩
          case measure => simp only [intOf]; omega
    · obtain rfl : i = l.length := by omega
      rw [List.take_length] at *
      have hTs := kT_size l
      have hx0 : l[0]? = some (l.headD []) := by
        cases l with
        | nil => exact absurd rfl hl0
        | cons a r => rfl
      have hc0 := hkr.cellv (HC.out 0 _ hx0) (fun h => h)
      rw [Nat.add_zero] at hc0
      have HWD : Hid (∀ u : List UInt8, ((txt (l.headD [])).toList == u) = decide (l.headD [] = u)) := Lib.hid fun u => by
        rw [Go.ByteArray.toList_eq, data_txt]
        exact beq_dec _ _
      have HK1 : Hid (∀ h : 1 < (kT l).size, ((((kT l)[1]'h).toNat : Int) != 115) = !((l.map kd).getD 1 .s == .s)) := Lib.hid fun h => by
        rw [hTs] at h
        have hy : l[1]? = some l[1] := List.getElem?_eq_getElem h
        rw [kT_at hy, List.getD_eq_getElem?_getD, List.getElem?_map, hy]
        exact kb_ne _
      have HK2 : Hid (∀ h : 2 < (kT l).size, ((((kT l)[2]'h).toNat : Int) == 115) = ((l.map kd).getD 2 .w == .s)) := Lib.hid fun h => by
        rw [hTs] at h
        have hy : l[2]? = some l[2] := List.getElem?_eq_getElem h
        rw [kT_at hy, List.getD_eq_getElem?_getD, List.getElem?_map, hy]
        exact kb_eq _
      have HKW : Hid (((kT l).toList == [119, 110]) = decide (l.map kd = [.w, .n])) := Lib.hid (kT_beq l [.w, .n])
      have HD : Hid (((kT l).extract 2 (kT l).size).data.toList = ((l.map kd).drop 2).map kb) := Lib.hid (by rw [ext_drop]; unfold kT; rw [data_txt, List.map_drop])
      have HKA : Hid ((((kT l).extract 2 (kT l).size).toList == [110, 115]) = decide ((l.map kd).drop 2 = [.n, .s])) := Lib.hid (by
        rw [Go.ByteArray.toList_eq, HD.out]
        by_cases h : (l.map kd).drop 2 = [.n, .s]
        · rw [h]; rfl
        · rw [decide_eq_false h, beq_eq_false_iff_ne]
          exact fun e => h (kb_inj (b := [.n, .s]) e))
      have HTR := Lib.hid fun W => Tryz.strings_Trim_one ((kT l).extract 2 (kT l).size) 115 (by decide) W (by rw [← data_len, HD.out, List.length_map, List.length_drop, List.length_map]; omega)
      have HKC : Hid (((⟨(Lib.trimB ((kT l).extract 2 (kT l).size).data.toList 115).toArray⟩ : ByteArray).toList == []) = ((l.map kd).drop 2).all (· == .s)) := Lib.hid (by
        rw [Go.ByteArray.toList_eq, HD.out, ← all_s, ← trimB_nil])
      have hf := HFR.out
      clear HFR
      unfold formL wWorlds wFact wAgent wCells at hf
      simp only [List.length_map] at hf
      generalize (⟨(Lib.trimB ((kT l).extract 2 (kT l).size).data.toList 115).toArray⟩ : ByteArray) = TR at *
      generalize ((l.map kd).getD 1 .s == .s) = b1 at *
      generalize ((l.map kd).getD 2 .w == .s) = b2 at *
      generalize decide (l.map kd = [.w, .n]) = b3 at *
      generalize decide ((l.map kd).drop 2 = [.n, .s]) = b4 at *
      generalize ((l.map kd).drop 2).all (· == .s) = b5 at *
      generalize kT l = T at *
      clear HD
      have HX0 : Hid (l.headD [] = l.headD []) := Lib.hid rfl
      generalize l.headD [] = x0 at *
      generalize l.map kd = K at *
      obtain ⟨nm, hnm⟩ : ∃ nm, (decide (1 < l.length) && !b1) = nm := ⟨_, rfl⟩
      rw [hnm] at hf
      generalize l.length = n at *
      have HFR := Lib.hid hf
      clear hf
      have HF : Hid (nm = true → 1 < n) := Lib.hid fun h => by rw [← hnm] at h; simp at h; exact h.1
      clear HX0
      go_upto_region 12 with (fail)
      go_cut [8] from 9 to 40 (fun v8 wc => v8 = .bool nm ∧ wc = wr)
      case first =>
        by_cases h1 : 1 < n
        · have h1' : (1 : Int) < (n : Int) := by omega
          have hT1 : 1 < T.size := by omega
          have hk1 := HK1.out hT1
          have hb : (!b1) = nm := by rw [← hnm]; simp [h1]
          go_wp2
          go_meet
          exact ⟨rfl, rfl⟩
        · have h1' : ¬ (1 : Int) < (n : Int) := by omega
          obtain rfl : nm = false := by rw [← hnm]; simp; omega
          go_wp2
          go_meet
          exact ⟨rfl, rfl⟩
      case rest =>
        obtain ⟨rfl, hwc⟩ := hcut
        obtain rfl : wc = wr := hwc
        clear hnm HK1
        subst hTs
        have e1 := HWD.out [119, 111, 114, 108, 100, 115]
        by_cases w1 : x0 = [119, 111, 114, 108, 100, 115]
        · have HE : Hid (Fr = b3) := Lib.hid (by rw [← HFR.out, if_pos w1])
          rw [decide_eq_true w1] at e1
          have hkw := HKW.out
          clear HFR HWD HK2 HKW HKA HKC w1
          go_wp2
          go_ret
          exact ⟨by rw [HE.out] <;> rfl, hkr⟩
        · have HF1 := Lib.hid (by have := HFR.out; rwa [if_neg w1] at this)
          rw [decide_eq_false w1] at e1
          have e2 := HWD.out [102, 97, 99, 116]
          clear HFR HKW w1
          by_cases w2 : x0 = [102, 97, 99, 116]
          · have HE := Lib.hid (by have := HF1.out; rwa [if_pos w2] at this)
            rw [decide_eq_true w2] at e2
            clear HF1 HWD HKA HKC w2
            by_cases h3 : T.size = 3
            · have h3' : ((T.size : Int) == 3) = true := by simp; omega
              cases nm with
              | true =>
                have hk2 := HK2.out (by omega)
                have HE2 : Hid (Fr = b2) := Lib.hid (by rw [← HE.out]; simp [h3])
                clear HE HK2
                have hb2 : (2 : Int) < (T.size : Int) := by omega
                go_wp2
                go_ret
                exact ⟨by rw [HE2.out] <;> rfl, hkr⟩
              | false =>
                have HE2 : Hid (Fr = false) := Lib.hid (by rw [← HE.out]; simp)
                clear HE HK2
                go_wp2
                go_ret
                exact ⟨by rw [HE2.out] <;> rfl, hkr⟩
            · have h3' : ((T.size : Int) == 3) = false := by rw [beq_eq_false_iff_ne]; omega
              have HE2 : Hid (Fr = false) := Lib.hid (by rw [← HE.out]; simp [h3])
              clear HE HK2
              go_wp2
              go_ret
              exact ⟨by rw [HE2.out] <;> rfl, hkr⟩
          · have HF2 := Lib.hid (by have := HF1.out; rwa [if_neg w2] at this)
            rw [decide_eq_false w2] at e2
            have e3 := HWD.out [97, 103, 101, 110, 116]
            clear HF1 HK2 w2
            by_cases w3 : x0 = [97, 103, 101, 110, 116]
            · have HE := Lib.hid (by have := HF2.out; rwa [if_pos w3] at this)
              rw [decide_eq_true w3] at e3
              clear HF2 HWD HKC w3
              by_cases h3 : T.size = 4
              · have h3' : ((T.size : Int) == 4) = true := by simp; omega
                cases nm with
                | true =>
                  have hka := HKA.out
                  rw [h3] at hka
                  have HE2 : Hid (Fr = b4) := Lib.hid (by rw [← HE.out]; simp [h3])
                  clear HE HKA
                  have hb2 : (2 : Int) ≤ (T.size : Int) := by omega
                  go_wp2
                  go_ret
                  exact ⟨by rw [HE2.out] <;> rfl, hkr⟩
                | false =>
                  have HE2 : Hid (Fr = false) := Lib.hid (by rw [← HE.out]; simp)
                  clear HE HKA
                  go_wp2
                  go_ret
                  exact ⟨by rw [HE2.out] <;> rfl, hkr⟩
              · have h3' : ((T.size : Int) == 4) = false := by rw [beq_eq_false_iff_ne]; omega
                have HE2 : Hid (Fr = false) := Lib.hid (by rw [← HE.out]; simp [h3])
                clear HE HKA
                go_wp2
                go_ret
                exact ⟨by rw [HE2.out] <;> rfl, hkr⟩
            · have HF3 := Lib.hid (by have := HF2.out; rwa [if_neg w3] at this)
              rw [decide_eq_false w3] at e3
              have e4 := HWD.out [99, 101, 108, 108, 115]
              clear HF2 HKA w3
              by_cases w4 : x0 = [99, 101, 108, 108, 115]
              · have HE := Lib.hid (by have := HF3.out; rwa [if_pos w4] at this)
                rw [decide_eq_true w4] at e4
                clear HF3 HWD w4
                cases nm with
                | true =>
                  have hkc := HKC.out
                  have HE2 : Hid (Fr = b5) := Lib.hid (by rw [← HE.out]; simp)
                  have h1n := HF.out rfl
                  clear HE HKC HF
                  have hb2 : (2 : Int) ≤ (T.size : Int) := by omega
                  go_wp2_with (go_at_call 89; (with_reducible refine (HTR.out _).mono ?_); rintro e w9 ⟨rfl, hw9⟩; have hk9 : Keep NoF w w9 := by rcases hw9 with rfl | rfl; exact hkr; exact hkr.drew)
                  go_ret
                  exact ⟨by rw [HE2.out] <;> rfl, hk9⟩
                | false =>
                  have HE2 : Hid (Fr = false) := Lib.hid (by rw [← HE.out]; simp)
                  clear HE HKC HF
                  go_wp2
                  go_ret
                  exact ⟨by rw [HE2.out] <;> rfl, hkr⟩
              · have HE2 : Hid (Fr = false) := Lib.hid (by have := HF3.out; rw [if_neg w4] at this; exact this.symm)
                rw [decide_eq_false w4] at e4
                clear HF3 HWD HKC w4
                go_wp2
                go_ret
                exact ⟨by rw [HE2.out] <;> rfl, hkr⟩
end
end Go.Proofs.YtmnhgeggojgflaaGreatDoor
