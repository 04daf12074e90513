/- The text of a set: how the program cuts it into fields. Conditions: the library's variables lie as they are read. The text of a set: what the program's Parse does. Conditions: the library's variables lie as they are read. No condition. -/
import Derived.Test.YtmnhgeggojgflaaGreatDoorWtPab
import Derived.Test.YtmnhgeggojgflaaGreatDoorWtB
import Derived.Test.YtmnhgeggojgflaaGreatDoorWtR
set_option linter.unusedVariables false
set_option linter.unusedSimpArgs false
namespace Go.Proofs.YtmnhgeggojgflaaGreatDoor.Ws
open Go.RowKit

theorem flds_len : ∀ (l : List UInt8) (f : List UInt8), f ∈ flds l → f.length ≤ l.length
  | [], f, h => by
    have : f = [] := by simpa [flds] using h
    subst this
    simp
  | b :: l, f, h => by
    by_cases hb : b = 32
    · subst hb
      rw [flds_sp] at h
      rcases List.mem_cons.1 h with rfl | h
      · simp
      · have := flds_len l f h
        simp
        omega
    · rw [flds_ch _ hb] at h
      rcases List.mem_cons.1 h with rfl | h
      · have := flds_len l ((flds l).headD []) (by rw [flds_ne l]; simp)
        rw [List.length_cons, List.length_cons]
        omega
      · have := flds_len l f (by rw [flds_ne l]; exact List.mem_cons_of_mem _ h)
        simp
        omega
theorem flds_count : ∀ l : List UInt8, (flds l).length ≤ l.length + 1
  | [] => by simp [flds]
  | b :: l => by
    have := flds_count l
    by_cases hb : b = 32
    · subst hb
      rw [flds_sp, List.length_cons, List.length_cons]
      omega
    · rw [flds_ne l, List.length_cons] at this
      rw [flds_ch _ hb, List.length_cons, List.length_cons]
      omega
theorem mid_extract (t : ByteArray) (h : 2 ≤ t.size) : (t.extract 1 (t.size - 1)).data.toList = midL t.data.toList := by
  rw [Lib.extract_data, midL, data_len]
  rfl
/-- The fields, and the call that makes them. -/
theorem split_any (s : ByteArray) (w : World) (hs : s.size ≤ 100000) (ht : Tab w) : ∃ F : List ByteArray, F.map (·.data.toList) = flds s.data.toList ∧ (∀ f ∈ F, f.size ≤ 100000) ∧ F.length ≤ 100001 ∧
    Calls Tryz.prog 144 #[.string s, .string ⟨#[32]⟩] w fun e w' => e = .returned (.slice (some ⟨w.heap.size, 0, none⟩) F.length F.length) ∧ w' = w.alloc (.cells (F.map Value.string).toArray 9) := by
  obtain ⟨m, hm⟩ := ht.2
  have h := Tryz.strings_Split s ⟨#[32]⟩ m w (by omega) hm (by decide)
  have hd : (Lib.splitB ⟨#[32]⟩ 0 (Lib.countB s ⟨#[32]⟩) s).map (·.data.toList) = flds s.data.toList := by
    rw [Lib.splitB_data]
    exact split_flds _
  have hl : (Lib.splitB ⟨#[32]⟩ 0 (Lib.countB s ⟨#[32]⟩) s).length = Lib.countB s ⟨#[32]⟩ + 1 := Lib.splitB_all _ (by decide) 0 _ s rfl
  have hn : (flds s.data.toList).length ≤ 100001 := by
    have := flds_count s.data.toList
    rw [data_len] at this
    omega
  rw [← hd, List.length_map] at hn
  refine ⟨_, hd, fun f hf => ?_, hn, by rw [hl]; exact h⟩
  have h1 : f.data.toList ∈ flds s.data.toList := by
    rw [← hd]
    exact List.mem_map_of_mem hf
  have h2 := flds_len _ _ h1
  rw [data_len, data_len] at h2
  omega
end Go.Proofs.YtmnhgeggojgflaaGreatDoor.Ws
namespace Go.Proofs.YtmnhgeggojgflaaGreatDoor.Ws
open Go.RowKit

theorem parse_none (t : List UInt8) (h : t.length < 2 ∨ t.headD 0 ≠ 123 ∨ t.getLastD 0 ≠ 125) : parseS t = (0, 4) := if_pos h

theorem nums_cons (f : List UInt8) (r : List (List UInt8)) : nums (f :: r) = match numF f with
    | none => none
    | some n => (nums r).map (n :: ·) := rfl
theorem chk_cons (n : Nat) (r : List Nat) (s : Nat) (last : Int) : chk (n :: r) s last = if 63 < n then (0, 2) else if (n : Int) ≤ last then (0, 9) else chk r (s ||| 2 ^ n) n := rfl
theorem eq_lit (t : ByteArray) (h2 : t.size = 2) (h0 : t[0] = 123) (h1 : t[1] = 125) : t = ⟨#[123, 125]⟩ := by
  obtain ⟨b, hb, hd⟩ := byte_at t 0 (by omega)
  obtain ⟨c, hc, he⟩ := byte_at t 1 (by omega)
  apply ByteArray.ext
  apply Array.toList_inj.1
  rw [List.drop_zero, he, List.drop_eq_nil_of_le (by rw [data_len]; omega)] at hd
  rw [hd, ← hb, ← hc, h0, h1]

section
set_option maxRecDepth 100000
set_option maxHeartbeats 2000000
theorem Parse_any (t : ByteArray) (w : World) (ht : t.size ≤ 100000) (hT : Tab w) :
    Calls Tryz.prog 131 #[.string t] w fun e w' => e = .returned (.tuple #[.int .u64 (parseS t.data.toList).1, .int .i64 (parseS t.data.toList).2]) ∧ Keep NoF w w' := by
  have hdl := data_len t
  by_cases h2 : t.size < 2
  · rw [parse_none _ (.inl (by omega))]
    go_enter Tryz.func131, Tryz.ntmps131
    go_wp2
    refine bodyPost_ret (v := .tuple #[.int .u64 0, .int .i64 4]) (by simp [results, Tryz.results131, go_sem]) rfl ?_
    exact ⟨rfl, Keep.refl _ _⟩
  · have hs0 : 0 < t.size := by omega
    have hh := headD_at t hs0
    have hl := lastD_at t hs0
    by_cases h0 : t[0] = 123
    · by_cases h1 : t[t.size - 1] = 125
      · have hP : parseS t.data.toList = if midL t.data.toList = [] then (0, 0) else match nums (flds (midL t.data.toList)) with
            | none => (0, 4)
            | some l => chk l 0 (-1) := if_neg (by rw [hh, hl, h0, h1]; simp; omega)
        have e0 : t[0].toNat = 123 := by rw [h0]; rfl
        have e1 : t[t.size - 1].toNat = 125 := by rw [h1]; rfl
        have hml : (midL t.data.toList).length = t.size - 2 := by rw [midL, List.length_take, List.length_drop, data_len]; omega
        by_cases hz : t.size = 2
        · have ht2 := eq_lit t hz h0 (by simpa [hz] using h1)
          rw [hP, if_pos (List.eq_nil_of_length_eq_zero (by omega))]
          subst ht2
          clear hP e0 e1 hml hz h0 h1 hh hl hs0 h2 hdl ht
          go_enter Tryz.func131, Tryz.ntmps131
          go_wp2
          refine bodyPost_ret (v := .tuple #[.int .u64 0, .int .i64 0]) (by simp [results, Tryz.results131, go_sem]) rfl ?_
          exact ⟨rfl, Keep.refl _ _⟩
        · rw [if_neg (fun e => by rw [e] at hml; simp at hml; omega)] at hP
          have hlit : (t.toList == [123, 125]) = false := by
            rw [beq_eq_false_iff_ne, ByteArray.toList_eq]
            intro e
            rw [e] at hdl
            exact hz hdl.symm
          have hex := mid_extract t (by omega)
          have hsz : (t.extract 1 (t.size - 1)).size ≤ 100000 := by
            rw [← data_len, hex]
            omega
          obtain ⟨F, hF, hFs, hFl, hcall⟩ := split_any (t.extract 1 (t.size - 1)) w hsz hT
          rw [hex] at hF
          generalize parseS t.data.toList = P at *
          rw [← hF] at hP
          have HP := Lib.hid hP
          have HC := Lib.hid hcall
          have HFS := Lib.hid hFs
          clear hP hcall hF hex hsz hml h0 h1 hh hl hFs
          go_enter Tryz.func131, Tryz.ntmps131
          go_wp2_with (go_at_call 144; (with_reducible refine HC.out.mono ?_); rintro e w1 ⟨rfl, hw1⟩; have HW1 := Lib.hid hw1; clear hw1)
          have hK1 : Keep NoF w w1 := by rw [HW1.out]; exact (Keep.refl _ w).alloc _
          have hsz1 : w1.heap.size = w.heap.size + 1 := by rw [HW1.out]; simp
          have hcells : ∀ k f, F[k]? = some f → w1.cell? ⟨w.heap.size, k, none⟩ = some (.string f) := fun k f hf => by
            rw [HW1.out, (Bk.new w 9 (F.map Value.string).toArray).cell k]
            simp [hf]
          have HCE := Lib.hid hcells
          have HT1 := Lib.hid (hT.keep0 hK1)
          clear hcells HC hlit e0 e1
          go_loopw [4, 38] (fun v i wr => ∃ (k : Nat) (pre : List Nat), i = .int .i64 k ∧ k ≤ F.length ∧ Hid (pre.length = k) ∧ wr.ownsRow (w.heap.size + 1) 3 1 v k (pre.map inV) ∧ Keep NoF w1 wr ∧ Hid (nums (F.map (·.data.toList)) = (nums ((F.drop k).map (·.data.toList))).map (pre ++ ·))) (fun _ i _ => F.length - (intOf i).toNat)
          case atStart => exact ⟨0, [], rfl, by omega, Lib.hid rfl, World.ownsRow_nil _ _ _ _, Keep.refl _ _, Lib.hid (by rw [List.drop_zero]; cases nums (F.map (·.data.toList)) <;> rfl)⟩
          case round =>
            obtain ⟨k, pre, rfl, hk, hpl, hown, hkr, ho⟩ := hrel
            have hzz := hkr.size
            by_cases hlt : k < F.length
            · have hf : F[k]? = some F[k] := List.getElem?_eq_getElem hlt
              have hc : wr.cell? ⟨w.heap.size, k, none⟩ = some (.string F[k]) := hkr.cellv (HCE.out k _ hf) fun h => h
              have HNB := Lib.hid (number_any F[k] wr (HFS.out _ (List.getElem_mem hlt)))
              have ho1 := ho.out
              rw [List.drop_eq_getElem_cons hlt, List.map_cons, nums_cons] at ho1
              obtain ⟨A, c, rfl⟩ := own_form hown
              clear ho hf
              generalize F[k] = f at *
              cases hn : numF f.data.toList with
              | none =>
                rw [hn] at ho1
                rw [show numR f.data.toList = (0, false) by unfold numR; rw [hn]] at HNB
                have HPr : Hid (P = (0, 4)) := Lib.hid (by rw [HP.out, ho1]; rfl)
                clear ho1 hn
                go_wp2_with (go_at_call 145; (with_reducible refine HNB.out.mono ?_); rintro e w2 ⟨rfl, hk2⟩)
                refine bodyPost_ret (v := .tuple #[.int .u64 0, .int .i64 4]) (by simp [results, Tryz.results131, go_sem]) rfl ?_
                exact ⟨by rw [HPr.out] <;> rfl, (hK1.trans hkr fun _ _ h => h).trans hk2 fun _ _ h => h⟩
              | some n =>
                rw [hn] at ho1
                rw [show numR f.data.toList = (n, true) by unfold numR; rw [hn]] at HNB
                have HO2 : Hid (nums (F.map (·.data.toList)) = (nums ((F.drop (k + 1)).map (·.data.toList))).map (pre ++ [n] ++ ·)) := Lib.hid (by
                  rw [ho1]
                  show ((nums ((F.drop (k + 1)).map (·.data.toList))).map (n :: ·)).map (pre ++ ·) = _
                  cases nums ((F.drop (k + 1)).map (·.data.toList)) <;> simp)
                clear ho1 hn
                go_wp2_with (first
                  | (go_at_call 145
                     (with_reducible refine HNB.out.mono ?_)
                     rintro e w2 ⟨rfl, hk2⟩
                     have hown2 := own_keep hown (fun kk hv => hk2.block kk (hown.lt kk hv).2 fun h => h)
                     have hz2 := hk2.size)
                  | (at_builtin
                     refine wpList_app (by rfl) eInts (.tmp 49) (.tmp 51) (by rfl) (by rfl) (hown2.alloc _) ⟨w2.heap.size, 0, none⟩ 1 1 [.int .i64 n] (by rfl) (by rfl)
                       (World.news_of_block (cs := #[.int .i64 n]) (t := 3) (fr := (0, 0)) (heap_alloc_new w2 _)) (by simp [Value.oneCell']) (by omega) (by omega) (by omega) (by simp; omega) ?_
                     intro g4 cap4 w4 hown6 hA4))
                go_roundw
                case rel =>
                  refine ⟨k + 1, pre ++ [n], by go_num, by omega, Lib.hid (by rw [List.length_append, hpl.out]; rfl), ?_, ?_, HO2⟩
                  · simpa [inV] using hown6
                  · exact (((hkr.trans hk2 fun _ _ h => h).alloc _).grown hA4.grown fun x hx => .inr (by have := (hown2.lt x hx).1; omega))
                case measure => simp only [intOf]; omega
            · obtain rfl : k = F.length := by omega
              have HPr : Hid (P = chk pre 0 (-1)) := Lib.hid (by
                rw [HP.out, ho.out, List.drop_length]
                show (match some (pre ++ []) with | none => (0, 4) | some l => chk l 0 (-1)) = _
                rw [List.append_nil])
              obtain ⟨A, c, rfl⟩ := own_form hown
              have hrd := Rd.of_own hown
              rw [inV_zV] at hrd
              have hpll := own_len hown
              have hKr : Keep NoF w wr := hK1.trans hkr fun _ _ h => h
              clear ho HP hown hkr HCE HFS HT1 hlt
              have HLx : Hid (∀ k, k < F.length → ∃ x : Nat, pre[k]? = some x) := Lib.hid fun k hk => ⟨_, List.getElem?_eq_getElem (by rw [hpl.out]; omega)⟩
              have HRD : Hid (∀ (k x : Nat), pre[k]? = some x → ∃ bl off, A = some ⟨bl, off, none⟩ ∧ wr.cell? ⟨bl, off + k, none⟩ = some (.int .i64 x)) := Lib.hid fun k x hx => by
                have hrd2 : Rd wr (.slice A pre.length c) 1 pre.length (List.map zV (pre.map Int.ofNat)) := by rw [hpl.out]; exact hrd
                obtain ⟨-, bl, off, e, hc⟩ := Rd.int (l := pre.map Int.ofNat) (k := k) (x := (x : Nat)) (by simpa using hrd2) (by simp [hx])
                exact ⟨bl, off, e, hc⟩
              have HLe : Hid (pre.length = F.length) := hpl
              generalize F.length = L at *
              clear hpl
              go_wp2
              go_loopw [9, 10, 56] (fun v u i wq => ∃ (k s : Nat) (last : Int), i = .int .i64 k ∧ v = .int .u64 s ∧ u = .int .i64 last ∧ s < 18446744073709551616 ∧ k ≤ L ∧ Hid (P = chk (pre.drop k) s last) ∧ wq = wr) (fun _ _ i _ => L - (intOf i).toNat)
              case atStart => exact ⟨0, 0, -1, rfl, rfl, rfl, by omega, by omega, HPr, rfl⟩
              case round =>
                obtain ⟨k, s, last, rfl, rfl, rfl, hs, hkL, ho, hw⟩ := hrel
                obtain rfl := hw.symm; clear hw
                by_cases hlt : k < L
                · obtain ⟨x, hx⟩ := HLx.out k hlt
                  obtain ⟨bl, off, rfl, hc⟩ := HRD.out k x hx
                  have ho1 := ho.out
                  rw [ndrop_at hx, chk_cons] at ho1
                  clear ho hx
                  by_cases h63 : 63 < x
                  · rw [if_pos h63] at ho1
                    have HO := Lib.hid ho1
                    clear ho1 HPr
                    go_wp2
                    refine bodyPost_ret (v := .tuple #[.int .u64 0, .int .i64 2]) (by simp [results, Tryz.results131, go_sem]) rfl ?_
                    exact ⟨by rw [HO.out] <;> rfl, hKr⟩
                  · rw [if_neg h63] at ho1
                    by_cases hxl : (x : Int) ≤ last
                    · rw [if_pos hxl] at ho1
                      have HO := Lib.hid ho1
                      clear ho1 HPr
                      go_wp2
                      refine bodyPost_ret (v := .tuple #[.int .u64 0, .int .i64 9]) (by simp [results, Tryz.results131, go_sem]) rfl ?_
                      exact ⟨by rw [HO.out] <;> rfl, hKr⟩
                    · rw [if_neg hxl] at ho1
                      have HO := Lib.hid ho1
                      have HV := Lib.hid (or_shl hs (show x < 64 by omega))
                      clear ho1 HPr
                      go_wp2
                      go_roundw
                      case rel => exact ⟨k + 1, s ||| 2 ^ x, x, by go_num, congrArg (Value.int .u64) HV.out, rfl, or_lt64 hs (pow_lt64 (by omega)), by omega, HO, by trivial⟩
                      case measure => simp only [intOf]; omega
                · obtain rfl : k = L := by omega
                  have HO : Hid (P = (s, 0)) := Lib.hid (by rw [ho.out, List.drop_eq_nil_of_le (by rw [HLe.out]; omega)]; rfl)
                  clear ho HPr
                  go_wp2
                  refine bodyPost_ret (v := .tuple #[.int .u64 s, .int .i64 0]) (by simp [results, Tryz.results131, go_sem]) rfl ?_
                  exact ⟨by rw [HO.out] <;> rfl, hKr⟩
      · rw [parse_none _ (.inr (.inr (by rw [hl]; exact h1)))]
        have e0 : t[0].toNat = 123 := by rw [h0]; rfl
        have e1 : ((t[t.size - 1].toNat : Int) != 125) = true := by
          have : t[t.size - 1].toNat ≠ 125 := fun e => h1 (UInt8.toNat_inj.1 e)
          simp
          omega
        clear hh hl h0 h1
        go_enter Tryz.func131, Tryz.ntmps131
        go_wp2
        refine bodyPost_ret (v := .tuple #[.int .u64 0, .int .i64 4]) (by simp [results, Tryz.results131, go_sem]) rfl ?_
        exact ⟨rfl, Keep.refl _ _⟩
    · rw [parse_none _ (.inr (.inl (by rw [hh]; exact h0)))]
      have e0 : ((t[0].toNat : Int) != 123) = true := by
        have : t[0].toNat ≠ 123 := fun e => h0 (UInt8.toNat_inj.1 e)
        simp
        omega
      clear hh hl h0
      go_enter Tryz.func131, Tryz.ntmps131
      go_wp2
      refine bodyPost_ret (v := .tuple #[.int .u64 0, .int .i64 4]) (by simp [results, Tryz.results131, go_sem]) rfl ?_
      exact ⟨rfl, Keep.refl _ _⟩
end
end Go.Proofs.YtmnhgeggojgflaaGreatDoor.Ws
