/- The text of a set: how the reference reads a number. The text of a set: how the reference reads the numbers. No condition. -/
import Derived.Test.YtmnhgeggojgflaaGreatDoorWtY
import Derived.RangeFuncBox
set_option linter.unusedVariables false
set_option linter.unusedSimpArgs false
namespace Go.Proofs.YtmnhgeggojgflaaGreatDoor.Ws
open Go.RowKit

theorem data_len (t : ByteArray) : t.data.toList.length = t.size := by rw [Array.length_toList]; rfl
theorem byte_at (t : ByteArray) (i : Nat) (h : i < t.size) : ∃ b : UInt8, t[i] = b ∧ t.data.toList.drop i = b :: t.data.toList.drop (i + 1) := by
  refine ⟨t[i], rfl, ?_⟩
  have hl : i < t.data.toList.length := by rw [data_len]; exact h
  rw [List.drop_eq_getElem_cons hl]
  rfl
theorem isD_iff (b : UInt8) : isD b = true ↔ 48 ≤ b.toNat ∧ b.toNat ≤ 57 := by
  unfold isD
  simp

section
set_option maxRecDepth 100000
set_option maxHeartbeats 1000000
theorem rnumber_any (t : ByteArray) (a : Nat) (w : World) (ht : t.size ≤ 9223372036854775806) (ha : a ≤ t.size) (R : Nat × Nat) (hR : Hid (R = match numL (t.data.toList.drop a) 0 0 with | none => (a, 0) | some (k, v) => (a + k, v))) :
    Calls Tryz.prog 156 #[.string t, .int .i64 a] w fun e w' => e = .returned (.tuple #[.int .i64 R.1, .int .i64 R.2]) ∧ w' = w := by
  go_enter Tryz.func156, Tryz.ntmps156
  go_wp2
  go_loopw [6, 7] (fun i v wr => ∃ x n : Nat, i = .int .i64 x ∧ v = .int .i64 n ∧ a ≤ x ∧ x - a ≤ 9 ∧ x ≤ t.size ∧ Hid (n + 1 ≤ 10 ^ (x - a)) ∧ Hid (R = match numL (t.data.toList.drop x) (x - a) n with | none => (a, 0) | some (k, v) => (a + k, v)) ∧ wr = w) (fun i _ _ => t.size - (intOf i).toNat)
  case atStart => exact ⟨a, 0, rfl, rfl, by omega, by omega, by omega, Lib.hid (by simp), by rw [Nat.sub_self]; exact hR, rfl⟩
  case round =>
    obtain ⟨x, n, rfl, rfl, hax, hk, hxs, HN, ho, hw⟩ := hrel
    obtain rfl := hw.symm; clear hw hR
    by_cases hlt : x < t.size
    · obtain ⟨b, hb, hd⟩ := byte_at t x hlt
      have hb2 : t[x].toNat = b.toNat := by rw [hb]
      have hD := isD_iff b
      have ho1 := ho.out
      rw [hd] at ho1
      unfold numL at ho1
      clear ho hd hb
      by_cases hdig : 48 ≤ b.toNat ∧ b.toNat ≤ 57
      · rw [hD.2 hdig, if_pos rfl] at ho1
        obtain ⟨h1, h2⟩ := hdig
        clear hD
        generalize b.toNat = c at *
        by_cases h9 : x - a = 9
        · rw [if_pos (.inl h9)] at ho1
          have HO := Lib.hid ho1
          have e9 : ((x : Int) - a == 9) = true := by simp; omega
          have e9' : (x : Int) - a = 9 := by omega
          clear ho1 h9
          go_wp2
          refine bodyPost_ret (v := .tuple #[.int .i64 a, .int .i64 0]) (by simp [results, Tryz.results156, go_sem]) rfl ?_
          exact ⟨by rw [HO.out] <;> rfl, rfl⟩
        · have e9 : ((x : Int) - a == 9) = false := by simp; omega
          have e9' : ¬ ((x : Int) - a = 9) := by omega
          by_cases hz : 0 < x - a ∧ n = 0
          · rw [if_pos (.inr hz)] at ho1
            have HO := Lib.hid ho1
            obtain ⟨hz1, rfl⟩ := hz
            clear ho1 h9
            go_wp2
            refine bodyPost_ret (v := .tuple #[.int .i64 a, .int .i64 0]) (by simp [results, Tryz.results156, go_sem]) rfl ?_
            exact ⟨by rw [HO.out] <;> rfl, rfl⟩
          · rw [if_neg (by omega)] at ho1
            have HO := Lib.hid ho1
            have hn8 : n ≤ 99999999 := by
              have h10 : 10 ^ (x - a) ≤ 10 ^ 8 := Nat.pow_le_pow_right (by omega) (by omega)
              have := HN.out
              omega
            have HN2 : Hid (n * 10 + (c - 48) + 1 ≤ 10 ^ (x + 1 - a)) := Lib.hid (by
              have := HN.out
              rw [show x + 1 - a = (x - a) + 1 by omega, Nat.pow_succ]
              omega)
            have HO2 : Hid (R = match numL (t.data.toList.drop (x + 1)) (x + 1 - a) (n * 10 + (c - 48)) with | none => (a, 0) | some (k, v) => (a + k, v)) := Lib.hid (by rw [show x + 1 - a = x - a + 1 by omega]; exact HO.out)
            by_cases hxa : x = a
            · subst hxa
              clear ho1 HO HN h9 hz e9' hax hk
              have e9 : ((x : Int) - x == 9) = false := by simp
              go_wp2
              go_roundw
              case rel => exact ⟨x + 1, n * 10 + (c - 48), by go_num, by go_num, by omega, by omega, by omega, HN2, HO2, by trivial⟩
              case measure => simp only [intOf]; omega
            · have hz3 : ((n : Int) == 0) = false := by simp; omega
              have hax2 : a < x := by omega
              clear ho1 HO HN h9 hz hxa
              go_wp2
              go_roundw
              case rel => exact ⟨x + 1, n * 10 + (c - 48), by go_num, by go_num, by omega, by omega, by omega, HN2, HO2, by trivial⟩
              case measure => simp only [intOf]; omega
      · have hf : isD b = false := by
          cases h : isD b
          · rfl
          · exact absurd (hD.1 h) hdig
        rw [hf] at ho1
        have HO : Hid (R = (x, n)) := Lib.hid (by rw [ho1]; simp; omega)
        clear ho1 hD hf HN
        generalize b.toNat = c at *
        have hcc : c < 48 ∨ 57 < c := by omega
        clear hdig
        rcases hcc with hcc | hcc
        · go_wp2
          refine bodyPost_ret (v := .tuple #[.int .i64 x, .int .i64 n]) (by simp [results, Tryz.results156, go_sem]) rfl ?_
          exact ⟨by rw [HO.out] <;> rfl, rfl⟩
        · go_wp2
          refine bodyPost_ret (v := .tuple #[.int .i64 x, .int .i64 n]) (by simp [results, Tryz.results156, go_sem]) rfl ?_
          exact ⟨by rw [HO.out] <;> rfl, rfl⟩
    · obtain rfl : x = t.size := by omega
      have HO : Hid (R = (t.size, n)) := Lib.hid (by
        have := ho.out
        rw [List.drop_eq_nil_of_le (by rw [data_len]; exact Nat.le_refl _)] at this
        unfold numL at this
        rw [this]
        simp
        omega)
      clear ho HN
      go_wp2
      refine bodyPost_ret (v := .tuple #[.int .i64 t.size, .int .i64 n]) (by simp [results, Tryz.results156, go_sem]) rfl ?_
      exact ⟨by rw [HO.out] <;> rfl, rfl⟩
end
end Go.Proofs.YtmnhgeggojgflaaGreatDoor.Ws
namespace Go.Proofs.YtmnhgeggojgflaaGreatDoor.Ws
open Go.RowKit

theorem headD_at (t : ByteArray) (h : 0 < t.size) : t.data.toList.headD 0 = t[0] := by
  obtain ⟨b, hb, hd⟩ := byte_at t 0 h
  rw [List.drop_zero] at hd
  rw [hd, hb]
  rfl
theorem lastD_at (t : ByteArray) (h : 0 < t.size) : t.data.toList.getLastD 0 = t[t.size - 1] := by
  rw [List.getLastD_eq_getLast?, List.getLast?_eq_getElem?, List.getElem?_eq_getElem (by rw [data_len]; omega)]
  simp only [Option.getD_some, data_len]
  rfl
theorem mid_eq (l : List UInt8) (h2 : 2 ≤ l.length) (h0 : l.headD 0 = 123) (h1 : l.getLastD 0 = 125) : l = 123 :: (midL l ++ [125]) := by
  cases l with
  | nil => simp at h2
  | cons c r =>
    rw [List.headD_cons] at h0
    subst h0
    rcases List.eq_nil_or_concat r with rfl | ⟨q, b, rfl⟩
    · simp at h2
    · rw [List.concat_eq_append] at *
      have hb : b = 125 := by
        rw [List.getLastD_eq_getLast?, ← List.cons_append, List.getLast?_concat] at h1
        simpa using h1
      subst hb
      simp [midL]
theorem mid_drop {l : List UInt8} (h : l = 123 :: (midL l ++ [125])) (x : Nat) (hx : 1 ≤ x) (hx2 : x + 1 ≤ l.length) : l.drop x = (midL l).drop (x - 1) ++ [125] := by
  have hl := congrArg List.length h
  simp only [List.length_cons, List.length_append, List.length_nil] at hl
  obtain ⟨y, rfl⟩ : ∃ y, x = y + 1 := ⟨x - 1, by omega⟩
  conv => lhs; rw [h]
  rw [List.drop_succ_cons, List.drop_append_of_le_length (by omega)]
  rfl
def numbersS (t : List UInt8) : Option (List Nat) := if t.length < 2 ∨ t.headD 0 ≠ 123 ∨ t.getLastD 0 ≠ 125 then none else restF true (midL t)
theorem parseS_eq (t : List UInt8) : parseS t = match numbersS t with | none => (0, 4) | some l => chk l 0 (-1) := by
  unfold parseS numbersS
  by_cases h : t.length < 2 ∨ t.headD 0 ≠ 123 ∨ t.getLastD 0 ≠ 125
  · rw [if_pos h, if_pos h]
  · rw [if_neg h, if_neg h]
    cases hm : midL t with
    | nil => rfl
    | cons c r => rw [if_neg (by simp)]; rfl

/-- What is left. -/
def NPost (w : World) (r : Option (List Nat)) (e : Ending) (w' : World) : Prop :=
  ∃ v b, e = .returned (.tuple #[v, .bool b]) ∧ Keep NoF w w' ∧ match r with | none => b = false ∧ v = .slice none 0 0 | some l => b = true ∧ w'.ownsRow w.heap.size 3 1 v l.length (l.map inV)

section
set_option maxRecDepth 100000
set_option maxHeartbeats 1000000
theorem rnumbers_any (t : ByteArray) (w : World) (ht : t.size ≤ 100000) : Calls Tryz.prog 146 #[.string t] w (NPost w (numbersS t.data.toList)) := by
  have hdl := data_len t
  by_cases h2 : t.size < 2
  · rw [show numbersS t.data.toList = none from if_pos (.inl (by omega))]
    go_enter Tryz.func146, Tryz.ntmps146
    go_wp2
    refine bodyPost_ret (v := .tuple #[.slice none 0 0, .bool false]) (by simp [results, Tryz.results146, go_sem]) rfl ?_
    exact ⟨_, _, rfl, Keep.refl _ _, rfl, rfl⟩
  · have hs0 : 0 < t.size := by omega
    have hh := headD_at t hs0
    have hl := lastD_at t hs0
    by_cases h0 : t[0] = 123
    · by_cases h1 : t[t.size - 1] = 125
      · have HM := mid_eq t.data.toList (by omega) (by rw [hh, h0]) (by rw [hl, h1])
        have hml : (midL t.data.toList).length + 2 = t.size := by
          have := congrArg List.length HM
          simp only [List.length_cons, List.length_append, List.length_nil] at this
          omega
        have HD : Hid (∀ x, 1 ≤ x → x + 1 ≤ t.size → t.data.toList.drop x = (midL t.data.toList).drop (x - 1) ++ [125]) := Lib.hid fun x hx hx2 => mid_drop HM x hx (by omega)
        have HR : Hid (numbersS t.data.toList = restF true (midL t.data.toList)) := Lib.hid (if_neg (by rw [hh, hl, h0, h1]; simp; omega))
        generalize numbersS t.data.toList = r at *
        generalize midL t.data.toList = mid at *
        have e0 : t[0].toNat = 123 := by rw [h0]; rfl
        have e1 : t[t.size - 1].toNat = 125 := by rw [h1]; rfl
        clear h0 h1 hh hl HM
        go_enter Tryz.func146, Tryz.ntmps146
        go_wp2
        go_loopw [4, 5] (fun v i wr => ∃ (x : Nat) (pre : List Nat), i = .int .i64 x ∧ 1 ≤ x ∧ x + 1 ≤ t.size ∧ pre.length + 1 ≤ x ∧ wr.ownsRow w.heap.size 3 1 v pre.length (pre.map inV) ∧ Keep NoF w wr ∧ Hid (r = (restF pre.isEmpty (mid.drop (x - 1))).map (pre ++ ·))) (fun _ i _ => t.size - (intOf i).toNat)
        case atStart => exact ⟨1, [], rfl, by omega, by omega, by simp, World.ownsRow_nil _ _ _ _, Keep.refl _ _, Lib.hid (by rw [HR.out]; show _ = (restF true (mid.drop 0)).map _; rw [List.drop_zero]; cases restF true mid <;> rfl)⟩
        case round =>
          obtain ⟨x, pre, rfl, hx1, hx2, hpl, hown, hkr, ho⟩ := hrel
          clear HR
          have hzz := hkr.size
          by_cases hlt : x + 1 < t.size
          · obtain ⟨b, hb, hd⟩ := byte_at t x (by omega)
            have hrest : mid.drop (x - 1) = b :: mid.drop x := by
              have h1 := HD.out x hx1 (by omega)
              have h2 := HD.out (x + 1) (by omega) (by omega)
              rw [hd, h2, Nat.add_sub_cancel, ← List.cons_append] at h1
              exact (List.append_cancel_right h1).symm
            cases pre with
            | nil =>
              have HO : Hid (r = (nums (flds (mid.drop (x - 1)))).map ([] ++ ·)) := Lib.hid (by rw [ho.out, hrest]; rfl)
              obtain ⟨A, c, rfl⟩ := own_form hown
              clear ho hrest hd hb
              rcases read_step (mid.drop (x - 1)) with ⟨k, v, hk, hk0, hkl, hnum⟩ | ⟨hk, hnum⟩
              · have hdl2 := congrArg List.length (HD.out (x) (by omega) (by omega))
                rw [List.length_drop, List.length_append, data_len, List.length_singleton] at hdl2
                have HC : Hid (Calls Tryz.prog 156 #[.string t, .int .i64 (x : Int)] wr fun e w' => e = .returned (.tuple #[.int .i64 ((x + k : Nat) : Int), .int .i64 v]) ∧ w' = wr) := Lib.hid (by
                  have := rnumber_any t (x) wr (by omega) (by omega) (x + k, v) (Lib.hid (by rw [HD.out (x) (by omega) (by omega), hk]))
                  simpa using this)
                have HO2 : Hid (r = (restF false (mid.drop (x + k - 1))).map (([] : List Nat) ++ [v] ++ ·)) := Lib.hid (by
                  rw [HO.out, hnum, List.drop_drop, show x - 1 + k = x + k - 1 by omega]
                  cases restF false (mid.drop (x + k - 1)) <;> simp)
                obtain ⟨z, hz⟩ : ∃ z, z = x + k := ⟨_, rfl⟩
                rw [← hz] at HC HO2
                have hz1 : x < z := by omega
                have hz2 : z + 1 ≤ t.size := by omega
                have hz3 : (((z : Nat) : Int) == (x : Int)) = false := by simp; omega
                clear hk hnum HO hz hkl hdl2
                go_wp2_with (first
                  | (go_at_call 156; (with_reducible refine HC.out.mono ?_); rintro e w' ⟨rfl, hw'⟩; obtain rfl := hw'.symm)
                  | (at_builtin
                     refine wpList_app (by rfl) eInts (.tmp 54) (.tmp 56) (by rfl) (by rfl) (hown.alloc _) ⟨wr.heap.size, 0, none⟩ 1 1 [.int .i64 v] (by rfl) (by rfl)
                       (World.news_of_block (cs := #[.int .i64 v]) (t := 3) (fr := (0, 0)) (heap_alloc_new wr _)) (by simp [Value.oneCell']) (by omega) (by first | (simp; done) | (simp; omega) | omega) (by first | (simp; done) | (simp; omega) | omega) (by simp; omega) ?_
                     intro g4 cap4 w4 hown6 hA4))
                go_roundw
                case rel =>
                  refine ⟨z, ([] : List Nat) ++ [v], rfl, by omega, hz2, by simp only [List.length_append, List.length_cons, List.length_nil] at hpl ⊢; omega, ?_, ?_, ?_⟩
                  · simpa [inV] using hown6
                  · exact (hkr.alloc _).grown hA4.grown fun x hx => .inr (hown.lt x hx).1
                  · refine Lib.hid ?_
                    rw [HO2.out]
                    simp
                case measure => simp only [intOf]; omega
              · have HC : Hid (∃ v : Nat, Calls Tryz.prog 156 #[.string t, .int .i64 (x : Int)] wr fun e w' => e = .returned (.tuple #[.int .i64 (x : Int), .int .i64 v]) ∧ w' = wr) := Lib.hid (by
                  rcases hk with hk | ⟨v, hk⟩
                  · have := rnumber_any t (x) wr (by omega) (by omega) (x, 0) (Lib.hid (by rw [HD.out (x) (by omega) (by omega), hk]))
                    exact ⟨0, by simpa using this⟩
                  · have := rnumber_any t (x) wr (by omega) (by omega) (x, v) (Lib.hid (by rw [HD.out (x) (by omega) (by omega), hk] <;> rfl))
                    exact ⟨v, by simpa using this⟩)
                obtain ⟨v, HC⟩ := HC.out
                have HCC := Lib.hid HC
                have HO2 : Hid (r = none) := Lib.hid (by rw [HO.out, hnum]; rfl)
                clear hk hnum HO HC
                go_wp2_with (go_at_call 156; (with_reducible refine HCC.out.mono ?_); rintro e w' ⟨rfl, hw'⟩; obtain rfl := hw'.symm)
                refine bodyPost_ret (v := .tuple #[.slice none 0 0, .bool false]) (by simp [results, Tryz.results146, go_sem]) rfl ?_
                rw [HO2.out]
                exact ⟨_, _, rfl, hkr, rfl, rfl⟩
            | cons m pre =>
              obtain ⟨g, c, rfl⟩ := ownsRow_succ (k := pre.length) (by simpa using hown)
              have hpos : (0 : Int) < (pre.length : Int) + 1 := by omega
              by_cases h32 : b = 32
              · have e32 : t[x].toNat = 32 := by rw [hb, h32]; rfl
                have HO : Hid (r = (nums (flds (mid.drop x))).map ((m :: pre) ++ ·)) := Lib.hid (by rw [ho.out, hrest, h32]; rfl)
                clear ho hrest hd hb
                rw [show mid.drop x = mid.drop (x + 1 - 1) from rfl] at HO
                rcases read_step (mid.drop (x + 1 - 1)) with ⟨k, v, hk, hk0, hkl, hnum⟩ | ⟨hk, hnum⟩
                · have hdl2 := congrArg List.length (HD.out (x + 1) (by omega) (by omega))
                  rw [List.length_drop, List.length_append, data_len, List.length_singleton] at hdl2
                  have HC : Hid (Calls Tryz.prog 156 #[.string t, .int .i64 ((x : Int) + 1)] wr fun e w' => e = .returned (.tuple #[.int .i64 ((x + 1 + k : Nat) : Int), .int .i64 v]) ∧ w' = wr) := Lib.hid (by
                    have := rnumber_any t (x + 1) wr (by omega) (by omega) (x + 1 + k, v) (Lib.hid (by rw [HD.out (x + 1) (by omega) (by omega), hk]))
                    simpa using this)
                  have HO2 : Hid (r = (restF false (mid.drop (x + 1 + k - 1))).map ((m :: pre) ++ [v] ++ ·)) := Lib.hid (by
                    rw [HO.out, hnum, List.drop_drop, show x + 1 - 1 + k = x + 1 + k - 1 by omega]
                    cases restF false (mid.drop (x + 1 + k - 1)) <;> simp)
                  obtain ⟨z, hz⟩ : ∃ z, z = x + 1 + k := ⟨_, rfl⟩
                  rw [← hz] at HC HO2
                  have hz1 : x + 1 < z := by omega
                  have hz2 : z + 1 ≤ t.size := by omega
                  have hz3 : (((z : Nat) : Int) == ((x : Int) + 1)) = false := by simp; omega
                  clear hk hnum HO hz hkl hdl2
                  go_wp2_with (first
                    | (go_at_call 156; (with_reducible refine HC.out.mono ?_); rintro e w' ⟨rfl, hw'⟩; obtain rfl := hw'.symm)
                    | (at_builtin
                       refine wpList_app (by rfl) eInts (.tmp 54) (.tmp 56) (by rfl) (by rfl) (hown.alloc _) ⟨wr.heap.size, 0, none⟩ 1 1 [.int .i64 v] (by rfl) (by rfl)
                         (World.news_of_block (cs := #[.int .i64 v]) (t := 3) (fr := (0, 0)) (heap_alloc_new wr _)) (by simp [Value.oneCell']) (by omega) (by first | (simp; done) | (simp; omega) | omega) (by first | (simp; done) | (simp; omega) | omega) (by simp; omega) ?_
                       intro g4 cap4 w4 hown6 hA4))
                  go_roundw
                  case rel =>
                    refine ⟨z, (m :: pre) ++ [v], rfl, by omega, hz2, by simp only [List.length_append, List.length_cons, List.length_nil] at hpl ⊢; omega, ?_, ?_, ?_⟩
                    · simpa [inV] using hown6
                    · exact (hkr.alloc _).grown hA4.grown fun x hx => .inr (hown.lt x hx).1
                    · refine Lib.hid ?_
                      rw [HO2.out]
                      simp
                  case measure => simp only [intOf]; omega
                · have HC : Hid (∃ v : Nat, Calls Tryz.prog 156 #[.string t, .int .i64 ((x : Int) + 1)] wr fun e w' => e = .returned (.tuple #[.int .i64 ((x : Int) + 1), .int .i64 v]) ∧ w' = wr) := Lib.hid (by
                    rcases hk with hk | ⟨v, hk⟩
                    · have := rnumber_any t (x + 1) wr (by omega) (by omega) (x + 1, 0) (Lib.hid (by rw [HD.out (x + 1) (by omega) (by omega), hk]))
                      exact ⟨0, by simpa using this⟩
                    · have := rnumber_any t (x + 1) wr (by omega) (by omega) (x + 1, v) (Lib.hid (by rw [HD.out (x + 1) (by omega) (by omega), hk] <;> rfl))
                      exact ⟨v, by simpa using this⟩)
                  obtain ⟨v, HC⟩ := HC.out
                  have HCC := Lib.hid HC
                  have HO2 : Hid (r = none) := Lib.hid (by rw [HO.out, hnum]; rfl)
                  clear hk hnum HO HC
                  go_wp2_with (go_at_call 156; (with_reducible refine HCC.out.mono ?_); rintro e w' ⟨rfl, hw'⟩; obtain rfl := hw'.symm)
                  refine bodyPost_ret (v := .tuple #[.slice none 0 0, .bool false]) (by simp [results, Tryz.results146, go_sem]) rfl ?_
                  rw [HO2.out]
                  exact ⟨_, _, rfl, hkr, rfl, rfl⟩
              · have e32 : ((t[x].toNat : Int) != 32) = true := by
                  have : t[x].toNat ≠ 32 := fun e => h32 (UInt8.toNat_inj.1 (by rw [← hb]; exact e))
                  simp
                  omega
                have HO2 : Hid (r = none) := Lib.hid (by
                  rw [ho.out, hrest]
                  simp [restF, h32])
                clear ho hrest hd hb h32
                go_wp2
                refine bodyPost_ret (v := .tuple #[.slice none 0 0, .bool false]) (by simp [results, Tryz.results146, go_sem]) rfl ?_
                rw [HO2.out]
                exact ⟨_, _, rfl, hkr, rfl, rfl⟩
          · have HO2 : Hid (r = some pre) := Lib.hid (by
              rw [ho.out, List.drop_eq_nil_of_le (by omega)]
              simp [restF])
            have hxe : (x : Int) = t.size - 1 := by omega
            have hnl : ¬ ((x : Int) < t.size - 1) := by omega
            obtain ⟨A, c, rfl⟩ := own_form hown
            clear ho
            go_wp2
            refine bodyPost_ret (v := .tuple #[.slice A pre.length c, .bool true]) (by simp [results, Tryz.results146, go_sem]) rfl ?_
            rw [HO2.out]
            exact ⟨_, _, rfl, hkr, rfl, hown⟩
      · rw [show numbersS t.data.toList = none from if_pos (.inr (.inr (by rw [hl]; exact h1)))]
        have e0 : t[0].toNat = 123 := by rw [h0]; rfl
        have e1 : ((t[t.size - 1].toNat : Int) != 125) = true := by
          have : t[t.size - 1].toNat ≠ 125 := fun e => h1 (UInt8.toNat_inj.1 e)
          simp
          omega
        clear hh hl h0 h1
        go_enter Tryz.func146, Tryz.ntmps146
        go_wp2
        refine bodyPost_ret (v := .tuple #[.slice none 0 0, .bool false]) (by simp [results, Tryz.results146, go_sem]) rfl ?_
        exact ⟨_, _, rfl, Keep.refl _ _, rfl, rfl⟩
    · rw [show numbersS t.data.toList = none from if_pos (.inr (.inl (by rw [hh]; exact h0)))]
      have e0 : ((t[0].toNat : Int) != 123) = true := by
        have : t[0].toNat ≠ 123 := fun e => h0 (UInt8.toNat_inj.1 e)
        simp
        omega
      clear hh hl h0
      go_enter Tryz.func146, Tryz.ntmps146
      go_wp2
      refine bodyPost_ret (v := .tuple #[.slice none 0 0, .bool false]) (by simp [results, Tryz.results146, go_sem]) rfl ?_
      exact ⟨_, _, rfl, Keep.refl _ _, rfl, rfl⟩
end
end Go.Proofs.YtmnhgeggojgflaaGreatDoor.Ws
