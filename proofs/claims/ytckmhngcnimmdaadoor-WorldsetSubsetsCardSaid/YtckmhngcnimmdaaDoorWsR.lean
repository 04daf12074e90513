/- Sets of worlds as numbers: what the reference's Rename and Subset do. No condition. -/
import Derived.Test.YtckmhngcnimmdaaDoorWsN
set_option linter.unusedVariables false
set_option linter.unusedSimpArgs false
namespace Go.Proofs.YtckmhngcnimmdaaDoor
open Go.RowKit

/-- Renaming, from a set on. -/
def renL (tt : List Int) (s : Nat) : List Nat → Nat × Int
  | [] => (s, 0)
  | x :: l => if tt.length ≤ x then (0, 6) else if tt.getD x 0 < 0 ∨ 63 < tt.getD x 0 then (0, 2) else renL tt (s ||| 2 ^ (tt.getD x 0).toNat) l
/-- A subset by its number, from a set on. -/
def subL (s i : Nat) : List Nat → Nat × Bool
  | [] => if 0 < i then (0, false) else (s, true)
  | x :: l => subL (if i % 2 = 1 then s ||| 2 ^ x else s) (i / 2) l
def subS (s : Nat) (i : Int) : Nat × Bool := if i < 0 then (0, false) else subL 0 i.toNat (mem s)

theorem ndrop_at {l : List Nat} {k : Nat} {x : Nat} (h : l[k]? = some x) : l.drop k = x :: l.drop (k + 1) := by
  obtain ⟨hlt, e⟩ := List.getElem?_eq_some_iff.1 h
  rw [List.drop_eq_getElem_cons hlt, e]

section
set_option maxRecDepth 100000
set_option maxHeartbeats 1000000
theorem rRename_any (s : Nat) (tt : List Int) (A : Option Addr) (c : Nat) (w : World) (hs : s < 18446744073709551616) (hl : tt.length ≤ 9223372036854775807) (hrd : Rd w (.slice A tt.length c) 1 tt.length (tt.map zV)) :
    Calls Tryd.prog 26 #[.int .u64 s, .slice A tt.length c] w fun e w' => e = .returned (.tuple #[.int .u64 (renL tt 0 (mem s)).1, .int .i64 (renL tt 0 (mem s)).2]) ∧ Keep NoF w w' := by
  have HM := Lib.hid (rMembers_any s hs w)
  have hml := mem_len s
  have hmm : ∀ k x, (mem s)[k]? = some x → x < 64 := fun k x h => (mem_lt (List.mem_of_getElem? h)).1
  have HMM := Lib.hid hmm
  clear hmm
  generalize mem s = l at *
  generalize hr : renL tt 0 l = r
  have HR0 := Lib.hid hr
  clear hr
  go_enter Tryd.func26, Tryd.ntmps26
  go_upto_region 2 with (go_at_call 18
                         (with_reducible refine HM.out.mono ?_)
                         rintro e w1 ⟨v, rfl, ho, hk1⟩
                         obtain ⟨B, cb, rfl⟩ := own_form ho)
  have hrl := Rd.of_own ho
  rw [inV_zV] at hrl
  go_wp2
  go_loopw [7, 8] (fun s i wr => ∃ (k s' : Nat), i = .int .i64 k ∧ s = .int .u64 s' ∧ s' < 18446744073709551616 ∧ k ≤ l.length ∧ renL tt s' (l.drop k) = r ∧ wr = w1) (fun _ i _ => l.length - (intOf i).toNat)
  case atStart => exact ⟨0, 0, rfl, rfl, by omega, by omega, by simpa using HR0.out, rfl⟩
  case round =>
    obtain ⟨k, s', rfl, rfl, hs', hk, ho', hw⟩ := hrel
    obtain rfl := hw.symm; clear hw
    by_cases hlt : k < l.length
    · have hx : l[k]? = some l[k] := List.getElem?_eq_getElem hlt
      obtain ⟨-, bl, off, rfl, hc⟩ := Rd.int (l := l.map Int.ofNat) (k := k) (x := (l[k] : Nat)) (by simpa using hrl) (by simp [hx])
      have hx64 := HMM.out k _ hx
      rw [ndrop_at hx] at ho'
      unfold renL at ho'
      have HO := Lib.hid ho'
      clear ho' hx hrl
      generalize l[k] = x at *
      by_cases h1 : tt.length ≤ x
      · have HR : Hid ((0, 6) = r) := Lib.hid (by have := HO.out; rwa [if_pos h1] at this)
        go_wp2
        refine bodyPost_ret (v := .tuple #[.int .u64 0, .int .i64 6]) (by simp [results, Tryd.results26, go_sem]) rfl ?_
        exact ⟨by rw [← HR.out] <;> rfl, hk1⟩
      · have hxl : x < tt.length := by omega
        have ht : tt[x]? = some (tt.getD x 0) := by rw [List.getD_eq_getElem?_getD, List.getElem?_eq_getElem hxl]; rfl
        obtain ⟨-, bl2, off2, rfl, hc2⟩ := (hrd.kept hk1 fun _ _ h => h).int ht
        have HO1 : Hid ((if tt.getD x 0 < 0 ∨ 63 < tt.getD x 0 then ((0, 2) : Nat × Int) else renL tt (s' ||| 2 ^ (tt.getD x 0).toNat) (l.drop (k + 1))) = r) := Lib.hid (by have := HO.out; rwa [if_neg h1] at this)
        clear HO ht
        generalize tt.getD x 0 = y at *
        by_cases h2 : y < 0
        · have HR : Hid ((0, 2) = r) := Lib.hid (by have := HO1.out; rwa [if_pos (.inl h2)] at this)
          go_wp2
          refine bodyPost_ret (v := .tuple #[.int .u64 0, .int .i64 2]) (by simp [results, Tryd.results26, go_sem]) rfl ?_
          exact ⟨by rw [← HR.out] <;> rfl, hk1⟩
        · by_cases h3 : 63 < y
          · have HR : Hid ((0, 2) = r) := Lib.hid (by have := HO1.out; rwa [if_pos (.inr h3)] at this)
            go_wp2
            refine bodyPost_ret (v := .tuple #[.int .u64 0, .int .i64 2]) (by simp [results, Tryd.results26, go_sem]) rfl ?_
            exact ⟨by rw [← HR.out] <;> rfl, hk1⟩
          · obtain ⟨n, rfl⟩ : ∃ n : Nat, y = n := ⟨y.toNat, by omega⟩
            have hn : n < 64 := by omega
            have HO2 : Hid (renL tt (s' ||| 2 ^ n) (l.drop (k + 1)) = r) := Lib.hid (by have := HO1.out; rwa [if_neg (by omega), Int.toNat_natCast] at this)
            have HV := Lib.hid (or_pow hs' hn)
            clear HO1
            go_wp2_with (go_at_call 38; (with_reducible refine (bit_any _ n hn).mono ?_); rintro e w' ⟨rfl, hw'⟩; obtain rfl := hw'.symm)
            go_roundw
            case rel => exact ⟨k + 1, s' ||| 2 ^ n, by go_num, congrArg (Value.int .u64) HV.out, or_lt64 hs' (pow_lt64 hn), by omega, HO2.out, by trivial⟩
            case measure => simp only [intOf]; omega
    · obtain rfl : k = l.length := by omega
      have HR : Hid ((s', 0) = r) := Lib.hid (by rw [← ho']; simp [renL])
      clear ho'
      go_wp2
      refine bodyPost_ret (v := .tuple #[.int .u64 s', .int .i64 0]) (by simp [results, Tryd.results26, go_sem]) rfl ?_
      exact ⟨by rw [← HR.out] <;> rfl, hk1⟩

theorem rSubset_any (s : Nat) (i : Int) (w : World) (hs : s < 18446744073709551616) (hi : i ≤ 9223372036854775807) :
    Calls Tryd.prog 37 #[.int .u64 s, .int .i64 i] w fun e w' => e = .returned (.tuple #[.int .u64 (subS s i).1, .bool (subS s i).2]) ∧ Keep NoF w w' := by
  by_cases h0 : i < 0
  · rw [show subS s i = (0, false) from if_pos h0]
    go_enter Tryd.func37, Tryd.ntmps37
    go_wp2
    refine bodyPost_ret (v := .tuple #[.int .u64 0, .bool false]) (by simp [results, Tryd.results37, go_sem]) rfl ?_
    exact ⟨rfl, Keep.refl _ _⟩
  · obtain ⟨i0, rfl⟩ : ∃ n : Nat, i = n := ⟨i.toNat, by omega⟩
    rw [show subS s i0 = subL 0 i0 (mem s) from if_neg h0]
    have HM := Lib.hid (rMembers_any s hs w)
    have hml := mem_len s
    have hmm : ∀ k x, (mem s)[k]? = some x → x < 64 := fun k x h => (mem_lt (List.mem_of_getElem? h)).1
    have HMM := Lib.hid hmm
    clear hmm
    generalize mem s = l at *
    generalize hr : subL 0 i0 l = r
    have HR0 := Lib.hid hr
    clear hr
    go_enter Tryd.func37, Tryd.ntmps37
    go_upto_region 4 with (go_at_call 18
                           (with_reducible refine HM.out.mono ?_)
                           rintro e w1 ⟨v, rfl, ho, hk1⟩
                           obtain ⟨B, cb, rfl⟩ := own_form ho)
    have hrl := Rd.of_own ho
    rw [inV_zV] at hrl
    go_wp2
    go_loopw [7, 8, 9] (fun s j i wr => ∃ (k s' m : Nat), i = .int .i64 k ∧ s = .int .u64 s' ∧ j = .int .i64 m ∧ m ≤ 9223372036854775807 ∧ s' < 18446744073709551616 ∧ k ≤ l.length ∧ subL s' m (l.drop k) = r ∧ wr = w1) (fun _ _ i _ => l.length - (intOf i).toNat)
    case atStart => exact ⟨0, 0, i0, rfl, rfl, rfl, by omega, by omega, by omega, by simpa using HR0.out, rfl⟩
    case round =>
      obtain ⟨k, s', m, rfl, rfl, rfl, hm, hs', hk, ho', hw⟩ := hrel
      obtain rfl := hw.symm; clear hw
      have hdv : (m : Int) / 2 = ((m / 2 : Nat) : Int) := by omega
      have hrm : (m : Int) % 2 = ((m % 2 : Nat) : Int) := by omega
      by_cases hlt : k < l.length
      · have hx : l[k]? = some l[k] := List.getElem?_eq_getElem hlt
        obtain ⟨-, bl, off, rfl, hc⟩ := Rd.int (l := l.map Int.ofNat) (k := k) (x := (l[k] : Nat)) (by simpa using hrl) (by simp [hx])
        have hx64 := HMM.out k _ hx
        rw [ndrop_at hx] at ho'
        unfold subL at ho'
        clear hx hrl
        generalize l[k] = x at *
        have HD := Lib.hid hdv
        by_cases h1 : m % 2 = 1
        · have hc1 : ((m : Int) % 2 == 1) = true := by rw [hrm, h1]; rfl
          rw [if_pos h1] at ho'
          have HO := Lib.hid ho'
          have HV := Lib.hid (or_pow hs' hx64)
          clear ho' hdv hrm h1
          go_wp2_with (go_at_call 38; (with_reducible refine (bit_any _ x hx64).mono ?_); rintro e w' ⟨rfl, hw'⟩; obtain rfl := hw'.symm)
          go_roundw
          case rel => exact ⟨k + 1, s' ||| 2 ^ x, m / 2, by go_num, congrArg (Value.int .u64) HV.out, congrArg (Value.int .i64) HD.out, by omega, or_lt64 hs' (pow_lt64 hx64), by omega, HO.out, by trivial⟩
          case measure => simp only [intOf]; omega
        · have hc1 : ((m : Int) % 2 == 1) = false := by rw [hrm, show m % 2 = 0 by omega]; rfl
          rw [if_neg h1] at ho'
          have HO := Lib.hid ho'
          clear ho' hdv hrm h1
          go_wp2
          go_roundw
          case rel => exact ⟨k + 1, s', m / 2, by go_num, rfl, congrArg (Value.int .i64) HD.out, by omega, hs', by omega, HO.out, by trivial⟩
          case measure => simp only [intOf]; omega
      · obtain rfl : k = l.length := by omega
        clear hdv hrm
        by_cases hm0 : 0 < m
        · have HR : Hid ((0, false) = r) := Lib.hid (by rw [← ho']; simp [subL, hm0])
          clear ho'
          go_wp2
          refine bodyPost_ret (v := .tuple #[.int .u64 0, .bool false]) (by simp [results, Tryd.results37, go_sem]) rfl ?_
          exact ⟨by rw [← HR.out] <;> rfl, hk1⟩
        · have HR : Hid ((s', true) = r) := Lib.hid (by rw [← ho']; simp [subL, hm0])
          clear ho'
          go_wp2
          refine bodyPost_ret (v := .tuple #[.int .u64 s', .bool true]) (by simp [results, Tryd.results37, go_sem]) rfl ?_
          exact ⟨by rw [← HR.out] <;> rfl, hk1⟩
end
end Go.Proofs.YtckmhngcnimmdaaDoor
