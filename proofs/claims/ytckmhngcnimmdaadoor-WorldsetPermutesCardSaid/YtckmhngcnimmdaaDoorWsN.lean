/- Sets of worlds as numbers: First, Of, Same, and the reference's Rename. No condition. -/
import Derived.Test.YtckmhngcnimmdaaDoorWsM
import Derived.BigQuiet
import Derived.Deep.QuietTactic
import Derived.Deep.DeepCutAuto
import Derived.Deep.RegionHeld3
import Derived.Deep.RegionLaw
set_option linter.unusedVariables false
set_option linter.unusedSimpArgs false
namespace Go.Proofs.YtckmhngcnimmdaaDoor
open Go.RowKit

def zV (n : Int) : Value := .int .i64 n
theorem inV_zV (l : List Nat) : l.map inV = (l.map Int.ofNat).map zV := by simp [inV, zV, List.map_map, Function.comp_def]
theorem Rd.int {w : World} {A : Option Addr} {n c : Nat} {l : List Int} (h : Rd w (.slice A n c) 1 l.length (l.map zV)) {k : Nat} {x : Int} (hk : l[k]? = some x) : n = l.length ∧ ∃ bl off, A = some ⟨bl, off, none⟩ ∧ w.cell? ⟨bl, off + k, none⟩ = some (.int .i64 x) := by
  have hlt : k < l.length := (List.getElem?_eq_some_iff.1 hk).1
  obtain ⟨hn, _, bl, off, rfl, hc⟩ := h.at_ (by omega)
  exact ⟨hn, bl, off, rfl, hc k _ (by simp [hk, zV])⟩

/-- The set of a list, from a set on. -/
def ofL (s : Nat) : List Int → Nat × Int
  | [] => (s, 0)
  | x :: l => if x < 0 ∨ 63 < x then (0, 2) else if s.testBit x.toNat then (0, 7) else ofL (s ||| 2 ^ x.toNat) l
def firstR (n k : Int) : Nat × Int := if n < 0 ∨ 64 < n ∨ k < 0 ∨ n < k then (0, 2) else (allS k, 0)

section
set_option maxRecDepth 100000
set_option maxHeartbeats 1000000
theorem First_any (n k : Int) (w : World) : Calls Tryd.prog 33 #[.int .i64 n, .int .i64 k] w fun e w' => e = .returned (.tuple #[.int .u64 (firstR n k).1, .int .i64 (firstR n k).2]) ∧ w' = w := by
  by_cases h : n < 0 ∨ 64 < n ∨ k < 0 ∨ n < k
  · rw [show firstR n k = (0, 2) from if_pos h]
    by_cases h1 : n < 0
    · go_enter Tryd.func33, Tryd.ntmps33
      go_wp2
      refine bodyPost_ret (v := .tuple #[.int .u64 0, .int .i64 2]) (by simp [results, Tryd.results33, go_sem]) rfl ⟨rfl, rfl⟩
    · by_cases h2 : 64 < n
      · go_enter Tryd.func33, Tryd.ntmps33
        go_wp2
        refine bodyPost_ret (v := .tuple #[.int .u64 0, .int .i64 2]) (by simp [results, Tryd.results33, go_sem]) rfl ⟨rfl, rfl⟩
      · by_cases h3 : k < 0
        · go_enter Tryd.func33, Tryd.ntmps33
          go_wp2
          refine bodyPost_ret (v := .tuple #[.int .u64 0, .int .i64 2]) (by simp [results, Tryd.results33, go_sem]) rfl ⟨rfl, rfl⟩
        · have h4 : n < k := by omega
          go_enter Tryd.func33, Tryd.ntmps33
          go_wp2
          refine bodyPost_ret (v := .tuple #[.int .u64 0, .int .i64 2]) (by simp [results, Tryd.results33, go_sem]) rfl ⟨rfl, rfl⟩
  · rw [show firstR n k = (allS k, 0) from if_neg h]
    have h1 : ¬ n < 0 := by omega
    have h2 : ¬ 64 < n := by omega
    have h3 : ¬ k < 0 := by omega
    have h4 : ¬ n < k := by omega
    clear h
    go_enter Tryd.func33, Tryd.ntmps33
    go_wp2_with (go_at_call 14; (with_reducible refine (All_any _ k).mono ?_); rintro e w' ⟨rfl, hw'⟩; obtain rfl := hw'.symm)
    refine bodyPost_ret (v := .tuple #[.int .u64 (allS k), .int .i64 0]) (by simp [results, Tryd.results33, go_sem]) rfl ⟨rfl, rfl⟩
theorem rFirst_any (n k : Int) (w : World) : Calls Tryd.prog 34 #[.int .i64 n, .int .i64 k] w fun e w' => e = .returned (.tuple #[.int .u64 (firstR n k).1, .int .i64 (firstR n k).2]) ∧ w' = w := by
  by_cases h : n < 0 ∨ 64 < n ∨ k < 0 ∨ n < k
  · rw [show firstR n k = (0, 2) from if_pos h]
    by_cases h1 : n < 0
    · go_enter Tryd.func34, Tryd.ntmps34
      go_wp2
      refine bodyPost_ret (v := .tuple #[.int .u64 0, .int .i64 2]) (by simp [results, Tryd.results34, go_sem]) rfl ⟨rfl, rfl⟩
    · by_cases h2 : 64 < n
      · go_enter Tryd.func34, Tryd.ntmps34
        go_wp2
        refine bodyPost_ret (v := .tuple #[.int .u64 0, .int .i64 2]) (by simp [results, Tryd.results34, go_sem]) rfl ⟨rfl, rfl⟩
      · by_cases h3 : k < 0
        · go_enter Tryd.func34, Tryd.ntmps34
          go_wp2
          refine bodyPost_ret (v := .tuple #[.int .u64 0, .int .i64 2]) (by simp [results, Tryd.results34, go_sem]) rfl ⟨rfl, rfl⟩
        · have h4 : n < k := by omega
          go_enter Tryd.func34, Tryd.ntmps34
          go_wp2
          refine bodyPost_ret (v := .tuple #[.int .u64 0, .int .i64 2]) (by simp [results, Tryd.results34, go_sem]) rfl ⟨rfl, rfl⟩
  · rw [show firstR n k = (allS k, 0) from if_neg h]
    have h1 : ¬ n < 0 := by omega
    have h2 : ¬ 64 < n := by omega
    have h3 : ¬ k < 0 := by omega
    have h4 : ¬ n < k := by omega
    clear h
    go_enter Tryd.func34, Tryd.ntmps34
    go_wp2_with (go_at_call 15; (with_reducible refine (rAll_any _ k).mono ?_); rintro e w' ⟨rfl, hw'⟩; obtain rfl := hw'.symm)
    refine bodyPost_ret (v := .tuple #[.int .u64 (allS k), .int .i64 0]) (by simp [results, Tryd.results34, go_sem]) rfl ⟨rfl, rfl⟩

theorem drop_at {l : List Int} {k : Nat} {x : Int} (h : l[k]? = some x) : l.drop k = x :: l.drop (k + 1) := by
  have hk := (List.getElem?_eq_some_iff.1 h)
  obtain ⟨hlt, e⟩ := hk
  rw [List.drop_eq_getElem_cons hlt, e]

theorem Of_any (l : List Int) (A : Option Addr) (c : Nat) (w : World) (hl : l.length ≤ 9223372036854775807) (hrd : Rd w (.slice A l.length c) 1 l.length (l.map zV)) : Calls Tryd.prog 12 #[.slice A l.length c] w fun e w' => e = .returned (.tuple #[.int .u64 (ofL 0 l).1, .int .i64 (ofL 0 l).2]) ∧ w' = w := by
  generalize hr : ofL 0 l = r
  go_enter Tryd.func12, Tryd.ntmps12
  go_wp2
  go_loopw [4, 9] (fun s i wr => ∃ (k s' : Nat), i = .int .i64 k ∧ s = .int .u64 s' ∧ s' < 18446744073709551616 ∧ k ≤ l.length ∧ ofL s' (l.drop k) = r ∧ wr = w) (fun _ i _ => l.length - (intOf i).toNat)
  case atStart => exact ⟨0, 0, rfl, rfl, by omega, by omega, by simpa using hr, rfl⟩
  case round =>
    obtain ⟨k, s, rfl, rfl, hs, hk, ho, rfl⟩ := hrel
    by_cases hlt : k < l.length
    · have hx : l[k]? = some l[k] := List.getElem?_eq_getElem hlt
      obtain ⟨_, bl, off, rfl, hc⟩ := hrd.int hx
      rw [drop_at hx] at ho
      unfold ofL at ho
      have HO := Lib.hid ho
      clear ho hr hx
      generalize l[k] = x at *
      by_cases h1 : x < 0
      · have HR : Hid ((0, 2) = r) := Lib.hid (by have := HO.out; rwa [if_pos (.inl h1)] at this)
        go_wp2
        refine bodyPost_ret (v := .tuple #[.int .u64 0, .int .i64 2]) (by simp [results, Tryd.results12, go_sem]) rfl ⟨by rw [← HR.out] <;> rfl, rfl⟩
      · by_cases h2 : 63 < x
        · have HR : Hid ((0, 2) = r) := Lib.hid (by have := HO.out; rwa [if_pos (.inr h2)] at this)
          go_wp2
          refine bodyPost_ret (v := .tuple #[.int .u64 0, .int .i64 2]) (by simp [results, Tryd.results12, go_sem]) rfl ⟨by rw [← HR.out] <;> rfl, rfl⟩
        · obtain ⟨n, rfl⟩ : ∃ n : Nat, x = n := ⟨x.toNat, by omega⟩
          have hn : n < 64 := by omega
          have hh := hasS_nat (s := s) hn
          have HO2 : Hid ((if s.testBit n then ((0, 7) : Nat × Int) else ofL (s ||| 2 ^ n) (l.drop (k + 1))) = r) := Lib.hid (by have := HO.out; rwa [if_neg (by omega), Int.toNat_natCast] at this)
          clear HO
          cases hb : s.testBit n
          · rw [hb] at hh HO2
            clear hb
            have HV := Lib.hid (or_shl hs hn)
            go_wp2_with (go_at_call 23; (with_reducible refine (Has_any _ s n hs).mono ?_); rintro e w' ⟨rfl, hw'⟩; obtain rfl := hw'.symm)
            go_roundw
            case rel => exact ⟨k + 1, s ||| 2 ^ n, by go_num, congrArg (Value.int .u64) HV.out, or_lt64 hs (pow_lt64 hn), by omega, by simpa using HO2.out, by trivial⟩
            case measure => simp only [intOf]; omega
          · rw [hb] at hh HO2
            clear hb
            have HR : Hid ((0, 7) = r) := Lib.hid (by simpa using HO2.out)
            go_wp2_with (go_at_call 23; (with_reducible refine (Has_any _ s n hs).mono ?_); rintro e w' ⟨rfl, hw'⟩; obtain rfl := hw'.symm)
            refine bodyPost_ret (v := .tuple #[.int .u64 0, .int .i64 7]) (by simp [results, Tryd.results12, go_sem]) rfl ⟨by rw [← HR.out] <;> rfl, rfl⟩
    · obtain rfl : k = l.length := by omega
      have HR : Hid ((s, 0) = r) := Lib.hid (by rw [← ho]; simp [ofL])
      clear ho hr
      go_wp2
      refine bodyPost_ret (v := .tuple #[.int .u64 s, .int .i64 0]) (by simp [results, Tryd.results12, go_sem]) rfl ⟨by rw [← HR.out] <;> rfl, rfl⟩
theorem rOf_any (l : List Int) (A : Option Addr) (c : Nat) (w : World) (hl : l.length ≤ 9223372036854775807) (hrd : Rd w (.slice A l.length c) 1 l.length (l.map zV)) : Calls Tryd.prog 13 #[.slice A l.length c] w fun e w' => e = .returned (.tuple #[.int .u64 (ofL 0 l).1, .int .i64 (ofL 0 l).2]) ∧ w' = w := by
  generalize hr : ofL 0 l = r
  go_enter Tryd.func13, Tryd.ntmps13
  go_wp2
  go_loopw [4, 5] (fun s i wr => ∃ (k s' : Nat), i = .int .i64 k ∧ s = .int .u64 s' ∧ s' < 18446744073709551616 ∧ k ≤ l.length ∧ ofL s' (l.drop k) = r ∧ wr = w) (fun _ i _ => l.length - (intOf i).toNat)
  case atStart => exact ⟨0, 0, rfl, rfl, by omega, by omega, by simpa using hr, rfl⟩
  case round =>
    obtain ⟨k, s, rfl, rfl, hs, hk, ho, rfl⟩ := hrel
    by_cases hlt : k < l.length
    · have hx : l[k]? = some l[k] := List.getElem?_eq_getElem hlt
      obtain ⟨_, bl, off, rfl, hc⟩ := hrd.int hx
      rw [drop_at hx] at ho
      unfold ofL at ho
      have HO := Lib.hid ho
      clear ho hr hx
      generalize l[k] = x at *
      by_cases h1 : x < 0
      · have HR : Hid ((0, 2) = r) := Lib.hid (by have := HO.out; rwa [if_pos (.inl h1)] at this)
        go_wp2
        refine bodyPost_ret (v := .tuple #[.int .u64 0, .int .i64 2]) (by simp [results, Tryd.results13, go_sem]) rfl ⟨by rw [← HR.out] <;> rfl, rfl⟩
      · by_cases h2 : 63 < x
        · have HR : Hid ((0, 2) = r) := Lib.hid (by have := HO.out; rwa [if_pos (.inr h2)] at this)
          go_wp2
          refine bodyPost_ret (v := .tuple #[.int .u64 0, .int .i64 2]) (by simp [results, Tryd.results13, go_sem]) rfl ⟨by rw [← HR.out] <;> rfl, rfl⟩
        · obtain ⟨n, rfl⟩ : ∃ n : Nat, x = n := ⟨x.toNat, by omega⟩
          have hn : n < 64 := by omega
          have hh := hasS_nat (s := s) hn
          have HO2 : Hid ((if s.testBit n then ((0, 7) : Nat × Int) else ofL (s ||| 2 ^ n) (l.drop (k + 1))) = r) := Lib.hid (by have := HO.out; rwa [if_neg (by omega), Int.toNat_natCast] at this)
          clear HO
          cases hb : s.testBit n
          · rw [hb] at hh HO2
            clear hb
            have HV := Lib.hid (or_pow hs hn)
            go_wp2_with (first | (go_at_call 24; (with_reducible refine (rHas_any _ s n hs).mono ?_); rintro e w' ⟨rfl, hw'⟩; obtain rfl := hw'.symm) | (go_at_call 38; (with_reducible refine (bit_any _ n hn).mono ?_); rintro e w' ⟨rfl, hw'⟩; obtain rfl := hw'.symm))
            go_roundw
            case rel => exact ⟨k + 1, s ||| 2 ^ n, by go_num, congrArg (Value.int .u64) HV.out, or_lt64 hs (pow_lt64 hn), by omega, by simpa using HO2.out, by trivial⟩
            case measure => simp only [intOf]; omega
          · rw [hb] at hh HO2
            clear hb
            have HR : Hid ((0, 7) = r) := Lib.hid (by simpa using HO2.out)
            go_wp2_with (first | (go_at_call 24; (with_reducible refine (rHas_any _ s n hs).mono ?_); rintro e w' ⟨rfl, hw'⟩; obtain rfl := hw'.symm) | (go_at_call 38; (with_reducible refine (bit_any _ n hn).mono ?_); rintro e w' ⟨rfl, hw'⟩; obtain rfl := hw'.symm))
            refine bodyPost_ret (v := .tuple #[.int .u64 0, .int .i64 7]) (by simp [results, Tryd.results13, go_sem]) rfl ⟨by rw [← HR.out] <;> rfl, rfl⟩
    · obtain rfl : k = l.length := by omega
      have HR : Hid ((s, 0) = r) := Lib.hid (by rw [← ho]; simp [ofL])
      clear ho hr
      go_wp2
      refine bodyPost_ret (v := .tuple #[.int .u64 s, .int .i64 0]) (by simp [results, Tryd.results13, go_sem]) rfl ⟨by rw [← HR.out] <;> rfl, rfl⟩

/-- Two lists are compared. -/
theorem Same_any (l m : List Int) (A B : Option Addr) (c d : Nat) (w : World) (hl : l.length ≤ 9223372036854775807) (h1 : Rd w (.slice A l.length c) 1 l.length (l.map zV)) (h2 : Rd w (.slice B m.length d) 1 m.length (m.map zV)) :
    Calls Tryd.prog 16 #[.slice A l.length c, .slice B m.length d] w fun e w' => e = .returned (.bool (decide (l = m))) ∧ Keep NoF w w' := by
  by_cases hlen : l.length = m.length
  · have HF : Hid ((∀ j : Nat, j < l.length → l[j]? = m[j]?) → decide (l = m) = true) := Lib.hid fun h => decide_eq_true (List.ext_getElem? fun j => by
      by_cases hj : j < l.length
      · exact h j hj
      · rw [List.getElem?_eq_none (by omega), List.getElem?_eq_none (by omega)])
    have HN : Hid (∀ (j : Nat) (x y : Int), l[j]? = some x → m[j]? = some y → x ≠ y → decide (l = m) = false) := Lib.hid fun j x y hx hy hne => decide_eq_false fun e => by
      subst e
      rw [hx] at hy
      exact hne (Option.some.inj hy)
    generalize decide (l = m) = r at *
    have HL := Lib.hid hlen
    have e0 : ((l.length : Int) != (m.length : Int)) = false := by simp [hlen]
    clear hlen
    go_enter Tryd.func16, Tryd.ntmps16
    go_wp2
    go_loopw [5] (fun i wr => ∃ k : Nat, i = .int .i64 k ∧ k ≤ l.length ∧ (∀ j, j < k → l[j]? = m[j]?) ∧ Keep NoF w wr) (fun i _ => l.length - (intOf i).toNat)
    case atStart => exact ⟨0, rfl, by omega, fun j hj => by omega, Keep.refl _ _⟩
    case round =>
      obtain ⟨k, rfl, hk, hall, hkr⟩ := hrel
      have HALL := Lib.hid hall
      clear hall e0
      by_cases hlt : k < l.length
      · have hx : l[k]? = some l[k] := List.getElem?_eq_getElem hlt
        have hlm : k < m.length := by rw [← HL.out]; exact hlt
        have hy : m[k]? = some m[k] := List.getElem?_eq_getElem hlm
        obtain ⟨_, bl, off, rfl, hc⟩ := (h1.kept hkr fun _ _ h => h).int hx
        obtain ⟨_, bl2, off2, rfl, hc2⟩ := (h2.kept hkr fun _ _ h => h).int hy
        have HX := Lib.hid (And.intro hx hy)
        clear hx hy
        generalize l[k] = x at *
        generalize m[k] = y at *
        by_cases hxy : x = y
        · have e1 : (x != y) = false := by simp [hxy]
          have HXY := Lib.hid hxy
          clear hxy
          go_wp2
          go_quiet (fail)
          have hkq := hkr.drewN nq
          generalize wr.drewN nq = W2 at *
          go_wp2
          go_roundw
          case rel =>
            refine ⟨k + 1, by go_num, by omega, fun j hj => ?_, hkq⟩
            by_cases hjk : j = k
            · subst hjk; rw [HX.out.1, HX.out.2, HXY.out]
            · exact HALL.out j (by omega)
          case measure => simp only [intOf]; omega
        · have e1 : (x != y) = true := by simp [hxy]
          have HR := Lib.hid (HN.out k x y HX.out.1 HX.out.2 hxy)
          clear hxy
          go_wp2
          go_quiet (fail)
          have hkq := hkr.drewN nq
          generalize wr.drewN nq = W2 at *
          go_wp2
          go_ret
          exact ⟨by rw [HR.out] <;> rfl, hkq⟩
      · obtain rfl : k = l.length := by omega
        have HR := Lib.hid (HF.out HALL.out)
        go_wp2
        go_ret
        exact ⟨by rw [HR.out] <;> rfl, hkr⟩
  · have hr : decide (l = m) = false := decide_eq_false fun e => hlen (by rw [e])
    have e0 : ((l.length : Int) != (m.length : Int)) = true := by simp; omega
    rw [hr]
    clear hr
    go_enter Tryd.func16, Tryd.ntmps16
    go_wp2
    go_ret
    exact ⟨rfl, Keep.refl _ _⟩
end
end Go.Proofs.YtckmhngcnimmdaaDoor
