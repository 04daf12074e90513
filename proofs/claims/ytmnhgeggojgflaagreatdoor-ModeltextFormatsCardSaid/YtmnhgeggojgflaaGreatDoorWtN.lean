/- Sets of worlds as numbers: First, Of, Same, and the reference's Rename. No condition. -/
import Derived.Test.YtmnhgeggojgflaaGreatDoorWtM
import Derived.BigQuiet
import Derived.Deep.QuietTactic
import Derived.Deep.DeepCutAuto
import Derived.Deep.RegionHeld3
import Derived.Deep.RegionLaw
set_option linter.unusedVariables false
set_option linter.unusedSimpArgs false
namespace Go.Proofs.YtmnhgeggojgflaaGreatDoor.Ws
open Go.RowKit

def zV (n : Int) : Value := .int .i64 n
theorem inV_zV (l : List Nat) : l.map inV = (l.map Int.ofNat).map zV := by simp [inV, zV, List.map_map, Function.comp_def]
theorem _root_.Go.Proofs.YtmnhgeggojgflaaGreatDoor.Rd.int {w : World} {A : Option Addr} {n c : Nat} {l : List Int} (h : Rd w (.slice A n c) 1 l.length (l.map zV)) {k : Nat} {x : Int} (hk : l[k]? = some x) : n = l.length ∧ ∃ bl off, A = some ⟨bl, off, none⟩ ∧ w.cell? ⟨bl, off + k, none⟩ = some (.int .i64 x) := by
  have hlt : k < l.length := (List.getElem?_eq_some_iff.1 hk).1
  obtain ⟨hn, _, bl, off, rfl, hc⟩ := h.at_ (by omega)
  exact ⟨hn, bl, off, rfl, hc k _ (by simp [hk, zV])⟩

/-- The set of a list, from a set on. -/
def ofL (s : Nat) : List Int → Nat × Int
  | [] => (s, 0)
  | x :: l => if x < 0 ∨ 63 < x then (0, 2) else if s.testBit x.toNat then (0, 7) else ofL (s ||| 2 ^ x.toNat) l
def firstR (n k : Int) : Nat × Int := if n < 0 ∨ 64 < n ∨ k < 0 ∨ n < k then (0, 2) else (allS k, 0)

section
set_option maxRecDepth 100000
set_option maxHeartbeats 1000000
theorem drop_at {l : List Int} {k : Nat} {x : Int} (h : l[k]? = some x) : l.drop k = x :: l.drop (k + 1) := by
  have hk := (List.getElem?_eq_some_iff.1 h)
  obtain ⟨hlt, e⟩ := hk
  rw [List.drop_eq_getElem_cons hlt, e]

theorem rOf_any (l : List Int) (A : Option Addr) (c : Nat) (w : World) (hl : l.length ≤ 9223372036854775807) (hrd : Rd w (.slice A l.length c) 1 l.length (l.map zV)) : Calls Tryz.prog 147 #[.slice A l.length c] w fun e w' => e = .returned (.tuple #[.int .u64 (ofL 0 l).1, .int .i64 (ofL 0 l).2]) ∧ w' = w := by
  generalize hr : ofL 0 l = r
  go_enter Tryz.func147, Tryz.ntmps147
  go_wp2
  go_loopw [4, 5] (fun s i wr => ∃ (k s' : Nat), i = .int .i64 k ∧ s = .int .u64 s' ∧ s' < 18446744073709551616 ∧ k ≤ l.length ∧ ofL s' (l.drop k) = r ∧ wr = w) (fun _ i _ => l.length - (intOf i).toNat)
  case atStart => exact ⟨0, 0, rfl, rfl, by omega, by omega, by simpa using hr, rfl⟩
  case round =>
    obtain ⟨k, s, rfl, rfl, hs, hk, ho, rfl⟩ := hrel
    by_cases hlt : k < l.length
    · have hx : l[k]? = some l[k] := List.getElem?_eq_getElem hlt
      obtain ⟨_, bl, off, rfl, hc⟩ := hrd.int hx
      rw [drop_at hx] at ho
      unfold ofL at ho
      have HO := Lib.hid ho
      clear ho hr hx
      generalize l[k] = x at *
      by_cases h1 : x < 0
      · have HR : Hid ((0, 2) = r) := Lib.hid (by have := HO.out; rwa [if_pos (.inl h1)] at this)
        go_wp2
        refine bodyPost_ret (v := .tuple #[.int .u64 0, .int .i64 2]) (by simp [results, Tryz.results147, go_sem]) rfl ⟨by rw [← HR.out] <;> rfl, rfl⟩
      · by_cases h2 : 63 < x
        · have HR : Hid ((0, 2) = r) := Lib.hid (by have := HO.out; rwa [if_pos (.inr h2)] at this)
          go_wp2
          refine bodyPost_ret (v := .tuple #[.int .u64 0, .int .i64 2]) (by simp [results, Tryz.results147, go_sem]) rfl ⟨by rw [← HR.out] <;> rfl, rfl⟩
        · obtain ⟨n, rfl⟩ : ∃ n : Nat, x = n := ⟨x.toNat, by omega⟩
          have hn : n < 64 := by omega
          have hh := hasS_nat (s := s) hn
          have HO2 : Hid ((if s.testBit n then ((0, 7) : Nat × Int) else ofL (s ||| 2 ^ n) (l.drop (k + 1))) = r) := Lib.hid (by have := HO.out; rwa [if_neg (by omega), Int.toNat_natCast] at this)
          clear HO
          cases hb : s.testBit n
          · rw [hb] at hh HO2
            clear hb
            have HV := Lib.hid (or_pow hs hn)
            go_wp2_with (first | (go_at_call 97; (with_reducible refine (rHas_any _ s n hs).mono ?_); rintro e w' ⟨rfl, hw'⟩; obtain rfl := hw'.symm) | (go_at_call 126; (with_reducible refine (bit_any _ n hn).mono ?_); rintro e w' ⟨rfl, hw'⟩; obtain rfl := hw'.symm))
            go_roundw
            case rel => exact ⟨k + 1, s ||| 2 ^ n, by go_num, congrArg (Value.int .u64) HV.out, or_lt64 hs (pow_lt64 hn), by omega, by simpa using HO2.out, by trivial⟩
            case measure => simp only [intOf]; omega
          · rw [hb] at hh HO2
            clear hb
            have HR : Hid ((0, 7) = r) := Lib.hid (by simpa using HO2.out)
            go_wp2_with (first | (go_at_call 97; (with_reducible refine (rHas_any _ s n hs).mono ?_); rintro e w' ⟨rfl, hw'⟩; obtain rfl := hw'.symm) | (go_at_call 126; (with_reducible refine (bit_any _ n hn).mono ?_); rintro e w' ⟨rfl, hw'⟩; obtain rfl := hw'.symm))
            refine bodyPost_ret (v := .tuple #[.int .u64 0, .int .i64 7]) (by simp [results, Tryz.results147, go_sem]) rfl ⟨by rw [← HR.out] <;> rfl, rfl⟩
    · obtain rfl : k = l.length := by omega
      have HR : Hid ((s, 0) = r) := Lib.hid (by rw [← ho]; simp [ofL])
      clear ho hr
      go_wp2
      refine bodyPost_ret (v := .tuple #[.int .u64 s, .int .i64 0]) (by simp [results, Tryz.results147, go_sem]) rfl ⟨by rw [← HR.out] <;> rfl, rfl⟩

end
end Go.Proofs.YtmnhgeggojgflaaGreatDoor.Ws
