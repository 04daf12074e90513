/- Package formula: the fragments of a formula. No condition. -/
import Derived.Test.YtmjdbbfoihadoaaEvD
set_option linter.unusedVariables false
set_option linter.unusedSimpArgs false
namespace Go.Proofs.Ytmjdbbfoihadoaa
open Go.RowKit
open Fm (Nd checkE compactL usesX usesY usesAgent usesFact usesGroup usesEvent)
theorem or_small9 {a b : Nat} (ha : a < 512) (hb : b < 512) : bits .or .i64 (a : Int) (b : Int) = ((a ||| b : Nat) : Int) := by
  have hx : a ||| b < 2 ^ 9 := Nat.or_lt_two_pow (by omega) (by omega)
  have h1 : (BitVec.ofInt 64 (a : Int)).toNat = a := by
    rw [BitVec.ofInt_natCast, BitVec.toNat_ofNat]; exact Nat.mod_eq_of_lt (by omega)
  have h2 : (BitVec.ofInt 64 (b : Int)).toNat = b := by
    rw [BitVec.ofInt_natCast, BitVec.toNat_ofNat]; exact Nat.mod_eq_of_lt (by omega)
  show IntKind.i64.wrap ((BitVec.ofInt 64 (a : Int) ||| BitVec.ofInt 64 (b : Int)).toNat : Int) = _
  rw [BitVec.toNat_or, h1, h2, IntKind.wrap_i64]
  omega
theorem fragN9 (o : Int) : (fragN o).toNat < 512 := by have := fragN_lt o; omega
section
set_option maxRecDepth 100000
set_option maxHeartbeats 4000000
theorem frags1_any (n : Nd) (w : World) : Calls Try.prog 49 #[ndV n, useV n.op] w fun e w' => e = .returned (.int .i64 ((fragN n.op).toNat : Int)) ∧ Keep NoF w w' := by
  obtain ⟨op, i, e, g, x, y⟩ := n
  have hf : (((fragN op).toNat : Nat) : Int) = fragN op := by have := fragN_lt op; omega
  rw [hf]
  clear hf
  simp only [useV, useC] at *
  generalize usesX op = u0 at *
  generalize usesY op = u1 at *
  generalize usesFact op = u2 at *
  generalize usesAgent op = u3 at *
  generalize usesGroup op = u4 at *
  generalize usesEvent op = u5 at *
  generalize fragN op = fr at *
  go_enter Try.func49, Try.ntmps49
  go_wp2
  go_ret
  exact ⟨rfl, by first | exact (((Keep.refl _ _).alloc _).alloc _) | exact ((Keep.refl _ _).alloc _)⟩
theorem unionGx (f : List Nd) (A : Option Addr) (c : Nat) (w : World) (hll : f.length ≤ 9223372036854775807) (hrd : Rd w (.slice A f.length c) 6 f.length (fmC f)) :
    Calls Try.prog 48 #[.slice A f.length c, .func (.func 49) #[] #[]] w fun e w' => e = .returned (.int .i64 (orG (compactL f) : Nat)) ∧ Keep NoF w w' := by
  have HC := Lib.hid (Compact_any f A c w hll hrd)
  have hl200 := compact_200 f
  have HU := Lib.hid fun (o : Int) (W : World) => uses_any W o
  clear hrd
  generalize compactL f = L at *
  generalize f.length = fl at *
  go_enter Try.func48, Try.ntmps48
  go_wp2_with (go_at_call 7; (with_reducible refine HC.out.mono ?_); rintro e w1 ⟨A1, c1, rfl, R1, K1, F1⟩)
  have HR := Lib.hid R1
  clear R1 F1
  go_loopw [5, 13] (fun v i wr => ∃ k m : Nat, v = .int .i64 (m : Int) ∧ i = .int .i64 (k : Int) ∧ k ≤ L.length ∧ m < 512 ∧ Hid (m = orG (L.take k)) ∧ Keep NoF w1 wr) (fun _ i _ => L.length - (intOf i).toNat)
  case atStart => exact ⟨0, 0, rfl, rfl, by omega, by omega, Lib.hid rfl, Keep.refl _ _⟩
  case round =>
    obtain ⟨k, m, rfl, rfl, hk, hm, HE, hkw⟩ := hrel
    by_cases hlt : k < L.length
    · have hx : L[k]? = some L[k] := List.getElem?_eq_getElem hlt
      obtain ⟨bl, off, rfl, _, hc1, x0, x1, x2, x3, x4, x5⟩ := (HR.out.kept hkw fun _ _ h => h).nd hx
      have hmk := fragN9 L[k].op
      have HE2 : Hid (m ||| (fragN L[k].op).toNat = orG (L.take (k + 1))) := Lib.hid (by rw [HE.out, orG_snoc hx])
      clear hx
      generalize L[k] = n at *
      have HK := Lib.hid fun W : World => frags1_any n W
      have hor := or_small9 (a := m) (b := (fragN n.op).toNat) (by omega) (by omega)
      have hlt2 : m ||| (fragN n.op).toNat < 512 := Nat.or_lt_two_pow (n := 9) hm hmk
      have HO := Lib.hid fun W : World => HU.out n.op W
      generalize (fragN n.op).toNat = mm at *
      obtain ⟨op, i, e0, g, x, y⟩ := n
      simp only [useV, useC] at *
      generalize Fm.isOp op = bb at *
      generalize usesX op = b0 at *
      generalize usesY op = b1 at *
      generalize usesFact op = b2 at *
      generalize usesAgent op = b3 at *
      generalize usesGroup op = b4 at *
      generalize usesEvent op = b5 at *
      generalize fragN op = fr at *
      go_wp2_with (first
        | (go_at_call 38; (with_reducible refine (HO.out _).mono ?_); rintro e w2 ⟨rfl, K2⟩; obtain ⟨y0, y1, y2, y3, y4, y5, ysz⟩ := box6 K2; have ysl : wr.heap.size < w2.heap.size := ysz; have ysn : ¬ wr.heap.size = w2.heap.size := (by omega); have ysm : ¬ w2.heap.size = wr.heap.size := (by omega))
        | (go_at_call 49; (with_reducible refine (HK.out _).mono ?_); rintro e w3 ⟨rfl, K3⟩))
      go_roundw
      case rel => exact ⟨k + 1, m ||| mm, by go_num, by go_num, by omega, hlt2, HE2, (((hkw.alloc _).trans K2 fun _ _ h => h).alloc _).trans K3 fun _ _ h => h⟩
      case measure => simp only [intOf]; omega
    · go_wp2
      go_ret
      obtain rfl : k = L.length := by omega
      have he := HE.out
      rw [List.take_length] at he
      exact ⟨by rw [he]; rfl, K1.trans hkw fun _ _ h => h⟩
theorem fmFrags_ex (f : List Nd) (A : Option Addr) (c : Nat) (w : World) (hll : f.length ≤ 9223372036854775807) (hrd : Rd w (.slice A f.length c) 6 f.length (fmC f)) :
    Calls Try.prog 24 #[.slice A f.length c] w fun e w' => e = .returned (.int .i64 (orG (compactL f) : Nat)) ∧ Keep NoF w w' := by
  have HU := Lib.hid (unionGx f A c w hll hrd)
  clear hrd
  generalize f.length = n at *
  go_enter Try.func24, Try.ntmps24
  go_wp2_with (go_at_call 48; (with_reducible refine HU.out.mono ?_); rintro e w1 ⟨rfl, K1⟩)
  go_ret
  exact ⟨rfl, K1⟩
end
end Go.Proofs.Ytmjdbbfoihadoaa
