/- What Eval does. What Support does. What Any does. No condition. -/
import Derived.Test.YtgdmcidcappkpaaDoorWrapB
import Derived.Test.YtgdmcidcappkpaaDoorCst
import Derived.Test.YtgdmcidcappkpaaDoorLaw
set_option linter.unusedVariables false
set_option linter.unusedSimpArgs false
namespace Go.Proofs.YtgdmcidcappkpaaDoor
open Go.RowKit
open Dd (Rn rat ofN toN checkErr den lo var)

def evalD (a : Dg) (s : Nat) : Bool := if a.err = 0 then a.fn s.testBit else false

theorem bit_one (S u : Nat) (hS : S < 18446744073709551616) : (bits BinOp.and IntKind.u64 ((S : Int) / 2 ^ u) 1 == 1) = S.testBit u := by
  rw [bit_u64 S u hS]
  cases S.testBit u <;> rfl

/-- The cells of a node of a valid diagram that came in, by its number. -/
theorem Rd.num {w : World} {A : Option Addr} {m c : Nat} {M : List Nd} (h : Rd w (.slice A m c) 3 M.length (ndsC M)) {i : Nat} (h2 : 2 ≤ i) (hi : i < M.length + 2) :
    ∃ bl off, A = some ⟨bl, off, none⟩ ∧ m = M.length ∧ w.cell? ⟨bl, off + (i - 2) * 3, none⟩ = some (.int .i64 (var M i)) ∧ w.cell? ⟨bl, off + (i - 2) * 3 + 1, none⟩ = some (.int .i64 (lo M i)) ∧ w.cell? ⟨bl, off + (i - 2) * 3 + 2, none⟩ = some (.int .i64 (Dd.hi M i)) := by
  obtain ⟨hm, _, bl, off, rfl, hc⟩ := h.at_ (by omega)
  have hat := Dd.node_at (N := M) h2 hi
  obtain ⟨c1, c2, c3⟩ := ndsC_at M (i - 2) _ hat
  have d1 := hc _ _ c1
  have d2 := hc _ _ c2
  have d3 := hc _ _ c3
  simp only [← Nat.add_assoc] at d2 d3
  exact ⟨bl, off, rfl, hm, d1, d2, d3⟩

set_option maxRecDepth 100000 in
set_option maxHeartbeats 1000000 in
theorem Eval_any (a : Dg) (s : Nat) (hs : s < 18446744073709551616) (w : World) (ha : a.In w) : Calls Tryd.prog 35 #[a.val, .int .u64 s] w fun e w' => e = .returned (.bool (evalD a s)) ∧ Keep NoF w w' := by
  have hck := fun (w1 : World) (hk : Keep NoF w w1) => check_any a.V a.R a.root a.sl w1 ha.2 (ha.1.kept hk fun _ _ h => h)
  have hcke : checkErr a.V a.R a.root = a.err := rfl
  rw [hcke] at hck
  have hval : a.err = 0 → ∃ (v : Nat) (M : List Nd) (r : Nat), a.V = v ∧ a.R = ofN M ∧ a.root = r ∧ Dd.Valid v M r := fun h => Dd.valid_of h
  have HE : Hid (a.err ≠ 0 → evalD a s = false) := Lib.hid fun h => if_neg h
  have HE0 : Hid (a.err = 0 → evalD a s = den (toN a.R) a.root.toNat s.testBit) := Lib.hid fun h => if_pos h
  have ha1 := ha.1
  obtain ⟨V1, R1, r1, s1⟩ := a
  simp only at ha1 hck hval HE0
  have ha2 := ha1
  obtain ⟨_, A1, c1, rfl, _, _⟩ := ha2
  show Calls Tryd.prog 35 #[.agg #[.int .i64 V1, .slice A1 R1.length c1, .int .i64 r1], .int .u64 s] w _
  clear ha hcke
  generalize evalD ⟨V1, R1, r1, .slice A1 R1.length c1⟩ s = ev at *
  generalize Dg.err ⟨V1, R1, r1, .slice A1 R1.length c1⟩ = ae at *
  have hk0 : Keep NoF w (w.alloc (.cells #[.int .i64 V1, .slice A1 R1.length c1, .int .i64 r1] 26)) := (Keep.refl _ _).alloc _
  have hb := Bk.new w 26 #[.int .i64 V1, .slice A1 R1.length c1, .int .i64 r1]
  have HS := Lib.hid (hck _ hk0)
  clear hck
  by_cases h0 : ae = 0
  · obtain ⟨v, M, r, rfl, rfl, rfl, hv⟩ := hval h0
    have hev := HE0.out h0
    rw [Int.toNat_natCast, Dd.toN_ofN] at hev
    subst h0
    have HEV := Lib.hid hev
    have HVL := Lib.hid hv
    have hML := hv.len
    rw [rnsC_ofN] at ha1
    rw [Dd.ofN_len] at ha1 HS hb hk0
    rw [Dd.ofN_len]
    clear HE HE0 hval hev hv
    go_enter Tryd.func35, Tryd.ntmps35
    go_wp2_with (go_at_call 60
                 (with_reducible refine HS.out.mono ?_)
                 rintro e w2 ⟨rfl, hk2⟩
                 have hb2 := hb.keep hk2 (fun h => h)
                 have x1 : w2.cell? ⟨w.heap.size, 1, none⟩ = some (.slice A1 M.length c1) := hb2.cell 1
                 have x2 : w2.cell? ⟨w.heap.size, 2, none⟩ = some (.int .i64 r) := hb2.cell 2)
    have hkw := hk0.trans hk2 fun _ _ h => h
    clear x1 x2 HS hk2 hb hk0
    have hsp := bit_one s
    go_loopw [5] (fun i wr => ∃ k : Nat, i = .int .i64 k ∧ k < M.length + 2 ∧ den M k s.testBit = ev ∧ Keep NoF w2 wr) (fun i _ => (intOf i).toNat)
    case atStart => exact ⟨r, rfl, HVL.out.root, HEV.out.symm, Keep.refl _ _⟩
    case round =>
      obtain ⟨k, rfl, hk, hd, hkr⟩ := hrel
      have HD := Lib.hid hd
      clear hd hsp
      by_cases h2 : 2 ≤ k
      · have hg := HVL.out.good
        obtain ⟨bl, off, rfl, _, y1, y2, y3⟩ := ((ha1.kept hkw fun _ _ h => h).kept hkr fun _ _ h => h).num h2 hk
        have hdn := Dd.den_node hg h2 hk s.testBit
        have a1 := hg.lo_lt k h2 hk
        have a2 := hg.hi_lt k h2 hk
        have hu := hg.bound k h2 hk
        have hbit := bit_one s (var M k) hs
        have x1 : wr.cell? ⟨w.heap.size, 1, none⟩ = some (.slice (some ⟨bl, off, none⟩) M.length c1) := (hb2.keep hkr (fun h => h)).cell 1
        rw [HD.out] at hdn
        have HDN := Lib.hid hdn
        clear hg hdn
        obtain ⟨j, rfl⟩ : ∃ j, k = j + 2 := ⟨k - 2, by omega⟩
        simp only [Nat.add_sub_cancel] at y1 y2 y3
        have hj : j < M.length := by omega
        generalize var M (j + 2) = u at *
        generalize lo M (j + 2) = l at *
        generalize Dd.hi M (j + 2) = h at *
        cases hbt : s.testBit u
        · rw [hbt] at hbit HDN
          clear hbt
          go_wp2
          go_roundw
          case rel => exact ⟨l, rfl, by omega, by simpa using HDN.out.symm, hkr.alloc _⟩
          case measure => simp [intOf]; omega
        · rw [hbt] at hbit HDN
          clear hbt
          go_wp2
          go_roundw
          case rel => exact ⟨h, rfl, by omega, by simpa using HDN.out.symm, hkr.alloc _⟩
          case measure => simp [intOf]; omega
      · have hc : k = 0 ∨ k = 1 := by omega
        rcases hc with rfl | rfl
        · have HFIN : Hid (ev = false) := Lib.hid (by rw [← HD.out]; rfl)
          go_wp2
          go_ret
          exact ⟨by rw [HFIN.out]; rfl, hkw.trans hkr fun _ _ h => h⟩
        · have HFIN : Hid (ev = true) := Lib.hid (by rw [← HD.out]; rfl)
          go_wp2
          go_ret
          exact ⟨by rw [HFIN.out]; rfl, hkw.trans hkr fun _ _ h => h⟩
  · have hne : (ae != 0) = true := by simpa using h0
    have hev := HE.out h0
    subst hev
    clear HE0 hval
    go_enter Tryd.func35, Tryd.ntmps35
    go_wp2_with (go_at_call 60; (with_reducible refine HS.out.mono ?_); rintro e w2 ⟨rfl, hk2⟩)
    go_ret
    exact ⟨rfl, hk0.trans hk2 fun _ _ h => h⟩
end Go.Proofs.YtgdmcidcappkpaaDoor
namespace Go.Proofs.YtgdmcidcappkpaaDoor
open Go.RowKit
open Dd (Rn rat ofN toN checkErr den lo var supp)

theorem or_u64 (s u : Nat) (hs : s < 18446744073709551616) (hu : u < 64) : bits BinOp.or IntKind.u64 (s : Int) (IntKind.u64.wrap (2 ^ u)) = ((s ||| 2 ^ u : Nat) : Int) := by
  have h1 : 2 ^ u < 2 ^ 64 := Nat.pow_lt_pow_right (by omega) hu
  have h2 : (2 : Int) ^ u = ((2 ^ u : Nat) : Int) := by norm_cast
  rw [h2]
  clear h2
  generalize 2 ^ u = q at *
  rw [IntWalk.u64_in _ (by omega)]
  exact bits_or_u64_nat _ _ hs (by omega)
theorem ret_u64 {a b : Int} (h : a = b) : Ending.returned (.int .u64 a) = .returned (.int .u64 b) := by rw [h]

def suppD (a : Dg) : Nat := if a.err = 0 then supp (toN a.R) else 0

set_option maxRecDepth 100000 in
set_option maxHeartbeats 1000000 in
theorem Support_any (a : Dg) (w : World) (ha : a.In w) : Calls Tryd.prog 58 #[a.val] w fun e w' => e = .returned (.int .u64 (suppD a : Nat)) ∧ Keep NoF w w' := by
  have hck := fun (w1 : World) (hk : Keep NoF w w1) => check_any a.V a.R a.root a.sl w1 ha.2 (ha.1.kept hk fun _ _ h => h)
  have hcke : checkErr a.V a.R a.root = a.err := rfl
  rw [hcke] at hck
  have hval : a.err = 0 → ∃ (v : Nat) (M : List Nd) (r : Nat), a.V = v ∧ a.R = ofN M ∧ a.root = r ∧ Dd.Valid v M r := fun h => Dd.valid_of h
  have HE : Hid (a.err ≠ 0 → suppD a = 0) := Lib.hid fun h => if_neg h
  have HE0 : Hid (a.err = 0 → suppD a = supp (toN a.R)) := Lib.hid fun h => if_pos h
  have ha1 := ha.1
  obtain ⟨V1, R1, r1, s1⟩ := a
  simp only at ha1 hck hval HE0
  have ha2 := ha1
  obtain ⟨_, A1, c1, rfl, _, _⟩ := ha2
  show Calls Tryd.prog 58 #[.agg #[.int .i64 V1, .slice A1 R1.length c1, .int .i64 r1]] w _
  clear ha hcke
  generalize suppD ⟨V1, R1, r1, .slice A1 R1.length c1⟩ = ev at *
  generalize Dg.err ⟨V1, R1, r1, .slice A1 R1.length c1⟩ = ae at *
  have hk0 : Keep NoF w (w.alloc (.cells #[.int .i64 V1, .slice A1 R1.length c1, .int .i64 r1] 26)) := (Keep.refl _ _).alloc _
  have hb := Bk.new w 26 #[.int .i64 V1, .slice A1 R1.length c1, .int .i64 r1]
  have HS := Lib.hid (hck _ hk0)
  clear hck
  by_cases h0 : ae = 0
  · obtain ⟨v, M, r, rfl, rfl, rfl, hv⟩ := hval h0
    have hev := HE0.out h0
    rw [Dd.toN_ofN] at hev
    subst h0
    have HEV := Lib.hid hev
    have HVL := Lib.hid hv
    rw [rnsC_ofN] at ha1
    rw [Dd.ofN_len] at ha1 HS hb hk0
    rw [Dd.ofN_len]
    have hML := hv.len
    clear HE HE0 hval hev hv
    go_enter Tryd.func58, Tryd.ntmps58
    go_wp2_with (go_at_call 60
                 (with_reducible refine HS.out.mono ?_)
                 rintro e w2 ⟨rfl, hk2⟩
                 have hb2 := hb.keep hk2 (fun h => h)
                 have x1 : w2.cell? ⟨w.heap.size, 1, none⟩ = some (.slice A1 M.length c1) := hb2.cell 1)
    have hkw := hk0.trans hk2 fun _ _ h => h
    clear x1 HS hk2 hb hk0
    go_loopw [3, 12] (fun s i wr => ∃ k : Nat, i = .int .i64 k ∧ k ≤ M.length ∧ s = .int .u64 (supp (M.take k) : Nat) ∧ Keep NoF w2 wr) (fun _ i _ => M.length - (intOf i).toNat)
    case atStart => exact ⟨0, rfl, by omega, rfl, Keep.refl _ _⟩
    case round =>
      obtain ⟨k, rfl, hk, rfl, hkr⟩ := hrel
      by_cases hlt : k < M.length
      · have hg := HVL.out.good
        obtain ⟨bl, off, rfl, _, y1, y2, y3⟩ := ((ha1.kept hkw fun _ _ h => h).kept hkr fun _ _ h => h).num (i := k + 2) (by omega) (by omega)
        have hu := hg.bound (k + 2) (by omega) (by omega)
        have hMk : M[k]? = some (var M (k + 2), lo M (k + 2), Dd.hi M (k + 2)) := Dd.node_at (i := k + 2) (by omega) (by omega)
        have hsn : supp (M.take (k + 1)) = supp (M.take k) ||| 2 ^ var M (k + 2) := by
          rw [List.take_add_one, hMk]
          exact Dd.supp_snoc _ _
        have HSN := Lib.hid hsn
        have hsl : supp (M.take k) < 16777216 := Dd.supp_lt _ fun n hn => by
          obtain ⟨i, hi, rfl⟩ := List.getElem_of_mem (List.mem_of_mem_take hn)
          have := hg.bound (i + 2) (by omega) (by omega)
          simpa [var, show ¬ i + 2 < 2 by omega, List.getD_eq_getElem?_getD, List.getElem?_eq_getElem hi] using this
        clear hg hsn hMk
        simp only [Nat.add_sub_cancel] at y1 y2 y3
        generalize var M (k + 2) = u at *
        generalize lo M (k + 2) = l at *
        generalize Dd.hi M (k + 2) = h at *
        generalize supp (M.take k) = s at *
        go_wp2
        go_roundw
        case rel => exact ⟨k + 1, by go_num, by omega, by rw [HSN.out, or_u64 s u (by omega) (by omega)], hkr.alloc _⟩
        case measure => simp [intOf]; omega
      · have hke : k = M.length := by omega
        have HK := Lib.hid hke
        clear hke
        go_wp2
        go_ret
        exact ⟨ret_u64 (by rw [HEV.out, HK.out, List.take_length]), hkw.trans hkr fun _ _ h => h⟩
  · have hne : (ae != 0) = true := by simpa using h0
    have hev := HE.out h0
    subst hev
    clear HE0 hval
    go_enter Tryd.func58, Tryd.ntmps58
    go_wp2_with (go_at_call 60; (with_reducible refine HS.out.mono ?_); rintro e w2 ⟨rfl, hk2⟩)
    go_ret
    exact ⟨rfl, hk0.trans hk2 fun _ _ h => h⟩
end Go.Proofs.YtgdmcidcappkpaaDoor
namespace Go.Proofs.YtgdmcidcappkpaaDoor
open Go.RowKit
open Dd (Rn rat ofN toN checkErr den lo var anyP anyF)

/-- The assignment, and whether there is one. -/
def anyD (a : Dg) : Nat × Bool := if a.err = 0 ∧ a.root ≠ 0 then (anyP (toN a.R) a.root.toNat, true) else (0, false)

theorem or_bit (s u : Nat) (hs : s < 2 ^ u) (hu : u < 24) : s ||| 2 ^ u = s + 2 ^ u := by
  have := Nat.two_pow_add_eq_or_of_lt hs 1
  rw [Nat.mul_one] at this
  rw [Nat.or_comm, ← this, Nat.add_comm]

end Go.Proofs.YtgdmcidcappkpaaDoor
