/- What Support does. No condition. -/
import Derived.Test.YtengdldkkmknpaaEval
import Derived.Test.YtengdldkkmknpaaLawG
set_option linter.unusedVariables false
set_option linter.unusedSimpArgs false
namespace Go.Proofs.Ytengdldkkmknpaa
open Go.RowKit
open Dd (Rn rat ofN toN checkErr den lo var supp)

theorem or_u64 (s u : Nat) (hs : s < 18446744073709551616) (hu : u < 64) : bits BinOp.or IntKind.u64 (s : Int) (IntKind.u64.wrap (2 ^ u)) = ((s ||| 2 ^ u : Nat) : Int) := by
  have h1 : 2 ^ u < 2 ^ 64 := Nat.pow_lt_pow_right (by omega) hu
  have h2 : (2 : Int) ^ u = ((2 ^ u : Nat) : Int) := by norm_cast
  rw [h2]
  clear h2
  generalize 2 ^ u = q at *
  rw [IntWalk.u64_in _ (by omega)]
  exact bits_or_u64_nat _ _ hs (by omega)
theorem ret_u64 {a b : Int} (h : a = b) : Ending.returned (.int .u64 a) = .returned (.int .u64 b) := by rw [h]

def suppD (a : Dg) : Nat := if a.err = 0 then supp (toN a.R) else 0

set_option maxRecDepth 100000 in
set_option maxHeartbeats 1000000 in
theorem Support_any (a : Dg) (w : World) (ha : a.In w) : Calls Try.prog 21 #[a.val] w fun e w' => e = .returned (.int .u64 (suppD a : Nat)) ∧ Keep NoF w w' := by
  have hck := fun (w1 : World) (hk : Keep NoF w w1) => check_any a.V a.R a.root a.sl w1 ha.2 (ha.1.kept hk fun _ _ h => h)
  have hcke : checkErr a.V a.R a.root = a.err := rfl
  rw [hcke] at hck
  have hval : a.err = 0 → ∃ (v : Nat) (M : List Nd) (r : Nat), a.V = v ∧ a.R = ofN M ∧ a.root = r ∧ Dd.Valid v M r := fun h => Dd.valid_of h
  have HE : Hid (a.err ≠ 0 → suppD a = 0) := Lib.hid fun h => if_neg h
  have HE0 : Hid (a.err = 0 → suppD a = supp (toN a.R)) := Lib.hid fun h => if_pos h
  have ha1 := ha.1
  obtain ⟨V1, R1, r1, s1⟩ := a
  simp only at ha1 hck hval HE0
  have ha2 := ha1
  obtain ⟨_, A1, c1, rfl, _, _⟩ := ha2
  show Calls Try.prog 21 #[.agg #[.int .i64 V1, .slice A1 R1.length c1, .int .i64 r1]] w _
  clear ha hcke
  generalize suppD ⟨V1, R1, r1, .slice A1 R1.length c1⟩ = ev at *
  generalize Dg.err ⟨V1, R1, r1, .slice A1 R1.length c1⟩ = ae at *
  have hk0 : Keep NoF w (w.alloc (.cells #[.int .i64 V1, .slice A1 R1.length c1, .int .i64 r1] 24)) := (Keep.refl _ _).alloc _
  have hb := Bk.new w 24 #[.int .i64 V1, .slice A1 R1.length c1, .int .i64 r1]
  have HS := Lib.hid (hck _ hk0)
  clear hck
  by_cases h0 : ae = 0
  · obtain ⟨v, M, r, rfl, rfl, rfl, hv⟩ := hval h0
    have hev := HE0.out h0
    rw [Dd.toN_ofN] at hev
    subst h0
    have HEV := Lib.hid hev
    have HVL := Lib.hid hv
    rw [rnsC_ofN] at ha1
    rw [Dd.ofN_len] at ha1 HS hb hk0
    rw [Dd.ofN_len]
    have hML := hv.len
    clear HE HE0 hval hev hv
    go_enter Try.func21, Try.ntmps21
    go_wp2_with (go_at_call 15
                 (with_reducible refine HS.out.mono ?_)
                 rintro e w2 ⟨rfl, hk2⟩
                 have hb2 := hb.keep hk2 (fun h => h)
                 have x1 : w2.cell? ⟨w.heap.size, 1, none⟩ = some (.slice A1 M.length c1) := hb2.cell 1)
    have hkw := hk0.trans hk2 fun _ _ h => h
    clear x1 HS hk2 hb hk0
    go_loopw [3, 12] (fun s i wr => ∃ k : Nat, i = .int .i64 k ∧ k ≤ M.length ∧ s = .int .u64 (supp (M.take k) : Nat) ∧ Keep NoF w2 wr) (fun _ i _ => M.length - (intOf i).toNat)
    case atStart => exact ⟨0, rfl, by omega, rfl, Keep.refl _ _⟩
    case round =>
      obtain ⟨k, rfl, hk, rfl, hkr⟩ := hrel
      by_cases hlt : k < M.length
      · have hg := HVL.out.good
        obtain ⟨bl, off, rfl, _, y1, y2, y3⟩ := ((ha1.kept hkw fun _ _ h => h).kept hkr fun _ _ h => h).num (i := k + 2) (by omega) (by omega)
        have hu := hg.bound (k + 2) (by omega) (by omega)
        have hMk : M[k]? = some (var M (k + 2), lo M (k + 2), Dd.hi M (k + 2)) := Dd.node_at (i := k + 2) (by omega) (by omega)
        have hsn : supp (M.take (k + 1)) = supp (M.take k) ||| 2 ^ var M (k + 2) := by
          rw [List.take_add_one, hMk]
          exact Dd.supp_snoc _ _
        have HSN := Lib.hid hsn
        have hsl : supp (M.take k) < 16777216 := Dd.supp_lt _ fun n hn => by
          obtain ⟨i, hi, rfl⟩ := List.getElem_of_mem (List.mem_of_mem_take hn)
          have := hg.bound (i + 2) (by omega) (by omega)
          simpa [var, show ¬ i + 2 < 2 by omega, List.getD_eq_getElem?_getD, List.getElem?_eq_getElem hi] using this
        clear hg hsn hMk
        simp only [Nat.add_sub_cancel] at y1 y2 y3
        generalize var M (k + 2) = u at *
        generalize lo M (k + 2) = l at *
        generalize Dd.hi M (k + 2) = h at *
        generalize supp (M.take k) = s at *
        go_wp2
        go_roundw
        case rel => exact ⟨k + 1, by go_num, by omega, by rw [HSN.out, or_u64 s u (by omega) (by omega)], hkr.alloc _⟩
        case measure => simp [intOf]; omega
      · have hke : k = M.length := by omega
        have HK := Lib.hid hke
        clear hke
        go_wp2
        go_ret
        exact ⟨ret_u64 (by rw [HEV.out, HK.out, List.take_length]), hkw.trans hkr fun _ _ h => h⟩
  · have hne : (ae != 0) = true := by simpa using h0
    have hev := HE.out h0
    subst hev
    clear HE0 hval
    go_enter Try.func21, Try.ntmps21
    go_wp2_with (go_at_call 15; (with_reducible refine HS.out.mono ?_); rintro e w2 ⟨rfl, hk2⟩)
    go_ret
    exact ⟨rfl, hk0.trans hk2 fun _ _ h => h⟩
end Go.Proofs.Ytengdldkkmknpaa
