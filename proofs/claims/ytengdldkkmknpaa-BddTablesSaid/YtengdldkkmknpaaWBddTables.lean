/- The walk of the law BddTables. No condition. -/
import Derived.Test.YtengdldkkmknpaaTab
import Derived.OpenShut
set_option linter.unusedVariables false
set_option linter.unusedSimpArgs false
namespace Go.Proofs.Ytengdldkkmknpaa
open Go.RowKit
open Dd (Rn cnt)

def smT (t u k : Nat) : Bool := (List.range k).all fun x => t.testBit x == u.testBit x
def cntT (t k : Nat) : Nat := ((List.range k).filter fun x => t.testBit x).length
theorem smT_succ (t u k : Nat) : smT t u (k + 1) = (smT t u k && (t.testBit k == u.testBit k)) := by simp [smT, List.range_succ]
theorem cntT_succ (t k : Nat) : cntT t (k + 1) = cntT t k + if t.testBit k then 1 else 0 := by
  unfold cntT
  rw [List.range_succ, List.filter_append, List.length_append]
  cases h : t.testBit k <;> simp [h]
theorem cntT_le (t k : Nat) : cntT t k ≤ k := by
  unfold cntT
  have := List.length_filter_le (fun x => t.testBit x) (List.range k)
  simpa using this
theorem smT_iff (t u V : Nat) : smT t u (2 ^ V) = true ↔ ∀ ρ, tf t V 0 0 ρ = tf u V 0 0 ρ := by
  rw [tab_eq]
  simp [smT]
theorem cntT_eq (t V : Nat) : cnt V (tf t V 0 0) = cntT t (2 ^ V) := by
  rw [← Dd.cnt_range]
  unfold cntT
  congr 1
  exact List.filter_congr fun x hx => by rw [tf_zero t V x (List.mem_range.1 hx)]
theorem bit_eq (S T u : Nat) (hS : S < 18446744073709551616) (hT : T < 18446744073709551616) : (bits BinOp.and IntKind.u64 ((S : Int) / 2 ^ u) 1 == bits BinOp.and IntKind.u64 ((T : Int) / 2 ^ u) 1) = (S.testBit u == T.testBit u) := by
  rw [bit_u64 S u hS, bit_u64 T u hT]
  cases S.testBit u <;> cases T.testBit u <;> rfl

set_option maxRecDepth 100000 in
set_option maxHeartbeats 4000000 in
theorem walk_BddTables (a0 a1 a2 : Int) (w0 : (Lit.int .i64 a0).wf = true) (w1 : (Lit.int .u64 a1).wf = true) (w2 : (Lit.int .u64 a2).wf = true) (w : World) :
    Calls Try.prog 6 #[.int .i64 a0, .int .u64 a1, .int .u64 a2] w fun e w' => e = .returned (.bool true) ∧ Keep NoF w w' := by
  have b1 := bounds_u64 w1
  have b2 := bounds_u64 w2
  clear w0 w1 w2
  by_cases h1 : a0 < 0
  · go_enter Try.func6, Try.ntmps6
    go_wp2_with (go_at_call 12; (with_reducible refine (awake_any _).mono ?_); rintro e w7 ⟨rfl, k7⟩)
    go_ret
    exact ⟨rfl, k7⟩
  by_cases h2 : 5 < a0
  · go_enter Try.func6, Try.ntmps6
    go_wp2_with (go_at_call 12; (with_reducible refine (awake_any _).mono ?_); rintro e w7 ⟨rfl, k7⟩)
    go_ret
    exact ⟨rfl, k7⟩
  obtain ⟨V, rfl⟩ := Int.eq_ofNat_of_zero_le (show 0 ≤ a0 by omega)
  obtain ⟨t, rfl⟩ := Int.eq_ofNat_of_zero_le (show 0 ≤ a1 by omega)
  obtain ⟨u, rfl⟩ := Int.eq_ofNat_of_zero_le (show 0 ≤ a2 by omega)
  have ht : t < 18446744073709551616 := by omega
  have hu : u < 18446744073709551616 := by omega
  have hV : V ≤ 5 := by omega
  clear b1 b2 h1 h2
  have HT := Lib.hid ht
  have HU := Lib.hid hu
  clear ht hu
  have hp : 2 ^ V ≤ 2 ^ 5 := Nat.pow_le_pow_right (by omega) hV
  have hp1 : 1 ≤ 2 ^ V := Nat.one_le_two_pow
  have HB1 := Lib.hid fun (W : World) (gb : Nat) (h : W.cell? ⟨gb, 0, none⟩ = some (.int .u64 t)) => build_any V t HT.out (by omega) W gb 0 1 h
  have HB2 := Lib.hid fun (W : World) (gb : Nat) (h : W.cell? ⟨gb, 0, none⟩ = some (.int .u64 u)) => build_any V u HU.out (by omega) W gb 0 1 h
  go_enter Try.func6, Try.ntmps6
  go_upto_region 4 with (go_at_call 38
                         (with_reducible refine (HB1.out _ _ (by simp [go_sem])).mono ?_)
                         rintro e w1 ⟨Aa, na, ca, ra, rfl, da, ka, _⟩)
  have kka : Keep NoF w1 (w1.alloc (.cells #[.int .i64 V, .slice Aa na ca, .int .i64 ra] 24)) := (Keep.refl _ _).alloc _
  have qa := Bk.new w1 24 #[.int .i64 V, .slice Aa na ca, .int .i64 ra]
  have fa := da.keep kka
  have kw := (((Keep.refl NoF w).alloc (.cells #[.int .u64 t] 25)).trans ka fun _ _ h => h).trans kka fun _ _ h => h
  clear da ka kka
  generalize w1.alloc (.cells #[.int .i64 V, .slice Aa na ca, .int .i64 ra] 24) = W1 at *
  go_upto_region 5 with (go_at_call 38
                         (with_reducible refine (HB2.out _ _ (by simp [go_sem])).mono ?_)
                         rintro e w2 ⟨Ab, nb, cb, rb, rfl, db, kb, _⟩)
  have kb2 : Keep NoF W1 (w2.alloc (.cells #[.int .i64 V, .slice Ab nb cb, .int .i64 rb] 24)) := (((Keep.refl NoF W1).alloc (.cells #[.int .u64 u] 25)).trans kb fun _ _ h => h).alloc _
  have qb := Bk.new w2 24 #[.int .i64 V, .slice Ab nb cb, .int .i64 rb]
  have fb := db.keep ((Keep.refl NoF w2).alloc (.cells #[.int .i64 V, .slice Ab nb cb, .int .i64 rb] 24))
  have qa := qa.keep kb2 (fun h => h)
  have fa := fa.keep kb2
  have kw := kw.trans kb2 fun _ _ h => h
  clear db kb kb2
  generalize w2.alloc (.cells #[.int .i64 V, .slice Ab nb cb, .int .i64 rb] 24) = W2 at *
  have ua0 : W2.cell? ⟨w1.heap.size, 0, none⟩ = some (.int .i64 V) := qa.cell 0
  have ua1 : W2.cell? ⟨w1.heap.size, 1, none⟩ = some (.slice Aa na ca) := qa.cell 1
  have ua2 : W2.cell? ⟨w1.heap.size, 2, none⟩ = some (.int .i64 ra) := qa.cell 2
  have HC := Lib.hid (d_check fa)
  go_upto_region 8 with (go_at_call 15
                         (with_reducible refine HC.out.mono ?_)
                         rintro e w3 ⟨rfl, k3⟩)
  have qa := qa.keep k3 (fun h => h)
  have fa := fa.keep k3
  have qb := qb.keep k3 (fun h => h)
  have fb := fb.keep k3
  have kw := kw.trans k3 fun _ _ h => h
  clear ua0 ua1 ua2 k3 HC HB1 HB2
  have HG := Lib.hid fun (W : World) (hk : Keep NoF w3 W) (x : Nat) (hx : x < 2 ^ V) => d_eval (s := x) (by omega) (fa.keep hk)
  have HCN := Lib.hid fun (W : World) (hk : Keep NoF w3 W) => d_count (fa.keep hk)
  have HSM := Lib.hid fun (W : World) (hk : Keep NoF w3 W) => d_same (fa.keep hk) (fb.keep hk) (smT t u (2 ^ V)) (smT_iff t u V)
  rw [cntT_eq] at HCN
  have HTZ := Lib.hid fun (x : Nat) (hx : x < 2 ^ V) => tf_zero t V x hx
  have E : IntKind.u64.wrap ((2 : Int) ^ V) = ((2 ^ V : Nat) : Int) := by
    have e : (2 : Int) ^ V = ((2 ^ V : Nat) : Int) := by norm_cast
    rw [e]
    exact IntWalk.u64_in _ (by omega)
  generalize 2 ^ V = m at *
  clear hp1
  have hm : m ≤ 32 := by omega
  clear hp
  have l1 := qa.lt
  have l2 := qb.lt
  go_wp2
  clear E
  go_loopw [11, 12, 49] (fun n s i wr => ∃ k : Nat, i = .int .u64 k ∧ k ≤ m ∧ n = .int .i64 (cntT t k : Nat) ∧ s = .bool (smT t u k) ∧ Keep NoF w3 wr) (fun _ _ i _ => m - (intOf i).toNat)
  case atStart => exact ⟨0, rfl, by omega, rfl, rfl, Keep.refl _ _⟩
  case round =>
    obtain ⟨k, rfl, hk, rfl, rfl, hkr⟩ := hrel
    have qa1 := qa.keep hkr (fun h => h)
    have ua0 : wr.cell? ⟨w1.heap.size, 0, none⟩ = some (.int .i64 V) := qa1.cell 0
    have ua1 : wr.cell? ⟨w1.heap.size, 1, none⟩ = some (.slice Aa na ca) := qa1.cell 1
    have ua2 : wr.cell? ⟨w1.heap.size, 2, none⟩ = some (.int .i64 ra) := qa1.cell 2
    by_cases hlt : k < m
    · have HE := Lib.hid (HG.out wr hkr k hlt)
      have hz := HTZ.out k hlt
      rw [hz] at HE
      have g1 := bit_one t k HT.out
      have g2 := bit_eq t u k HT.out HU.out
      have HS := Lib.hid (smT_succ t u k)
      have HN := Lib.hid (cntT_succ t k)
      have hcl := cntT_le t k
      clear hz
      generalize t.testBit k = bt at *
      generalize u.testBit k = bu at *
      generalize smT t u k = sm at *
      generalize cntT t k = cn at *
      cases bt <;> cases bu <;> cases sm
      all_goals
        go_wp2_with (go_at_call 17
                     (with_reducible refine HE.out.mono ?_)
                     rintro e w4 ⟨rfl, k4⟩)
        go_roundw
        case rel => exact ⟨k + 1, by go_num, by omega, by rw [HN.out]; first | rfl | go_num, by rw [HS.out]; rfl, hkr.trans k4 fun _ _ h => h⟩
        case measure => simp [intOf]; omega
    · have hkm : k = m := by omega
      subst hkm
      have HN := Lib.hid (HCN.out wr hkr)
      have HQ := Lib.hid fun (W : World) (hk : Keep NoF wr W) => HSM.out W (hkr.trans hk fun _ _ h => h)
      have qb1 := qb.keep hkr (fun h => h)
      have t1 : ((cntT t k : Nat) : Int) == ((cntT t k : Nat) : Int) := by simp
      have t2 : (smT t u k == smT t u k) = true := by simp
      generalize cntT t k = cn at *
      generalize smT t u k = sm at *
      go_wp2_with (first
        | (go_at_call 12
           (with_reducible refine (awake_any w6).mono ?_)
           rintro e w7 ⟨rfl, k7⟩)
        | (go_at_call 25
           (with_reducible refine (HQ.out w5 k5).mono ?_)
           rintro e w6 ⟨rfl, k6⟩)
        | (go_at_call 19
           (with_reducible refine HN.out.mono ?_)
           rintro e w5 ⟨rfl, k5⟩
           have qa2 := qa1.keep k5 (fun h => h)
           have qb2 := qb1.keep k5 (fun h => h)
           have va0 : w5.cell? ⟨w1.heap.size, 0, none⟩ = some (.int .i64 V) := qa2.cell 0
           have va1 : w5.cell? ⟨w1.heap.size, 1, none⟩ = some (.slice Aa na ca) := qa2.cell 1
           have va2 : w5.cell? ⟨w1.heap.size, 2, none⟩ = some (.int .i64 ra) := qa2.cell 2
           have vb0 : w5.cell? ⟨w2.heap.size, 0, none⟩ = some (.int .i64 V) := qb2.cell 0
           have vb1 : w5.cell? ⟨w2.heap.size, 1, none⟩ = some (.slice Ab nb cb) := qb2.cell 1
           have vb2 : w5.cell? ⟨w2.heap.size, 2, none⟩ = some (.int .i64 rb) := qb2.cell 2))
      go_ret
      exact ⟨rfl, (((kw.trans hkr fun _ _ h => h).trans k5 fun _ _ h => h).trans k6 fun _ _ h => h).trans k7 fun _ _ h => h⟩
end Go.Proofs.Ytengdldkkmknpaa
