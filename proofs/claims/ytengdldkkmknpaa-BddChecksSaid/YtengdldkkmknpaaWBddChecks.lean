/- The walk of the law BddChecks. No condition. -/
import Derived.Test.YtengdldkkmknpaaRCount
import Derived.Test.YtengdldkkmknpaaSmall
import Derived.Test.YtengdldkkmknpaaAwake
import Derived.OpenShut
set_option linter.unusedVariables false
set_option linter.unusedSimpArgs false
namespace Go.Proofs.Ytengdldkkmknpaa
open Go.RowKit
open Dd (Rn rat checkErr)

set_option maxRecDepth 100000 in
set_option maxHeartbeats 8000000 in
theorem walkN_BddChecks (d : Dg) (s : Nat) (hs : s < 18446744073709551616) (w : World) (hd : d.Has w) :
    Calls Try.prog 3 #[d.val, .int .u64 s] w fun e w' => e = .returned (.bool true) ∧ Keep NoF w w' := by
  have hd1 := hd.1
  have hd2 := hd.2
  have hsm : smallB [d] = decide (d.R.length ≤ 60) := by simp [smallB]
  have HS1 := Lib.hid fun (W : World) (lv : Value) (hk : Keep NoF w W) (hr : Rd W lv 3 1 ([d].flatMap Dg.cells)) => small_any [d] lv W (by simp) (by simp) hr (fun x hx => by
    have e : x = d := by simpa using hx
    subst e
    exact ⟨hd1.kept hk fun _ _ h => h, hd2⟩)
  rw [hsm] at HS1
  have HIN := Lib.hid fun (h : d.R.length ≤ 60) (W : World) (hk : Keep NoF w W) => (show d.In W from ⟨hd1.kept hk fun _ _ h => h, by omega⟩)
  have H1 := Lib.hid fun (W : World) (h : d.In W) => Any_any d W h
  have H2 := Lib.hid fun (W : World) (h : d.In W) => rAny_any d W h
  have H3 := Lib.hid fun (W : World) (h : d.In W) => check_any d.V d.R d.root d.sl W h.2 h.1
  have H4 := Lib.hid fun (W : World) (h : d.In W) => rcheck_any d.V d.R d.root d.sl W h.2 h.1
  have H5 := Lib.hid fun (W : World) (h : d.In W) => Eval_any d s hs W h
  have H6 := Lib.hid fun (W : World) (h : d.In W) => rEval_any d s hs W h
  have H7 := Lib.hid fun (W : World) (h : d.In W) => Count_any d W h
  have H8 := Lib.hid fun (W : World) (h : d.In W) => rCount_any d W h
  have H9 := Lib.hid fun (W : World) (h : d.In W) => Support_any d W h
  have H10 := Lib.hid fun (W : World) (h : d.In W) => rSupport_any d W h
  have hcl : [d].flatMap Dg.cells = d.cells := by simp
  rw [hcl] at HS1
  generalize hp : d.In = P at *
  clear hp
  generalize anyD d = an at *
  obtain ⟨an, ab⟩ := an
  generalize evalD d s = ev at *
  generalize countD d = cn at *
  generalize suppD d = sp at *
  obtain ⟨V, R, root, sl⟩ := d
  simp only at hd1 hd2 HS1 HIN H3 H4
  obtain ⟨_, A, c, rfl, _, _⟩ := hd1
  simp only [Dg.val] at H1 H2 H5 H6 H7 H8 H9 H10 ⊢
  simp only [Dg.cells] at HS1
  generalize checkErr V R root = ck at *
  clear hsm hcl hd
  have e1 : (ck == ck) = true := by simp
  have e2 : (ev == ev) = true := by simp
  have e3 : ((cn : Int) == (cn : Int)) = true := by simp
  have e4 : ((sp : Int) == (sp : Int)) = true := by simp
  have e5 : ((an : Int) == (an : Int)) = true := by simp
  have e6 : (ab == ab) = true := by simp
  have k0 : Keep NoF w ((w.alloc (.cells #[.int .i64 V, .slice A R.length c, .int .i64 root] 24)).alloc (.cells #[.int .i64 V, .slice A R.length c, .int .i64 root] 24)) := ((Keep.refl _ _).alloc _).alloc _
  have HSC := Lib.hid (HS1.out _ _ k0 (rd_new (w := w.alloc (.cells #[.int .i64 V, .slice A R.length c, .int .i64 root] 24)) 24 #[.int .i64 V, .slice A R.length c, .int .i64 root] 3 1 1 (blk := w.heap.size + 1) (by simp) rfl (by omega)))
  have q0 : Bk ((w.alloc (.cells #[.int .i64 V, .slice A R.length c, .int .i64 root] 24)).alloc (.cells #[.int .i64 V, .slice A R.length c, .int .i64 root] 24)) w.heap.size 24 #[.int .i64 V, .slice A R.length c, .int .i64 root] := (Bk.new w _ _).alloc _
  clear HS1
  by_cases hsm : R.length ≤ 60
  · have hb : decide (R.length ≤ 60) = true := by simpa using hsm
    rw [hb] at HSC
    have HI := Lib.hid (HIN.out hsm)
    clear HIN hb hsm
    go_enter Try.func3, Try.ntmps3
    go_upto_region 3 with (go_at_call 11
                           (with_reducible refine HSC.out.mono ?_)
                           rintro e w1 ⟨rfl, k1⟩
                           have q1 := q0.keep k1 (fun h => h)
                           have u0 : w1.cell? ⟨w.heap.size, 0, none⟩ = some (.int .i64 V) := q1.cell 0
                           have u1 : w1.cell? ⟨w.heap.size, 1, none⟩ = some (.slice A R.length c) := q1.cell 1
                           have u2 : w1.cell? ⟨w.heap.size, 2, none⟩ = some (.int .i64 root) := q1.cell 2)
    have kw1 := k0.trans k1 fun _ _ h => h
    go_upto_region 5 with (first
                           | (go_at_call 13
                              (with_reducible refine (H1.out w1 (HI.out w1 kw1)).mono ?_)
                              rintro e w2 ⟨rfl, k2⟩
                              have q2 := q1.keep k2 (fun h => h)
                              have kw2 := kw1.trans k2 fun _ _ h => h
                              have u0 : w2.cell? ⟨w.heap.size, 0, none⟩ = some (.int .i64 V) := q2.cell 0
                              have u1 : w2.cell? ⟨w.heap.size, 1, none⟩ = some (.slice A R.length c) := q2.cell 1
                              have u2 : w2.cell? ⟨w.heap.size, 2, none⟩ = some (.int .i64 root) := q2.cell 2)
                           | (go_at_call 14
                              (with_reducible refine (H2.out w2 (HI.out w2 kw2)).mono ?_)
                              rintro e w3 ⟨rfl, k3⟩
                              have q3 := q2.keep k3 (fun h => h)
                              have kw3 := kw2.trans k3 fun _ _ h => h
                              have u0 : w3.cell? ⟨w.heap.size, 0, none⟩ = some (.int .i64 V) := q3.cell 0
                              have u1 : w3.cell? ⟨w.heap.size, 1, none⟩ = some (.slice A R.length c) := q3.cell 1
                              have u2 : w3.cell? ⟨w.heap.size, 2, none⟩ = some (.int .i64 root) := q3.cell 2))
    go_region_held3 (fun w' => w'.cell? ⟨w.heap.size, 0, none⟩ = some (.int .i64 V) ∧ w'.cell? ⟨w.heap.size, 1, none⟩ = some (.slice A R.length c) ∧ w'.cell? ⟨w.heap.size, 2, none⟩ = some (.int .i64 root))
      (first | with_reducible exact ⟨u0, u1, u2⟩ | exact ⟨u0, u1, u2⟩)
      (first
      | (go_at_call 12
         (with_reducible refine (awake_any _).mono ?_)
         rintro e w19 ⟨rfl, k19⟩
         have q19 := q18.keep k19 (fun h => h)
         have kw19 := kw18.trans k19 fun _ _ h => h
         have u0 : w19.cell? ⟨w.heap.size, 0, none⟩ = some (.int .i64 V) := q19.cell 0
         have u1 : w19.cell? ⟨w.heap.size, 1, none⟩ = some (.slice A R.length c) := q19.cell 1
         have u2 : w19.cell? ⟨w.heap.size, 2, none⟩ = some (.int .i64 root) := q19.cell 2)
      | (go_at_call 22
         (with_reducible refine (H10.out w17 (HI.out w17 kw17)).mono ?_)
         rintro e w18 ⟨rfl, k18⟩
         have q18 := q17.keep k18 (fun h => h)
         have kw18 := kw17.trans k18 fun _ _ h => h
         have u0 : w18.cell? ⟨w.heap.size, 0, none⟩ = some (.int .i64 V) := q18.cell 0
         have u1 : w18.cell? ⟨w.heap.size, 1, none⟩ = some (.slice A R.length c) := q18.cell 1
         have u2 : w18.cell? ⟨w.heap.size, 2, none⟩ = some (.int .i64 root) := q18.cell 2)
      | (go_at_call 21
         (with_reducible refine (H9.out w16 (HI.out w16 kw16)).mono ?_)
         rintro e w17 ⟨rfl, k17⟩
         have q17 := q16.keep k17 (fun h => h)
         have kw17 := kw16.trans k17 fun _ _ h => h
         have u0 : w17.cell? ⟨w.heap.size, 0, none⟩ = some (.int .i64 V) := q17.cell 0
         have u1 : w17.cell? ⟨w.heap.size, 1, none⟩ = some (.slice A R.length c) := q17.cell 1
         have u2 : w17.cell? ⟨w.heap.size, 2, none⟩ = some (.int .i64 root) := q17.cell 2)
      | (go_at_call 20
         (with_reducible refine (H8.out w15 (HI.out w15 kw15)).mono ?_)
         rintro e w16 ⟨rfl, k16⟩
         have q16 := q15.keep k16 (fun h => h)
         have kw16 := kw15.trans k16 fun _ _ h => h
         have u0 : w16.cell? ⟨w.heap.size, 0, none⟩ = some (.int .i64 V) := q16.cell 0
         have u1 : w16.cell? ⟨w.heap.size, 1, none⟩ = some (.slice A R.length c) := q16.cell 1
         have u2 : w16.cell? ⟨w.heap.size, 2, none⟩ = some (.int .i64 root) := q16.cell 2)
      | (go_at_call 19
         (with_reducible refine (H7.out w14 (HI.out w14 kw14)).mono ?_)
         rintro e w15 ⟨rfl, k15⟩
         have q15 := q14.keep k15 (fun h => h)
         have kw15 := kw14.trans k15 fun _ _ h => h
         have u0 : w15.cell? ⟨w.heap.size, 0, none⟩ = some (.int .i64 V) := q15.cell 0
         have u1 : w15.cell? ⟨w.heap.size, 1, none⟩ = some (.slice A R.length c) := q15.cell 1
         have u2 : w15.cell? ⟨w.heap.size, 2, none⟩ = some (.int .i64 root) := q15.cell 2)
      | (go_at_call 18
         (with_reducible refine (H6.out w13 (HI.out w13 kw13)).mono ?_)
         rintro e w14 ⟨rfl, k14⟩
         have q14 := q13.keep k14 (fun h => h)
         have kw14 := kw13.trans k14 fun _ _ h => h
         have u0 : w14.cell? ⟨w.heap.size, 0, none⟩ = some (.int .i64 V) := q14.cell 0
         have u1 : w14.cell? ⟨w.heap.size, 1, none⟩ = some (.slice A R.length c) := q14.cell 1
         have u2 : w14.cell? ⟨w.heap.size, 2, none⟩ = some (.int .i64 root) := q14.cell 2)
      | (go_at_call 17
         (with_reducible refine (H5.out w12 (HI.out w12 kw12)).mono ?_)
         rintro e w13 ⟨rfl, k13⟩
         have q13 := q12.keep k13 (fun h => h)
         have kw13 := kw12.trans k13 fun _ _ h => h
         have u0 : w13.cell? ⟨w.heap.size, 0, none⟩ = some (.int .i64 V) := q13.cell 0
         have u1 : w13.cell? ⟨w.heap.size, 1, none⟩ = some (.slice A R.length c) := q13.cell 1
         have u2 : w13.cell? ⟨w.heap.size, 2, none⟩ = some (.int .i64 root) := q13.cell 2)
      | (go_at_call 16
         (with_reducible refine (H4.out w11 (HI.out w11 kw11)).mono ?_)
         rintro e w12 ⟨rfl, k12⟩
         have q12 := q11.keep k12 (fun h => h)
         have kw12 := kw11.trans k12 fun _ _ h => h
         have u0 : w12.cell? ⟨w.heap.size, 0, none⟩ = some (.int .i64 V) := q12.cell 0
         have u1 : w12.cell? ⟨w.heap.size, 1, none⟩ = some (.slice A R.length c) := q12.cell 1
         have u2 : w12.cell? ⟨w.heap.size, 2, none⟩ = some (.int .i64 root) := q12.cell 2)
      | (go_at_call 15
         (with_reducible refine (H3.out w3.drew (HI.out w3.drew (kw3.drew))).mono ?_)
         rintro e w11 ⟨rfl, k11⟩
         have k11 : Keep NoF w3 w11 := (Keep.refl NoF w3).drew.trans k11 fun _ _ h => h
         have q11 := q3.keep k11 (fun h => h)
         have kw11 := kw3.trans k11 fun _ _ h => h
         have u0 : w11.cell? ⟨w.heap.size, 0, none⟩ = some (.int .i64 V) := q11.cell 0
         have u1 : w11.cell? ⟨w.heap.size, 1, none⟩ = some (.slice A R.length c) := q11.cell 1
         have u2 : w11.cell? ⟨w.heap.size, 2, none⟩ = some (.int .i64 root) := q11.cell 2))
    go_wp2
    go_ret
    exact ⟨rfl, kw19⟩
  · have hb : decide (R.length ≤ 60) = false := by simpa using hsm
    rw [hb] at HSC
    clear HIN hb H1 H2 H3 H4 H5 H6 H7 H8 H9 H10
    go_enter Try.func3, Try.ntmps3
    go_wp2_with (first
      | (go_at_call 11
         (with_reducible refine HSC.out.mono ?_)
         rintro e w1 ⟨rfl, k1⟩)
      | (go_at_call 12
         (with_reducible refine (awake_any w1).mono ?_)
         rintro e w2 ⟨rfl, k2⟩))
    go_ret
    exact ⟨rfl, (k0.trans k1 fun _ _ h => h).trans k2 fun _ _ h => h⟩

theorem walk_BddChecks (d : Dg) (a1 : Int) (w : World) (hd : d.Has w) (w1 : (Lit.int .u64 a1).wf = true) :
    Calls Try.prog 3 #[d.val, .int .u64 a1] w fun e w' => e = .returned (.bool true) ∧ Keep NoF w w' := by
  have b1 := bounds_u64 w1
  obtain ⟨s, rfl⟩ := Int.eq_ofNat_of_zero_le (show 0 ≤ a1 by omega)
  exact walkN_BddChecks d s (by omega) w hd
end Go.Proofs.Ytengdldkkmknpaa
