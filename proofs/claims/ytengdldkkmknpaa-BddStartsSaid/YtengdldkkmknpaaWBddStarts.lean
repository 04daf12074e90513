/- The walk of the law BddStarts. No condition. -/
import Derived.Test.YtengdldkkmknpaaAwake
import Derived.Test.YtengdldkkmknpaaRConst
set_option linter.unusedVariables false
set_option linter.unusedSimpArgs false
namespace Go.Proofs.Ytengdldkkmknpaa
open Go.RowKit
open Dd (Rn)

/-- A diagram with its error, as numbers. -/
def StPost (w : World) (V' r' : Int) (R : List Rn) (err : Int) (e : Ending) (w' : World) : Prop :=
  ∃ A c, e = .returned (.tuple #[.agg #[.int .i64 V', .slice A R.length c, .int .i64 r'], .int .i64 err]) ∧ Rd w' (.slice A R.length c) 3 R.length (rnsC R) ∧ Keep NoF w w'
def cnV (V : Int) : Int := if V < 0 ∨ 24 < V then 0 else V
def cnr (V : Int) (t : Bool) : Int := if V < 0 ∨ 24 < V then 0 else if t then 1 else 0
def cne (V : Int) : Int := if V < 0 ∨ 24 < V then 2 else 0
theorem cn_post {w : World} {V : Int} {t : Bool} {e : Ending} {w' : World}
    (h : (e = if V < 0 ∨ 24 < V then .returned (.tuple #[dgZero, .int .i64 2]) else .returned (.tuple #[.agg #[.int .i64 V, .slice none 0 0, .int .i64 (if t then 1 else 0)], .int .i64 0])) ∧ Keep NoF w w') : StPost w (cnV V) (cnr V t) [] (cne V) e w' := by
  obtain ⟨rfl, hk⟩ := h
  unfold cnV cnr cne
  by_cases hc : V < 0 ∨ 24 < V
  · simp only [hc, if_true]
    exact ⟨none, 0, rfl, Rd.nil _ _, hk⟩
  · simp only [hc, if_false]
    exact ⟨none, 0, rfl, Rd.nil _ _, hk⟩
def vaV (V i : Int) : Int := if varErr V i = 0 then V else 0
def var_ (V i : Int) : Int := if varErr V i = 0 then 2 else 0
def vaR (V i : Int) : List Rn := if varErr V i = 0 then [(i, 0, 1)] else []
theorem va_post {w : World} {V i : Int} {e : Ending} {w' : World}
    (h : (varErr V i ≠ 0 → e = .returned (.tuple #[dgZero, .int .i64 2])) ∧ (varErr V i = 0 → ∃ sl, e = .returned (.tuple #[.agg #[.int .i64 V, sl, .int .i64 2], .int .i64 0]) ∧ Rd w' sl 3 1 [.int .i64 i, .int .i64 0, .int .i64 1] ∧ ∀ k, sl.ownBlock = some k → w.heap.size ≤ k) ∧ Keep NoF w w') :
    StPost w (vaV V i) (var_ V i) (vaR V i) (varErr V i) e w' := by
  obtain ⟨h1, h2, hk⟩ := h
  unfold vaV var_ vaR
  by_cases hc : varErr V i = 0
  · simp only [hc, if_true]
    obtain ⟨sl, he, hr, _⟩ := h2 hc
    have hr2 := hr
    obtain ⟨_, A, c, rfl, _, _⟩ := hr2
    exact ⟨A, c, he, hr, hk⟩
  · have he := h1 hc
    have hv : varErr V i = 2 := by unfold varErr at hc ⊢; split <;> simp_all
    simp only [hc, if_false]
    rw [hv]
    exact ⟨none, 0, he, Rd.nil _ _, hk⟩
theorem same_st {w : World} (V r : Int) (R : List Rn) (A B : Option Addr) (c d : Nat) (hR : R.length ≤ 1) (h1 : Rd w (.slice A R.length c) 3 R.length (rnsC R)) (h2 : Rd w (.slice B R.length d) 3 R.length (rnsC R)) :
    Calls Try.prog 25 #[.agg #[.int .i64 V, .slice A R.length c, .int .i64 r], .agg #[.int .i64 V, .slice B R.length d, .int .i64 r]] w fun e w' => e = .returned (.bool true) ∧ Keep NoF w w' := by
  have h := Same_any ⟨V, R, r, .slice A R.length c⟩ ⟨V, R, r, .slice B R.length d⟩ w ⟨h1, by simp only; omega⟩ ⟨h2, by simp only; omega⟩
  refine h.mono fun e w' ⟨he, hk⟩ => ⟨?_, hk⟩
  rw [he]
  simp [sameD]

set_option maxRecDepth 100000 in
set_option maxHeartbeats 2000000 in
theorem walk_BddStarts (a0 : Int) (a1 : Int) (a2 : Bool) (w0 : (Lit.int .i64 a0).wf = true) (w1 : (Lit.int .i64 a1).wf = true) (w : World) :
    Calls Try.prog 5 #[.int .i64 a0, .int .i64 a1, .bool a2] w fun e w' => e = .returned (.bool true) ∧ Keep NoF w w' := by
  have H1 := fun (W : World) => (Const_any a0 a2 W).mono fun _ _ h => cn_post h
  have H2 := fun (W : World) => (rConst_any a0 a2 W).mono fun _ _ h => cn_post h
  have H3 := fun (W : World) => (Var_any a0 a1 W).mono fun _ _ h => va_post h
  have H4 := fun (W : World) => (rVar_any a0 a1 W).mono fun _ _ h => va_post h
  have hl : (vaR a0 a1).length ≤ 1 := by unfold vaR; split <;> simp
  generalize cnV a0 = V1 at *
  generalize cnr a0 a2 = r1 at *
  generalize cne a0 = e1 at *
  generalize vaV a0 a1 = V2 at *
  generalize var_ a0 a1 = r2 at *
  generalize vaR a0 a1 = R at *
  generalize varErr a0 a1 = e2 at *
  obtain ⟨R1, hR1⟩ : ∃ R1 : List Rn, R1 = [] := ⟨_, rfl⟩
  rw [← hR1] at H1 H2
  have hl1 : R1.length ≤ 1 := by rw [hR1]; simp
  clear hR1
  have h1 := Lib.hid H1
  have h2 := Lib.hid H2
  have h3 := Lib.hid H3
  have h4 := Lib.hid H4
  have t1 : (e1 == e1) = true := by simp
  have t2 : (e2 == e2) = true := by simp
  clear H1 H2 H3 H4

  go_enter Try.func5, Try.ntmps5
  go_upto_region 2 with (go_at_call 34
                         (with_reducible refine (h1.out _).mono ?_)
                         rintro e w1 ⟨Aa, ca, rfl, da, ka⟩)
  have kka : Keep NoF w1 (w1.alloc (.cells #[.int .i64 V1, .slice Aa R1.length ca, .int .i64 r1] 24)) := (Keep.refl _ _).alloc _
  have qa := Bk.new w1 24 #[.int .i64 V1, .slice Aa R1.length ca, .int .i64 r1]
  have fa := da.kept kka fun _ _ h => h
  have kw : Keep NoF w _ := ka.trans kka fun _ _ h => h
  clear da ka kka
  generalize (w1.alloc (.cells #[.int .i64 V1, .slice Aa R1.length ca, .int .i64 r1] 24)) = W1 at *
  have la := qa.lt
  go_upto_region 3 with (go_at_call 35
                         (with_reducible refine (h2.out _).mono ?_)
                         rintro e w2 ⟨Ab, cb, rfl, db, kb⟩)
  have kkb : Keep NoF w2 (w2.alloc (.cells #[.int .i64 V1, .slice Ab R1.length cb, .int .i64 r1] 24)) := (Keep.refl _ _).alloc _
  have qb := Bk.new w2 24 #[.int .i64 V1, .slice Ab R1.length cb, .int .i64 r1]
  have fb := db.kept kkb fun _ _ h => h
  have qa := (qa.keep kb (fun h => h)).keep kkb (fun h => h)
  have fa := (fa.kept kb fun _ _ h => h).kept kkb fun _ _ h => h
  have kw : Keep NoF w _ := (kw.trans kb fun _ _ h => h).trans kkb fun _ _ h => h
  clear db kb kkb
  generalize (w2.alloc (.cells #[.int .i64 V1, .slice Ab R1.length cb, .int .i64 r1] 24)) = W2 at *
  have la := qa.lt
  have lb := qb.lt
  go_upto_region 4 with (go_at_call 36
                         (with_reducible refine (h3.out _).mono ?_)
                         rintro e w3 ⟨Ac, cc, rfl, dc, kc⟩)
  have kkc : Keep NoF w3 (w3.alloc (.cells #[.int .i64 V2, .slice Ac R.length cc, .int .i64 r2] 24)) := (Keep.refl _ _).alloc _
  have qc := Bk.new w3 24 #[.int .i64 V2, .slice Ac R.length cc, .int .i64 r2]
  have fc := dc.kept kkc fun _ _ h => h
  have qa := (qa.keep kc (fun h => h)).keep kkc (fun h => h)
  have fa := (fa.kept kc fun _ _ h => h).kept kkc fun _ _ h => h
  have qb := (qb.keep kc (fun h => h)).keep kkc (fun h => h)
  have fb := (fb.kept kc fun _ _ h => h).kept kkc fun _ _ h => h
  have kw : Keep NoF w _ := (kw.trans kc fun _ _ h => h).trans kkc fun _ _ h => h
  clear dc kc kkc
  generalize (w3.alloc (.cells #[.int .i64 V2, .slice Ac R.length cc, .int .i64 r2] 24)) = W3 at *
  have la := qa.lt
  have lb := qb.lt
  have lc := qc.lt
  go_upto_region 5 with (go_at_call 37
                         (with_reducible refine (h4.out _).mono ?_)
                         rintro e w4 ⟨Ad, cd, rfl, dd, kd⟩)
  have kkd : Keep NoF w4 (w4.alloc (.cells #[.int .i64 V2, .slice Ad R.length cd, .int .i64 r2] 24)) := (Keep.refl _ _).alloc _
  have qd := Bk.new w4 24 #[.int .i64 V2, .slice Ad R.length cd, .int .i64 r2]
  have fd := dd.kept kkd fun _ _ h => h
  have qa := (qa.keep kd (fun h => h)).keep kkd (fun h => h)
  have fa := (fa.kept kd fun _ _ h => h).kept kkd fun _ _ h => h
  have qb := (qb.keep kd (fun h => h)).keep kkd (fun h => h)
  have fb := (fb.kept kd fun _ _ h => h).kept kkd fun _ _ h => h
  have qc := (qc.keep kd (fun h => h)).keep kkd (fun h => h)
  have fc := (fc.kept kd fun _ _ h => h).kept kkd fun _ _ h => h
  have kw : Keep NoF w _ := (kw.trans kd fun _ _ h => h).trans kkd fun _ _ h => h
  clear dd kd kkd
  generalize (w4.alloc (.cells #[.int .i64 V2, .slice Ad R.length cd, .int .i64 r2] 24)) = W4 at *
  have la := qa.lt
  have lb := qb.lt
  have lc := qc.lt
  have ld := qd.lt
  have ua0 : W4.cell? ⟨w1.heap.size, 0, none⟩ = some (.int .i64 V1) := qa.cell 0
  have ua1 : W4.cell? ⟨w1.heap.size, 1, none⟩ = some (.slice Aa R1.length ca) := qa.cell 1
  have ua2 : W4.cell? ⟨w1.heap.size, 2, none⟩ = some (.int .i64 r1) := qa.cell 2
  have ub0 : W4.cell? ⟨w2.heap.size, 0, none⟩ = some (.int .i64 V1) := qb.cell 0
  have ub1 : W4.cell? ⟨w2.heap.size, 1, none⟩ = some (.slice Ab R1.length cb) := qb.cell 1
  have ub2 : W4.cell? ⟨w2.heap.size, 2, none⟩ = some (.int .i64 r1) := qb.cell 2
  have uc0 : W4.cell? ⟨w3.heap.size, 0, none⟩ = some (.int .i64 V2) := qc.cell 0
  have uc1 : W4.cell? ⟨w3.heap.size, 1, none⟩ = some (.slice Ac R.length cc) := qc.cell 1
  have uc2 : W4.cell? ⟨w3.heap.size, 2, none⟩ = some (.int .i64 r2) := qc.cell 2
  have ud0 : W4.cell? ⟨w4.heap.size, 0, none⟩ = some (.int .i64 V2) := qd.cell 0
  have ud1 : W4.cell? ⟨w4.heap.size, 1, none⟩ = some (.slice Ad R.length cd) := qd.cell 1
  have ud2 : W4.cell? ⟨w4.heap.size, 2, none⟩ = some (.int .i64 r2) := qd.cell 2
  have s1 := Lib.hid (same_st (w := W4) V1 r1 R1 Aa Ab ca cb hl1 fa fb)
  have s2 := Lib.hid fun (W : World) (hk : Keep NoF W4 W) => same_st (w := W) V2 r2 R Ac Ad cc cd hl (fc.kept hk fun _ _ h => h) (fd.kept hk fun _ _ h => h)
  have kw4 := kw
  clear kw fa fb fc fd h1 h2 h3 h4 hl hl1
  go_wp2_with (first
    | (go_at_call 12
       (with_reducible refine (awake_any w6).mono ?_)
       rintro e w7 ⟨rfl, k7⟩)
    | (go_at_call 25
       (with_reducible refine (s2.out w5 k5).mono ?_)
       rintro e w6 ⟨rfl, k6⟩)
    | (go_at_call 25
       (with_reducible refine s1.out.mono ?_)
       rintro e w5 ⟨rfl, k5⟩
       have qc := qc.keep k5 (fun h => h)
       have qd := qd.keep k5 (fun h => h)
       have uc0 : w5.cell? ⟨w3.heap.size, 0, none⟩ = some (.int .i64 V2) := qc.cell 0
       have uc1 : w5.cell? ⟨w3.heap.size, 1, none⟩ = some (.slice Ac R.length cc) := qc.cell 1
       have uc2 : w5.cell? ⟨w3.heap.size, 2, none⟩ = some (.int .i64 r2) := qc.cell 2
       have ud0 : w5.cell? ⟨w4.heap.size, 0, none⟩ = some (.int .i64 V2) := qd.cell 0
       have ud1 : w5.cell? ⟨w4.heap.size, 1, none⟩ = some (.slice Ad R.length cd) := qd.cell 1
       have ud2 : w5.cell? ⟨w4.heap.size, 2, none⟩ = some (.int .i64 r2) := qd.cell 2))
  go_ret
  exact ⟨rfl, ((kw4.trans k5 fun _ _ h => h).trans k6 fun _ _ h => h).trans k7 fun _ _ h => h⟩
end Go.Proofs.Ytengdldkkmknpaa
