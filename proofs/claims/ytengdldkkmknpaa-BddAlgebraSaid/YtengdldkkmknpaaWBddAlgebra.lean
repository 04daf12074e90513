/- The walk of the law BddAlgebra. No condition. -/
import Derived.Test.YtengdldkkmknpaaAlg
import Derived.OpenShut
set_option linter.unusedVariables false
set_option linter.unusedSimpArgs false
namespace Go.Proofs.Ytengdldkkmknpaa
open Go.RowKit

structure AlgF (W : World) (f g h : BF) (ba bb bc : Nat) (Aa : Option Addr) (na ca ra : Nat) (Ab : Option Addr) (nb cb rb : Nat) (Ac : Option Addr) (nc cc rc : Nat) : Prop where
  a : Bk W ba 24 #[.int .i64 4, .slice Aa na ca, .int .i64 ra]
  b : Bk W bb 24 #[.int .i64 4, .slice Ab nb cb, .int .i64 rb]
  c : Bk W bc 24 #[.int .i64 4, .slice Ac nc cc, .int .i64 rc]
  fa : IsD W 4 f Aa na ca ra
  fb : IsD W 4 g Ab nb cb rb
  fc : IsD W 4 h Ac nc cc rc
theorem AlgF.keep {W W' : World} {f g h : BF} {ba bb bc : Nat} {Aa : Option Addr} {na ca ra : Nat} {Ab : Option Addr} {nb cb rb : Nat} {Ac : Option Addr} {nc cc rc : Nat} (k : AlgF W f g h ba bb bc Aa na ca ra Ab nb cb rb Ac nc cc rc) (hk : Keep NoF W W') :
    AlgF W' f g h ba bb bc Aa na ca ra Ab nb cb rb Ac nc cc rc :=
  ⟨k.a.keep hk fun h => h, k.b.keep hk fun h => h, k.c.keep hk fun h => h, k.fa.keep hk, k.fb.keep hk, k.fc.keep hk⟩

set_option maxRecDepth 100000 in
set_option maxHeartbeats 8000000 in
theorem walk_BddAlgebra (a0 a1 a2 : Int) (w0 : (Lit.int .u64 a0).wf = true) (w1 : (Lit.int .u64 a1).wf = true) (w2 : (Lit.int .u64 a2).wf = true) (w : World) :
    Calls Try.prog 8 #[.int .u64 a0, .int .u64 a1, .int .u64 a2] w fun e w' => e = .returned (.bool true) ∧ Keep NoF w w' := by
  have b0 := bounds_u64 w0
  have b1 := bounds_u64 w1
  have b2 := bounds_u64 w2
  clear w0 w1 w2
  obtain ⟨t0, rfl⟩ := Int.eq_ofNat_of_zero_le (show 0 ≤ a0 by omega)
  obtain ⟨t1, rfl⟩ := Int.eq_ofNat_of_zero_le (show 0 ≤ a1 by omega)
  obtain ⟨t2, rfl⟩ := Int.eq_ofNat_of_zero_le (show 0 ≤ a2 by omega)
  have HB := Lib.hid fun (t : Nat) (ht : t < 18446744073709551616) (W : World) (gb : Nat) (h : W.cell? ⟨gb, 0, none⟩ = some (.int .u64 t)) => (build_any 4 t ht (by omega) W gb 0 1 h).mono fun _ _ h => h.b4
  have HT0 : Hid (t0 < 18446744073709551616) := Lib.hid (by omega)
  have HT1 : Hid (t1 < 18446744073709551616) := Lib.hid (by omega)
  have HT2 : Hid (t2 < 18446744073709551616) := Lib.hid (by omega)
  clear b0 b1 b2
  have HB0 : Hid (∀ (W : World) (gb : Nat), W.cell? ⟨gb, 0, none⟩ = some (.int .u64 t0) → Calls Try.prog 38 #[.int .i64 4, .slice (some ⟨gb, 0, none⟩) 1 1] W (B4 W (tf t0 4 0 0))) := Lib.hid (HB.out t0 HT0.out)
  have HB1 : Hid (∀ (W : World) (gb : Nat), W.cell? ⟨gb, 0, none⟩ = some (.int .u64 t1) → Calls Try.prog 38 #[.int .i64 4, .slice (some ⟨gb, 0, none⟩) 1 1] W (B4 W (tf t1 4 0 0))) := Lib.hid (HB.out t1 HT1.out)
  have HB2 : Hid (∀ (W : World) (gb : Nat), W.cell? ⟨gb, 0, none⟩ = some (.int .u64 t2) → Calls Try.prog 38 #[.int .i64 4, .slice (some ⟨gb, 0, none⟩) 1 1] W (B4 W (tf t2 4 0 0))) := Lib.hid (HB.out t2 HT2.out)
  clear HB HT0 HT1 HT2
  generalize tf t0 4 0 0 = f at *
  generalize tf t1 4 0 0 = g at *
  generalize tf t2 4 0 0 = h at *
  have P1 : Hid (∀ ρ, (!(f ρ && g ρ)) = (!f ρ || !g ρ)) := Lib.hid fun ρ => by cases f ρ <;> cases g ρ <;> rfl
  have P2 : Hid (∀ ρ, (f ρ && (g ρ || h ρ)) = (f ρ && g ρ || f ρ && h ρ)) := Lib.hid fun ρ => by cases f ρ <;> cases g ρ <;> cases h ρ <;> rfl
  have P3 : Hid (∀ ρ, (f ρ || f ρ && g ρ) = f ρ) := Lib.hid fun ρ => by cases f ρ <;> cases g ρ <;> rfl
  have P4 : Hid (∀ ρ, (!!f ρ) = f ρ) := Lib.hid fun ρ => by cases f ρ <;> rfl
  have P5 : Hid (∀ ρ, (f ρ && g ρ) = (g ρ && f ρ)) := Lib.hid fun ρ => by cases f ρ <;> cases g ρ <;> rfl
  go_enter Try.func8, Try.ntmps8
  go_upto_region 2 with (go_at_call 38
                         (with_reducible refine (HB0.out _ _ (by simp [go_sem])).mono ?_)
                         rintro e w1 ⟨Aa, na, ca, ra, rfl, da, ka⟩)
  have kk : Keep NoF w (w1.alloc (.cells #[.int .i64 4, .slice Aa na ca, .int .i64 ra] 24)) := (((Keep.refl NoF w).alloc (.cells #[.int .u64 t0] 25)).trans ka fun _ _ h => h).alloc _
  have qa := Bk.new w1 24 #[.int .i64 4, .slice Aa na ca, .int .i64 ra]
  have fa := da.keep ((Keep.refl NoF w1).alloc (.cells #[.int .i64 4, .slice Aa na ca, .int .i64 ra] 24))
  have kw : Keep NoF w _ := kk
  clear da ka kk
  generalize (w1.alloc (.cells #[.int .i64 4, .slice Aa na ca, .int .i64 ra] 24)) = W1 at *
  go_upto_region 3 with (go_at_call 38
                         (with_reducible refine (HB1.out _ _ (by simp [go_sem])).mono ?_)
                         rintro e w2 ⟨Ab, nb, cb, rb, rfl, db, kb⟩)
  have kk : Keep NoF W1 (w2.alloc (.cells #[.int .i64 4, .slice Ab nb cb, .int .i64 rb] 24)) := (((Keep.refl NoF W1).alloc (.cells #[.int .u64 t1] 25)).trans kb fun _ _ h => h).alloc _
  have qb := Bk.new w2 24 #[.int .i64 4, .slice Ab nb cb, .int .i64 rb]
  have fb := db.keep ((Keep.refl NoF w2).alloc (.cells #[.int .i64 4, .slice Ab nb cb, .int .i64 rb] 24))
  have qa := qa.keep kk (fun h => h)
  have fa := fa.keep kk
  have kw : Keep NoF w _ := kw.trans kk fun _ _ h => h
  clear db kb kk
  generalize (w2.alloc (.cells #[.int .i64 4, .slice Ab nb cb, .int .i64 rb] 24)) = W2 at *
  go_upto_region 9 with (go_at_call 38
                         (with_reducible refine (HB2.out _ _ (by simp [go_sem])).mono ?_)
                         rintro e w3 ⟨Ac, nc, cc, rc, rfl, dc, kc⟩)
  have kk : Keep NoF W2 (w3.alloc (.cells #[.int .i64 4, .slice Ac nc cc, .int .i64 rc] 24)) := (((Keep.refl NoF W2).alloc (.cells #[.int .u64 t2] 25)).trans kc fun _ _ h => h).alloc _
  have qc := Bk.new w3 24 #[.int .i64 4, .slice Ac nc cc, .int .i64 rc]
  have fc := dc.keep ((Keep.refl NoF w3).alloc (.cells #[.int .i64 4, .slice Ac nc cc, .int .i64 rc] 24))
  have qa := qa.keep kk (fun h => h)
  have fa := fa.keep kk
  have qb := qb.keep kk (fun h => h)
  have fb := fb.keep kk
  have kw : Keep NoF w _ := kw.trans kk fun _ _ h => h
  clear dc kc kk
  generalize (w3.alloc (.cells #[.int .i64 4, .slice Ac nc cc, .int .i64 rc] 24)) = W3 at *
  have F0 : AlgF W3 f g h w1.heap.size w2.heap.size w3.heap.size Aa na ca ra Ab nb cb rb Ac nc cc rc := ⟨qa, qb, qc, fa, fb, fc⟩
  have kw0 := kw
  clear HB0 HB1 HB2 kw qa qb qc fa fb fc
  have ua0 : W3.cell? ⟨w1.heap.size, 0, none⟩ = some (.int .i64 4) := F0.a.cell 0
  have ua1 : W3.cell? ⟨w1.heap.size, 1, none⟩ = some (.slice Aa na ca) := F0.a.cell 1
  have ua2 : W3.cell? ⟨w1.heap.size, 2, none⟩ = some (.int .i64 ra) := F0.a.cell 2
  have ub0 : W3.cell? ⟨w2.heap.size, 0, none⟩ = some (.int .i64 4) := F0.b.cell 0
  have ub1 : W3.cell? ⟨w2.heap.size, 1, none⟩ = some (.slice Ab nb cb) := F0.b.cell 1
  have ub2 : W3.cell? ⟨w2.heap.size, 2, none⟩ = some (.int .i64 rb) := F0.b.cell 2
  have uc0 : W3.cell? ⟨w3.heap.size, 0, none⟩ = some (.int .i64 4) := F0.c.cell 0
  have uc1 : W3.cell? ⟨w3.heap.size, 1, none⟩ = some (.slice Ac nc cc) := F0.c.cell 1
  have uc2 : W3.cell? ⟨w3.heap.size, 2, none⟩ = some (.int .i64 rc) := F0.c.cell 2
  go_cut [80] (fun v80 wc => v80 = .bool false ∧ AlgF wc f g h w1.heap.size w2.heap.size w3.heap.size Aa na ca ra Ab nb cb rb Ac nc cc rc ∧ Keep NoF w wc)
  case first =>
    go_region_held3 (fun w' => w'.cell? ⟨w1.heap.size, 0, none⟩ = some (.int .i64 4) ∧ w'.cell? ⟨w1.heap.size, 1, none⟩ = some (.slice Aa na ca) ∧ w'.cell? ⟨w1.heap.size, 2, none⟩ = some (.int .i64 ra) ∧ w'.cell? ⟨w2.heap.size, 0, none⟩ = some (.int .i64 4) ∧ w'.cell? ⟨w2.heap.size, 1, none⟩ = some (.slice Ab nb cb) ∧ w'.cell? ⟨w2.heap.size, 2, none⟩ = some (.int .i64 rb) ∧ w'.cell? ⟨w3.heap.size, 0, none⟩ = some (.int .i64 4) ∧ w'.cell? ⟨w3.heap.size, 1, none⟩ = some (.slice Ac nc cc) ∧ w'.cell? ⟨w3.heap.size, 2, none⟩ = some (.int .i64 rc))
      (first | with_reducible exact ⟨ua0, ua1, ua2, ub0, ub1, ub2, uc0, uc1, uc2⟩ | exact ⟨ua0, ua1, ua2, ub0, ub1, ub2, uc0, uc1, uc2⟩)
      (first
    | (go_at_call 25
       (with_reducible refine (a4_same d8 d11 P2.out).mono ?_)
       rintro e w22 ⟨rfl, k22⟩
       have F22 := F21.keep k22
       have kw22 := kw21.trans k22 fun _ _ h => h
       have d1 := d1.keep k22
       have d10 := d10.keep k22
       have d11 := d11.keep k22
       have d2 := d2.keep k22
       have d3 := d3.keep k22
       have d4 := d4.keep k22
       have d5 := d5.keep k22
       have d7 := d7.keep k22
       have d8 := d8.keep k22
       have d9 := d9.keep k22
       have ua0 : w22.cell? ⟨w1.heap.size, 0, none⟩ = some (.int .i64 4) := F22.a.cell 0
       have ua1 : w22.cell? ⟨w1.heap.size, 1, none⟩ = some (.slice Aa na ca) := F22.a.cell 1
       have ua2 : w22.cell? ⟨w1.heap.size, 2, none⟩ = some (.int .i64 ra) := F22.a.cell 2
       have ub0 : w22.cell? ⟨w2.heap.size, 0, none⟩ = some (.int .i64 4) := F22.b.cell 0
       have ub1 : w22.cell? ⟨w2.heap.size, 1, none⟩ = some (.slice Ab nb cb) := F22.b.cell 1
       have ub2 : w22.cell? ⟨w2.heap.size, 2, none⟩ = some (.int .i64 rb) := F22.b.cell 2
       have uc0 : w22.cell? ⟨w3.heap.size, 0, none⟩ = some (.int .i64 4) := F22.c.cell 0
       have uc1 : w22.cell? ⟨w3.heap.size, 1, none⟩ = some (.slice Ac nc cc) := F22.c.cell 1
       have uc2 : w22.cell? ⟨w3.heap.size, 2, none⟩ = some (.int .i64 rc) := F22.c.cell 2)
    | (go_at_call 41
       (with_reducible refine (alg_or d9 d10).mono ?_)
       rintro e w21 ⟨A11, n11, c11, r11, rfl, d11, k21⟩
       have F21 := F20.keep k21
       have kw21 := kw20.trans k21 fun _ _ h => h
       have d1 := d1.keep k21
       have d10 := d10.keep k21
       have d2 := d2.keep k21
       have d3 := d3.keep k21
       have d4 := d4.keep k21
       have d5 := d5.keep k21
       have d7 := d7.keep k21
       have d8 := d8.keep k21
       have d9 := d9.keep k21
       have ua0 : w21.cell? ⟨w1.heap.size, 0, none⟩ = some (.int .i64 4) := F21.a.cell 0
       have ua1 : w21.cell? ⟨w1.heap.size, 1, none⟩ = some (.slice Aa na ca) := F21.a.cell 1
       have ua2 : w21.cell? ⟨w1.heap.size, 2, none⟩ = some (.int .i64 ra) := F21.a.cell 2
       have ub0 : w21.cell? ⟨w2.heap.size, 0, none⟩ = some (.int .i64 4) := F21.b.cell 0
       have ub1 : w21.cell? ⟨w2.heap.size, 1, none⟩ = some (.slice Ab nb cb) := F21.b.cell 1
       have ub2 : w21.cell? ⟨w2.heap.size, 2, none⟩ = some (.int .i64 rb) := F21.b.cell 2
       have uc0 : w21.cell? ⟨w3.heap.size, 0, none⟩ = some (.int .i64 4) := F21.c.cell 0
       have uc1 : w21.cell? ⟨w3.heap.size, 1, none⟩ = some (.slice Ac nc cc) := F21.c.cell 1
       have uc2 : w21.cell? ⟨w3.heap.size, 2, none⟩ = some (.int .i64 rc) := F21.c.cell 2)
    | (go_at_call 40
       (with_reducible refine (alg_and F19.fa F19.fc).mono ?_)
       rintro e w20 ⟨A10, n10, c10, r10, rfl, d10, k20⟩
       have F20 := F19.keep k20
       have kw20 := kw19.trans k20 fun _ _ h => h
       have d1 := d1.keep k20
       have d2 := d2.keep k20
       have d3 := d3.keep k20
       have d4 := d4.keep k20
       have d5 := d5.keep k20
       have d7 := d7.keep k20
       have d8 := d8.keep k20
       have d9 := d9.keep k20
       have ua0 : w20.cell? ⟨w1.heap.size, 0, none⟩ = some (.int .i64 4) := F20.a.cell 0
       have ua1 : w20.cell? ⟨w1.heap.size, 1, none⟩ = some (.slice Aa na ca) := F20.a.cell 1
       have ua2 : w20.cell? ⟨w1.heap.size, 2, none⟩ = some (.int .i64 ra) := F20.a.cell 2
       have ub0 : w20.cell? ⟨w2.heap.size, 0, none⟩ = some (.int .i64 4) := F20.b.cell 0
       have ub1 : w20.cell? ⟨w2.heap.size, 1, none⟩ = some (.slice Ab nb cb) := F20.b.cell 1
       have ub2 : w20.cell? ⟨w2.heap.size, 2, none⟩ = some (.int .i64 rb) := F20.b.cell 2
       have uc0 : w20.cell? ⟨w3.heap.size, 0, none⟩ = some (.int .i64 4) := F20.c.cell 0
       have uc1 : w20.cell? ⟨w3.heap.size, 1, none⟩ = some (.slice Ac nc cc) := F20.c.cell 1
       have uc2 : w20.cell? ⟨w3.heap.size, 2, none⟩ = some (.int .i64 rc) := F20.c.cell 2)
    | (go_at_call 40
       (with_reducible refine (alg_and F18.fa F18.fb).mono ?_)
       rintro e w19 ⟨A9, n9, c9, r9, rfl, d9, k19⟩
       have F19 := F18.keep k19
       have kw19 := kw18.trans k19 fun _ _ h => h
       have d1 := d1.keep k19
       have d2 := d2.keep k19
       have d3 := d3.keep k19
       have d4 := d4.keep k19
       have d5 := d5.keep k19
       have d7 := d7.keep k19
       have d8 := d8.keep k19
       have ua0 : w19.cell? ⟨w1.heap.size, 0, none⟩ = some (.int .i64 4) := F19.a.cell 0
       have ua1 : w19.cell? ⟨w1.heap.size, 1, none⟩ = some (.slice Aa na ca) := F19.a.cell 1
       have ua2 : w19.cell? ⟨w1.heap.size, 2, none⟩ = some (.int .i64 ra) := F19.a.cell 2
       have ub0 : w19.cell? ⟨w2.heap.size, 0, none⟩ = some (.int .i64 4) := F19.b.cell 0
       have ub1 : w19.cell? ⟨w2.heap.size, 1, none⟩ = some (.slice Ab nb cb) := F19.b.cell 1
       have ub2 : w19.cell? ⟨w2.heap.size, 2, none⟩ = some (.int .i64 rb) := F19.b.cell 2
       have uc0 : w19.cell? ⟨w3.heap.size, 0, none⟩ = some (.int .i64 4) := F19.c.cell 0
       have uc1 : w19.cell? ⟨w3.heap.size, 1, none⟩ = some (.slice Ac nc cc) := F19.c.cell 1
       have uc2 : w19.cell? ⟨w3.heap.size, 2, none⟩ = some (.int .i64 rc) := F19.c.cell 2)
    | (go_at_call 40
       (with_reducible refine (alg_and F17.fa d7).mono ?_)
       rintro e w18 ⟨A8, n8, c8, r8, rfl, d8, k18⟩
       have F18 := F17.keep k18
       have kw18 := kw17.trans k18 fun _ _ h => h
       have d1 := d1.keep k18
       have d2 := d2.keep k18
       have d3 := d3.keep k18
       have d4 := d4.keep k18
       have d5 := d5.keep k18
       have d7 := d7.keep k18
       have ua0 : w18.cell? ⟨w1.heap.size, 0, none⟩ = some (.int .i64 4) := F18.a.cell 0
       have ua1 : w18.cell? ⟨w1.heap.size, 1, none⟩ = some (.slice Aa na ca) := F18.a.cell 1
       have ua2 : w18.cell? ⟨w1.heap.size, 2, none⟩ = some (.int .i64 ra) := F18.a.cell 2
       have ub0 : w18.cell? ⟨w2.heap.size, 0, none⟩ = some (.int .i64 4) := F18.b.cell 0
       have ub1 : w18.cell? ⟨w2.heap.size, 1, none⟩ = some (.slice Ab nb cb) := F18.b.cell 1
       have ub2 : w18.cell? ⟨w2.heap.size, 2, none⟩ = some (.int .i64 rb) := F18.b.cell 2
       have uc0 : w18.cell? ⟨w3.heap.size, 0, none⟩ = some (.int .i64 4) := F18.c.cell 0
       have uc1 : w18.cell? ⟨w3.heap.size, 1, none⟩ = some (.slice Ac nc cc) := F18.c.cell 1
       have uc2 : w18.cell? ⟨w3.heap.size, 2, none⟩ = some (.int .i64 rc) := F18.c.cell 2)
    | (go_at_call 41
       (with_reducible refine (alg_or F16.fb F16.fc).mono ?_)
       rintro e w17 ⟨A7, n7, c7, r7, rfl, d7, k17⟩
       have F17 := F16.keep k17
       have kw17 := kw16.trans k17 fun _ _ h => h
       have d1 := d1.keep k17
       have d2 := d2.keep k17
       have d3 := d3.keep k17
       have d4 := d4.keep k17
       have d5 := d5.keep k17
       have ua0 : w17.cell? ⟨w1.heap.size, 0, none⟩ = some (.int .i64 4) := F17.a.cell 0
       have ua1 : w17.cell? ⟨w1.heap.size, 1, none⟩ = some (.slice Aa na ca) := F17.a.cell 1
       have ua2 : w17.cell? ⟨w1.heap.size, 2, none⟩ = some (.int .i64 ra) := F17.a.cell 2
       have ub0 : w17.cell? ⟨w2.heap.size, 0, none⟩ = some (.int .i64 4) := F17.b.cell 0
       have ub1 : w17.cell? ⟨w2.heap.size, 1, none⟩ = some (.slice Ab nb cb) := F17.b.cell 1
       have ub2 : w17.cell? ⟨w2.heap.size, 2, none⟩ = some (.int .i64 rb) := F17.b.cell 2
       have uc0 : w17.cell? ⟨w3.heap.size, 0, none⟩ = some (.int .i64 4) := F17.c.cell 0
       have uc1 : w17.cell? ⟨w3.heap.size, 1, none⟩ = some (.slice Ac nc cc) := F17.c.cell 1
       have uc2 : w17.cell? ⟨w3.heap.size, 2, none⟩ = some (.int .i64 rc) := F17.c.cell 2)
    | (go_at_call 25
       (with_reducible refine (a4_same d2 d5 P1.out).mono ?_)
       rintro e w16 ⟨rfl, k16⟩
       have F16 := F15.keep k16
       have kw16 := kw15.trans k16 fun _ _ h => h
       have d1 := d1.keep k16
       have d2 := d2.keep k16
       have d3 := d3.keep k16
       have d4 := d4.keep k16
       have d5 := d5.keep k16
       have ua0 : w16.cell? ⟨w1.heap.size, 0, none⟩ = some (.int .i64 4) := F16.a.cell 0
       have ua1 : w16.cell? ⟨w1.heap.size, 1, none⟩ = some (.slice Aa na ca) := F16.a.cell 1
       have ua2 : w16.cell? ⟨w1.heap.size, 2, none⟩ = some (.int .i64 ra) := F16.a.cell 2
       have ub0 : w16.cell? ⟨w2.heap.size, 0, none⟩ = some (.int .i64 4) := F16.b.cell 0
       have ub1 : w16.cell? ⟨w2.heap.size, 1, none⟩ = some (.slice Ab nb cb) := F16.b.cell 1
       have ub2 : w16.cell? ⟨w2.heap.size, 2, none⟩ = some (.int .i64 rb) := F16.b.cell 2
       have uc0 : w16.cell? ⟨w3.heap.size, 0, none⟩ = some (.int .i64 4) := F16.c.cell 0
       have uc1 : w16.cell? ⟨w3.heap.size, 1, none⟩ = some (.slice Ac nc cc) := F16.c.cell 1
       have uc2 : w16.cell? ⟨w3.heap.size, 2, none⟩ = some (.int .i64 rc) := F16.c.cell 2)
    | (go_at_call 41
       (with_reducible refine (alg_or d3 d4).mono ?_)
       rintro e w15 ⟨A5, n5, c5, r5, rfl, d5, k15⟩
       have F15 := F14.keep k15
       have kw15 := kw14.trans k15 fun _ _ h => h
       have d1 := d1.keep k15
       have d2 := d2.keep k15
       have d3 := d3.keep k15
       have d4 := d4.keep k15
       have ua0 : w15.cell? ⟨w1.heap.size, 0, none⟩ = some (.int .i64 4) := F15.a.cell 0
       have ua1 : w15.cell? ⟨w1.heap.size, 1, none⟩ = some (.slice Aa na ca) := F15.a.cell 1
       have ua2 : w15.cell? ⟨w1.heap.size, 2, none⟩ = some (.int .i64 ra) := F15.a.cell 2
       have ub0 : w15.cell? ⟨w2.heap.size, 0, none⟩ = some (.int .i64 4) := F15.b.cell 0
       have ub1 : w15.cell? ⟨w2.heap.size, 1, none⟩ = some (.slice Ab nb cb) := F15.b.cell 1
       have ub2 : w15.cell? ⟨w2.heap.size, 2, none⟩ = some (.int .i64 rb) := F15.b.cell 2
       have uc0 : w15.cell? ⟨w3.heap.size, 0, none⟩ = some (.int .i64 4) := F15.c.cell 0
       have uc1 : w15.cell? ⟨w3.heap.size, 1, none⟩ = some (.slice Ac nc cc) := F15.c.cell 1
       have uc2 : w15.cell? ⟨w3.heap.size, 2, none⟩ = some (.int .i64 rc) := F15.c.cell 2)
    | (go_at_call 42
       (with_reducible refine (alg_not F13.fb).mono ?_)
       rintro e w14 ⟨A4, n4, c4, r4, rfl, d4, k14⟩
       have F14 := F13.keep k14
       have kw14 := kw13.trans k14 fun _ _ h => h
       have d1 := d1.keep k14
       have d2 := d2.keep k14
       have d3 := d3.keep k14
       have ua0 : w14.cell? ⟨w1.heap.size, 0, none⟩ = some (.int .i64 4) := F14.a.cell 0
       have ua1 : w14.cell? ⟨w1.heap.size, 1, none⟩ = some (.slice Aa na ca) := F14.a.cell 1
       have ua2 : w14.cell? ⟨w1.heap.size, 2, none⟩ = some (.int .i64 ra) := F14.a.cell 2
       have ub0 : w14.cell? ⟨w2.heap.size, 0, none⟩ = some (.int .i64 4) := F14.b.cell 0
       have ub1 : w14.cell? ⟨w2.heap.size, 1, none⟩ = some (.slice Ab nb cb) := F14.b.cell 1
       have ub2 : w14.cell? ⟨w2.heap.size, 2, none⟩ = some (.int .i64 rb) := F14.b.cell 2
       have uc0 : w14.cell? ⟨w3.heap.size, 0, none⟩ = some (.int .i64 4) := F14.c.cell 0
       have uc1 : w14.cell? ⟨w3.heap.size, 1, none⟩ = some (.slice Ac nc cc) := F14.c.cell 1
       have uc2 : w14.cell? ⟨w3.heap.size, 2, none⟩ = some (.int .i64 rc) := F14.c.cell 2)
    | (go_at_call 42
       (with_reducible refine (alg_not F12.fa).mono ?_)
       rintro e w13 ⟨A3, n3, c3, r3, rfl, d3, k13⟩
       have F13 := F12.keep k13
       have kw13 := kw12.trans k13 fun _ _ h => h
       have d1 := d1.keep k13
       have d2 := d2.keep k13
       have ua0 : w13.cell? ⟨w1.heap.size, 0, none⟩ = some (.int .i64 4) := F13.a.cell 0
       have ua1 : w13.cell? ⟨w1.heap.size, 1, none⟩ = some (.slice Aa na ca) := F13.a.cell 1
       have ua2 : w13.cell? ⟨w1.heap.size, 2, none⟩ = some (.int .i64 ra) := F13.a.cell 2
       have ub0 : w13.cell? ⟨w2.heap.size, 0, none⟩ = some (.int .i64 4) := F13.b.cell 0
       have ub1 : w13.cell? ⟨w2.heap.size, 1, none⟩ = some (.slice Ab nb cb) := F13.b.cell 1
       have ub2 : w13.cell? ⟨w2.heap.size, 2, none⟩ = some (.int .i64 rb) := F13.b.cell 2
       have uc0 : w13.cell? ⟨w3.heap.size, 0, none⟩ = some (.int .i64 4) := F13.c.cell 0
       have uc1 : w13.cell? ⟨w3.heap.size, 1, none⟩ = some (.slice Ac nc cc) := F13.c.cell 1
       have uc2 : w13.cell? ⟨w3.heap.size, 2, none⟩ = some (.int .i64 rc) := F13.c.cell 2)
    | (go_at_call 42
       (with_reducible refine (alg_not d1).mono ?_)
       rintro e w12 ⟨A2, n2, c2, r2, rfl, d2, k12⟩
       have F12 := F11.keep k12
       have kw12 := kw11.trans k12 fun _ _ h => h
       have d1 := d1.keep k12
       have ua0 : w12.cell? ⟨w1.heap.size, 0, none⟩ = some (.int .i64 4) := F12.a.cell 0
       have ua1 : w12.cell? ⟨w1.heap.size, 1, none⟩ = some (.slice Aa na ca) := F12.a.cell 1
       have ua2 : w12.cell? ⟨w1.heap.size, 2, none⟩ = some (.int .i64 ra) := F12.a.cell 2
       have ub0 : w12.cell? ⟨w2.heap.size, 0, none⟩ = some (.int .i64 4) := F12.b.cell 0
       have ub1 : w12.cell? ⟨w2.heap.size, 1, none⟩ = some (.slice Ab nb cb) := F12.b.cell 1
       have ub2 : w12.cell? ⟨w2.heap.size, 2, none⟩ = some (.int .i64 rb) := F12.b.cell 2
       have uc0 : w12.cell? ⟨w3.heap.size, 0, none⟩ = some (.int .i64 4) := F12.c.cell 0
       have uc1 : w12.cell? ⟨w3.heap.size, 1, none⟩ = some (.slice Ac nc cc) := F12.c.cell 1
       have uc2 : w12.cell? ⟨w3.heap.size, 2, none⟩ = some (.int .i64 rc) := F12.c.cell 2)
    | (go_at_call 40
       (with_reducible refine (alg_and (F0.keep (Keep.refl NoF W3).drew).fa (F0.keep (Keep.refl NoF W3).drew).fb).mono ?_)
       rintro e w11 ⟨A1, n1, c1, r1, rfl, d1, k11⟩
       have k11 : Keep NoF W3 w11 := (Keep.refl NoF W3).drew.trans k11 fun _ _ h => h
       have F11 := F0.keep k11
       have kw11 := kw0.trans k11 fun _ _ h => h
       have ua0 : w11.cell? ⟨w1.heap.size, 0, none⟩ = some (.int .i64 4) := F11.a.cell 0
       have ua1 : w11.cell? ⟨w1.heap.size, 1, none⟩ = some (.slice Aa na ca) := F11.a.cell 1
       have ua2 : w11.cell? ⟨w1.heap.size, 2, none⟩ = some (.int .i64 ra) := F11.a.cell 2
       have ub0 : w11.cell? ⟨w2.heap.size, 0, none⟩ = some (.int .i64 4) := F11.b.cell 0
       have ub1 : w11.cell? ⟨w2.heap.size, 1, none⟩ = some (.slice Ab nb cb) := F11.b.cell 1
       have ub2 : w11.cell? ⟨w2.heap.size, 2, none⟩ = some (.int .i64 rb) := F11.b.cell 2
       have uc0 : w11.cell? ⟨w3.heap.size, 0, none⟩ = some (.int .i64 4) := F11.c.cell 0
       have uc1 : w11.cell? ⟨w3.heap.size, 1, none⟩ = some (.slice Ac nc cc) := F11.c.cell 1
       have uc2 : w11.cell? ⟨w3.heap.size, 2, none⟩ = some (.int .i64 rc) := F11.c.cell 2))
    go_wp2
    go_meet
    case rel => exact ⟨rfl, F22, kw22⟩
  case rest =>
    obtain ⟨rfl, G0, hw0⟩ := hcut
    obtain ⟨wa, rfl⟩ : ∃ wa : World, wa = wc := ⟨_, rfl⟩
    clear F0 kw0 ua0 ua1 ua2 ub0 ub1 ub2 uc0 uc1 uc2
    have ua0 : wa.cell? ⟨w1.heap.size, 0, none⟩ = some (.int .i64 4) := G0.a.cell 0
    have ua1 : wa.cell? ⟨w1.heap.size, 1, none⟩ = some (.slice Aa na ca) := G0.a.cell 1
    have ua2 : wa.cell? ⟨w1.heap.size, 2, none⟩ = some (.int .i64 ra) := G0.a.cell 2
    have ub0 : wa.cell? ⟨w2.heap.size, 0, none⟩ = some (.int .i64 4) := G0.b.cell 0
    have ub1 : wa.cell? ⟨w2.heap.size, 1, none⟩ = some (.slice Ab nb cb) := G0.b.cell 1
    have ub2 : wa.cell? ⟨w2.heap.size, 2, none⟩ = some (.int .i64 rb) := G0.b.cell 2
    have uc0 : wa.cell? ⟨w3.heap.size, 0, none⟩ = some (.int .i64 4) := G0.c.cell 0
    have uc1 : wa.cell? ⟨w3.heap.size, 1, none⟩ = some (.slice Ac nc cc) := G0.c.cell 1
    have uc2 : wa.cell? ⟨w3.heap.size, 2, none⟩ = some (.int .i64 rc) := G0.c.cell 2
    go_upto_region 11 with (fail)
    go_region_held3 (fun w' => w'.cell? ⟨w1.heap.size, 0, none⟩ = some (.int .i64 4) ∧ w'.cell? ⟨w1.heap.size, 1, none⟩ = some (.slice Aa na ca) ∧ w'.cell? ⟨w1.heap.size, 2, none⟩ = some (.int .i64 ra) ∧ w'.cell? ⟨w2.heap.size, 0, none⟩ = some (.int .i64 4) ∧ w'.cell? ⟨w2.heap.size, 1, none⟩ = some (.slice Ab nb cb) ∧ w'.cell? ⟨w2.heap.size, 2, none⟩ = some (.int .i64 rb) ∧ w'.cell? ⟨w3.heap.size, 0, none⟩ = some (.int .i64 4) ∧ w'.cell? ⟨w3.heap.size, 1, none⟩ = some (.slice Ac nc cc) ∧ w'.cell? ⟨w3.heap.size, 2, none⟩ = some (.int .i64 rc))
      (first | with_reducible exact ⟨ua0, ua1, ua2, ub0, ub1, ub2, uc0, uc1, uc2⟩ | exact ⟨ua0, ua1, ua2, ub0, ub1, ub2, uc0, uc1, uc2⟩)
      (first
    | (go_at_call 12
       (with_reducible refine (awake_any _).mono ?_)
       rintro e w40 ⟨rfl, k40⟩
       have F40 := F39.keep k40
       have kw40 := kw39.trans k40 fun _ _ h => h
       have d13 := d13.keep k40
       have d14 := d14.keep k40
       have d16 := d16.keep k40
       have d17 := d17.keep k40
       have d19 := d19.keep k40
       have d20 := d20.keep k40
       have ua0 : w40.cell? ⟨w1.heap.size, 0, none⟩ = some (.int .i64 4) := F40.a.cell 0
       have ua1 : w40.cell? ⟨w1.heap.size, 1, none⟩ = some (.slice Aa na ca) := F40.a.cell 1
       have ua2 : w40.cell? ⟨w1.heap.size, 2, none⟩ = some (.int .i64 ra) := F40.a.cell 2
       have ub0 : w40.cell? ⟨w2.heap.size, 0, none⟩ = some (.int .i64 4) := F40.b.cell 0
       have ub1 : w40.cell? ⟨w2.heap.size, 1, none⟩ = some (.slice Ab nb cb) := F40.b.cell 1
       have ub2 : w40.cell? ⟨w2.heap.size, 2, none⟩ = some (.int .i64 rb) := F40.b.cell 2
       have uc0 : w40.cell? ⟨w3.heap.size, 0, none⟩ = some (.int .i64 4) := F40.c.cell 0
       have uc1 : w40.cell? ⟨w3.heap.size, 1, none⟩ = some (.slice Ac nc cc) := F40.c.cell 1
       have uc2 : w40.cell? ⟨w3.heap.size, 2, none⟩ = some (.int .i64 rc) := F40.c.cell 2)
    | (go_at_call 25
       (with_reducible refine (a4_same d19 d20 P5.out).mono ?_)
       rintro e w39 ⟨rfl, k39⟩
       have F39 := F38.keep k39
       have kw39 := kw38.trans k39 fun _ _ h => h
       have d13 := d13.keep k39
       have d14 := d14.keep k39
       have d16 := d16.keep k39
       have d17 := d17.keep k39
       have d19 := d19.keep k39
       have d20 := d20.keep k39
       have ua0 : w39.cell? ⟨w1.heap.size, 0, none⟩ = some (.int .i64 4) := F39.a.cell 0
       have ua1 : w39.cell? ⟨w1.heap.size, 1, none⟩ = some (.slice Aa na ca) := F39.a.cell 1
       have ua2 : w39.cell? ⟨w1.heap.size, 2, none⟩ = some (.int .i64 ra) := F39.a.cell 2
       have ub0 : w39.cell? ⟨w2.heap.size, 0, none⟩ = some (.int .i64 4) := F39.b.cell 0
       have ub1 : w39.cell? ⟨w2.heap.size, 1, none⟩ = some (.slice Ab nb cb) := F39.b.cell 1
       have ub2 : w39.cell? ⟨w2.heap.size, 2, none⟩ = some (.int .i64 rb) := F39.b.cell 2
       have uc0 : w39.cell? ⟨w3.heap.size, 0, none⟩ = some (.int .i64 4) := F39.c.cell 0
       have uc1 : w39.cell? ⟨w3.heap.size, 1, none⟩ = some (.slice Ac nc cc) := F39.c.cell 1
       have uc2 : w39.cell? ⟨w3.heap.size, 2, none⟩ = some (.int .i64 rc) := F39.c.cell 2)
    | (go_at_call 40
       (with_reducible refine (alg_and F37.fb F37.fa).mono ?_)
       rintro e w38 ⟨A20, n20, c20, r20, rfl, d20, k38⟩
       have F38 := F37.keep k38
       have kw38 := kw37.trans k38 fun _ _ h => h
       have d13 := d13.keep k38
       have d14 := d14.keep k38
       have d16 := d16.keep k38
       have d17 := d17.keep k38
       have d19 := d19.keep k38
       have ua0 : w38.cell? ⟨w1.heap.size, 0, none⟩ = some (.int .i64 4) := F38.a.cell 0
       have ua1 : w38.cell? ⟨w1.heap.size, 1, none⟩ = some (.slice Aa na ca) := F38.a.cell 1
       have ua2 : w38.cell? ⟨w1.heap.size, 2, none⟩ = some (.int .i64 ra) := F38.a.cell 2
       have ub0 : w38.cell? ⟨w2.heap.size, 0, none⟩ = some (.int .i64 4) := F38.b.cell 0
       have ub1 : w38.cell? ⟨w2.heap.size, 1, none⟩ = some (.slice Ab nb cb) := F38.b.cell 1
       have ub2 : w38.cell? ⟨w2.heap.size, 2, none⟩ = some (.int .i64 rb) := F38.b.cell 2
       have uc0 : w38.cell? ⟨w3.heap.size, 0, none⟩ = some (.int .i64 4) := F38.c.cell 0
       have uc1 : w38.cell? ⟨w3.heap.size, 1, none⟩ = some (.slice Ac nc cc) := F38.c.cell 1
       have uc2 : w38.cell? ⟨w3.heap.size, 2, none⟩ = some (.int .i64 rc) := F38.c.cell 2)
    | (go_at_call 40
       (with_reducible refine (alg_and F36.fa F36.fb).mono ?_)
       rintro e w37 ⟨A19, n19, c19, r19, rfl, d19, k37⟩
       have F37 := F36.keep k37
       have kw37 := kw36.trans k37 fun _ _ h => h
       have d13 := d13.keep k37
       have d14 := d14.keep k37
       have d16 := d16.keep k37
       have d17 := d17.keep k37
       have ua0 : w37.cell? ⟨w1.heap.size, 0, none⟩ = some (.int .i64 4) := F37.a.cell 0
       have ua1 : w37.cell? ⟨w1.heap.size, 1, none⟩ = some (.slice Aa na ca) := F37.a.cell 1
       have ua2 : w37.cell? ⟨w1.heap.size, 2, none⟩ = some (.int .i64 ra) := F37.a.cell 2
       have ub0 : w37.cell? ⟨w2.heap.size, 0, none⟩ = some (.int .i64 4) := F37.b.cell 0
       have ub1 : w37.cell? ⟨w2.heap.size, 1, none⟩ = some (.slice Ab nb cb) := F37.b.cell 1
       have ub2 : w37.cell? ⟨w2.heap.size, 2, none⟩ = some (.int .i64 rb) := F37.b.cell 2
       have uc0 : w37.cell? ⟨w3.heap.size, 0, none⟩ = some (.int .i64 4) := F37.c.cell 0
       have uc1 : w37.cell? ⟨w3.heap.size, 1, none⟩ = some (.slice Ac nc cc) := F37.c.cell 1
       have uc2 : w37.cell? ⟨w3.heap.size, 2, none⟩ = some (.int .i64 rc) := F37.c.cell 2)
    | (go_at_call 25
       (with_reducible refine (a4_same d17 F35.fa P4.out).mono ?_)
       rintro e w36 ⟨rfl, k36⟩
       have F36 := F35.keep k36
       have kw36 := kw35.trans k36 fun _ _ h => h
       have d13 := d13.keep k36
       have d14 := d14.keep k36
       have d16 := d16.keep k36
       have d17 := d17.keep k36
       have ua0 : w36.cell? ⟨w1.heap.size, 0, none⟩ = some (.int .i64 4) := F36.a.cell 0
       have ua1 : w36.cell? ⟨w1.heap.size, 1, none⟩ = some (.slice Aa na ca) := F36.a.cell 1
       have ua2 : w36.cell? ⟨w1.heap.size, 2, none⟩ = some (.int .i64 ra) := F36.a.cell 2
       have ub0 : w36.cell? ⟨w2.heap.size, 0, none⟩ = some (.int .i64 4) := F36.b.cell 0
       have ub1 : w36.cell? ⟨w2.heap.size, 1, none⟩ = some (.slice Ab nb cb) := F36.b.cell 1
       have ub2 : w36.cell? ⟨w2.heap.size, 2, none⟩ = some (.int .i64 rb) := F36.b.cell 2
       have uc0 : w36.cell? ⟨w3.heap.size, 0, none⟩ = some (.int .i64 4) := F36.c.cell 0
       have uc1 : w36.cell? ⟨w3.heap.size, 1, none⟩ = some (.slice Ac nc cc) := F36.c.cell 1
       have uc2 : w36.cell? ⟨w3.heap.size, 2, none⟩ = some (.int .i64 rc) := F36.c.cell 2)
    | (go_at_call 42
       (with_reducible refine (alg_not d16).mono ?_)
       rintro e w35 ⟨A17, n17, c17, r17, rfl, d17, k35⟩
       have F35 := F34.keep k35
       have kw35 := kw34.trans k35 fun _ _ h => h
       have d13 := d13.keep k35
       have d14 := d14.keep k35
       have d16 := d16.keep k35
       have ua0 : w35.cell? ⟨w1.heap.size, 0, none⟩ = some (.int .i64 4) := F35.a.cell 0
       have ua1 : w35.cell? ⟨w1.heap.size, 1, none⟩ = some (.slice Aa na ca) := F35.a.cell 1
       have ua2 : w35.cell? ⟨w1.heap.size, 2, none⟩ = some (.int .i64 ra) := F35.a.cell 2
       have ub0 : w35.cell? ⟨w2.heap.size, 0, none⟩ = some (.int .i64 4) := F35.b.cell 0
       have ub1 : w35.cell? ⟨w2.heap.size, 1, none⟩ = some (.slice Ab nb cb) := F35.b.cell 1
       have ub2 : w35.cell? ⟨w2.heap.size, 2, none⟩ = some (.int .i64 rb) := F35.b.cell 2
       have uc0 : w35.cell? ⟨w3.heap.size, 0, none⟩ = some (.int .i64 4) := F35.c.cell 0
       have uc1 : w35.cell? ⟨w3.heap.size, 1, none⟩ = some (.slice Ac nc cc) := F35.c.cell 1
       have uc2 : w35.cell? ⟨w3.heap.size, 2, none⟩ = some (.int .i64 rc) := F35.c.cell 2)
    | (go_at_call 42
       (with_reducible refine (alg_not F33.fa).mono ?_)
       rintro e w34 ⟨A16, n16, c16, r16, rfl, d16, k34⟩
       have F34 := F33.keep k34
       have kw34 := kw33.trans k34 fun _ _ h => h
       have d13 := d13.keep k34
       have d14 := d14.keep k34
       have ua0 : w34.cell? ⟨w1.heap.size, 0, none⟩ = some (.int .i64 4) := F34.a.cell 0
       have ua1 : w34.cell? ⟨w1.heap.size, 1, none⟩ = some (.slice Aa na ca) := F34.a.cell 1
       have ua2 : w34.cell? ⟨w1.heap.size, 2, none⟩ = some (.int .i64 ra) := F34.a.cell 2
       have ub0 : w34.cell? ⟨w2.heap.size, 0, none⟩ = some (.int .i64 4) := F34.b.cell 0
       have ub1 : w34.cell? ⟨w2.heap.size, 1, none⟩ = some (.slice Ab nb cb) := F34.b.cell 1
       have ub2 : w34.cell? ⟨w2.heap.size, 2, none⟩ = some (.int .i64 rb) := F34.b.cell 2
       have uc0 : w34.cell? ⟨w3.heap.size, 0, none⟩ = some (.int .i64 4) := F34.c.cell 0
       have uc1 : w34.cell? ⟨w3.heap.size, 1, none⟩ = some (.slice Ac nc cc) := F34.c.cell 1
       have uc2 : w34.cell? ⟨w3.heap.size, 2, none⟩ = some (.int .i64 rc) := F34.c.cell 2)
    | (go_at_call 25
       (with_reducible refine (a4_same d14 F32.fa P3.out).mono ?_)
       rintro e w33 ⟨rfl, k33⟩
       have F33 := F32.keep k33
       have kw33 := kw32.trans k33 fun _ _ h => h
       have d13 := d13.keep k33
       have d14 := d14.keep k33
       have ua0 : w33.cell? ⟨w1.heap.size, 0, none⟩ = some (.int .i64 4) := F33.a.cell 0
       have ua1 : w33.cell? ⟨w1.heap.size, 1, none⟩ = some (.slice Aa na ca) := F33.a.cell 1
       have ua2 : w33.cell? ⟨w1.heap.size, 2, none⟩ = some (.int .i64 ra) := F33.a.cell 2
       have ub0 : w33.cell? ⟨w2.heap.size, 0, none⟩ = some (.int .i64 4) := F33.b.cell 0
       have ub1 : w33.cell? ⟨w2.heap.size, 1, none⟩ = some (.slice Ab nb cb) := F33.b.cell 1
       have ub2 : w33.cell? ⟨w2.heap.size, 2, none⟩ = some (.int .i64 rb) := F33.b.cell 2
       have uc0 : w33.cell? ⟨w3.heap.size, 0, none⟩ = some (.int .i64 4) := F33.c.cell 0
       have uc1 : w33.cell? ⟨w3.heap.size, 1, none⟩ = some (.slice Ac nc cc) := F33.c.cell 1
       have uc2 : w33.cell? ⟨w3.heap.size, 2, none⟩ = some (.int .i64 rc) := F33.c.cell 2)
    | (go_at_call 41
       (with_reducible refine (alg_or F31.fa d13).mono ?_)
       rintro e w32 ⟨A14, n14, c14, r14, rfl, d14, k32⟩
       have F32 := F31.keep k32
       have kw32 := kw31.trans k32 fun _ _ h => h
       have d13 := d13.keep k32
       have ua0 : w32.cell? ⟨w1.heap.size, 0, none⟩ = some (.int .i64 4) := F32.a.cell 0
       have ua1 : w32.cell? ⟨w1.heap.size, 1, none⟩ = some (.slice Aa na ca) := F32.a.cell 1
       have ua2 : w32.cell? ⟨w1.heap.size, 2, none⟩ = some (.int .i64 ra) := F32.a.cell 2
       have ub0 : w32.cell? ⟨w2.heap.size, 0, none⟩ = some (.int .i64 4) := F32.b.cell 0
       have ub1 : w32.cell? ⟨w2.heap.size, 1, none⟩ = some (.slice Ab nb cb) := F32.b.cell 1
       have ub2 : w32.cell? ⟨w2.heap.size, 2, none⟩ = some (.int .i64 rb) := F32.b.cell 2
       have uc0 : w32.cell? ⟨w3.heap.size, 0, none⟩ = some (.int .i64 4) := F32.c.cell 0
       have uc1 : w32.cell? ⟨w3.heap.size, 1, none⟩ = some (.slice Ac nc cc) := F32.c.cell 1
       have uc2 : w32.cell? ⟨w3.heap.size, 2, none⟩ = some (.int .i64 rc) := F32.c.cell 2)
    | (go_at_call 40
       (with_reducible refine (alg_and (G0.keep (Keep.refl NoF wa).drew).fa (G0.keep (Keep.refl NoF wa).drew).fb).mono ?_)
       rintro e w31 ⟨A13, n13, c13, r13, rfl, d13, k31⟩
       have k31 : Keep NoF wa w31 := (Keep.refl NoF wa).drew.trans k31 fun _ _ h => h
       have F31 := G0.keep k31
       have kw31 := hw0.trans k31 fun _ _ h => h
       have ua0 : w31.cell? ⟨w1.heap.size, 0, none⟩ = some (.int .i64 4) := F31.a.cell 0
       have ua1 : w31.cell? ⟨w1.heap.size, 1, none⟩ = some (.slice Aa na ca) := F31.a.cell 1
       have ua2 : w31.cell? ⟨w1.heap.size, 2, none⟩ = some (.int .i64 ra) := F31.a.cell 2
       have ub0 : w31.cell? ⟨w2.heap.size, 0, none⟩ = some (.int .i64 4) := F31.b.cell 0
       have ub1 : w31.cell? ⟨w2.heap.size, 1, none⟩ = some (.slice Ab nb cb) := F31.b.cell 1
       have ub2 : w31.cell? ⟨w2.heap.size, 2, none⟩ = some (.int .i64 rb) := F31.b.cell 2
       have uc0 : w31.cell? ⟨w3.heap.size, 0, none⟩ = some (.int .i64 4) := F31.c.cell 0
       have uc1 : w31.cell? ⟨w3.heap.size, 1, none⟩ = some (.slice Ac nc cc) := F31.c.cell 1
       have uc2 : w31.cell? ⟨w3.heap.size, 2, none⟩ = some (.int .i64 rc) := F31.c.cell 2))
    go_wp2
    go_ret
    exact ⟨rfl, kw40⟩
end Go.Proofs.Ytengdldkkmknpaa
