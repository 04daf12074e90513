/- The reference of the text of a model: Format. No condition. -/
import Derived.Test.YtmnhgeggojgflaaGreatDoorMtUV
import Derived.Test.YtmnhgeggojgflaaGreatDoorMtZa
set_option linter.unusedVariables false
set_option linter.unusedSimpArgs false
namespace Go.Proofs.YtmnhgeggojgflaaGreatDoor
open Go.RowKit Go.Shelf
open Mt
open Ev (Md Okm modelE)
attribute [local go_sem] Oper.semAt_some
section
set_option maxRecDepth 100000
set_option maxHeartbeats 2000000
variable {M : Md} {va ra : Option Addr} {cv cr : Nat} {rs : List (Option Addr × Nat)}
theorem rmtFormat_bad1 (S : Sg) (a f c : Option Addr) (ca cf cc : Nat) (w : World) (hS : SigR w S a ca f cf c cc) (h : checkS S ≠ 0) :
    Calls Tryz.prog 12 #[.agg #[.slice a S.A.length ca, .slice f S.F.length cf, .slice c S.C.length cc], .agg #[.int .i64 M.W, .slice va M.V.length cv, .slice ra M.R.length cr]] w fun e w' => e = .returned (.tuple #[.string ⟨#[]⟩, .int .i64 (checkS S : Int)]) ∧ Keep NoF w w' := by
  have HP0 := Lib.hid (FB.new w S a ca f cf c cc M va cv ra cr)
  have HC := Lib.hid fun W (hk : Keep NoF w W) => rCheck_any S a f c ca cf cc W (hS.keep hk)
  generalize checkS S = x at *
  have hx : ((x : Int) != 0) = true := by simp; omega
  clear h hS
  go_enter Tryz.func12, Tryz.ntmps12
  go_upto_region 1 with (fail)
  generalize (w.alloc (.cells #[.slice a S.A.length ca, .slice f S.F.length cf, .slice c S.C.length cc] 24)).alloc (.cells #[.int .i64 M.W, .slice va M.V.length cv, .slice ra M.R.length cr] 28) = W0 at *
  have k0 := HP0.out.k
  have c0 : W0.cell? ⟨w.heap.size, 0, none⟩ = some (.slice a S.A.length ca) := HP0.out.s.cell 0
  have c1 : W0.cell? ⟨w.heap.size, 1, none⟩ = some (.slice f S.F.length cf) := HP0.out.s.cell 1
  have c2 : W0.cell? ⟨w.heap.size, 2, none⟩ = some (.slice c S.C.length cc) := HP0.out.s.cell 2
  go_wp2_with (go_at_call 28; (with_reducible refine (HC.out _ k0).mono ?_); rintro e w1 ⟨rfl, k1⟩)
  go_ret2
  exact ⟨rfl, k0.trans k1 fun _ _ h => h⟩
theorem rmtFormat_bad2 (S : Sg) (a f c : Option Addr) (ca cf cc : Nat) (w : World) (hS : SigR w S a ca f cf c cc) (hM : MdR w M va cv ra cr rs) (h : checkS S = 0) (h2 : modelE M ≠ 0) :
    Calls Tryz.prog 12 #[.agg #[.slice a S.A.length ca, .slice f S.F.length cf, .slice c S.C.length cc], .agg #[.int .i64 M.W, .slice va M.V.length cv, .slice ra M.R.length cr]] w fun e w' => e = .returned (.tuple #[.string ⟨#[]⟩, .int .i64 (modelE M)]) ∧ Keep NoF w w' := by
  have HP0 := Lib.hid (FB.new w S a ca f cf c cc M va cv ra cr)
  have HC := Lib.hid fun W (hk : Keep NoF w W) => rCheck_any S a f c ca cf cc W (hS.keep hk)
  have HM := Lib.hid fun W (hk : Keep NoF w W) => rmoCheck_any W (hM.keep hk)
  rw [h] at HC
  generalize modelE M = x at *
  have hx : (x != 0) = true := by simpa using h2
  clear h hS hM h2
  go_enter Tryz.func12, Tryz.ntmps12
  go_upto_region 1 with (fail)
  generalize (w.alloc (.cells #[.slice a S.A.length ca, .slice f S.F.length cf, .slice c S.C.length cc] 24)).alloc (.cells #[.int .i64 M.W, .slice va M.V.length cv, .slice ra M.R.length cr] 28) = W0 at *
  have k0 := HP0.out.k
  have c0 : W0.cell? ⟨w.heap.size, 0, none⟩ = some (.slice a S.A.length ca) := HP0.out.s.cell 0
  have c1 : W0.cell? ⟨w.heap.size, 1, none⟩ = some (.slice f S.F.length cf) := HP0.out.s.cell 1
  have c2 : W0.cell? ⟨w.heap.size, 2, none⟩ = some (.slice c S.C.length cc) := HP0.out.s.cell 2
  go_wp2_with (first
    | (go_at_call 28; (with_reducible refine (HC.out _ k0).mono ?_); rintro e w1 ⟨rfl, k1⟩
       have HP1 := Lib.hid (HP0.out.keep k1)
       have m0 : w1.cell? ⟨w.heap.size + 1, 0, none⟩ = some (.int .i64 M.W) := HP1.out.m.cell 0
       have m1 : w1.cell? ⟨w.heap.size + 1, 1, none⟩ = some (.slice va M.V.length cv) := HP1.out.m.cell 1
       have m2 : w1.cell? ⟨w.heap.size + 1, 2, none⟩ = some (.slice ra M.R.length cr) := HP1.out.m.cell 2)
    | (go_at_call 29; (with_reducible refine (HM.out _ HP1.out.k).mono ?_); rintro e w2 ⟨rfl, k2⟩))
  go_ret2
  exact ⟨rfl, HP1.out.k.trans k2 fun _ _ h => h⟩
theorem rmtFormat_bad3 (S : Sg) (a f c : Option Addr) (ca cf cc : Nat) (w : World) (hS : SigR w S a ca f cf c cc) (hM : MdR w M va cv ra cr rs) (h : checkS S = 0) (h2 : modelE M = 0) (h3 : S.A.length ≠ M.R.length ∨ S.F.length ≠ M.V.length) :
    Calls Tryz.prog 12 #[.agg #[.slice a S.A.length ca, .slice f S.F.length cf, .slice c S.C.length cc], .agg #[.int .i64 M.W, .slice va M.V.length cv, .slice ra M.R.length cr]] w fun e w' => e = .returned (.tuple #[.string ⟨#[]⟩, .int .i64 1]) ∧ Keep NoF w w' := by
  have HP0 := Lib.hid (FB.new w S a ca f cf c cc M va cv ra cr)
  have HC := Lib.hid fun W (hk : Keep NoF w W) => rCheck_any S a f c ca cf cc W (hS.keep hk)
  have HM := Lib.hid fun W (hk : Keep NoF w W) => rmoCheck_any W (hM.keep hk)
  rw [h] at HC
  rw [h2] at HM
  clear h hS hM h2
  go_enter Tryz.func12, Tryz.ntmps12
  go_upto_region 1 with (fail)
  generalize (w.alloc (.cells #[.slice a S.A.length ca, .slice f S.F.length cf, .slice c S.C.length cc] 24)).alloc (.cells #[.int .i64 M.W, .slice va M.V.length cv, .slice ra M.R.length cr] 28) = W0 at *
  have k0 := HP0.out.k
  have c0 : W0.cell? ⟨w.heap.size, 0, none⟩ = some (.slice a S.A.length ca) := HP0.out.s.cell 0
  have c1 : W0.cell? ⟨w.heap.size, 1, none⟩ = some (.slice f S.F.length cf) := HP0.out.s.cell 1
  have c2 : W0.cell? ⟨w.heap.size, 2, none⟩ = some (.slice c S.C.length cc) := HP0.out.s.cell 2
  by_cases hA : S.A.length = M.R.length
  · have hF : ((M.V.length : Int) != (S.F.length : Int)) = true := by simp; omega
    have hA' : ((M.R.length : Int) != (S.A.length : Int)) = false := by simp; omega
    clear h3 hA
    go_wp2_with (first
      | (go_at_call 28; (with_reducible refine (HC.out _ k0).mono ?_); rintro e w1 ⟨rfl, k1⟩
         have HP1 := Lib.hid (HP0.out.keep k1)
         have m0 : w1.cell? ⟨w.heap.size + 1, 0, none⟩ = some (.int .i64 M.W) := HP1.out.m.cell 0
         have m1 : w1.cell? ⟨w.heap.size + 1, 1, none⟩ = some (.slice va M.V.length cv) := HP1.out.m.cell 1
         have m2 : w1.cell? ⟨w.heap.size + 1, 2, none⟩ = some (.slice ra M.R.length cr) := HP1.out.m.cell 2)
      | (go_at_call 29; (with_reducible refine (HM.out _ HP1.out.k).mono ?_); rintro e w2 ⟨rfl, k2⟩
         have HP2 := Lib.hid (HP1.out.keep k2)
         have s0 : w2.cell? ⟨w.heap.size, 0, none⟩ = some (.slice a S.A.length ca) := HP2.out.s.cell 0
         have s1 : w2.cell? ⟨w.heap.size, 1, none⟩ = some (.slice f S.F.length cf) := HP2.out.s.cell 1
         have n1 : w2.cell? ⟨w.heap.size + 1, 1, none⟩ = some (.slice va M.V.length cv) := HP2.out.m.cell 1
         have n2 : w2.cell? ⟨w.heap.size + 1, 2, none⟩ = some (.slice ra M.R.length cr) := HP2.out.m.cell 2))
    go_ret2
    exact ⟨rfl, HP2.out.k⟩
  · have hA' : ((M.R.length : Int) != (S.A.length : Int)) = true := by simp; omega
    clear h3 hA
    go_wp2_with (first
      | (go_at_call 28; (with_reducible refine (HC.out _ k0).mono ?_); rintro e w1 ⟨rfl, k1⟩
         have HP1 := Lib.hid (HP0.out.keep k1)
         have m0 : w1.cell? ⟨w.heap.size + 1, 0, none⟩ = some (.int .i64 M.W) := HP1.out.m.cell 0
         have m1 : w1.cell? ⟨w.heap.size + 1, 1, none⟩ = some (.slice va M.V.length cv) := HP1.out.m.cell 1
         have m2 : w1.cell? ⟨w.heap.size + 1, 2, none⟩ = some (.slice ra M.R.length cr) := HP1.out.m.cell 2)
      | (go_at_call 29; (with_reducible refine (HM.out _ HP1.out.k).mono ?_); rintro e w2 ⟨rfl, k2⟩
         have HP2 := Lib.hid (HP1.out.keep k2)
         have s0 : w2.cell? ⟨w.heap.size, 0, none⟩ = some (.slice a S.A.length ca) := HP2.out.s.cell 0
         have n2 : w2.cell? ⟨w.heap.size + 1, 2, none⟩ = some (.slice ra M.R.length cr) := HP2.out.m.cell 2))
    go_ret2
    exact ⟨rfl, HP2.out.k⟩
end
end Go.Proofs.YtmnhgeggojgflaaGreatDoor
