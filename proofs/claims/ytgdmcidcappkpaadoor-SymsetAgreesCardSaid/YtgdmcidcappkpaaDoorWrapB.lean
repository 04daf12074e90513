/- What Restrict does. What quantify, Exists, Forall do. What Exists and Forall do. No condition. -/
import Derived.Test.YtgdmcidcappkpaaDoorWrap
import Derived.Test.YtgdmcidcappkpaaDoorQua
set_option linter.unusedVariables false
set_option linter.unusedSimpArgs false
namespace Go.Proofs.YtgdmcidcappkpaaDoor
open Go.RowKit
open Dd (Rn rat ofN toN checkErr MemoOk den canon rf)

/-- An error ahead of the operation, or what the operation hands back. -/
def ErrOr (w : World) (err : Int) (P : Ending → World → Prop) (e : Ending) (w' : World) : Prop :=
  (err ≠ 0 → e = .returned (.tuple #[dgZero, .int .i64 err]) ∧ Keep NoF w w') ∧ (err = 0 → P e w')
def resErr (a : Dg) (i : Int) : Int := if a.err ≠ 0 then a.err else if i < 0 ∨ a.V ≤ i then 2 else 0

theorem cf_Restrict : ∀ (args : Array Value) w', (callFunc 79 args).run Tryd.prog w' = .ok (.enter 79 args) w' := by intro args w'; kernel_rfl

set_option maxRecDepth 100000 in
set_option maxHeartbeats 1000000 in
theorem Restrict_any (a : Dg) (i : Int) (t : Bool) (w : World) (ha : a.In w) : Calls Tryd.prog 63 #[a.val, .int .i64 i, .bool t] w (ErrOr w (resErr a i) (OpPost w a.V [a] (rSem i.toNat t))) := by
  have ha1 := ha.1
  have HO := Lib.hid fun (w1 : World) (lv : Value) (cap : Array Value) (hop : OpSem w1 79 cap 1 (rSem i.toNat t)) (hk : Keep NoF w w1) (hr : Rd w1 lv 3 [a].length ([a].flatMap Dg.cells)) =>
    oper_call (f := 79) (cap := cap) (ds := [a]) (V := a.V) (σ := rSem i.toNat t) cf_Restrict hop ⟨a, rfl, rfl⟩ (by simp) (by simpa using ha) hk hr
  have hva : a.err = 0 → 0 ≤ a.V ∧ a.V ≤ 24 := fun h => by
    obtain ⟨v, M, r, h1, h2, h3, h4⟩ := Dd.valid_of h
    have := h4.vars
    omega
  have hmv : ∀ e w1 w', OpPost w1 a.V [a] (rSem i.toNat t) e w' → ∀ w2, Keep NoF w w2 → w.heap.size ≤ w1.heap.size → (∀ k, w1.heap.size ≤ k → w2.heap[k]? = w'.heap[k]?) → OpPost w a.V [a] (rSem i.toNat t) e w2 := fun e w1 w' h w2 hk h0 h1 => h.move hk h0 h1
  have HP : Hid (∀ e w', (resErr a i ≠ 0 → e = .returned (.tuple #[dgZero, .int .i64 (resErr a i)]) ∧ Keep NoF w w') → (resErr a i = 0 → OpPost w a.V [a] (rSem i.toNat t) e w') → ErrOr w (resErr a i) (OpPost w a.V [a] (rSem i.toNat t)) e w') := Lib.hid fun e w' h1 h2 => ⟨h1, h2⟩
  have hre : resErr a i = if a.err ≠ 0 then a.err else if i < 0 ∨ a.V ≤ i then 2 else 0 := rfl
  have hck := fun (w1 : World) (hk : Keep NoF w w1) => check_any a.V a.R a.root a.sl w1 ha.2 (ha.1.kept hk fun _ _ h => h)
  have hcke : checkErr a.V a.R a.root = a.err := rfl
  rw [hcke] at hck
  obtain ⟨V1, R1, r1, s1⟩ := a
  simp only at ha1 hck hva hre hmv
  obtain ⟨_, A1, c1, rfl, _, _⟩ := ha1
  show Calls Tryd.prog 63 #[.agg #[.int .i64 V1, .slice A1 R1.length c1, .int .i64 r1], .int .i64 i, .bool t] w _
  clear ha hcke
  generalize ErrOr w (resErr ⟨V1, R1, r1, .slice A1 R1.length c1⟩ i) (OpPost w V1 [⟨V1, R1, r1, .slice A1 R1.length c1⟩] (rSem i.toNat t)) = PP at *
  generalize hpq : OpPost w V1 [⟨V1, R1, r1, .slice A1 R1.length c1⟩] (rSem i.toNat t) = PQ at *
  generalize resErr ⟨V1, R1, r1, .slice A1 R1.length c1⟩ i = re at *
  generalize Dg.err ⟨V1, R1, r1, .slice A1 R1.length c1⟩ = ae at *
  have HRE := Lib.hid hre
  have HVA := Lib.hid hva
  have HCK := Lib.hid hck
  have HMV := Lib.hid hmv
  clear hre hva hck hmv hpq
  go_enter Tryd.func63, Tryd.ntmps63
  go_upto_region 1 with (fail)
  have hk0 : Keep NoF w ((((w.alloc (.cells #[.int .i64 V1, .slice A1 R1.length c1, .int .i64 r1] 26)).alloc (.cells #[.int .i64 i] 3)).alloc (.cells #[.bool t] 4)).alloc (.cells #[.int .i64 0, .slice none 0 0, .int .i64 0] 26)) := ((((Keep.refl _ _).alloc _).alloc _).alloc _).alloc _
  have hA : Bk ((((w.alloc (.cells #[.int .i64 V1, .slice A1 R1.length c1, .int .i64 r1] 26)).alloc (.cells #[.int .i64 i] 3)).alloc (.cells #[.bool t] 4)).alloc (.cells #[.int .i64 0, .slice none 0 0, .int .i64 0] 26)) w.heap.size 26 #[.int .i64 V1, .slice A1 R1.length c1, .int .i64 r1] := (((Bk.new' _ _ _ (by simp)).alloc _).alloc _).alloc _
  have hI : Bk ((((w.alloc (.cells #[.int .i64 V1, .slice A1 R1.length c1, .int .i64 r1] 26)).alloc (.cells #[.int .i64 i] 3)).alloc (.cells #[.bool t] 4)).alloc (.cells #[.int .i64 0, .slice none 0 0, .int .i64 0] 26)) (w.heap.size + 1) 3 #[.int .i64 i] := ((Bk.new' _ _ _ (by simp)).alloc _).alloc _
  have hT : Bk ((((w.alloc (.cells #[.int .i64 V1, .slice A1 R1.length c1, .int .i64 r1] 26)).alloc (.cells #[.int .i64 i] 3)).alloc (.cells #[.bool t] 4)).alloc (.cells #[.int .i64 0, .slice none 0 0, .int .i64 0] 26)) (w.heap.size + 1 + 1) 4 #[.bool t] := (Bk.new' _ _ _ (by simp)).alloc _
  have hR : Bk ((((w.alloc (.cells #[.int .i64 V1, .slice A1 R1.length c1, .int .i64 r1] 26)).alloc (.cells #[.int .i64 i] 3)).alloc (.cells #[.bool t] 4)).alloc (.cells #[.int .i64 0, .slice none 0 0, .int .i64 0] 26)) (w.heap.size + 1 + 1 + 1) 26 #[.int .i64 0, .slice none 0 0, .int .i64 0] := Bk.new' _ _ _ (by simp)
  generalize ((((w.alloc (.cells #[.int .i64 V1, .slice A1 R1.length c1, .int .i64 r1] 26)).alloc (.cells #[.int .i64 i] 3)).alloc (.cells #[.bool t] 4)).alloc (.cells #[.int .i64 0, .slice none 0 0, .int .i64 0] 26)) = W0 at *
  have p0 : W0.cell? ⟨w.heap.size, 0, none⟩ = some (.int .i64 V1) := hA.cell 0
  have p1 : W0.cell? ⟨w.heap.size, 1, none⟩ = some (.slice A1 R1.length c1) := hA.cell 1
  have p2 : W0.cell? ⟨w.heap.size, 2, none⟩ = some (.int .i64 r1) := hA.cell 2
  have HS := Lib.hid (HCK.out W0 hk0)
  clear HCK
  by_cases h0 : ae = 0
  · subst h0
    obtain ⟨hv0, hv24⟩ := HVA.out rfl
    by_cases hneg : i < 0
    · have hre : re = 2 := by rw [HRE.out, if_neg (by simp), if_pos (.inl hneg)]
      go_wp2_with (go_at_call 60
                   (with_reducible refine HS.out.mono ?_)
                   rintro e w2 ⟨rfl, hk2⟩
                   have hA2 := hA.keep hk2 (fun h => h)
                   have hI2 := hI.keep hk2 (fun h => h)
                   have hT2 := hT.keep hk2 (fun h => h)
                   have hR2 := hR.keep hk2 (fun h => h)
                   have x0 : w2.cell? ⟨w.heap.size, 0, none⟩ = some (.int .i64 V1) := hA2.cell 0
                   have x1 : w2.cell? ⟨w.heap.size, 1, none⟩ = some (.slice A1 R1.length c1) := hA2.cell 1
                   have x2 : w2.cell? ⟨w.heap.size, 2, none⟩ = some (.int .i64 r1) := hA2.cell 2
                   have xi : w2.cell? ⟨w.heap.size + 1, 0, none⟩ = some (.int .i64 i) := hI2.cell 0
                   have xt : w2.cell? ⟨w.heap.size + 1 + 1, 0, none⟩ = some (.bool t) := hT2.cell 0
                   have y0 : w2.cell? ⟨w.heap.size + 1 + 1 + 1, 0, none⟩ = some (.int .i64 0) := hR2.cell 0
                   have y1 : w2.cell? ⟨w.heap.size + 1 + 1 + 1, 1, none⟩ = some (.slice none 0 0) := hR2.cell 1
                   have y2 : w2.cell? ⟨w.heap.size + 1 + 1 + 1, 2, none⟩ = some (.int .i64 0) := hR2.cell 2
                   have f0 := hR2.frozen 0
                   have f1 := hR2.frozen 1
                   have f2 := hR2.frozen 2)
      refine bodyPost_ret (v := .tuple #[dgZero, .int .i64 2]) (by simp [results, Tryd.results63, go_sem, dgZero, y0, y1, y2]) rfl (HP.out _ _ (fun _ => ⟨by rw [hre], ((((hk0.trans hk2 fun _ _ h => h).setCell (.inr (by simp; try omega)) _).setCell (.inr (by simp; try omega)) _).setCell (.inr (by simp; try omega)) _)⟩) (fun h => absurd (hre.symm.trans h) (by omega)))
    · by_cases hge : V1 ≤ i
      · have hre : re = 2 := by rw [HRE.out, if_neg (by simp), if_pos (.inr hge)]
        go_wp2_with (go_at_call 60
                     (with_reducible refine HS.out.mono ?_)
                     rintro e w2 ⟨rfl, hk2⟩
                     have hA2 := hA.keep hk2 (fun h => h)
                     have hI2 := hI.keep hk2 (fun h => h)
                     have hT2 := hT.keep hk2 (fun h => h)
                     have hR2 := hR.keep hk2 (fun h => h)
                     have x0 : w2.cell? ⟨w.heap.size, 0, none⟩ = some (.int .i64 V1) := hA2.cell 0
                     have x1 : w2.cell? ⟨w.heap.size, 1, none⟩ = some (.slice A1 R1.length c1) := hA2.cell 1
                     have x2 : w2.cell? ⟨w.heap.size, 2, none⟩ = some (.int .i64 r1) := hA2.cell 2
                     have xi : w2.cell? ⟨w.heap.size + 1, 0, none⟩ = some (.int .i64 i) := hI2.cell 0
                     have xt : w2.cell? ⟨w.heap.size + 1 + 1, 0, none⟩ = some (.bool t) := hT2.cell 0
                     have y0 : w2.cell? ⟨w.heap.size + 1 + 1 + 1, 0, none⟩ = some (.int .i64 0) := hR2.cell 0
                     have y1 : w2.cell? ⟨w.heap.size + 1 + 1 + 1, 1, none⟩ = some (.slice none 0 0) := hR2.cell 1
                     have y2 : w2.cell? ⟨w.heap.size + 1 + 1 + 1, 2, none⟩ = some (.int .i64 0) := hR2.cell 2
                     have f0 := hR2.frozen 0
                     have f1 := hR2.frozen 1
                     have f2 := hR2.frozen 2)
        refine bodyPost_ret (v := .tuple #[dgZero, .int .i64 2]) (by simp [results, Tryd.results63, go_sem, dgZero, y0, y1, y2]) rfl (HP.out _ _ (fun _ => ⟨by rw [hre], ((((hk0.trans hk2 fun _ _ h => h).setCell (.inr (by simp; try omega)) _).setCell (.inr (by simp; try omega)) _).setCell (.inr (by simp; try omega)) _)⟩) (fun h => absurd (hre.symm.trans h) (by omega)))
      · have hre : Hid (re = 0) := Lib.hid (by rw [HRE.out, if_neg (by simp), if_neg (by omega)])
        clear HRE
        go_wp2_with (go_at_call 60
                     (with_reducible refine HS.out.mono ?_)
                     rintro e w2 ⟨rfl, hk2⟩
                     have hA2 := hA.keep hk2 (fun h => h)
                     have hI2 := hI.keep hk2 (fun h => h)
                     have hT2 := hT.keep hk2 (fun h => h)
                     have hR2 := hR.keep hk2 (fun h => h)
                     have x0 : w2.cell? ⟨w.heap.size, 0, none⟩ = some (.int .i64 V1) := hA2.cell 0
                     have x1 : w2.cell? ⟨w.heap.size, 1, none⟩ = some (.slice A1 R1.length c1) := hA2.cell 1
                     have x2 : w2.cell? ⟨w.heap.size, 2, none⟩ = some (.int .i64 r1) := hA2.cell 2
                     have xi : w2.cell? ⟨w.heap.size + 1, 0, none⟩ = some (.int .i64 i) := hI2.cell 0
                     have xt : w2.cell? ⟨w.heap.size + 1 + 1, 0, none⟩ = some (.bool t) := hT2.cell 0
                     have y0 : w2.cell? ⟨w.heap.size + 1 + 1 + 1, 0, none⟩ = some (.int .i64 0) := hR2.cell 0
                     have y1 : w2.cell? ⟨w.heap.size + 1 + 1 + 1, 1, none⟩ = some (.slice none 0 0) := hR2.cell 1
                     have y2 : w2.cell? ⟨w.heap.size + 1 + 1 + 1, 2, none⟩ = some (.int .i64 0) := hR2.cell 2
                     have f0 := hR2.frozen 0
                     have f1 := hR2.frozen 1
                     have f2 := hR2.frozen 2)
        have hk5 : Keep NoF w2 (w2.alloc (.cells #[.int .i64 V1, .slice A1 R1.length c1, .int .i64 r1] 26)) := (Keep.refl _ _).alloc _
        have hkw2 : Keep NoF w w2 := hk0.trans hk2 fun _ _ h => h
        have hz2 : w.heap.size + 1 + 1 + 1 < w2.heap.size := hR2.lt
        obtain ⟨n, rfl⟩ : ∃ n : Nat, i = n := ⟨i.toNat, by omega⟩
        have hop := restrict_sem (w2.alloc (.cells #[.int .i64 V1, .slice A1 R1.length c1, .int .i64 r1] 26)) (w.heap.size + 1) (w.heap.size + 1 + 1) n t (by omega) (hk5.cellv xi (fun h => h)) (hk5.cellv xt (fun h => h))
        have HX := Lib.hid (HO.out (w2.alloc (.cells #[.int .i64 V1, .slice A1 R1.length c1, .int .i64 r1] 26)) _ _ hop (hkw2.trans hk5 fun _ _ h => h) (rd_new (w := w2) 26 #[.int .i64 V1, .slice A1 R1.length c1, .int .i64 r1] 3 1 1 rfl rfl (by omega)))
        have hR5 := hR2.keep hk5 (fun h => h)
        clear HO hop
        go_wp2_with (go_at_call 52
                     (with_reducible refine HX.out.mono ?_)
                     rintro e w3 ⟨V', r', err, A', n', cc', rfl, hout⟩
                     have hk3 := hout.2.2
                     have hb4 := hR5.keep hk3 (fun h => h)
                     have y0 : w3.cell? ⟨w.heap.size + 1 + 1 + 1, 0, none⟩ = some (.int .i64 0) := hb4.cell 0
                     have y1 : w3.cell? ⟨w.heap.size + 1 + 1 + 1, 1, none⟩ = some (.slice none 0 0) := hb4.cell 1
                     have y2 : w3.cell? ⟨w.heap.size + 1 + 1 + 1, 2, none⟩ = some (.int .i64 0) := hb4.cell 2
                     have f0 := hb4.frozen 0
                     have f1 := hb4.frozen 1
                     have f2 := hb4.frozen 2)
        have hkf : Keep NoF w (((w3.setCell ⟨w.heap.size + 1 + 1 + 1, 0, none⟩ (.int .i64 V')).setCell ⟨w.heap.size + 1 + 1 + 1, 1, none⟩ (.slice A' n' cc')).setCell ⟨w.heap.size + 1 + 1 + 1, 2, none⟩ (.int .i64 r')) := ((((hkw2.trans hk5 fun _ _ h => h).trans hk3 fun _ _ h => h).setCell (.inr (by simp; try omega)) _).setCell (.inr (by simp; try omega)) _).setCell (.inr (by simp; try omega)) _
        have hx := ((hb4.put 0 (.int .i64 V')).put 1 (.slice A' n' cc')).put 2 (.int .i64 r')
        have hset : ∀ k, k ≠ w.heap.size + 1 + 1 + 1 → (((w3.setCell ⟨w.heap.size + 1 + 1 + 1, 0, none⟩ (.int .i64 V')).setCell ⟨w.heap.size + 1 + 1 + 1, 1, none⟩ (.slice A' n' cc')).setCell ⟨w.heap.size + 1 + 1 + 1, 2, none⟩ (.int .i64 r')).heap[k]? = w3.heap[k]? := fun k hne => ((Below.heap_setCell _ _ _ k hne).trans (Below.heap_setCell _ _ _ k hne)).trans (Below.heap_setCell _ _ _ k hne)
        generalize ((w3.setCell ⟨w.heap.size + 1 + 1 + 1, 0, none⟩ (.int .i64 V')).setCell ⟨w.heap.size + 1 + 1 + 1, 1, none⟩ (.slice A' n' cc')).setCell ⟨w.heap.size + 1 + 1 + 1, 2, none⟩ (.int .i64 r') = W6 at *
        have hx0 : W6.cell? ⟨w.heap.size + 1 + 1 + 1, 0, none⟩ = some (.int .i64 V') := hx.cell 0
        have hx1 : W6.cell? ⟨w.heap.size + 1 + 1 + 1, 1, none⟩ = some (.slice A' n' cc') := hx.cell 1
        have hx2 : W6.cell? ⟨w.heap.size + 1 + 1 + 1, 2, none⟩ = some (.int .i64 r') := hx.cell 2
        have hz5 : w2.heap.size + 1 = (w2.alloc (.cells #[.int .i64 V1, .slice A1 R1.length c1, .int .i64 r1] 26)).heap.size := by simp
        refine bodyPost_ret (v := .tuple #[.agg #[.int .i64 V', .slice A' n' cc', .int .i64 r'], .int .i64 err]) (by simp [results, Tryd.results63, go_sem, hx0, hx1, hx2]) rfl (HP.out _ _ (fun h => absurd hre.out h) (fun _ => ?_))
        exact HMV.out _ _ _ hout W6 hkf (by omega) fun k hk => hset k (by omega)
  · have hne0 : (ae != 0) = true := by simpa using h0
    have hre : re = ae := by rw [HRE.out, if_pos h0]
    go_wp2_with (go_at_call 60
                 (with_reducible refine HS.out.mono ?_)
                 rintro e w2 ⟨rfl, hk2⟩
                 have hA2 := hA.keep hk2 (fun h => h)
                 have hI2 := hI.keep hk2 (fun h => h)
                 have hT2 := hT.keep hk2 (fun h => h)
                 have hR2 := hR.keep hk2 (fun h => h)
                 have x0 : w2.cell? ⟨w.heap.size, 0, none⟩ = some (.int .i64 V1) := hA2.cell 0
                 have x1 : w2.cell? ⟨w.heap.size, 1, none⟩ = some (.slice A1 R1.length c1) := hA2.cell 1
                 have x2 : w2.cell? ⟨w.heap.size, 2, none⟩ = some (.int .i64 r1) := hA2.cell 2
                 have xi : w2.cell? ⟨w.heap.size + 1, 0, none⟩ = some (.int .i64 i) := hI2.cell 0
                 have xt : w2.cell? ⟨w.heap.size + 1 + 1, 0, none⟩ = some (.bool t) := hT2.cell 0
                 have y0 : w2.cell? ⟨w.heap.size + 1 + 1 + 1, 0, none⟩ = some (.int .i64 0) := hR2.cell 0
                 have y1 : w2.cell? ⟨w.heap.size + 1 + 1 + 1, 1, none⟩ = some (.slice none 0 0) := hR2.cell 1
                 have y2 : w2.cell? ⟨w.heap.size + 1 + 1 + 1, 2, none⟩ = some (.int .i64 0) := hR2.cell 2
                 have f0 := hR2.frozen 0
                 have f1 := hR2.frozen 1
                 have f2 := hR2.frozen 2)
    refine bodyPost_ret (v := .tuple #[dgZero, .int .i64 ae]) (by simp [results, Tryd.results63, go_sem, dgZero, y0, y1, y2]) rfl (HP.out _ _ (fun _ => ⟨by rw [hre], ((((hk0.trans hk2 fun _ _ h => h).setCell (.inr (by simp; try omega)) _).setCell (.inr (by simp; try omega)) _).setCell (.inr (by simp; try omega)) _)⟩) (fun h => absurd (hre.symm.trans h) (by omega)))
end Go.Proofs.YtgdmcidcappkpaaDoor
namespace Go.Proofs.YtgdmcidcappkpaaDoor
open Go.RowKit
open Dd (Rn rat ofN toN checkErr MemoOk den canon)

def qErr (a : Dg) (S : Nat) : Int := if a.err ≠ 0 then a.err else if S / 2 ^ a.V.toNat ≠ 0 then 2 else 0

theorem cf_quantify : ∀ (args : Array Value) w', (callFunc 86 args).run Tryd.prog w' = .ok (.enter 86 args) w' := by intro args w'; kernel_rfl

set_option maxRecDepth 100000 in
set_option maxHeartbeats 1000000 in
theorem quantify_any (a : Dg) (S : Nat) (t : Bool) (hS : S < 18446744073709551616) (w : World) (ha : a.In w) : Calls Tryd.prog 82 #[a.val, .int .u64 S, .bool t] w (ErrOr w (qErr a S) (OpPost w a.V [a] (qSem t S))) := by
  have ha1 := ha.1
  have HO := Lib.hid fun (w1 : World) (lv : Value) (cap : Array Value) (hop : OpSem w1 86 cap 1 (qSem t S)) (hk : Keep NoF w w1) (hr : Rd w1 lv 3 [a].length ([a].flatMap Dg.cells)) =>
    oper_call (f := 86) (cap := cap) (ds := [a]) (V := a.V) (σ := qSem t S) cf_quantify hop ⟨a, rfl, rfl⟩ (by simp) (by simpa using ha) hk hr
  have hva : a.err = 0 → 0 ≤ a.V ∧ a.V ≤ 24 := fun h => by
    obtain ⟨v, M, r, h1, h2, h3, h4⟩ := Dd.valid_of h
    have := h4.vars
    omega
  have hmv : ∀ e w1 w', OpPost w1 a.V [a] (qSem t S) e w' → ∀ w2, Keep NoF w w2 → w.heap.size ≤ w1.heap.size → (∀ k, w1.heap.size ≤ k → w2.heap[k]? = w'.heap[k]?) → OpPost w a.V [a] (qSem t S) e w2 := fun e w1 w' h w2 hk h0 h1 => h.move hk h0 h1
  have HP : Hid (∀ e w', (qErr a S ≠ 0 → e = .returned (.tuple #[dgZero, .int .i64 (qErr a S)]) ∧ Keep NoF w w') → (qErr a S = 0 → OpPost w a.V [a] (qSem t S) e w') → ErrOr w (qErr a S) (OpPost w a.V [a] (qSem t S)) e w') := Lib.hid fun e w' h1 h2 => ⟨h1, h2⟩
  have hre : qErr a S = if a.err ≠ 0 then a.err else if S / 2 ^ a.V.toNat ≠ 0 then 2 else 0 := rfl
  have hck := fun (w1 : World) (hk : Keep NoF w w1) => check_any a.V a.R a.root a.sl w1 ha.2 (ha.1.kept hk fun _ _ h => h)
  have hcke : checkErr a.V a.R a.root = a.err := rfl
  rw [hcke] at hck
  obtain ⟨V1, R1, r1, s1⟩ := a
  simp only at ha1 hck hva hre hmv
  obtain ⟨_, A1, c1, rfl, _, _⟩ := ha1
  show Calls Tryd.prog 82 #[.agg #[.int .i64 V1, .slice A1 R1.length c1, .int .i64 r1], .int .u64 S, .bool t] w _
  clear ha hcke
  generalize ErrOr w (qErr ⟨V1, R1, r1, .slice A1 R1.length c1⟩ S) (OpPost w V1 [⟨V1, R1, r1, .slice A1 R1.length c1⟩] (qSem t S)) = PP at *
  generalize hpq : OpPost w V1 [⟨V1, R1, r1, .slice A1 R1.length c1⟩] (qSem t S) = PQ at *
  generalize qErr ⟨V1, R1, r1, .slice A1 R1.length c1⟩ S = re at *
  generalize Dg.err ⟨V1, R1, r1, .slice A1 R1.length c1⟩ = ae at *
  have HRE := Lib.hid hre
  have HVA := Lib.hid hva
  have HCK := Lib.hid hck
  have HMV := Lib.hid hmv
  clear hre hva hck hmv hpq
  go_enter Tryd.func82, Tryd.ntmps82
  go_upto_region 1 with (fail)
  have hk0 : Keep NoF w ((((w.alloc (.cells #[.int .i64 V1, .slice A1 R1.length c1, .int .i64 r1] 26)).alloc (.cells #[.int .u64 S] 31)).alloc (.cells #[.bool t] 4)).alloc (.cells #[.int .i64 0, .slice none 0 0, .int .i64 0] 26)) := ((((Keep.refl _ _).alloc _).alloc _).alloc _).alloc _
  have hA : Bk ((((w.alloc (.cells #[.int .i64 V1, .slice A1 R1.length c1, .int .i64 r1] 26)).alloc (.cells #[.int .u64 S] 31)).alloc (.cells #[.bool t] 4)).alloc (.cells #[.int .i64 0, .slice none 0 0, .int .i64 0] 26)) w.heap.size 26 #[.int .i64 V1, .slice A1 R1.length c1, .int .i64 r1] := (((Bk.new' _ _ _ (by simp)).alloc _).alloc _).alloc _
  have hI : Bk ((((w.alloc (.cells #[.int .i64 V1, .slice A1 R1.length c1, .int .i64 r1] 26)).alloc (.cells #[.int .u64 S] 31)).alloc (.cells #[.bool t] 4)).alloc (.cells #[.int .i64 0, .slice none 0 0, .int .i64 0] 26)) (w.heap.size + 1) 31 #[.int .u64 S] := ((Bk.new' _ _ _ (by simp)).alloc _).alloc _
  have hT : Bk ((((w.alloc (.cells #[.int .i64 V1, .slice A1 R1.length c1, .int .i64 r1] 26)).alloc (.cells #[.int .u64 S] 31)).alloc (.cells #[.bool t] 4)).alloc (.cells #[.int .i64 0, .slice none 0 0, .int .i64 0] 26)) (w.heap.size + 1 + 1) 4 #[.bool t] := (Bk.new' _ _ _ (by simp)).alloc _
  have hR : Bk ((((w.alloc (.cells #[.int .i64 V1, .slice A1 R1.length c1, .int .i64 r1] 26)).alloc (.cells #[.int .u64 S] 31)).alloc (.cells #[.bool t] 4)).alloc (.cells #[.int .i64 0, .slice none 0 0, .int .i64 0] 26)) (w.heap.size + 1 + 1 + 1) 26 #[.int .i64 0, .slice none 0 0, .int .i64 0] := Bk.new' _ _ _ (by simp)
  generalize ((((w.alloc (.cells #[.int .i64 V1, .slice A1 R1.length c1, .int .i64 r1] 26)).alloc (.cells #[.int .u64 S] 31)).alloc (.cells #[.bool t] 4)).alloc (.cells #[.int .i64 0, .slice none 0 0, .int .i64 0] 26)) = W0 at *
  have p0 : W0.cell? ⟨w.heap.size, 0, none⟩ = some (.int .i64 V1) := hA.cell 0
  have p1 : W0.cell? ⟨w.heap.size, 1, none⟩ = some (.slice A1 R1.length c1) := hA.cell 1
  have p2 : W0.cell? ⟨w.heap.size, 2, none⟩ = some (.int .i64 r1) := hA.cell 2
  have HS := Lib.hid (HCK.out W0 hk0)
  clear HCK
  by_cases h0 : ae = 0
  · subst h0
    obtain ⟨hv0, hv24⟩ := HVA.out rfl
    obtain ⟨v, rfl⟩ : ∃ v : Nat, V1 = v := ⟨V1.toNat, by omega⟩
    rw [Int.toNat_natCast] at HRE
    have hvl : v < 64 := by omega
    have hvl2 : (v : Int) < 64 := by omega
    have hdiv : (S : Int) / 2 ^ v = ((S / 2 ^ v : Nat) : Int) := by norm_cast
    by_cases hq : S / 2 ^ v ≠ 0
    · have hre : re = 2 := by rw [HRE.out, if_neg (by simp), if_pos hq]
      have hq2 : ((S : Int) / 2 ^ v != 0) = true := by rw [hdiv]; simp; omega
      clear hdiv
      go_wp2_with (go_at_call 60
                   (with_reducible refine HS.out.mono ?_)
                   rintro e w2 ⟨rfl, hk2⟩
                   have hA2 := hA.keep hk2 (fun h => h)
                   have hI2 := hI.keep hk2 (fun h => h)
                   have hT2 := hT.keep hk2 (fun h => h)
                   have hR2 := hR.keep hk2 (fun h => h)
                   have x0 : w2.cell? ⟨w.heap.size, 0, none⟩ = some (.int .i64 v) := hA2.cell 0
                   have x1 : w2.cell? ⟨w.heap.size, 1, none⟩ = some (.slice A1 R1.length c1) := hA2.cell 1
                   have x2 : w2.cell? ⟨w.heap.size, 2, none⟩ = some (.int .i64 r1) := hA2.cell 2
                   have xi : w2.cell? ⟨w.heap.size + 1, 0, none⟩ = some (.int .u64 S) := hI2.cell 0
                   have xt : w2.cell? ⟨w.heap.size + 1 + 1, 0, none⟩ = some (.bool t) := hT2.cell 0
                   have y0 : w2.cell? ⟨w.heap.size + 1 + 1 + 1, 0, none⟩ = some (.int .i64 0) := hR2.cell 0
                   have y1 : w2.cell? ⟨w.heap.size + 1 + 1 + 1, 1, none⟩ = some (.slice none 0 0) := hR2.cell 1
                   have y2 : w2.cell? ⟨w.heap.size + 1 + 1 + 1, 2, none⟩ = some (.int .i64 0) := hR2.cell 2
                   have f0 := hR2.frozen 0
                   have f1 := hR2.frozen 1
                   have f2 := hR2.frozen 2)
      refine bodyPost_ret (v := .tuple #[dgZero, .int .i64 2]) (by simp [results, Tryd.results82, go_sem, dgZero, y0, y1, y2]) rfl (HP.out _ _ (fun _ => ⟨by rw [hre], ((((hk0.trans hk2 fun _ _ h => h).setCell (.inr (by simp; try omega)) _).setCell (.inr (by simp; try omega)) _).setCell (.inr (by simp; try omega)) _)⟩) (fun h => absurd (hre.symm.trans h) (by omega)))
    · have hq2 : ((S : Int) / 2 ^ v != 0) = false := by rw [hdiv]; simp; omega
      clear hdiv
      have hre : Hid (re = 0) := Lib.hid (by rw [HRE.out, if_neg (by simp), if_neg (by simpa using hq)])
      clear HRE
      go_wp2_with (go_at_call 60
                   (with_reducible refine HS.out.mono ?_)
                   rintro e w2 ⟨rfl, hk2⟩
                   have hA2 := hA.keep hk2 (fun h => h)
                   have hI2 := hI.keep hk2 (fun h => h)
                   have hT2 := hT.keep hk2 (fun h => h)
                   have hR2 := hR.keep hk2 (fun h => h)
                   have x0 : w2.cell? ⟨w.heap.size, 0, none⟩ = some (.int .i64 v) := hA2.cell 0
                   have x1 : w2.cell? ⟨w.heap.size, 1, none⟩ = some (.slice A1 R1.length c1) := hA2.cell 1
                   have x2 : w2.cell? ⟨w.heap.size, 2, none⟩ = some (.int .i64 r1) := hA2.cell 2
                   have xi : w2.cell? ⟨w.heap.size + 1, 0, none⟩ = some (.int .u64 S) := hI2.cell 0
                   have xt : w2.cell? ⟨w.heap.size + 1 + 1, 0, none⟩ = some (.bool t) := hT2.cell 0
                   have y0 : w2.cell? ⟨w.heap.size + 1 + 1 + 1, 0, none⟩ = some (.int .i64 0) := hR2.cell 0
                   have y1 : w2.cell? ⟨w.heap.size + 1 + 1 + 1, 1, none⟩ = some (.slice none 0 0) := hR2.cell 1
                   have y2 : w2.cell? ⟨w.heap.size + 1 + 1 + 1, 2, none⟩ = some (.int .i64 0) := hR2.cell 2
                   have f0 := hR2.frozen 0
                   have f1 := hR2.frozen 1
                   have f2 := hR2.frozen 2)
      have hk5 : Keep NoF w2 (w2.alloc (.cells #[.int .i64 v, .slice A1 R1.length c1, .int .i64 r1] 26)) := (Keep.refl _ _).alloc _
      have hkw2 : Keep NoF w w2 := hk0.trans hk2 fun _ _ h => h
      have hz2 : w.heap.size + 1 + 1 + 1 < w2.heap.size := hR2.lt
      have hop := quant_sem (w2.alloc (.cells #[.int .i64 v, .slice A1 R1.length c1, .int .i64 r1] 26)) (w.heap.size + 1) (w.heap.size + 1 + 1) S t hS (hk5.cellv xi (fun h => h)) (hk5.cellv xt (fun h => h))
      have HX := Lib.hid (HO.out (w2.alloc (.cells #[.int .i64 v, .slice A1 R1.length c1, .int .i64 r1] 26)) _ _ hop (hkw2.trans hk5 fun _ _ h => h) (rd_new (w := w2) 26 #[.int .i64 v, .slice A1 R1.length c1, .int .i64 r1] 3 1 1 rfl rfl (by omega)))
      have hR5 := hR2.keep hk5 (fun h => h)
      clear HO hop
      go_wp2_with (go_at_call 52
                   (with_reducible refine HX.out.mono ?_)
                   rintro e w3 ⟨V', r', err, A', n', cc', rfl, hout⟩
                   have hk3 := hout.2.2
                   have hb4 := hR5.keep hk3 (fun h => h)
                   have y0 : w3.cell? ⟨w.heap.size + 1 + 1 + 1, 0, none⟩ = some (.int .i64 0) := hb4.cell 0
                   have y1 : w3.cell? ⟨w.heap.size + 1 + 1 + 1, 1, none⟩ = some (.slice none 0 0) := hb4.cell 1
                   have y2 : w3.cell? ⟨w.heap.size + 1 + 1 + 1, 2, none⟩ = some (.int .i64 0) := hb4.cell 2
                   have f0 := hb4.frozen 0
                   have f1 := hb4.frozen 1
                   have f2 := hb4.frozen 2)
      have hkf : Keep NoF w (((w3.setCell ⟨w.heap.size + 1 + 1 + 1, 0, none⟩ (.int .i64 V')).setCell ⟨w.heap.size + 1 + 1 + 1, 1, none⟩ (.slice A' n' cc')).setCell ⟨w.heap.size + 1 + 1 + 1, 2, none⟩ (.int .i64 r')) := ((((hkw2.trans hk5 fun _ _ h => h).trans hk3 fun _ _ h => h).setCell (.inr (by simp; try omega)) _).setCell (.inr (by simp; try omega)) _).setCell (.inr (by simp; try omega)) _
      have hx := ((hb4.put 0 (.int .i64 V')).put 1 (.slice A' n' cc')).put 2 (.int .i64 r')
      have hset : ∀ k, k ≠ w.heap.size + 1 + 1 + 1 → (((w3.setCell ⟨w.heap.size + 1 + 1 + 1, 0, none⟩ (.int .i64 V')).setCell ⟨w.heap.size + 1 + 1 + 1, 1, none⟩ (.slice A' n' cc')).setCell ⟨w.heap.size + 1 + 1 + 1, 2, none⟩ (.int .i64 r')).heap[k]? = w3.heap[k]? := fun k hne => ((Below.heap_setCell _ _ _ k hne).trans (Below.heap_setCell _ _ _ k hne)).trans (Below.heap_setCell _ _ _ k hne)
      generalize ((w3.setCell ⟨w.heap.size + 1 + 1 + 1, 0, none⟩ (.int .i64 V')).setCell ⟨w.heap.size + 1 + 1 + 1, 1, none⟩ (.slice A' n' cc')).setCell ⟨w.heap.size + 1 + 1 + 1, 2, none⟩ (.int .i64 r') = W6 at *
      have hx0 : W6.cell? ⟨w.heap.size + 1 + 1 + 1, 0, none⟩ = some (.int .i64 V') := hx.cell 0
      have hx1 : W6.cell? ⟨w.heap.size + 1 + 1 + 1, 1, none⟩ = some (.slice A' n' cc') := hx.cell 1
      have hx2 : W6.cell? ⟨w.heap.size + 1 + 1 + 1, 2, none⟩ = some (.int .i64 r') := hx.cell 2
      have hz5 : w2.heap.size + 1 = (w2.alloc (.cells #[.int .i64 v, .slice A1 R1.length c1, .int .i64 r1] 26)).heap.size := by simp
      refine bodyPost_ret (v := .tuple #[.agg #[.int .i64 V', .slice A' n' cc', .int .i64 r'], .int .i64 err]) (by simp [results, Tryd.results82, go_sem, hx0, hx1, hx2]) rfl (HP.out _ _ (fun h => absurd hre.out h) (fun _ => ?_))
      exact HMV.out _ _ _ hout W6 hkf (by omega) fun k hk => hset k (by omega)
  · have hne0 : (ae != 0) = true := by simpa using h0
    have hre : re = ae := by rw [HRE.out, if_pos h0]
    go_wp2_with (go_at_call 60
                 (with_reducible refine HS.out.mono ?_)
                 rintro e w2 ⟨rfl, hk2⟩
                 have hA2 := hA.keep hk2 (fun h => h)
                 have hI2 := hI.keep hk2 (fun h => h)
                 have hT2 := hT.keep hk2 (fun h => h)
                 have hR2 := hR.keep hk2 (fun h => h)
                 have x0 : w2.cell? ⟨w.heap.size, 0, none⟩ = some (.int .i64 V1) := hA2.cell 0
                 have x1 : w2.cell? ⟨w.heap.size, 1, none⟩ = some (.slice A1 R1.length c1) := hA2.cell 1
                 have x2 : w2.cell? ⟨w.heap.size, 2, none⟩ = some (.int .i64 r1) := hA2.cell 2
                 have xi : w2.cell? ⟨w.heap.size + 1, 0, none⟩ = some (.int .u64 S) := hI2.cell 0
                 have xt : w2.cell? ⟨w.heap.size + 1 + 1, 0, none⟩ = some (.bool t) := hT2.cell 0
                 have y0 : w2.cell? ⟨w.heap.size + 1 + 1 + 1, 0, none⟩ = some (.int .i64 0) := hR2.cell 0
                 have y1 : w2.cell? ⟨w.heap.size + 1 + 1 + 1, 1, none⟩ = some (.slice none 0 0) := hR2.cell 1
                 have y2 : w2.cell? ⟨w.heap.size + 1 + 1 + 1, 2, none⟩ = some (.int .i64 0) := hR2.cell 2
                 have f0 := hR2.frozen 0
                 have f1 := hR2.frozen 1
                 have f2 := hR2.frozen 2)
    refine bodyPost_ret (v := .tuple #[dgZero, .int .i64 ae]) (by simp [results, Tryd.results82, go_sem, dgZero, y0, y1, y2]) rfl (HP.out _ _ (fun _ => ⟨by rw [hre], ((((hk0.trans hk2 fun _ _ h => h).setCell (.inr (by simp; try omega)) _).setCell (.inr (by simp; try omega)) _).setCell (.inr (by simp; try omega)) _)⟩) (fun h => absurd (hre.symm.trans h) (by omega)))
end Go.Proofs.YtgdmcidcappkpaaDoor
namespace Go.Proofs.YtgdmcidcappkpaaDoor
open Go.RowKit

theorem ErrOr.keep {w : World} {err V : Int} {ds : List Dg} {σ : List BF → BF} {e : Ending} {w' : World} (h : ErrOr w err (OpPost w V ds σ) e w') : Keep NoF w w' := by
  by_cases h0 : err = 0
  · exact (h.2 h0).2.2
  · exact (h.1 h0).2
theorem ErrOr.out {w : World} {er V : Int} {ds : List Dg} {σ : List BF → BF} {e : Ending} {w' : World} (h : ErrOr w er (OpPost w V ds σ) e w') :
    ∃ V' r' err A n cc, e = .returned (.tuple #[.agg #[.int .i64 V', .slice A n cc, .int .i64 r'], .int .i64 err]) ∧ ErrOr w er (OpPost w V ds σ) (.returned (.tuple #[.agg #[.int .i64 V', .slice A n cc, .int .i64 r'], .int .i64 err])) w' := by
  by_cases h0 : er = 0
  · obtain ⟨_, _, _, _, _, _, he, _⟩ := (h.2 h0).out
    exact ⟨_, _, _, _, _, _, he, he ▸ h⟩
  · have he := (h.1 h0).1
    exact ⟨_, _, _, _, _, _, he, he ▸ h⟩
theorem ErrOr.move {w w0 : World} {er V : Int} {ds : List Dg} {σ : List BF → BF} {e : Ending} {w1 w' : World} (h : ErrOr w er (OpPost w V ds σ) e w1) (hk0 : Keep NoF w0 w') (h0 : w0.heap.size ≤ w.heap.size) (hk : ∀ k, w.heap.size ≤ k → w'.heap[k]? = w1.heap[k]?) : ErrOr w0 er (OpPost w0 V ds σ) e w' :=
  ⟨fun h' => ⟨(h.1 h').1, hk0⟩, fun h' => (h.2 h').move hk0 h0 hk⟩

set_option maxRecDepth 100000 in
theorem Exists_any (a : Dg) (S : Nat) (hS : S < 18446744073709551616) (w : World) (ha : a.In w) : Calls Tryd.prog 65 #[a.val, .int .u64 S] w (ErrOr w (qErr a S) (OpPost w a.V [a] (qSem true S))) := by
  have HQ := Lib.hid fun (w1 : World) (hk : Keep NoF w w1) => (quantify_any a S true hS w1 ⟨ha.1.kept hk fun _ _ h => h, ha.2⟩).mono fun _ _ h => h.out
  have hmv : ∀ e w1 w', ErrOr w1 (qErr a S) (OpPost w1 a.V [a] (qSem true S)) e w' → ∀ w2, Keep NoF w w2 → w.heap.size ≤ w1.heap.size → (∀ k, w1.heap.size ≤ k → w2.heap[k]? = w'.heap[k]?) → ErrOr w (qErr a S) (OpPost w a.V [a] (qSem true S)) e w2 := fun e w1 w' h w2 hk h0 h1 => h.move hk h0 h1
  have HK : Hid (∀ e w1 w', ErrOr w1 (qErr a S) (OpPost w1 a.V [a] (qSem true S)) e w' → Keep NoF w1 w') := Lib.hid fun e w1 w' h => h.keep
  have ha1 := ha.1
  obtain ⟨V1, R1, r1, s1⟩ := a
  simp only at ha1
  obtain ⟨_, A1, c1, rfl, _, _⟩ := ha1
  show Calls Tryd.prog 65 #[.agg #[.int .i64 V1, .slice A1 R1.length c1, .int .i64 r1], .int .u64 S] w _
  clear ha
  generalize ErrOr w (qErr ⟨V1, R1, r1, .slice A1 R1.length c1⟩ S) (OpPost w V1 [⟨V1, R1, r1, .slice A1 R1.length c1⟩] (qSem true S)) = PP at *
  have HMV := Lib.hid hmv
  clear hmv
  have hk0 : Keep NoF w ((w.alloc (.cells #[.int .i64 V1, .slice A1 R1.length c1, .int .i64 r1] 26)).alloc (.cells #[.int .i64 0, .slice none 0 0, .int .i64 0] 26)) := ((Keep.refl _ _).alloc _).alloc _
  have hb : Bk ((w.alloc (.cells #[.int .i64 V1, .slice A1 R1.length c1, .int .i64 r1] 26)).alloc (.cells #[.int .i64 0, .slice none 0 0, .int .i64 0] 26)) (w.heap.size + 1) 26 #[.int .i64 0, .slice none 0 0, .int .i64 0] := Bk.new' _ _ _ (by simp)
  have hA : Bk ((w.alloc (.cells #[.int .i64 V1, .slice A1 R1.length c1, .int .i64 r1] 26)).alloc (.cells #[.int .i64 0, .slice none 0 0, .int .i64 0] 26)) w.heap.size 26 #[.int .i64 V1, .slice A1 R1.length c1, .int .i64 r1] := (Bk.new' _ _ _ (by simp)).alloc _
  have hz : ((w.alloc (.cells #[.int .i64 V1, .slice A1 R1.length c1, .int .i64 r1] 26)).alloc (.cells #[.int .i64 0, .slice none 0 0, .int .i64 0] 26)).heap.size = w.heap.size + 1 + 1 := by simp
  have HX : Hid (Calls Tryd.prog 82 #[.agg #[.int .i64 V1, .slice A1 R1.length c1, .int .i64 r1], .int .u64 S, .bool true] ((w.alloc (.cells #[.int .i64 V1, .slice A1 R1.length c1, .int .i64 r1] 26)).alloc (.cells #[.int .i64 0, .slice none 0 0, .int .i64 0] 26)) _) := Lib.hid (HQ.out _ hk0)
  clear HQ
  go_enter Tryd.func65, Tryd.ntmps65
  go_wp2_with (go_at_call 82
               (with_reducible refine HX.out.mono ?_)
               rintro e w3 ⟨V', r', err, A', n', cc', rfl, hout⟩
               have hk3 := HK.out _ _ _ hout
               have hb4 := hb.keep hk3 (fun h => h)
               have y0 : w3.cell? ⟨w.heap.size + 1, 0, none⟩ = some (.int .i64 0) := hb4.cell 0
               have y1 : w3.cell? ⟨w.heap.size + 1, 1, none⟩ = some (.slice none 0 0) := hb4.cell 1
               have y2 : w3.cell? ⟨w.heap.size + 1, 2, none⟩ = some (.int .i64 0) := hb4.cell 2
               have f0 := hb4.frozen 0
               have f1 := hb4.frozen 1
               have f2 := hb4.frozen 2)
  have hkf : Keep NoF w (((w3.setCell ⟨w.heap.size + 1, 0, none⟩ (.int .i64 V')).setCell ⟨w.heap.size + 1, 1, none⟩ (.slice A' n' cc')).setCell ⟨w.heap.size + 1, 2, none⟩ (.int .i64 r')) := (((hk0.trans hk3 fun _ _ h => h).setCell (.inr (by simp)) _).setCell (.inr (by simp)) _).setCell (.inr (by simp)) _
  have hx := ((hb4.put 0 (.int .i64 V')).put 1 (.slice A' n' cc')).put 2 (.int .i64 r')
  have hset : ∀ k, k ≠ w.heap.size + 1 → (((w3.setCell ⟨w.heap.size + 1, 0, none⟩ (.int .i64 V')).setCell ⟨w.heap.size + 1, 1, none⟩ (.slice A' n' cc')).setCell ⟨w.heap.size + 1, 2, none⟩ (.int .i64 r')).heap[k]? = w3.heap[k]? := fun k hne => ((Below.heap_setCell _ _ _ k hne).trans (Below.heap_setCell _ _ _ k hne)).trans (Below.heap_setCell _ _ _ k hne)
  generalize ((w3.setCell ⟨w.heap.size + 1, 0, none⟩ (.int .i64 V')).setCell ⟨w.heap.size + 1, 1, none⟩ (.slice A' n' cc')).setCell ⟨w.heap.size + 1, 2, none⟩ (.int .i64 r') = W6 at *
  have hx0 : W6.cell? ⟨w.heap.size + 1, 0, none⟩ = some (.int .i64 V') := hx.cell 0
  have hx1 : W6.cell? ⟨w.heap.size + 1, 1, none⟩ = some (.slice A' n' cc') := hx.cell 1
  have hx2 : W6.cell? ⟨w.heap.size + 1, 2, none⟩ = some (.int .i64 r') := hx.cell 2
  refine bodyPost_ret (v := .tuple #[.agg #[.int .i64 V', .slice A' n' cc', .int .i64 r'], .int .i64 err]) (by simp [results, Tryd.results65, go_sem, hx0, hx1, hx2]) rfl ?_
  exact HMV.out _ _ _ hout W6 hkf (by omega) fun k hk => hset k (by omega)

end Go.Proofs.YtgdmcidcappkpaaDoor
