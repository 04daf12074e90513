/- What the reference's combine does. No condition. -/
import Derived.Test.YtengdldkkmknpaaRApp
set_option linter.unusedVariables false
set_option linter.unusedSimpArgs false
namespace Go.Proofs.Ytengdldkkmknpaa
open Go.RowKit
open Dd (Rn rat ofN toN checkErr den lo var vr mk BOp ApRel ApMemo atP canon)

/-- A diagram of the function f of V variables, alone. -/
def FPost (w : World) (V : Nat) (f : (Nat → Bool) → Bool) (e : Ending) (w' : World) : Prop :=
  ∃ (N : List Dd.Nd) (r : Nat), Dd.Good N ∧ r < N.length + 2 ∧ (∀ ρ, den N r ρ = f ρ) ∧ CPost w V (canon N r) e w'

/-- An operand: a list that is in order, its variables below V. -/
structure Opd (w : World) (V : Nat) (f : (Nat → Bool) → Bool) (A : Option Addr) (n c r : Nat) (M : List Dd.Nd) : Prop where
  len : n = M.length
  rd : Rd w (.slice A n c) 3 n (ndsC M)
  good : Dd.Good M
  vars : ∀ i, 2 ≤ i → i < M.length + 2 → var M i < V
  root : r < M.length + 2
  den : ∀ ρ, Dd.den M r ρ = f ρ
  small : M.length ≤ 1200000

set_option maxRecDepth 100000 in
set_option maxHeartbeats 2000000 in
theorem combine_any (op V : Nat) (hop : op < 3) (hV : V ≤ 24) {f g : (Nat → Bool) → Bool} {A1 A2 : Option Addr} {n1 c1 r1 n2 c2 r2 : Nat} {M1 M2 : List Dd.Nd} {w : World} (H1 : Opd w V f A1 n1 c1 r1 M1) (H2 : Opd w V g A2 n2 c2 r2 M2) :
    Calls Try.prog 67 #[.int .i64 op, .agg #[.int .i64 V, .slice A1 n1 c1, .int .i64 r1], .agg #[.int .i64 V, .slice A2 n2 c2, .int .i64 r2]] w (FPost w V fun ρ => opF op (f ρ) (g ρ)) := by
  have h1 := H1.rd
  have h2 := H2.rd
  have hn1 := H1.small
  have hn2 := H2.small
  rw [← H1.len] at hn1
  rw [← H2.len] at hn2
  have hm : (n1 + 2) * (n2 + 2) ≤ 1200002 * 1200002 := Nat.mul_le_mul (by omega) (by omega)
  have hm' : (n1 + 2) * (n2 + 2) ≤ 35184372088832 := by omega
  have hmul : IntKind.i64.wrap (((n1 : Int) + 2) * ((n2 : Int) + 2)) = (((n1 + 2) * (n2 + 2) : Nat) : Int) := by
    have e : ((n1 : Int) + 2) * ((n2 : Int) + 2) = (((n1 + 2) * (n2 + 2) : Nat) : Int) := by push_cast; rfl
    rw [e]
    exact IntWalk.i64_in _ (by omega)
  clear hm
  generalize hpr : (n1 + 2) * (n2 + 2) = pr at *
  have HPR := Lib.hid hpr
  clear hpr
  go_enter Try.func67, Try.ntmps67
  go_upto_region 1 with (fail)
  have kw : Keep NoF w (((w.alloc (.cells #[.int .i64 V, .slice A1 n1 c1, .int .i64 r1] 24)).alloc (.cells #[.int .i64 V, .slice A2 n2 c2, .int .i64 r2] 24)).alloc (.cells #[.int .i64 0, .slice none 0 0, .int .i64 0] 24)) := (((Keep.refl _ _).alloc _).alloc _).alloc _
  have qa : Bk (((w.alloc (.cells #[.int .i64 V, .slice A1 n1 c1, .int .i64 r1] 24)).alloc (.cells #[.int .i64 V, .slice A2 n2 c2, .int .i64 r2] 24)).alloc (.cells #[.int .i64 0, .slice none 0 0, .int .i64 0] 24)) w.heap.size 24 #[.int .i64 V, .slice A1 n1 c1, .int .i64 r1] := ((Bk.new' _ _ _ (by simp)).alloc _).alloc _
  have qb : Bk (((w.alloc (.cells #[.int .i64 V, .slice A1 n1 c1, .int .i64 r1] 24)).alloc (.cells #[.int .i64 V, .slice A2 n2 c2, .int .i64 r2] 24)).alloc (.cells #[.int .i64 0, .slice none 0 0, .int .i64 0] 24)) (w.heap.size + 1) 24 #[.int .i64 V, .slice A2 n2 c2, .int .i64 r2] := (Bk.new' _ _ _ (by simp)).alloc _
  have qz : Bk (((w.alloc (.cells #[.int .i64 V, .slice A1 n1 c1, .int .i64 r1] 24)).alloc (.cells #[.int .i64 V, .slice A2 n2 c2, .int .i64 r2] 24)).alloc (.cells #[.int .i64 0, .slice none 0 0, .int .i64 0] 24)) (w.heap.size + 1 + 1) 24 #[.int .i64 0, .slice none 0 0, .int .i64 0] := Bk.new' _ _ _ (by simp)
  have hz : (((w.alloc (.cells #[.int .i64 V, .slice A1 n1 c1, .int .i64 r1] 24)).alloc (.cells #[.int .i64 V, .slice A2 n2 c2, .int .i64 r2] 24)).alloc (.cells #[.int .i64 0, .slice none 0 0, .int .i64 0] 24)).heap.size = w.heap.size + 1 + 1 + 1 := by simp
  have HZ := Lib.hid hz
  clear hz
  generalize ((w.alloc (.cells #[.int .i64 V, .slice A1 n1 c1, .int .i64 r1] 24)).alloc (.cells #[.int .i64 V, .slice A2 n2 c2, .int .i64 r2] 24)).alloc (.cells #[.int .i64 0, .slice none 0 0, .int .i64 0] 24) = W3 at *
  have a0 : W3.cell? ⟨w.heap.size, 0, none⟩ = some (.int .i64 V) := qa.cell 0
  have a1 : W3.cell? ⟨w.heap.size, 1, none⟩ = some (.slice A1 n1 c1) := qa.cell 1
  have a2 : W3.cell? ⟨w.heap.size, 2, none⟩ = some (.int .i64 r1) := qa.cell 2
  have b0 : W3.cell? ⟨w.heap.size + 1, 0, none⟩ = some (.int .i64 V) := qb.cell 0
  have b1 : W3.cell? ⟨w.heap.size + 1, 1, none⟩ = some (.slice A2 n2 c2) := qb.cell 1
  have b2 : W3.cell? ⟨w.heap.size + 1, 2, none⟩ = some (.int .i64 r2) := qb.cell 2
  have hmk := run_make_ints pr (by omega)
  have l1 : w.heap.size < W3.heap.size := qa.lt
  have l2 : w.heap.size + 1 < W3.heap.size := qb.lt
  go_cut [7] (fun v7 wx => ∃ wb db, v7 = .pointer (some ⟨wb, 0, none⟩) ∧ Bk wx wb 94 (wkC op V r1 r2 (.slice A1 n1 c1) (.slice A2 n2 c2) (.slice none 0 0) (.slice (some ⟨db, 0, none⟩) pr pr)) ∧ Bk wx db 3 (inA (List.replicate pr 0)) ∧ Keep NoF W3 wx ∧ W3.heap.size ≤ wb ∧ W3.heap.size ≤ db)
  case first =>
    go_region
    · go_wp2
      go_meet
      refine ⟨W3.heap.size + 1, W3.heap.size, ?_, Bk.drew (Bk.new' _ _ _ (by simp)), Bk.drew ((Bk.new' _ _ _ (by simp)).alloc _), (((Keep.refl _ _).alloc _).alloc _).drew, by omega, by omega⟩
      first | rfl | simp
    · go_wp2
      go_meet
      refine ⟨W3.heap.size, W3.heap.size + 1, ?_, Bk.drew ((Bk.new' _ _ _ (by simp)).alloc _), Bk.drew (Bk.new' _ _ _ (by simp)), (((Keep.refl _ _).alloc _).alloc _).drew, by omega, by omega⟩
      first | rfl | simp
  case rest =>
    obtain ⟨wb, db, rfl, hw, hd, hk4, hwb, hdb⟩ := hcut
    obtain ⟨W4, rfl⟩ : ∃ W4 : World, W4 = wc := ⟨_, rfl⟩
    have kw4 := kw.trans hk4 fun _ _ h => h
    have qz4 := qz.keep hk4 (fun h => h)
    have d2 := hk4.cellv a2 (fun h => h)
    have d5 := hk4.cellv b2 (fun h => h)
    have hz4 := hk4.size
    have HSZ := Lib.hid (And.intro HZ.out (And.intro hwb (And.intro hdb hz4)))
    have e1 := H1.len
    have e2 := H2.len
    have hR1 := h1.kept kw4 fun _ _ h => h
    have hR2 := h2.kept kw4 fun _ _ h => h
    have hb1 : ∀ i, (Value.slice A1 n1 c1).ownBlock = some i → 0 < n1 → i < w.heap.size := fun i hi h0 => h1.blk_lt h0 (by omega) i hi
    have hb2 : ∀ i, (Value.slice A2 n2 c2).ownBlock = some i → 0 < n2 → i < w.heap.size := fun i hi h0 => h2.blk_lt h0 (by omega) i hi
    have HC1 : Hid (∀ k : Wk, k = ⟨wb, op, V, M1, M2, r1, r2, .slice A1 n1 c1, .slice A2 n2 c2, db⟩ → Calls Try.prog 88 #[.pointer (some ⟨wb, 0, none⟩), .int .i64 r1, .int .i64 r2] W4 (APost k r1 r2 [] (fun i => i = wb ∨ i = db) W4)) := Lib.hid (by
      intro k hk
      have hkn : k.n = pr := by subst hk; show (M1.length + 2) * (M2.length + 2) = pr; rw [← e1, ← e2]; exact HPR.out
      have := app_fuel (r1 + r2 + 1) k W4 [] (fun _ => none) (fun i => i = wb ∨ i = db) r1 r2
        (by subst hk; exact ⟨hop, hV, H1.good, H2.good, H1.vars, H2.vars, by rw [hkn]; exact hm', by have := H1.small; show M1.length ≤ _; omega, by have := H2.small; show M2.length ≤ _; omega⟩)
        (by
          refine ⟨.slice none 0 0, List.replicate pr 0, ?_, World.ownsRow_nil _ _ _ _, by subst hk; exact hd, by rw [hkn]; simp, fun x y _ _ => ?_, fun i => ?_⟩
          · unfold Wk.cs
            rw [hkn]
            subst hk
            exact hw
          · unfold AP
            rw [if_pos]
            rw [List.getD_eq_getElem?_getD, List.getElem?_replicate]
            split <;> rfl
          · subst hk; simp [Value.ownBlock])
        (by
          subst hk
          refine ⟨by rw [e1] at hR1; rw [e1]; exact hR1, by rw [e2] at hR2; rw [e2]; exact hR2, fun h0 i hi h => ?_, fun h0 i hi h => ?_⟩
          · have := hb1 i hi (by rw [e1]; exact h0)
            have := HSZ.out
            omega
          · have := hb2 i hi (by rw [e2]; exact h0)
            have := HSZ.out
            omega)
        Dd.Good.nil (Dd.ApMemo.none _ _ _ _) (by subst hk; exact H1.root) (by subst hk; exact H2.root) (by omega)
        (by
          have : 2 ^ (24 - min (var k.A r1) (var k.B r2)) ≤ 2 ^ 24 := Nat.pow_le_pow_right (by omega) (by omega)
          simp only [List.length_nil]
          omega)
      unfold appArgs at this
      subst hk
      exact this)
    obtain ⟨k, hk⟩ : ∃ k : Wk, k = ⟨wb, op, V, M1, M2, r1, r2, .slice A1 n1 c1, .slice A2 n2 c2, db⟩ := ⟨_, rfl⟩
    have HC := Lib.hid (HC1.out k hk)
    have HK := Lib.hid hk
    clear HC1 hk a0 a1 a2 b0 b1 b2 hmk hmul qa qb qz h1 h2 hR1 hR2 hb1 hb2 hw hd
    go_upto_region 3 with (go_at_call 88
                           (with_reducible refine HC.out.mono ?_)
                           rintro e w5 ⟨r, N', G', K', rfl, R, ⟨dv, P, od, oo, op', _, _, oK⟩, hk5, hK5⟩
                           have od : Bk w5 wb 94 (wkC op V r1 r2 (.slice A1 n1 c1) (.slice A2 n2 c2) dv (.slice (some ⟨k.db, 0, none⟩) k.n k.n)) := (by have := od; unfold Wk.cs at this; rw [HK.out] at this ⊢; exact this)
                           have g9 : w5.cell? ⟨wb, 9, none⟩ = some (.int .i64 0) := od.cell 9
                           have g9f := od.frozen 9)
    obtain ⟨A', c', rfl⟩ := own_form oo
    have HR := Lib.hid R
    have hlen : N'.length ≤ 1099510000000 := by
      have h1 := R.len
      have h2 : 2 ^ (24 - min (var k.A r1) (var k.B r2)) ≤ 2 ^ 24 := Nat.pow_le_pow_right (by omega) (by omega)
      simp only [List.length_nil] at h1
      omega
    have hdw : (Value.slice A' N'.length c').ownBlock ≠ some wb := own_ne_bk oo od (by decide)
    have od6 := od.put 9 (.int .i64 (r : Nat))
    have hsz := HSZ.out
    have qz6 := (qz4.keep hk5 (by omega)).far (p := ⟨wb, 9, none⟩) (by show w.heap.size + 1 + 1 ≠ wb; omega) (.int .i64 (r : Nat))
    have ro6 : Rd (w5.setCell ⟨wb, 9, none⟩ (.int .i64 (r : Nat))) (.slice A' N'.length c') 3 N'.length (ndsC N') := Rd.kept (F := fun k => k = wb) (Rd.of_own oo) ((Keep.refl (fun k => k = wb) w5).setCell (p := ⟨wb, 9, none⟩) (.inl rfl) _) fun k hk e => hdw (e ▸ hk)
    have A6 : Keep NoF w (w5.setCell ⟨wb, 9, none⟩ (.int .i64 (r : Nat))) := (kw4.trans hk5 fun i hi h => by omega).setCell (p := ⟨wb, 9, none⟩) (.inr (by show w.heap.size ≤ wb; omega)) _
    have HCC := canonical_any V N' (.slice A' N'.length c') r _ R.good R.lt hlen ro6
    clear od oo op' g9 g9f HC R oK ro6 hsz
    generalize w5.setCell ⟨wb, 9, none⟩ (.int .i64 (r : Nat)) = W6 at *
    generalize hC : canon N' r = C at *
    obtain ⟨C1, C2⟩ := C
    have HCE := Lib.hid hC
    have HCC := Lib.hid HCC
    clear hC
    have g7 : W6.cell? ⟨wb, 7, none⟩ = some (.int .i64 V) := od6.cell 7
    have g8 : W6.cell? ⟨wb, 8, none⟩ = some (.slice A' N'.length c') := od6.cell 8
    have g9 : W6.cell? ⟨wb, 9, none⟩ = some (.int .i64 r) := od6.cell 9
    go_wp2_with (go_at_call 59
                 (with_reducible refine HCC.out.mono ?_)
                 rintro e w7 ⟨A, c, rfl, hrd7, hk7, hf7⟩
                 have qz7 := qz6.keep hk7 (fun h => h)
                 have z0 : w7.cell? ⟨w.heap.size + 1 + 1, 0, none⟩ = some (.int .i64 0) := qz7.cell 0
                 have z1 : w7.cell? ⟨w.heap.size + 1 + 1, 1, none⟩ = some (.slice none 0 0) := qz7.cell 1
                 have z2 : w7.cell? ⟨w.heap.size + 1 + 1, 2, none⟩ = some (.int .i64 0) := qz7.cell 2
                 have f0 := qz7.frozen 0
                 have f1 := qz7.frozen 1
                 have f2 := qz7.frozen 2)
    have hx := ((qz7.put 0 (.int .i64 V)).put 1 (.slice A C2.length c)).put 2 (.int .i64 C1)
    have hz6 := A6.size
    have hz7 := hk7.size
    have hzl : w.heap.size + 1 + 1 < W6.heap.size := qz6.lt
    have A7 : Keep NoF w w7 := A6.trans hk7 fun _ _ h => h
    have hkf := A7.set3 (b := w.heap.size + 1 + 1) (by omega) (.int .i64 V) (.slice A C2.length c) (.int .i64 C1)
    have hrf : Rd (((w7.setCell ⟨w.heap.size + 1 + 1, 0, none⟩ (.int .i64 V)).setCell ⟨w.heap.size + 1 + 1, 1, none⟩ (.slice A C2.length c)).setCell ⟨w.heap.size + 1 + 1, 2, none⟩ (.int .i64 C1)) (.slice A C2.length c) 3 C2.length (ndsC C2) := hrd7.kept (keep_set3 w7 (w.heap.size + 1 + 1) _ _ _) fun k hk (e : k = w.heap.size + 1 + 1) => by have := hf7 k hk; omega
    generalize ((w7.setCell ⟨w.heap.size + 1 + 1, 0, none⟩ (.int .i64 V)).setCell ⟨w.heap.size + 1 + 1, 1, none⟩ (.slice A C2.length c)).setCell ⟨w.heap.size + 1 + 1, 2, none⟩ (.int .i64 C1) = W7 at *
    have x0 : W7.cell? ⟨w.heap.size + 1 + 1, 0, none⟩ = some (.int .i64 V) := hx.cell 0
    have x1 : W7.cell? ⟨w.heap.size + 1 + 1, 1, none⟩ = some (.slice A C2.length c) := hx.cell 1
    have x2 : W7.cell? ⟨w.heap.size + 1 + 1, 2, none⟩ = some (.int .i64 C1) := hx.cell 2
    refine bodyPost_ret (v := .agg #[.int .i64 V, .slice A C2.length c, .int .i64 C1]) (by simp [results, Try.results67, go_sem, x0, x1, x2]) rfl ?_
    have hkA : k.A = M1 := by rw [HK.out]
    have hkB : k.B = M2 := by rw [HK.out]
    have hko : k.op = op := by rw [HK.out]
    refine ⟨N', r, HR.out.good, HR.out.lt, fun ρ => ?_, ?_⟩
    · rw [HR.out.den, hkA, hkB, hko, H1.den, H2.den]
    · rw [HCE.out]
      exact ⟨A, c, rfl, hrf, hkf, fun k hk => by have := hf7 k hk; omega⟩
end Go.Proofs.Ytengdldkkmknpaa
