/- What the reference's child and nodeError do. No condition. -/
import Derived.Test.YtgdmcidcappkpaaGreatExp
set_option linter.unusedVariables false
set_option linter.unusedSimpArgs false
namespace Go.Proofs.YtgdmcidcappkpaaGreat
open Go.RowKit
open Dd (Rn rat ofN nodeErr badRange badForm badNext)

set_option maxRecDepth 100000 in
set_option maxHeartbeats 1000000 in
theorem child_any (V : Int) (R : List Rn) (root : Int) (A : Option Addr) (c : Nat) (i : Nat) (x : Int) (w : World) (hi : i < R.length) (hR : R.length ≤ 4096) (hx0 : 0 ≤ x) (hx1 : x ≤ (i : Int) + 1) (hrd : Rd w (.slice A R.length c) 3 R.length (rnsC R)) (b : Bool) (hb : b = true ↔ badNext R (rat R i) x) :
    Calls Tryz.prog 110 #[.agg #[.int .i64 V, .slice A R.length c, .int .i64 root], .int .i64 i, .int .i64 x] w fun e w' => e = .returned (.int .i64 (if b then 9 else 0)) ∧ Keep NoF w w' := by
  have hk0 : Keep NoF w (w.alloc (.cells #[.int .i64 V, .slice A R.length c, .int .i64 root] 24)) := (Keep.refl _ _).alloc _
  by_cases h2 : x < 2
  · have hbf : b = false := by
      cases b
      · rfl
      · have := (hb.1 rfl).1; omega
    subst hbf
    have hd : decide (2 ≤ x) = false := by simpa using h2
    clear hb
    go_enter Tryz.func110, Tryz.ntmps110
    go_wp2
    go_quiet (fail)
    go_wp2
    go_ret
    exact ⟨rfl, hk0.drewN _⟩
  · obtain ⟨j, rfl⟩ : ∃ j : Nat, x = (j : Int) + 2 := ⟨(x - 2).toNat, by omega⟩
    obtain ⟨bl, off, rfl, x1, _, _⟩ := hrd.node hi
    obtain ⟨_, _, hA, y1, _, _⟩ := hrd.node (k := j) (by omega)
    injection hA with hA
    injection hA with hA1 hA2
    subst hA1 hA2
    have lbl := World.block_lt_of_cell? w _ x1
    simp only at lbl
    have i1 : (0 : Int) ≤ (i : Int) := by omega
    have i2 : (i : Int) < (R.length : Int) := by omega
    have j1 : (0 : Int) ≤ (j : Int) := by omega
    have j2 : (j : Int) < (R.length : Int) := by omega
    have hbb : decide ((rat R j).1 ≤ (rat R i).1) = b := by
      rw [Bool.eq_iff_iff, hb, decide_eq_true_eq]
      unfold badNext
      have e : (((j : Int) + 2) - 2).toNat = j := by omega
      rw [e]
      constructor
      · intro h; exact ⟨by omega, h⟩
      · intro h; exact h.2
    generalize (rat R j).1 = vj at *
    generalize (rat R i).1 = vi at *
    clear hb
    cases b
    · go_enter Tryz.func110, Tryz.ntmps110
      go_wp2
      go_quiet (fail)
      go_wp2
      go_ret
      exact ⟨rfl, hk0.drewN _⟩
    · go_enter Tryz.func110, Tryz.ntmps110
      go_wp2
      go_quiet (fail)
      go_wp2
      go_ret
      exact ⟨rfl, hk0.drewN _⟩

set_option maxRecDepth 100000 in
set_option maxHeartbeats 1000000 in
theorem nodeError_any (V : Int) (R : List Rn) (root : Int) (sl : Value) (i : Nat) (w : World) (hi : i < R.length) (hR : R.length ≤ 4096) (hrd : Rd w sl 3 R.length (rnsC R)) :
    Calls Tryz.prog 91 #[.agg #[.int .i64 V, sl, .int .i64 root], .int .i64 i] w fun e w' => e = .returned (.int .i64 (nodeErr V R i)) ∧ Keep NoF w w' := by
  have hrd' := hrd
  obtain ⟨_, A, c, rfl, hc, _⟩ := hrd'
  obtain ⟨bl, off, rfl, x1, x2, x3⟩ := hrd.node hi
  have b1 : (0 : Int) ≤ (i : Int) := by omega
  have b2 : (i : Int) < (R.length : Int) := by omega
  have lbl := World.block_lt_of_cell? w _ x1
  simp only at lbl
  have HN : Hid (nodeErr V R i = (let n := rat R i; if badRange n V then 2 else if badForm n i then 3 else if badNext R n n.2.1 ∨ badNext R n n.2.2 then 9 else 0)) := Lib.hid rfl
  have HCh := Lib.hid fun (W : World) (hk : Keep NoF w W) (x : Int) (h0 : 0 ≤ x) (h1 : x ≤ (i : Int) + 1) (b : Bool) (hb : b = true ↔ badNext R (rat R i) x) => child_any V R root (some ⟨bl, off, none⟩) c i x W hi hR h0 h1 (hrd.kept hk fun _ _ h => h) b hb
  generalize hr : rat R i = r at *
  obtain ⟨v, l, h⟩ := r
  simp only at x1 x2 x3 HN
  by_cases q1 : v < 0
  · have HV : Hid (nodeErr V R i = 2) := Lib.hid (by rw [HN.out]; exact if_pos (by unfold badRange; simp only; omega))
    go_enter Tryz.func91, Tryz.ntmps91
    go_wp2
    go_ret
    exact ⟨by rw [HV.out]; rfl, ((Keep.refl _ _).alloc _).alloc _⟩
  by_cases q2 : V ≤ v
  · have HV : Hid (nodeErr V R i = 2) := Lib.hid (by rw [HN.out]; exact if_pos (by unfold badRange; simp only; omega))
    go_enter Tryz.func91, Tryz.ntmps91
    go_wp2
    go_ret
    exact ⟨by rw [HV.out]; rfl, ((Keep.refl _ _).alloc _).alloc _⟩
  have hnr : ¬ badRange (v, l, h) V := by unfold badRange; simp only; omega
  by_cases q3 : badForm (v, l, h) i
  · have HV : Hid (nodeErr V R i = 3) := Lib.hid (by rw [HN.out]; simp only [if_neg hnr, if_pos q3])
    have q3' := q3
    unfold badForm at q3'
    simp only at q3'
    clear HN q3 hnr hr HCh
    by_cases p1 : l < 0
    · go_enter Tryz.func91, Tryz.ntmps91
      go_wp2
      go_ret
      exact ⟨by rw [HV.out]; rfl, ((Keep.refl _ _).alloc _).alloc _⟩
    by_cases p2 : (i : Int) + 1 < l
    · go_enter Tryz.func91, Tryz.ntmps91
      go_wp2
      go_ret
      exact ⟨by rw [HV.out]; rfl, ((Keep.refl _ _).alloc _).alloc _⟩
    by_cases p3 : h < 0
    · go_enter Tryz.func91, Tryz.ntmps91
      go_wp2
      go_ret
      exact ⟨by rw [HV.out]; rfl, ((Keep.refl _ _).alloc _).alloc _⟩
    by_cases p4 : (i : Int) + 1 < h
    · go_enter Tryz.func91, Tryz.ntmps91
      go_wp2
      go_ret
      exact ⟨by rw [HV.out]; rfl, ((Keep.refl _ _).alloc _).alloc _⟩
    · obtain rfl : l = h := by omega
      clear q3'
      go_enter Tryz.func91, Tryz.ntmps91
      go_wp2
      go_ret
      exact ⟨by rw [HV.out]; rfl, ((Keep.refl _ _).alloc _).alloc _⟩
  · have HV : Hid (nodeErr V R i = if badNext R (v, l, h) l ∨ badNext R (v, l, h) h then 9 else 0) := Lib.hid (by rw [HN.out]; simp only [if_neg hnr, if_neg q3])
    unfold badForm at q3
    simp only at q3
    have p1 : 0 ≤ l := by omega
    have p2 : l ≤ (i : Int) + 1 := by omega
    have p3 : 0 ≤ h := by omega
    have p4 : h ≤ (i : Int) + 1 := by omega
    have p5 : (l == h) = false := by simp; omega
    have hk2 : Keep NoF w ((w.alloc (.cells #[.int .i64 V, .slice (some ⟨bl, off, none⟩) R.length c, .int .i64 root] 24)).alloc (.cells #[.int .i64 v, .int .i64 l, .int .i64 h] 47)) := ((Keep.refl _ _).alloc _).alloc _
    have t1 : Bk ((w.alloc (.cells #[.int .i64 V, .slice (some ⟨bl, off, none⟩) R.length c, .int .i64 root] 24)).alloc (.cells #[.int .i64 v, .int .i64 l, .int .i64 h] 47)) w.heap.size 24 #[.int .i64 V, .slice (some ⟨bl, off, none⟩) R.length c, .int .i64 root] := (Bk.new _ _ _).alloc _
    have t2 := Bk.new (w.alloc (.cells #[.int .i64 V, .slice (some ⟨bl, off, none⟩) R.length c, .int .i64 root] 24)) 47 #[.int .i64 v, .int .i64 l, .int .i64 h]
    have e1 : (w.alloc (.cells #[.int .i64 V, .slice (some ⟨bl, off, none⟩) R.length c, .int .i64 root] 24)).heap.size = w.heap.size + 1 := by simp
    rw [e1] at t2
    clear e1
    have HL := Lib.hid fun (b : Bool) (hb : b = true ↔ badNext R (v, l, h) l) => HCh.out _ hk2 l p1 p2 b hb
    have HH := Lib.hid fun (W : World) (hk : Keep NoF w W) (b : Bool) (hb : b = true ↔ badNext R (v, l, h) h) => HCh.out W hk h p3 p4 b hb
    clear HN hnr hr q3 HCh
    by_cases n1 : badNext R (v, l, h) l
    · have HV2 : Hid (nodeErr V R i = 9) := Lib.hid (by rw [HV.out, if_pos (.inl n1)])
      have HL2 := Lib.hid (HL.out true (by simp [n1]))
      clear HL HV n1
      go_enter Tryz.func91, Tryz.ntmps91
      go_wp2_with (go_at_call 110
                   (with_reducible refine HL2.out.mono ?_)
                   rintro e w2 ⟨rfl, hk3⟩)
      go_ret
      exact ⟨by rw [HV2.out]; rfl, hk2.trans hk3 fun _ _ h => h⟩
    · have HL2 := Lib.hid (HL.out false (by simp [n1]))
      by_cases n2 : badNext R (v, l, h) h
      · have HV2 : Hid (nodeErr V R i = 9) := Lib.hid (by rw [HV.out, if_pos (.inr n2)])
        have HH2 := Lib.hid fun (W : World) (hk : Keep NoF w W) => HH.out W hk true (by simp [n2])
        clear HL HV n1 n2 HH
        go_enter Tryz.func91, Tryz.ntmps91
        go_wp2_with (first
          | (go_at_call 110
             (with_reducible refine HL2.out.mono ?_)
             rintro e w2 ⟨rfl, hk3⟩
             have k3 := hk2.trans hk3 fun _ _ h => h
             have t3 := t1.keep hk3 (fun h => h)
             have t4 := t2.keep hk3 (fun h => h)
             have z0 : w2.cell? ⟨w.heap.size, 0, none⟩ = some (.int .i64 V) := t3.cell 0
             have z1 : w2.cell? ⟨w.heap.size, 1, none⟩ = some (.slice (some ⟨bl, off, none⟩) R.length c) := t3.cell 1
             have z2 : w2.cell? ⟨w.heap.size, 2, none⟩ = some (.int .i64 root) := t3.cell 2
             have z4 : w2.cell? ⟨w.heap.size + 1, 2, none⟩ = some (.int .i64 h) := t4.cell 2)
          | (go_at_call 110
             (with_reducible refine (HH2.out _ k3).mono ?_)
             rintro e w3 ⟨rfl, hk4⟩))
        go_ret
        exact ⟨by rw [HV2.out]; rfl, k3.trans hk4 fun _ _ h => h⟩
      · have HV2 : Hid (nodeErr V R i = 0) := Lib.hid (by rw [HV.out, if_neg (fun h => h.elim n1 n2)])
        have HH2 := Lib.hid fun (W : World) (hk : Keep NoF w W) => HH.out W hk false (by simp [n2])
        clear HL HV n1 n2 HH
        go_enter Tryz.func91, Tryz.ntmps91
        go_wp2_with (first
          | (go_at_call 110
             (with_reducible refine HL2.out.mono ?_)
             rintro e w2 ⟨rfl, hk3⟩
             have k3 := hk2.trans hk3 fun _ _ h => h
             have t3 := t1.keep hk3 (fun h => h)
             have t4 := t2.keep hk3 (fun h => h)
             have z0 : w2.cell? ⟨w.heap.size, 0, none⟩ = some (.int .i64 V) := t3.cell 0
             have z1 : w2.cell? ⟨w.heap.size, 1, none⟩ = some (.slice (some ⟨bl, off, none⟩) R.length c) := t3.cell 1
             have z2 : w2.cell? ⟨w.heap.size, 2, none⟩ = some (.int .i64 root) := t3.cell 2
             have z4 : w2.cell? ⟨w.heap.size + 1, 2, none⟩ = some (.int .i64 h) := t4.cell 2)
          | (go_at_call 110
             (with_reducible refine (HH2.out _ k3).mono ?_)
             rintro e w3 ⟨rfl, hk4⟩))
        go_ret
        exact ⟨by rw [HV2.out]; rfl, k3.trans hk4 fun _ _ h => h⟩
end Go.Proofs.YtgdmcidcappkpaaGreat
