/- What the function single does: the error of one node. No condition. -/
import Derived.Test.YtengdldkkmknpaaSlEq
set_option linter.unusedVariables false
set_option linter.unusedSimpArgs false
namespace Go.Proofs.Ytengdldkkmknpaa
open Go.RowKit
open Dd (Rn rat ofN nodeErr badRange badForm badNext)

set_option maxRecDepth 100000 in
set_option maxHeartbeats 1000000 in
theorem single_any (V : Int) (R : List Rn) (root : Int) (sl : Value) (i : Nat) (w : World) (hi : i < R.length) (hR : R.length ≤ 4096) (hrd : Rd w sl 3 R.length (rnsC R)) :
    Calls Try.prog 54 #[.agg #[.int .i64 V, sl, .int .i64 root], .int .i64 i] w fun e w' => e = .returned (.int .i64 (nodeErr V R i)) ∧ Keep NoF w w' := by
  have hrd' := hrd
  obtain ⟨_, A, c, rfl, hc, _⟩ := hrd'
  obtain ⟨bl, off, rfl, x1, x2, x3⟩ := hrd.node hi
  have b1 : (0 : Int) ≤ (i : Int) := by omega
  have b2 : (i : Int) < (R.length : Int) := by omega
  have lbl := World.block_lt_of_cell? w _ x1
  simp only at lbl
  have HN : Hid (nodeErr V R i = (let n := rat R i; if badRange n V then 2 else if badForm n i then 3 else if badNext R n n.2.1 ∨ badNext R n n.2.2 then 9 else 0)) := Lib.hid rfl
  generalize hr : rat R i = r at *
  obtain ⟨v, l, h⟩ := r
  simp only at x1 x2 x3 HN
  by_cases q1 : v < 0
  · have HV : Hid (nodeErr V R i = 2) := Lib.hid (by rw [HN.out]; exact if_pos (by unfold badRange; simp only; omega))
    go_enter Try.func54, Try.ntmps54
    go_wp2
    go_ret
    exact ⟨by rw [HV.out]; rfl, ((Keep.refl _ _).alloc _).alloc _⟩
  by_cases q2 : V ≤ v
  · have HV : Hid (nodeErr V R i = 2) := Lib.hid (by rw [HN.out]; exact if_pos (by unfold badRange; simp only; omega))
    go_enter Try.func54, Try.ntmps54
    go_wp2
    go_ret
    exact ⟨by rw [HV.out]; rfl, ((Keep.refl _ _).alloc _).alloc _⟩
  have hnr : ¬ badRange (v, l, h) V := by unfold badRange; simp only; omega
  by_cases q3 : badForm (v, l, h) i
  · have HV : Hid (nodeErr V R i = 3) := Lib.hid (by rw [HN.out]; simp only [if_neg hnr, if_pos q3])
    have q3' := q3
    unfold badForm at q3'
    simp only at q3'
    clear HN q3 hnr hr
    by_cases p1 : l < 0
    · go_enter Try.func54, Try.ntmps54
      go_wp2
      go_ret
      exact ⟨by rw [HV.out]; rfl, ((Keep.refl _ _).alloc _).alloc _⟩
    by_cases p2 : (i : Int) + 1 < l
    · go_enter Try.func54, Try.ntmps54
      go_wp2
      go_ret
      exact ⟨by rw [HV.out]; rfl, ((Keep.refl _ _).alloc _).alloc _⟩
    by_cases p3 : h < 0
    · go_enter Try.func54, Try.ntmps54
      go_wp2
      go_ret
      exact ⟨by rw [HV.out]; rfl, ((Keep.refl _ _).alloc _).alloc _⟩
    by_cases p4 : (i : Int) + 1 < h
    · go_enter Try.func54, Try.ntmps54
      go_wp2
      go_ret
      exact ⟨by rw [HV.out]; rfl, ((Keep.refl _ _).alloc _).alloc _⟩
    · obtain rfl : l = h := by omega
      clear q3'
      go_enter Try.func54, Try.ntmps54
      go_wp2
      go_ret
      exact ⟨by rw [HV.out]; rfl, ((Keep.refl _ _).alloc _).alloc _⟩
  · have HV : Hid (nodeErr V R i = if badNext R (v, l, h) l ∨ badNext R (v, l, h) h then 9 else 0) := Lib.hid (by rw [HN.out]; simp only [if_neg hnr, if_neg q3])
    unfold badForm at q3
    simp only at q3
    have p1 : 0 ≤ l := by omega
    have p2 : l ≤ (i : Int) + 1 := by omega
    have p3 : 0 ≤ h := by omega
    have p4 : h ≤ (i : Int) + 1 := by omega
    have p5 : (l == h) = false := by simp; omega
    clear HN hnr hr q3
    go_enter Try.func54, Try.ntmps54
    go_wp2
    have t1 := ((Bk.new w 24 #[.int .i64 V, .slice (some ⟨bl, off, none⟩) R.length c, .int .i64 root]).alloc (.cells #[.int .i64 v, .int .i64 l, .int .i64 h] 63)).alloc (.cells #[.int .i64 l, .int .i64 h] 3)
    have t2 := (Bk.new (w.alloc (.cells #[.int .i64 V, .slice (some ⟨bl, off, none⟩) R.length c, .int .i64 root] 24)) 63 #[.int .i64 v, .int .i64 l, .int .i64 h]).alloc (.cells #[.int .i64 l, .int .i64 h] 3)
    have t3 := Bk.new ((w.alloc (.cells #[.int .i64 V, .slice (some ⟨bl, off, none⟩) R.length c, .int .i64 root] 24)).alloc (.cells #[.int .i64 v, .int .i64 l, .int .i64 h] 63)) 3 #[.int .i64 l, .int .i64 h]
    have hk2 : Keep NoF w (((w.alloc (.cells #[.int .i64 V, .slice (some ⟨bl, off, none⟩) R.length c, .int .i64 root] 24)).alloc (.cells #[.int .i64 v, .int .i64 l, .int .i64 h] 63)).alloc (.cells #[.int .i64 l, .int .i64 h] 3)) := (((Keep.refl _ _).alloc _).alloc _).alloc _
    have e1 : (w.alloc (.cells #[.int .i64 V, .slice (some ⟨bl, off, none⟩) R.length c, .int .i64 root] 24)).heap.size = w.heap.size + 1 := by simp
    have e2 : ((w.alloc (.cells #[.int .i64 V, .slice (some ⟨bl, off, none⟩) R.length c, .int .i64 root] 24)).alloc (.cells #[.int .i64 v, .int .i64 l, .int .i64 h] 63)).heap.size = w.heap.size + 1 + 1 := by simp
    rw [e1] at t2
    rw [e2] at t3
    clear e1 e2
    generalize ((w.alloc (.cells #[.int .i64 V, .slice (some ⟨bl, off, none⟩) R.length c, .int .i64 root] 24)).alloc (.cells #[.int .i64 v, .int .i64 l, .int .i64 h] 63)).alloc (.cells #[.int .i64 l, .int .i64 h] 3) = W2 at *
    clear x1 x2 x3
    go_loopw [60] (fun i wr => ∃ k : Nat, i = .int .i64 k ∧ k ≤ 2 ∧ (1 ≤ k → ¬ badNext R (v, l, h) l) ∧ (2 ≤ k → ¬ badNext R (v, l, h) h) ∧ Keep NoF W2 wr) (fun i _ => 2 - (intOf i).toNat)
    case atStart => exact ⟨0, rfl, by omega, fun h => by omega, fun h => by omega, Keep.refl _ _⟩
    case round =>
      obtain ⟨k, rfl, hk, g1, g2, hkr⟩ := hrel
      by_cases hk2' : k < 2
      · obtain ⟨cur, hc1, hc2, hc3⟩ : ∃ cur : Int, #[Value.int .i64 l, .int .i64 h][k]? = some (.int .i64 cur) ∧ (0 ≤ cur ∧ cur ≤ (i : Int) + 1) ∧ ((k = 0 ∧ cur = l) ∨ (k = 1 ∧ cur = h)) := by
          have : k = 0 ∨ k = 1 := by omega
          rcases this with rfl | rfl
          · exact ⟨l, rfl, ⟨p1, p2⟩, .inl ⟨rfl, rfl⟩⟩
          · exact ⟨h, rfl, ⟨p3, p4⟩, .inr ⟨rfl, rfl⟩⟩
        have c1 : wr.cell? ⟨w.heap.size + 1 + 1, k, none⟩ = some (.int .i64 cur) := by rw [(t3.keep hkr (fun h => h)).cell]; exact hc1
        have c2 : wr.cell? ⟨w.heap.size, 1, none⟩ = some (.slice (some ⟨bl, off, none⟩) R.length c) := (t1.keep hkr (fun h => h)).cell 1
        have c3 : wr.cell? ⟨w.heap.size + 1, 0, none⟩ = some (.int .i64 v) := (t2.keep hkr (fun h => h)).cell 0
        have hkW : Keep NoF w wr := hk2.trans hkr fun _ _ h => h
        have k1 : (0 : Int) ≤ (k : Int) := by omega
        have k2 : (k : Int) < 2 := by omega
        obtain ⟨cu0, cu1⟩ := hc2
        have HC3 := Lib.hid hc3
        have HG1 := Lib.hid g1
        have HG2 := Lib.hid g2
        clear hc1 hc3 g1 g2
        by_cases hcu : 1 < cur
        · obtain ⟨j, rfl⟩ : ∃ j : Nat, cur = (j : Int) + 2 := ⟨(cur - 2).toNat, by omega⟩
          obtain ⟨_, _, hA, y1, _, _⟩ := (hrd.kept hkW fun _ _ h => h).node (k := j) (by omega)
          injection hA with hA
          injection hA with hA1 hA2
          subst hA1 hA2
          have j1 : (0 : Int) ≤ (j : Int) := by omega
          have j2 : (j : Int) < (R.length : Int) := by omega
          generalize hvj : (rat R j).1 = vj at *
          have HVJ := Lib.hid hvj
          clear hvj
          by_cases hbad : vj ≤ v
          · go_wp2
            go_quiet (fail)
            go_wp2
            go_ret
            have hb : badNext R (v, l, h) l ∨ badNext R (v, l, h) h := by
              have e : (((j : Int) + 2) - 2).toNat = j := by omega
              rcases HC3.out with ⟨_, hc⟩ | ⟨_, hc⟩
              · refine .inl ?_
                rw [← hc]
                exact ⟨hcu, by rw [e, HVJ.out]; exact hbad⟩
              · refine .inr ?_
                rw [← hc]
                exact ⟨hcu, by rw [e, HVJ.out]; exact hbad⟩
            exact ⟨by rw [HV.out, if_pos hb]; rfl, hkW.drewN _⟩
          · have hnb : ¬ badNext R (v, l, h) ((j : Int) + 2) := fun hb => by
              have e : (((j : Int) + 2) - 2).toNat = j := by omega
              have := hb.2
              rw [e, HVJ.out] at this
              exact hbad this
            have HNB := Lib.hid hnb
            clear hnb
            go_wp2
            go_quiet (fail)
            go_wp2
            go_roundw
            case rel =>
              refine ⟨k + 1, by go_num, by omega, fun _ => ?_, fun _ => ?_, hkr.drewN _⟩
              · rcases HC3.out with ⟨_, hc⟩ | ⟨hk, _⟩
                · rw [← hc]; exact HNB.out
                · exact HG1.out (by omega)
              · rcases HC3.out with ⟨hk, _⟩ | ⟨_, hc⟩
                · omega
                · rw [← hc]; exact HNB.out
            case measure => simp [intOf]; omega
        · have hd : decide (1 < cur) = false := by simpa using hcu
          have hnb : ¬ badNext R (v, l, h) cur := fun hb => hcu hb.1
          have HNB := Lib.hid hnb
          clear hnb
          go_wp2
          go_quiet (fail)
          go_wp2
          go_roundw
          case rel =>
            refine ⟨k + 1, by go_num, by omega, fun _ => ?_, fun _ => ?_, hkr.drewN _⟩
            · rcases HC3.out with ⟨_, hc⟩ | ⟨hk, _⟩
              · rw [← hc]; exact HNB.out
              · exact HG1.out (by omega)
            · rcases HC3.out with ⟨hk, _⟩ | ⟨_, hc⟩
              · omega
              · rw [← hc]; exact HNB.out
          case measure => simp [intOf]; omega
      · have HG1 := Lib.hid g1
        have HG2 := Lib.hid g2
        clear g1 g2
        have hkk : k = 2 := by omega
        have HKK := Lib.hid hkk
        clear hkk
        go_wp2
        go_ret
        have hkk := HKK.out
        exact ⟨by rw [HV.out, if_neg (fun h => h.elim (HG1.out (by omega)) (HG2.out (by omega)))]; rfl, hk2.trans hkr fun _ _ h => h⟩
end Go.Proofs.Ytengdldkkmknpaa
