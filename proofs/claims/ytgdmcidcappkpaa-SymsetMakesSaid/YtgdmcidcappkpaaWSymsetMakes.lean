/- The law SymsetMakes answers true. No condition. -/
import Derived.Test.YtgdmcidcappkpaaSyS
import Derived.Test.YtgdmcidcappkpaaSyZ
set_option linter.unusedVariables false
set_option linter.unusedSimpArgs false
namespace Go.Proofs.Ytgdmcidcappkpaa
open Go.RowKit

/-- What hands back a diagram and an error. -/
def EP (w : World) (V : Nat) (f : BF) (err : Int) (e : Ending) (w' : World) : Prop :=
  ∃ A n c, ∃ r : Nat, e = .returned (.tuple #[.agg #[.int .i64 V, .slice A n c, .int .i64 r], .int .i64 err]) ∧ IsD w' V f A n c r ∧ Keep NoF w w'
theorem isD_zero (w : World) : IsD w 0 (fun _ => false) none 0 0 0 := ⟨[], rfl, Rd.nil _ _, valid_const 0 (by omega) false, fun ρ => rfl⟩
theorem ep_bad {w : World} {err : Int} {e : Ending} {w' : World} (h : e = .returned (.tuple #[dgZero, .int .i64 err]) ∧ Keep NoF w w') : EP w 0 (fun _ => false) err e w' := ⟨none, 0, 0, 0, h.1, isD_zero w', h.2⟩
theorem set_both (k : Int) (S : Nat) (hS : S < 18446744073709551616) : ∃ V f err, ∀ W, Calls Try.prog 7 #[.int .i64 k, .int .u64 S] W (EP W V f err) ∧ Calls Try.prog 8 #[.int .i64 k, .int .u64 S] W (EP W V f err) := by
  by_cases h : setOE k S = 0
  · have hk : ¬ (k < 0 ∨ 6 < k) := fun hk => by unfold setOE at h; rw [if_pos hk] at h; omega
    obtain ⟨n, rfl⟩ : ∃ n : Nat, k = n := ⟨k.toNat, by omega⟩
    have hb : beyondB n S = false := by
      unfold setOE at h
      rw [if_neg hk, Int.toNat_natCast] at h
      cases hb : beyondB n S with
      | true => rw [hb] at h; simp at h
      | false => rfl
    exact ⟨_, _, 0, fun W => ⟨Set_any n S (by omega) hS hb W, rSet_any n S (by omega) hS hb W⟩⟩
  · exact ⟨_, _, _, fun W => ⟨(Set_bad k S hS h W).mono fun e w' => ep_bad, (rSet_bad k S hS h W).mono fun e w' => ep_bad⟩⟩
theorem rel_both (k : Int) (l : List Nat) (hl : ∀ x ∈ l, x < 18446744073709551616) (hn : l.length ≤ 9223372036854775807) (A : Option Addr) (c : Nat) : ∃ V f err, ∀ W, Rd W (.slice A l.length c) 1 l.length (n64 l) → Calls Try.prog 9 #[.int .i64 k, .slice A l.length c] W (EP W V f err) ∧ Calls Try.prog 10 #[.int .i64 k, .slice A l.length c] W (EP W V f err) := by
  by_cases h : relOE k l = 0
  · rcases relOE_cases k l with ⟨he, hk⟩ | ⟨n, rfl, hn6, ⟨he, hlen⟩ | ⟨he, hlen, hb⟩ | ⟨he, hlen, hb⟩⟩
    · omega
    · omega
    · omega
    · exact ⟨_, _, 0, fun W hW => ⟨Relation_any n hn6 l hlen hl hb A c W hW, rRelation_any n hn6 l hlen hl hb A c W hW⟩⟩
  · exact ⟨_, _, _, fun W hW => ⟨(Relation_bad k l hl hn h A c W hW).mono fun e w' => ep_bad, (rRelation_bad k l hl hn h A c W hW).mono fun e w' => ep_bad⟩⟩
section
set_option maxRecDepth 100000
set_option maxHeartbeats 4000000
theorem walk_SymsetMakes (k : Int) (S : Nat) (l : List Nat) (A : Option Addr) (c : Nat) (w : World) (hS : S < 18446744073709551616) (hn : l.length ≤ 9223372036854775807) (hl : ∀ x ∈ l, x < 18446744073709551616) (hrd : Rd w (.slice A l.length c) 1 l.length (n64 l)) : Calls Try.prog 3 #[.int .i64 k, .int .u64 S, .slice A l.length c] w fun e w' => e = .returned (.bool true) ∧ Keep NoF w w' := by
  obtain ⟨V1, f1, e1, hs⟩ := set_both k S hS
  obtain ⟨V2, f2, e2, hr⟩ := rel_both k l hl hn A c
  have HS1 := Lib.hid fun W => (hs W).1
  have HS2 := Lib.hid fun W => (hs W).2
  have HR1 := Lib.hid fun W (hk : Keep NoF w W) => (hr W (hrd.kept hk fun _ _ h => h)).1
  have HR2 := Lib.hid fun W (hk : Keep NoF w W) => (hr W (hrd.kept hk fun _ _ h => h)).2
  clear hs hr hrd hl
  by_cases h5 : k = 5
  · subst h5
    go_enter Try.func3, Try.ntmps3
    go_wp2_with (go_at_call 6; (with_reducible refine (awake_any _).mono ?_); rintro e w2 ⟨rfl, K2⟩)
    go_ret
    exact ⟨rfl, K2⟩
  by_cases h6 : k = 6
  · subst h6
    go_enter Try.func3, Try.ntmps3
    go_wp2_with (go_at_call 6; (with_reducible refine (awake_any _).mono ?_); rintro e w2 ⟨rfl, K2⟩)
    go_ret
    exact ⟨rfl, K2⟩
  have g5 : (k == 5) = false := by rw [beq_eq_false_iff_ne]; exact h5
  have g6 : (k == 6) = false := by rw [beq_eq_false_iff_ne]; exact h6
  by_cases h70 : 70 < l.length
  · have g70 : (70 : Int) < (l.length : Int) := by omega
    go_enter Try.func3, Try.ntmps3
    go_wp2_with (go_at_call 6; (with_reducible refine (awake_any _).mono ?_); rintro e w2 ⟨rfl, K2⟩)
    go_ret
    exact ⟨rfl, K2⟩
  have g70 : ¬ (70 : Int) < (l.length : Int) := by omega
  have Kw : Keep NoF w w := Keep.refl _ _
  go_enter Try.func3, Try.ntmps3
  go_upto_region 4 with (go_at_call 7
                         (with_reducible refine (HS1.out _).mono ?_)
                         rintro e w1 ⟨A1, n1, c1, r1, rfl, D1, K1⟩)
  have Ba_1 := Bk.new w1 27 #[.int .i64 V1, .slice A1 n1 c1, .int .i64 r1]
  have Qa_1 := D1.keep ((Keep.refl NoF w1).alloc (.cells #[.int .i64 V1, .slice A1 n1 c1, .int .i64 r1] 27))
  have Kw_1 : Keep NoF w (w1.alloc (.cells #[.int .i64 V1, .slice A1 n1 c1, .int .i64 r1] 27)) := (Kw.trans K1 fun _ _ h => h).alloc _
  have Ga_1 : w.heap.size ≤ w1.heap.size := (Kw.trans K1 fun _ _ h => h).size
  generalize w1.alloc (.cells #[.int .i64 V1, .slice A1 n1 c1, .int .i64 r1] 27) = W1 at *
  clear Kw D1 K1
  go_upto_region 5 with (go_at_call 8
                         (with_reducible refine (HS2.out _).mono ?_)
                         rintro e w2 ⟨A2, n2, c2, r2, rfl, D2, K2⟩
                         have Ban := Ba_1.keep K2 fun h => h
                         have Lan := Ban.lt)
  have Ba_2 := Ban.alloc (.cells #[.int .i64 V1, .slice A2 n2 c2, .int .i64 r2] 27)
  have Qa_2 := (Qa_1.keep K2).keep ((Keep.refl NoF w2).alloc (.cells #[.int .i64 V1, .slice A2 n2 c2, .int .i64 r2] 27))
  have Bb_2 := Bk.new w2 27 #[.int .i64 V1, .slice A2 n2 c2, .int .i64 r2]
  have Qb_2 := D2.keep ((Keep.refl NoF w2).alloc (.cells #[.int .i64 V1, .slice A2 n2 c2, .int .i64 r2] 27))
  have Kw_2 : Keep NoF w (w2.alloc (.cells #[.int .i64 V1, .slice A2 n2 c2, .int .i64 r2] 27)) := (Kw_1.trans K2 fun _ _ h => h).alloc _
  have Gb_2 : w.heap.size ≤ w2.heap.size := (Kw_1.trans K2 fun _ _ h => h).size
  generalize w2.alloc (.cells #[.int .i64 V1, .slice A2 n2 c2, .int .i64 r2] 27) = W2 at *
  clear Ba_1 Qa_1 Ban Kw_1 D2 K2
  go_upto_region 6 with (go_at_call 9
                         (with_reducible refine (HR1.out _ Kw_2).mono ?_)
                         rintro e w3 ⟨A3, n3, c3, r3, rfl, D3, K3⟩
                         have Ban := Ba_2.keep K3 fun h => h
                         have Lan := Ban.lt
                         have Bbn := Bb_2.keep K3 fun h => h
                         have Lbn := Bbn.lt)
  have Ba_3 := Ban.alloc (.cells #[.int .i64 V2, .slice A3 n3 c3, .int .i64 r3] 27)
  have Qa_3 := (Qa_2.keep K3).keep ((Keep.refl NoF w3).alloc (.cells #[.int .i64 V2, .slice A3 n3 c3, .int .i64 r3] 27))
  have Bb_3 := Bbn.alloc (.cells #[.int .i64 V2, .slice A3 n3 c3, .int .i64 r3] 27)
  have Qb_3 := (Qb_2.keep K3).keep ((Keep.refl NoF w3).alloc (.cells #[.int .i64 V2, .slice A3 n3 c3, .int .i64 r3] 27))
  have Bc_3 := Bk.new w3 27 #[.int .i64 V2, .slice A3 n3 c3, .int .i64 r3]
  have Qc_3 := D3.keep ((Keep.refl NoF w3).alloc (.cells #[.int .i64 V2, .slice A3 n3 c3, .int .i64 r3] 27))
  have Kw_3 : Keep NoF w (w3.alloc (.cells #[.int .i64 V2, .slice A3 n3 c3, .int .i64 r3] 27)) := (Kw_2.trans K3 fun _ _ h => h).alloc _
  have Gc_3 : w.heap.size ≤ w3.heap.size := (Kw_2.trans K3 fun _ _ h => h).size
  generalize w3.alloc (.cells #[.int .i64 V2, .slice A3 n3 c3, .int .i64 r3] 27) = W3 at *
  clear Ba_2 Bb_2 Qa_2 Qb_2 Ban Bbn Kw_2 D3 K3
  go_upto_region 7 with (go_at_call 10
                         (with_reducible refine (HR2.out _ Kw_3).mono ?_)
                         rintro e w4 ⟨A4, n4, c4, r4, rfl, D4, K4⟩
                         have Ban := Ba_3.keep K4 fun h => h
                         have Lan := Ban.lt
                         have Bbn := Bb_3.keep K4 fun h => h
                         have Lbn := Bbn.lt
                         have Bcn := Bc_3.keep K4 fun h => h
                         have Lcn := Bcn.lt)
  have Ba_4 := Ban.alloc (.cells #[.int .i64 V2, .slice A4 n4 c4, .int .i64 r4] 27)
  have Qa_4 := (Qa_3.keep K4).keep ((Keep.refl NoF w4).alloc (.cells #[.int .i64 V2, .slice A4 n4 c4, .int .i64 r4] 27))
  have Bb_4 := Bbn.alloc (.cells #[.int .i64 V2, .slice A4 n4 c4, .int .i64 r4] 27)
  have Qb_4 := (Qb_3.keep K4).keep ((Keep.refl NoF w4).alloc (.cells #[.int .i64 V2, .slice A4 n4 c4, .int .i64 r4] 27))
  have Bc_4 := Bcn.alloc (.cells #[.int .i64 V2, .slice A4 n4 c4, .int .i64 r4] 27)
  have Qc_4 := (Qc_3.keep K4).keep ((Keep.refl NoF w4).alloc (.cells #[.int .i64 V2, .slice A4 n4 c4, .int .i64 r4] 27))
  have Bd_4 := Bk.new w4 27 #[.int .i64 V2, .slice A4 n4 c4, .int .i64 r4]
  have Qd_4 := D4.keep ((Keep.refl NoF w4).alloc (.cells #[.int .i64 V2, .slice A4 n4 c4, .int .i64 r4] 27))
  have Kw_4 : Keep NoF w (w4.alloc (.cells #[.int .i64 V2, .slice A4 n4 c4, .int .i64 r4] 27)) := (Kw_3.trans K4 fun _ _ h => h).alloc _
  have Gd_4 : w.heap.size ≤ w4.heap.size := (Kw_3.trans K4 fun _ _ h => h).size
  generalize w4.alloc (.cells #[.int .i64 V2, .slice A4 n4 c4, .int .i64 r4] 27) = W4 at *
  clear Ba_3 Bb_3 Bc_3 Qa_3 Qb_3 Qc_3 Ban Bbn Bcn Kw_3 D4 K4
  have HE1 := Lib.hid fun W (hk : Keep NoF W4 W) => aw_samed (Qa_4.keep hk) (Qb_4.keep hk)
  have HE2 := Lib.hid fun W (hk : Keep NoF W4 W) => aw_samed (Qc_4.keep hk) (Qd_4.keep hk)
  have q1 : (e1 == e1) = true := by simp
  have q2 : (e2 == e2) = true := by simp
  have ca0 : W4.cell? ⟨w1.heap.size, 0, none⟩ = some (.int .i64 V1) := Ba_4.cell 0
  have ca1 : W4.cell? ⟨w1.heap.size, 1, none⟩ = some (.slice A1 n1 c1) := Ba_4.cell 1
  have ca2 : W4.cell? ⟨w1.heap.size, 2, none⟩ = some (.int .i64 r1) := Ba_4.cell 2
  have cb0 : W4.cell? ⟨w2.heap.size, 0, none⟩ = some (.int .i64 V1) := Bb_4.cell 0
  have cb1 : W4.cell? ⟨w2.heap.size, 1, none⟩ = some (.slice A2 n2 c2) := Bb_4.cell 1
  have cb2 : W4.cell? ⟨w2.heap.size, 2, none⟩ = some (.int .i64 r2) := Bb_4.cell 2
  go_wp2_with (first
               | (go_at_call 11
                  (with_reducible refine (HE1.out _ (Keep.refl NoF W4)).mono ?_)
                  rintro e p3 ⟨rfl, p3Z⟩
                  have p3K : Keep NoF W4 p3 := (Keep.refl NoF W4).trans p3Z fun _ _ h => h
                  have mc0 : p3.cell? ⟨w3.heap.size, 0, none⟩ = some (.int .i64 V2) := (Bc_4.keep p3K fun h => h).cell 0
                  have mc1 : p3.cell? ⟨w3.heap.size, 1, none⟩ = some (.slice A3 n3 c3) := (Bc_4.keep p3K fun h => h).cell 1
                  have mc2 : p3.cell? ⟨w3.heap.size, 2, none⟩ = some (.int .i64 r3) := (Bc_4.keep p3K fun h => h).cell 2
                  have md0 : p3.cell? ⟨w4.heap.size, 0, none⟩ = some (.int .i64 V2) := (Bd_4.keep p3K fun h => h).cell 0
                  have md1 : p3.cell? ⟨w4.heap.size, 1, none⟩ = some (.slice A4 n4 c4) := (Bd_4.keep p3K fun h => h).cell 1
                  have md2 : p3.cell? ⟨w4.heap.size, 2, none⟩ = some (.int .i64 r4) := (Bd_4.keep p3K fun h => h).cell 2)
               | (go_at_call 11
                  (with_reducible refine (HE2.out _ p3K).mono ?_)
                  rintro e p4 ⟨rfl, p4Z⟩
                  have p4K : Keep NoF W4 p4 := p3K.trans p4Z fun _ _ h => h)
               | (go_at_call 6
                  (with_reducible refine (awake_any _).mono ?_)
                  rintro e p5 ⟨rfl, p5Z⟩
                  have p5K : Keep NoF W4 p5 := p4K.trans p5Z fun _ _ h => h))
  clear ca0 ca1 ca2 cb0 cb1 cb2
  clear mc0 mc1 mc2 md0 md1 md2
  have Ba_5 := Ba_4.keep p5K fun h => h
  have Qa_5 := Qa_4.keep p5K
  have Bb_5 := Bb_4.keep p5K fun h => h
  have Qb_5 := Qb_4.keep p5K
  have Bc_5 := Bc_4.keep p5K fun h => h
  have Qc_5 := Qc_4.keep p5K
  have Bd_5 := Bd_4.keep p5K fun h => h
  have Qd_5 := Qd_4.keep p5K
  have Kw_5 := Kw_4.trans p5K fun _ _ h => h
  clear Kw_4 p3K p4K p5K p3Z p4Z p5Z Ba_4 Qa_4 Bb_4 Qb_4 Bc_4 Qc_4 Bd_4 Qd_4
  go_ret
  exact ⟨rfl, Kw_5⟩
end
end Go.Proofs.Ytgdmcidcappkpaa
