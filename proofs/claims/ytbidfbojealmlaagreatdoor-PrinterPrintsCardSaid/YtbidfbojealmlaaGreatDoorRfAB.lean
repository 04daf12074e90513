/- The reference's package formula: UsesX, UsesY, agent, group, node, Check. The reference's Check of a formula. No condition. -/
import Derived.Test.YtbidfbojealmlaaGreatDoorFmE
import Derived.Deep.Cut
set_option linter.unusedVariables false
set_option linter.unusedSimpArgs false
namespace Go.Proofs.YtbidfbojealmlaaGreatDoor
open Go.RowKit
open Fm (Nd isOp usesX usesY usesFact usesAgent usesGroup usesEvent zeroed within ranged operandB nodeE nodesE checkE)
section
variable {n : Nd} {k : Int}
theorem fne_o (h : isOp n.op = false) : nodeE n k = 10 := by unfold nodeE; rw [if_pos h]
theorem fne_x (h : isOp n.op = true) (hx : operandB (usesX n.op) n.x k = false) : nodeE n k = 3 := by unfold nodeE; rw [if_neg (by rw [h]; simp), if_pos (by rw [hx]; simp)]
theorem fne_y (h : isOp n.op = true) (hy : operandB (usesY n.op) n.y k = false) : nodeE n k = 3 := by unfold nodeE; rw [if_neg (by rw [h]; simp), if_pos (by rw [hy]; simp)]
theorem fne_z (h : isOp n.op = true) (hz : zeroed n = false) : nodeE n k = 3 := by
  unfold nodeE
  rw [if_neg (by rw [h]; simp)]
  rw [hz]
  split <;> rfl
theorem fne_r (h : isOp n.op = true) (hx : operandB (usesX n.op) n.x k = true) (hy : operandB (usesY n.op) n.y k = true) (hz : zeroed n = true) (hr : ranged n = false) : nodeE n k = 2 := by
  unfold nodeE
  rw [if_neg (by rw [h]; simp), if_neg (by rw [hx, hy]; simp), if_neg (by rw [hz]; simp), if_pos hr]
theorem fne_0 (h : isOp n.op = true) (hx : operandB (usesX n.op) n.x k = true) (hy : operandB (usesY n.op) n.y k = true) (hz : zeroed n = true) (hr : ranged n = true) : nodeE n k = 0 := by
  unfold nodeE
  rw [if_neg (by rw [h]; simp), if_neg (by rw [hx, hy]; simp), if_neg (by rw [hz]; simp), if_neg (by rw [hr]; simp)]
end
section
set_option maxRecDepth 100000
set_option maxHeartbeats 4000000
theorem fqUsesX_any (o : Int) (w : World) : Calls Tryz.prog 87 #[.int .i64 o] w fun e w' => e = .returned (.bool (usesX o)) ∧ w' = w := by
  by_cases h1 : 4 ≤ o
  · by_cases h2 : o ≤ 21
    · rw [show usesX o = true by simp [usesX]; omega]
      go_enter Tryz.func87, Tryz.ntmps87
      go_wp2
      go_ret
      exact ⟨rfl, rfl⟩
    · rw [show usesX o = false by simp [usesX]; omega]
      go_enter Tryz.func87, Tryz.ntmps87
      go_wp2
      go_ret
      exact ⟨rfl, rfl⟩
  · rw [show usesX o = false by simp [usesX]; omega]
    go_enter Tryz.func87, Tryz.ntmps87
    go_wp2
    go_ret
    exact ⟨rfl, rfl⟩
theorem fqUsesY_any (o : Int) (w : World) : Calls Tryz.prog 88 #[.int .i64 o] w fun e w' => e = .returned (.bool (usesY o)) ∧ w' = w := by
  by_cases h5 : 5 ≤ o ∧ o ≤ 8
  · obtain ⟨h5, h8⟩ := h5
    rw [show usesY o = true by simp [usesY]; omega]
    go_enter Tryz.func88, Tryz.ntmps88
    go_wp2
    go_ret
    exact ⟨rfl, rfl⟩
  by_cases h13 : o = 13
  · subst h13
    clear h5
    rw [show usesY 13 = true from rfl]
    go_enter Tryz.func88, Tryz.ntmps88
    go_wp2
    go_ret
    exact ⟨rfl, rfl⟩
  by_cases h14 : o = 14
  · subst h14
    clear h5
    rw [show usesY 14 = true from rfl]
    go_enter Tryz.func88, Tryz.ntmps88
    go_wp2
    go_ret
    exact ⟨rfl, rfl⟩
  by_cases h16 : o = 16
  · subst h16
    clear h5
    rw [show usesY 16 = true from rfl]
    go_enter Tryz.func88, Tryz.ntmps88
    go_wp2
    go_ret
    exact ⟨rfl, rfl⟩
  by_cases h19 : o = 19
  · subst h19
    clear h5
    rw [show usesY 19 = true from rfl]
    go_enter Tryz.func88, Tryz.ntmps88
    go_wp2
    go_ret
    exact ⟨rfl, rfl⟩
  by_cases h21 : o = 21
  · subst h21
    clear h5
    rw [show usesY 21 = true from rfl]
    go_enter Tryz.func88, Tryz.ntmps88
    go_wp2
    go_ret
    exact ⟨rfl, rfl⟩
  rw [show usesY o = false by simp [usesY]; omega]
  have q13 : (o == 13) = false := beq_eq_false_iff_ne.2 h13
  have q14 : (o == 14) = false := beq_eq_false_iff_ne.2 h14
  have q16 : (o == 16) = false := beq_eq_false_iff_ne.2 h16
  have q19 : (o == 19) = false := beq_eq_false_iff_ne.2 h19
  have q21 : (o == 21) = false := beq_eq_false_iff_ne.2 h21
  by_cases h1 : 5 ≤ o
  · have h2 : ¬ o ≤ 8 := fun h => h5 ⟨h1, h⟩
    clear h5 h13 h14 h16 h19 h21
    go_enter Tryz.func88, Tryz.ntmps88
    go_wp2
    go_ret
    exact ⟨rfl, rfl⟩
  · clear h5 h13 h14 h16 h19 h21
    go_enter Tryz.func88, Tryz.ntmps88
    go_wp2
    go_ret
    exact ⟨rfl, rfl⟩
theorem fqagent_any (o : Int) (w : World) : Calls Tryz.prog 89 #[.int .i64 o] w fun e w' => e = .returned (.bool (usesAgent o)) ∧ w' = w := by
  by_cases h9 : o = 9
  · subst h9
    rw [show usesAgent 9 = true from rfl]
    go_enter Tryz.func89, Tryz.ntmps89
    go_wp2
    go_ret
    exact ⟨rfl, rfl⟩
  by_cases h10 : o = 10
  · subst h10
    rw [show usesAgent 10 = true from rfl]
    go_enter Tryz.func89, Tryz.ntmps89
    go_wp2
    go_ret
    exact ⟨rfl, rfl⟩
  by_cases h14 : o = 14
  · subst h14
    rw [show usesAgent 14 = true from rfl]
    go_enter Tryz.func89, Tryz.ntmps89
    go_wp2
    go_ret
    exact ⟨rfl, rfl⟩
  by_cases h15 : o = 15
  · subst h15
    rw [show usesAgent 15 = true from rfl]
    go_enter Tryz.func89, Tryz.ntmps89
    go_wp2
    go_ret
    exact ⟨rfl, rfl⟩
  rw [show usesAgent o = false by simp [usesAgent]; omega]
  have q9 : (o == 9) = false := beq_eq_false_iff_ne.2 h9
  have q10 : (o == 10) = false := beq_eq_false_iff_ne.2 h10
  have q14 : (o == 14) = false := beq_eq_false_iff_ne.2 h14
  have q15 : (o == 15) = false := beq_eq_false_iff_ne.2 h15
  clear h9 h10 h14 h15
  go_enter Tryz.func89, Tryz.ntmps89
  go_wp2
  go_ret
  exact ⟨rfl, rfl⟩
theorem fqgroup_any (o : Int) (w : World) : Calls Tryz.prog 90 #[.int .i64 o] w fun e w' => e = .returned (.bool (usesGroup o)) ∧ w' = w := by
  by_cases h1 : 11 ≤ o
  · by_cases h2 : o ≤ 13
    · rw [show usesGroup o = true by simp [usesGroup]; omega]
      go_enter Tryz.func90, Tryz.ntmps90
      go_wp2
      go_ret
      exact ⟨rfl, rfl⟩
    · rw [show usesGroup o = false by simp [usesGroup]; omega]
      go_enter Tryz.func90, Tryz.ntmps90
      go_wp2
      go_ret
      exact ⟨rfl, rfl⟩
  · rw [show usesGroup o = false by simp [usesGroup]; omega]
    go_enter Tryz.func90, Tryz.ntmps90
    go_wp2
    go_ret
    exact ⟨rfl, rfl⟩
theorem rnode_lf (n : Nd) (k : Int) (w : World) (ho : n.op = 1 ∨ n.op = 2) : Calls Tryz.prog 59 #[ndV n, .int .i64 k] w fun e w' => e = .returned (.int .i64 (nodeE n k)) ∧ Keep NoF w w' := by
  have hk : Keep NoF w (w.alloc (.cells #[.int .i64 n.op, .int .i64 n.i, .int .i64 n.e, .int .i64 n.g, .int .i64 n.x, .int .i64 n.y] 49)) := (Keep.refl _ _).alloc _
  have iO : isOp n.op = true := by simp [isOp]; omega
  have uX : usesX n.op = false := by simp [usesX]; omega
  have uY : usesY n.op = false := by simp [usesY]; omega
  have uF : usesFact n.op = false := by simp [usesFact]; omega
  have uA : usesAgent n.op = false := by simp [usesAgent]; omega
  have uG : usesGroup n.op = false := by simp [usesGroup]; omega
  have uE : usesEvent n.op = false := by simp [usesEvent]; omega
  have HX := Lib.hid fun W => uX ▸ fqUsesX_any n.op W
  have HY := Lib.hid fun W => uY ▸ fqUsesY_any n.op W
  have HA := Lib.hid fun W => uA ▸ fqagent_any n.op W
  have HG := Lib.hid fun W => uG ▸ fqgroup_any n.op W
  have o1 : ¬ n.op < 1 := by omega
  have o2 : ¬ 21 < n.op := by omega
  have o3 : (n.op == 3) = false := by simp; omega
  have o4 : (n.op == 17) = false := by simp; omega
  have o5 : (n.op != 17) = true := by simp; omega
  clear ho
  go_enter Tryz.func59, Tryz.ntmps59
  go_upto_region 3 with (first
          | (go_at_call 87; (with_reducible refine (HX.out _).mono ?_); rintro e w1 ⟨rfl, hw1⟩; obtain rfl := hw1)
          | (go_at_call 88; (with_reducible refine (HY.out _).mono ?_); rintro e w1 ⟨rfl, hw1⟩; obtain rfl := hw1)
          | (go_at_call 89; (with_reducible refine (HA.out _).mono ?_); rintro e w1 ⟨rfl, hw1⟩; obtain rfl := hw1)
          | (go_at_call 90; (with_reducible refine (HG.out _).mono ?_); rintro e w1 ⟨rfl, hw1⟩; obtain rfl := hw1))
  by_cases t1 : n.x ≠ 0
  · have p1 : (n.x != 0) = true := bne_iff_ne.2 t1
    have HE : Hid (nodeE n k = 3) := Lib.hid (fne_x iO (by rw [uX]; simp [operandB]; omega))
    go_wp2_with (first
              | (go_at_call 87; (with_reducible refine (HX.out _).mono ?_); rintro e w1 ⟨rfl, hw1⟩; obtain rfl := hw1)
              | (go_at_call 88; (with_reducible refine (HY.out _).mono ?_); rintro e w1 ⟨rfl, hw1⟩; obtain rfl := hw1)
              | (go_at_call 89; (with_reducible refine (HA.out _).mono ?_); rintro e w1 ⟨rfl, hw1⟩; obtain rfl := hw1)
              | (go_at_call 90; (with_reducible refine (HG.out _).mono ?_); rintro e w1 ⟨rfl, hw1⟩; obtain rfl := hw1))
    refine bodyPost_ret (v := .int .i64 3) (by simp [results, Tryz.results59, go_sem]) rfl ?_
    exact ⟨by rw [HE.out], hk⟩
  have p1 : (n.x != 0) = false := by simpa using t1
  go_upto_region 5 with (first
          | (go_at_call 87; (with_reducible refine (HX.out _).mono ?_); rintro e w1 ⟨rfl, hw1⟩; obtain rfl := hw1)
          | (go_at_call 88; (with_reducible refine (HY.out _).mono ?_); rintro e w1 ⟨rfl, hw1⟩; obtain rfl := hw1)
          | (go_at_call 89; (with_reducible refine (HA.out _).mono ?_); rintro e w1 ⟨rfl, hw1⟩; obtain rfl := hw1)
          | (go_at_call 90; (with_reducible refine (HG.out _).mono ?_); rintro e w1 ⟨rfl, hw1⟩; obtain rfl := hw1))
  by_cases t2 : n.y ≠ 0
  · have p2 : (n.y != 0) = true := bne_iff_ne.2 t2
    have HE : Hid (nodeE n k = 3) := Lib.hid (fne_y iO (by rw [uY]; simp [operandB]; omega))
    go_wp2_with (first
              | (go_at_call 87; (with_reducible refine (HX.out _).mono ?_); rintro e w1 ⟨rfl, hw1⟩; obtain rfl := hw1)
              | (go_at_call 88; (with_reducible refine (HY.out _).mono ?_); rintro e w1 ⟨rfl, hw1⟩; obtain rfl := hw1)
              | (go_at_call 89; (with_reducible refine (HA.out _).mono ?_); rintro e w1 ⟨rfl, hw1⟩; obtain rfl := hw1)
              | (go_at_call 90; (with_reducible refine (HG.out _).mono ?_); rintro e w1 ⟨rfl, hw1⟩; obtain rfl := hw1))
    refine bodyPost_ret (v := .int .i64 3) (by simp [results, Tryz.results59, go_sem]) rfl ?_
    exact ⟨by rw [HE.out], hk⟩
  have p2 : (n.y != 0) = false := by simpa using t2
  go_upto_region 8 with (first
          | (go_at_call 87; (with_reducible refine (HX.out _).mono ?_); rintro e w1 ⟨rfl, hw1⟩; obtain rfl := hw1)
          | (go_at_call 88; (with_reducible refine (HY.out _).mono ?_); rintro e w1 ⟨rfl, hw1⟩; obtain rfl := hw1)
          | (go_at_call 89; (with_reducible refine (HA.out _).mono ?_); rintro e w1 ⟨rfl, hw1⟩; obtain rfl := hw1)
          | (go_at_call 90; (with_reducible refine (HG.out _).mono ?_); rintro e w1 ⟨rfl, hw1⟩; obtain rfl := hw1))
  by_cases t3 : n.i ≠ 0
  · have p3 : (n.i != 0) = true := bne_iff_ne.2 t3
    have HE : Hid (nodeE n k = 3) := Lib.hid (fne_z iO (by unfold zeroed; rw [uF, uA, uE, uG]; simp; omega))
    go_wp2_with (first
              | (go_at_call 87; (with_reducible refine (HX.out _).mono ?_); rintro e w1 ⟨rfl, hw1⟩; obtain rfl := hw1)
              | (go_at_call 88; (with_reducible refine (HY.out _).mono ?_); rintro e w1 ⟨rfl, hw1⟩; obtain rfl := hw1)
              | (go_at_call 89; (with_reducible refine (HA.out _).mono ?_); rintro e w1 ⟨rfl, hw1⟩; obtain rfl := hw1)
              | (go_at_call 90; (with_reducible refine (HG.out _).mono ?_); rintro e w1 ⟨rfl, hw1⟩; obtain rfl := hw1))
    refine bodyPost_ret (v := .int .i64 3) (by simp [results, Tryz.results59, go_sem]) rfl ?_
    exact ⟨by rw [HE.out], hk⟩
  have p3 : (n.i != 0) = false := by simpa using t3
  by_cases t4 : n.e ≠ 0
  · have p4 : (n.e != 0) = true := bne_iff_ne.2 t4
    have HE : Hid (nodeE n k = 3) := Lib.hid (fne_z iO (by unfold zeroed; rw [uF, uA, uE, uG]; simp; omega))
    go_wp2_with (first
              | (go_at_call 87; (with_reducible refine (HX.out _).mono ?_); rintro e w1 ⟨rfl, hw1⟩; obtain rfl := hw1)
              | (go_at_call 88; (with_reducible refine (HY.out _).mono ?_); rintro e w1 ⟨rfl, hw1⟩; obtain rfl := hw1)
              | (go_at_call 89; (with_reducible refine (HA.out _).mono ?_); rintro e w1 ⟨rfl, hw1⟩; obtain rfl := hw1)
              | (go_at_call 90; (with_reducible refine (HG.out _).mono ?_); rintro e w1 ⟨rfl, hw1⟩; obtain rfl := hw1))
    refine bodyPost_ret (v := .int .i64 3) (by simp [results, Tryz.results59, go_sem]) rfl ?_
    exact ⟨by rw [HE.out], hk⟩
  have p4 : (n.e != 0) = false := by simpa using t4
  by_cases t5 : n.g ≠ 0
  · have p5 : (n.g != 0) = true := bne_iff_ne.2 t5
    have HE : Hid (nodeE n k = 3) := Lib.hid (fne_z iO (by unfold zeroed; rw [uF, uA, uE, uG]; simp; omega))
    go_wp2_with (first
              | (go_at_call 87; (with_reducible refine (HX.out _).mono ?_); rintro e w1 ⟨rfl, hw1⟩; obtain rfl := hw1)
              | (go_at_call 88; (with_reducible refine (HY.out _).mono ?_); rintro e w1 ⟨rfl, hw1⟩; obtain rfl := hw1)
              | (go_at_call 89; (with_reducible refine (HA.out _).mono ?_); rintro e w1 ⟨rfl, hw1⟩; obtain rfl := hw1)
              | (go_at_call 90; (with_reducible refine (HG.out _).mono ?_); rintro e w1 ⟨rfl, hw1⟩; obtain rfl := hw1))
    refine bodyPost_ret (v := .int .i64 3) (by simp [results, Tryz.results59, go_sem]) rfl ?_
    exact ⟨by rw [HE.out], hk⟩
  have p5 : (n.g != 0) = false := by simpa using t5
  have HE : Hid (nodeE n k = 0) := Lib.hid (fne_0 iO (by rw [uX]; simp [operandB]; omega) (by rw [uY]; simp [operandB]; omega) (by unfold zeroed; rw [uF, uA, uE, uG]; simp; omega) (by unfold ranged within; rw [uF, uA, uE, uG]; simp <;> omega))
  go_wp2_with (first
            | (go_at_call 87; (with_reducible refine (HX.out _).mono ?_); rintro e w1 ⟨rfl, hw1⟩; obtain rfl := hw1)
            | (go_at_call 88; (with_reducible refine (HY.out _).mono ?_); rintro e w1 ⟨rfl, hw1⟩; obtain rfl := hw1)
            | (go_at_call 89; (with_reducible refine (HA.out _).mono ?_); rintro e w1 ⟨rfl, hw1⟩; obtain rfl := hw1)
            | (go_at_call 90; (with_reducible refine (HG.out _).mono ?_); rintro e w1 ⟨rfl, hw1⟩; obtain rfl := hw1))
  refine bodyPost_ret (v := .int .i64 0) (by simp [results, Tryz.results59, go_sem]) rfl ?_
  exact ⟨by rw [HE.out], hk⟩
theorem rnode_ft (n : Nd) (k : Int) (w : World) (ho : n.op = 3) : Calls Tryz.prog 59 #[ndV n, .int .i64 k] w fun e w' => e = .returned (.int .i64 (nodeE n k)) ∧ Keep NoF w w' := by
  have hk : Keep NoF w (w.alloc (.cells #[.int .i64 n.op, .int .i64 n.i, .int .i64 n.e, .int .i64 n.g, .int .i64 n.x, .int .i64 n.y] 49)) := (Keep.refl _ _).alloc _
  have iO : isOp n.op = true := by simp [isOp]; omega
  have uX : usesX n.op = false := by simp [usesX]; omega
  have uY : usesY n.op = false := by simp [usesY]; omega
  have uF : usesFact n.op = true := by simp [usesFact]; omega
  have uA : usesAgent n.op = false := by simp [usesAgent]; omega
  have uG : usesGroup n.op = false := by simp [usesGroup]; omega
  have uE : usesEvent n.op = false := by simp [usesEvent]; omega
  have HX := Lib.hid fun W => uX ▸ fqUsesX_any n.op W
  have HY := Lib.hid fun W => uY ▸ fqUsesY_any n.op W
  have HA := Lib.hid fun W => uA ▸ fqagent_any n.op W
  have HG := Lib.hid fun W => uG ▸ fqgroup_any n.op W
  have o1 : ¬ n.op < 1 := by omega
  have o2 : ¬ 21 < n.op := by omega
  have o3 : (n.op == 3) = true := by simp; omega
  have o4 : (n.op == 17) = false := by simp; omega
  have o5 : (n.op != 17) = true := by simp; omega
  clear ho
  go_enter Tryz.func59, Tryz.ntmps59
  go_upto_region 3 with (first
          | (go_at_call 87; (with_reducible refine (HX.out _).mono ?_); rintro e w1 ⟨rfl, hw1⟩; obtain rfl := hw1)
          | (go_at_call 88; (with_reducible refine (HY.out _).mono ?_); rintro e w1 ⟨rfl, hw1⟩; obtain rfl := hw1)
          | (go_at_call 89; (with_reducible refine (HA.out _).mono ?_); rintro e w1 ⟨rfl, hw1⟩; obtain rfl := hw1)
          | (go_at_call 90; (with_reducible refine (HG.out _).mono ?_); rintro e w1 ⟨rfl, hw1⟩; obtain rfl := hw1))
  by_cases t1 : n.x ≠ 0
  · have p1 : (n.x != 0) = true := bne_iff_ne.2 t1
    have HE : Hid (nodeE n k = 3) := Lib.hid (fne_x iO (by rw [uX]; simp [operandB]; omega))
    go_wp2_with (first
              | (go_at_call 87; (with_reducible refine (HX.out _).mono ?_); rintro e w1 ⟨rfl, hw1⟩; obtain rfl := hw1)
              | (go_at_call 88; (with_reducible refine (HY.out _).mono ?_); rintro e w1 ⟨rfl, hw1⟩; obtain rfl := hw1)
              | (go_at_call 89; (with_reducible refine (HA.out _).mono ?_); rintro e w1 ⟨rfl, hw1⟩; obtain rfl := hw1)
              | (go_at_call 90; (with_reducible refine (HG.out _).mono ?_); rintro e w1 ⟨rfl, hw1⟩; obtain rfl := hw1))
    refine bodyPost_ret (v := .int .i64 3) (by simp [results, Tryz.results59, go_sem]) rfl ?_
    exact ⟨by rw [HE.out], hk⟩
  have p1 : (n.x != 0) = false := by simpa using t1
  go_upto_region 5 with (first
          | (go_at_call 87; (with_reducible refine (HX.out _).mono ?_); rintro e w1 ⟨rfl, hw1⟩; obtain rfl := hw1)
          | (go_at_call 88; (with_reducible refine (HY.out _).mono ?_); rintro e w1 ⟨rfl, hw1⟩; obtain rfl := hw1)
          | (go_at_call 89; (with_reducible refine (HA.out _).mono ?_); rintro e w1 ⟨rfl, hw1⟩; obtain rfl := hw1)
          | (go_at_call 90; (with_reducible refine (HG.out _).mono ?_); rintro e w1 ⟨rfl, hw1⟩; obtain rfl := hw1))
  by_cases t2 : n.y ≠ 0
  · have p2 : (n.y != 0) = true := bne_iff_ne.2 t2
    have HE : Hid (nodeE n k = 3) := Lib.hid (fne_y iO (by rw [uY]; simp [operandB]; omega))
    go_wp2_with (first
              | (go_at_call 87; (with_reducible refine (HX.out _).mono ?_); rintro e w1 ⟨rfl, hw1⟩; obtain rfl := hw1)
              | (go_at_call 88; (with_reducible refine (HY.out _).mono ?_); rintro e w1 ⟨rfl, hw1⟩; obtain rfl := hw1)
              | (go_at_call 89; (with_reducible refine (HA.out _).mono ?_); rintro e w1 ⟨rfl, hw1⟩; obtain rfl := hw1)
              | (go_at_call 90; (with_reducible refine (HG.out _).mono ?_); rintro e w1 ⟨rfl, hw1⟩; obtain rfl := hw1))
    refine bodyPost_ret (v := .int .i64 3) (by simp [results, Tryz.results59, go_sem]) rfl ?_
    exact ⟨by rw [HE.out], hk⟩
  have p2 : (n.y != 0) = false := by simpa using t2
  go_upto_region 8 with (first
          | (go_at_call 87; (with_reducible refine (HX.out _).mono ?_); rintro e w1 ⟨rfl, hw1⟩; obtain rfl := hw1)
          | (go_at_call 88; (with_reducible refine (HY.out _).mono ?_); rintro e w1 ⟨rfl, hw1⟩; obtain rfl := hw1)
          | (go_at_call 89; (with_reducible refine (HA.out _).mono ?_); rintro e w1 ⟨rfl, hw1⟩; obtain rfl := hw1)
          | (go_at_call 90; (with_reducible refine (HG.out _).mono ?_); rintro e w1 ⟨rfl, hw1⟩; obtain rfl := hw1))
  by_cases t3 : n.e ≠ 0
  · have p3 : (n.e != 0) = true := bne_iff_ne.2 t3
    have HE : Hid (nodeE n k = 3) := Lib.hid (fne_z iO (by unfold zeroed; rw [uF, uA, uE, uG]; simp; omega))
    go_wp2_with (first
              | (go_at_call 87; (with_reducible refine (HX.out _).mono ?_); rintro e w1 ⟨rfl, hw1⟩; obtain rfl := hw1)
              | (go_at_call 88; (with_reducible refine (HY.out _).mono ?_); rintro e w1 ⟨rfl, hw1⟩; obtain rfl := hw1)
              | (go_at_call 89; (with_reducible refine (HA.out _).mono ?_); rintro e w1 ⟨rfl, hw1⟩; obtain rfl := hw1)
              | (go_at_call 90; (with_reducible refine (HG.out _).mono ?_); rintro e w1 ⟨rfl, hw1⟩; obtain rfl := hw1))
    refine bodyPost_ret (v := .int .i64 3) (by simp [results, Tryz.results59, go_sem]) rfl ?_
    exact ⟨by rw [HE.out], hk⟩
  have p3 : (n.e != 0) = false := by simpa using t3
  by_cases t4 : n.g ≠ 0
  · have p4 : (n.g != 0) = true := bne_iff_ne.2 t4
    have HE : Hid (nodeE n k = 3) := Lib.hid (fne_z iO (by unfold zeroed; rw [uF, uA, uE, uG]; simp; omega))
    go_wp2_with (first
              | (go_at_call 87; (with_reducible refine (HX.out _).mono ?_); rintro e w1 ⟨rfl, hw1⟩; obtain rfl := hw1)
              | (go_at_call 88; (with_reducible refine (HY.out _).mono ?_); rintro e w1 ⟨rfl, hw1⟩; obtain rfl := hw1)
              | (go_at_call 89; (with_reducible refine (HA.out _).mono ?_); rintro e w1 ⟨rfl, hw1⟩; obtain rfl := hw1)
              | (go_at_call 90; (with_reducible refine (HG.out _).mono ?_); rintro e w1 ⟨rfl, hw1⟩; obtain rfl := hw1))
    refine bodyPost_ret (v := .int .i64 3) (by simp [results, Tryz.results59, go_sem]) rfl ?_
    exact ⟨by rw [HE.out], hk⟩
  have p4 : (n.g != 0) = false := by simpa using t4
  go_upto_region 10 with (first
          | (go_at_call 87; (with_reducible refine (HX.out _).mono ?_); rintro e w1 ⟨rfl, hw1⟩; obtain rfl := hw1)
          | (go_at_call 88; (with_reducible refine (HY.out _).mono ?_); rintro e w1 ⟨rfl, hw1⟩; obtain rfl := hw1)
          | (go_at_call 89; (with_reducible refine (HA.out _).mono ?_); rintro e w1 ⟨rfl, hw1⟩; obtain rfl := hw1)
          | (go_at_call 90; (with_reducible refine (HG.out _).mono ?_); rintro e w1 ⟨rfl, hw1⟩; obtain rfl := hw1))
  by_cases t5 : n.i < 0
  · have HE : Hid (nodeE n k = 2) := Lib.hid (fne_r iO (by rw [uX]; simp [operandB]; omega) (by rw [uY]; simp [operandB]; omega) (by unfold zeroed; rw [uF, uA, uE, uG]; simp; omega) (by unfold ranged within; rw [uF, uA, uE, uG]; simp; omega))
    go_wp2_with (first
              | (go_at_call 87; (with_reducible refine (HX.out _).mono ?_); rintro e w1 ⟨rfl, hw1⟩; obtain rfl := hw1)
              | (go_at_call 88; (with_reducible refine (HY.out _).mono ?_); rintro e w1 ⟨rfl, hw1⟩; obtain rfl := hw1)
              | (go_at_call 89; (with_reducible refine (HA.out _).mono ?_); rintro e w1 ⟨rfl, hw1⟩; obtain rfl := hw1)
              | (go_at_call 90; (with_reducible refine (HG.out _).mono ?_); rintro e w1 ⟨rfl, hw1⟩; obtain rfl := hw1))
    refine bodyPost_ret (v := .int .i64 2) (by simp [results, Tryz.results59, go_sem]) rfl ?_
    exact ⟨by rw [HE.out], hk⟩
  by_cases t6 : 8 ≤ n.i
  · have HE : Hid (nodeE n k = 2) := Lib.hid (fne_r iO (by rw [uX]; simp [operandB]; omega) (by rw [uY]; simp [operandB]; omega) (by unfold zeroed; rw [uF, uA, uE, uG]; simp; omega) (by unfold ranged within; rw [uF, uA, uE, uG]; simp; omega))
    go_wp2_with (first
              | (go_at_call 87; (with_reducible refine (HX.out _).mono ?_); rintro e w1 ⟨rfl, hw1⟩; obtain rfl := hw1)
              | (go_at_call 88; (with_reducible refine (HY.out _).mono ?_); rintro e w1 ⟨rfl, hw1⟩; obtain rfl := hw1)
              | (go_at_call 89; (with_reducible refine (HA.out _).mono ?_); rintro e w1 ⟨rfl, hw1⟩; obtain rfl := hw1)
              | (go_at_call 90; (with_reducible refine (HG.out _).mono ?_); rintro e w1 ⟨rfl, hw1⟩; obtain rfl := hw1))
    refine bodyPost_ret (v := .int .i64 2) (by simp [results, Tryz.results59, go_sem]) rfl ?_
    exact ⟨by rw [HE.out], hk⟩
  have HE : Hid (nodeE n k = 0) := Lib.hid (fne_0 iO (by rw [uX]; simp [operandB]; omega) (by rw [uY]; simp [operandB]; omega) (by unfold zeroed; rw [uF, uA, uE, uG]; simp; omega) (by unfold ranged within; rw [uF, uA, uE, uG]; simp <;> omega))
  go_wp2_with (first
            | (go_at_call 87; (with_reducible refine (HX.out _).mono ?_); rintro e w1 ⟨rfl, hw1⟩; obtain rfl := hw1)
            | (go_at_call 88; (with_reducible refine (HY.out _).mono ?_); rintro e w1 ⟨rfl, hw1⟩; obtain rfl := hw1)
            | (go_at_call 89; (with_reducible refine (HA.out _).mono ?_); rintro e w1 ⟨rfl, hw1⟩; obtain rfl := hw1)
            | (go_at_call 90; (with_reducible refine (HG.out _).mono ?_); rintro e w1 ⟨rfl, hw1⟩; obtain rfl := hw1))
  refine bodyPost_ret (v := .int .i64 0) (by simp [results, Tryz.results59, go_sem]) rfl ?_
  exact ⟨by rw [HE.out], hk⟩
theorem rnode_un (n : Nd) (k : Int) (w : World) (ho : n.op = 4 ∨ n.op = 18 ∨ n.op = 20) : Calls Tryz.prog 59 #[ndV n, .int .i64 k] w fun e w' => e = .returned (.int .i64 (nodeE n k)) ∧ Keep NoF w w' := by
  have hk : Keep NoF w (w.alloc (.cells #[.int .i64 n.op, .int .i64 n.i, .int .i64 n.e, .int .i64 n.g, .int .i64 n.x, .int .i64 n.y] 49)) := (Keep.refl _ _).alloc _
  have iO : isOp n.op = true := by simp [isOp]; omega
  have uX : usesX n.op = true := by simp [usesX]; omega
  have uY : usesY n.op = false := by simp [usesY]; omega
  have uF : usesFact n.op = false := by simp [usesFact]; omega
  have uA : usesAgent n.op = false := by simp [usesAgent]; omega
  have uG : usesGroup n.op = false := by simp [usesGroup]; omega
  have uE : usesEvent n.op = false := by simp [usesEvent]; omega
  have HX := Lib.hid fun W => uX ▸ fqUsesX_any n.op W
  have HY := Lib.hid fun W => uY ▸ fqUsesY_any n.op W
  have HA := Lib.hid fun W => uA ▸ fqagent_any n.op W
  have HG := Lib.hid fun W => uG ▸ fqgroup_any n.op W
  have o1 : ¬ n.op < 1 := by omega
  have o2 : ¬ 21 < n.op := by omega
  have o3 : (n.op == 3) = false := by simp; omega
  have o4 : (n.op == 17) = false := by simp; omega
  have o5 : (n.op != 17) = true := by simp; omega
  clear ho
  go_enter Tryz.func59, Tryz.ntmps59
  go_upto_region 3 with (first
          | (go_at_call 87; (with_reducible refine (HX.out _).mono ?_); rintro e w1 ⟨rfl, hw1⟩; obtain rfl := hw1)
          | (go_at_call 88; (with_reducible refine (HY.out _).mono ?_); rintro e w1 ⟨rfl, hw1⟩; obtain rfl := hw1)
          | (go_at_call 89; (with_reducible refine (HA.out _).mono ?_); rintro e w1 ⟨rfl, hw1⟩; obtain rfl := hw1)
          | (go_at_call 90; (with_reducible refine (HG.out _).mono ?_); rintro e w1 ⟨rfl, hw1⟩; obtain rfl := hw1))
  by_cases t1 : n.x < 0
  · have HE : Hid (nodeE n k = 3) := Lib.hid (fne_x iO (by rw [uX]; simp [operandB]; omega))
    go_wp2_with (first
              | (go_at_call 87; (with_reducible refine (HX.out _).mono ?_); rintro e w1 ⟨rfl, hw1⟩; obtain rfl := hw1)
              | (go_at_call 88; (with_reducible refine (HY.out _).mono ?_); rintro e w1 ⟨rfl, hw1⟩; obtain rfl := hw1)
              | (go_at_call 89; (with_reducible refine (HA.out _).mono ?_); rintro e w1 ⟨rfl, hw1⟩; obtain rfl := hw1)
              | (go_at_call 90; (with_reducible refine (HG.out _).mono ?_); rintro e w1 ⟨rfl, hw1⟩; obtain rfl := hw1))
    refine bodyPost_ret (v := .int .i64 3) (by simp [results, Tryz.results59, go_sem]) rfl ?_
    exact ⟨by rw [HE.out], hk⟩
  by_cases t2 : k ≤ n.x
  · have HE : Hid (nodeE n k = 3) := Lib.hid (fne_x iO (by rw [uX]; simp [operandB]; omega))
    go_wp2_with (first
              | (go_at_call 87; (with_reducible refine (HX.out _).mono ?_); rintro e w1 ⟨rfl, hw1⟩; obtain rfl := hw1)
              | (go_at_call 88; (with_reducible refine (HY.out _).mono ?_); rintro e w1 ⟨rfl, hw1⟩; obtain rfl := hw1)
              | (go_at_call 89; (with_reducible refine (HA.out _).mono ?_); rintro e w1 ⟨rfl, hw1⟩; obtain rfl := hw1)
              | (go_at_call 90; (with_reducible refine (HG.out _).mono ?_); rintro e w1 ⟨rfl, hw1⟩; obtain rfl := hw1))
    refine bodyPost_ret (v := .int .i64 3) (by simp [results, Tryz.results59, go_sem]) rfl ?_
    exact ⟨by rw [HE.out], hk⟩
  go_upto_region 5 with (first
          | (go_at_call 87; (with_reducible refine (HX.out _).mono ?_); rintro e w1 ⟨rfl, hw1⟩; obtain rfl := hw1)
          | (go_at_call 88; (with_reducible refine (HY.out _).mono ?_); rintro e w1 ⟨rfl, hw1⟩; obtain rfl := hw1)
          | (go_at_call 89; (with_reducible refine (HA.out _).mono ?_); rintro e w1 ⟨rfl, hw1⟩; obtain rfl := hw1)
          | (go_at_call 90; (with_reducible refine (HG.out _).mono ?_); rintro e w1 ⟨rfl, hw1⟩; obtain rfl := hw1))
  by_cases t3 : n.y ≠ 0
  · have p3 : (n.y != 0) = true := bne_iff_ne.2 t3
    have HE : Hid (nodeE n k = 3) := Lib.hid (fne_y iO (by rw [uY]; simp [operandB]; omega))
    go_wp2_with (first
              | (go_at_call 87; (with_reducible refine (HX.out _).mono ?_); rintro e w1 ⟨rfl, hw1⟩; obtain rfl := hw1)
              | (go_at_call 88; (with_reducible refine (HY.out _).mono ?_); rintro e w1 ⟨rfl, hw1⟩; obtain rfl := hw1)
              | (go_at_call 89; (with_reducible refine (HA.out _).mono ?_); rintro e w1 ⟨rfl, hw1⟩; obtain rfl := hw1)
              | (go_at_call 90; (with_reducible refine (HG.out _).mono ?_); rintro e w1 ⟨rfl, hw1⟩; obtain rfl := hw1))
    refine bodyPost_ret (v := .int .i64 3) (by simp [results, Tryz.results59, go_sem]) rfl ?_
    exact ⟨by rw [HE.out], hk⟩
  have p3 : (n.y != 0) = false := by simpa using t3
  go_upto_region 8 with (first
          | (go_at_call 87; (with_reducible refine (HX.out _).mono ?_); rintro e w1 ⟨rfl, hw1⟩; obtain rfl := hw1)
          | (go_at_call 88; (with_reducible refine (HY.out _).mono ?_); rintro e w1 ⟨rfl, hw1⟩; obtain rfl := hw1)
          | (go_at_call 89; (with_reducible refine (HA.out _).mono ?_); rintro e w1 ⟨rfl, hw1⟩; obtain rfl := hw1)
          | (go_at_call 90; (with_reducible refine (HG.out _).mono ?_); rintro e w1 ⟨rfl, hw1⟩; obtain rfl := hw1))
  by_cases t4 : n.i ≠ 0
  · have p4 : (n.i != 0) = true := bne_iff_ne.2 t4
    have HE : Hid (nodeE n k = 3) := Lib.hid (fne_z iO (by unfold zeroed; rw [uF, uA, uE, uG]; simp; omega))
    go_wp2_with (first
              | (go_at_call 87; (with_reducible refine (HX.out _).mono ?_); rintro e w1 ⟨rfl, hw1⟩; obtain rfl := hw1)
              | (go_at_call 88; (with_reducible refine (HY.out _).mono ?_); rintro e w1 ⟨rfl, hw1⟩; obtain rfl := hw1)
              | (go_at_call 89; (with_reducible refine (HA.out _).mono ?_); rintro e w1 ⟨rfl, hw1⟩; obtain rfl := hw1)
              | (go_at_call 90; (with_reducible refine (HG.out _).mono ?_); rintro e w1 ⟨rfl, hw1⟩; obtain rfl := hw1))
    refine bodyPost_ret (v := .int .i64 3) (by simp [results, Tryz.results59, go_sem]) rfl ?_
    exact ⟨by rw [HE.out], hk⟩
  have p4 : (n.i != 0) = false := by simpa using t4
  by_cases t5 : n.e ≠ 0
  · have p5 : (n.e != 0) = true := bne_iff_ne.2 t5
    have HE : Hid (nodeE n k = 3) := Lib.hid (fne_z iO (by unfold zeroed; rw [uF, uA, uE, uG]; simp; omega))
    go_wp2_with (first
              | (go_at_call 87; (with_reducible refine (HX.out _).mono ?_); rintro e w1 ⟨rfl, hw1⟩; obtain rfl := hw1)
              | (go_at_call 88; (with_reducible refine (HY.out _).mono ?_); rintro e w1 ⟨rfl, hw1⟩; obtain rfl := hw1)
              | (go_at_call 89; (with_reducible refine (HA.out _).mono ?_); rintro e w1 ⟨rfl, hw1⟩; obtain rfl := hw1)
              | (go_at_call 90; (with_reducible refine (HG.out _).mono ?_); rintro e w1 ⟨rfl, hw1⟩; obtain rfl := hw1))
    refine bodyPost_ret (v := .int .i64 3) (by simp [results, Tryz.results59, go_sem]) rfl ?_
    exact ⟨by rw [HE.out], hk⟩
  have p5 : (n.e != 0) = false := by simpa using t5
  by_cases t6 : n.g ≠ 0
  · have p6 : (n.g != 0) = true := bne_iff_ne.2 t6
    have HE : Hid (nodeE n k = 3) := Lib.hid (fne_z iO (by unfold zeroed; rw [uF, uA, uE, uG]; simp; omega))
    go_wp2_with (first
              | (go_at_call 87; (with_reducible refine (HX.out _).mono ?_); rintro e w1 ⟨rfl, hw1⟩; obtain rfl := hw1)
              | (go_at_call 88; (with_reducible refine (HY.out _).mono ?_); rintro e w1 ⟨rfl, hw1⟩; obtain rfl := hw1)
              | (go_at_call 89; (with_reducible refine (HA.out _).mono ?_); rintro e w1 ⟨rfl, hw1⟩; obtain rfl := hw1)
              | (go_at_call 90; (with_reducible refine (HG.out _).mono ?_); rintro e w1 ⟨rfl, hw1⟩; obtain rfl := hw1))
    refine bodyPost_ret (v := .int .i64 3) (by simp [results, Tryz.results59, go_sem]) rfl ?_
    exact ⟨by rw [HE.out], hk⟩
  have p6 : (n.g != 0) = false := by simpa using t6
  have HE : Hid (nodeE n k = 0) := Lib.hid (fne_0 iO (by rw [uX]; simp [operandB]; omega) (by rw [uY]; simp [operandB]; omega) (by unfold zeroed; rw [uF, uA, uE, uG]; simp; omega) (by unfold ranged within; rw [uF, uA, uE, uG]; simp <;> omega))
  go_wp2_with (first
            | (go_at_call 87; (with_reducible refine (HX.out _).mono ?_); rintro e w1 ⟨rfl, hw1⟩; obtain rfl := hw1)
            | (go_at_call 88; (with_reducible refine (HY.out _).mono ?_); rintro e w1 ⟨rfl, hw1⟩; obtain rfl := hw1)
            | (go_at_call 89; (with_reducible refine (HA.out _).mono ?_); rintro e w1 ⟨rfl, hw1⟩; obtain rfl := hw1)
            | (go_at_call 90; (with_reducible refine (HG.out _).mono ?_); rintro e w1 ⟨rfl, hw1⟩; obtain rfl := hw1))
  refine bodyPost_ret (v := .int .i64 0) (by simp [results, Tryz.results59, go_sem]) rfl ?_
  exact ⟨by rw [HE.out], hk⟩
theorem rnode_bi (n : Nd) (k : Int) (w : World) (ho : n.op = 5 ∨ n.op = 6 ∨ n.op = 7 ∨ n.op = 8 ∨ n.op = 16 ∨ n.op = 19 ∨ n.op = 21) : Calls Tryz.prog 59 #[ndV n, .int .i64 k] w fun e w' => e = .returned (.int .i64 (nodeE n k)) ∧ Keep NoF w w' := by
  have hk : Keep NoF w (w.alloc (.cells #[.int .i64 n.op, .int .i64 n.i, .int .i64 n.e, .int .i64 n.g, .int .i64 n.x, .int .i64 n.y] 49)) := (Keep.refl _ _).alloc _
  have iO : isOp n.op = true := by simp [isOp]; omega
  have uX : usesX n.op = true := by simp [usesX]; omega
  have uY : usesY n.op = true := by simp [usesY]; omega
  have uF : usesFact n.op = false := by simp [usesFact]; omega
  have uA : usesAgent n.op = false := by simp [usesAgent]; omega
  have uG : usesGroup n.op = false := by simp [usesGroup]; omega
  have uE : usesEvent n.op = false := by simp [usesEvent]; omega
  have HX := Lib.hid fun W => uX ▸ fqUsesX_any n.op W
  have HY := Lib.hid fun W => uY ▸ fqUsesY_any n.op W
  have HA := Lib.hid fun W => uA ▸ fqagent_any n.op W
  have HG := Lib.hid fun W => uG ▸ fqgroup_any n.op W
  have o1 : ¬ n.op < 1 := by omega
  have o2 : ¬ 21 < n.op := by omega
  have o3 : (n.op == 3) = false := by simp; omega
  have o4 : (n.op == 17) = false := by simp; omega
  have o5 : (n.op != 17) = true := by simp; omega
  clear ho
  go_enter Tryz.func59, Tryz.ntmps59
  go_upto_region 3 with (first
          | (go_at_call 87; (with_reducible refine (HX.out _).mono ?_); rintro e w1 ⟨rfl, hw1⟩; obtain rfl := hw1)
          | (go_at_call 88; (with_reducible refine (HY.out _).mono ?_); rintro e w1 ⟨rfl, hw1⟩; obtain rfl := hw1)
          | (go_at_call 89; (with_reducible refine (HA.out _).mono ?_); rintro e w1 ⟨rfl, hw1⟩; obtain rfl := hw1)
          | (go_at_call 90; (with_reducible refine (HG.out _).mono ?_); rintro e w1 ⟨rfl, hw1⟩; obtain rfl := hw1))
  by_cases t1 : n.x < 0
  · have HE : Hid (nodeE n k = 3) := Lib.hid (fne_x iO (by rw [uX]; simp [operandB]; omega))
    go_wp2_with (first
              | (go_at_call 87; (with_reducible refine (HX.out _).mono ?_); rintro e w1 ⟨rfl, hw1⟩; obtain rfl := hw1)
              | (go_at_call 88; (with_reducible refine (HY.out _).mono ?_); rintro e w1 ⟨rfl, hw1⟩; obtain rfl := hw1)
              | (go_at_call 89; (with_reducible refine (HA.out _).mono ?_); rintro e w1 ⟨rfl, hw1⟩; obtain rfl := hw1)
              | (go_at_call 90; (with_reducible refine (HG.out _).mono ?_); rintro e w1 ⟨rfl, hw1⟩; obtain rfl := hw1))
    refine bodyPost_ret (v := .int .i64 3) (by simp [results, Tryz.results59, go_sem]) rfl ?_
    exact ⟨by rw [HE.out], hk⟩
  by_cases t2 : k ≤ n.x
  · have HE : Hid (nodeE n k = 3) := Lib.hid (fne_x iO (by rw [uX]; simp [operandB]; omega))
    go_wp2_with (first
              | (go_at_call 87; (with_reducible refine (HX.out _).mono ?_); rintro e w1 ⟨rfl, hw1⟩; obtain rfl := hw1)
              | (go_at_call 88; (with_reducible refine (HY.out _).mono ?_); rintro e w1 ⟨rfl, hw1⟩; obtain rfl := hw1)
              | (go_at_call 89; (with_reducible refine (HA.out _).mono ?_); rintro e w1 ⟨rfl, hw1⟩; obtain rfl := hw1)
              | (go_at_call 90; (with_reducible refine (HG.out _).mono ?_); rintro e w1 ⟨rfl, hw1⟩; obtain rfl := hw1))
    refine bodyPost_ret (v := .int .i64 3) (by simp [results, Tryz.results59, go_sem]) rfl ?_
    exact ⟨by rw [HE.out], hk⟩
  go_upto_region 5 with (first
          | (go_at_call 87; (with_reducible refine (HX.out _).mono ?_); rintro e w1 ⟨rfl, hw1⟩; obtain rfl := hw1)
          | (go_at_call 88; (with_reducible refine (HY.out _).mono ?_); rintro e w1 ⟨rfl, hw1⟩; obtain rfl := hw1)
          | (go_at_call 89; (with_reducible refine (HA.out _).mono ?_); rintro e w1 ⟨rfl, hw1⟩; obtain rfl := hw1)
          | (go_at_call 90; (with_reducible refine (HG.out _).mono ?_); rintro e w1 ⟨rfl, hw1⟩; obtain rfl := hw1))
  by_cases t3 : n.y < 0
  · have HE : Hid (nodeE n k = 3) := Lib.hid (fne_y iO (by rw [uY]; simp [operandB]; omega))
    go_wp2_with (first
              | (go_at_call 87; (with_reducible refine (HX.out _).mono ?_); rintro e w1 ⟨rfl, hw1⟩; obtain rfl := hw1)
              | (go_at_call 88; (with_reducible refine (HY.out _).mono ?_); rintro e w1 ⟨rfl, hw1⟩; obtain rfl := hw1)
              | (go_at_call 89; (with_reducible refine (HA.out _).mono ?_); rintro e w1 ⟨rfl, hw1⟩; obtain rfl := hw1)
              | (go_at_call 90; (with_reducible refine (HG.out _).mono ?_); rintro e w1 ⟨rfl, hw1⟩; obtain rfl := hw1))
    refine bodyPost_ret (v := .int .i64 3) (by simp [results, Tryz.results59, go_sem]) rfl ?_
    exact ⟨by rw [HE.out], hk⟩
  by_cases t4 : k ≤ n.y
  · have HE : Hid (nodeE n k = 3) := Lib.hid (fne_y iO (by rw [uY]; simp [operandB]; omega))
    go_wp2_with (first
              | (go_at_call 87; (with_reducible refine (HX.out _).mono ?_); rintro e w1 ⟨rfl, hw1⟩; obtain rfl := hw1)
              | (go_at_call 88; (with_reducible refine (HY.out _).mono ?_); rintro e w1 ⟨rfl, hw1⟩; obtain rfl := hw1)
              | (go_at_call 89; (with_reducible refine (HA.out _).mono ?_); rintro e w1 ⟨rfl, hw1⟩; obtain rfl := hw1)
              | (go_at_call 90; (with_reducible refine (HG.out _).mono ?_); rintro e w1 ⟨rfl, hw1⟩; obtain rfl := hw1))
    refine bodyPost_ret (v := .int .i64 3) (by simp [results, Tryz.results59, go_sem]) rfl ?_
    exact ⟨by rw [HE.out], hk⟩
  go_upto_region 8 with (first
          | (go_at_call 87; (with_reducible refine (HX.out _).mono ?_); rintro e w1 ⟨rfl, hw1⟩; obtain rfl := hw1)
          | (go_at_call 88; (with_reducible refine (HY.out _).mono ?_); rintro e w1 ⟨rfl, hw1⟩; obtain rfl := hw1)
          | (go_at_call 89; (with_reducible refine (HA.out _).mono ?_); rintro e w1 ⟨rfl, hw1⟩; obtain rfl := hw1)
          | (go_at_call 90; (with_reducible refine (HG.out _).mono ?_); rintro e w1 ⟨rfl, hw1⟩; obtain rfl := hw1))
  by_cases t5 : n.i ≠ 0
  · have p5 : (n.i != 0) = true := bne_iff_ne.2 t5
    have HE : Hid (nodeE n k = 3) := Lib.hid (fne_z iO (by unfold zeroed; rw [uF, uA, uE, uG]; simp; omega))
    go_wp2_with (first
              | (go_at_call 87; (with_reducible refine (HX.out _).mono ?_); rintro e w1 ⟨rfl, hw1⟩; obtain rfl := hw1)
              | (go_at_call 88; (with_reducible refine (HY.out _).mono ?_); rintro e w1 ⟨rfl, hw1⟩; obtain rfl := hw1)
              | (go_at_call 89; (with_reducible refine (HA.out _).mono ?_); rintro e w1 ⟨rfl, hw1⟩; obtain rfl := hw1)
              | (go_at_call 90; (with_reducible refine (HG.out _).mono ?_); rintro e w1 ⟨rfl, hw1⟩; obtain rfl := hw1))
    refine bodyPost_ret (v := .int .i64 3) (by simp [results, Tryz.results59, go_sem]) rfl ?_
    exact ⟨by rw [HE.out], hk⟩
  have p5 : (n.i != 0) = false := by simpa using t5
  by_cases t6 : n.e ≠ 0
  · have p6 : (n.e != 0) = true := bne_iff_ne.2 t6
    have HE : Hid (nodeE n k = 3) := Lib.hid (fne_z iO (by unfold zeroed; rw [uF, uA, uE, uG]; simp; omega))
    go_wp2_with (first
              | (go_at_call 87; (with_reducible refine (HX.out _).mono ?_); rintro e w1 ⟨rfl, hw1⟩; obtain rfl := hw1)
              | (go_at_call 88; (with_reducible refine (HY.out _).mono ?_); rintro e w1 ⟨rfl, hw1⟩; obtain rfl := hw1)
              | (go_at_call 89; (with_reducible refine (HA.out _).mono ?_); rintro e w1 ⟨rfl, hw1⟩; obtain rfl := hw1)
              | (go_at_call 90; (with_reducible refine (HG.out _).mono ?_); rintro e w1 ⟨rfl, hw1⟩; obtain rfl := hw1))
    refine bodyPost_ret (v := .int .i64 3) (by simp [results, Tryz.results59, go_sem]) rfl ?_
    exact ⟨by rw [HE.out], hk⟩
  have p6 : (n.e != 0) = false := by simpa using t6
  by_cases t7 : n.g ≠ 0
  · have p7 : (n.g != 0) = true := bne_iff_ne.2 t7
    have HE : Hid (nodeE n k = 3) := Lib.hid (fne_z iO (by unfold zeroed; rw [uF, uA, uE, uG]; simp; omega))
    go_wp2_with (first
              | (go_at_call 87; (with_reducible refine (HX.out _).mono ?_); rintro e w1 ⟨rfl, hw1⟩; obtain rfl := hw1)
              | (go_at_call 88; (with_reducible refine (HY.out _).mono ?_); rintro e w1 ⟨rfl, hw1⟩; obtain rfl := hw1)
              | (go_at_call 89; (with_reducible refine (HA.out _).mono ?_); rintro e w1 ⟨rfl, hw1⟩; obtain rfl := hw1)
              | (go_at_call 90; (with_reducible refine (HG.out _).mono ?_); rintro e w1 ⟨rfl, hw1⟩; obtain rfl := hw1))
    refine bodyPost_ret (v := .int .i64 3) (by simp [results, Tryz.results59, go_sem]) rfl ?_
    exact ⟨by rw [HE.out], hk⟩
  have p7 : (n.g != 0) = false := by simpa using t7
  have HE : Hid (nodeE n k = 0) := Lib.hid (fne_0 iO (by rw [uX]; simp [operandB]; omega) (by rw [uY]; simp [operandB]; omega) (by unfold zeroed; rw [uF, uA, uE, uG]; simp; omega) (by unfold ranged within; rw [uF, uA, uE, uG]; simp <;> omega))
  go_wp2_with (first
            | (go_at_call 87; (with_reducible refine (HX.out _).mono ?_); rintro e w1 ⟨rfl, hw1⟩; obtain rfl := hw1)
            | (go_at_call 88; (with_reducible refine (HY.out _).mono ?_); rintro e w1 ⟨rfl, hw1⟩; obtain rfl := hw1)
            | (go_at_call 89; (with_reducible refine (HA.out _).mono ?_); rintro e w1 ⟨rfl, hw1⟩; obtain rfl := hw1)
            | (go_at_call 90; (with_reducible refine (HG.out _).mono ?_); rintro e w1 ⟨rfl, hw1⟩; obtain rfl := hw1))
  refine bodyPost_ret (v := .int .i64 0) (by simp [results, Tryz.results59, go_sem]) rfl ?_
  exact ⟨by rw [HE.out], hk⟩
theorem rnode_ua (n : Nd) (k : Int) (w : World) (ho : n.op = 9 ∨ n.op = 10 ∨ n.op = 15) : Calls Tryz.prog 59 #[ndV n, .int .i64 k] w fun e w' => e = .returned (.int .i64 (nodeE n k)) ∧ Keep NoF w w' := by
  have hk : Keep NoF w (w.alloc (.cells #[.int .i64 n.op, .int .i64 n.i, .int .i64 n.e, .int .i64 n.g, .int .i64 n.x, .int .i64 n.y] 49)) := (Keep.refl _ _).alloc _
  have iO : isOp n.op = true := by simp [isOp]; omega
  have uX : usesX n.op = true := by simp [usesX]; omega
  have uY : usesY n.op = false := by simp [usesY]; omega
  have uF : usesFact n.op = false := by simp [usesFact]; omega
  have uA : usesAgent n.op = true := by simp [usesAgent]; omega
  have uG : usesGroup n.op = false := by simp [usesGroup]; omega
  have uE : usesEvent n.op = false := by simp [usesEvent]; omega
  have HX := Lib.hid fun W => uX ▸ fqUsesX_any n.op W
  have HY := Lib.hid fun W => uY ▸ fqUsesY_any n.op W
  have HA := Lib.hid fun W => uA ▸ fqagent_any n.op W
  have HG := Lib.hid fun W => uG ▸ fqgroup_any n.op W
  have o1 : ¬ n.op < 1 := by omega
  have o2 : ¬ 21 < n.op := by omega
  have o3 : (n.op == 3) = false := by simp; omega
  have o4 : (n.op == 17) = false := by simp; omega
  have o5 : (n.op != 17) = true := by simp; omega
  clear ho
  go_enter Tryz.func59, Tryz.ntmps59
  go_upto_region 3 with (first
          | (go_at_call 87; (with_reducible refine (HX.out _).mono ?_); rintro e w1 ⟨rfl, hw1⟩; obtain rfl := hw1)
          | (go_at_call 88; (with_reducible refine (HY.out _).mono ?_); rintro e w1 ⟨rfl, hw1⟩; obtain rfl := hw1)
          | (go_at_call 89; (with_reducible refine (HA.out _).mono ?_); rintro e w1 ⟨rfl, hw1⟩; obtain rfl := hw1)
          | (go_at_call 90; (with_reducible refine (HG.out _).mono ?_); rintro e w1 ⟨rfl, hw1⟩; obtain rfl := hw1))
  by_cases t1 : n.x < 0
  · have HE : Hid (nodeE n k = 3) := Lib.hid (fne_x iO (by rw [uX]; simp [operandB]; omega))
    go_wp2_with (first
              | (go_at_call 87; (with_reducible refine (HX.out _).mono ?_); rintro e w1 ⟨rfl, hw1⟩; obtain rfl := hw1)
              | (go_at_call 88; (with_reducible refine (HY.out _).mono ?_); rintro e w1 ⟨rfl, hw1⟩; obtain rfl := hw1)
              | (go_at_call 89; (with_reducible refine (HA.out _).mono ?_); rintro e w1 ⟨rfl, hw1⟩; obtain rfl := hw1)
              | (go_at_call 90; (with_reducible refine (HG.out _).mono ?_); rintro e w1 ⟨rfl, hw1⟩; obtain rfl := hw1))
    refine bodyPost_ret (v := .int .i64 3) (by simp [results, Tryz.results59, go_sem]) rfl ?_
    exact ⟨by rw [HE.out], hk⟩
  by_cases t2 : k ≤ n.x
  · have HE : Hid (nodeE n k = 3) := Lib.hid (fne_x iO (by rw [uX]; simp [operandB]; omega))
    go_wp2_with (first
              | (go_at_call 87; (with_reducible refine (HX.out _).mono ?_); rintro e w1 ⟨rfl, hw1⟩; obtain rfl := hw1)
              | (go_at_call 88; (with_reducible refine (HY.out _).mono ?_); rintro e w1 ⟨rfl, hw1⟩; obtain rfl := hw1)
              | (go_at_call 89; (with_reducible refine (HA.out _).mono ?_); rintro e w1 ⟨rfl, hw1⟩; obtain rfl := hw1)
              | (go_at_call 90; (with_reducible refine (HG.out _).mono ?_); rintro e w1 ⟨rfl, hw1⟩; obtain rfl := hw1))
    refine bodyPost_ret (v := .int .i64 3) (by simp [results, Tryz.results59, go_sem]) rfl ?_
    exact ⟨by rw [HE.out], hk⟩
  go_upto_region 5 with (first
          | (go_at_call 87; (with_reducible refine (HX.out _).mono ?_); rintro e w1 ⟨rfl, hw1⟩; obtain rfl := hw1)
          | (go_at_call 88; (with_reducible refine (HY.out _).mono ?_); rintro e w1 ⟨rfl, hw1⟩; obtain rfl := hw1)
          | (go_at_call 89; (with_reducible refine (HA.out _).mono ?_); rintro e w1 ⟨rfl, hw1⟩; obtain rfl := hw1)
          | (go_at_call 90; (with_reducible refine (HG.out _).mono ?_); rintro e w1 ⟨rfl, hw1⟩; obtain rfl := hw1))
  by_cases t3 : n.y ≠ 0
  · have p3 : (n.y != 0) = true := bne_iff_ne.2 t3
    have HE : Hid (nodeE n k = 3) := Lib.hid (fne_y iO (by rw [uY]; simp [operandB]; omega))
    go_wp2_with (first
              | (go_at_call 87; (with_reducible refine (HX.out _).mono ?_); rintro e w1 ⟨rfl, hw1⟩; obtain rfl := hw1)
              | (go_at_call 88; (with_reducible refine (HY.out _).mono ?_); rintro e w1 ⟨rfl, hw1⟩; obtain rfl := hw1)
              | (go_at_call 89; (with_reducible refine (HA.out _).mono ?_); rintro e w1 ⟨rfl, hw1⟩; obtain rfl := hw1)
              | (go_at_call 90; (with_reducible refine (HG.out _).mono ?_); rintro e w1 ⟨rfl, hw1⟩; obtain rfl := hw1))
    refine bodyPost_ret (v := .int .i64 3) (by simp [results, Tryz.results59, go_sem]) rfl ?_
    exact ⟨by rw [HE.out], hk⟩
  have p3 : (n.y != 0) = false := by simpa using t3
  go_upto_region 8 with (first
          | (go_at_call 87; (with_reducible refine (HX.out _).mono ?_); rintro e w1 ⟨rfl, hw1⟩; obtain rfl := hw1)
          | (go_at_call 88; (with_reducible refine (HY.out _).mono ?_); rintro e w1 ⟨rfl, hw1⟩; obtain rfl := hw1)
          | (go_at_call 89; (with_reducible refine (HA.out _).mono ?_); rintro e w1 ⟨rfl, hw1⟩; obtain rfl := hw1)
          | (go_at_call 90; (with_reducible refine (HG.out _).mono ?_); rintro e w1 ⟨rfl, hw1⟩; obtain rfl := hw1))
  by_cases t4 : n.e ≠ 0
  · have p4 : (n.e != 0) = true := bne_iff_ne.2 t4
    have HE : Hid (nodeE n k = 3) := Lib.hid (fne_z iO (by unfold zeroed; rw [uF, uA, uE, uG]; simp; omega))
    go_wp2_with (first
              | (go_at_call 87; (with_reducible refine (HX.out _).mono ?_); rintro e w1 ⟨rfl, hw1⟩; obtain rfl := hw1)
              | (go_at_call 88; (with_reducible refine (HY.out _).mono ?_); rintro e w1 ⟨rfl, hw1⟩; obtain rfl := hw1)
              | (go_at_call 89; (with_reducible refine (HA.out _).mono ?_); rintro e w1 ⟨rfl, hw1⟩; obtain rfl := hw1)
              | (go_at_call 90; (with_reducible refine (HG.out _).mono ?_); rintro e w1 ⟨rfl, hw1⟩; obtain rfl := hw1))
    refine bodyPost_ret (v := .int .i64 3) (by simp [results, Tryz.results59, go_sem]) rfl ?_
    exact ⟨by rw [HE.out], hk⟩
  have p4 : (n.e != 0) = false := by simpa using t4
  by_cases t5 : n.g ≠ 0
  · have p5 : (n.g != 0) = true := bne_iff_ne.2 t5
    have HE : Hid (nodeE n k = 3) := Lib.hid (fne_z iO (by unfold zeroed; rw [uF, uA, uE, uG]; simp; omega))
    go_wp2_with (first
              | (go_at_call 87; (with_reducible refine (HX.out _).mono ?_); rintro e w1 ⟨rfl, hw1⟩; obtain rfl := hw1)
              | (go_at_call 88; (with_reducible refine (HY.out _).mono ?_); rintro e w1 ⟨rfl, hw1⟩; obtain rfl := hw1)
              | (go_at_call 89; (with_reducible refine (HA.out _).mono ?_); rintro e w1 ⟨rfl, hw1⟩; obtain rfl := hw1)
              | (go_at_call 90; (with_reducible refine (HG.out _).mono ?_); rintro e w1 ⟨rfl, hw1⟩; obtain rfl := hw1))
    refine bodyPost_ret (v := .int .i64 3) (by simp [results, Tryz.results59, go_sem]) rfl ?_
    exact ⟨by rw [HE.out], hk⟩
  have p5 : (n.g != 0) = false := by simpa using t5
  go_upto_region 10 with (first
          | (go_at_call 87; (with_reducible refine (HX.out _).mono ?_); rintro e w1 ⟨rfl, hw1⟩; obtain rfl := hw1)
          | (go_at_call 88; (with_reducible refine (HY.out _).mono ?_); rintro e w1 ⟨rfl, hw1⟩; obtain rfl := hw1)
          | (go_at_call 89; (with_reducible refine (HA.out _).mono ?_); rintro e w1 ⟨rfl, hw1⟩; obtain rfl := hw1)
          | (go_at_call 90; (with_reducible refine (HG.out _).mono ?_); rintro e w1 ⟨rfl, hw1⟩; obtain rfl := hw1))
  by_cases t6 : n.i < 0
  · have HE : Hid (nodeE n k = 2) := Lib.hid (fne_r iO (by rw [uX]; simp [operandB]; omega) (by rw [uY]; simp [operandB]; omega) (by unfold zeroed; rw [uF, uA, uE, uG]; simp; omega) (by unfold ranged within; rw [uF, uA, uE, uG]; simp; omega))
    go_wp2_with (first
              | (go_at_call 87; (with_reducible refine (HX.out _).mono ?_); rintro e w1 ⟨rfl, hw1⟩; obtain rfl := hw1)
              | (go_at_call 88; (with_reducible refine (HY.out _).mono ?_); rintro e w1 ⟨rfl, hw1⟩; obtain rfl := hw1)
              | (go_at_call 89; (with_reducible refine (HA.out _).mono ?_); rintro e w1 ⟨rfl, hw1⟩; obtain rfl := hw1)
              | (go_at_call 90; (with_reducible refine (HG.out _).mono ?_); rintro e w1 ⟨rfl, hw1⟩; obtain rfl := hw1))
    refine bodyPost_ret (v := .int .i64 2) (by simp [results, Tryz.results59, go_sem]) rfl ?_
    exact ⟨by rw [HE.out], hk⟩
  by_cases t7 : 4 ≤ n.i
  · have HE : Hid (nodeE n k = 2) := Lib.hid (fne_r iO (by rw [uX]; simp [operandB]; omega) (by rw [uY]; simp [operandB]; omega) (by unfold zeroed; rw [uF, uA, uE, uG]; simp; omega) (by unfold ranged within; rw [uF, uA, uE, uG]; simp; omega))
    go_wp2_with (first
              | (go_at_call 87; (with_reducible refine (HX.out _).mono ?_); rintro e w1 ⟨rfl, hw1⟩; obtain rfl := hw1)
              | (go_at_call 88; (with_reducible refine (HY.out _).mono ?_); rintro e w1 ⟨rfl, hw1⟩; obtain rfl := hw1)
              | (go_at_call 89; (with_reducible refine (HA.out _).mono ?_); rintro e w1 ⟨rfl, hw1⟩; obtain rfl := hw1)
              | (go_at_call 90; (with_reducible refine (HG.out _).mono ?_); rintro e w1 ⟨rfl, hw1⟩; obtain rfl := hw1))
    refine bodyPost_ret (v := .int .i64 2) (by simp [results, Tryz.results59, go_sem]) rfl ?_
    exact ⟨by rw [HE.out], hk⟩
  have HE : Hid (nodeE n k = 0) := Lib.hid (fne_0 iO (by rw [uX]; simp [operandB]; omega) (by rw [uY]; simp [operandB]; omega) (by unfold zeroed; rw [uF, uA, uE, uG]; simp; omega) (by unfold ranged within; rw [uF, uA, uE, uG]; simp <;> omega))
  go_wp2_with (first
            | (go_at_call 87; (with_reducible refine (HX.out _).mono ?_); rintro e w1 ⟨rfl, hw1⟩; obtain rfl := hw1)
            | (go_at_call 88; (with_reducible refine (HY.out _).mono ?_); rintro e w1 ⟨rfl, hw1⟩; obtain rfl := hw1)
            | (go_at_call 89; (with_reducible refine (HA.out _).mono ?_); rintro e w1 ⟨rfl, hw1⟩; obtain rfl := hw1)
            | (go_at_call 90; (with_reducible refine (HG.out _).mono ?_); rintro e w1 ⟨rfl, hw1⟩; obtain rfl := hw1))
  refine bodyPost_ret (v := .int .i64 0) (by simp [results, Tryz.results59, go_sem]) rfl ?_
  exact ⟨by rw [HE.out], hk⟩
theorem rnode_ba (n : Nd) (k : Int) (w : World) (ho : n.op = 14) : Calls Tryz.prog 59 #[ndV n, .int .i64 k] w fun e w' => e = .returned (.int .i64 (nodeE n k)) ∧ Keep NoF w w' := by
  have hk : Keep NoF w (w.alloc (.cells #[.int .i64 n.op, .int .i64 n.i, .int .i64 n.e, .int .i64 n.g, .int .i64 n.x, .int .i64 n.y] 49)) := (Keep.refl _ _).alloc _
  have iO : isOp n.op = true := by simp [isOp]; omega
  have uX : usesX n.op = true := by simp [usesX]; omega
  have uY : usesY n.op = true := by simp [usesY]; omega
  have uF : usesFact n.op = false := by simp [usesFact]; omega
  have uA : usesAgent n.op = true := by simp [usesAgent]; omega
  have uG : usesGroup n.op = false := by simp [usesGroup]; omega
  have uE : usesEvent n.op = false := by simp [usesEvent]; omega
  have HX := Lib.hid fun W => uX ▸ fqUsesX_any n.op W
  have HY := Lib.hid fun W => uY ▸ fqUsesY_any n.op W
  have HA := Lib.hid fun W => uA ▸ fqagent_any n.op W
  have HG := Lib.hid fun W => uG ▸ fqgroup_any n.op W
  have o1 : ¬ n.op < 1 := by omega
  have o2 : ¬ 21 < n.op := by omega
  have o3 : (n.op == 3) = false := by simp; omega
  have o4 : (n.op == 17) = false := by simp; omega
  have o5 : (n.op != 17) = true := by simp; omega
  clear ho
  go_enter Tryz.func59, Tryz.ntmps59
  go_upto_region 3 with (first
          | (go_at_call 87; (with_reducible refine (HX.out _).mono ?_); rintro e w1 ⟨rfl, hw1⟩; obtain rfl := hw1)
          | (go_at_call 88; (with_reducible refine (HY.out _).mono ?_); rintro e w1 ⟨rfl, hw1⟩; obtain rfl := hw1)
          | (go_at_call 89; (with_reducible refine (HA.out _).mono ?_); rintro e w1 ⟨rfl, hw1⟩; obtain rfl := hw1)
          | (go_at_call 90; (with_reducible refine (HG.out _).mono ?_); rintro e w1 ⟨rfl, hw1⟩; obtain rfl := hw1))
  by_cases t1 : n.x < 0
  · have HE : Hid (nodeE n k = 3) := Lib.hid (fne_x iO (by rw [uX]; simp [operandB]; omega))
    go_wp2_with (first
              | (go_at_call 87; (with_reducible refine (HX.out _).mono ?_); rintro e w1 ⟨rfl, hw1⟩; obtain rfl := hw1)
              | (go_at_call 88; (with_reducible refine (HY.out _).mono ?_); rintro e w1 ⟨rfl, hw1⟩; obtain rfl := hw1)
              | (go_at_call 89; (with_reducible refine (HA.out _).mono ?_); rintro e w1 ⟨rfl, hw1⟩; obtain rfl := hw1)
              | (go_at_call 90; (with_reducible refine (HG.out _).mono ?_); rintro e w1 ⟨rfl, hw1⟩; obtain rfl := hw1))
    refine bodyPost_ret (v := .int .i64 3) (by simp [results, Tryz.results59, go_sem]) rfl ?_
    exact ⟨by rw [HE.out], hk⟩
  by_cases t2 : k ≤ n.x
  · have HE : Hid (nodeE n k = 3) := Lib.hid (fne_x iO (by rw [uX]; simp [operandB]; omega))
    go_wp2_with (first
              | (go_at_call 87; (with_reducible refine (HX.out _).mono ?_); rintro e w1 ⟨rfl, hw1⟩; obtain rfl := hw1)
              | (go_at_call 88; (with_reducible refine (HY.out _).mono ?_); rintro e w1 ⟨rfl, hw1⟩; obtain rfl := hw1)
              | (go_at_call 89; (with_reducible refine (HA.out _).mono ?_); rintro e w1 ⟨rfl, hw1⟩; obtain rfl := hw1)
              | (go_at_call 90; (with_reducible refine (HG.out _).mono ?_); rintro e w1 ⟨rfl, hw1⟩; obtain rfl := hw1))
    refine bodyPost_ret (v := .int .i64 3) (by simp [results, Tryz.results59, go_sem]) rfl ?_
    exact ⟨by rw [HE.out], hk⟩
  go_upto_region 5 with (first
          | (go_at_call 87; (with_reducible refine (HX.out _).mono ?_); rintro e w1 ⟨rfl, hw1⟩; obtain rfl := hw1)
          | (go_at_call 88; (with_reducible refine (HY.out _).mono ?_); rintro e w1 ⟨rfl, hw1⟩; obtain rfl := hw1)
          | (go_at_call 89; (with_reducible refine (HA.out _).mono ?_); rintro e w1 ⟨rfl, hw1⟩; obtain rfl := hw1)
          | (go_at_call 90; (with_reducible refine (HG.out _).mono ?_); rintro e w1 ⟨rfl, hw1⟩; obtain rfl := hw1))
  by_cases t3 : n.y < 0
  · have HE : Hid (nodeE n k = 3) := Lib.hid (fne_y iO (by rw [uY]; simp [operandB]; omega))
    go_wp2_with (first
              | (go_at_call 87; (with_reducible refine (HX.out _).mono ?_); rintro e w1 ⟨rfl, hw1⟩; obtain rfl := hw1)
              | (go_at_call 88; (with_reducible refine (HY.out _).mono ?_); rintro e w1 ⟨rfl, hw1⟩; obtain rfl := hw1)
              | (go_at_call 89; (with_reducible refine (HA.out _).mono ?_); rintro e w1 ⟨rfl, hw1⟩; obtain rfl := hw1)
              | (go_at_call 90; (with_reducible refine (HG.out _).mono ?_); rintro e w1 ⟨rfl, hw1⟩; obtain rfl := hw1))
    refine bodyPost_ret (v := .int .i64 3) (by simp [results, Tryz.results59, go_sem]) rfl ?_
    exact ⟨by rw [HE.out], hk⟩
  by_cases t4 : k ≤ n.y
  · have HE : Hid (nodeE n k = 3) := Lib.hid (fne_y iO (by rw [uY]; simp [operandB]; omega))
    go_wp2_with (first
              | (go_at_call 87; (with_reducible refine (HX.out _).mono ?_); rintro e w1 ⟨rfl, hw1⟩; obtain rfl := hw1)
              | (go_at_call 88; (with_reducible refine (HY.out _).mono ?_); rintro e w1 ⟨rfl, hw1⟩; obtain rfl := hw1)
              | (go_at_call 89; (with_reducible refine (HA.out _).mono ?_); rintro e w1 ⟨rfl, hw1⟩; obtain rfl := hw1)
              | (go_at_call 90; (with_reducible refine (HG.out _).mono ?_); rintro e w1 ⟨rfl, hw1⟩; obtain rfl := hw1))
    refine bodyPost_ret (v := .int .i64 3) (by simp [results, Tryz.results59, go_sem]) rfl ?_
    exact ⟨by rw [HE.out], hk⟩
  go_upto_region 8 with (first
          | (go_at_call 87; (with_reducible refine (HX.out _).mono ?_); rintro e w1 ⟨rfl, hw1⟩; obtain rfl := hw1)
          | (go_at_call 88; (with_reducible refine (HY.out _).mono ?_); rintro e w1 ⟨rfl, hw1⟩; obtain rfl := hw1)
          | (go_at_call 89; (with_reducible refine (HA.out _).mono ?_); rintro e w1 ⟨rfl, hw1⟩; obtain rfl := hw1)
          | (go_at_call 90; (with_reducible refine (HG.out _).mono ?_); rintro e w1 ⟨rfl, hw1⟩; obtain rfl := hw1))
  by_cases t5 : n.e ≠ 0
  · have p5 : (n.e != 0) = true := bne_iff_ne.2 t5
    have HE : Hid (nodeE n k = 3) := Lib.hid (fne_z iO (by unfold zeroed; rw [uF, uA, uE, uG]; simp; omega))
    go_wp2_with (first
              | (go_at_call 87; (with_reducible refine (HX.out _).mono ?_); rintro e w1 ⟨rfl, hw1⟩; obtain rfl := hw1)
              | (go_at_call 88; (with_reducible refine (HY.out _).mono ?_); rintro e w1 ⟨rfl, hw1⟩; obtain rfl := hw1)
              | (go_at_call 89; (with_reducible refine (HA.out _).mono ?_); rintro e w1 ⟨rfl, hw1⟩; obtain rfl := hw1)
              | (go_at_call 90; (with_reducible refine (HG.out _).mono ?_); rintro e w1 ⟨rfl, hw1⟩; obtain rfl := hw1))
    refine bodyPost_ret (v := .int .i64 3) (by simp [results, Tryz.results59, go_sem]) rfl ?_
    exact ⟨by rw [HE.out], hk⟩
  have p5 : (n.e != 0) = false := by simpa using t5
  by_cases t6 : n.g ≠ 0
  · have p6 : (n.g != 0) = true := bne_iff_ne.2 t6
    have HE : Hid (nodeE n k = 3) := Lib.hid (fne_z iO (by unfold zeroed; rw [uF, uA, uE, uG]; simp; omega))
    go_wp2_with (first
              | (go_at_call 87; (with_reducible refine (HX.out _).mono ?_); rintro e w1 ⟨rfl, hw1⟩; obtain rfl := hw1)
              | (go_at_call 88; (with_reducible refine (HY.out _).mono ?_); rintro e w1 ⟨rfl, hw1⟩; obtain rfl := hw1)
              | (go_at_call 89; (with_reducible refine (HA.out _).mono ?_); rintro e w1 ⟨rfl, hw1⟩; obtain rfl := hw1)
              | (go_at_call 90; (with_reducible refine (HG.out _).mono ?_); rintro e w1 ⟨rfl, hw1⟩; obtain rfl := hw1))
    refine bodyPost_ret (v := .int .i64 3) (by simp [results, Tryz.results59, go_sem]) rfl ?_
    exact ⟨by rw [HE.out], hk⟩
  have p6 : (n.g != 0) = false := by simpa using t6
  go_upto_region 10 with (first
          | (go_at_call 87; (with_reducible refine (HX.out _).mono ?_); rintro e w1 ⟨rfl, hw1⟩; obtain rfl := hw1)
          | (go_at_call 88; (with_reducible refine (HY.out _).mono ?_); rintro e w1 ⟨rfl, hw1⟩; obtain rfl := hw1)
          | (go_at_call 89; (with_reducible refine (HA.out _).mono ?_); rintro e w1 ⟨rfl, hw1⟩; obtain rfl := hw1)
          | (go_at_call 90; (with_reducible refine (HG.out _).mono ?_); rintro e w1 ⟨rfl, hw1⟩; obtain rfl := hw1))
  by_cases t7 : n.i < 0
  · have HE : Hid (nodeE n k = 2) := Lib.hid (fne_r iO (by rw [uX]; simp [operandB]; omega) (by rw [uY]; simp [operandB]; omega) (by unfold zeroed; rw [uF, uA, uE, uG]; simp; omega) (by unfold ranged within; rw [uF, uA, uE, uG]; simp; omega))
    go_wp2_with (first
              | (go_at_call 87; (with_reducible refine (HX.out _).mono ?_); rintro e w1 ⟨rfl, hw1⟩; obtain rfl := hw1)
              | (go_at_call 88; (with_reducible refine (HY.out _).mono ?_); rintro e w1 ⟨rfl, hw1⟩; obtain rfl := hw1)
              | (go_at_call 89; (with_reducible refine (HA.out _).mono ?_); rintro e w1 ⟨rfl, hw1⟩; obtain rfl := hw1)
              | (go_at_call 90; (with_reducible refine (HG.out _).mono ?_); rintro e w1 ⟨rfl, hw1⟩; obtain rfl := hw1))
    refine bodyPost_ret (v := .int .i64 2) (by simp [results, Tryz.results59, go_sem]) rfl ?_
    exact ⟨by rw [HE.out], hk⟩
  by_cases t8 : 4 ≤ n.i
  · have HE : Hid (nodeE n k = 2) := Lib.hid (fne_r iO (by rw [uX]; simp [operandB]; omega) (by rw [uY]; simp [operandB]; omega) (by unfold zeroed; rw [uF, uA, uE, uG]; simp; omega) (by unfold ranged within; rw [uF, uA, uE, uG]; simp; omega))
    go_wp2_with (first
              | (go_at_call 87; (with_reducible refine (HX.out _).mono ?_); rintro e w1 ⟨rfl, hw1⟩; obtain rfl := hw1)
              | (go_at_call 88; (with_reducible refine (HY.out _).mono ?_); rintro e w1 ⟨rfl, hw1⟩; obtain rfl := hw1)
              | (go_at_call 89; (with_reducible refine (HA.out _).mono ?_); rintro e w1 ⟨rfl, hw1⟩; obtain rfl := hw1)
              | (go_at_call 90; (with_reducible refine (HG.out _).mono ?_); rintro e w1 ⟨rfl, hw1⟩; obtain rfl := hw1))
    refine bodyPost_ret (v := .int .i64 2) (by simp [results, Tryz.results59, go_sem]) rfl ?_
    exact ⟨by rw [HE.out], hk⟩
  have HE : Hid (nodeE n k = 0) := Lib.hid (fne_0 iO (by rw [uX]; simp [operandB]; omega) (by rw [uY]; simp [operandB]; omega) (by unfold zeroed; rw [uF, uA, uE, uG]; simp; omega) (by unfold ranged within; rw [uF, uA, uE, uG]; simp <;> omega))
  go_wp2_with (first
            | (go_at_call 87; (with_reducible refine (HX.out _).mono ?_); rintro e w1 ⟨rfl, hw1⟩; obtain rfl := hw1)
            | (go_at_call 88; (with_reducible refine (HY.out _).mono ?_); rintro e w1 ⟨rfl, hw1⟩; obtain rfl := hw1)
            | (go_at_call 89; (with_reducible refine (HA.out _).mono ?_); rintro e w1 ⟨rfl, hw1⟩; obtain rfl := hw1)
            | (go_at_call 90; (with_reducible refine (HG.out _).mono ?_); rintro e w1 ⟨rfl, hw1⟩; obtain rfl := hw1))
  refine bodyPost_ret (v := .int .i64 0) (by simp [results, Tryz.results59, go_sem]) rfl ?_
  exact ⟨by rw [HE.out], hk⟩
theorem rnode_ug (n : Nd) (k : Int) (w : World) (ho : n.op = 11 ∨ n.op = 12) : Calls Tryz.prog 59 #[ndV n, .int .i64 k] w fun e w' => e = .returned (.int .i64 (nodeE n k)) ∧ Keep NoF w w' := by
  have hk : Keep NoF w (w.alloc (.cells #[.int .i64 n.op, .int .i64 n.i, .int .i64 n.e, .int .i64 n.g, .int .i64 n.x, .int .i64 n.y] 49)) := (Keep.refl _ _).alloc _
  have iO : isOp n.op = true := by simp [isOp]; omega
  have uX : usesX n.op = true := by simp [usesX]; omega
  have uY : usesY n.op = false := by simp [usesY]; omega
  have uF : usesFact n.op = false := by simp [usesFact]; omega
  have uA : usesAgent n.op = false := by simp [usesAgent]; omega
  have uG : usesGroup n.op = true := by simp [usesGroup]; omega
  have uE : usesEvent n.op = false := by simp [usesEvent]; omega
  have HX := Lib.hid fun W => uX ▸ fqUsesX_any n.op W
  have HY := Lib.hid fun W => uY ▸ fqUsesY_any n.op W
  have HA := Lib.hid fun W => uA ▸ fqagent_any n.op W
  have HG := Lib.hid fun W => uG ▸ fqgroup_any n.op W
  have o1 : ¬ n.op < 1 := by omega
  have o2 : ¬ 21 < n.op := by omega
  have o3 : (n.op == 3) = false := by simp; omega
  have o4 : (n.op == 17) = false := by simp; omega
  have o5 : (n.op != 17) = true := by simp; omega
  clear ho
  go_enter Tryz.func59, Tryz.ntmps59
  go_upto_region 3 with (first
          | (go_at_call 87; (with_reducible refine (HX.out _).mono ?_); rintro e w1 ⟨rfl, hw1⟩; obtain rfl := hw1)
          | (go_at_call 88; (with_reducible refine (HY.out _).mono ?_); rintro e w1 ⟨rfl, hw1⟩; obtain rfl := hw1)
          | (go_at_call 89; (with_reducible refine (HA.out _).mono ?_); rintro e w1 ⟨rfl, hw1⟩; obtain rfl := hw1)
          | (go_at_call 90; (with_reducible refine (HG.out _).mono ?_); rintro e w1 ⟨rfl, hw1⟩; obtain rfl := hw1))
  by_cases t1 : n.x < 0
  · have HE : Hid (nodeE n k = 3) := Lib.hid (fne_x iO (by rw [uX]; simp [operandB]; omega))
    go_wp2_with (first
              | (go_at_call 87; (with_reducible refine (HX.out _).mono ?_); rintro e w1 ⟨rfl, hw1⟩; obtain rfl := hw1)
              | (go_at_call 88; (with_reducible refine (HY.out _).mono ?_); rintro e w1 ⟨rfl, hw1⟩; obtain rfl := hw1)
              | (go_at_call 89; (with_reducible refine (HA.out _).mono ?_); rintro e w1 ⟨rfl, hw1⟩; obtain rfl := hw1)
              | (go_at_call 90; (with_reducible refine (HG.out _).mono ?_); rintro e w1 ⟨rfl, hw1⟩; obtain rfl := hw1))
    refine bodyPost_ret (v := .int .i64 3) (by simp [results, Tryz.results59, go_sem]) rfl ?_
    exact ⟨by rw [HE.out], hk⟩
  by_cases t2 : k ≤ n.x
  · have HE : Hid (nodeE n k = 3) := Lib.hid (fne_x iO (by rw [uX]; simp [operandB]; omega))
    go_wp2_with (first
              | (go_at_call 87; (with_reducible refine (HX.out _).mono ?_); rintro e w1 ⟨rfl, hw1⟩; obtain rfl := hw1)
              | (go_at_call 88; (with_reducible refine (HY.out _).mono ?_); rintro e w1 ⟨rfl, hw1⟩; obtain rfl := hw1)
              | (go_at_call 89; (with_reducible refine (HA.out _).mono ?_); rintro e w1 ⟨rfl, hw1⟩; obtain rfl := hw1)
              | (go_at_call 90; (with_reducible refine (HG.out _).mono ?_); rintro e w1 ⟨rfl, hw1⟩; obtain rfl := hw1))
    refine bodyPost_ret (v := .int .i64 3) (by simp [results, Tryz.results59, go_sem]) rfl ?_
    exact ⟨by rw [HE.out], hk⟩
  go_upto_region 5 with (first
          | (go_at_call 87; (with_reducible refine (HX.out _).mono ?_); rintro e w1 ⟨rfl, hw1⟩; obtain rfl := hw1)
          | (go_at_call 88; (with_reducible refine (HY.out _).mono ?_); rintro e w1 ⟨rfl, hw1⟩; obtain rfl := hw1)
          | (go_at_call 89; (with_reducible refine (HA.out _).mono ?_); rintro e w1 ⟨rfl, hw1⟩; obtain rfl := hw1)
          | (go_at_call 90; (with_reducible refine (HG.out _).mono ?_); rintro e w1 ⟨rfl, hw1⟩; obtain rfl := hw1))
  by_cases t3 : n.y ≠ 0
  · have p3 : (n.y != 0) = true := bne_iff_ne.2 t3
    have HE : Hid (nodeE n k = 3) := Lib.hid (fne_y iO (by rw [uY]; simp [operandB]; omega))
    go_wp2_with (first
              | (go_at_call 87; (with_reducible refine (HX.out _).mono ?_); rintro e w1 ⟨rfl, hw1⟩; obtain rfl := hw1)
              | (go_at_call 88; (with_reducible refine (HY.out _).mono ?_); rintro e w1 ⟨rfl, hw1⟩; obtain rfl := hw1)
              | (go_at_call 89; (with_reducible refine (HA.out _).mono ?_); rintro e w1 ⟨rfl, hw1⟩; obtain rfl := hw1)
              | (go_at_call 90; (with_reducible refine (HG.out _).mono ?_); rintro e w1 ⟨rfl, hw1⟩; obtain rfl := hw1))
    refine bodyPost_ret (v := .int .i64 3) (by simp [results, Tryz.results59, go_sem]) rfl ?_
    exact ⟨by rw [HE.out], hk⟩
  have p3 : (n.y != 0) = false := by simpa using t3
  go_upto_region 8 with (first
          | (go_at_call 87; (with_reducible refine (HX.out _).mono ?_); rintro e w1 ⟨rfl, hw1⟩; obtain rfl := hw1)
          | (go_at_call 88; (with_reducible refine (HY.out _).mono ?_); rintro e w1 ⟨rfl, hw1⟩; obtain rfl := hw1)
          | (go_at_call 89; (with_reducible refine (HA.out _).mono ?_); rintro e w1 ⟨rfl, hw1⟩; obtain rfl := hw1)
          | (go_at_call 90; (with_reducible refine (HG.out _).mono ?_); rintro e w1 ⟨rfl, hw1⟩; obtain rfl := hw1))
  by_cases t4 : n.i ≠ 0
  · have p4 : (n.i != 0) = true := bne_iff_ne.2 t4
    have HE : Hid (nodeE n k = 3) := Lib.hid (fne_z iO (by unfold zeroed; rw [uF, uA, uE, uG]; simp; omega))
    go_wp2_with (first
              | (go_at_call 87; (with_reducible refine (HX.out _).mono ?_); rintro e w1 ⟨rfl, hw1⟩; obtain rfl := hw1)
              | (go_at_call 88; (with_reducible refine (HY.out _).mono ?_); rintro e w1 ⟨rfl, hw1⟩; obtain rfl := hw1)
              | (go_at_call 89; (with_reducible refine (HA.out _).mono ?_); rintro e w1 ⟨rfl, hw1⟩; obtain rfl := hw1)
              | (go_at_call 90; (with_reducible refine (HG.out _).mono ?_); rintro e w1 ⟨rfl, hw1⟩; obtain rfl := hw1))
    refine bodyPost_ret (v := .int .i64 3) (by simp [results, Tryz.results59, go_sem]) rfl ?_
    exact ⟨by rw [HE.out], hk⟩
  have p4 : (n.i != 0) = false := by simpa using t4
  by_cases t5 : n.e ≠ 0
  · have p5 : (n.e != 0) = true := bne_iff_ne.2 t5
    have HE : Hid (nodeE n k = 3) := Lib.hid (fne_z iO (by unfold zeroed; rw [uF, uA, uE, uG]; simp; omega))
    go_wp2_with (first
              | (go_at_call 87; (with_reducible refine (HX.out _).mono ?_); rintro e w1 ⟨rfl, hw1⟩; obtain rfl := hw1)
              | (go_at_call 88; (with_reducible refine (HY.out _).mono ?_); rintro e w1 ⟨rfl, hw1⟩; obtain rfl := hw1)
              | (go_at_call 89; (with_reducible refine (HA.out _).mono ?_); rintro e w1 ⟨rfl, hw1⟩; obtain rfl := hw1)
              | (go_at_call 90; (with_reducible refine (HG.out _).mono ?_); rintro e w1 ⟨rfl, hw1⟩; obtain rfl := hw1))
    refine bodyPost_ret (v := .int .i64 3) (by simp [results, Tryz.results59, go_sem]) rfl ?_
    exact ⟨by rw [HE.out], hk⟩
  have p5 : (n.e != 0) = false := by simpa using t5
  go_upto_region 14 with (first
          | (go_at_call 87; (with_reducible refine (HX.out _).mono ?_); rintro e w1 ⟨rfl, hw1⟩; obtain rfl := hw1)
          | (go_at_call 88; (with_reducible refine (HY.out _).mono ?_); rintro e w1 ⟨rfl, hw1⟩; obtain rfl := hw1)
          | (go_at_call 89; (with_reducible refine (HA.out _).mono ?_); rintro e w1 ⟨rfl, hw1⟩; obtain rfl := hw1)
          | (go_at_call 90; (with_reducible refine (HG.out _).mono ?_); rintro e w1 ⟨rfl, hw1⟩; obtain rfl := hw1))
  by_cases t6 : n.g < 1
  · have HE : Hid (nodeE n k = 2) := Lib.hid (fne_r iO (by rw [uX]; simp [operandB]; omega) (by rw [uY]; simp [operandB]; omega) (by unfold zeroed; rw [uF, uA, uE, uG]; simp; omega) (by unfold ranged within; rw [uF, uA, uE, uG]; simp; omega))
    go_wp2_with (first
              | (go_at_call 87; (with_reducible refine (HX.out _).mono ?_); rintro e w1 ⟨rfl, hw1⟩; obtain rfl := hw1)
              | (go_at_call 88; (with_reducible refine (HY.out _).mono ?_); rintro e w1 ⟨rfl, hw1⟩; obtain rfl := hw1)
              | (go_at_call 89; (with_reducible refine (HA.out _).mono ?_); rintro e w1 ⟨rfl, hw1⟩; obtain rfl := hw1)
              | (go_at_call 90; (with_reducible refine (HG.out _).mono ?_); rintro e w1 ⟨rfl, hw1⟩; obtain rfl := hw1))
    refine bodyPost_ret (v := .int .i64 2) (by simp [results, Tryz.results59, go_sem]) rfl ?_
    exact ⟨by rw [HE.out], hk⟩
  by_cases t7 : 16 ≤ n.g
  · have HE : Hid (nodeE n k = 2) := Lib.hid (fne_r iO (by rw [uX]; simp [operandB]; omega) (by rw [uY]; simp [operandB]; omega) (by unfold zeroed; rw [uF, uA, uE, uG]; simp; omega) (by unfold ranged within; rw [uF, uA, uE, uG]; simp; omega))
    go_wp2_with (first
              | (go_at_call 87; (with_reducible refine (HX.out _).mono ?_); rintro e w1 ⟨rfl, hw1⟩; obtain rfl := hw1)
              | (go_at_call 88; (with_reducible refine (HY.out _).mono ?_); rintro e w1 ⟨rfl, hw1⟩; obtain rfl := hw1)
              | (go_at_call 89; (with_reducible refine (HA.out _).mono ?_); rintro e w1 ⟨rfl, hw1⟩; obtain rfl := hw1)
              | (go_at_call 90; (with_reducible refine (HG.out _).mono ?_); rintro e w1 ⟨rfl, hw1⟩; obtain rfl := hw1))
    refine bodyPost_ret (v := .int .i64 2) (by simp [results, Tryz.results59, go_sem]) rfl ?_
    exact ⟨by rw [HE.out], hk⟩
  have HE : Hid (nodeE n k = 0) := Lib.hid (fne_0 iO (by rw [uX]; simp [operandB]; omega) (by rw [uY]; simp [operandB]; omega) (by unfold zeroed; rw [uF, uA, uE, uG]; simp; omega) (by unfold ranged within; rw [uF, uA, uE, uG]; simp <;> omega))
  go_wp2_with (first
            | (go_at_call 87; (with_reducible refine (HX.out _).mono ?_); rintro e w1 ⟨rfl, hw1⟩; obtain rfl := hw1)
            | (go_at_call 88; (with_reducible refine (HY.out _).mono ?_); rintro e w1 ⟨rfl, hw1⟩; obtain rfl := hw1)
            | (go_at_call 89; (with_reducible refine (HA.out _).mono ?_); rintro e w1 ⟨rfl, hw1⟩; obtain rfl := hw1)
            | (go_at_call 90; (with_reducible refine (HG.out _).mono ?_); rintro e w1 ⟨rfl, hw1⟩; obtain rfl := hw1))
  refine bodyPost_ret (v := .int .i64 0) (by simp [results, Tryz.results59, go_sem]) rfl ?_
  exact ⟨by rw [HE.out], hk⟩
theorem rnode_bg (n : Nd) (k : Int) (w : World) (ho : n.op = 13) : Calls Tryz.prog 59 #[ndV n, .int .i64 k] w fun e w' => e = .returned (.int .i64 (nodeE n k)) ∧ Keep NoF w w' := by
  have hk : Keep NoF w (w.alloc (.cells #[.int .i64 n.op, .int .i64 n.i, .int .i64 n.e, .int .i64 n.g, .int .i64 n.x, .int .i64 n.y] 49)) := (Keep.refl _ _).alloc _
  have iO : isOp n.op = true := by simp [isOp]; omega
  have uX : usesX n.op = true := by simp [usesX]; omega
  have uY : usesY n.op = true := by simp [usesY]; omega
  have uF : usesFact n.op = false := by simp [usesFact]; omega
  have uA : usesAgent n.op = false := by simp [usesAgent]; omega
  have uG : usesGroup n.op = true := by simp [usesGroup]; omega
  have uE : usesEvent n.op = false := by simp [usesEvent]; omega
  have HX := Lib.hid fun W => uX ▸ fqUsesX_any n.op W
  have HY := Lib.hid fun W => uY ▸ fqUsesY_any n.op W
  have HA := Lib.hid fun W => uA ▸ fqagent_any n.op W
  have HG := Lib.hid fun W => uG ▸ fqgroup_any n.op W
  have o1 : ¬ n.op < 1 := by omega
  have o2 : ¬ 21 < n.op := by omega
  have o3 : (n.op == 3) = false := by simp; omega
  have o4 : (n.op == 17) = false := by simp; omega
  have o5 : (n.op != 17) = true := by simp; omega
  clear ho
  go_enter Tryz.func59, Tryz.ntmps59
  go_upto_region 3 with (first
          | (go_at_call 87; (with_reducible refine (HX.out _).mono ?_); rintro e w1 ⟨rfl, hw1⟩; obtain rfl := hw1)
          | (go_at_call 88; (with_reducible refine (HY.out _).mono ?_); rintro e w1 ⟨rfl, hw1⟩; obtain rfl := hw1)
          | (go_at_call 89; (with_reducible refine (HA.out _).mono ?_); rintro e w1 ⟨rfl, hw1⟩; obtain rfl := hw1)
          | (go_at_call 90; (with_reducible refine (HG.out _).mono ?_); rintro e w1 ⟨rfl, hw1⟩; obtain rfl := hw1))
  by_cases t1 : n.x < 0
  · have HE : Hid (nodeE n k = 3) := Lib.hid (fne_x iO (by rw [uX]; simp [operandB]; omega))
    go_wp2_with (first
              | (go_at_call 87; (with_reducible refine (HX.out _).mono ?_); rintro e w1 ⟨rfl, hw1⟩; obtain rfl := hw1)
              | (go_at_call 88; (with_reducible refine (HY.out _).mono ?_); rintro e w1 ⟨rfl, hw1⟩; obtain rfl := hw1)
              | (go_at_call 89; (with_reducible refine (HA.out _).mono ?_); rintro e w1 ⟨rfl, hw1⟩; obtain rfl := hw1)
              | (go_at_call 90; (with_reducible refine (HG.out _).mono ?_); rintro e w1 ⟨rfl, hw1⟩; obtain rfl := hw1))
    refine bodyPost_ret (v := .int .i64 3) (by simp [results, Tryz.results59, go_sem]) rfl ?_
    exact ⟨by rw [HE.out], hk⟩
  by_cases t2 : k ≤ n.x
  · have HE : Hid (nodeE n k = 3) := Lib.hid (fne_x iO (by rw [uX]; simp [operandB]; omega))
    go_wp2_with (first
              | (go_at_call 87; (with_reducible refine (HX.out _).mono ?_); rintro e w1 ⟨rfl, hw1⟩; obtain rfl := hw1)
              | (go_at_call 88; (with_reducible refine (HY.out _).mono ?_); rintro e w1 ⟨rfl, hw1⟩; obtain rfl := hw1)
              | (go_at_call 89; (with_reducible refine (HA.out _).mono ?_); rintro e w1 ⟨rfl, hw1⟩; obtain rfl := hw1)
              | (go_at_call 90; (with_reducible refine (HG.out _).mono ?_); rintro e w1 ⟨rfl, hw1⟩; obtain rfl := hw1))
    refine bodyPost_ret (v := .int .i64 3) (by simp [results, Tryz.results59, go_sem]) rfl ?_
    exact ⟨by rw [HE.out], hk⟩
  go_upto_region 5 with (first
          | (go_at_call 87; (with_reducible refine (HX.out _).mono ?_); rintro e w1 ⟨rfl, hw1⟩; obtain rfl := hw1)
          | (go_at_call 88; (with_reducible refine (HY.out _).mono ?_); rintro e w1 ⟨rfl, hw1⟩; obtain rfl := hw1)
          | (go_at_call 89; (with_reducible refine (HA.out _).mono ?_); rintro e w1 ⟨rfl, hw1⟩; obtain rfl := hw1)
          | (go_at_call 90; (with_reducible refine (HG.out _).mono ?_); rintro e w1 ⟨rfl, hw1⟩; obtain rfl := hw1))
  by_cases t3 : n.y < 0
  · have HE : Hid (nodeE n k = 3) := Lib.hid (fne_y iO (by rw [uY]; simp [operandB]; omega))
    go_wp2_with (first
              | (go_at_call 87; (with_reducible refine (HX.out _).mono ?_); rintro e w1 ⟨rfl, hw1⟩; obtain rfl := hw1)
              | (go_at_call 88; (with_reducible refine (HY.out _).mono ?_); rintro e w1 ⟨rfl, hw1⟩; obtain rfl := hw1)
              | (go_at_call 89; (with_reducible refine (HA.out _).mono ?_); rintro e w1 ⟨rfl, hw1⟩; obtain rfl := hw1)
              | (go_at_call 90; (with_reducible refine (HG.out _).mono ?_); rintro e w1 ⟨rfl, hw1⟩; obtain rfl := hw1))
    refine bodyPost_ret (v := .int .i64 3) (by simp [results, Tryz.results59, go_sem]) rfl ?_
    exact ⟨by rw [HE.out], hk⟩
  by_cases t4 : k ≤ n.y
  · have HE : Hid (nodeE n k = 3) := Lib.hid (fne_y iO (by rw [uY]; simp [operandB]; omega))
    go_wp2_with (first
              | (go_at_call 87; (with_reducible refine (HX.out _).mono ?_); rintro e w1 ⟨rfl, hw1⟩; obtain rfl := hw1)
              | (go_at_call 88; (with_reducible refine (HY.out _).mono ?_); rintro e w1 ⟨rfl, hw1⟩; obtain rfl := hw1)
              | (go_at_call 89; (with_reducible refine (HA.out _).mono ?_); rintro e w1 ⟨rfl, hw1⟩; obtain rfl := hw1)
              | (go_at_call 90; (with_reducible refine (HG.out _).mono ?_); rintro e w1 ⟨rfl, hw1⟩; obtain rfl := hw1))
    refine bodyPost_ret (v := .int .i64 3) (by simp [results, Tryz.results59, go_sem]) rfl ?_
    exact ⟨by rw [HE.out], hk⟩
  go_upto_region 8 with (first
          | (go_at_call 87; (with_reducible refine (HX.out _).mono ?_); rintro e w1 ⟨rfl, hw1⟩; obtain rfl := hw1)
          | (go_at_call 88; (with_reducible refine (HY.out _).mono ?_); rintro e w1 ⟨rfl, hw1⟩; obtain rfl := hw1)
          | (go_at_call 89; (with_reducible refine (HA.out _).mono ?_); rintro e w1 ⟨rfl, hw1⟩; obtain rfl := hw1)
          | (go_at_call 90; (with_reducible refine (HG.out _).mono ?_); rintro e w1 ⟨rfl, hw1⟩; obtain rfl := hw1))
  by_cases t5 : n.i ≠ 0
  · have p5 : (n.i != 0) = true := bne_iff_ne.2 t5
    have HE : Hid (nodeE n k = 3) := Lib.hid (fne_z iO (by unfold zeroed; rw [uF, uA, uE, uG]; simp; omega))
    go_wp2_with (first
              | (go_at_call 87; (with_reducible refine (HX.out _).mono ?_); rintro e w1 ⟨rfl, hw1⟩; obtain rfl := hw1)
              | (go_at_call 88; (with_reducible refine (HY.out _).mono ?_); rintro e w1 ⟨rfl, hw1⟩; obtain rfl := hw1)
              | (go_at_call 89; (with_reducible refine (HA.out _).mono ?_); rintro e w1 ⟨rfl, hw1⟩; obtain rfl := hw1)
              | (go_at_call 90; (with_reducible refine (HG.out _).mono ?_); rintro e w1 ⟨rfl, hw1⟩; obtain rfl := hw1))
    refine bodyPost_ret (v := .int .i64 3) (by simp [results, Tryz.results59, go_sem]) rfl ?_
    exact ⟨by rw [HE.out], hk⟩
  have p5 : (n.i != 0) = false := by simpa using t5
  by_cases t6 : n.e ≠ 0
  · have p6 : (n.e != 0) = true := bne_iff_ne.2 t6
    have HE : Hid (nodeE n k = 3) := Lib.hid (fne_z iO (by unfold zeroed; rw [uF, uA, uE, uG]; simp; omega))
    go_wp2_with (first
              | (go_at_call 87; (with_reducible refine (HX.out _).mono ?_); rintro e w1 ⟨rfl, hw1⟩; obtain rfl := hw1)
              | (go_at_call 88; (with_reducible refine (HY.out _).mono ?_); rintro e w1 ⟨rfl, hw1⟩; obtain rfl := hw1)
              | (go_at_call 89; (with_reducible refine (HA.out _).mono ?_); rintro e w1 ⟨rfl, hw1⟩; obtain rfl := hw1)
              | (go_at_call 90; (with_reducible refine (HG.out _).mono ?_); rintro e w1 ⟨rfl, hw1⟩; obtain rfl := hw1))
    refine bodyPost_ret (v := .int .i64 3) (by simp [results, Tryz.results59, go_sem]) rfl ?_
    exact ⟨by rw [HE.out], hk⟩
  have p6 : (n.e != 0) = false := by simpa using t6
  go_upto_region 14 with (first
          | (go_at_call 87; (with_reducible refine (HX.out _).mono ?_); rintro e w1 ⟨rfl, hw1⟩; obtain rfl := hw1)
          | (go_at_call 88; (with_reducible refine (HY.out _).mono ?_); rintro e w1 ⟨rfl, hw1⟩; obtain rfl := hw1)
          | (go_at_call 89; (with_reducible refine (HA.out _).mono ?_); rintro e w1 ⟨rfl, hw1⟩; obtain rfl := hw1)
          | (go_at_call 90; (with_reducible refine (HG.out _).mono ?_); rintro e w1 ⟨rfl, hw1⟩; obtain rfl := hw1))
  by_cases t7 : n.g < 1
  · have HE : Hid (nodeE n k = 2) := Lib.hid (fne_r iO (by rw [uX]; simp [operandB]; omega) (by rw [uY]; simp [operandB]; omega) (by unfold zeroed; rw [uF, uA, uE, uG]; simp; omega) (by unfold ranged within; rw [uF, uA, uE, uG]; simp; omega))
    go_wp2_with (first
              | (go_at_call 87; (with_reducible refine (HX.out _).mono ?_); rintro e w1 ⟨rfl, hw1⟩; obtain rfl := hw1)
              | (go_at_call 88; (with_reducible refine (HY.out _).mono ?_); rintro e w1 ⟨rfl, hw1⟩; obtain rfl := hw1)
              | (go_at_call 89; (with_reducible refine (HA.out _).mono ?_); rintro e w1 ⟨rfl, hw1⟩; obtain rfl := hw1)
              | (go_at_call 90; (with_reducible refine (HG.out _).mono ?_); rintro e w1 ⟨rfl, hw1⟩; obtain rfl := hw1))
    refine bodyPost_ret (v := .int .i64 2) (by simp [results, Tryz.results59, go_sem]) rfl ?_
    exact ⟨by rw [HE.out], hk⟩
  by_cases t8 : 16 ≤ n.g
  · have HE : Hid (nodeE n k = 2) := Lib.hid (fne_r iO (by rw [uX]; simp [operandB]; omega) (by rw [uY]; simp [operandB]; omega) (by unfold zeroed; rw [uF, uA, uE, uG]; simp; omega) (by unfold ranged within; rw [uF, uA, uE, uG]; simp; omega))
    go_wp2_with (first
              | (go_at_call 87; (with_reducible refine (HX.out _).mono ?_); rintro e w1 ⟨rfl, hw1⟩; obtain rfl := hw1)
              | (go_at_call 88; (with_reducible refine (HY.out _).mono ?_); rintro e w1 ⟨rfl, hw1⟩; obtain rfl := hw1)
              | (go_at_call 89; (with_reducible refine (HA.out _).mono ?_); rintro e w1 ⟨rfl, hw1⟩; obtain rfl := hw1)
              | (go_at_call 90; (with_reducible refine (HG.out _).mono ?_); rintro e w1 ⟨rfl, hw1⟩; obtain rfl := hw1))
    refine bodyPost_ret (v := .int .i64 2) (by simp [results, Tryz.results59, go_sem]) rfl ?_
    exact ⟨by rw [HE.out], hk⟩
  have HE : Hid (nodeE n k = 0) := Lib.hid (fne_0 iO (by rw [uX]; simp [operandB]; omega) (by rw [uY]; simp [operandB]; omega) (by unfold zeroed; rw [uF, uA, uE, uG]; simp; omega) (by unfold ranged within; rw [uF, uA, uE, uG]; simp <;> omega))
  go_wp2_with (first
            | (go_at_call 87; (with_reducible refine (HX.out _).mono ?_); rintro e w1 ⟨rfl, hw1⟩; obtain rfl := hw1)
            | (go_at_call 88; (with_reducible refine (HY.out _).mono ?_); rintro e w1 ⟨rfl, hw1⟩; obtain rfl := hw1)
            | (go_at_call 89; (with_reducible refine (HA.out _).mono ?_); rintro e w1 ⟨rfl, hw1⟩; obtain rfl := hw1)
            | (go_at_call 90; (with_reducible refine (HG.out _).mono ?_); rintro e w1 ⟨rfl, hw1⟩; obtain rfl := hw1))
  refine bodyPost_ret (v := .int .i64 0) (by simp [results, Tryz.results59, go_sem]) rfl ?_
  exact ⟨by rw [HE.out], hk⟩
theorem rnode_ac (n : Nd) (k : Int) (w : World) (ho : n.op = 17) : Calls Tryz.prog 59 #[ndV n, .int .i64 k] w fun e w' => e = .returned (.int .i64 (nodeE n k)) ∧ Keep NoF w w' := by
  have hk : Keep NoF w (w.alloc (.cells #[.int .i64 n.op, .int .i64 n.i, .int .i64 n.e, .int .i64 n.g, .int .i64 n.x, .int .i64 n.y] 49)) := (Keep.refl _ _).alloc _
  have iO : isOp n.op = true := by simp [isOp]; omega
  have uX : usesX n.op = true := by simp [usesX]; omega
  have uY : usesY n.op = false := by simp [usesY]; omega
  have uF : usesFact n.op = false := by simp [usesFact]; omega
  have uA : usesAgent n.op = false := by simp [usesAgent]; omega
  have uG : usesGroup n.op = false := by simp [usesGroup]; omega
  have uE : usesEvent n.op = true := by simp [usesEvent]; omega
  have HX := Lib.hid fun W => uX ▸ fqUsesX_any n.op W
  have HY := Lib.hid fun W => uY ▸ fqUsesY_any n.op W
  have HA := Lib.hid fun W => uA ▸ fqagent_any n.op W
  have HG := Lib.hid fun W => uG ▸ fqgroup_any n.op W
  have o1 : ¬ n.op < 1 := by omega
  have o2 : ¬ 21 < n.op := by omega
  have o3 : (n.op == 3) = false := by simp; omega
  have o4 : (n.op == 17) = true := by simp; omega
  have o5 : (n.op != 17) = false := by simp; omega
  clear ho
  go_enter Tryz.func59, Tryz.ntmps59
  go_upto_region 3 with (first
          | (go_at_call 87; (with_reducible refine (HX.out _).mono ?_); rintro e w1 ⟨rfl, hw1⟩; obtain rfl := hw1)
          | (go_at_call 88; (with_reducible refine (HY.out _).mono ?_); rintro e w1 ⟨rfl, hw1⟩; obtain rfl := hw1)
          | (go_at_call 89; (with_reducible refine (HA.out _).mono ?_); rintro e w1 ⟨rfl, hw1⟩; obtain rfl := hw1)
          | (go_at_call 90; (with_reducible refine (HG.out _).mono ?_); rintro e w1 ⟨rfl, hw1⟩; obtain rfl := hw1))
  by_cases t1 : n.x < 0
  · have HE : Hid (nodeE n k = 3) := Lib.hid (fne_x iO (by rw [uX]; simp [operandB]; omega))
    go_wp2_with (first
              | (go_at_call 87; (with_reducible refine (HX.out _).mono ?_); rintro e w1 ⟨rfl, hw1⟩; obtain rfl := hw1)
              | (go_at_call 88; (with_reducible refine (HY.out _).mono ?_); rintro e w1 ⟨rfl, hw1⟩; obtain rfl := hw1)
              | (go_at_call 89; (with_reducible refine (HA.out _).mono ?_); rintro e w1 ⟨rfl, hw1⟩; obtain rfl := hw1)
              | (go_at_call 90; (with_reducible refine (HG.out _).mono ?_); rintro e w1 ⟨rfl, hw1⟩; obtain rfl := hw1))
    refine bodyPost_ret (v := .int .i64 3) (by simp [results, Tryz.results59, go_sem]) rfl ?_
    exact ⟨by rw [HE.out], hk⟩
  by_cases t2 : k ≤ n.x
  · have HE : Hid (nodeE n k = 3) := Lib.hid (fne_x iO (by rw [uX]; simp [operandB]; omega))
    go_wp2_with (first
              | (go_at_call 87; (with_reducible refine (HX.out _).mono ?_); rintro e w1 ⟨rfl, hw1⟩; obtain rfl := hw1)
              | (go_at_call 88; (with_reducible refine (HY.out _).mono ?_); rintro e w1 ⟨rfl, hw1⟩; obtain rfl := hw1)
              | (go_at_call 89; (with_reducible refine (HA.out _).mono ?_); rintro e w1 ⟨rfl, hw1⟩; obtain rfl := hw1)
              | (go_at_call 90; (with_reducible refine (HG.out _).mono ?_); rintro e w1 ⟨rfl, hw1⟩; obtain rfl := hw1))
    refine bodyPost_ret (v := .int .i64 3) (by simp [results, Tryz.results59, go_sem]) rfl ?_
    exact ⟨by rw [HE.out], hk⟩
  go_upto_region 5 with (first
          | (go_at_call 87; (with_reducible refine (HX.out _).mono ?_); rintro e w1 ⟨rfl, hw1⟩; obtain rfl := hw1)
          | (go_at_call 88; (with_reducible refine (HY.out _).mono ?_); rintro e w1 ⟨rfl, hw1⟩; obtain rfl := hw1)
          | (go_at_call 89; (with_reducible refine (HA.out _).mono ?_); rintro e w1 ⟨rfl, hw1⟩; obtain rfl := hw1)
          | (go_at_call 90; (with_reducible refine (HG.out _).mono ?_); rintro e w1 ⟨rfl, hw1⟩; obtain rfl := hw1))
  by_cases t3 : n.y ≠ 0
  · have p3 : (n.y != 0) = true := bne_iff_ne.2 t3
    have HE : Hid (nodeE n k = 3) := Lib.hid (fne_y iO (by rw [uY]; simp [operandB]; omega))
    go_wp2_with (first
              | (go_at_call 87; (with_reducible refine (HX.out _).mono ?_); rintro e w1 ⟨rfl, hw1⟩; obtain rfl := hw1)
              | (go_at_call 88; (with_reducible refine (HY.out _).mono ?_); rintro e w1 ⟨rfl, hw1⟩; obtain rfl := hw1)
              | (go_at_call 89; (with_reducible refine (HA.out _).mono ?_); rintro e w1 ⟨rfl, hw1⟩; obtain rfl := hw1)
              | (go_at_call 90; (with_reducible refine (HG.out _).mono ?_); rintro e w1 ⟨rfl, hw1⟩; obtain rfl := hw1))
    refine bodyPost_ret (v := .int .i64 3) (by simp [results, Tryz.results59, go_sem]) rfl ?_
    exact ⟨by rw [HE.out], hk⟩
  have p3 : (n.y != 0) = false := by simpa using t3
  go_upto_region 8 with (first
          | (go_at_call 87; (with_reducible refine (HX.out _).mono ?_); rintro e w1 ⟨rfl, hw1⟩; obtain rfl := hw1)
          | (go_at_call 88; (with_reducible refine (HY.out _).mono ?_); rintro e w1 ⟨rfl, hw1⟩; obtain rfl := hw1)
          | (go_at_call 89; (with_reducible refine (HA.out _).mono ?_); rintro e w1 ⟨rfl, hw1⟩; obtain rfl := hw1)
          | (go_at_call 90; (with_reducible refine (HG.out _).mono ?_); rintro e w1 ⟨rfl, hw1⟩; obtain rfl := hw1))
  by_cases t4 : n.g ≠ 0
  · have p4 : (n.g != 0) = true := bne_iff_ne.2 t4
    have HE : Hid (nodeE n k = 3) := Lib.hid (fne_z iO (by unfold zeroed; rw [uF, uA, uE, uG]; simp; omega))
    go_wp2_with (first
              | (go_at_call 87; (with_reducible refine (HX.out _).mono ?_); rintro e w1 ⟨rfl, hw1⟩; obtain rfl := hw1)
              | (go_at_call 88; (with_reducible refine (HY.out _).mono ?_); rintro e w1 ⟨rfl, hw1⟩; obtain rfl := hw1)
              | (go_at_call 89; (with_reducible refine (HA.out _).mono ?_); rintro e w1 ⟨rfl, hw1⟩; obtain rfl := hw1)
              | (go_at_call 90; (with_reducible refine (HG.out _).mono ?_); rintro e w1 ⟨rfl, hw1⟩; obtain rfl := hw1))
    refine bodyPost_ret (v := .int .i64 3) (by simp [results, Tryz.results59, go_sem]) rfl ?_
    exact ⟨by rw [HE.out], hk⟩
  have p4 : (n.g != 0) = false := by simpa using t4
  go_upto_region 12 with (first
          | (go_at_call 87; (with_reducible refine (HX.out _).mono ?_); rintro e w1 ⟨rfl, hw1⟩; obtain rfl := hw1)
          | (go_at_call 88; (with_reducible refine (HY.out _).mono ?_); rintro e w1 ⟨rfl, hw1⟩; obtain rfl := hw1)
          | (go_at_call 89; (with_reducible refine (HA.out _).mono ?_); rintro e w1 ⟨rfl, hw1⟩; obtain rfl := hw1)
          | (go_at_call 90; (with_reducible refine (HG.out _).mono ?_); rintro e w1 ⟨rfl, hw1⟩; obtain rfl := hw1))
  by_cases t5 : n.i < 0
  · have HE : Hid (nodeE n k = 2) := Lib.hid (fne_r iO (by rw [uX]; simp [operandB]; omega) (by rw [uY]; simp [operandB]; omega) (by unfold zeroed; rw [uF, uA, uE, uG]; simp; omega) (by unfold ranged within; rw [uF, uA, uE, uG]; simp; omega))
    go_wp2_with (first
              | (go_at_call 87; (with_reducible refine (HX.out _).mono ?_); rintro e w1 ⟨rfl, hw1⟩; obtain rfl := hw1)
              | (go_at_call 88; (with_reducible refine (HY.out _).mono ?_); rintro e w1 ⟨rfl, hw1⟩; obtain rfl := hw1)
              | (go_at_call 89; (with_reducible refine (HA.out _).mono ?_); rintro e w1 ⟨rfl, hw1⟩; obtain rfl := hw1)
              | (go_at_call 90; (with_reducible refine (HG.out _).mono ?_); rintro e w1 ⟨rfl, hw1⟩; obtain rfl := hw1))
    refine bodyPost_ret (v := .int .i64 2) (by simp [results, Tryz.results59, go_sem]) rfl ?_
    exact ⟨by rw [HE.out], hk⟩
  by_cases t6 : 8 ≤ n.i
  · have HE : Hid (nodeE n k = 2) := Lib.hid (fne_r iO (by rw [uX]; simp [operandB]; omega) (by rw [uY]; simp [operandB]; omega) (by unfold zeroed; rw [uF, uA, uE, uG]; simp; omega) (by unfold ranged within; rw [uF, uA, uE, uG]; simp; omega))
    go_wp2_with (first
              | (go_at_call 87; (with_reducible refine (HX.out _).mono ?_); rintro e w1 ⟨rfl, hw1⟩; obtain rfl := hw1)
              | (go_at_call 88; (with_reducible refine (HY.out _).mono ?_); rintro e w1 ⟨rfl, hw1⟩; obtain rfl := hw1)
              | (go_at_call 89; (with_reducible refine (HA.out _).mono ?_); rintro e w1 ⟨rfl, hw1⟩; obtain rfl := hw1)
              | (go_at_call 90; (with_reducible refine (HG.out _).mono ?_); rintro e w1 ⟨rfl, hw1⟩; obtain rfl := hw1))
    refine bodyPost_ret (v := .int .i64 2) (by simp [results, Tryz.results59, go_sem]) rfl ?_
    exact ⟨by rw [HE.out], hk⟩
  by_cases t7 : n.e < 0
  · have HE : Hid (nodeE n k = 2) := Lib.hid (fne_r iO (by rw [uX]; simp [operandB]; omega) (by rw [uY]; simp [operandB]; omega) (by unfold zeroed; rw [uF, uA, uE, uG]; simp; omega) (by unfold ranged within; rw [uF, uA, uE, uG]; simp; omega))
    go_wp2_with (first
              | (go_at_call 87; (with_reducible refine (HX.out _).mono ?_); rintro e w1 ⟨rfl, hw1⟩; obtain rfl := hw1)
              | (go_at_call 88; (with_reducible refine (HY.out _).mono ?_); rintro e w1 ⟨rfl, hw1⟩; obtain rfl := hw1)
              | (go_at_call 89; (with_reducible refine (HA.out _).mono ?_); rintro e w1 ⟨rfl, hw1⟩; obtain rfl := hw1)
              | (go_at_call 90; (with_reducible refine (HG.out _).mono ?_); rintro e w1 ⟨rfl, hw1⟩; obtain rfl := hw1))
    refine bodyPost_ret (v := .int .i64 2) (by simp [results, Tryz.results59, go_sem]) rfl ?_
    exact ⟨by rw [HE.out], hk⟩
  by_cases t8 : 8 ≤ n.e
  · have HE : Hid (nodeE n k = 2) := Lib.hid (fne_r iO (by rw [uX]; simp [operandB]; omega) (by rw [uY]; simp [operandB]; omega) (by unfold zeroed; rw [uF, uA, uE, uG]; simp; omega) (by unfold ranged within; rw [uF, uA, uE, uG]; simp; omega))
    go_wp2_with (first
              | (go_at_call 87; (with_reducible refine (HX.out _).mono ?_); rintro e w1 ⟨rfl, hw1⟩; obtain rfl := hw1)
              | (go_at_call 88; (with_reducible refine (HY.out _).mono ?_); rintro e w1 ⟨rfl, hw1⟩; obtain rfl := hw1)
              | (go_at_call 89; (with_reducible refine (HA.out _).mono ?_); rintro e w1 ⟨rfl, hw1⟩; obtain rfl := hw1)
              | (go_at_call 90; (with_reducible refine (HG.out _).mono ?_); rintro e w1 ⟨rfl, hw1⟩; obtain rfl := hw1))
    refine bodyPost_ret (v := .int .i64 2) (by simp [results, Tryz.results59, go_sem]) rfl ?_
    exact ⟨by rw [HE.out], hk⟩
  have HE : Hid (nodeE n k = 0) := Lib.hid (fne_0 iO (by rw [uX]; simp [operandB]; omega) (by rw [uY]; simp [operandB]; omega) (by unfold zeroed; rw [uF, uA, uE, uG]; simp; omega) (by unfold ranged within; rw [uF, uA, uE, uG]; simp <;> omega))
  go_wp2_with (first
            | (go_at_call 87; (with_reducible refine (HX.out _).mono ?_); rintro e w1 ⟨rfl, hw1⟩; obtain rfl := hw1)
            | (go_at_call 88; (with_reducible refine (HY.out _).mono ?_); rintro e w1 ⟨rfl, hw1⟩; obtain rfl := hw1)
            | (go_at_call 89; (with_reducible refine (HA.out _).mono ?_); rintro e w1 ⟨rfl, hw1⟩; obtain rfl := hw1)
            | (go_at_call 90; (with_reducible refine (HG.out _).mono ?_); rintro e w1 ⟨rfl, hw1⟩; obtain rfl := hw1))
  refine bodyPost_ret (v := .int .i64 0) (by simp [results, Tryz.results59, go_sem]) rfl ?_
  exact ⟨by rw [HE.out], hk⟩
theorem rnode_any (n : Nd) (k : Int) (w : World) : Calls Tryz.prog 59 #[ndV n, .int .i64 k] w fun e w' => e = .returned (.int .i64 (nodeE n k)) ∧ Keep NoF w w' := by
  by_cases h : 1 ≤ n.op ∧ n.op ≤ 21
  · have h9 : (n.op = 1 ∨ n.op = 2) ∨ (n.op = 3) ∨ (n.op = 4 ∨ n.op = 18 ∨ n.op = 20) ∨ (n.op = 5 ∨ n.op = 6 ∨ n.op = 7 ∨ n.op = 8 ∨ n.op = 16 ∨ n.op = 19 ∨ n.op = 21) ∨ (n.op = 9 ∨ n.op = 10 ∨ n.op = 15) ∨ (n.op = 14) ∨ (n.op = 11 ∨ n.op = 12) ∨ (n.op = 13) ∨ (n.op = 17) := by omega
    rcases h9 with h | h | h | h | h | h | h | h | h
    · exact rnode_lf n k w h
    · exact rnode_ft n k w h
    · exact rnode_un n k w h
    · exact rnode_bi n k w h
    · exact rnode_ua n k w h
    · exact rnode_ba n k w h
    · exact rnode_ug n k w h
    · exact rnode_bg n k w h
    · exact rnode_ac n k w h
  · have hk : Keep NoF w (w.alloc (.cells #[.int .i64 n.op, .int .i64 n.i, .int .i64 n.e, .int .i64 n.g, .int .i64 n.x, .int .i64 n.y] 49)) := (Keep.refl _ _).alloc _
    have HE : Hid (nodeE n k = 10) := Lib.hid (fne_o (by simp [isOp]; omega))
    by_cases h1 : n.op < 1
    · clear h
      go_enter Tryz.func59, Tryz.ntmps59
      go_wp2
      refine bodyPost_ret (v := .int .i64 10) (by simp [results, Tryz.results59, go_sem]) rfl ?_
      exact ⟨by rw [HE.out], hk⟩
    · have h2 : 21 < n.op := by omega
      clear h
      go_enter Tryz.func59, Tryz.ntmps59
      go_wp2
      refine bodyPost_ret (v := .int .i64 10) (by simp [results, Tryz.results59, go_sem]) rfl ?_
      exact ⟨by rw [HE.out], hk⟩
end
end Go.Proofs.YtbidfbojealmlaaGreatDoor
namespace Go.Proofs.YtbidfbojealmlaaGreatDoor
open Go.RowKit
open Fm (Nd nodeE nodesE checkE)
section
set_option maxRecDepth 100000
set_option maxHeartbeats 4000000
theorem fqCheck_any (l : List Nd) (A : Option Addr) (c : Nat) (w : World) (hll : l.length ≤ 9223372036854775807) (hrd : Rd w (.slice A l.length c) 6 l.length (fmC l)) : Calls Tryz.prog 31 #[.slice A l.length c] w fun e w' => e = .returned (.int .i64 (checkE l)) ∧ Keep NoF w w' := by
  by_cases h0 : l.length = 0
  · have e0 : checkE l = 3 := by unfold checkE; rw [if_pos h0]
    have e1 : ((l.length : Int) == 0) = true := by rw [h0]; rfl
    rw [e0]
    generalize l.length = n at *
    go_enter Tryz.func31, Tryz.ntmps31
    go_wp2
    go_ret
    exact ⟨rfl, Keep.refl _ _⟩
  · by_cases h1 : 200 < l.length
    · have e0 : checkE l = 8 := by unfold checkE; rw [if_neg h0, if_pos h1]
      have e1 : ((l.length : Int) == 0) = false := beq_eq_false_iff_ne.2 (by omega)
      have e2 : (200 : Int) < (l.length : Int) := by omega
      rw [e0]
      generalize l.length = n at *
      go_enter Tryz.func31, Tryz.ntmps31
      go_wp2
      go_ret
      exact ⟨rfl, Keep.refl _ _⟩
    · have e0 : checkE l = nodesE l 0 := by unfold checkE; rw [if_neg h0, if_neg h1]
      have e1 : ((l.length : Int) == 0) = false := beq_eq_false_iff_ne.2 (by omega)
      have e2 : ¬ (200 : Int) < (l.length : Int) := by omega
      rw [e0]
      have HR : Hid (nodesE (l.drop 0) 0 = nodesE l 0) := Lib.hid rfl
      generalize nodesE l 0 = r at *
      clear e0
      go_enter Tryz.func31, Tryz.ntmps31
      go_wp2
      go_loopw [3] (fun i wr => ∃ j : Nat, i = .int .i64 j ∧ j ≤ l.length ∧ Hid (nodesE (l.drop j) j = r) ∧ Keep NoF w wr) (fun i _ => l.length - (intOf i).toNat)
      case atStart => exact ⟨0, rfl, by omega, HR, Keep.refl _ _⟩
      case round =>
        obtain ⟨j, rfl, hj, hr, hk⟩ := hrel
        by_cases hlt : j < l.length
        · have hn := List.getElem?_eq_getElem hlt
          have hd : l.drop j = l[j] :: l.drop (j + 1) := List.drop_eq_getElem_cons hlt
          have hr2 := hr.out
          rw [hd] at hr2
          unfold nodesE at hr2
          have HR2 := Lib.hid hr2
          clear hr2 hd hr
          obtain ⟨bl, off, rfl, _, hcap, c0, c1, c2, c3, c4, c5⟩ := (hrd.kept hk fun _ _ h => h).nd hn
          generalize l[j] = n at *
          have HNE := Lib.hid fun W => rnode_any n j W
          generalize hne : nodeE n (j : Int) = en at *
          have hlt' : (j : Int) < (l.length : Int) := by omega
          obtain ⟨op, i, e, g, x, y⟩ := n
          simp only at c0 c1 c2 c3 c4 c5
          clear hne hn
          by_cases hz : en = 0
          · subst hz
            have HR3 : Hid (nodesE (l.drop (j + 1)) (j + 1) = r) := Lib.hid (by have := HR2.out; rwa [if_neg (by simp)] at this)
            clear HR2
            generalize l.length = L at *
            go_wp2_with (go_at_call 59; (with_reducible refine (HNE.out _).mono ?_); rintro e w2 ⟨rfl, K2⟩)
            go_roundw
            case rel => exact ⟨j + 1, by go_num, by omega, HR3, hk.trans K2 fun _ _ h => h⟩
            case measure => simp only [intOf]; omega
          · have HR3 : Hid (en = r) := Lib.hid (by have := HR2.out; rwa [if_pos hz] at this)
            have hz' : (en != 0) = true := by simpa using hz
            clear HR2
            generalize l.length = L at *
            go_wp2_with (go_at_call 59; (with_reducible refine (HNE.out _).mono ?_); rintro e w2 ⟨rfl, K2⟩)
            go_ret
            exact ⟨by rw [HR3.out]; rfl, hk.trans K2 fun _ _ h => h⟩
        · have hlt' : ¬ (j : Int) < (l.length : Int) := by omega
          have HR3 : Hid (r = 0) := Lib.hid (by have := hr.out; rw [List.drop_eq_nil_of_le (by omega)] at this; exact this.symm)
          clear hr HR
          generalize l.length = L at *
          go_wp2
          go_ret
          exact ⟨by rw [HR3.out]; rfl, hk⟩
end
end Go.Proofs.YtbidfbojealmlaaGreatDoor
