/- The text of a model: how the reader reads a line that is not ignored. No condition. -/
import Derived.Test.YtmnhgeggojgflaaGreatDoorMtO
import Derived.Test.YtmnhgeggojgflaaGreatDoorMtP
set_option linter.unusedVariables false
set_option linter.unusedSimpArgs false
namespace Mt
theorem form_worlds {l : List (List UInt8)} (h : formL l = true) (hw : l.headD [] = wWorlds) : l.length = 2 := by
  unfold formL at h
  simp only [hw, if_pos] at h
  have := congrArg List.length (of_decide_eq_true h)
  simpa using this
theorem form_fact {l : List (List UInt8)} (h : formL l = true) (h0 : l.headD [] ≠ wWorlds) (hw : l.headD [] = wFact) : l.length = 3 := by
  unfold formL at h
  simp only [if_neg h0, if_pos hw, Bool.and_eq_true] at h
  simpa using of_decide_eq_true h.1
theorem form_agent {l : List (List UInt8)} (h : formL l = true) (h0 : l.headD [] ≠ wWorlds) (h1 : l.headD [] ≠ wFact) (hw : l.headD [] = wAgent) : l.length = 4 := by
  unfold formL at h
  simp only [if_neg h0, if_neg h1, if_pos hw, Bool.and_eq_true] at h
  simpa using of_decide_eq_true h.1
theorem form_cells {l : List (List UInt8)} (h : formL l = true) (h0 : l.headD [] ≠ wWorlds) (h1 : l.headD [] ≠ wFact) (h2 : l.headD [] ≠ wAgent) : 2 ≤ l.length := by
  unfold formL at h
  simp only [if_neg h0, if_neg h1, if_neg h2] at h
  split at h
  · simp only [Bool.and_eq_true] at h
    have := of_decide_eq_true h.1.1
    simp at this
    omega
  · cases h
end Mt
namespace Go.Proofs.YtmnhgeggojgflaaGreatDoor
open Go.RowKit
open Mt
attribute [local go_sem] Oper.semAt_some
/-- The reader, behind the first line or ahead of it. -/
def RdX (w : World) (S : Sg) (a f c : Option Addr) (ca cf cc : Nat) (r : St) (Pr : Nat → Prop) (b m0 m1 m2 m3 : Nat) : Prop :=
  (∃ vb rb rs, RdW w S a f c ca cf cc r Pr b m0 m1 m2 m3 vb rb rs) ∨ (r = .zero ∧ Rd0 w S a f c ca cf cc Pr b m0 m1 m2 m3)
section
set_option maxRecDepth 100000
set_option maxHeartbeats 4000000
variable {w0 w : World} {S : Sg} {a f c : Option Addr} {ca cf cc : Nat} {r : St} {Pr : Nat → Prop} {b m0 m1 m2 m3 : Nat}
theorem RdX.keep {w' : World} (h : RdX w S a f c ca cf cc r Pr b m0 m1 m2 m3) (hk : Keep NoF w w') : RdX w' S a f c ca cf cc r Pr b m0 m1 m2 m3 := by
  rcases h with ⟨vb, rb, rs, h⟩ | ⟨h1, h2⟩
  · exact .inl ⟨vb, rb, rs, h.keep hk⟩
  · exact .inr ⟨h1, h2.keep hk⟩
theorem RdX.worlds (h : RdX w S a f c ca cf cc r Pr b m0 m1 m2 m3) : w.cell? ⟨b, 3, none⟩ = some (.int .i64 (r.W : Int)) := by
  rcases h with ⟨vb, rb, rs, h⟩ | ⟨rfl, h2⟩
  · exact h.B.cell 3
  · exact h2.B.cell 3
theorem RPost.pre {q : St × Int} {w w' w1 : World} {e : Ending} (h : RPost S a f c ca cf cc Pr b m0 m1 m2 m3 q w' e w1) (hk : Keep NoF w w') : RPost S a f c ca cf cc Pr b m0 m1 m2 m3 q w e w1 :=
  ⟨h.1, (hk.mono (G := fun k => ¬ Pr k) fun _ _ h => h.elim).trans h.2.1 fun _ _ h => h, h.2.2⟩
theorem mtread_no (w : World) : Calls Tryz.prog 33 #[.pointer (some ⟨b, 0, none⟩), .slice none 0 0, .bool false] w fun e w' => e = .returned (.int .i64 4) ∧ Keep NoF w w' := by
  go_enter Tryz.func33, Tryz.ntmps33
  go_upto_region 1 with (fail)
  refine wp_region_held_drew (S := fun _ => True) (by kernel_rfl) trivial (fun hHeld => ?_)
  refine wpAnyH_take (i := 0) (oi := ⟨some 7, _, _, _, _, _⟩) (v := ?_) rfl (by kernel_rfl) (by kernel_rfl) (by kernel_rfl) (fun _ _ _ h => h) (Or.inl ⟨by rfl, ?_⟩) (by assumption) ?_
  rotate_left 1
  · intro w hSw
    (try dsimp only at hSw)
    go_simp
    all_goals (try with_reducible rfl)
  (try simp only [Act.put, List.setIfInBounds_toArray, List.set_cons_zero, List.set_cons_succ])
  refine wpAnyH_take (i := 1) (oi := ⟨some 8, _, _, _, _, _⟩) (v := ?_) rfl (by kernel_rfl) (by kernel_rfl) (by kernel_rfl) (fun _ _ _ h => h) (Or.inl ⟨by rfl, ?_⟩) (by assumption) ?_
  rotate_left 1
  · intro w hSw
    (try dsimp only at hSw)
    go_simp
    all_goals (try with_reducible rfl)
  (try simp only [Act.put, List.setIfInBounds_toArray, List.set_cons_zero, List.set_cons_succ])
  refine wpAnyH_take (i := 2) (oi := ⟨some 9, _, _, _, _, _⟩) (v := ?_) rfl (by kernel_rfl) (by kernel_rfl) (by kernel_rfl) (fun _ _ _ h => h) (Or.inl ⟨by rfl, ?_⟩) (by assumption) ?_
  rotate_left 1
  · intro w hSw
    (try dsimp only at hSw)
    go_simp
    all_goals (try with_reducible rfl)
  (try simp only [Act.put, List.setIfInBounds_toArray, List.set_cons_zero, List.set_cons_succ])
  refine wpAnyH_take (i := 3) (oi := ⟨some 10, _, _, _, _, _⟩) (v := undef) rfl (by kernel_rfl) (by kernel_rfl) (by kernel_rfl) (fun _ _ _ h => h) (Or.inr ⟨by rfl, rfl⟩) (by assumption) ?_
  (try simp only [Act.put, List.setIfInBounds_toArray, List.set_cons_zero, List.set_cons_succ])
  refine wpAnyH_take (i := 4) (oi := ⟨some 11, _, _, _, _, _⟩) (v := undef) rfl (by kernel_rfl) (by kernel_rfl) (by kernel_rfl) (fun _ _ _ h => h) (Or.inr ⟨by rfl, rfl⟩) (by assumption) ?_
  (try simp only [Act.put, List.setIfInBounds_toArray, List.set_cons_zero, List.set_cons_succ])
  refine wpAnyH_take (i := 5) (oi := ⟨some 12, _, _, _, _, _⟩) (v := undef) rfl (by kernel_rfl) (by kernel_rfl) (by kernel_rfl) (fun _ _ _ h => h) (Or.inr ⟨by rfl, rfl⟩) (by assumption) ?_
  (try simp only [Act.put, List.setIfInBounds_toArray, List.set_cons_zero, List.set_cons_succ])
  refine wpAnyH_take (i := 6) (oi := ⟨some 13, _, _, _, _, _⟩) (v := ?_) rfl (by kernel_rfl) (by kernel_rfl) (by kernel_rfl) (fun _ _ _ h => h) (Or.inl ⟨by rfl, ?_⟩) (by assumption) ?_
  rotate_left 1
  · intro w hSw
    (try dsimp only at hSw)
    go_simp
    all_goals (try with_reducible rfl)
  (try simp only [Act.put, List.setIfInBounds_toArray, List.set_cons_zero, List.set_cons_succ])
  refine wpAnyH_take (i := 7) (oi := ⟨some 14, _, _, _, _, _⟩) (v := ?_) rfl (by kernel_rfl) (by kernel_rfl) (by kernel_rfl) (fun _ _ _ h => h) (Or.inl ⟨by rfl, ?_⟩) (by assumption) ?_
  rotate_left 1
  · intro w hSw
    (try dsimp only at hSw)
    go_simp
    all_goals (try with_reducible rfl)
  (try simp only [Act.put, List.setIfInBounds_toArray, List.set_cons_zero, List.set_cons_succ])
  refine wpAnyH_take (i := 8) (oi := ⟨some 15, _, _, _, _, _⟩) (v := undef) rfl (by kernel_rfl) (by kernel_rfl) (by kernel_rfl) (fun _ _ _ h => h) (Or.inr ⟨by rfl, rfl⟩) (by assumption) ?_
  (try simp only [Act.put, List.setIfInBounds_toArray, List.set_cons_zero, List.set_cons_succ])
  refine wpAnyH_take (i := 9) (oi := ⟨some 16, _, _, _, _, _⟩) (v := undef) rfl (by kernel_rfl) (by kernel_rfl) (by kernel_rfl) (fun _ _ _ h => h) (Or.inr ⟨by rfl, rfl⟩) (by assumption) ?_
  (try simp only [Act.put, List.setIfInBounds_toArray, List.set_cons_zero, List.set_cons_succ])
  refine wpAnyH_take (i := 10) (oi := ⟨some 17, _, _, _, _, _⟩) (v := undef) rfl (by kernel_rfl) (by kernel_rfl) (by kernel_rfl) (fun _ _ _ h => h) (Or.inr ⟨by rfl, rfl⟩) (by assumption) ?_
  (try simp only [Act.put, List.setIfInBounds_toArray, List.set_cons_zero, List.set_cons_succ])
  refine wpAnyH_take (i := 11) (oi := ⟨some 18, _, _, _, _, _⟩) (v := undef) rfl (by kernel_rfl) (by kernel_rfl) (by kernel_rfl) (fun _ _ _ h => h) (Or.inr ⟨by rfl, rfl⟩) (by assumption) ?_
  (try simp only [Act.put, List.setIfInBounds_toArray, List.set_cons_zero, List.set_cons_succ])
  refine wpAnyH_take (i := 12) (oi := ⟨some 19, _, _, _, _, _⟩) (v := undef) rfl (by kernel_rfl) (by kernel_rfl) (by kernel_rfl) (fun _ _ _ h => h) (Or.inr ⟨by rfl, rfl⟩) (by assumption) ?_
  (try simp only [Act.put, List.setIfInBounds_toArray, List.set_cons_zero, List.set_cons_succ])
  refine wpAnyH_take (i := 13) (oi := ⟨some 20, _, _, _, _, _⟩) (v := undef) rfl (by kernel_rfl) (by kernel_rfl) (by kernel_rfl) (fun _ _ _ h => h) (Or.inr ⟨by rfl, rfl⟩) (by assumption) ?_
  (try simp only [Act.put, List.setIfInBounds_toArray, List.set_cons_zero, List.set_cons_succ])
  refine wpAnyH_take (i := 14) (oi := ⟨some 21, _, _, _, _, _⟩) (v := undef) rfl (by kernel_rfl) (by kernel_rfl) (by kernel_rfl) (fun _ _ _ h => h) (Or.inr ⟨by rfl, rfl⟩) (by assumption) ?_
  (try simp only [Act.put, List.setIfInBounds_toArray, List.set_cons_zero, List.set_cons_succ])
  refine wpAnyH_take (i := 15) (oi := ⟨some 22, _, _, _, _, _⟩) (v := undef) rfl (by kernel_rfl) (by kernel_rfl) (by kernel_rfl) (fun _ _ _ h => h) (Or.inr ⟨by rfl, rfl⟩) (by assumption) ?_
  (try simp only [Act.put, List.setIfInBounds_toArray, List.set_cons_zero, List.set_cons_succ])
  refine wpAnyH_take (i := 16) (oi := ⟨some 23, _, _, _, _, _⟩) (v := undef) rfl (by kernel_rfl) (by kernel_rfl) (by kernel_rfl) (fun _ _ _ h => h) (Or.inr ⟨by rfl, rfl⟩) (by assumption) ?_
  (try simp only [Act.put, List.setIfInBounds_toArray, List.set_cons_zero, List.set_cons_succ])
  refine wpAnyH_take (i := 17) (oi := ⟨some 24, _, _, _, _, _⟩) (v := undef) rfl (by kernel_rfl) (by kernel_rfl) (by kernel_rfl) (fun _ _ _ h => h) (Or.inr ⟨by rfl, rfl⟩) (by assumption) ?_
  (try simp only [Act.put, List.setIfInBounds_toArray, List.set_cons_zero, List.set_cons_succ])
  refine wpAnyH_take (i := 18) (oi := ⟨some 25, _, _, _, _, _⟩) (v := undef) rfl (by kernel_rfl) (by kernel_rfl) (by kernel_rfl) (fun _ _ _ h => h) (Or.inr ⟨by rfl, rfl⟩) (by assumption) ?_
  (try simp only [Act.put, List.setIfInBounds_toArray, List.set_cons_zero, List.set_cons_succ])
  refine wpAnyH_take (i := 19) (oi := ⟨some 26, _, _, _, _, _⟩) (v := ?_) rfl (by kernel_rfl) (by kernel_rfl) (by kernel_rfl) (fun _ _ _ h => h) (Or.inl ⟨by rfl, ?_⟩) (by assumption) ?_
  rotate_left 1
  · intro w hSw
    (try dsimp only at hSw)
    go_simp
    all_goals (try with_reducible rfl)
  (try simp only [Act.put, List.setIfInBounds_toArray, List.set_cons_zero, List.set_cons_succ])
  refine wpAnyH_done (by kernel_rfl) ?_ _
  go_wp2
  go_ret
  exact ⟨rfl, (Keep.refl _ _).drew⟩
theorem mtread_any (E : EnvM w0 S a f c ca cf cc Pr) (KW : Keep NoF w0 w) (hP : ∀ k, Pr k → k < w.heap.size) (hR : RdX w S a f c ca cf cc r Pr b m0 m1 m2 m3) (l : List (List UInt8)) (A : Option Addr) (lc : Nat) (hrd : Rd w (.slice A l.length lc) 1 l.length (strs (l.map txt)))
    (hl0 : l ≠ []) (hne : ∀ x ∈ l, x ≠ []) (hn : l.length ≤ 100000) (hls : ∀ x ∈ l, x.length ≤ 100000) :
    Calls Tryz.prog 33 #[.pointer (some ⟨b, 0, none⟩), .slice A l.length lc, .bool true] w (RPost S a f c ca cf cc Pr b m0 m1 m2 m3 (readP S r (some l)) w) := by
  have hl1 : 0 < l.length := List.length_pos_iff.2 hl0
  have hrd0 := hrd
  obtain ⟨-, hc1, bl, off, rfl, hcells⟩ := hrd.at_ hl1
  have HRD := Lib.hid hrd0
  have K0 : Keep NoF w w.drew := (Keep.refl _ _).drew
  have HFM := Lib.hid (mtform_any l (some ⟨bl, off, none⟩) lc w.drew (hrd0.kept K0 fun _ _ h => h) hl0 (by omega) hne)
  obtain ⟨q, hq⟩ : ∃ q, readP S r (some l) = q := ⟨_, rfl⟩
  rw [hq]
  unfold readP at hq
  simp only at hq
  have HQ := Lib.hid hq
  have x0 : w.cell? ⟨bl, off, none⟩ = some (.string (txt (l.headD []))) := by
    have := hcells 0 _ (strs_get hl1)
    rw [Nat.add_zero] at this
    rw [this]
    unfold itAt
    cases l with
    | nil => exact absurd rfl hl0
    | cons x l => rfl
  have b3 := hR.worlds
  clear hcells hrd hrd0 hq
  obtain ⟨fl, hfl⟩ : ∃ fl, formL l = fl := ⟨_, rfl⟩
  have HFL := Lib.hid hfl
  rw [hfl] at HFM HQ
  cases fl with
  | false =>
    obtain rfl := HQ.out.symm.trans (if_pos (.inl rfl))
    clear HQ hfl b3 x0
    generalize l.length = n at *
    go_enter Tryz.func33, Tryz.ntmps33
    go_upto_region 1 with (fail)
    refine wp_region_held_drew (S := fun _ => True) (by kernel_rfl) trivial (fun hHeld => ?_)
    refine wpAnyH_take (i := 0) (oi := ⟨some 7, _, _, _, _, _⟩) (v := ?_) rfl (by kernel_rfl) (by kernel_rfl) (by kernel_rfl) (fun _ _ _ h => h) (Or.inl ⟨by rfl, ?_⟩) (by assumption) ?_
    rotate_left 1
    · intro w hSw
      (try dsimp only at hSw)
      go_simp
      all_goals (try with_reducible rfl)
    (try simp only [Act.put, List.setIfInBounds_toArray, List.set_cons_zero, List.set_cons_succ])
    refine wpAnyH_take (i := 1) (oi := ⟨some 8, _, _, _, _, _⟩) (v := ?_) rfl (by kernel_rfl) (by kernel_rfl) (by kernel_rfl) (fun _ _ _ h => h) (Or.inl ⟨by rfl, ?_⟩) (by assumption) ?_
    rotate_left 1
    · intro w hSw
      (try dsimp only at hSw)
      go_simp
      all_goals (try with_reducible rfl)
    (try simp only [Act.put, List.setIfInBounds_toArray, List.set_cons_zero, List.set_cons_succ])
    refine wpAnyH_take (i := 2) (oi := ⟨some 9, _, _, _, _, _⟩) (v := ?_) rfl (by kernel_rfl) (by kernel_rfl) (by kernel_rfl) (fun _ _ _ h => h) (Or.inl ⟨by rfl, ?_⟩) (by assumption) ?_
    rotate_left 1
    · intro w hSw
      (try dsimp only at hSw)
      go_simp
      all_goals (try with_reducible rfl)
    (try simp only [Act.put, List.setIfInBounds_toArray, List.set_cons_zero, List.set_cons_succ])
    refine wpAnyH_take (i := 3) (oi := ⟨some 10, _, _, _, _, _⟩) (v := ?_) rfl (by kernel_rfl) (by kernel_rfl) (by kernel_rfl) (fun _ _ _ h => h) (Or.inl ⟨by rfl, ?_⟩) (by assumption) ?_
    rotate_left 1
    · intro w hSw
      (try dsimp only at hSw)
      go_simp
      all_goals (try with_reducible rfl)
    (try simp only [Act.put, List.setIfInBounds_toArray, List.set_cons_zero, List.set_cons_succ])
    refine wpAnyH_ready (rs := [4]) (by kernel_rfl) (by simp) ?_
    refine AllReadyH.cons (o := ⟨some 11, _, _, _, _, _⟩) rfl (fun K hK => ?_) ?_
    · go_simp
      go_at_call 68
      (with_reducible refine HFM.out.mono ?_)
      rintro e1 w1 ⟨rfl, hk1⟩
      (try go_wp2_with (fail))
      refine hK.out _ _ trivial (fun hHeld => ?_)
      clear hK K
      (try simp only [Act.put, List.setIfInBounds_toArray, List.set_cons_zero, List.set_cons_succ])
      refine wpAnyH_take (i := 5) (oi := ⟨some 12, _, _, _, _, _⟩) (v := ?_) rfl (by kernel_rfl) (by kernel_rfl) (by kernel_rfl) (fun _ _ _ h => h) (Or.inl ⟨by rfl, ?_⟩) (by assumption) ?_
      rotate_left 1
      · intro w hSw
        (try dsimp only at hSw)
        go_simp
        all_goals (try with_reducible rfl)
      (try simp only [Act.put, List.setIfInBounds_toArray, List.set_cons_zero, List.set_cons_succ])
      refine wpAnyH_take (i := 6) (oi := ⟨some 13, _, _, _, _, _⟩) (v := ?_) rfl (by kernel_rfl) (by kernel_rfl) (by kernel_rfl) (fun _ _ _ h => h) (Or.inl ⟨by rfl, ?_⟩) (by assumption) ?_
      rotate_left 1
      · intro w hSw
        (try dsimp only at hSw)
        go_simp
        all_goals (try with_reducible rfl)
      (try simp only [Act.put, List.setIfInBounds_toArray, List.set_cons_zero, List.set_cons_succ])
      refine wpAnyH_take (i := 7) (oi := ⟨some 14, _, _, _, _, _⟩) (v := ?_) rfl (by kernel_rfl) (by kernel_rfl) (by kernel_rfl) (fun _ _ _ h => h) (Or.inl ⟨by rfl, ?_⟩) (by assumption) ?_
      rotate_left 1
      · intro w hSw
        (try dsimp only at hSw)
        go_simp
        all_goals (try with_reducible rfl)
      (try simp only [Act.put, List.setIfInBounds_toArray, List.set_cons_zero, List.set_cons_succ])
      refine wpAnyH_take (i := 8) (oi := ⟨some 15, _, _, _, _, _⟩) (v := undef) rfl (by kernel_rfl) (by kernel_rfl) (by kernel_rfl) (fun _ _ _ h => h) (Or.inr ⟨by rfl, rfl⟩) (by assumption) ?_
      (try simp only [Act.put, List.setIfInBounds_toArray, List.set_cons_zero, List.set_cons_succ])
      refine wpAnyH_take (i := 9) (oi := ⟨some 16, _, _, _, _, _⟩) (v := undef) rfl (by kernel_rfl) (by kernel_rfl) (by kernel_rfl) (fun _ _ _ h => h) (Or.inr ⟨by rfl, rfl⟩) (by assumption) ?_
      (try simp only [Act.put, List.setIfInBounds_toArray, List.set_cons_zero, List.set_cons_succ])
      refine wpAnyH_take (i := 10) (oi := ⟨some 17, _, _, _, _, _⟩) (v := undef) rfl (by kernel_rfl) (by kernel_rfl) (by kernel_rfl) (fun _ _ _ h => h) (Or.inr ⟨by rfl, rfl⟩) (by assumption) ?_
      (try simp only [Act.put, List.setIfInBounds_toArray, List.set_cons_zero, List.set_cons_succ])
      refine wpAnyH_take (i := 11) (oi := ⟨some 18, _, _, _, _, _⟩) (v := undef) rfl (by kernel_rfl) (by kernel_rfl) (by kernel_rfl) (fun _ _ _ h => h) (Or.inr ⟨by rfl, rfl⟩) (by assumption) ?_
      (try simp only [Act.put, List.setIfInBounds_toArray, List.set_cons_zero, List.set_cons_succ])
      refine wpAnyH_take (i := 12) (oi := ⟨some 19, _, _, _, _, _⟩) (v := undef) rfl (by kernel_rfl) (by kernel_rfl) (by kernel_rfl) (fun _ _ _ h => h) (Or.inr ⟨by rfl, rfl⟩) (by assumption) ?_
      (try simp only [Act.put, List.setIfInBounds_toArray, List.set_cons_zero, List.set_cons_succ])
      refine wpAnyH_take (i := 13) (oi := ⟨some 20, _, _, _, _, _⟩) (v := undef) rfl (by kernel_rfl) (by kernel_rfl) (by kernel_rfl) (fun _ _ _ h => h) (Or.inr ⟨by rfl, rfl⟩) (by assumption) ?_
      (try simp only [Act.put, List.setIfInBounds_toArray, List.set_cons_zero, List.set_cons_succ])
      refine wpAnyH_take (i := 14) (oi := ⟨some 21, _, _, _, _, _⟩) (v := undef) rfl (by kernel_rfl) (by kernel_rfl) (by kernel_rfl) (fun _ _ _ h => h) (Or.inr ⟨by rfl, rfl⟩) (by assumption) ?_
      (try simp only [Act.put, List.setIfInBounds_toArray, List.set_cons_zero, List.set_cons_succ])
      refine wpAnyH_take (i := 15) (oi := ⟨some 22, _, _, _, _, _⟩) (v := undef) rfl (by kernel_rfl) (by kernel_rfl) (by kernel_rfl) (fun _ _ _ h => h) (Or.inr ⟨by rfl, rfl⟩) (by assumption) ?_
      (try simp only [Act.put, List.setIfInBounds_toArray, List.set_cons_zero, List.set_cons_succ])
      refine wpAnyH_take (i := 16) (oi := ⟨some 23, _, _, _, _, _⟩) (v := undef) rfl (by kernel_rfl) (by kernel_rfl) (by kernel_rfl) (fun _ _ _ h => h) (Or.inr ⟨by rfl, rfl⟩) (by assumption) ?_
      (try simp only [Act.put, List.setIfInBounds_toArray, List.set_cons_zero, List.set_cons_succ])
      refine wpAnyH_take (i := 17) (oi := ⟨some 24, _, _, _, _, _⟩) (v := undef) rfl (by kernel_rfl) (by kernel_rfl) (by kernel_rfl) (fun _ _ _ h => h) (Or.inr ⟨by rfl, rfl⟩) (by assumption) ?_
      (try simp only [Act.put, List.setIfInBounds_toArray, List.set_cons_zero, List.set_cons_succ])
      refine wpAnyH_take (i := 18) (oi := ⟨some 25, _, _, _, _, _⟩) (v := undef) rfl (by kernel_rfl) (by kernel_rfl) (by kernel_rfl) (fun _ _ _ h => h) (Or.inr ⟨by rfl, rfl⟩) (by assumption) ?_
      (try simp only [Act.put, List.setIfInBounds_toArray, List.set_cons_zero, List.set_cons_succ])
      refine wpAnyH_take (i := 19) (oi := ⟨some 26, _, _, _, _, _⟩) (v := ?_) rfl (by kernel_rfl) (by kernel_rfl) (by kernel_rfl) (fun _ _ _ h => h) (Or.inl ⟨by rfl, ?_⟩) (by assumption) ?_
      rotate_left 1
      · intro w hSw
        (try dsimp only at hSw)
        go_simp
        all_goals (try with_reducible rfl)
      (try simp only [Act.put, List.setIfInBounds_toArray, List.set_cons_zero, List.set_cons_succ])
      refine wpAnyH_done (by kernel_rfl) ?_ _
      go_wp2
      go_ret
      exact ⟨rfl, hk1.undrew.mono fun _ _ h => h.elim, fun h => absurd h (show ¬ (4 : Int) = 0 by decide)⟩
    exact AllReadyH.nil
  | true =>
    have HWD : Hid (∀ u : List UInt8, ((txt (l.headD [])).toList == u) = decide (l.headD [] = u)) := Lib.hid fun u => by
      rw [Go.ByteArray.toList_eq, data_txt]
      exact beq_dec _ _
    by_cases hw : l.headD [] = wWorlds
    · have e1 := HWD.out [119, 111, 114, 108, 100, 115]
      rw [decide_eq_true (show l.headD [] = [119, 111, 114, 108, 100, 115] from hw)] at e1
      by_cases h0 : r.W = 0
      · -- the first line
        have hl2 := form_worlds hfl hw
        rcases hR with ⟨vb, rb, rs, hR⟩ | ⟨rfl, hR⟩
        · exact absurd h0 hR.w0
        · obtain rfl := HQ.out.symm.trans ((if_neg (by
            rintro (h | h)
            · cases h
            · exact h (propext ⟨fun _ => h0, fun _ => hw⟩))).trans (if_pos hw))
          have HC := Lib.hid fun W (hk : Keep NoF w W) => mtworlds_any E (KW.trans hk fun _ _ h => h) (hR.keep hk) (fun k h => Nat.lt_of_lt_of_le (hP k h) hk.size) l (some ⟨bl, off, none⟩) lc (HRD.out.kept hk fun _ _ h => h) hl2
          clear hR HQ HWD hw h0 hfl HFL hl0 hne hn hls HRD hP KW E
          rw [hl2] at HFM hc1 ⊢
          replace b3 : w.cell? ⟨b, 3, none⟩ = some (.int .i64 0) := b3
          generalize worldsP S St.zero l = q at *
          generalize l.headD [] = x at *
          have y0 : ∀ W, Keep NoF w W → W.cell? ⟨bl, off, none⟩ = some (.string (txt x)) := fun W hk => hk.cellv x0 fun h => h
          have HY0 := Lib.hid y0
          have y3 : ∀ W, Keep NoF w W → W.cell? ⟨b, 3, none⟩ = some (.int .i64 (0)) := fun W hk => hk.cellv b3 fun h => h
          have HY3 := Lib.hid y3
          clear y0 y3
          go_enter Tryz.func33, Tryz.ntmps33
          go_upto_region 1 with (fail)
          go_region_held3 (fun w' => w'.cell? ⟨bl, off, none⟩ = some (.string (txt x)) ∧ w'.cell? ⟨b, 3, none⟩ = some (.int .i64 (0))) (go_keep)
            ((go_at_call 68; (with_reducible refine HFM.out.mono ?_); rintro e5 w1 ⟨rfl, hk1⟩
              have K1 := hk1.undrew
              have t0 := HY0.out w1 K1
              have t3 := HY3.out w1 K1))
          go_wp2_with (go_at_call 69; (with_reducible refine (HC.out _ K1).mono ?_); rintro e6 w6 hp; obtain ⟨rfl, hpk, hpr⟩ := hp)
          go_ret
          exact ⟨rfl, (K1.mono (G := fun k => ¬ Pr k) fun _ _ h => h.elim).trans hpk fun _ _ h => h, hpr⟩
      · obtain rfl := HQ.out.symm.trans (if_pos (.inr fun e => h0 (e ▸ hw)))
        have z1 : ((r.W : Int) == 0) = false := by rw [beq_eq_false_iff_ne]; omega
        clear hR HQ HWD hw hfl HFL hl0 hne hn hls HRD hP KW E
        generalize l.length = n at *
        generalize l.headD [] = x at *
        generalize r.W = NW at *
        have y0 : ∀ W, Keep NoF w W → W.cell? ⟨bl, off, none⟩ = some (.string (txt x)) := fun W hk => hk.cellv x0 fun h => h
        have HY0 := Lib.hid y0
        have y3 : ∀ W, Keep NoF w W → W.cell? ⟨b, 3, none⟩ = some (.int .i64 ((NW : Int))) := fun W hk => hk.cellv b3 fun h => h
        have HY3 := Lib.hid y3
        clear y0 y3
        go_enter Tryz.func33, Tryz.ntmps33
        go_upto_region 1 with (fail)
        go_region_held3 (fun w' => w'.cell? ⟨bl, off, none⟩ = some (.string (txt x)) ∧ w'.cell? ⟨b, 3, none⟩ = some (.int .i64 ((NW : Int)))) (go_keep)
          ((go_at_call 68; (with_reducible refine HFM.out.mono ?_); rintro e5 w1 ⟨rfl, hk1⟩
            have K1 := hk1.undrew
            have t0 := HY0.out w1 K1
            have t3 := HY3.out w1 K1))
        go_wp2
        go_ret
        exact ⟨rfl, K1.mono fun _ _ h => h.elim, fun h => absurd h (show ¬ (4 : Int) = 0 by decide)⟩
    · have e1 := HWD.out [119, 111, 114, 108, 100, 115]
      rw [decide_eq_false (show ¬ l.headD [] = [119, 111, 114, 108, 100, 115] from hw)] at e1
      by_cases h0 : r.W = 0
      · obtain rfl := HQ.out.symm.trans (if_pos (.inr fun e => hw (e.symm ▸ h0)))
        have z1 : ((r.W : Int) == 0) = true := by rw [h0]; rfl
        clear hR HQ HWD hw hfl HFL hl0 hne hn hls HRD hP KW E
        generalize l.length = n at *
        generalize l.headD [] = x at *
        generalize r.W = NW at *
        have y0 : ∀ W, Keep NoF w W → W.cell? ⟨bl, off, none⟩ = some (.string (txt x)) := fun W hk => hk.cellv x0 fun h => h
        have HY0 := Lib.hid y0
        have y3 : ∀ W, Keep NoF w W → W.cell? ⟨b, 3, none⟩ = some (.int .i64 ((NW : Int))) := fun W hk => hk.cellv b3 fun h => h
        have HY3 := Lib.hid y3
        clear y0 y3
        go_enter Tryz.func33, Tryz.ntmps33
        go_upto_region 1 with (fail)
        go_region_held3 (fun w' => w'.cell? ⟨bl, off, none⟩ = some (.string (txt x)) ∧ w'.cell? ⟨b, 3, none⟩ = some (.int .i64 ((NW : Int)))) (go_keep)
          ((go_at_call 68; (with_reducible refine HFM.out.mono ?_); rintro e5 w1 ⟨rfl, hk1⟩
            have K1 := hk1.undrew
            have t0 := HY0.out w1 K1
            have t3 := HY3.out w1 K1))
        go_wp2
        go_ret
        exact ⟨rfl, K1.mono fun _ _ h => h.elim, fun h => absurd h (show ¬ (4 : Int) = 0 by decide)⟩
      · rcases hR with ⟨vb, rb, rs, hR⟩ | ⟨rfl, hR⟩
        · have z1 : ((r.W : Int) == 0) = false := by rw [beq_eq_false_iff_ne]; omega
          have HQ1 := Lib.hid (HQ.out.symm.trans ((if_neg (by
            rintro (h | h)
            · cases h
            · exact h (propext ⟨fun e => absurd e hw, fun e => absurd e h0⟩))).trans (if_neg hw)))
          clear HQ
          have e2 := HWD.out [102, 97, 99, 116]
          by_cases hw2 : l.headD [] = wFact
          · rw [decide_eq_true (show l.headD [] = [102, 97, 99, 116] from hw2)] at e2
            obtain rfl := HQ1.out.trans (if_pos hw2)
            have hl2 := form_fact hfl hw hw2
            have HC := Lib.hid fun W (hk : Keep NoF w W) => mtfact_any E (KW.trans hk fun _ _ h => h) (hR.keep hk) l (some ⟨bl, off, none⟩) lc (HRD.out.kept hk fun _ _ h => h) hl2 hls
            clear hR HQ1 HWD hw hw2 h0 hfl HFL hl0 hne hn hls HRD hP KW E
            rw [hl2] at HFM hc1 ⊢
            generalize factP S r l = q at *
            generalize l.headD [] = x at *
            generalize r.W = NW at *
            have y0 : ∀ W, Keep NoF w W → W.cell? ⟨bl, off, none⟩ = some (.string (txt x)) := fun W hk => hk.cellv x0 fun h => h
            have HY0 := Lib.hid y0
            have y3 : ∀ W, Keep NoF w W → W.cell? ⟨b, 3, none⟩ = some (.int .i64 ((NW : Int))) := fun W hk => hk.cellv b3 fun h => h
            have HY3 := Lib.hid y3
            clear y0 y3
            go_enter Tryz.func33, Tryz.ntmps33
            go_upto_region 1 with (fail)
            go_region_held3 (fun w' => w'.cell? ⟨bl, off, none⟩ = some (.string (txt x)) ∧ w'.cell? ⟨b, 3, none⟩ = some (.int .i64 ((NW : Int)))) (go_keep)
              ((go_at_call 68; (with_reducible refine HFM.out.mono ?_); rintro e5 w1 ⟨rfl, hk1⟩
                have K1 := hk1.undrew
                have t0 := HY0.out w1 K1
                have t3 := HY3.out w1 K1))
            go_wp2_with (go_at_call 70; (with_reducible refine (HC.out _ K1).mono ?_); rintro e6 w6 hp; obtain ⟨rfl, hpk, hpr⟩ := hp)
            go_ret
            exact ⟨rfl, (K1.mono (G := fun k => ¬ Pr k) fun _ _ h => h.elim).trans hpk fun _ _ h => h, hpr⟩
          · rw [decide_eq_false (show ¬ l.headD [] = [102, 97, 99, 116] from hw2)] at e2
            have HQ2 := Lib.hid (HQ1.out.trans (if_neg hw2))
            clear HQ1
            have e3 := HWD.out [97, 103, 101, 110, 116]
            by_cases hw3 : l.headD [] = wAgent
            · rw [decide_eq_true (show l.headD [] = [97, 103, 101, 110, 116] from hw3)] at e3
              obtain rfl := HQ2.out.trans (if_pos hw3)
              have hl2 := form_agent hfl hw hw2 hw3
              have HC := Lib.hid fun W (hk : Keep NoF w W) => mtagent_any E (KW.trans hk fun _ _ h => h) (hR.keep hk) l (some ⟨bl, off, none⟩) lc (HRD.out.kept hk fun _ _ h => h) hl2 hls
              clear hR HQ2 HWD hw hw2 hw3 h0 hfl HFL hl0 hne hn hls HRD hP KW E
              rw [hl2] at HFM hc1 ⊢
              generalize agentP S r l = q at *
              generalize l.headD [] = x at *
              generalize r.W = NW at *
              have y0 : ∀ W, Keep NoF w W → W.cell? ⟨bl, off, none⟩ = some (.string (txt x)) := fun W hk => hk.cellv x0 fun h => h
              have HY0 := Lib.hid y0
              have y3 : ∀ W, Keep NoF w W → W.cell? ⟨b, 3, none⟩ = some (.int .i64 ((NW : Int))) := fun W hk => hk.cellv b3 fun h => h
              have HY3 := Lib.hid y3
              clear y0 y3
              go_enter Tryz.func33, Tryz.ntmps33
              go_upto_region 1 with (fail)
              go_region_held3 (fun w' => w'.cell? ⟨bl, off, none⟩ = some (.string (txt x)) ∧ w'.cell? ⟨b, 3, none⟩ = some (.int .i64 ((NW : Int)))) (go_keep)
                ((go_at_call 68; (with_reducible refine HFM.out.mono ?_); rintro e5 w1 ⟨rfl, hk1⟩
                  have K1 := hk1.undrew
                  have t0 := HY0.out w1 K1
                  have t3 := HY3.out w1 K1))
              go_wp2_with (go_at_call 71; (with_reducible refine (HC.out _ K1).mono ?_); rintro e6 w6 hp; obtain ⟨rfl, hpk, hpr⟩ := hp)
              go_ret
              exact ⟨rfl, (K1.mono (G := fun k => ¬ Pr k) fun _ _ h => h.elim).trans hpk fun _ _ h => h, hpr⟩
            · rw [decide_eq_false (show ¬ l.headD [] = [97, 103, 101, 110, 116] from hw3)] at e3
              obtain rfl := HQ2.out.trans (if_neg hw3)
              have hl2 := form_cells hfl hw hw2 hw3
              obtain ⟨n, hn2⟩ : ∃ n, l.length = n + 2 := ⟨l.length - 2, by omega⟩
              have HC := Lib.hid fun W (hk : Keep NoF w W) => mtdivide_any E (KW.trans hk fun _ _ h => h) (hR.keep hk) l (some ⟨bl, off, none⟩) lc n (HRD.out.kept hk fun _ _ h => h) hn2 (by omega) hls
              have hn5 : n ≤ 100000 := by omega
              have hn6 : (0 : Int) < (n : Int) + 2 := by omega
              clear hR HQ2 HWD hw hw2 hw3 h0 hfl HFL hl0 hne hn hls HRD hP KW E
              rw [hn2] at HFM hc1 hl1 ⊢
              clear hn2
              generalize divideP S r l = q at *
              generalize l.headD [] = x at *
              generalize r.W = NW at *
              have y0 : ∀ W, Keep NoF w W → W.cell? ⟨bl, off, none⟩ = some (.string (txt x)) := fun W hk => hk.cellv x0 fun h => h
              have HY0 := Lib.hid y0
              have y3 : ∀ W, Keep NoF w W → W.cell? ⟨b, 3, none⟩ = some (.int .i64 ((NW : Int))) := fun W hk => hk.cellv b3 fun h => h
              have HY3 := Lib.hid y3
              clear y0 y3
              go_enter Tryz.func33, Tryz.ntmps33
              go_upto_region 1 with (fail)
              go_region_held3 (fun w' => w'.cell? ⟨bl, off, none⟩ = some (.string (txt x)) ∧ w'.cell? ⟨b, 3, none⟩ = some (.int .i64 ((NW : Int)))) (go_keep)
                ((go_at_call 68; (with_reducible refine HFM.out.mono ?_); rintro e5 w1 ⟨rfl, hk1⟩
                  have K1 := hk1.undrew
                  have t0 := HY0.out w1 K1
                  have t3 := HY3.out w1 K1))
              go_wp2_with (go_at_call 72; (with_reducible refine (HC.out _ K1).mono ?_); rintro e6 w6 hp; obtain ⟨rfl, hpk, hpr⟩ := hp)
              go_ret
              exact ⟨rfl, (K1.mono (G := fun k => ¬ Pr k) fun _ _ h => h.elim).trans hpk fun _ _ h => h, hpr⟩
        · exact absurd rfl h0
end
end Go.Proofs.YtmnhgeggojgflaaGreatDoor
