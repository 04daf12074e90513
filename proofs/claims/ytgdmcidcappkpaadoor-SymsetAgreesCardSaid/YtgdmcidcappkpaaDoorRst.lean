/- What the store's method restrict does. What the store's method restrict does, whole. What the closures of Restrict and Compose do. No condition. -/
import Derived.Test.YtgdmcidcappkpaaDoorExp
import Derived.Test.YtgdmcidcappkpaaDoorOpr
import Derived.Test.YtgdmcidcappkpaaDoorLaw
import Derived.Laws.EntriesVeiled
set_option linter.unusedVariables false
set_option linter.unusedSimpArgs false
namespace Go.Proofs.YtgdmcidcappkpaaDoor
open Go.RowKit
open Dd (var lo mk PhRel PMemo rf atP MemoOk)

theorem Sto.drewN {w : World} {b : Nat} {N : List Nd} {G : Nd → Option Nat} {F : Nat → Prop} (hs : Sto w b N G F) (n : Nat) : Sto (w.drewN n) b N G F := hs.block fun _ _ => rfl

/-- What a call of a function that is pushed down through the nodes leaves. -/
def PhPost (b mt : Nat) (F : Nat → Prop) (w : World) (R : Nat → List Nd → (Nd → Option Nat) → (Nat → Option Nat) → Prop) (e : Ending) (w' : World) : Prop :=
  ∃ F' N' G' M' r, e = .returned (.int .i64 (r : Nat)) ∧ Sto w' b N' G' F' ∧ MapInt w' mt M' ∧ R r N' G' M' ∧ Keep (fun k => F k ∨ k = mt) w w' ∧ ∀ k, F' k → F k ∨ w.heap.size ≤ k

structure RCaps (w : World) (b sb vb tb kb fb mt v : Nat) (t : Bool) : Prop where
  s : Bk w sb 68 #[.pointer (some ⟨b, 0, none⟩)]
  v : Bk w vb 3 #[.int .i64 v]
  t : Bk w tb 4 #[.bool t]
  k : Bk w kb 99 #[.map (some mt)]
  f : Bk w fb 90 #[.func (.func 85) #[] #[.pointer (some ⟨sb, 0, none⟩), .pointer (some ⟨vb, 0, none⟩), .pointer (some ⟨tb, 0, none⟩), .pointer (some ⟨kb, 0, none⟩), .pointer (some ⟨fb, 0, none⟩)]]

def rcaps (sb vb tb kb fb : Nat) : List Nat := [sb, vb, tb, kb, fb]
theorem RCaps.keep {w w' : World} {b sb vb tb kb fb mt v : Nat} {t : Bool} {F : Nat → Prop} (h : RCaps w b sb vb tb kb fb mt v t) (hk : Keep F w w') (hF : ∀ k ∈ rcaps sb vb tb kb fb, ¬ F k) : RCaps w' b sb vb tb kb fb mt v t :=
  ⟨h.s.keep hk (hF _ (by simp [rcaps])), h.v.keep hk (hF _ (by simp [rcaps])), h.t.keep hk (hF _ (by simp [rcaps])), h.k.keep hk (hF _ (by simp [rcaps])), h.f.keep hk (hF _ (by simp [rcaps]))⟩
theorem RCaps.lt {w : World} {b sb vb tb kb fb mt v : Nat} {t : Bool} (h : RCaps w b sb vb tb kb fb mt v t) : ∀ k ∈ rcaps sb vb tb kb fb, k < w.heap.size := by
  intro k hk
  simp only [rcaps, List.mem_cons, List.not_mem_nil, or_false] at hk
  rcases hk with rfl | rfl | rfl | rfl | rfl
  · exact h.s.lt
  · exact h.v.lt
  · exact h.t.lt
  · exact h.k.lt
  · exact h.f.lt
theorem RCaps.ne {w : World} {b sb vb tb kb fb mt v : Nat} {t : Bool} {M : Nat → Option Nat} (h : RCaps w b sb vb tb kb fb mt v t) (hm : MapInt w mt M) : ∀ k ∈ rcaps sb vb tb kb fb, k ≠ mt := by
  intro k hk
  simp only [rcaps, List.mem_cons, List.not_mem_nil, or_false] at hk
  rcases hk with rfl | rfl | rfl | rfl | rfl
  · exact (hm.ne_bk h.s).symm
  · exact (hm.ne_bk h.v).symm
  · exact (hm.ne_bk h.t).symm
  · exact (hm.ne_bk h.k).symm
  · exact (hm.ne_bk h.f).symm

def rArgs (i sb vb tb kb fb : Nat) : Array Value := #[.int .i64 i, .pointer (some ⟨sb, 0, none⟩), .pointer (some ⟨vb, 0, none⟩), .pointer (some ⟨tb, 0, none⟩), .pointer (some ⟨kb, 0, none⟩), .pointer (some ⟨fb, 0, none⟩)]

def RIH (b sb vb tb kb fb mt v : Nat) (t : Bool) (n : Nat) : Prop := ∀ (w : World) (N : List Nd) (G : Nd → Option Nat) (M : Nat → Option Nat) (F : Nat → Prop) (i : Nat), Sto w b N G F → MapInt w mt M → RCaps w b sb vb tb kb fb mt v t →
  (∀ k ∈ rcaps sb vb tb kb fb, ¬ F k) → ¬ F mt → Dd.Good N → MemoOk N G → PMemo (rf v t) N M → i < N.length + 2 → 24 - var N i ≤ n → N.length + (25 - var N i) * 2 ^ (24 - var N i) ≤ 1099500000000 →
  Calls Tryd.prog 85 (rArgs i sb vb tb kb fb) w (PhPost b mt F w (PhRel (rf v t) N i))

section
variable {b sb vb tb kb fb mt v : Nat} {t : Bool} {F : Nat → Prop} {w : World} {N : List Nd} {G : Nd → Option Nat} {M : Nat → Option Nat}

set_option maxRecDepth 100000 in
theorem r_past (hs : Sto w b N G F) (hm : MapInt w mt M) (hc : RCaps w b sb vb tb kb fb mt v t) (A : Dd.Good N) (B : MemoOk N G) (C : PMemo (rf v t) N M) (i : Nat) (hi : i < N.length + 2) (hN : N.length ≤ 1099500000000) (hv : v < var N i) :
    Calls Tryd.prog 85 (rArgs i sb vb tb kb fb) w (PhPost b mt F w (PhRel (rf v t) N i)) := by
  have hpost : ∀ n, PhPost b mt F w (PhRel (rf v t) N i) (.returned (.int .i64 (i : Nat))) (w.drewN n) := fun n =>
    ⟨F, N, G, M, i, rfl, hs.drewN n, hm.block rfl, Dd.ph_ret A B C hi hi (Dd.rf_past A t hi hv) (Nat.le_refl _), (Keep.refl _ _).drewN n, fun k hk => .inl hk⟩
  generalize PhPost b mt F w (PhRel (rf v t) N i) = PP at *
  have hvr := fun n => (variable_any (hs.drewN n) i hi (by omega)).mono fun _ _ h => And.intro h.1 h.2.symm
  have c1 : w.cell? ⟨sb, 0, none⟩ = some (.pointer (some ⟨b, 0, none⟩)) := hc.s.cell 0
  have c2 : w.cell? ⟨vb, 0, none⟩ = some (.int .i64 v) := hc.v.cell 0
  have hd : decide ((v : Int) < (var N i : Int)) = true := by simp; omega
  clear hs hm A B C
  unfold rArgs
  go_enter Tryd.func85, Tryd.ntmps85
  go_wp2
  go_quiet ((go_at_call 71; exact Calls.quiet_of_same (hvr _)))
  go_wp2
  exact hpost _

set_option maxRecDepth 100000 in
theorem r_at (hs : Sto w b N G F) (hm : MapInt w mt M) (hc : RCaps w b sb vb tb kb fb mt v t) (A : Dd.Good N) (B : MemoOk N G) (C : PMemo (rf v t) N M) (i : Nat) (hi : i < N.length + 2) (hN : N.length ≤ 1099500000000) (hv : var N i = v) (hv24 : v < 24) :
    Calls Tryd.prog 85 (rArgs i sb vb tb kb fb) w (PhPost b mt F w (PhRel (rf v t) N i)) := by
  obtain ⟨a1, a2, a3, a4⟩ := Dd.at_spec A hi (by omega : v ≤ var N i) hv24 t
  have hpost : ∀ w', Keep NoF w w' → PhPost b mt F w (PhRel (rf v t) N i) (.returned (.int .i64 (atP N i v t : Nat))) w' := fun w' hk =>
    ⟨F, N, G, M, _, rfl, hs.kept hk fun _ _ h => h, hm.block (hk.block _ hm.lt fun h => h), Dd.ph_ret A B C hi a1 a3 a4, hk.mono fun _ _ h => h.elim, fun k hk => .inl hk⟩
  generalize PhPost b mt F w (PhRel (rf v t) N i) = PP at *
  have hvr := fun n => (variable_any (hs.drewN n) i hi (by omega)).mono fun _ _ h => And.intro h.1 h.2.symm
  have hat := fun (w' : World) (hk : Keep NoF w w') => at_any (hs.kept hk fun _ _ h => h) i v t hi hv24 (by omega)
  have c1 : w.cell? ⟨sb, 0, none⟩ = some (.pointer (some ⟨b, 0, none⟩)) := hc.s.cell 0
  have c2 : w.cell? ⟨vb, 0, none⟩ = some (.int .i64 v) := hc.v.cell 0
  have c3 : w.cell? ⟨tb, 0, none⟩ = some (.bool t) := hc.t.cell 0
  have c4 : w.cell? ⟨kb, 0, none⟩ = some (.map (some mt)) := hc.k.cell 0
  have hd : decide ((v : Int) < (var N i : Int)) = false := by simp; omega
  have hd2 : ((var N i : Int) == (v : Int)) = true := by simp; omega
  have HS := Lib.hid hs
  clear hs hm A B C
  unfold rArgs
  generalize atP N i v t = ai at *
  go_enter Tryd.func85, Tryd.ntmps85
  go_wp2
  go_quiet ((go_at_call 71; exact Calls.quiet_of_same (hvr _)))
  have HV1 : Hid (∀ n, Calls Tryd.prog 71 #[.pointer (some ⟨b, 0, none⟩), .int .i64 i] ((w.drewN nq).drewN n) fun e w' => e = .returned (.int .i64 (var N i)) ∧ w' = (w.drewN nq).drewN n) := Lib.hid fun n => (variable_any ((HS.out.drewN nq).drewN n) i hi (by omega)).mono fun _ _ h => And.intro h.1 h.2.symm
  have hkW : Keep NoF w (w.drewN nq) := (Keep.refl NoF w).drewN nq
  have g1 : (w.drewN nq).cell? ⟨sb, 0, none⟩ = some (.pointer (some ⟨b, 0, none⟩)) := c1
  have g2 : (w.drewN nq).cell? ⟨vb, 0, none⟩ = some (.int .i64 v) := c2
  have g3 : (w.drewN nq).cell? ⟨tb, 0, none⟩ = some (.bool t) := c3
  have g4 : (w.drewN nq).cell? ⟨kb, 0, none⟩ = some (.map (some mt)) := c4
  clear hvr
  generalize w.drewN nq = W1 at *
  go_wp2
  go_quiet ((go_at_call 71; exact Calls.quiet_of_same (HV1.out _)))
  go_wp2_with (go_at_call 72; refine (hat _ (hkW.drewN _)).mono ?_; rintro e w' ⟨rfl, rfl⟩)
  exact hkW.drewN _

set_option maxRecDepth 100000 in
theorem r_known (hs : Sto w b N G F) (hm : MapInt w mt M) (hc : RCaps w b sb vb tb kb fb mt v t) (A : Dd.Good N) (B : MemoOk N G) (C : PMemo (rf v t) N M) (i r : Nat) (hi : i < N.length + 2) (hN : N.length ≤ 1099500000000) (hv : var N i < v) (hr : M i = some r) :
    Calls Tryd.prog 85 (rArgs i sb vb tb kb fb) w (PhPost b mt F w (PhRel (rf v t) N i)) := by
  have hpost : ∀ w', Keep NoF w w' → PhPost b mt F w (PhRel (rf v t) N i) (.returned (.int .i64 (r : Nat))) w' := fun w' hk =>
    ⟨F, N, G, M, _, rfl, hs.kept hk fun _ _ h => h, hm.block (hk.block _ hm.lt fun h => h), Dd.ph_hit A B C hr, hk.mono fun _ _ h => h.elim, fun k hk => .inl hk⟩
  generalize PhPost b mt F w (PhRel (rf v t) N i) = PP at *
  have hvr := fun n => (variable_any (hs.drewN n) i hi (by omega)).mono fun _ _ h => And.intro h.1 h.2.symm
  have c1 : w.cell? ⟨sb, 0, none⟩ = some (.pointer (some ⟨b, 0, none⟩)) := hc.s.cell 0
  have c2 : w.cell? ⟨vb, 0, none⟩ = some (.int .i64 v) := hc.v.cell 0
  have c3 : w.cell? ⟨tb, 0, none⟩ = some (.bool t) := hc.t.cell 0
  have c4 : w.cell? ⟨kb, 0, none⟩ = some (.map (some mt)) := hc.k.cell 0
  have hd : decide ((v : Int) < (var N i : Int)) = false := by simp; omega
  have hd2 : ((var N i : Int) == (v : Int)) = false := by simp; omega
  have hl : ∀ w', w'.heap[mt]? = w.heap[mt]? → (Instr.lookup 99 (.map (some mt)) (.int .i64 i) true).run Tryd.prog w' = .ok (.tuple #[.int .i64 r, .bool true]) w' := fun w' hw => by
    have h1 : MapInt w' mt M := hm.block hw
    have := h1.look encInt Tryd.underlying99 (zeroInt _) (x := i) (by unfold tiny; omega) true
    simpa [hr, inV] using this
  have HS := Lib.hid hs
  have hmlt := hm.lt
  clear hs hm A B C hr
  unfold rArgs
  go_enter Tryd.func85, Tryd.ntmps85
  go_wp2
  go_quiet ((go_at_call 71; exact Calls.quiet_of_same (hvr _)))
  have HV1 : Hid (∀ n, Calls Tryd.prog 71 #[.pointer (some ⟨b, 0, none⟩), .int .i64 i] ((w.drewN nq).drewN n) fun e w' => e = .returned (.int .i64 (var N i)) ∧ w' = (w.drewN nq).drewN n) := Lib.hid fun n => (variable_any ((HS.out.drewN nq).drewN n) i hi (by omega)).mono fun _ _ h => And.intro h.1 h.2.symm
  have hkW : Keep NoF w (w.drewN nq) := (Keep.refl NoF w).drewN nq
  have g1 : (w.drewN nq).cell? ⟨sb, 0, none⟩ = some (.pointer (some ⟨b, 0, none⟩)) := c1
  have g2 : (w.drewN nq).cell? ⟨vb, 0, none⟩ = some (.int .i64 v) := c2
  have g3 : (w.drewN nq).cell? ⟨tb, 0, none⟩ = some (.bool t) := c3
  have g4 : (w.drewN nq).cell? ⟨kb, 0, none⟩ = some (.map (some mt)) := c4
  clear hvr
  generalize w.drewN nq = W1 at *
  go_wp2
  go_quiet ((go_at_call 71; exact Calls.quiet_of_same (HV1.out _)))
  have hl2 := hl _ ((hkW.drewN nq).block mt hmlt (fun h => h))
  go_wp2
  exact hkW.drewN _

set_option maxRecDepth 100000 in
set_option maxHeartbeats 1000000 in
theorem r_rec {n : Nat} (ih : RIH b sb vb tb kb fb mt v t n) (hs : Sto w b N G F) (hm : MapInt w mt M) (hc : RCaps w b sb vb tb kb fb mt v t) (hcF : ∀ k ∈ rcaps sb vb tb kb fb, ¬ F k) (hmF : ¬ F mt) (A : Dd.Good N) (B : MemoOk N G) (C : PMemo (rf v t) N M) (i : Nat) (hi : i < N.length + 2)
    (hn : 24 - var N i ≤ n + 1) (hN : N.length + (25 - var N i) * 2 ^ (24 - var N i) ≤ 1099500000000) (hv : var N i < v) (hv24 : v < 24) (hr : M i = none) :
    Calls Tryd.prog 85 (rArgs i sb vb tb kb fb) w (PhPost b mt F w (PhRel (rf v t) N i)) := by
  have h2 : 2 ≤ i := by
    by_cases h : i < 2
    · rw [Dd.var_const h] at hv; omega
    · omega
  have hN0 : N.length ≤ 1099500000000 := by omega
  have a1 := A.lo_lt i h2 hi
  have a2 := A.hi_lt i h2 hi
  have b1 := A.lo_var i h2 hi
  have b2 := A.hi_var i h2 hi
  have hpw := Dd.pow_two (var N i) (by omega) (var N (lo N i)) (var N (Dd.hi N i)) b1 b2 (Dd.var_le A (by omega)) (Dd.var_le A (by omega))
  have hp0 := Nat.two_pow_pos (24 - var N i)
  have HIH1 : Hid (∀ w', Sto w' b N G F → MapInt w' mt M → RCaps w' b sb vb tb kb fb mt v t → Calls Tryd.prog 85 #[.int .i64 (lo N i : Nat), .pointer (some ⟨sb, 0, none⟩), .pointer (some ⟨vb, 0, none⟩), .pointer (some ⟨tb, 0, none⟩), .pointer (some ⟨kb, 0, none⟩), .pointer (some ⟨fb, 0, none⟩)] w' (PhPost b mt F w' (PhRel (rf v t) N (lo N i)))) := Lib.hid fun w' h1 h2 h3 =>
    ih w' N G M F (lo N i) h1 h2 h3 hcF hmF A B C (by omega) (by omega) (by omega)
  have HIH2 : Hid (∀ w' N1 G1 M1 F1 r1, PhRel (rf v t) N (lo N i) r1 N1 G1 M1 → Sto w' b N1 G1 F1 → MapInt w' mt M1 → RCaps w' b sb vb tb kb fb mt v t → (∀ k ∈ rcaps sb vb tb kb fb, ¬ F1 k) → ¬ F1 mt →
      Calls Tryd.prog 85 #[.int .i64 (Dd.hi N i : Nat), .pointer (some ⟨sb, 0, none⟩), .pointer (some ⟨vb, 0, none⟩), .pointer (some ⟨tb, 0, none⟩), .pointer (some ⟨kb, 0, none⟩), .pointer (some ⟨fb, 0, none⟩)] w' (PhPost b mt F1 w' (PhRel (rf v t) N1 (Dd.hi N i)))) := Lib.hid fun w' N1 G1 M1 F1 r1 P1 h1 h2 h3 h4 h5 => by
    have hl := Dd.len_pre P1.pre
    have := P1.len
    refine ih w' N1 G1 M1 F1 (Dd.hi N i) h1 h2 h3 h4 h5 P1.good P1.memo P1.pm (by omega) ?_ ?_
    · rw [Dd.var_pre P1.pre (by omega)]; omega
    · rw [Dd.var_pre P1.pre (by omega)]; omega
  have HND : Hid (∀ r1 r2 N1 N2 G1 G2 M1 M2, PhRel (rf v t) N (lo N i) r1 N1 G1 M1 → PhRel (rf v t) N1 (Dd.hi N i) r2 N2 G2 M2 → r1 < N2.length + 2 ∧ r2 < N2.length + 2 ∧ N2.length ≤ 1099511000000 ∧
      PhRel (rf v t) N i (mk N2 (var N i) r1 r2).1 (mk N2 (var N i) r1 r2).2 G2 (fun y => if y = i then some (mk N2 (var N i) r1 r2).1 else M2 y)) := Lib.hid fun r1 r2 N1 N2 G1 G2 M1 M2 P1 P2 => by
    have hP := Dd.ph_node A h2 hi P1 P2 (Dd.rf_node A h2 hi (by omega))
    have hl := Dd.len_pre P2.pre
    have := P1.lt
    have := P1.len
    have := P2.len
    rw [Dd.var_pre P1.pre (by omega)] at this
    exact ⟨by omega, P2.lt, by omega, hP⟩
  clear ih
  obtain ⟨j, rfl⟩ : ∃ j, i = j + 2 := ⟨i - 2, by omega⟩
  have HV : Hid (∀ w', Keep NoF w w' → Calls Tryd.prog 71 #[.pointer (some ⟨b, 0, none⟩), .int .i64 ((j + 2 : Nat) : Int)] w' fun e w'' => e = .returned (.int .i64 (var N (j + 2))) ∧ w'' = w') := Lib.hid fun w' hk =>
    (variable_any (hs.kept hk fun _ _ h => h) (j + 2) hi (by omega)).mono fun _ _ h => And.intro h.1 h.2.symm
  have hd : decide ((v : Int) < (var N (j + 2) : Int)) = false := by simp; omega
  have hd2 : ((var N (j + 2) : Int) == (v : Int)) = false := by simp; omega
  have c1 : w.cell? ⟨sb, 0, none⟩ = some (.pointer (some ⟨b, 0, none⟩)) := hc.s.cell 0
  have c2 : w.cell? ⟨vb, 0, none⟩ = some (.int .i64 v) := hc.v.cell 0
  have HW0 : Hid (Sto w b N G F ∧ MapInt w mt M ∧ RCaps w b sb vb tb kb fb mt v t ∧ M (j + 2) = none) := Lib.hid ⟨hs, hm, hc, hr⟩
  clear hs hm hc hr A B C
  unfold rArgs
  go_enter Tryd.func85, Tryd.ntmps85
  go_wp2
  go_quiet ((go_at_call 71; exact Calls.quiet_of_same (HV.out _ ((Keep.refl NoF w).drewN _))))
  have hkW : Keep NoF w (w.drewN nq) := (Keep.refl NoF w).drewN nq
  have g1 : (w.drewN nq).cell? ⟨sb, 0, none⟩ = some (.pointer (some ⟨b, 0, none⟩)) := c1
  have g2 : (w.drewN nq).cell? ⟨vb, 0, none⟩ = some (.int .i64 v) := c2
  generalize w.drewN nq = W1 at *
  go_wp2
  go_quiet ((go_at_call 71; exact Calls.quiet_of_same (HV.out _ (hkW.drewN _))))
  have hkX : Keep NoF w (W1.drewN nq) := hkW.drewN nq
  obtain ⟨hs0, hm0, hc0, hr⟩ := HW0.out
  have hsX := hs0.kept hkX fun _ _ h => h
  have hmX := hm0.block (hkX.block mt hm0.lt (fun h => h))
  have hcX := hc0.keep hkX (fun _ _ h => h)
  clear HV HW0 hs0 hm0 hc0 hkW g1 g2 c1 c2 hd hd2
  generalize W1.drewN nq = W2 at *
  have hl : (Instr.lookup 99 (.map (some mt)) (.int .i64 ((j : Int) + 2)) true).run Tryd.prog W2 = .ok (.tuple #[.int .i64 0, .bool false]) W2 := by
    have := hmX.look encInt Tryd.underlying99 (zeroInt _) (x := j + 2) (by unfold tiny; omega) true
    simpa [hr, inV] using this
  have c1 : W2.cell? ⟨sb, 0, none⟩ = some (.pointer (some ⟨b, 0, none⟩)) := hcX.s.cell 0
  have c4 : W2.cell? ⟨kb, 0, none⟩ = some (.map (some mt)) := hcX.k.cell 0
  obtain ⟨g, c, k0, hcc, k1, k2, k3⟩ := hsX.node h2 hi
  simp only [Nat.add_sub_cancel] at k1 k2 k3
  have hjn : j < N.length := by omega
  have hvv24 : var N (j + 2) < 24 := by omega
  generalize hvv : var N (j + 2) = u at *
  generalize hll : lo N (j + 2) = l at *
  generalize hhh : Dd.hi N (j + 2) = h at *
  clear hr
  go_upto_region 9 with (fail)
  have hsz : (W2.alloc (.cells #[.int .i64 u, .int .i64 l, .int .i64 h] 74)).drew.heap.size = W2.heap.size + 1 := by simp
  have hkN : Keep NoF w (W2.alloc (.cells #[.int .i64 u, .int .i64 l, .int .i64 h] 74)).drew := (hkX.alloc _).drew
  have hsD : Sto (W2.alloc (.cells #[.int .i64 u, .int .i64 l, .int .i64 h] 74)).drew b N G F := (hsX.alloc _).drew
  have hmD : MapInt (W2.alloc (.cells #[.int .i64 u, .int .i64 l, .int .i64 h] 74)).drew mt M := hmX.block (Below.heap_alloc _ _ _ hmX.lt)
  have hcD : RCaps (W2.alloc (.cells #[.int .i64 u, .int .i64 l, .int .i64 h] 74)).drew b sb vb tb kb fb mt v t := hcX.keep (F := NoF) ((Keep.refl _ _).alloc _).drew (fun _ _ h => h)
  have hnD : Bk (W2.alloc (.cells #[.int .i64 u, .int .i64 l, .int .i64 h] 74)).drew W2.heap.size 74 #[.int .i64 u, .int .i64 l, .int .i64 h] := (Bk.new _ _ _).drew
  have hnF : ¬ F W2.heap.size := fun h => by have := hsX.lt _ h; omega
  have hnm : W2.heap.size ≠ mt := by have := hmX.lt; omega
  have hcne := hcD.ne hmD
  have hclt := hcD.lt
  have hmlt := hmD.lt
  have d0 : (W2.alloc (.cells #[.int .i64 u, .int .i64 l, .int .i64 h] 74)).drew.cell? ⟨W2.heap.size, 0, none⟩ = some (.int .i64 u) := hnD.cell 0
  have d1 : (W2.alloc (.cells #[.int .i64 u, .int .i64 l, .int .i64 h] 74)).drew.cell? ⟨W2.heap.size, 1, none⟩ = some (.int .i64 l) := hnD.cell 1
  have d2 : (W2.alloc (.cells #[.int .i64 u, .int .i64 l, .int .i64 h] 74)).drew.cell? ⟨W2.heap.size, 2, none⟩ = some (.int .i64 h) := hnD.cell 2
  have d3 : (W2.alloc (.cells #[.int .i64 u, .int .i64 l, .int .i64 h] 74)).drew.cell? ⟨sb, 0, none⟩ = some (.pointer (some ⟨b, 0, none⟩)) := hcD.s.cell 0
  have d4 : (W2.alloc (.cells #[.int .i64 u, .int .i64 l, .int .i64 h] 74)).drew.cell? ⟨fb, 0, none⟩ = some (.func (.func 85) #[] #[.pointer (some ⟨sb, 0, none⟩), .pointer (some ⟨vb, 0, none⟩), .pointer (some ⟨tb, 0, none⟩), .pointer (some ⟨kb, 0, none⟩), .pointer (some ⟨fb, 0, none⟩)]) := hcD.f.cell 0
  have HC1 := Lib.hid (HIH1.out _ hsD hmD hcD)
  clear c1 c4 hl k0 k1 k2 k3 hsX hmX hcX HIH1 hsD
  go_region_held3 (fun w' => w'.cell? ⟨W2.heap.size, 0, none⟩ = some (.int .i64 u) ∧ w'.cell? ⟨W2.heap.size, 1, none⟩ = some (.int .i64 l) ∧ w'.cell? ⟨W2.heap.size, 2, none⟩ = some (.int .i64 h) ∧
      w'.cell? ⟨sb, 0, none⟩ = some (.pointer (some ⟨b, 0, none⟩)) ∧ w'.cell? ⟨fb, 0, none⟩ = some (.func (.func 85) #[] #[.pointer (some ⟨sb, 0, none⟩), .pointer (some ⟨vb, 0, none⟩), .pointer (some ⟨tb, 0, none⟩), .pointer (some ⟨kb, 0, none⟩), .pointer (some ⟨fb, 0, none⟩)]))
    (first | with_reducible exact ⟨d0, d1, d2, d3, d4⟩ | with_reducible exact ⟨e0, e1, e2, e3, e4⟩ | with_reducible exact ⟨f0, f1, f2, f3, f4⟩ | with_reducible exact ⟨i0, i1, i2, i3, i4⟩)
    (first
      | (go_at_call 85
         (with_reducible refine HC1.out.mono ?_)
         rintro e w3 ⟨F3, N3, G3, M3, r3, rfl, hs3, hm3, P3, hk3, hF3⟩
         have hn3 := hnD.keep hk3 (fun h => h.elim hnF hnm)
         have hc3 := hcD.keep hk3 (fun k hk h => h.elim (hcF k hk) (hcne k hk))
         have hcF3 : ∀ k ∈ rcaps sb vb tb kb fb, ¬ F3 k := fun k hk h => by
           rcases hF3 k h with h | h
           · exact hcF k hk h
           · have := hclt k hk; omega
         have hmF3 : ¬ F3 mt := fun h => by
           rcases hF3 mt h with h | h
           · exact hmF h
           · omega
         have hnF3 : ¬ F3 W2.heap.size := fun h => by
           rcases hF3 _ h with h | h
           · exact hnF h
           · omega
         have e0 : w3.cell? ⟨W2.heap.size, 0, none⟩ = some (.int .i64 u) := hn3.cell 0
         have e1 : w3.cell? ⟨W2.heap.size, 1, none⟩ = some (.int .i64 l) := hn3.cell 1
         have e2 : w3.cell? ⟨W2.heap.size, 2, none⟩ = some (.int .i64 h) := hn3.cell 2
         have e3 : w3.cell? ⟨sb, 0, none⟩ = some (.pointer (some ⟨b, 0, none⟩)) := hc3.s.cell 0
         have e4 : w3.cell? ⟨fb, 0, none⟩ = some (.func (.func 85) #[] #[.pointer (some ⟨sb, 0, none⟩), .pointer (some ⟨vb, 0, none⟩), .pointer (some ⟨tb, 0, none⟩), .pointer (some ⟨kb, 0, none⟩), .pointer (some ⟨fb, 0, none⟩)]) := hc3.f.cell 0)
      | (go_at_call 85
         (with_reducible refine (HIH2.out w3 N3 G3 M3 F3 r3 P3 hs3 hm3 hc3 hcF3 hmF3).mono ?_)
         rintro e w4 ⟨F4, N4, G4, M4, r4, rfl, hs4, hm4, P4, hk4, hF4⟩
         have hsz3 := hk3.size
         have hn4 := hn3.keep hk4 (fun h => h.elim hnF3 hnm)
         have hc4 := hc3.keep hk4 (fun k hk h => h.elim (hcF3 k hk) (hcne k hk))
         have hcF4 : ∀ k ∈ rcaps sb vb tb kb fb, ¬ F4 k := fun k hk h => by
           rcases hF4 k h with h | h
           · exact hcF3 k hk h
           · have := hclt k hk; omega
         have hmF4 : ¬ F4 mt := fun h => by
           rcases hF4 mt h with h | h
           · exact hmF3 h
           · omega
         have hnF4 : ¬ F4 W2.heap.size := fun h => by
           rcases hF4 _ h with h | h
           · exact hnF3 h
           · omega
         obtain ⟨q1, q2, q3, P5⟩ := HND.out r3 r4 N3 N4 G3 G4 M3 M4 P3 P4
         have hnd : ndOk (u, r3, r4) := ⟨(by unfold tiny; omega : tiny u), (by unfold tiny; omega : tiny r3), (by unfold tiny; omega : tiny r4)⟩
         have f0 : w4.cell? ⟨W2.heap.size, 0, none⟩ = some (.int .i64 u) := hn4.cell 0
         have f1 : w4.cell? ⟨W2.heap.size, 1, none⟩ = some (.int .i64 l) := hn4.cell 1
         have f2 : w4.cell? ⟨W2.heap.size, 2, none⟩ = some (.int .i64 h) := hn4.cell 2
         have f3 : w4.cell? ⟨sb, 0, none⟩ = some (.pointer (some ⟨b, 0, none⟩)) := hc4.s.cell 0
         have f4 : w4.cell? ⟨fb, 0, none⟩ = some (.func (.func 85) #[] #[.pointer (some ⟨sb, 0, none⟩), .pointer (some ⟨vb, 0, none⟩), .pointer (some ⟨tb, 0, none⟩), .pointer (some ⟨kb, 0, none⟩), .pointer (some ⟨fb, 0, none⟩)]) := hc4.f.cell 0)
      | (go_at_call 73
         (with_reducible refine (node_any hs4 u r3 r4 hnd (by omega)).mono ?_)
         rintro e w5 ⟨F5, rfl, hs5, hk5, hF5⟩
         have hsz4 := hk4.size
         have hn5 := hn4.keep hk5 hnF4
         have hc5 := hc4.keep hk5 hcF4
         have hm5 : MapInt w5 mt M4 := hm4.block (hk5.block mt hm4.lt hmF4)
         have i0 : w5.cell? ⟨W2.heap.size, 0, none⟩ = some (.int .i64 u) := hn5.cell 0
         have i1 : w5.cell? ⟨W2.heap.size, 1, none⟩ = some (.int .i64 l) := hn5.cell 1
         have i2 : w5.cell? ⟨W2.heap.size, 2, none⟩ = some (.int .i64 h) := hn5.cell 2
         have i3 : w5.cell? ⟨sb, 0, none⟩ = some (.pointer (some ⟨b, 0, none⟩)) := hc5.s.cell 0
         have i4 : w5.cell? ⟨fb, 0, none⟩ = some (.func (.func 85) #[] #[.pointer (some ⟨sb, 0, none⟩), .pointer (some ⟨vb, 0, none⟩), .pointer (some ⟨tb, 0, none⟩), .pointer (some ⟨kb, 0, none⟩), .pointer (some ⟨fb, 0, none⟩)]) := hc5.f.cell 0))
  have p4 : w5.cell? ⟨kb, 0, none⟩ = some (.map (some mt)) := hc5.k.cell 0
  generalize hmk : mk N4 u r3 r4 = mkr at *
  obtain ⟨rr, N5⟩ := mkr
  simp only at hs5 P5
  go_wp2_with (first
    | (at_mapUpdate
       refine wpList_mapT (by rfl) hm5 encInt Tryd.underlying99 (x := j + 2) (by unfold tiny; omega) rr (.tmp 56) (.tmp 57) (.tmp 58) (by rfl) (by rfl) (by rfl) (by rfl) ?_
       intro w6 hm6 hg6 hsz6))
  go_ret
  have hs6 : Sto w6 b N5 G4 F5 := hs5.block fun x hx => hg6.block x (hs5.lt x hx) (fun e => by
    have e' : x = mt := by simpa using e
    subst e'
    rcases hF5 _ hx with h | h
    · exact hmF4 h
    · have := hm4.lt; omega)
  have k1 : Keep (fun k => F k ∨ k = mt) w (W2.alloc (.cells #[.int .i64 u, .int .i64 l, .int .i64 h] 74)).drew := hkN.mono fun _ _ h => h.elim
  have hm0 : mt < w.heap.size ∨ w.heap.size ≤ mt := by omega
  have k6 : Keep (fun k => F5 k ∨ k = mt) w5 w6 := (Keep.refl _ _).grown hg6 fun k hk => .inl (.inr (by simpa using hk.symm))
  have lift : ∀ {Fa Fb : Nat → Prop} {wa : World}, (∀ k, Fb k → Fa k ∨ wa.heap.size ≤ k) → ∀ k, (Fb k ∨ k = mt) → (Fa k ∨ k = mt) ∨ wa.heap.size ≤ k := fun h k hk => by
    rcases hk with hk | hk
    · rcases h k hk with h | h
      · exact .inl (.inl h)
      · exact .inr h
    · exact .inl (.inr hk)
  have hall := grow_trans (F := fun k => F k ∨ k = mt) (F1 := fun k => F k ∨ k = mt) ⟨k1, fun k h => .inl h⟩ (grow_trans (F1 := fun k => F3 k ∨ k = mt) ⟨hk3, lift hF3⟩ (grow_trans (F1 := fun k => F4 k ∨ k = mt) ⟨hk4, lift hF4⟩
    (grow_trans (F1 := fun k => F5 k ∨ k = mt) ⟨hk5.mono fun _ _ h => .inl h, lift hF5⟩ ⟨k6, fun k (h : F5 k ∨ k = mt) => .inl h⟩)))
  refine ⟨F5, N5, G4, fun y => if y = j + 2 then some rr else M4 y, rr, rfl, hs6, hm6.congr fun x => by by_cases hx : x = j + 2 <;> simp [hx], P5, hall.1, fun k hk => ?_⟩
  have z1 := hkN.size
  have z3 := hk3.size
  have z4 := hk4.size
  rcases hF5 k hk with h | h
  · rcases hF4 k h with h | h
    · rcases hF3 k h with h | h
      · exact .inl h
      · exact .inr (by omega)
    · exact .inr (by omega)
  · exact .inr (by omega)

theorem r_fuel : ∀ n, RIH b sb vb tb kb fb mt v t n ∨ 24 ≤ v := by
  intro n
  by_cases hv24 : 24 ≤ v
  · exact .inr hv24
  refine .inl ?_
  induction n with
  | zero =>
    intro w N G M F i hs hm hc hcF hmF A B C hi hn hN
    have := Dd.var_le A hi
    exact r_past hs hm hc A B C i hi (by omega) (by omega)
  | succ n ih =>
    intro w N G M F i hs hm hc hcF hmF A B C hi hn hN
    by_cases h1 : v < var N i
    · exact r_past hs hm hc A B C i hi (by omega) h1
    · by_cases h2 : var N i = v
      · exact r_at hs hm hc A B C i hi (by omega) h2 (by omega)
      · cases hr : M i with
        | some r => exact r_known hs hm hc A B C i r hi (by omega) (by omega) hr
        | none => exact r_rec ih hs hm hc hcF hmF A B C i hi hn hN (by omega) (by omega) hr
end
end Go.Proofs.YtgdmcidcappkpaaDoor
namespace Go.Proofs.YtgdmcidcappkpaaDoor
open Go.RowKit
open Dd (var lo mk PhRel PMemo rf atP MemoOk den)

theorem Bk.new' (w : World) (t : TypeId) (cs : Array Value) {k : Nat} (h : k = w.heap.size) : Bk (w.alloc (.cells cs t)) k t cs := h ▸ Bk.new w t cs

theorem ph_op {Φ : BF → BF} {N N' : List Nd} {i r : Nat} {G' : Nd → Option Nat} {M' : Nat → Option Nat} (P : PhRel Φ N i r N' G' M') (hN : N.length ≤ 1000000000000) :
    OpRel N (Φ (den N i)) r N' G' ∧ N'.length ≤ N.length + 419430400 := by
  have h1 : 2 ^ (24 - var N i) ≤ 2 ^ 24 := Nat.pow_le_pow_right (by omega) (by omega)
  have h2 : (25 - var N i) * 2 ^ (24 - var N i) ≤ 25 * 2 ^ 24 := Nat.mul_le_mul (by omega) h1
  have := P.len
  exact ⟨⟨P.pre, P.good, P.memo, P.lt, P.den, by omega⟩, by omega⟩

set_option maxRecDepth 100000 in
theorem restrict_any {b : Nat} {F : Nat → Prop} {w : World} {N : List Nd} {G : Nd → Option Nat} (hs : Sto w b N G F) (A : Dd.Good N) (B : MemoOk N G) (i v : Nat) (t : Bool) (hi : i < N.length + 2) (hv : v < 24) (hN : N.length ≤ 600000000000) :
    Calls Tryd.prog 80 #[.pointer (some ⟨b, 0, none⟩), .int .i64 i, .int .i64 v, .bool t] w (StoPost b F w (fun r N' G' => OpRel N (rf v t (den N i)) r N' G' ∧ N'.length ≤ N.length + 419430400)) := by
  have hmm := @run_makeMap Tryd.prog
  have HP : Hid (∀ r N' G' M', PhRel (rf v t) N i r N' G' M' → OpRel N (rf v t (den N i)) r N' G' ∧ N'.length ≤ N.length + 419430400) := Lib.hid fun r N' G' M' P => ph_op P (by omega)
  have HC : Hid (∀ (w1 : World) (mt sb vb tb kb fb : Nat), RCaps w1 b sb vb tb kb fb mt v t → MapInt w1 mt (fun _ => none) → Keep NoF w w1 → (∀ k ∈ mt :: rcaps sb vb tb kb fb, w.heap.size ≤ k) →
      Calls Tryd.prog 85 #[.int .i64 i, .pointer (some ⟨sb, 0, none⟩), .pointer (some ⟨vb, 0, none⟩), .pointer (some ⟨tb, 0, none⟩), .pointer (some ⟨kb, 0, none⟩), .pointer (some ⟨fb, 0, none⟩)] w1 (fun e w' => ∃ F' N' G' r, e = .returned (.int .i64 (r : Nat)) ∧ Sto w' b N' G' F' ∧
        (OpRel N (rf v t (den N i)) r N' G' ∧ N'.length ≤ N.length + 419430400) ∧ Keep F w w' ∧ ∀ k, F' k → F k ∨ w.heap.size ≤ k)) := Lib.hid fun w1 mt sb vb tb kb fb hc hm hk hge => by
    have hF : ∀ k, F k → k < w.heap.size := hs.lt
    have hl : N.length + (25 - var N i) * 2 ^ (24 - var N i) ≤ 1099500000000 := by
      have h1 : 2 ^ (24 - var N i) ≤ 2 ^ 24 := Nat.pow_le_pow_right (by omega) (by omega)
      have h2 : (25 - var N i) * 2 ^ (24 - var N i) ≤ 25 * 2 ^ 24 := Nat.mul_le_mul (by omega) h1
      omega
    rcases r_fuel (b := b) (sb := sb) (vb := vb) (tb := tb) (kb := kb) (fb := fb) (mt := mt) (v := v) (t := t) 24 with h | h
    · refine (h w1 N G _ F i (hs.kept hk fun _ _ h => h) hm hc (fun k hk' h => by have := hge k (by simp [hk']); have := hF k h; omega) (fun h => by have := hge mt (by simp); have := hF mt h; omega) A B (PMemo.none _ _) hi (by omega) hl).mono ?_
      rintro e w' ⟨F', N', G', M', r, he, hs', hm', P, hk', hF'⟩
      refine ⟨F', N', G', r, he, hs', HP.out _ _ _ _ P, ?_, fun k hk2 => ?_⟩
      · exact (hk.mono (fun _ _ h => h.elim)).trans hk' fun k hk2 h => by
          rcases h with h | h
          · exact h
          · have := hge mt (by simp); omega
      · rcases hF' k hk2 with h | h
        · exact .inl h
        · exact .inr (Nat.le_trans hk.size h)
    · omega
  have hk6 : ∀ (o1 o2 o3 o4 o5 o6 : Obj), Keep NoF w ((((((w.alloc o1).alloc o2).alloc o3).alloc o4).alloc o5).alloc o6) := fun o1 o2 o3 o4 o5 o6 => ((((((Keep.refl _ _).alloc _).alloc _).alloc _).alloc _).alloc _).alloc _
  have HF : Hid (∀ k, F k → k < w.heap.size) := Lib.hid hs.lt
  clear hs A B HP
  have hm3 := MapT.new (((w.alloc (.cells #[.pointer (some ⟨b, 0, none⟩)] 68)).alloc (.cells #[.int .i64 v] 3)).alloc (.cells #[.bool t] 4)) Tryd.prog 3 inV inV tiny
  have e3 : (((w.alloc (.cells #[.pointer (some ⟨b, 0, none⟩)] 68)).alloc (.cells #[.int .i64 v] 3)).alloc (.cells #[.bool t] 4)).heap.size = w.heap.size + 1 + 1 + 1 := by simp
  rw [e3] at hm3
  have hm4 := hm3.block (w' := (((((w.alloc (.cells #[.pointer (some ⟨b, 0, none⟩)] 68)).alloc (.cells #[.int .i64 v] 3)).alloc (.cells #[.bool t] 4)).alloc (.map #[] 0)).alloc (.cells #[.map (some (w.heap.size + 1 + 1 + 1))] 99))) (Below.heap_alloc _ _ _ hm3.lt)
  have hm5 := hm4.block (w' := ((((((w.alloc (.cells #[.pointer (some ⟨b, 0, none⟩)] 68)).alloc (.cells #[.int .i64 v] 3)).alloc (.cells #[.bool t] 4)).alloc (.map #[] 0)).alloc (.cells #[.map (some (w.heap.size + 1 + 1 + 1))] 99)).alloc (.cells #[.func (.func 85) #[] #[.pointer (some ⟨w.heap.size, 0, none⟩), .pointer (some ⟨w.heap.size + 1, 0, none⟩), .pointer (some ⟨w.heap.size + 1 + 1, 0, none⟩), .pointer (some ⟨w.heap.size + 1 + 1 + 1 + 1, 0, none⟩), .pointer (some ⟨w.heap.size + 1 + 1 + 1 + 1 + 1, 0, none⟩)]] 90))) (Below.heap_alloc _ _ _ hm4.lt)
  have HX := Lib.hid (HC.out ((((((w.alloc (.cells #[.pointer (some ⟨b, 0, none⟩)] 68)).alloc (.cells #[.int .i64 v] 3)).alloc (.cells #[.bool t] 4)).alloc (.map #[] 0)).alloc (.cells #[.map (some (w.heap.size + 1 + 1 + 1))] 99)).alloc (.cells #[.func (.func 85) #[] #[.pointer (some ⟨w.heap.size, 0, none⟩), .pointer (some ⟨w.heap.size + 1, 0, none⟩), .pointer (some ⟨w.heap.size + 1 + 1, 0, none⟩), .pointer (some ⟨w.heap.size + 1 + 1 + 1 + 1, 0, none⟩), .pointer (some ⟨w.heap.size + 1 + 1 + 1 + 1 + 1, 0, none⟩)]] 90)) (w.heap.size + 1 + 1 + 1) w.heap.size (w.heap.size + 1) (w.heap.size + 1 + 1) (w.heap.size + 1 + 1 + 1 + 1) (w.heap.size + 1 + 1 + 1 + 1 + 1)
    ⟨(((((Bk.new' _ _ _ (by simp)).alloc _).alloc _).alloc _).alloc _).alloc _, ((((Bk.new' _ _ _ (by simp)).alloc _).alloc _).alloc _).alloc _, (((Bk.new' _ _ _ (by simp)).alloc _).alloc _).alloc _, (Bk.new' _ _ _ (by simp)).alloc _, Bk.new' _ _ _ (by simp)⟩
    hm5 (hk6 _ _ _ _ _ _) (by
      intro k hk
      simp only [rcaps, List.mem_cons, List.not_mem_nil, or_false] at hk
      omega))
  clear hm3 hm4 hm5 e3 HC
  go_enter Tryd.func80, Tryd.ntmps80
  go_wp2_with (go_at_call 85
               (with_reducible refine HX.out.mono ?_)
               rintro e w2 ⟨F2, N2, G2, r2, rfl, hs2, hR2, hk2, hF2⟩)
  go_ret
  exact ⟨F2, N2, G2, r2, rfl, hs2, hR2, hk2, hF2⟩
end Go.Proofs.YtgdmcidcappkpaaDoor
namespace Go.Proofs.YtgdmcidcappkpaaDoor
open Go.RowKit
open Dd (rf MemoOk den)

def rSem (v : Nat) (t : Bool) : List BF → BF := fun l => rf v t (l.getD 0 (fun _ => false))
set_option maxRecDepth 100000 in
theorem restrict_sem (w0 : World) (ib tb v : Nat) (t : Bool) (hv : v < 24) (hi0 : w0.cell? ⟨ib, 0, none⟩ = some (.int .i64 v)) (ht0 : w0.cell? ⟨tb, 0, none⟩ = some (.bool t)) :
    OpSem w0 79 #[.pointer (some ⟨ib, 0, none⟩), .pointer (some ⟨tb, 0, none⟩)] 1 (rSem v t) := by
  intro w b N G F xs ts hbel hs hg hm hlen hrd hFw hts hN hx
  obtain ⟨x, rfl⟩ : ∃ x, ts = [x] := by
    match ts, hlen with
    | [x], _ => exact ⟨x, rfl⟩
  obtain ⟨bl, off, c, rfl, hc, hcell⟩ := rd_cells hrd (by omega)
  have c0 : w.cell? ⟨bl, off + 0, none⟩ = some (.int .i64 x) := hcell 0 x rfl
  simp only [Nat.add_zero] at c0
  have hx1 := hts x (by simp)
  have hbF := hx bl rfl
  have htF : ¬ F tb := fun h => by have := hFw tb h; have := World.block_lt_of_cell? w0 _ ht0; simp at this; omega
  have hiF : ¬ F ib := fun h => by have := hFw ib h; have := World.block_lt_of_cell? w0 _ hi0; simp at this; omega
  have kb : ∀ (p : Addr) u, w0.cell? p = some u → w.cell? p = some u := fun p u h => (World.cell?_of_block (w := w0) (hbel.block _ (World.block_lt_of_cell? w0 p h))).trans h
  have HI : Hid (Calls Tryd.prog 80 #[.pointer (some ⟨b, 0, none⟩), .int .i64 x, .int .i64 v, .bool t] w.drew (StoPost b F w.drew (fun r N' G' => OpRel N (rf v t (den N x)) r N' G' ∧ N'.length ≤ N.length + 419430400))) := Lib.hid (restrict_any hs.drew hg hm x v t hx1 hv (by omega))
  refine Calls.mono (R := StoPost b F w (fun r N' G' => OpRel N (rf v t (den N x)) r N' G' ∧ N'.length ≤ N.length + 419430400)) ?_ fun e w' ⟨F', N', G', r, he, hs', hR, hk, hF⟩ => ⟨F', N', G', r, he, hs', hR.1, hk, hF⟩
  have d0 : w.drew.cell? ⟨bl, off, none⟩ = some (.int .i64 x) := c0
  have d1 : w.drew.cell? ⟨ib, 0, none⟩ = some (.int .i64 v) := kb _ _ hi0
  have d2 : w.drew.cell? ⟨tb, 0, none⟩ = some (.bool t) := kb _ _ ht0
  clear hs hrd hcell hts hx hlen
  show Calls Tryd.prog 79 #[.pointer (some ⟨b, 0, none⟩), .slice (some ⟨bl, off, none⟩) 1 c, .pointer (some ⟨ib, 0, none⟩), .pointer (some ⟨tb, 0, none⟩)] w _
  go_enter Tryd.func79, Tryd.ntmps79
  go_wp2
  go_region_held3 (fun w' => w'.cell? ⟨bl, off, none⟩ = some (.int .i64 x) ∧ w'.cell? ⟨ib, 0, none⟩ = some (.int .i64 v) ∧ w'.cell? ⟨tb, 0, none⟩ = some (.bool t))
    (first | with_reducible exact ⟨d0, d1, d2⟩ | with_reducible exact ⟨e0, e1, e2⟩)
    ((go_at_call 80
      (with_reducible refine HI.out.mono ?_)
      rintro e w1 ⟨F1, N1, G1, r, rfl, hs1, hR, hk1, hF1⟩
      have e0 : w1.cell? ⟨bl, off, none⟩ = some (.int .i64 x) := hk1.cellv d0 hbF
      have e1 : w1.cell? ⟨ib, 0, none⟩ = some (.int .i64 v) := hk1.cellv d1 hiF
      have e2 : w1.cell? ⟨tb, 0, none⟩ = some (.bool t) := hk1.cellv d2 htF))
  go_wp2
  go_ret
  exact ⟨F1, N1, G1, r, rfl, hs1, hR, hk1.undrew, hF1⟩

def cSem (v : Nat) : List BF → BF := fun l ρ => if (l.getD 1 (fun _ => false)) ρ then rf v true (l.getD 0 (fun _ => false)) ρ else rf v false (l.getD 0 (fun _ => false)) ρ
set_option maxRecDepth 100000 in
theorem compose_sem (w0 : World) (ib v : Nat) (hv : v < 24) (hi0 : w0.cell? ⟨ib, 0, none⟩ = some (.int .i64 v)) : OpSem w0 84 #[.pointer (some ⟨ib, 0, none⟩)] 2 (cSem v) := by
  intro w b N G F xs ts hbel hs hg hm hlen hrd hFw hts hN hx
  obtain ⟨x, y, rfl⟩ : ∃ x y, ts = [x, y] := by
    match ts, hlen with
    | [x, y], _ => exact ⟨x, y, rfl⟩
  obtain ⟨bl, off, c, rfl, hc, hcell⟩ := rd_cells hrd (by omega)
  have c0 : w.cell? ⟨bl, off + 0, none⟩ = some (.int .i64 x) := hcell 0 x rfl
  have c1 : w.cell? ⟨bl, off + 1, none⟩ = some (.int .i64 y) := hcell 1 y rfl
  simp only [Nat.add_zero] at c0
  have hx1 := hts x (by simp)
  have hy1 := hts y (by simp)
  have hbF := hx bl rfl
  have hbw : bl < w.heap.size := World.block_lt_of_cell? w _ c0
  have hiw0 : ib < w0.heap.size := World.block_lt_of_cell? w0 _ hi0
  have hiw : ib < w.heap.size := Nat.lt_of_lt_of_le hiw0 hbel.size
  have hiF : ¬ F ib := fun h => by have := hFw ib h; omega
  have kb : ∀ (p : Addr) u, w0.cell? p = some u → w.cell? p = some u := fun p u h => (World.cell?_of_block (w := w0) (hbel.block _ (World.block_lt_of_cell? w0 p h))).trans h
  have HA : Hid (Calls Tryd.prog 80 #[.pointer (some ⟨b, 0, none⟩), .int .i64 x, .int .i64 v, .bool true] w.drew (StoPost b F w.drew (fun r N' G' => OpRel N (rf v true (den N x)) r N' G' ∧ N'.length ≤ N.length + 419430400))) := Lib.hid (restrict_any hs.drew hg hm x v true hx1 hv (by omega))
  have HB : Hid (∀ w1 N1 G1 F1 r1, Sto w1 b N1 G1 F1 → OpRel N (rf v true (den N x)) r1 N1 G1 → N1.length ≤ N.length + 419430400 →
      Calls Tryd.prog 80 #[.pointer (some ⟨b, 0, none⟩), .int .i64 x, .int .i64 v, .bool false] w1 (StoPost b F1 w1 (fun r N' G' => OpRel N1 (rf v false (den N1 x)) r N' G' ∧ N'.length ≤ N1.length + 419430400))) := Lib.hid fun w1 N1 G1 F1 r1 h1 h2 h3 => by
    have := Dd.len_pre h2.pre
    exact restrict_any h1 h2.good h2.memo x v false (by omega) hv (by omega)
  have HCC : Hid (∀ w2 N1 G1 r1 N2 G2 F2 r2, Sto w2 b N2 G2 F2 → OpRel N (rf v true (den N x)) r1 N1 G1 → N1.length ≤ N.length + 419430400 → OpRel N1 (rf v false (den N1 x)) r2 N2 G2 → N2.length ≤ N1.length + 419430400 →
      Calls Tryd.prog 54 #[.pointer (some ⟨b, 0, none⟩), .int .i64 y, .int .i64 r1, .int .i64 r2] w2 (StoPost b F2 w2 (fun r N' G' => OpRel N (cSem v ([x, y].map (den N))) r N' G'))) := Lib.hid fun w2 N1 G1 r1 N2 G2 F2 r2 h1 h2 h3 h4 h5 => by
    have l1 := Dd.len_pre h2.pre
    have l2 := Dd.len_pre h4.pre
    have q1 := h2.lt
    refine (ite_any h1 h4.good h4.memo y r1 r2 (by omega) (by omega) h4.lt (by omega)).mono fun e w' ⟨F', N', G', r, he, hs', hR, hk, hF⟩ => ⟨F', N', G', r, he, hs', ?_, hk, hF⟩
    have hl := hR.len
    have : 2 ^ (24 - min (Dd.var N2 y) (min (Dd.var N2 r1) (Dd.var N2 r2))) ≤ 2 ^ 24 := Nat.pow_le_pow_right (by omega) (by omega)
    refine ⟨(h2.pre.trans h4.pre).trans hR.pre, hR.good, hR.memo, hR.lt, fun ρ => ?_, by omega⟩
    rw [hR.den, Dd.den_pre hg h4.good (h2.pre.trans h4.pre) hy1, Dd.den_pre h2.good h4.good h4.pre q1, h2.den, h4.den, Dd.den_pre' hg h2.good h2.pre hx1]
    rfl
  refine Calls.mono (R := fun e w' => ∃ F' N' G' r, e = .returned (.int .i64 (r : Nat)) ∧ Sto w' b N' G' F' ∧ OpRel N (cSem v ([x, y].map (den N))) r N' G' ∧ Keep F w w' ∧ ∀ k, F' k → F k ∨ w.heap.size ≤ k) ?_ fun e w' h => h
  have d0 : w.drew.cell? ⟨bl, off, none⟩ = some (.int .i64 x) := c0
  have d1 : w.drew.cell? ⟨bl, off + 1, none⟩ = some (.int .i64 y) := c1
  have d2 : w.drew.cell? ⟨ib, 0, none⟩ = some (.int .i64 v) := kb _ _ hi0
  have hsz : w.drew.heap.size = w.heap.size := rfl
  clear hs hrd hcell hts hx hlen hbel
  show Calls Tryd.prog 84 #[.pointer (some ⟨b, 0, none⟩), .slice (some ⟨bl, off, none⟩) 2 c, .pointer (some ⟨ib, 0, none⟩)] w _
  go_enter Tryd.func84, Tryd.ntmps84
  go_wp2
  go_region_held3 (fun w' => w'.cell? ⟨bl, off, none⟩ = some (.int .i64 x) ∧ w'.cell? ⟨bl, off + 1, none⟩ = some (.int .i64 y) ∧ w'.cell? ⟨ib, 0, none⟩ = some (.int .i64 v))
    (first | with_reducible exact ⟨d0, d1, d2⟩ | with_reducible exact ⟨e0, e1, e2⟩ | with_reducible exact ⟨f0, f1, f2⟩ | with_reducible exact ⟨g0, g1, g2⟩)
    (first
      | (go_at_call 80
         (with_reducible refine HA.out.mono ?_)
         rintro e w1 ⟨F1, N1, G1, r1, rfl, hs1, ⟨hR1, hL1⟩, hk1, hF1⟩
         have z1 := hk1.size
         have hbF1 : ¬ F1 bl := fun h => by
           rcases hF1 bl h with h | h
           · exact hbF h
           · omega
         have hiF1 : ¬ F1 ib := fun h => by
           rcases hF1 ib h with h | h
           · exact hiF h
           · omega
         have e0 : w1.cell? ⟨bl, off, none⟩ = some (.int .i64 x) := hk1.cellv d0 hbF
         have e1 : w1.cell? ⟨bl, off + 1, none⟩ = some (.int .i64 y) := hk1.cellv d1 hbF
         have e2 : w1.cell? ⟨ib, 0, none⟩ = some (.int .i64 v) := hk1.cellv d2 hiF)
      | (go_at_call 80
         (with_reducible refine (HB.out w1 N1 G1 F1 r1 hs1 hR1 hL1).mono ?_)
         rintro e w2 ⟨F2, N2, G2, r2, rfl, hs2, ⟨hR2, hL2⟩, hk2, hF2⟩
         have hbF2 : ¬ F2 bl := fun h => by
           rcases hF2 bl h with h | h
           · exact hbF1 h
           · omega
         have hiF2 : ¬ F2 ib := fun h => by
           rcases hF2 ib h with h | h
           · exact hiF1 h
           · omega
         have f0 : w2.cell? ⟨bl, off, none⟩ = some (.int .i64 x) := hk2.cellv e0 hbF1
         have f1 : w2.cell? ⟨bl, off + 1, none⟩ = some (.int .i64 y) := hk2.cellv e1 hbF1
         have f2 : w2.cell? ⟨ib, 0, none⟩ = some (.int .i64 v) := hk2.cellv e2 hiF1)
      | (go_at_call 54
         (with_reducible refine (HCC.out w2 N1 G1 r1 N2 G2 F2 r2 hs2 hR1 hL1 hR2 hL2).mono ?_)
         rintro e w3 ⟨F3, N3, G3, r3, rfl, hs3, hR3, hk3, hF3⟩
         have g0 : w3.cell? ⟨bl, off, none⟩ = some (.int .i64 x) := hk3.cellv f0 hbF2
         have g1 : w3.cell? ⟨bl, off + 1, none⟩ = some (.int .i64 y) := hk3.cellv f1 hbF2
         have g2 : w3.cell? ⟨ib, 0, none⟩ = some (.int .i64 v) := hk3.cellv f2 hiF2))
  go_wp2
  go_ret
  have hgt := grow_trans (w := w.drew) ⟨hk1, hF1⟩ (grow_trans ⟨hk2, hF2⟩ ⟨hk3, hF3⟩)
  exact ⟨F3, N3, G3, r3, rfl, hs3, hR3, hgt.1.undrew, hgt.2⟩
end Go.Proofs.YtgdmcidcappkpaaDoor
