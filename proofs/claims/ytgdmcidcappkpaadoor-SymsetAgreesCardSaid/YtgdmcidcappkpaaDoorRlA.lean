/- Relations between numbers as masks: plain facts on images, boxes, reachable and greatest sets. No condition. -/
import Derived.Test.YtgdmcidcappkpaaDoorSyP
import Derived.Test.YtgdmcidcappkpaaDoorRlB
set_option linter.unusedVariables false
set_option linter.unusedSimpArgs false
namespace Go.Proofs.YtgdmcidcappkpaaDoor
open Go.RowKit
open Dd (imN prN boN cvN enc)

/-- The bits of a that b lacks. -/
def adN (a b : Nat) : Nat := a &&& (18446744073709551615 - b)
theorem not_bit {b : Nat} (hb : b < 18446744073709551616) (i : Nat) : (18446744073709551615 - b).testBit i = (decide (i < 64) && !b.testBit i) := by
  have := Nat.testBit_two_pow_sub_succ (n := 64) (x := b) (by omega) i
  rw [show 18446744073709551615 - b = 2 ^ 64 - (b + 1) by omega]
  exact this
theorem bit_lt64 {b i : Nat} (hb : b < 18446744073709551616) (h : b.testBit i = true) : i < 64 := by
  false_or_by_contra
  rename_i hn
  have : b < 2 ^ i := Nat.lt_of_lt_of_le hb (Nat.pow_le_pow_right (n := 2) (i := 64) (by omega) (by omega))
  rw [Nat.testBit_lt_two_pow this] at h
  cases h
theorem adN_bit {a b : Nat} (ha : a < 18446744073709551616) (hb : b < 18446744073709551616) (i : Nat) : (adN a b).testBit i = (a.testBit i && !b.testBit i) := by
  unfold adN
  rw [Nat.testBit_and, not_bit hb]
  cases h : a.testBit i
  · rfl
  · simp [bit_lt64 ha h]
def Sub (S T : Nat) : Prop := ∀ i, S.testBit i = true → T.testBit i = true
theorem Sub.le {S T : Nat} (h : Sub S T) : S ≤ T := by
  have : S &&& T = S := by
    apply Nat.eq_of_testBit_eq
    intro i
    rw [Nat.testBit_and]
    cases e : S.testBit i
    · rfl
    · rw [h i e]; rfl
  rw [← this]
  exact Nat.and_le_right
theorem Sub.antisymm {S T : Nat} (h : Sub S T) (k : Sub T S) : S = T := Nat.le_antisymm h.le k.le
theorem Sub.trans {S T U : Nat} (h : Sub S T) (k : Sub T U) : Sub S U := fun i hi => k i (h i hi)
theorem adN_zero {a b : Nat} (ha : a < 18446744073709551616) (hb : b < 18446744073709551616) : adN a b = 0 ↔ Sub a b := by
  constructor
  · intro h i hi
    have := adN_bit ha hb i
    rw [h, hi, Nat.zero_testBit] at this
    cases e : b.testBit i
    · rw [e] at this; simp at this
    · rfl
  · intro h
    apply Nat.eq_of_testBit_eq
    intro i
    rw [adN_bit ha hb, Nat.zero_testBit]
    cases e : a.testBit i
    · rfl
    · rw [h i e]; rfl
theorem iterN_shift (σ : Nat → Nat) (S : Nat) : ∀ m, iterN σ (m + 1) S = iterN σ m (σ S)
  | 0 => rfl
  | m + 1 => congrArg σ (iterN_shift σ S m)
theorem fix_up {N : Nat} (σ : Nat → Nat) (h : ∀ S, S < 2 ^ N → S ≤ σ S ∧ σ S < 2 ^ N) : ∀ d S, S < 2 ^ N → 2 ^ N - S ≤ d → ∃ m, σ (iterN σ m S) = iterN σ m S
  | 0, S, hS, hd => by omega
  | d + 1, S, hS, hd => by
    by_cases e : σ S = S
    · exact ⟨0, e⟩
    · have := h S hS
      obtain ⟨m, hm⟩ := fix_up σ h d (σ S) this.2 (by omega)
      exact ⟨m + 1, by rw [iterN_shift]; exact hm⟩
theorem fix_down (σ : Nat → Nat) (hm : ∀ S T, Sub S T → Sub (σ S) (σ T)) : ∀ d S, Sub (σ S) S → S ≤ d → ∃ m, σ (iterN σ m S) = iterN σ m S
  | 0, S, h, hd => by
    obtain rfl : S = 0 := by omega
    exact ⟨0, Nat.le_antisymm h.le (by simp [iterN])⟩
  | d + 1, S, h, hd => by
    by_cases e : σ S = S
    · exact ⟨0, e⟩
    · have := h.le
      obtain ⟨m, hm⟩ := fix_down σ hm d (σ S) (hm _ _ h) (by omega)
      exact ⟨m + 1, by rw [iterN_shift]; exact hm⟩
theorem boN_bit (k : Nat) (R : List Nat) (S v : Nat) : (boN k R S).testBit v = true ↔ v < 2 ^ k ∧ ∀ w, w < 2 ^ k → (R.getD v 0).testBit w = true → S.testBit w = true := by
  unfold boN
  rw [Dd.enc_bit]
  simp only [Bool.and_eq_true, decide_eq_true_eq, List.all_eq_true, List.mem_range]
  constructor
  · rintro ⟨h, g⟩
    refine ⟨h, fun w hw hr => ?_⟩
    have := g w hw
    rw [hr] at this
    simpa using this
  · rintro ⟨h, g⟩
    refine ⟨h, fun w hw => ?_⟩
    cases e : (R.getD v 0).testBit w
    · rfl
    · rw [g w hw e]; rfl
theorem imN_bit (k : Nat) (R : List Nat) (S w : Nat) : (imN k R S).testBit w = true ↔ w < 2 ^ k ∧ ∃ v, v < 2 ^ k ∧ S.testBit v = true ∧ (R.getD v 0).testBit w = true := by
  unfold imN
  rw [Dd.enc_bit]
  simp only [Bool.and_eq_true, decide_eq_true_eq, List.any_eq_true, List.mem_range]
theorem prN_bit (k : Nat) (R : List Nat) (S v : Nat) : (prN k R S).testBit v = true ↔ v < 2 ^ k ∧ ∃ w, w < 2 ^ k ∧ (R.getD v 0).testBit w = true ∧ S.testBit w = true := by
  unfold prN
  rw [Dd.enc_bit]
  simp only [Bool.and_eq_true, decide_eq_true_eq, List.any_eq_true, List.mem_range]
theorem coN_bit (k C v : Nat) : (coN k C).testBit v = true ↔ v < 2 ^ k ∧ C.testBit v = false := by
  unfold coN
  rw [Dd.enc_bit]
  simp
theorem alN_bit (k v : Nat) : (alN k).testBit v = true ↔ v < 2 ^ k := by
  unfold alN
  rw [Dd.enc_bit]
  simp
/-- The operations of package relation. -/
def bxN (R : List Nat) (s : Nat) : Nat := enc R.length fun w => decide (adN (R.getD w 0) s = 0)
def dmN (R : List Nat) (s : Nat) : Nat := adN (2 ^ R.length - 1) (bxN R (18446744073709551615 - s))
def mapN (R : List Nat) (s : Nat) : Nat := (mem s).foldl (fun o w => o ||| R.getD w 0) 0
def rvN (R : List Nat) : List Nat := (List.range R.length).map fun v => enc R.length fun w => (R.getD w 0).testBit v

theorem mem_iff {s x : Nat} (hs : s < 18446744073709551616) : x ∈ mem s ↔ s.testBit x = true := by
  unfold mem memTo
  rw [List.mem_filter, List.mem_range]
  exact ⟨fun h => h.2, fun h => ⟨bit_lt64 hs h, h⟩⟩
theorem fold_bit (R : List Nat) (i : Nat) : ∀ (l : List Nat) (o : Nat), (l.foldl (fun o w => o ||| R.getD w 0) o).testBit i = (o.testBit i || l.any fun w => (R.getD w 0).testBit i)
  | [], o => by simp
  | w :: l, o => by rw [List.foldl_cons, fold_bit R i l, Nat.testBit_or, List.any_cons, Bool.or_assoc]
theorem mapN_bit {R : List Nat} {s : Nat} (hs : s < 18446744073709551616) (i : Nat) : (mapN R s).testBit i = true ↔ ∃ v, s.testBit v = true ∧ (R.getD v 0).testBit i = true := by
  unfold mapN
  rw [fold_bit, Nat.zero_testBit, Bool.false_or, List.any_eq_true]
  exact ⟨fun ⟨v, hv, h⟩ => ⟨v, (mem_iff hs).1 hv, h⟩, fun ⟨v, hv, h⟩ => ⟨v, (mem_iff hs).2 hv, h⟩⟩
theorem bit_small {x n i : Nat} (h : x < 2 ^ n) (hb : x.testBit i = true) : i < n := by
  false_or_by_contra
  rename_i hn
  have : x < 2 ^ i := Nat.lt_of_lt_of_le h (Nat.pow_le_pow_right (by omega) (by omega))
  rw [Nat.testBit_lt_two_pow this] at hb
  cases hb
section
variable {k : Nat} {R : List Nat} (hk : k ≤ 6) (hl : R.length = 2 ^ k) (hR : ∀ x ∈ R, x < 2 ^ 2 ^ k)
include hl hR
theorem row_lt (v : Nat) : R.getD v 0 < 2 ^ 2 ^ k := by
  by_cases h : v < R.length
  · rw [List.getD_eq_getElem?_getD, List.getElem?_eq_getElem h]
    exact hR _ (List.getElem_mem h)
  · rw [List.getD_eq_getElem?_getD, List.getElem?_eq_none (by omega)]
    exact Nat.two_pow_pos _
theorem map_eq {s : Nat} (hs : s < 18446744073709551616) : mapN R s = imN k R s := by
  apply Nat.eq_of_testBit_eq
  intro i
  rw [Bool.eq_iff_iff, mapN_bit hs, imN_bit]
  constructor
  · rintro ⟨v, hv, h⟩
    refine ⟨bit_small (row_lt hl hR v) h, v, ?_, hv, h⟩
    rw [← hl]
    false_or_by_contra
    rename_i hn
    rw [List.getD_eq_getElem?_getD, List.getElem?_eq_none (by omega)] at h
    simp at h
  · rintro ⟨-, v, -, hv, h⟩
    exact ⟨v, hv, h⟩
include hk
theorem row_lt64 (v : Nat) : R.getD v 0 < 18446744073709551616 := by
  refine Nat.lt_of_lt_of_le (row_lt hl hR v) ?_
  have h6 : 2 ^ k ≤ 2 ^ 6 := Nat.pow_le_pow_right (by omega) hk
  exact Nat.pow_le_pow_right (n := 2) (j := 64) (by omega) h6
theorem box_eq {s : Nat} (hs : s < 18446744073709551616) : bxN R s = boN k R s := by
  apply Nat.eq_of_testBit_eq
  intro i
  rw [Bool.eq_iff_iff, boN_bit]
  unfold bxN
  rw [Dd.enc_bit, hl]
  simp only [Bool.and_eq_true, decide_eq_true_eq]
  rw [adN_zero (row_lt64 hk hl hR i) hs]
  refine and_congr Iff.rfl ⟨fun h w _ hw => h w hw, fun h w hw => h w (bit_small (row_lt hl hR i) hw) hw⟩
theorem dia_eq {s : Nat} (hs : s < 18446744073709551616) : dmN R s = prN k R s := by
  have h6 : 2 ^ k ≤ 2 ^ 6 := Nat.pow_le_pow_right (by omega) hk
  have hlt : 2 ^ 2 ^ k ≤ 2 ^ 64 := Nat.pow_le_pow_right (by omega) h6
  have h0 := Nat.two_pow_pos (2 ^ k)
  apply Nat.eq_of_testBit_eq
  intro i
  unfold dmN
  have hb : boN k R (18446744073709551615 - s) < 18446744073709551616 := Nat.lt_of_lt_of_le (boN_lt k R _) hlt
  rw [hl, box_eq hk hl hR (by omega), adN_bit (by omega) hb, Nat.testBit_two_pow_sub_one, Bool.eq_iff_iff, prN_bit]
  simp only [Bool.and_eq_true, decide_eq_true_eq, Bool.not_eq_true']
  refine and_congr_right fun hi => ?_
  rw [← Bool.not_eq_true, boN_bit]
  constructor
  · intro h
    false_or_by_contra
    rename_i hn
    refine h ⟨hi, fun w hw hr => ?_⟩
    rw [not_bit hs]
    have hw6 : w < 64 := by omega
    simp only [hw6, decide_true, Bool.true_and, Bool.not_eq_true']
    cases e : s.testBit w
    · rfl
    · exact absurd ⟨w, hw, hr, e⟩ hn
  · rintro ⟨w, hw, hr, e⟩ ⟨-, h⟩
    have := h w hw hr
    rw [not_bit hs, e] at this
    simp at this
omit hk hR in
theorem rev_eq : rvN R = cvN k R := by
  unfold rvN cvN
  rw [hl]
end
/-- Reach ends. -/
theorem reach_end (k : Nat) (R : List Nat) (S : Nat) (hS : S < 2 ^ 2 ^ k) : ∃ m, reS k R (iterN (reS k R) m S) = iterN (reS k R) m S :=
  fix_up (reS k R) (fun S h => ⟨Nat.left_le_or, Nat.or_lt_two_pow h (imN_lt k R S)⟩) _ S hS (Nat.le_refl _)
theorem pa_mono (k : Nat) (R : List Nat) (C T S S' : Nat) (h : Sub S S') : Sub (paS k R C T S) (paS k R C T S') := fun i hi => by
  unfold paS at *
  rw [boN_bit] at *
  refine ⟨hi.1, fun w hw hr => ?_⟩
  have := hi.2 w hw hr
  rw [Nat.testBit_or, Nat.testBit_and, Bool.or_eq_true, Bool.and_eq_true] at *
  exact this.imp id fun hh => ⟨hh.1, h _ hh.2⟩
theorem sub_al (k S : Nat) (h : S < 2 ^ 2 ^ k) : Sub S (alN k) := fun i hi => (alN_bit k i).2 (bit_small h hi)
theorem path_end (k : Nat) (R : List Nat) (C T : Nat) : ∃ m, paS k R C T (iterN (paS k R C T) m (alN k)) = iterN (paS k R C T) m (alN k) :=
  fix_down (paS k R C T) (pa_mono k R C T) _ (alN k) (sub_al k _ (boN_lt k R _)) (Nat.le_refl _)
/-- Whatever is contained in its step is contained in the result. -/
theorem path_great (k : Nat) (R : List Nat) (C T Z : Nat) (hZ : Z < 2 ^ 2 ^ k) (h : Sub Z (paS k R C T Z)) : ∀ m, Sub Z (iterN (paS k R C T) m (alN k))
  | 0 => sub_al k Z hZ
  | m + 1 => h.trans (pa_mono k R C T _ _ (path_great k R C T Z hZ h m))
theorem im_mono (k : Nat) (R : List Nat) {S S' : Nat} (h : Sub S S') : Sub (imN k R S) (imN k R S') := fun i hi => by
  rw [imN_bit] at *
  obtain ⟨h1, v, hv, hs, hr⟩ := hi
  exact ⟨h1, v, hv, h v hs, hr⟩
theorem sub_or {A B C : Nat} (h : Sub A C) (k : Sub B C) : Sub (A ||| B) C := fun i hi => by
  rw [Nat.testBit_or, Bool.or_eq_true] at hi
  exact hi.elim (h i) (k i)
theorem or_fix {A B : Nat} (h : A ||| B = A) : Sub B A := fun i hi => by
  rw [← h, Nat.testBit_or, hi, Bool.or_true]
theorem re_inv (k : Nat) (R : List Nat) (S X : Nat) (h : Sub S X) (hX : Sub (imN k R X) X) : ∀ m, Sub (iterN (reS k R) m S) X
  | 0 => h
  | m + 1 => sub_or (re_inv k R S X h hX m) ((im_mono k R (re_inv k R S X h hX m)).trans hX)
theorem re_base (k : Nat) (R : List Nat) (S : Nat) : ∀ m, Sub S (iterN (reS k R) m S)
  | 0 => fun _ h => h
  | m + 1 => fun i hi => by
    have := re_base k R S m i hi
    show (iterN (reS k R) m S ||| imN k R (iterN (reS k R) m S)).testBit i = true
    rw [Nat.testBit_or, this, Bool.true_or]
/-- The states that can only reach a set. -/
theorem only_reach (k : Nat) (R : List Nat) (s : Nat) (hR : ∀ v, R.getD v 0 < 2 ^ 2 ^ k) (m : Nat) (hm : paS k R (alN k) s (iterN (paS k R (alN k) s) m (alN k)) = iterN (paS k R (alN k) s) m (alN k))
    (mr : Nat → Nat) (hr : ∀ v, v < 2 ^ k → reS k R (iterN (reS k R) (mr v) (imN k R (2 ^ v))) = iterN (reS k R) (mr v) (imN k R (2 ^ v))) (v : Nat) (hv : v < 2 ^ k) :
    (iterN (paS k R (alN k) s) m (alN k)).testBit v = true ↔ Sub (iterN (reS k R) (mr v) (imN k R (2 ^ v))) s := by
  have step : ∀ Z u, (paS k R (alN k) s Z).testBit u = true ↔ u < 2 ^ k ∧ ∀ w, w < 2 ^ k → (R.getD u 0).testBit w = true → s.testBit w = true ∧ Z.testBit w = true := fun Z u => by
    unfold paS
    rw [boN_bit]
    refine and_congr_right fun _ => forall_congr' fun w => forall_congr' fun hw => forall_congr' fun _ => ?_
    rw [Nat.testBit_or, Nat.testBit_and, Bool.or_eq_true, Bool.and_eq_true]
    refine ⟨fun h => h.elim (fun h => ?_) id, Or.inr⟩
    rw [coN_bit] at h
    rw [(alN_bit k w).2 hw] at h
    cases h.2
  constructor
  · intro hY
    have hcl : ∀ u, (iterN (paS k R (alN k) s) m (alN k)).testBit u = true → ∀ w, (R.getD u 0).testBit w = true → s.testBit w = true ∧ (iterN (paS k R (alN k) s) m (alN k)).testBit w = true := fun u hu w hw => by
      rw [← hm] at hu
      exact ((step _ u).1 hu).2 w (bit_small (hR u) hw) hw
    generalize iterN (paS k R (alN k) s) m (alN k) = Y at *
    refine (re_inv k R _ (s &&& Y) ?_ ?_ _).trans ?_
    · intro i hi
      obtain ⟨-, u, -, hu, hri⟩ := (imN_bit k R _ i).1 hi
      rw [Nat.testBit_two_pow, decide_eq_true_eq] at hu
      subst hu
      have := hcl v hY i hri
      rw [Nat.testBit_and, this.1, this.2]; rfl
    · intro i hi
      obtain ⟨-, u, -, hu, hri⟩ := (imN_bit k R _ i).1 hi
      rw [Nat.testBit_and, Bool.and_eq_true] at hu
      have := hcl u hu.2 i hri
      rw [Nat.testBit_and, this.1, this.2]; rfl
    · intro i hi
      rw [Nat.testBit_and, Bool.and_eq_true] at hi
      exact hi.1
  · intro hS
    have key : ∀ u, u < 2 ^ k → Sub (iterN (reS k R) (mr u) (imN k R (2 ^ u))) s → ∀ w, w < 2 ^ k → (R.getD u 0).testBit w = true → s.testBit w = true ∧ Sub (iterN (reS k R) (mr w) (imN k R (2 ^ w))) s := fun u hu hsu w hw hr2 => by
      have hin : (imN k R (2 ^ u)).testBit w = true := (imN_bit k R _ w).2 ⟨hw, u, hu, by rw [Nat.testBit_two_pow]; simp, hr2⟩
      have hw1 := re_base k R (imN k R (2 ^ u)) (mr u) w hin
      have hcl : Sub (imN k R (iterN (reS k R) (mr u) (imN k R (2 ^ u)))) (iterN (reS k R) (mr u) (imN k R (2 ^ u))) := or_fix (hr u hu)
      refine ⟨hsu w hw1, (re_inv k R _ _ ?_ hcl _).trans hsu⟩
      intro i hi
      refine hcl i (im_mono k R ?_ i hi)
      intro j hj
      rw [Nat.testBit_two_pow, decide_eq_true_eq] at hj
      subst hj
      exact hw1
    have hZ : ∀ u, (enc (2 ^ k) fun u => @decide (Sub (iterN (reS k R) (mr u) (imN k R (2 ^ u))) s) (Classical.propDecidable _)).testBit u = true ↔ u < 2 ^ k ∧ Sub (iterN (reS k R) (mr u) (imN k R (2 ^ u))) s := fun u => by
      rw [Dd.enc_bit, Bool.and_eq_true, decide_eq_true_eq]
      refine and_congr_right fun _ => ?_
      exact @decide_eq_true_iff _ (Classical.propDecidable _)
    refine path_great k R (alN k) s _ (Dd.enc_lt _ _) ?_ m v ((hZ v).2 ⟨hv, hS⟩)
    intro u hu
    obtain ⟨hu1, hu2⟩ := (hZ u).1 hu
    refine (step _ u).2 ⟨hu1, fun w hw hr2 => ?_⟩
    have := key u hu1 hu2 w hw hr2
    exact ⟨this.1, (hZ w).2 ⟨hw, this.2⟩⟩
end Go.Proofs.YtgdmcidcappkpaaDoor
