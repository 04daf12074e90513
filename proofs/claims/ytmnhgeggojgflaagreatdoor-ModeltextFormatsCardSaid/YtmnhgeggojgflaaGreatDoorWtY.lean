/- The text of a set: plain facts on how it is read. No condition. -/
import Derived.Test.YtmnhgeggojgflaaGreatDoorWtN
import Derived.Lib.SplitLaws
import Derived.Lib.IndexBytes
set_option linter.unusedVariables false
set_option linter.unusedSimpArgs false
namespace Go.Proofs.YtmnhgeggojgflaaGreatDoor.Ws
open Go.RowKit

/-- The fields between the spaces. -/
def flds : List UInt8 → List (List UInt8)
  | [] => [[]]
  | b :: l => if b = 32 then [] :: flds l else (b :: (flds l).headD []) :: (flds l).tail
/-- The value of digits, from a number on. -/
def dgs : List UInt8 → Nat → Option Nat
  | [], n => some n
  | c :: r, n => if c.toNat < 48 ∨ 57 < c.toNat then none else dgs r (10 * n + (c.toNat - 48))
def numF (f : List UInt8) : Option Nat := if f.length < 1 ∨ 9 < f.length ∨ (1 < f.length ∧ f.headD 0 = 48) then none else dgs f 0
def nums : List (List UInt8) → Option (List Nat)
  | [] => some []
  | f :: r => match numF f with
    | none => none
    | some n => (nums r).map (n :: ·)
/-- The set of ascending numbers. -/
def chk : List Nat → Nat → Int → Nat × Int
  | [], s, _ => (s, 0)
  | n :: r, s, last => if 63 < n then (0, 2) else if (n : Int) ≤ last then (0, 9) else chk r (s ||| 2 ^ n) n
def midL (t : List UInt8) : List UInt8 := (t.drop 1).take (t.length - 2)
def isSet (t : List UInt8) : Prop := 2 ≤ t.length ∧ t.headD 0 = 123 ∧ t.getLastD 0 = 125
def parseS (t : List UInt8) : Nat × Int :=
  if t.length < 2 ∨ t.headD 0 ≠ 123 ∨ t.getLastD 0 ≠ 125 then (0, 4) else if midL t = [] then (0, 0) else match nums (flds (midL t)) with
    | none => (0, 4)
    | some l => chk l 0 (-1)

theorem flds_sp (l : List UInt8) : flds (32 :: l) = [] :: flds l := rfl
theorem flds_ch {b : UInt8} (l : List UInt8) (h : b ≠ 32) : flds (b :: l) = (b :: (flds l).headD []) :: (flds l).tail := by
  rw [flds, if_neg h]
theorem flds_ne (l : List UInt8) : flds l = (flds l).headD [] :: (flds l).tail := by
  cases l with
  | nil => rfl
  | cons b l => unfold flds; split <;> rfl
theorem index_cons (b : UInt8) (l : List UInt8) (h : b ≠ 32) : Lib.index (b :: l) [32] = if Lib.index l [32] == -1 then -1 else Lib.index l [32] + 1 := by
  have hp : ([32] : List UInt8).isPrefixOf (b :: l) = false := by simp [List.isPrefixOf, Ne.symm h]
  rw [Lib.index, hp]
  simp
/-- The library's cut is this cut. -/
theorem split_flds : ∀ l : List UInt8, Lib.splitK [32] 0 (Lib.count l [32]) l = flds l
  | [] => rfl
  | b :: l => by
    have ih := split_flds l
    by_cases h : b = 32
    · subst h
      rw [Lib.count_cons_eq, Nat.add_comm]
      have hix : Lib.index (32 :: l) [32] = 0 := by rw [Lib.index]; simp [List.isPrefixOf]
      unfold Lib.splitK flds
      rw [hix, if_pos rfl]
      simpa using ih
    · rw [Lib.count_cons_ne _ _ _ h]
      have hix := index_cons b l h
      unfold flds
      rw [if_neg h]
      cases hk : Lib.count l [32] with
      | zero =>
        rw [hk] at ih
        rw [← ih]
        rfl
      | succ k =>
        rw [hk] at ih
        have hge := Lib.index_ge l [32]
        by_cases hm : Lib.index l [32] = -1
        · have := Lib.count_miss hm
          omega
        · obtain ⟨j, hj⟩ : ∃ j : Nat, Lib.index l [32] = j := ⟨(Lib.index l [32]).toNat, by omega⟩
          have hix' : Lib.index (b :: l) [32] = ((j + 1 : Nat) : Int) := by rw [hix, if_neg (fun e => hm (beq_iff_eq.1 e)), hj]; omega
          have e1 : ((((j + 1 : Nat) : Int)) == -1) = false := by rw [beq_eq_false_iff_ne]; omega
          have e2 : (((j : Nat) : Int) == -1) = false := by rw [beq_eq_false_iff_ne]; omega
          unfold Lib.splitK at ih ⊢
          rw [hj, e2] at ih
          rw [hix', e1, ← ih]
          simp

def isD (c : UInt8) : Bool := decide (48 ≤ c.toNat) && decide (c.toNat ≤ 57)
theorem flds_app : ∀ (p q : List UInt8), (∀ c ∈ p, c ≠ 32) → flds (p ++ q) = (p ++ (flds q).headD []) :: (flds q).tail
  | [], q, _ => by rw [List.nil_append, List.nil_append]; exact flds_ne q
  | c :: p, q, h => by
    have ih := flds_app p q fun x hx => h x (by simp [hx])
    rw [List.cons_append, flds_ch _ (h c (by simp)), ih]
    rfl
theorem isD_ne {c : UInt8} (h : isD c = true) : c ≠ 32 := by
  rintro rfl
  revert h
  decide
theorem dgs_bad : ∀ (p q : List UInt8) (c : UInt8) (n : Nat), isD c = false → dgs (p ++ c :: q) n = none
  | [], q, c, n, h => by
    unfold isD at h
    simp at h
    show (if c.toNat < 48 ∨ 57 < c.toNat then none else _) = none
    rw [if_pos]
    by_cases h2 : 48 ≤ c.toNat
    · exact .inr (h h2)
    · left; omega
  | d :: p, q, c, n, h => by
    show (if d.toNat < 48 ∨ 57 < d.toNat then none else dgs (p ++ c :: q) _) = none
    rw [dgs_bad p q c _ h]
    simp
theorem numF_bad (p q : List UInt8) (c : UInt8) (h : isD c = false) : numF (p ++ c :: q) = none := by
  unfold numF
  rw [dgs_bad p q c 0 h]
  simp

/-- The reference's reading of a number: how many digits, and the value. -/
def numL : List UInt8 → Nat → Nat → Option (Nat × Nat)
  | [], k, n => some (k, n)
  | c :: r, k, n => if isD c then (if k = 9 ∨ (0 < k ∧ n = 0) then none else numL r (k + 1) (n * 10 + (c.toNat - 48))) else some (k, n)
def endD (q : List UInt8) : Prop := q = [] ∨ ∃ c r, q = c :: r ∧ isD c = false
theorem numL_end {q : List UInt8} (h : endD q) (k n : Nat) : numL q k n = some (k, n) := by
  rcases h with rfl | ⟨c, r, rfl, hc⟩
  · rfl
  · unfold numL; rw [hc]; rfl
theorem dgs_cons {c : UInt8} {r : List UInt8} {n : Nat} (h : isD c = true) : dgs (c :: r) n = dgs r (10 * n + (c.toNat - 48)) := by
  unfold isD at h
  simp at h
  show (if c.toNat < 48 ∨ 57 < c.toNat then none else _) = _
  rw [if_neg (by omega)]
theorem numL_pos : ∀ (p q : List UInt8) (k n : Nat), (∀ c ∈ p, isD c = true) → endD q → 0 < k → 0 < n → k ≤ 9 → numL (p ++ q) k n = if k + p.length ≤ 9 then (dgs p n).map fun v => (k + p.length, v) else none
  | [], q, k, n, _, hq, _, _, hk => by
    rw [List.nil_append, numL_end hq, List.length_nil, if_pos (by omega)]
    rfl
  | c :: p, q, k, n, hp, hq, h1, h2, hk => by
    have hc := hp c (by simp)
    rw [List.cons_append]
    unfold numL
    rw [hc, if_pos rfl]
    by_cases h9 : k = 9
    · rw [if_pos (.inl h9), if_neg (by simp; omega)]
    · rw [if_neg (by omega), numL_pos p q (k + 1) _ (fun x hx => hp x (by simp [hx])) hq (by omega) (by omega) (by omega), dgs_cons hc, List.length_cons, show k + 1 + p.length = k + (p.length + 1) by omega, Nat.mul_comm n 10]
theorem numL_first (p q : List UInt8) (hp : ∀ c ∈ p, isD c = true) (hq : endD q) (hne : p ≠ []) : numL (p ++ q) 0 0 = (numF p).map fun v => (p.length, v) := by
  cases p with
  | nil => exact absurd rfl hne
  | cons c p =>
    have hc := hp c (by simp)
    have hp' : ∀ x ∈ p, isD x = true := fun x hx => hp x (by simp [hx])
    rw [List.cons_append]
    unfold numL
    rw [hc, if_pos rfl, if_neg (by omega), Nat.zero_mul, Nat.zero_add]
    unfold numF
    rw [List.length_cons, List.headD_cons, dgs_cons hc, Nat.mul_zero, Nat.zero_add]
    by_cases h48 : c = 48
    · subst h48
      rw [show (48 : UInt8).toNat - 48 = 0 from rfl]
      cases p with
      | nil => rw [List.nil_append, numL_end hq]; simp [dgs]
      | cons d p =>
        rw [List.cons_append]
        unfold numL
        rw [hp' d (by simp), if_pos rfl, if_pos (by omega), if_pos (by simp)]
        rfl
    · have hn : 0 < c.toNat - 48 := by
        unfold isD at hc
        simp at hc
        have : c.toNat ≠ 48 := fun e => h48 (UInt8.toNat_inj.1 e)
        omega
      rw [numL_pos p q 1 _ hp' hq (by omega) hn (by omega)]
      by_cases h9 : 1 + p.length ≤ 9
      · rw [if_pos h9, if_neg (by simp only [h48, and_false, or_false]; omega), Nat.add_comm]
      · rw [if_neg h9, if_pos (by omega)]
        rfl

/-- What is left to be read, from a place on; at the start or not. -/
def restF (fst : Bool) (l : List UInt8) : Option (List Nat) :=
  match l with
  | [] => some []
  | c :: r => if fst then nums (flds (c :: r)) else if c = 32 then nums (flds r) else none
/-- The digits at the start, and what follows. -/
theorem digits_of : ∀ l : List UInt8, ∃ p q, l = p ++ q ∧ (∀ c ∈ p, isD c = true) ∧ endD q
  | [] => ⟨[], [], rfl, by simp, .inl rfl⟩
  | c :: l => by
    cases hc : isD c
    · exact ⟨[], c :: l, rfl, by simp, .inr ⟨c, l, rfl, hc⟩⟩
    · obtain ⟨p, q, rfl, hp, hq⟩ := digits_of l
      refine ⟨c :: p, q, rfl, ?_, hq⟩
      intro x hx
      rcases List.mem_cons.1 hx with rfl | hx
      · exact hc
      · exact hp x hx
/-- One field is read. Behind the text stands the closing brace. -/
theorem read_step (l : List UInt8) : (∃ k v, numL (l ++ [125]) 0 0 = some (k, v) ∧ 0 < k ∧ k ≤ l.length ∧ nums (flds l) = (restF false (l.drop k)).map (v :: ·)) ∨
    ((numL (l ++ [125]) 0 0 = none ∨ ∃ v, numL (l ++ [125]) 0 0 = some (0, v)) ∧ nums (flds l) = none) := by
  obtain ⟨p, q, rfl, hp, hq⟩ := digits_of l
  have hpn : ∀ c ∈ p, c ≠ 32 := fun c hc => isD_ne (hp c hc)
  have hend : endD (q ++ [125]) := by
    rcases hq with rfl | ⟨c, r, rfl, hc⟩
    · exact .inr ⟨125, [], rfl, by decide⟩
    · exact .inr ⟨c, r ++ [125], rfl, hc⟩
  have hf := flds_app p q hpn
  by_cases hne : p = []
  · subst hne
    right
    rw [List.nil_append] at *
    refine ⟨.inr ⟨0, numL_end hend 0 0⟩, ?_⟩
    rcases hq with rfl | ⟨c, r, rfl, hc⟩
    · rfl
    · unfold flds
      split
      · rfl
      · show (match numF (c :: _) with | none => none | some n => _) = none
        rw [show numF (c :: (flds r).headD []) = none from numF_bad [] _ c hc]
  · have hL := numL_first p (q ++ [125]) hp hend hne
    rw [← List.append_assoc] at hL
    cases hv : numF p with
    | none =>
      right
      rw [hv] at hL
      refine ⟨.inl hL, ?_⟩
      rw [hf]
      have hbad : numF (p ++ (flds q).headD []) = none := by
        rcases hq with rfl | ⟨c, r, rfl, hc⟩
        · show numF (p ++ []) = none
          rw [List.append_nil]; exact hv
        · unfold flds
          split
          · show numF (p ++ []) = none
            rw [List.append_nil]; exact hv
          · exact numF_bad p _ c hc
      unfold nums
      rw [hbad]
    | some v =>
      rw [hv] at hL
      rcases hq with rfl | ⟨c, r, rfl, hc⟩
      · left
        refine ⟨p.length, v, hL, by cases p <;> simp_all, by simp, ?_⟩
        rw [hf, List.append_nil, List.drop_length]
        show (match numF (p ++ []) with | none => none | some n => _) = _
        rw [List.append_nil, hv]
        rfl
      · by_cases h32 : c = 32
        · subst h32
          left
          refine ⟨p.length, v, hL, by cases p <;> simp_all, by simp, ?_⟩
          rw [hf, List.drop_left]
          have e : flds (32 :: r) = [] :: flds r := rfl
          rw [e]
          show (match numF (p ++ []) with | none => none | some n => _) = _
          rw [List.append_nil, hv]
          rfl
        · left
          refine ⟨p.length, v, hL, by cases p <;> simp_all, by simp, ?_⟩
          rw [hf, List.drop_left]
          have e : (flds (c :: r)).headD [] = c :: (flds r).headD [] := by rw [flds_ch _ h32]; rfl
          unfold nums
          rw [e, numF_bad p _ c hc]
          have e2 : restF false (c :: r) = none := by
            unfold restF
            simp [h32]
          rw [e2]
          rfl

/-- The reference's look at the numbers. -/
def bad : List Nat → Option Nat → Option Int
  | [], _ => none
  | n :: r, last => if 63 < n then some 2 else match last with
    | none => bad r (some n)
    | some m => if n ≤ m then some 9 else bad r (some n)
theorem ofL_chk : ∀ (l : List Nat) (s : Nat) (last : Option Nat), (∀ m, last = some m → m < 64) → (∀ i, s.testBit i = true → ∃ m, last = some m ∧ i ≤ m) → chk l s (match last with | none => -1 | some m => m) = match bad l last with | none => ofL s (l.map Int.ofNat) | some e => (0, e)
  | [], s, last, _, _ => rfl
  | n :: r, s, last, hl, hs => by
    unfold chk bad
    by_cases h63 : 63 < n
    · rw [if_pos h63, if_pos h63]
    · rw [if_neg h63, if_neg h63]
      have hbit : (∀ m, last = some m → m < n) → s.testBit n = false := fun h => by
        cases hb : s.testBit n
        · rfl
        · obtain ⟨m, hm, hle⟩ := hs n hb
          have := h m hm
          omega
      have hof : (∀ m, last = some m → m < n) → ofL s ((n :: r).map Int.ofNat) = ofL (s ||| 2 ^ n) (r.map Int.ofNat) := fun h => by
        rw [List.map_cons, ofL, if_neg (by simp; omega)]
        simp [hbit h]
      have hs' : ∀ i, (s ||| 2 ^ n).testBit i = true → (∀ m, last = some m → m < n) → ∃ m, some n = some m ∧ i ≤ m := fun i hi h => by
        rw [Nat.testBit_or, Nat.testBit_two_pow] at hi
        rw [Bool.or_eq_true] at hi
        rcases hi with h1 | h1
        · obtain ⟨m, hm, hle⟩ := hs i h1
          exact ⟨n, rfl, by have := h m hm; omega⟩
        · exact ⟨n, rfl, by simp at h1; omega⟩
      cases last with
      | none =>
        rw [if_neg (by simp; omega), hof (by simp)]
        exact ofL_chk r _ (some n) (by intro m hm; injection hm; omega) fun i hi => hs' i hi (by simp)
      | some m =>
        by_cases hnm : n ≤ m
        · simp [hnm]
        · have hlt : ∀ m', (some m : Option Nat) = some m' → m' < n := fun m' e => by injection e; omega
          have hnm' : ¬ ((n : Int) ≤ ((m : Nat) : Int)) := by omega
          simp only [hnm, hnm', if_false]
          rw [hof hlt]
          exact ofL_chk r _ (some n) (by intro m hm; injection hm; omega) fun i hi => hs' i hi hlt
end Go.Proofs.YtmnhgeggojgflaaGreatDoor.Ws
