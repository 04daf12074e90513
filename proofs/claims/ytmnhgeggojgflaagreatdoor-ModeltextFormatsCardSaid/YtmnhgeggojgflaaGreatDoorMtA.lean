/- The text of a model: what is read, as plain functions; what is read is a valid model. No condition. -/
import Derived.Test.YtmnhgeggojgflaaGreatDoorEvAC
import Derived.Test.YtmnhgeggojgflaaGreatDoorSgA
import Derived.Test.YtmnhgeggojgflaaGreatDoorWtY
set_option linter.unusedVariables false
set_option linter.unusedSimpArgs false
namespace Mt
open Go.Proofs.YtmnhgeggojgflaaGreatDoor (Sg checkS findS txt)
open Go.Proofs.YtmnhgeggojgflaaGreatDoor.Ws (parseS dgs)
open Ev (Md modelE Okm)

/-- The lines of a text. -/
def lnL : List UInt8 → List (List UInt8)
  | [] => [[]]
  | b :: l => if b = 10 then [] :: lnL l else (b :: (lnL l).headD []) :: (lnL l).tail
def notW (b : UInt8) : Bool := !(b == 32) && !(b == 123)
/-- How long the item is that stands at the front; none: its brace is not closed. -/
def cutI (u : List UInt8) : Option Nat := if u.headD 0 = 123 then (if 125 ∈ u then some (u.idxOf 125 + 1) else none) else some (u.takeWhile notW).length
/-- The items of a line; none: a brace is not closed. -/
def itF : Nat → List UInt8 → Option (List (List UInt8))
  | 0, _ => none
  | F + 1, t => if t.dropWhile (· == 32) = [] then some [] else match cutI (t.dropWhile (· == 32)) with
    | none => none
    | some k => (itF F ((t.dropWhile (· == 32)).drop k)).map ((t.dropWhile (· == 32)).take k :: ·)
def items (t : List UInt8) : Option (List (List UInt8)) := itF (t.length + 1) t
def isS (t : List UInt8) : Bool := t.headD 0 == 123
def numB (t : List UInt8) : Option Nat := if t.length < 1 ∨ 3 < t.length ∨ (1 < t.length ∧ t.headD 0 = 48) then none else dgs t 0
/-- The kind of an item: a set, a number, another word. -/
inductive Kd where
  | s | n | w
deriving DecidableEq
def kd (t : List UInt8) : Kd := if isS t = true then .s else if (numB t).isSome = true then .n else .w
def wWorlds : List UInt8 := [119, 111, 114, 108, 100, 115]
def wFact : List UInt8 := [102, 97, 99, 116]
def wAgent : List UInt8 := [97, 103, 101, 110, 116]
def wCells : List UInt8 := [99, 101, 108, 108, 115]
/-- Whether items are those of a line of the table. -/
def formL (l : List (List UInt8)) : Bool :=
  let k := l.map kd
  let name := decide (1 < k.length) && !(k.getD 1 .s == .s)
  if l.headD [] = wWorlds then decide (k = [.w, .n])
  else if l.headD [] = wFact then decide (k.length = 3) && (name && (k.getD 2 .w == .s))
  else if l.headD [] = wAgent then decide (k.length = 4) && (name && decide (k.drop 2 = [.n, .s]))
  else if l.headD [] = wCells then name && (k.drop 2).all (· == .s)
  else false
/-- A model that is read. -/
structure St where
  W : Nat
  V : List Nat
  R : List (List Nat)
  fa : Nat → Bool
  at_ : Nat × Nat → Bool
  so : Nat → Bool
  ce : Nat → Bool
def St.zero : St := ⟨0, [], [], fun _ => false, fun _ => false, fun _ => false, fun _ => false⟩
/-- The sets of worlds, and the error. -/
def setsP (n : Nat) : List (List UInt8) → List Nat × Int
  | [] => ([], 0)
  | t :: l => if (parseS t).2 ≠ 0 then ([], (parseS t).2) else if 2 ^ n ≤ (parseS t).1 then ([], 2) else if (setsP n l).2 ≠ 0 then ([], (setsP n l).2) else ((parseS t).1 :: (setsP n l).1, 0)
def itAt (l : List (List UInt8)) (k : Nat) : List UInt8 := l.getD k []
def nIt (l : List (List UInt8)) (k : Nat) : Nat := (numB (itAt l k)).getD 0
def worldsP (S : Sg) (r : St) (l : List (List UInt8)) : St × Int :=
  if nIt l 1 < 1 ∨ 64 < nIt l 1 then (r, 2) else ({ r with W := nIt l 1, V := List.replicate S.F.length 0, R := List.replicate S.A.length (List.replicate (nIt l 1) 0) }, 0)
def factP (S : Sg) (r : St) (l : List (List UInt8)) : St × Int :=
  let i := findS S S.F (txt (itAt l 1))
  if i < 0 then (r, 5) else if (setsP r.W (l.drop 2)).2 ≠ 0 then (r, (setsP r.W (l.drop 2)).2) else if r.fa i.toNat = true then (r, 7)
  else ({ r with fa := fun j => decide (j = i.toNat) || r.fa j, V := r.V.set i.toNat ((setsP r.W (l.drop 2)).1.getD 0 0) }, 0)
def agentP (S : Sg) (r : St) (l : List (List UInt8)) : St × Int :=
  let i := findS S S.A (txt (itAt l 1))
  let w := nIt l 2
  if i < 0 then (r, 5) else if r.W ≤ w then (r, 2) else if (setsP r.W (l.drop 3)).2 ≠ 0 then (r, (setsP r.W (l.drop 3)).2) else if (r.at_ (i.toNat, w) || r.ce i.toNat) = true then (r, 7)
  else ({ r with at_ := fun p => decide (p = (i.toNat, w)) || r.at_ p, so := fun j => decide (j = i.toNat) || r.so j, R := r.R.set i.toNat ((r.R.getD i.toNat []).set w ((setsP r.W (l.drop 3)).1.getD 0 0)) }, 0)
/-- The union of disjoint sets; none: two of them meet. -/
def unionD : List Nat → Nat → Option Nat
  | [], a => some a
  | c :: l, a => if a &&& c = 0 then unionD l (a ||| c) else none
/-- The row of cells: each world alone, then the sets one after another. -/
def cellRow (n : Nat) (x : List Nat) : List Nat := (List.range n).map fun w => match x.reverse.find? fun c => c.testBit w with
  | some c => c
  | none => 2 ^ w
def divideP (S : Sg) (r : St) (l : List (List UInt8)) : St × Int :=
  let i := findS S S.A (txt (itAt l 1))
  if i < 0 then (r, 5) else if (setsP r.W (l.drop 2)).2 ≠ 0 then (r, (setsP r.W (l.drop 2)).2) else if unionD (setsP r.W (l.drop 2)).1 0 = none then (r, 7)
  else if (r.so i.toNat || r.ce i.toNat) = true then (r, 7)
  else ({ r with ce := fun j => decide (j = i.toNat) || r.ce j, R := r.R.set i.toNat (cellRow r.W (setsP r.W (l.drop 2)).1) }, 0)
/-- A line that is not ignored. -/
def readP (S : Sg) (r : St) (o : Option (List (List UInt8))) : St × Int := match o with
  | none => (r, 4)
  | some l => if formL l = false ∨ (l.headD [] = wWorlds) ≠ (r.W = 0) then (r, 4)
    else if l.headD [] = wWorlds then worldsP S r l else if l.headD [] = wFact then factP S r l else if l.headD [] = wAgent then agentP S r l else divideP S r l
def skipL (t : List UInt8) : Bool := (t.dropWhile (· == 32)).isEmpty || ((t.dropWhile (· == 32)).headD 0 == 35)
/-- The lines one after another: the state, the number of the line, the error. -/
def linesP (S : Sg) : List (List UInt8) → Nat → St → St × Nat × Int
  | [], n, r => (r, n, 0)
  | t :: l, n, r => if skipL t = true then linesP S l (n + 1) r else if (readP S r (items t)).2 ≠ 0 then (r, n + 1, (readP S r (items t)).2) else linesP S l (n + 1) (readP S r (items t)).1
def emptyM : Md := ⟨0, [], []⟩
/-- The model, the line of an error, the error. -/
def parseM (S : Sg) (t : List UInt8) : Md × Nat × Int :=
  if checkS S ≠ 0 then (emptyM, 0, checkS S) else if 100000 < t.length then (emptyM, 0, 8)
  else match linesP S (lnL t) 0 .zero with
    | (r, n, e) => if e ≠ 0 then (emptyM, n, e) else if r.W = 0 then (emptyM, 0, 4) else (⟨r.W, r.V, r.R⟩, 0, 0)

/-! ### What is read is a valid model -/
/-- What the state keeps. -/
structure Ok (S : Sg) (r : St) : Prop where
  w64 : r.W ≤ 64
  v : r.W ≠ 0 → r.V.length = S.F.length
  a : r.W ≠ 0 → r.R.length = S.A.length
  vb : ∀ x ∈ r.V, x < 2 ^ r.W
  rl : ∀ l ∈ r.R, l.length = r.W
  rb : ∀ l ∈ r.R, ∀ x ∈ l, x < 2 ^ r.W
theorem setsP_lt {n : Nat} : ∀ {l : List (List UInt8)}, ∀ x ∈ (setsP n l).1, x < 2 ^ n
  | [], x, h => by simp [setsP] at h
  | t :: l, x, h => by
    unfold setsP at h
    split at h
    · simp at h
    · split at h
      · simp at h
      · split at h
        · simp at h
        · next h2 _ =>
          rcases List.mem_cons.1 h with rfl | h
          · omega
          · exact setsP_lt x h
theorem mem_set {α : Type} {l : List α} {i : Nat} {a x : α} (h : x ∈ l.set i a) : x = a ∨ x ∈ l := by
  rcases List.mem_or_eq_of_mem_set h with h | h
  · exact .inr h
  · exact .inl h
theorem getD_lt {l : List Nat} {k n : Nat} (h : ∀ x ∈ l, x < 2 ^ n) : l.getD k 0 < 2 ^ n := by
  rw [List.getD_eq_getElem?_getD]
  cases hk : l[k]? with
  | none => exact Nat.two_pow_pos n
  | some x => exact h x (List.mem_of_getElem? hk)
theorem cellRow_ok {n : Nat} {x : List Nat} (hx : ∀ c ∈ x, c < 2 ^ n) : (cellRow n x).length = n ∧ ∀ v ∈ cellRow n x, v < 2 ^ n := by
  unfold cellRow
  refine ⟨by simp, fun v hv => ?_⟩
  obtain ⟨w, hw, rfl⟩ := List.mem_map.1 hv
  split
  · next c hc => exact hx c (by simpa using List.mem_of_find?_eq_some hc)
  · exact Nat.pow_lt_pow_right (by omega) (List.mem_range.1 hw)
theorem ok_zero (S : Sg) : Ok S .zero := ⟨by simp [St.zero], by simp [St.zero], by simp [St.zero], by simp [St.zero], by simp [St.zero], by simp [St.zero]⟩
theorem ok_worlds {S : Sg} {r : St} (l : List (List UInt8)) (h : (worldsP S r l).2 = 0) : Ok S (worldsP S r l).1 ∧ (worldsP S r l).1.W ≠ 0 := by
  unfold worldsP at h ⊢
  split at h
  · simp at h
  · next hn =>
    rw [if_neg hn]
    refine ⟨⟨by simp only; omega, fun _ => by simp, fun _ => by simp, fun x hx => ?_, fun q hq => ?_, fun q hq x hx => ?_⟩, by simp only; omega⟩
    · obtain ⟨-, rfl⟩ := List.mem_replicate.1 hx
      exact Nat.two_pow_pos _
    · obtain ⟨-, rfl⟩ := List.mem_replicate.1 hq
      simp
    · obtain ⟨-, rfl⟩ := List.mem_replicate.1 hq
      obtain ⟨-, rfl⟩ := List.mem_replicate.1 hx
      exact Nat.two_pow_pos _
theorem ok_fact {S : Sg} {r : St} (l : List (List UInt8)) (hr : Ok S r) : Ok S (factP S r l).1 ∧ (factP S r l).1.W = r.W := by
  unfold factP
  simp only
  split
  · exact ⟨hr, rfl⟩
  · split
    · exact ⟨hr, rfl⟩
    · split
      · exact ⟨hr, rfl⟩
      · refine ⟨⟨hr.w64, fun h => by simp only [List.length_set]; exact hr.v h, hr.a, fun x hx => ?_, hr.rl, hr.rb⟩, rfl⟩
        rcases mem_set hx with rfl | hx
        · exact getD_lt fun x hx => setsP_lt x hx
        · exact hr.vb x hx
theorem row_in {R : List (List Nat)} {i : Nat} {P : List Nat → Prop} (h : ∀ l ∈ R, P l) (h0 : P []) : P (R.getD i []) := by
  rw [List.getD_eq_getElem?_getD]
  cases hk : R[i]? with
  | none => exact h0
  | some x => exact h x (List.mem_of_getElem? hk)
theorem set_out {α : Type} {l : List α} {i : Nat} {a : α} (h : l.length ≤ i) : l.set i a = l := List.set_eq_of_length_le h
theorem ok_agent {S : Sg} {r : St} (l : List (List UInt8)) (hr : Ok S r) : Ok S (agentP S r l).1 ∧ (agentP S r l).1.W = r.W := by
  unfold agentP
  simp only
  split
  · exact ⟨hr, rfl⟩
  · split
    · exact ⟨hr, rfl⟩
    · split
      · exact ⟨hr, rfl⟩
      · split
        · exact ⟨hr, rfl⟩
        · generalize (findS S S.A (txt (itAt l 1))).toNat = i
          refine ⟨⟨hr.w64, hr.v, fun h => by simp only [List.length_set]; exact hr.a h, hr.vb, fun q hq => ?_, fun q hq => ?_⟩, rfl⟩
          · simp only at hq ⊢
            by_cases hi : i < r.R.length
            · rcases mem_set hq with rfl | hq
              · rw [List.length_set, List.getD_eq_getElem?_getD, List.getElem?_eq_getElem hi]
                exact hr.rl _ (List.getElem_mem hi)
              · exact hr.rl q hq
            · rw [set_out (by omega)] at hq
              exact hr.rl q hq
          · simp only at hq ⊢
            rcases mem_set hq with rfl | hq
            · intro x hx
              rcases mem_set hx with rfl | hx
              · exact getD_lt fun x hx => setsP_lt x hx
              · exact row_in (P := fun l => ∀ x ∈ l, x < 2 ^ r.W) hr.rb (by simp) x hx
            · exact hr.rb q hq
theorem ok_divide {S : Sg} {r : St} (l : List (List UInt8)) (hr : Ok S r) : Ok S (divideP S r l).1 ∧ (divideP S r l).1.W = r.W := by
  unfold divideP
  simp only
  split
  · exact ⟨hr, rfl⟩
  · split
    · exact ⟨hr, rfl⟩
    · split
      · exact ⟨hr, rfl⟩
      · split
        · exact ⟨hr, rfl⟩
        · have hc := cellRow_ok (n := r.W) (x := (setsP r.W (l.drop 2)).1) fun x hx => setsP_lt x hx
          refine ⟨⟨hr.w64, hr.v, fun h => by simp only [List.length_set]; exact hr.a h, hr.vb, fun q hq => ?_, fun q hq => ?_⟩, rfl⟩
          · simp only at hq ⊢
            rcases mem_set hq with rfl | hq
            · exact hc.1
            · exact hr.rl q hq
          · simp only at hq ⊢
            rcases mem_set hq with rfl | hq
            · exact hc.2
            · exact hr.rb q hq
theorem ok_read {S : Sg} {r : St} (o : Option (List (List UInt8))) (hr : Ok S r) (h : (readP S r o).2 = 0) : Ok S (readP S r o).1 ∧ (readP S r o).1.W ≠ 0 := by
  unfold readP at h ⊢
  cases o with
  | none => simp at h
  | some l =>
    simp only at h ⊢
    split at h
    · simp at h
    · next h0 =>
      rw [if_neg h0]
      simp only [not_or, Bool.not_eq_false, ne_eq, Decidable.not_not] at h0
      split
      · next hw => rw [if_pos hw] at h; exact ok_worlds l h
      · next hw =>
        have hW : r.W ≠ 0 := fun e => hw (h0.2 ▸ e)
        split
        · exact ⟨(ok_fact l hr).1, by rw [(ok_fact l hr).2]; exact hW⟩
        · split
          · exact ⟨(ok_agent l hr).1, by rw [(ok_agent l hr).2]; exact hW⟩
          · exact ⟨(ok_divide l hr).1, by rw [(ok_divide l hr).2]; exact hW⟩
theorem ok_lines {S : Sg} : ∀ (l : List (List UInt8)) (n : Nat) (r : St), Ok S r → Ok S (linesP S l n r).1 ∧ n ≤ (linesP S l n r).2.1 ∧ (linesP S l n r).2.1 ≤ n + l.length
  | [], n, r, hr => ⟨hr, Nat.le_refl _, by simp [linesP]⟩
  | t :: l, n, r, hr => by
    unfold linesP
    split
    · obtain ⟨h1, h2, h3⟩ := ok_lines l (n + 1) r hr
      exact ⟨h1, by omega, by simp only [List.length_cons]; omega⟩
    · split
      · exact ⟨hr, by simp only; omega, by simp only [List.length_cons]; omega⟩
      · next h0 =>
        obtain ⟨h1, h2, h3⟩ := ok_lines l (n + 1) _ (ok_read (items t) hr (Decidable.not_not.1 h0)).1
        exact ⟨h1, by omega, by simp only [List.length_cons]; omega⟩
theorem lnL_len : ∀ l : List UInt8, (lnL l).length = l.count 10 + 1
  | [] => rfl
  | b :: l => by
    have h := lnL_len l
    unfold lnL
    by_cases hb : b = 10
    · rw [if_pos hb, List.length_cons, h, hb]
      simp
    · rw [if_neg hb, List.length_cons, List.length_tail, h, List.count_cons_of_ne (fun e => hb e)]
      omega
/-- The law Valid. -/
theorem valid_law (S : Sg) (t : List UInt8) : ((parseM S t).2.2 ≠ 0 → (parseM S t).1 = emptyM ∧ (parseM S t).2.1 ≤ t.count 10 + 1) ∧
    ((parseM S t).2.2 = 0 → (parseM S t).2.1 = 0 ∧ Okm (parseM S t).1 ∧ (parseM S t).1.R.length = S.A.length ∧ (parseM S t).1.V.length = S.F.length) := by
  unfold parseM
  by_cases h1 : checkS S ≠ 0
  · rw [if_pos h1]
    exact ⟨fun _ => ⟨rfl, by simp only; omega⟩, fun h => absurd h (by simp only; omega)⟩
  · rw [if_neg h1]
    by_cases h2 : 100000 < t.length
    · rw [if_pos h2]
      exact ⟨fun _ => ⟨rfl, by simp only; omega⟩, fun h => absurd h (by simp)⟩
    · rw [if_neg h2]
      obtain ⟨hok, -, hle⟩ := ok_lines (lnL t) 0 .zero (ok_zero S)
      rw [lnL_len] at hle
      generalize linesP S (lnL t) 0 .zero = q at *
      obtain ⟨r, n, e⟩ := q
      simp only at hok hle ⊢
      by_cases h3 : e ≠ 0
      · rw [if_pos h3]
        exact ⟨fun _ => ⟨rfl, by simp only; omega⟩, fun h => absurd h (by simp only; omega)⟩
      · rw [if_neg h3]
        by_cases h4 : r.W = 0
        · rw [if_pos h4]
          exact ⟨fun _ => ⟨rfl, by simp only; omega⟩, fun h => absurd h (by simp)⟩
        · rw [if_neg h4]
          refine ⟨fun h => absurd rfl h, fun _ => ⟨rfl, ?_, hok.a h4, hok.v h4⟩⟩
          have hS := Go.Proofs.YtmnhgeggojgflaaGreatDoor.checkS_ok (S := S) (by omega)
          have hn : (⟨r.W, r.V, r.R⟩ : Md).n = r.W := by unfold Ev.Md.n; simp
          have := hok.w64
          exact ⟨by simp only; omega, by simp only; omega, by have := hok.a h4; have := hS.lA; simp only; omega, by have := hok.v h4; have := hS.lF; simp only; omega, fun l hl => by rw [hn]; exact hok.rl l hl, fun l hl x hx => by rw [hn]; exact hok.rb l hl x hx, fun x hx => by rw [hn]; exact hok.vb x hx⟩
end Mt
