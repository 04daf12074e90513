/- Names, and signatures of names: what is specified, in plain words, and what follows from it. No condition. -/
import Derived.Test.YtmnhgeggojgflaaGreatDoorBase
import Derived.Lib.SlicesS
import Derived.Lib.SlTrimSet
import Derived.Lib.Join
set_option linter.unusedVariables false
set_option linter.unusedSimpArgs false
namespace Go.Proofs.YtmnhgeggojgflaaGreatDoor
open Go.RowKit

theorem data_len (t : ByteArray) : t.data.toList.length = t.size := by rw [Array.length_toList]; rfl
theorem ba_ext {a b : ByteArray} (h : a.data.toList = b.data.toList) : a = b := ByteArray.ext (Array.toList_inj.1 h)
def txt (l : List UInt8) : ByteArray := ⟨l.toArray⟩
theorem txt_app (a b : List UInt8) : txt a ++ txt b = txt (a ++ b) := by
  apply ByteArray.ext
  simp [txt]
theorem txt_size (a : List UInt8) : (txt a).size = a.length := by simp [txt, ByteArray.size]
theorem txt_data (t : ByteArray) : txt t.data.toList = t := ba_ext (by simp [txt])
theorem data_txt (l : List UInt8) : (txt l).data.toList = l := by simp [txt]

/-- A byte of a name. -/
def isNC (b : UInt8) : Bool := decide ((97 ≤ b.toNat ∧ b.toNat ≤ 122) ∨ (48 ≤ b.toNat ∧ b.toNat ≤ 57) ∨ b.toNat = 95)
def nameL (l : List UInt8) : Bool := decide (1 ≤ l.length ∧ l.length ≤ 8 ∧ 97 ≤ (l.headD 0).toNat ∧ (l.headD 0).toNat ≤ 122) && l.all isNC
def nameB (t : ByteArray) : Bool := nameL t.data.toList
def resW : List ByteArray := [⟨#[116, 114, 117, 101]⟩, ⟨#[102, 97, 108, 115, 101]⟩, ⟨#[110, 101, 120, 116]⟩, ⟨#[112, 114, 101, 118]⟩, ⟨#[117, 110, 116, 105, 108]⟩, ⟨#[115, 105, 110, 99, 101]⟩, ⟨#[100, 111]⟩]
def reserved (x : ByteArray) : Bool := Lib.containsS resW x
def setNC : ByteArray := ⟨#[97, 98, 99, 100, 101, 102, 103, 104, 105, 106, 107, 108, 109, 110, 111, 112, 113, 114, 115, 116, 117, 118, 119, 120, 121, 122, 48, 49, 50, 51, 52, 53, 54, 55, 56, 57, 95]⟩

theorem nc_set (b : UInt8) : setNC.data.toList.contains b = isNC b := by
  have h : ∀ n : Fin 256, setNC.data.toList.contains (UInt8.ofNat n.val) = isNC (UInt8.ofNat n.val) := by decide +kernel
  have := h ⟨b.toNat, b.toNat_lt⟩
  simpa using this
theorem drop_nil_iff (p : UInt8 → Bool) : ∀ l : List UInt8, l.dropWhile p = [] ↔ ∀ b ∈ l, p b = true
  | [] => by simp
  | b :: l => by
    cases h : p b with
    | true => simp [List.dropWhile_cons, h, drop_nil_iff p l]
    | false => simp [List.dropWhile_cons, h]
theorem drop_sub (p : UInt8 → Bool) : ∀ l : List UInt8, ∀ b ∈ l, p b = false → b ∈ l.dropWhile p
  | [], b, h, _ => by simp at h
  | a :: l, b, h, hb => by
    cases ha : p a with
    | false => simpa [List.dropWhile_cons, ha] using h
    | true =>
      rw [List.dropWhile_cons, ha, if_pos rfl]
      rcases List.mem_cons.1 h with rfl | h
      · rw [ha] at hb
        cases hb
      · exact drop_sub p l b h hb
theorem trim_nil (l : List UInt8) : Lib.trimS l setNC.data.toList = [] ↔ l.all isNC = true := by
  unfold Lib.trimS Lib.trimLeftS Lib.trimRightS
  have e : (fun x => setNC.data.toList.contains x) = isNC := funext nc_set
  rw [e, drop_nil_iff, List.all_eq_true]
  constructor
  · intro h b hb
    cases hc : isNC b with
    | true => rfl
    | false =>
      have h1 := drop_sub isNC l.reverse b (List.mem_reverse.2 hb) hc
      rw [h b (List.mem_reverse.2 h1)] at hc
      cases hc
  · intro h b hb
    exact h b (List.mem_reverse.1 ((List.dropWhile_sublist _).subset (List.mem_reverse.1 hb)))

/-- A signature: the names of agents, facts and action models. -/
structure Sg where
  A : List ByteArray
  F : List ByteArray
  C : List ByteArray
def Sg.all (S : Sg) : List ByteArray := S.A ++ S.F ++ S.C
/-- What is wrong with the names of a list, from left to right. -/
def chkN : List ByteArray → List ByteArray → Nat
  | _, [] => 0
  | pre, x :: r => if nameB x = true then (if reserved x = true ∨ Lib.containsS pre x = true then 5 else chkN (pre ++ [x]) r) else 3
def checkS (S : Sg) : Nat := if 4 < S.A.length ∨ 8 < S.F.length ∨ 8 < S.C.length then 8 else chkN [] S.all
def findS (S : Sg) (l : List ByteArray) (x : ByteArray) : Int := if checkS S = 0 then Lib.idxOfS l x else -1
/-- The mask of names. -/
def grp (A : List ByteArray) : List ByteArray → Nat → Nat × Nat
  | [], m => (m, 0)
  | x :: r, m => if Lib.idxOfS A x < 0 then (0, 6) else if m.testBit (Lib.idxOfS A x).toNat = true then (0, 7) else grp A r (m + 2 ^ (Lib.idxOfS A x).toNat)
def groupS (S : Sg) (l : List ByteArray) : Nat × Nat := if checkS S = 0 then (if l = [] then (0, 1) else grp S.A l 0) else (0, checkS S)
/-- The names whose bits a mask has. -/
def sel (g : Nat) : List ByteArray → Nat → List ByteArray
  | [], _ => []
  | x :: r, i => if g.testBit i = true then x :: sel g r (i + 1) else sel g r (i + 1)
def joinC (l : List ByteArray) : ByteArray := txt (Lib.join (l.map (·.data.toList)) [44])
def textS (S : Sg) (g : Int) : ByteArray × Nat := if checkS S = 0 then (if g < 1 ∨ 2 ^ S.A.length ≤ g.toNat then (txt [], 2) else (joinC (sel g.toNat S.A 0), 0)) else (txt [], checkS S)
/-- The parts between the commas. -/
def flds : List UInt8 → List (List UInt8)
  | [] => [[]]
  | b :: l => if b = 44 then [] :: flds l else (b :: (flds l).headD []) :: (flds l).tail
def partsS (t : ByteArray) : List ByteArray := (flds t.data.toList).map txt
def parseS (S : Sg) (t : ByteArray) : Nat × Nat := if checkS S = 0 then (if (partsS t).all nameB = true then grp S.A (partsS t) 0 else (0, 4)) else (0, checkS S)
def agN : List ByteArray := [⟨#[97]⟩, ⟨#[98]⟩, ⟨#[99]⟩, ⟨#[100]⟩]
def faN : List ByteArray := [⟨#[112]⟩, ⟨#[113]⟩, ⟨#[114]⟩, ⟨#[115]⟩, ⟨#[116]⟩, ⟨#[117]⟩, ⟨#[118]⟩, ⟨#[119]⟩]
def acN : List ByteArray := [⟨#[97, 99, 116, 48]⟩, ⟨#[97, 99, 116, 49]⟩, ⟨#[97, 99, 116, 50]⟩, ⟨#[97, 99, 116, 51]⟩, ⟨#[97, 99, 116, 52]⟩, ⟨#[97, 99, 116, 53]⟩, ⟨#[97, 99, 116, 54]⟩, ⟨#[97, 99, 116, 55]⟩]
def okD (a f c : Int) : Prop := 0 ≤ a ∧ a ≤ 4 ∧ 0 ≤ f ∧ f ≤ 8 ∧ 0 ≤ c ∧ c ≤ 8
instance (a f c : Int) : Decidable (okD a f c) := by unfold okD; infer_instance
def defS (a f c : Int) : Sg × Nat := if okD a f c then (⟨agN.take a.toNat, faN.take f.toNat, acN.take c.toNat⟩, 0) else (⟨[], [], []⟩, 2)

theorem chkN_cons (pre : List ByteArray) (x : ByteArray) (r : List ByteArray) : chkN pre (x :: r) = if nameB x = true then (if reserved x = true ∨ Lib.containsS pre x = true then 5 else chkN (pre ++ [x]) r) else 3 := rfl
theorem chkN_le : ∀ (l pre : List ByteArray), chkN pre l ≤ 5
  | [], _ => by simp [chkN]
  | x :: r, pre => by
    rw [chkN_cons]
    split
    · split
      · omega
      · exact chkN_le r _
    · omega
theorem checkS_le (S : Sg) : checkS S ≤ 8 := by
  unfold checkS
  split
  · omega
  · have := chkN_le S.all []
    omega
theorem chkN_zero : ∀ (l pre : List ByteArray), chkN pre l = 0 → (∀ x ∈ l, nameB x = true ∧ reserved x = false ∧ x ∉ pre) ∧ l.Nodup
  | [], _, _ => by simp
  | x :: r, pre, h => by
    rw [chkN_cons] at h
    by_cases hn : nameB x = true
    · rw [if_pos hn] at h
      by_cases hr : reserved x = true ∨ Lib.containsS pre x = true
      · rw [if_pos hr] at h
        cases h
      · rw [if_neg hr] at h
        obtain ⟨h1, h2⟩ := chkN_zero r _ h
        refine ⟨fun y hy => ?_, List.nodup_cons.2 ⟨fun hx => (h1 x hx).2.2 (by simp), h2⟩⟩
        rcases List.mem_cons.1 hy with rfl | hy
        · refine ⟨hn, ?_, fun hp => hr (.inr ((Lib.containsS_iff _ _).2 hp))⟩
          cases hc : reserved y with
          | false => rfl
          | true => exact absurd (.inl hc) hr
        · exact ⟨(h1 y hy).1, (h1 y hy).2.1, fun hp => (h1 y hy).2.2 (by simp [hp])⟩
    · rw [if_neg hn] at h
      cases h
structure Sg.Ok (S : Sg) : Prop where
  lA : S.A.length ≤ 4
  lF : S.F.length ≤ 8
  lC : S.C.length ≤ 8
  name : ∀ x ∈ S.all, nameB x = true ∧ reserved x = false
  nodup : S.all.Nodup
theorem checkS_ok {S : Sg} (h : checkS S = 0) : S.Ok := by
  unfold checkS at h
  by_cases hl : 4 < S.A.length ∨ 8 < S.F.length ∨ 8 < S.C.length
  · rw [if_pos hl] at h
    cases h
  · rw [if_neg hl] at h
    obtain ⟨h1, h2⟩ := chkN_zero _ _ h
    exact ⟨by omega, by omega, by omega, fun x hx => ⟨(h1 x hx).1, (h1 x hx).2.1⟩, h2⟩

theorem idx_gen (x : ByteArray) : ∀ (l : List ByteArray) (i : Nat), Lib.idxFromS l x i = -1 ∧ x ∉ l ∨ ∃ k : Nat, Lib.idxFromS l x i = ((i + k : Nat) : Int) ∧ l[k]? = some x ∧ ∀ j, j < k → l[j]? ≠ some x
  | [], i => .inl ⟨rfl, by simp⟩
  | z :: l, i => by
    by_cases hz : z = x
    · subst hz
      exact .inr ⟨0, by simp [Lib.idxFromS], rfl, fun j hj => absurd hj (by omega)⟩
    · rw [Lib.idxFromS, if_neg hz]
      rcases idx_gen x l (i + 1) with ⟨h1, h2⟩ | ⟨k, h1, h2, h3⟩
      · exact .inl ⟨h1, by simp only [List.mem_cons, not_or]; exact ⟨fun e => hz e.symm, h2⟩⟩
      · refine .inr ⟨k + 1, by rw [h1]; congr 1; omega, h2, fun j hj => ?_⟩
        cases j with
        | zero =>
          intro e
          exact hz (by simpa using e)
        | succ j => exact h3 j (by omega)
/-- Where a name stands. -/
theorem idx_cases (l : List ByteArray) (x : ByteArray) : Lib.idxOfS l x = -1 ∧ x ∉ l ∨ ∃ k : Nat, Lib.idxOfS l x = k ∧ k < l.length ∧ l[k]? = some x ∧ ∀ j, j < k → l[j]? ≠ some x := by
  rcases idx_gen x l 0 with h | ⟨k, h1, h2, h3⟩
  · exact .inl h
  · exact .inr ⟨k, by simpa [Lib.idxOfS] using h1, (List.getElem?_eq_some_iff.1 h2).1, h2, h3⟩
theorem idx_at {l : List ByteArray} (hn : l.Nodup) {k : Nat} {x : ByteArray} (h : l[k]? = some x) : Lib.idxOfS l x = k := by
  have hk := (List.getElem?_eq_some_iff.1 h).1
  rcases idx_cases l x with ⟨_, hx⟩ | ⟨j, h1, hj, h2, h3⟩
  · exact absurd (List.mem_of_getElem? h) hx
  · rw [h1]
    congr 1
    rcases Nat.lt_trichotomy j k with hjk | rfl | hjk
    · exact absurd (h2.trans h.symm) (fun e => by
        rw [List.getElem?_eq_getElem hj, List.getElem?_eq_getElem hk] at e
        exact (List.pairwise_iff_getElem.1 hn j k hj hk hjk) (Option.some.inj e))
    · rfl
    · exact absurd h (h3 k hjk)
theorem idx_none {l : List ByteArray} {x : ByteArray} (h : x ∉ l) : Lib.idxOfS l x = -1 := by
  rcases idx_cases l x with ⟨h1, _⟩ | ⟨k, _, _, h2, _⟩
  · exact h1
  · exact absurd (List.mem_of_getElem? h2) h
/-- Both ways of asking whether a name has come before. -/
theorem find_lt (l : List ByteArray) (k : Nat) {x : ByteArray} (hx : l[k]? = some x) : Lib.idxOfS l x < k ↔ x ∈ l.take k := by
  have hk := (List.getElem?_eq_some_iff.1 hx).1
  rcases idx_cases l x with ⟨_, h2⟩ | ⟨j, h1, hj, h2, h3⟩
  · exact absurd (List.mem_of_getElem? hx) h2
  · rw [h1]
    constructor
    · intro h
      have h4 : (l.take k)[j]? = some x := by rw [List.getElem?_take_of_lt (by omega)]; exact h2
      exact List.mem_of_getElem? h4
    · intro h
      obtain ⟨i, hi, he⟩ := List.mem_iff_getElem.1 h
      rw [List.length_take] at hi
      have h4 : l[i]? = some x := by rw [List.getElem_take] at he; rw [List.getElem?_eq_getElem (by omega), he]
      have : ¬ i < j := fun hij => h3 i hij h4
      omega
theorem grp_cons (A : List ByteArray) (x : ByteArray) (r : List ByteArray) (m : Nat) : grp A (x :: r) m = if Lib.idxOfS A x < 0 then (0, 6) else if m.testBit (Lib.idxOfS A x).toNat = true then (0, 7) else grp A r (m + 2 ^ (Lib.idxOfS A x).toNat) := rfl
theorem sel_snoc (g : Nat) (x : ByteArray) : ∀ (l : List ByteArray) (i : Nat), sel g (l ++ [x]) i = sel g l i ++ (if g.testBit (i + l.length) = true then [x] else [])
  | [], i => by simp [sel]
  | y :: l, i => by
    rw [List.cons_append, sel, sel, sel_snoc g x l (i + 1), show i + 1 + l.length = i + (y :: l).length by simp; omega]
    split <;> simp
theorem flds_sp (l : List UInt8) : flds (44 :: l) = [] :: flds l := rfl
theorem flds_ch {b : UInt8} (l : List UInt8) (h : b ≠ 44) : flds (b :: l) = (b :: (flds l).headD []) :: (flds l).tail := by
  rw [flds, if_neg h]
theorem flds_ne (l : List UInt8) : flds l = (flds l).headD [] :: (flds l).tail := by
  cases l with
  | nil => rfl
  | cons b l => unfold flds; split <;> rfl
end Go.Proofs.YtmnhgeggojgflaaGreatDoor
