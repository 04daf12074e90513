/- The names in the text of a formula are those of its facts, agents and actions, plain. No condition. -/
import Derived.Test.YtbidfbojealmlaaGreatDoorPrX
set_option linter.unusedVariables false
set_option linter.unusedSimpArgs false
namespace Go.Proofs.YtbidfbojealmlaaGreatDoor
open Go.RowKit
open Fm (Nd own usesX usesY usesAgent usesFact usesGroup usesEvent put ins cl checkE compactL tr)
open Fm.Form
open Ps (W)

/-- What holds of some node of a formula. -/
def AnyR (R : Int → Int → Int → Int → Prop) : Fm.Form → Prop
  | leaf op i e g => R op i e g
  | un op i e g x => R op i e g ∨ AnyR R x
  | bin op i e g x y => R op i e g ∨ AnyR R x ∨ AnyR R y
theorem put_mem (m n : Nd) (o : List Nd) : m ∈ (put n o).2 ↔ m = n ∨ m ∈ o := by
  constructor
  · intro h
    unfold put at h
    split at h
    · exact .inr h
    · rcases List.mem_append.1 h with h | h
      · exact .inr h
      · exact .inl (List.mem_singleton.1 h)
  · rintro (rfl | h)
    · exact put_in _ _
    · exact (Fm.put_prefix _ _).subset h
theorem ex_put (R : Int → Int → Int → Int → Prop) (k : Nd) (o : List Nd) : (∃ n ∈ (put k o).2, R n.op n.i n.e n.g) ↔ R k.op k.i k.e k.g ∨ ∃ n ∈ o, R n.op n.i n.e n.g := by
  constructor
  · rintro ⟨n, hn, h⟩
    rcases (put_mem _ _ _).1 hn with rfl | hn
    · exact .inl h
    · exact .inr ⟨n, hn, h⟩
  · rintro (h | ⟨n, hn, h⟩)
    · exact ⟨k, (put_mem _ _ _).2 (.inl rfl), h⟩
    · exact ⟨n, (put_mem _ _ _).2 (.inr hn), h⟩
theorem any_ins {R : Int → Int → Int → Int → Prop} : ∀ (t : Fm.Form) (o : List Nd), (∃ n ∈ (ins t o).2, R n.op n.i n.e n.g) ↔ AnyR R t ∨ ∃ n ∈ o, R n.op n.i n.e n.g
  | leaf op i e g, o => ex_put R ⟨op, i, e, g, 0, 0⟩ o
  | un op i e g x, o => by
    refine (ex_put R ⟨op, i, e, g, ((ins x o).1 : Nat), 0⟩ (ins x o).2).trans ?_
    rw [any_ins x o]
    exact or_assoc.symm
  | bin op i e g x y, o => by
    refine (ex_put R ⟨op, i, e, g, ((ins x o).1 : Nat), ((ins y (ins x o).2).1 : Nat)⟩ (ins y (ins x o).2).2).trans ?_
    rw [any_ins y, any_ins x o]
    show (R op i e g ∨ (AnyR R y ∨ (AnyR R x ∨ _))) ↔ ((R op i e g ∨ AnyR R x ∨ AnyR R y) ∨ _)
    constructor
    · rintro (h | h | h | h)
      · exact .inl (.inl h)
      · exact .inl (.inr (.inr h))
      · exact .inl (.inr (.inl h))
      · exact .inr h
    · rintro ((h | h | h) | h)
      · exact .inl h
      · exact .inr (.inr (.inl h))
      · exact .inr (.inl h)
      · exact .inr (.inr (.inr h))
theorem any_cl {R : Int → Int → Int → Int → Prop} (t : Fm.Form) : (∃ n ∈ cl t, R n.op n.i n.e n.g) ↔ AnyR R t := (any_ins t []).trans ⟨fun h => h.elim id fun ⟨_, h, _⟩ => by simp at h, .inl⟩
theorem ins_all {R : Int → Int → Int → Int → Prop} : ∀ (t : Fm.Form) (o : List Nd), AllR R t → (∀ n ∈ o, R n.op n.i n.e n.g) → ∀ n ∈ (ins t o).2, R n.op n.i n.e n.g
  | leaf op i e g, o, h, ho => fun n hn => by rcases (put_mem _ _ _).1 hn with rfl | hn; exact h; exact ho n hn
  | un op i e g x, o, h, ho => fun n hn => by rcases (put_mem _ _ _).1 hn with rfl | hn; exact h.1; exact ins_all x o h.2 ho n hn
  | bin op i e g x y, o, h, ho => fun n hn => by rcases (put_mem _ _ _).1 hn with rfl | hn; exact h.1; exact ins_all y _ h.2.2 (ins_all x o h.2.1 ho) n hn
theorem nm_allR {S : Sg} : ∀ {t : Fm.Form}, Nm S t → AllR (QS S) t
  | leaf .., h => h.2
  | un .., h => ⟨h.2.2.1, nm_allR h.2.2.2⟩
  | bin .., h => ⟨h.2.1, nm_allR h.2.2.1, nm_allR h.2.2.2⟩
/-- The names that a node shows by itself. -/
def OwnN (S : Sg) (w : W) (op i g : Int) : Prop := (op = 3 ∧ w = nmB S.F i) ∨ (usesAgent op = true ∧ w = nmB S.A i) ∨ (usesGroup op = true ∧ w ∈ sel g.toNat S.A 0) ∨ (op = 17 ∧ w = nmB S.C i)
theorem mem_commas {w : W} (h : ¬ w = Ps.wComma) : ∀ l : List W, w ∈ commas l ↔ w ∈ l
  | [] => Iff.rfl
  | [_] => Iff.rfl
  | x :: y :: r => by
    have ih := mem_commas h (y :: r)
    rw [commas, List.mem_cons, List.mem_cons, ih, List.mem_cons]
    simp [h]
section
variable {S : Sg} {w : W}
theorem nmw_no (hw : NameOk w) : (¬ w = Ps.wTrue ∧ ¬ w = Ps.wFalse ∧ ¬ w = Ps.wNext ∧ ¬ w = Ps.wPrev ∧ ¬ w = Ps.wUntil ∧ ¬ w = Ps.wSince ∧ ¬ w = Ps.wNot ∧ ¬ w = Ps.wL ∧ ¬ w = Ps.wK ∧ ¬ w = Ps.wM ∧ ¬ w = Ps.wS ∧ ¬ w = Ps.wB ∧ ¬ w = Ps.wE ∧ ¬ w = Ps.wD ∧ ¬ w = Ps.wC ∧ ¬ w = Ps.wLB ∧ ¬ w = Ps.wBang ∧ ¬ w = Ps.wComma ∧ ¬ w = Ps.wAnd ∧ ¬ w = Ps.wOr ∧ ¬ w = Ps.wR ∧ ¬ w = Ps.wRB ∧ ¬ w = Ps.wImp ∧ ¬ w = Ps.wIff ∧ ¬ w = Ps.wDot) := by
  have hn := name_not hw
  simp only [List.mem_cons, List.not_mem_nil, or_false, not_or] at hn
  exact hn
theorem mem_par (hw : NameOk w) (o l : Nat) (ts : List W) : w ∈ parW o l ts ↔ w ∈ ts := by
  have hn := nmw_no hw
  unfold parW
  split
  · exact Iff.rfl
  · simp [hn]
theorem dig_no (hw : NameOk w) {b : Nat} (hb : b < 8) : ¬ w = digW (b : Int) := by
  rintro rfl
  have := (name_hd hw).1
  have hb' : b = 0 ∨ b = 1 ∨ b = 2 ∨ b = 3 ∨ b = 4 ∨ b = 5 ∨ b = 6 ∨ b = 7 := by omega
  rcases hb' with rfl | rfl | rfl | rfl | rfl | rfl | rfl | rfl <;> exact absurd this (by decide)
theorem mem_hd (hw : NameOk w) {op i e g : Int} (hx : usesX op = true) (hy : usesY op = false) (q : QS S op i e g) : w ∈ hdW S op i e g ↔ OwnN S w op i g := by
  have hn := nmw_no hw
  rcases un_cases hx hy q with ⟨ho, rfl, rfl, rfl⟩ | ⟨ho, rfl, rfl, a, rfl, ha⟩ | ⟨ho, rfl, rfl, n, rfl, h0, h1⟩ | ⟨rfl, rfl, a, b, rfl, rfl, ha, hb⟩
  · rcases ho with rfl | rfl | rfl <;> simp [hdW, OwnN, hn, usesAgent, usesGroup]
  · rcases ho with rfl | rfl | rfl <;> simp [hdW, OwnN, hn, usesAgent, usesGroup]
  · rcases ho with rfl | rfl <;> simp [hdW, OwnN, hn, usesAgent, usesGroup, mem_commas]
  · simp [hdW, OwnN, hn, usesAgent, usesGroup, dig_no hw hb]
theorem mem_cd (hw : NameOk w) {x : Fm.Form} (h : Nm S x) : w ∈ cdW x (prW S x) ↔ w ∈ prW S x := by
  have hn := nmw_no hw
  unfold cdW
  split
  · rename_i h1
    rw [top_one h h1]
    simp [prW, hn]
  · simp [hn]
theorem mem_pr (hw : NameOk w) : ∀ t : Fm.Form, Nm S t → (w ∈ prW S t ↔ AnyR (fun op i _ g => OwnN S w op i g) t)
  | leaf op i e g, h => by
    have hn := nmw_no hw
    rcases leaf_cases h.1 h.2 with ⟨rfl | rfl, rfl, rfl, rfl⟩ | ⟨rfl, rfl, rfl, a, rfl, ha⟩
    · simp [prW, AnyR, OwnN, hn, usesAgent, usesGroup]
    · simp [prW, AnyR, OwnN, hn, usesAgent, usesGroup]
    · simp [prW, AnyR, OwnN, usesAgent, usesGroup]
  | un op i e g x, h => by
    rw [prW, List.mem_append, mem_hd hw h.1 h.2.1 h.2.2.1, mem_par hw, mem_pr hw x h.2.2.2]
    exact Iff.rfl
  | bin op i e g x y, h => by
    have hn := nmw_no hw
    have ihx := mem_pr hw x h.2.2.1
    have ihy := mem_pr hw y h.2.2.2
    have key : (op = 5 ∨ op = 6 ∨ op = 7 ∨ op = 8 ∨ op = 19 ∨ op = 21) → (w ∈ prW S (bin op i e g x y) ↔ OwnN S w op i g ∨ AnyR (fun op i _ g => OwnN S w op i g) x ∨ AnyR (fun op i _ g => OwnN S w op i g) y) := fun ho => by
      have h1 : ¬ w = sgW op := by rcases ho with rfl | rfl | rfl | rfl | rfl | rfl <;> simp [sgW, hn]
      have h2 : ¬ OwnN S w op i g := by rcases ho with rfl | rfl | rfl | rfl | rfl | rfl <;> simp [OwnN, usesAgent, usesGroup]
      rw [prW, if_neg (by omega), if_neg (by omega), List.mem_append, List.mem_cons, mem_par hw, mem_par hw, ihx, ihy]
      simp [h1, h2]
    rcases bin_cases h.1 h.2.1 with ⟨ho, rfl, rfl, rfl⟩ | ⟨rfl, rfl, rfl, n, rfl, h0, h1⟩ | ⟨rfl, rfl, rfl, a, rfl, ha⟩
    · by_cases h16 : op = 16
      · subst h16
        have h2 : ¬ OwnN S w 16 0 0 := by simp [OwnN, usesAgent, usesGroup]
        rw [prW, if_pos rfl, List.mem_cons, List.mem_cons, List.mem_append, List.mem_cons, mem_par hw, ihx, ihy]
        show _ ↔ (OwnN S w 16 0 0 ∨ _ ∨ _)
        simp [hn, h2]
      · exact key (by omega)
    · have h2 : w ∈ cnW S 13 0 (n : Int) ↔ OwnN S w 13 0 (n : Int) := by simp [cnW, OwnN, hn, usesAgent, usesGroup, mem_commas]
      rw [prW, if_neg (by decide), if_pos (.inl rfl), List.mem_append, List.mem_append, List.mem_cons, mem_par hw, mem_cd hw h.2.2.1, ihx, ihy, h2]
      show _ ↔ (OwnN S w 13 0 (n : Int) ∨ _ ∨ _)
      simp [hn]
    · have h2 : w ∈ cnW S 14 (a : Int) 0 ↔ OwnN S w 14 (a : Int) 0 := by simp [cnW, OwnN, hn, usesAgent, usesGroup]
      rw [prW, if_neg (by decide), if_pos (.inr rfl), List.mem_append, List.mem_append, List.mem_cons, mem_par hw, mem_cd hw h.2.2.1, ihx, ihy, h2]
      show _ ↔ (OwnN S w 14 (a : Int) 0 ∨ _ ∨ _)
      simp [hn]
end
theorem or_bit (f : Nd → Nat) (i : Nat) : ∀ (l : List Nd) (m : Nat), (l.foldl (fun m n => m ||| f n) m).testBit i = true ↔ m.testBit i = true ∨ ∃ n ∈ l, (f n).testBit i = true
  | [], m => by simp
  | a :: l, m => by
    rw [List.foldl_cons, or_bit f i l, Nat.testBit_or]
    simp [or_assoc]
theorem mem_sel {x : ByteArray} (g : Nat) : ∀ (l : List ByteArray) (i : Nat), x ∈ sel g l i ↔ ∃ j, l[j]? = some x ∧ g.testBit (i + j) = true
  | [], i => by simp [sel]
  | y :: l, i => by
    have ih := mem_sel g (x := x) l (i + 1)
    have hs : (∃ j, (y :: l)[j]? = some x ∧ g.testBit (i + j) = true) ↔ (y = x ∧ g.testBit i = true) ∨ ∃ j, l[j]? = some x ∧ g.testBit (i + 1 + j) = true := by
      constructor
      · rintro ⟨j, h1, h2⟩
        cases j with
        | zero => exact .inl ⟨by simpa using h1, by simpa using h2⟩
        | succ j => exact .inr ⟨j, by simpa using h1, by rwa [show i + 1 + j = i + (j + 1) by omega]⟩
      · rintro (⟨rfl, h2⟩ | ⟨j, h1, h2⟩)
        · exact ⟨0, by simp, by simpa using h2⟩
        · exact ⟨j + 1, by simpa using h1, by rwa [show i + (j + 1) = i + 1 + j by omega]⟩
    rw [hs]
    unfold sel
    split
    · rename_i hb
      rw [List.mem_cons, ih]
      exact or_congr ⟨fun h => ⟨h.symm, hb⟩, fun h => h.1.symm⟩ Iff.rfl
    · rename_i hb
      rw [ih]
      simp [hb]
section
variable {S : Sg}
theorem parts_ne (h : checkS S = 0) : (∀ a ∈ S.A, ∀ b ∈ S.F, a ≠ b) ∧ (∀ a ∈ S.A, ∀ b ∈ S.C, a ≠ b) ∧ (∀ a ∈ S.F, ∀ b ∈ S.C, a ≠ b) := by
  have := (checkS_ok h).nodup
  unfold Sg.all at this
  rw [List.nodup_append, List.nodup_append] at this
  exact ⟨this.1.2.2, fun a ha b hb => this.2.2 a (List.mem_append_left _ ha) b hb, fun a ha b hb => this.2.2 a (List.mem_append_right _ ha) b hb⟩
theorem same_at {l : List ByteArray} (hl : l.Nodup) {j k : Nat} {x : ByteArray} (h : l[j]? = some x) (h' : l[k]? = some x) : j = k := by
  obtain ⟨h1, _⟩ := List.getElem?_eq_some_iff.1 h
  exact (List.getElem?_inj h1 hl).1 (h.trans h'.symm)
theorem nm_eq {l : List ByteArray} (hl : l.Nodup) {a k : Nat} {x : ByteArray} (ha : a < l.length) (hx : l[k]? = some x) : x = nmB l (a : Int) ↔ a = k := by
  constructor
  · rintro rfl
    exact same_at hl (nm_at ha) hx
  · rintro rfl
    exact Option.some.inj (hx.symm.trans (nm_at ha))
theorem ownN_fact (h : checkS S = 0) {k : Nat} {x : ByteArray} (hx : S.F[k]? = some x) {n : Nd} (q : QS S n.op n.i n.e n.g) : OwnN S x n.op n.i n.g ↔ (mF n).testBit k = true := by
  have hxm := List.mem_of_getElem? hx
  obtain ⟨d1, d2, d3⟩ := parts_ne h
  obtain ⟨r1, r2, r3, r4, r5⟩ := own_ranges q.1.1
  have hF := (nodup_parts h).2.1
  unfold OwnN mF
  constructor
  · rintro (⟨h1, h2⟩ | ⟨h1, h2⟩ | ⟨h1, h2⟩ | ⟨h1, h2⟩)
    · have hu : usesFact n.op = true := by simp [usesFact, h1]
      have hi := r2 hu
      have hl := q.1.2.2.1 hu
      obtain ⟨a, ha⟩ := Int.eq_ofNat_of_zero_le hi.1
      rw [ha] at h2 hl ⊢
      have := (nm_eq hF (by omega) hx).1 h2
      rw [if_pos hu, Int.toNat_natCast, Nat.testBit_two_pow, this]
      simp
    · have hi := r1 h1
      have hl := q.1.2.1 h1
      obtain ⟨a, ha⟩ := Int.eq_ofNat_of_zero_le hi.1
      rw [ha] at h2 hl
      exact absurd h2.symm (d1 _ (nm_mem (by omega)) _ hxm)
    · exact absurd rfl (d1 _ (sel_sub _ _ _ _ h2) _ hxm)
    · have hu : usesEvent n.op = true := by simp [usesEvent, h1]
      have hl := q.2 hu
      have h0 : 0 ≤ n.i := by
        have := q.1.1
        simp only [Fm.own, Fm.zeroed, Fm.ranged, Fm.within, h1] at this
        simp [usesFact, usesAgent, usesEvent, usesGroup] at this
        omega
      obtain ⟨a, ha⟩ := Int.eq_ofNat_of_zero_le h0
      rw [ha] at h2 hl
      exact absurd h2 (d3 _ hxm _ (nm_mem (by omega)))
  · intro hb
    split at hb
    · rename_i hu
      have hi := r2 hu
      have hl := q.1.2.2.1 hu
      obtain ⟨a, ha⟩ := Int.eq_ofNat_of_zero_le hi.1
      rw [ha, Int.toNat_natCast, Nat.testBit_two_pow] at hb
      have hak : a = k := by simpa using hb
      rw [ha] at hl ⊢
      exact .inl ⟨by simpa [usesFact] using hu, (nm_eq hF (by omega) hx).2 hak⟩
    · simp at hb
theorem ownN_agent (h : checkS S = 0) {k : Nat} {x : ByteArray} (hx : S.A[k]? = some x) {n : Nd} (q : QS S n.op n.i n.e n.g) : OwnN S x n.op n.i n.g ↔ (mA n).testBit k = true := by
  have hxm := List.mem_of_getElem? hx
  obtain ⟨d1, d2, d3⟩ := parts_ne h
  obtain ⟨r1, r2, r3, r4, r5⟩ := own_ranges q.1.1
  have hA := (nodup_parts h).1
  have hno : usesGroup n.op = true → ¬ usesAgent n.op = true := fun hu => by
    simp only [usesGroup, usesAgent, Bool.or_eq_true, decide_eq_true_eq] at hu ⊢
    omega
  unfold OwnN mA
  constructor
  · rintro (⟨h1, h2⟩ | ⟨h1, h2⟩ | ⟨h1, h2⟩ | ⟨h1, h2⟩)
    · have hu : usesFact n.op = true := by simp [usesFact, h1]
      have hi := r2 hu
      have hl := q.1.2.2.1 hu
      obtain ⟨a, ha⟩ := Int.eq_ofNat_of_zero_le hi.1
      rw [ha] at h2 hl
      exact absurd h2 (d1 _ hxm _ (nm_mem (by omega)))
    · have hi := r1 h1
      have hl := q.1.2.1 h1
      obtain ⟨a, ha⟩ := Int.eq_ofNat_of_zero_le hi.1
      rw [ha] at h2 hl ⊢
      have := (nm_eq hA (by omega) hx).1 h2
      rw [if_pos h1, Int.toNat_natCast, Nat.testBit_two_pow, this]
      simp
    · rw [if_neg (hno h1)]
      obtain ⟨j, h3, h4⟩ := (mem_sel _ _ _).1 h2
      rw [Nat.zero_add, same_at hA h3 hx] at h4
      exact h4
    · have hu : usesEvent n.op = true := by simp [usesEvent, h1]
      have hl := q.2 hu
      have h0 : 0 ≤ n.i := by
        have := q.1.1
        simp only [Fm.own, Fm.zeroed, Fm.ranged, Fm.within, h1] at this
        simp [usesFact, usesAgent, usesEvent, usesGroup] at this
        omega
      obtain ⟨a, ha⟩ := Int.eq_ofNat_of_zero_le h0
      rw [ha] at h2 hl
      exact absurd h2 (d2 _ hxm _ (nm_mem (by omega)))
  · intro hb
    split at hb
    · rename_i hu
      have hi := r1 hu
      have hl := q.1.2.1 hu
      obtain ⟨a, ha⟩ := Int.eq_ofNat_of_zero_le hi.1
      rw [ha, Int.toNat_natCast, Nat.testBit_two_pow] at hb
      have hak : a = k := by simpa using hb
      rw [ha] at hl ⊢
      exact .inr (.inl ⟨hu, (nm_eq hA (by omega) hx).2 hak⟩)
    · rename_i hu
      cases hg : usesGroup n.op with
      | false => rw [r5 hg] at hb; simp at hb
      | true => exact .inr (.inr (.inl ⟨rfl, (mem_sel _ _ _).2 ⟨k, hx, by rwa [Nat.zero_add]⟩⟩))
end
/-- Whether a word is among words. -/
def fnd (ws : List W) (x : W) : Bool := ws.any fun y => y.toList == x.toList
theorem fnd_iff (ws : List W) (x : W) : fnd ws x = true ↔ x ∈ ws := by
  unfold fnd
  simp only [List.any_eq_true, beq_iff_eq]
  constructor
  · rintro ⟨y, h1, h2⟩
    rw [ByteArray.toList_eq, ByteArray.toList_eq] at h2
    rwa [← ba_ext h2]
  · exact fun h => ⟨x, h, rfl⟩
theorem fnd_snoc {ws : List W} {k : Nat} {y : W} (h : ws[k]? = some y) (x : W) : fnd (ws.take (k + 1)) x = (fnd (ws.take k) x || y.toList == x.toList) := by
  unfold fnd
  rw [List.take_add_one, h]
  simp
theorem names_law {S : Sg} {l : List Nd} {s : List UInt8} (h : printF S l = (s, 0)) :
    (∃ cs, tokF (txt s) = .ok cs ∧ tW cs = prW S (tr l)) ∧ fitsB l S.A.length S.F.length = true ∧
    (∀ (k : Nat) (x : ByteArray), S.F[k]? = some x → fnd (prW S (tr l)) x = (orF (compactL l)).testBit k) ∧
    (∀ (k : Nat) (x : ByteArray), S.A[k]? = some x → fnd (prW S (tr l)) x = (orA (compactL l)).testBit k) := by
  obtain ⟨h1, h2, h3, rfl, h5⟩ := printF_ok h
  obtain ⟨hn, _, hl⟩ := nm_of h3
  have hq : ∀ n ∈ cl (tr l), QS S n.op n.i n.e n.g := ins_all _ [] (nm_allR hn) (fun n hn => by simp at hn)
  have bi : ∀ {a b : Bool}, (a = true ↔ b = true) → a = b := fun {a b} h => by cases a <;> cases b <;> simp_all
  refine ⟨pr_tok h1 hn h5, ?_, fun k x hx => bi ?_, fun k x hx => bi ?_⟩
  · unfold okN at h3
    simp only [Bool.and_eq_true] at h3
    exact h3.1
  · rw [fnd_iff, mem_pr (all_name h1 (subF x (List.mem_of_getElem? hx))) _ hn, ← any_cl, Fm.compactL_ok h2]
    unfold orF
    rw [or_bit]
    simp only [Nat.zero_testBit, Bool.false_eq_true, false_or]
    exact ⟨fun ⟨n, hm, h⟩ => ⟨n, hm, (ownN_fact h1 hx (hq n hm)).1 h⟩, fun ⟨n, hm, h⟩ => ⟨n, hm, (ownN_fact h1 hx (hq n hm)).2 h⟩⟩
  · rw [fnd_iff, mem_pr (all_name h1 (subA x (List.mem_of_getElem? hx))) _ hn, ← any_cl, Fm.compactL_ok h2]
    unfold orA
    rw [or_bit]
    simp only [Nat.zero_testBit, Bool.false_eq_true, false_or]
    exact ⟨fun ⟨n, hm, h⟩ => ⟨n, hm, (ownN_agent h1 hx (hq n hm)).1 h⟩, fun ⟨n, hm, h⟩ => ⟨n, hm, (ownN_agent h1 hx (hq n hm)).2 h⟩⟩
end Go.Proofs.YtbidfbojealmlaaGreatDoor
