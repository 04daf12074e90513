/- The reader: want, name, take and prefix, whether there is an error or not. Conditions: the reader lies as it is built; what prefix does. -/
import Derived.Test.YtbidfbojealmlaaGreatDoorPaM
import Derived.Deep.CutBlock
set_option linter.unusedVariables false
set_option linter.unusedSimpArgs false
namespace Go.Proofs.YtbidfbojealmlaaGreatDoor
open Go.RowKit
open Fm (Nd cl mk0 mk1 mk2 tr)
open Fm.Form
open Ps (Res)

section
variable {α β : Type}
/-- Steps that keep what has been read. -/
def thenW (st : Res α) (s : ByteArray) : Res α := match st with | .ok a ts => (match Ps.want s ts with | .ok _ r => .ok a r | .bad r x => .bad r x) | .bad r x => .bad r x
def thenP (st : Res α) (p : Ps.P β) : Res (α × β) := match st with | .ok a ts => (match p ts with | .ok b r => .ok (a, b) r | .bad r x => .bad r x) | .bad r x => .bad r x
def mapR (st : Res α) (f : α → β) : Res β := match st with | .ok a ts => .ok (f a) ts | .bad r x => .bad r x
/-- The state that belongs to what has been read. -/
def SS (E : Env) (w : World) (st : Res α) (Lf : α → Bool) : Prop := match st with | .ok a ts => Live E w ts (Lf a) | .bad r x => ∃ L, Dead E w r.length x L
theorem SS.lt {E : Env} {w : World} {st : Res α} {Lf : α → Bool} (h : SS E w st Lf) : E.b < w.heap.size := by
  cases st with
  | ok a ts => exact Live.lt h
  | bad r x => obtain ⟨L, h⟩ := h; exact h.lt
theorem SS.keep {E : Env} {w w' : World} {st : Res α} {Lf : α → Bool} (h : SS E w st Lf) (hk : Keep NoF w w') : SS E w' st Lf := by
  cases st with
  | ok a ts => exact Live.keep h hk
  | bad r x => obtain ⟨L, h⟩ := h; exact ⟨L, h.keep hk⟩
theorem want_ok (s : ByteArray) (r : List ByteArray) : Ps.want s (s :: r) = .ok () r := Ps.tok_ok (by rw [if_pos rfl]) r
theorem want_bad {s : ByteArray} {ts : List ByteArray} (h : ∀ r, ts ≠ s :: r) : Ps.want s ts = .bad ts 4 := by
  cases ts with
  | nil => rfl
  | cons t r => exact Ps.tok_err (by rw [if_neg (fun e => h r (by rw [e]))]) r
end
/-- A formula's list, behind what has been read. -/
def PS {α : Type} (E : Env) (w : World) (st : Res (α × Fm.Form)) (Lf : α → Bool) (l : List Nd) : Prop := match st with
  | .ok a r => Fm.Good a.2 ∧ Live E w r (Lf a.1 || dB a.2) ∧ ((Lf a.1 || dB a.2) = false → l = cl a.2)
  | .bad r x => ∃ L, Dead E w r.length x L
theorem PS.keep {α : Type} {E : Env} {w w' : World} {st : Res (α × Fm.Form)} {Lf : α → Bool} {l : List Nd} (h : PS E w st Lf l) (hk : Keep NoF w w') : PS E w' st Lf l := by
  cases st with
  | ok a r => exact ⟨h.1, h.2.1.keep hk, h.2.2⟩
  | bad r x => obtain ⟨L, hd⟩ := h; exact ⟨L, hd.keep hk⟩
theorem PS.ss {α : Type} {E : Env} {w : World} {st : Res (α × Fm.Form)} {Lf : α → Bool} {l : List Nd} (h : PS E w st Lf l) : SS E w st (fun p => Lf p.1 || dB p.2) := by
  cases st with
  | ok a r => exact h.2.1
  | bad r x => exact h
/-- What reads a formula, behind what has been read. -/
def Post2 {α : Type} (E : Env) (w : World) (st : Res (α × Fm.Form)) (Lf : α → Bool) (e : Ending) (w' : World) : Prop :=
  ∃ (A : Option Addr) (c : Nat) (l : List Nd), e = .returned (.slice A l.length c) ∧ FR E w' A c l ∧ E.K w w' ∧ PS E w' st Lf l
section
set_option maxRecDepth 100000
set_option maxHeartbeats 2000000
variable {E : Env} {α : Type} {w : World} {st : Res α} {Lf : α → Bool}
theorem want_all (hE : E.Ok) (s : ByteArray) (hs : s.data.toList ≠ []) (h : SS E w st Lf) : Calls Tryz.prog 131 #[E.ptr, .string s] w fun e w' => e = .returned (.tuple #[]) ∧ SS E w' (thenW st s) Lf ∧ E.K w w' := by
  cases st with
  | bad r x =>
    obtain ⟨L, hd⟩ := h
    refine (want_dead hd s).mono ?_
    rintro e w' ⟨rfl, rfl⟩
    exact ⟨rfl, ⟨L, hd⟩, Keep.refl _ _⟩
  | ok a ts =>
    by_cases hw : ∃ r, ts = s :: r
    · obtain ⟨r, rfl⟩ := hw
      refine (want_yes hE s hs h).mono ?_
      rintro e w' ⟨rfl, hl, hk⟩
      exact ⟨rfl, by simp only [thenW, want_ok]; exact hl, hk⟩
    · have hno : ∀ r, ts ≠ s :: r := fun r e => hw ⟨r, e⟩
      refine (want_no hE s h hno).mono ?_
      rintro e w' ⟨rfl, hd, hk⟩
      exact ⟨rfl, by simp only [thenW, want_bad hno]; exact ⟨_, hd⟩, hk⟩
theorem name_all (hE : E.Ok) {F : Nat} {find : ByteArray → Int} (hF : FindOk E F find) (h : SS E w st Lf) : Calls Tryz.prog 134 #[E.ptr, .func (.func F) #[] #[]] w fun e w' => ∃ v : Int, e = .returned (.int .i64 v) ∧ SS E w' (thenP st (Ps.name find)) (fun p => Lf p.1) ∧ (∀ p r, thenP st (Ps.name find) = .ok p r → v = (p.2 : Int)) ∧ E.K w w' := by
  cases st with
  | bad r x =>
    obtain ⟨L, hd⟩ := h
    refine (name_dead hE hd _).mono ?_
    rintro e w' ⟨rfl, hk⟩
    exact ⟨0, rfl, ⟨L, hd.keep hk⟩, (fun _ _ e => by cases e), K0 hk⟩
  | ok a ts =>
    cases ts with
    | nil =>
      refine (name_end hE h _).mono ?_
      rintro e w' ⟨rfl, hd, hk⟩
      exact ⟨0, rfl, ⟨_, hd⟩, (fun _ _ e => by cases e), hk⟩
    | cons t r =>
      cases hn : Ps.nameE find t with
      | ok i =>
        have e1 : thenP (.ok a (t :: r)) (Ps.name find) = .ok (a, i) r := by simp only [thenP, Ps.name, Ps.tok_ok hn]
        rw [e1]
        refine (name_ok hE hF h hn).mono ?_
        rintro e w' ⟨rfl, hl, hk⟩
        exact ⟨i, rfl, hl, (fun _ _ e => by cases e; rfl), hk⟩
      | error x =>
        have e1 : thenP (.ok a (t :: r)) (Ps.name find) = .bad (t :: r) x := by simp only [thenP, Ps.name, Ps.tok_err hn]
        rw [e1]
        refine (name_err hE hF h hn).mono ?_
        rintro e w' ⟨rfl, hd, hk⟩
        exact ⟨0, rfl, ⟨_, hd⟩, (fun _ _ e => by cases e), hk⟩
/-- Whether a token stands there and is taken. -/
def takes (st : Res α) (s : ByteArray) : Bool := match st with | .ok _ (t :: _) => decide (t = s) | _ => false
def tookR (st : Res α) : Res α := match st with | .ok a (_ :: r) => .ok a r | .ok a [] => .ok a [] | .bad r x => .bad r x
theorem take_all_yes (hE : E.Ok) (s : ByteArray) (hs : s.data.toList ≠ []) (h : SS E w st Lf) (ht : takes st s = true) : Calls Tryz.prog 67 #[E.ptr, .string s] w fun e w' => e = .returned (.bool true) ∧ SS E w' (tookR st) Lf ∧ E.K w w' := by
  cases st with
  | bad r x => cases ht
  | ok a ts =>
    cases ts with
    | nil => cases ht
    | cons t r =>
      obtain rfl : t = s := by simpa [takes] using ht
      exact take_yes_any hE t hs h
theorem take_all_no (hE : E.Ok) (s : ByteArray) (h : SS E w st Lf) (ht : takes st s = false) : Calls Tryz.prog 67 #[E.ptr, .string s] w fun e w' => e = .returned (.bool false) ∧ Keep NoF w w' := by
  cases st with
  | bad r x =>
    obtain ⟨L, hd⟩ := h
    refine (take_dead hd s).mono ?_
    rintro e w' ⟨rfl, rfl⟩
    exact ⟨rfl, Keep.refl _ _⟩
  | ok a ts => exact take_no_any hE s h (by rintro r rfl; simp [takes] at ht)
theorem prefix_dead (hE : E.Ok) {w : World} {m x : Nat} {L : Bool} (h : Dead E w m x L) : Calls Tryz.prog 117 #[E.ptr] w (DPost E w m x) := by
  have HP := Lib.hid (peek_dead hE h)
  have HN : Hid (∀ w1, Keep NoF w w1 → Calls Tryz.prog 134 #[E.ptr, .func (.func 135) #[] #[]] w1 fun e w' => e = .returned (.int .i64 0) ∧ Keep NoF w1 w') := Lib.hid fun w1 hk => name_dead hE (h.keep hk) _
  have HF : Hid (∀ w1, Keep NoF w w1 → Calls Tryz.prog 136 #[.int .i64 0] w1 fun e w' => ∃ (A : Option Addr) (c : Nat), e = .returned (.slice A (mk0 3 0 0 0).length c) ∧ FR E w' A c (mk0 3 0 0 0) ∧ Keep NoF w1 w') := Lib.hid fun w1 hk => (c_Fact 0 w1).mono fun _ _ hq => hq.fr (h.keep hk).lt (mk_len0 _ _ _ _)
  have HD := Lib.hid fun w1 (hk : Keep NoF w w1) => h.keep hk
  generalize mk0 3 0 0 0 = l at *
  clear h
  go_enter Tryz.func117, Tryz.ntmps117
  go_wp2_with (first
    | (go_at_call 98; (with_reducible refine HP.out.mono ?_); rintro e w1 ⟨rfl, K1⟩)
    | (go_at_call 134; (with_reducible refine (HN.out _ K1).mono ?_); rintro e w2 ⟨rfl, K2⟩; have K12 := K1.trans K2 fun _ _ h => h; have H3 := Lib.hid (HF.out w2 K12))
    | (go_at_call 136; (with_reducible refine H3.out.mono ?_); rintro e w3 ⟨A3, c3, rfl, R3, K3⟩; have K13 := K12.trans K3 fun _ _ h => h; have H4 := Lib.hid (keep_dead hE (HD.out w3 K13) R3))
    | (go_at_call 68; (with_reducible refine H4.out.mono ?_); rintro e w4 ⟨A4, c4, f4, rfl, R4, K4, Q4⟩))
  refine bodyPost_ret (v := .slice A4 f4.length c4) (by simp [results, Tryz.results117, go_sem]) rfl ?_
  exact ⟨A4, c4, f4, rfl, R4, K_trans (K0 K13) K4, Q4⟩
theorem prefix_all (hE : E.Ok) {q : Ps.P Fm.Form} {N : Nat} (HP : Part E 117 #[E.ptr] (fun _ => True) q N) (h : SS E w st Lf) (hn : ∀ a r, st = .ok a r → r.length < N) : Calls Tryz.prog 117 #[E.ptr] w (Post2 E w (thenP st q) Lf) := by
  cases st with
  | bad r x =>
    obtain ⟨L, hd⟩ := h
    exact prefix_dead hE hd
  | ok a ts =>
    refine (HP ts w (Lf a) (hn a ts rfl) trivial h).mono ?_
    rintro e w' ⟨A, c, l, he, hr, hk, hm⟩
    refine ⟨A, c, l, he, hr, hk, ?_⟩
    cases hq : q ts with
    | ok t r => rw [hq] at hm; exact (by simp only [thenP, hq]; exact hm)
    | bad r x => rw [hq] at hm; exact (by simp only [thenP, hq]; exact hm)
/-- A formula behind what has been read, without an error so far. -/
theorem formula_all {p : Ps.P Fm.Form} {N : Nat} (HF : Part E 35 #[E.ptr] (fun _ => True) p N) {a : α} {ts : List ByteArray} (h : SS E w (.ok a ts) Lf) (hn : ts.length < N) : Calls Tryz.prog 35 #[E.ptr] w (Post2 E w (thenP (.ok a ts) p) Lf) := by
  refine (HF ts w (Lf a) hn trivial h).mono ?_
  rintro e w' ⟨A, c, l, he, hr, hk, hm⟩
  refine ⟨A, c, l, he, hr, hk, ?_⟩
  cases hq : p ts with
  | ok t r => rw [hq] at hm; exact (by simp only [thenP, hq]; exact hm)
  | bad r x => rw [hq] at hm; exact (by simp only [thenP, hq]; exact hm)
/-- What is kept at the end, under an operator with one operand. -/
theorem keep_un (hE : E.Ok) {L0 : Bool} {st : Res (α × Fm.Form)} {l : List Nd} {op i e g : Int} {fi fe fg : α → Int} {A : Option Addr} {c : Nat}
    (h : PS E w st (fun _ => L0) l)
    (hv : ∀ p r, st = .ok p r → i = fi p.1 ∧ e = fe p.1 ∧ g = fg p.1 ∧ (Fm.Good p.2 → Fm.Good (un op i e g p.2))) (hr : FR E w A c (mk1 op i e g l)) :
    Calls Tryz.prog 68 #[E.ptr, .slice A (mk1 op i e g l).length c] w (Post E w L0 (mapR st fun p => un op (fi p.1) (fe p.1) (fg p.1) p.2)) := by
  cases st with
  | ok p r =>
    obtain ⟨rfl, rfl, rfl, hg⟩ := hv p r rfl
    exact keep1 hE h.2.1 (hg h.1) h.2.2 hr
  | bad r x =>
    obtain ⟨L, hd⟩ := h
    exact keepD hE hd hr
/-- The same with two operands. -/
theorem keep_bin (hE : E.Ok) {L0 : Bool} {st : Res (α × Fm.Form)} {f l : List Nd} {op i e g : Int} {fi fe fg : α → Int} {ff : α → Fm.Form} {A : Option Addr} {c : Nat}
    (h : PS E w st (fun a => L0 || dB (ff a)) l)
    (hv : ∀ p r, st = .ok p r → i = fi p.1 ∧ e = fe p.1 ∧ g = fg p.1 ∧ (Fm.Good p.2 → Fm.Good (bin op i e g (ff p.1) p.2)) ∧ ((L0 || dB (ff p.1)) = false → f = cl (ff p.1))) (hr : FR E w A c (mk2 op i e g f l)) :
    Calls Tryz.prog 68 #[E.ptr, .slice A (mk2 op i e g f l).length c] w (Post E w L0 (mapR st fun p => bin op (fi p.1) (fe p.1) (fg p.1) (ff p.1) p.2)) := by
  cases st with
  | ok p r =>
    obtain ⟨rfl, rfl, rfl, hg, hf⟩ := hv p r rfl
    exact keep2 hE h.2.1 (hg h.1) hf h.2.2 hr
  | bad r x =>
    obtain ⟨L, hd⟩ := h
    exact keepD hE hd hr
end
end Go.Proofs.YtbidfbojealmlaaGreatDoor
