/- The reader: what keep does; what a part of the grammar hands back; the length of what is built. Conditions: the reader lies as it is built. -/
import Derived.Test.YtbidfbojealmlaaGreatDoorPaI
import Derived.Test.YtbidfbojealmlaaGreatDoorPaF
import Derived.Test.YtbidfbojealmlaaGreatDoorFmJL
set_option linter.unusedVariables false
set_option linter.unusedSimpArgs false
namespace Go.Proofs.YtbidfbojealmlaaGreatDoor
open Go.RowKit
open Fm (Nd cl mk0 mk1 mk2 tr)
open Fm.Form

/-- A formula that is handed back: a list of nodes that is not in the reader. -/
structure FR (E : Env) (w : World) (A : Option Addr) (c : Nat) (l : List Nd) : Prop where
  rd : Rd w (.slice A l.length c) 6 l.length (fmC l)
  len : l.length ≤ 9223372036854775807
  ne : ∀ k, (Value.slice A l.length c).ownBlock = some k → k ≠ E.b
theorem FR.keep {E : Env} {w w' : World} {A : Option Addr} {c : Nat} {l : List Nd} (h : FR E w A c l) (hk : E.K w w') : FR E w' A c l := ⟨h.rd.kept hk h.ne, h.len, h.ne⟩
/-- Whether a formula has too many nodes. -/
def dB (t : Fm.Form) : Bool := decide (200 < (cl t).length)
theorem mk_len0 (op i e g : Int) : (mk0 op i e g).length ≤ 200 := by
  unfold mk0 Fm.capped
  split
  · simp
  · split
    · simp
    · omega
theorem mk_len1 (op i e g : Int) (f : List Nd) : (mk1 op i e g f).length ≤ 200 := by
  unfold mk1 Fm.capped
  split
  · simp
  · split
    · simp
    · omega
theorem mk_len2 (op i e g : Int) (f h : List Nd) : (mk2 op i e g f h).length ≤ 200 := by
  unfold mk2 Fm.capped
  split
  · simp
  · split
    · simp
    · omega
theorem capped_ok (t : Fm.Form) : (Fm.capped (cl t)).isEmpty = dB t ∧ (dB t = false → Fm.capped (cl t) = cl t) := by
  unfold Fm.capped dB
  have := Fm.cl_pos t
  by_cases h : 200 < (cl t).length
  · rw [if_pos h]; simp [h]
  · rw [if_neg h]
    refine ⟨?_, fun _ => rfl⟩
    rw [decide_eq_false h]
    cases hc : cl t with
    | nil => rw [hc] at this; simp at this
    | cons a r => rfl
theorem check_cl {t : Fm.Form} (hg : Fm.Good t) (h : dB t = false) : Fm.checkE (cl t) = 0 := Fm.cl_check hg (by unfold dB at h; simpa using h)
/-- Nothing, one or two formulas under an operator. -/
theorem join0 {op i e g : Int} (L0 : Bool) (hg : Fm.Good (leaf op i e g)) : (L0 || (mk0 op i e g).isEmpty) = (L0 || dB (leaf op i e g)) ∧ ((L0 || dB (leaf op i e g)) = false → mk0 op i e g = cl (leaf op i e g)) := by
  have : mk0 op i e g = Fm.capped (cl (leaf op i e g)) := by unfold mk0; rw [if_neg (by rw [hg.2]; simp)]
  rw [this, (capped_ok _).1]
  exact ⟨rfl, fun h => (capped_ok _).2 (by cases L0 <;> simp_all)⟩
theorem join1 {op i e g : Int} {t : Fm.Form} {f : List Nd} (L0 : Bool) (hg : Fm.Good (un op i e g t)) (hf : (L0 || dB t) = false → f = cl t) :
    ((L0 || dB t) || (mk1 op i e g f).isEmpty) = (L0 || dB (un op i e g t)) ∧ ((L0 || dB (un op i e g t)) = false → mk1 op i e g f = cl (un op i e g t)) := by
  obtain ⟨_, _, ho, ht⟩ := hg
  have hmono : dB t = true → dB (un op i e g t) = true := fun h => by
    unfold dB at *
    have := Fm.cl_prefix_un op i e g t
    simp at *
    omega
  have hmk : (L0 || dB t) = false → mk1 op i e g f = Fm.capped (cl (un op i e g t)) := fun h => by
    have hd : dB t = false := by cases L0 <;> simp_all
    have hc := check_cl ht hd
    rw [hf h]
    unfold mk1
    rw [if_neg (by simp [hc, ho]), Fm.tr_cl ht.fit]
  cases hL : (L0 || dB t) with
  | false =>
    rw [hmk hL, (capped_ok _).1]
    have : L0 = false := by cases L0 <;> simp_all
    subst this
    exact ⟨rfl, fun h => (capped_ok _).2 (by simpa using h)⟩
  | true =>
    have : (L0 || dB (un op i e g t)) = true := by
      cases L0
      · simp at hL ⊢; exact hmono hL
      · rfl
    rw [this]
    exact ⟨rfl, fun h => by cases h⟩
theorem join2 {op i e g : Int} {t s : Fm.Form} {f h : List Nd} (L0 : Bool) (hg : Fm.Good (bin op i e g t s)) (hf : (L0 || dB t) = false → f = cl t) (hh : ((L0 || dB t) || dB s) = false → h = cl s) :
    (((L0 || dB t) || dB s) || (mk2 op i e g f h).isEmpty) = (L0 || dB (bin op i e g t s)) ∧ ((L0 || dB (bin op i e g t s)) = false → mk2 op i e g f h = cl (bin op i e g t s)) := by
  obtain ⟨_, ho, ht, hs⟩ := hg
  have hm1 : dB t = true → dB (bin op i e g t s) = true := fun h => by
    unfold dB at *
    have := Fm.cl_prefix_bin op i e g t s
    simp at *
    omega
  have hm2 : dB s = true → dB (bin op i e g t s) = true := fun h => by
    unfold dB at *
    have := Fm.cl_le_bin op i e g t s hs.fit
    simp at *
    omega
  have hmk : ((L0 || dB t) || dB s) = false → mk2 op i e g f h = Fm.capped (cl (bin op i e g t s)) := fun hL => by
    have h1 : (L0 || dB t) = false := by cases hd : (L0 || dB t) <;> simp_all
    have hd : dB t = false := by cases L0 <;> simp_all
    have hd2 : dB s = false := by rw [h1] at hL; simpa using hL
    rw [hf h1, hh hL]
    unfold mk2
    rw [if_neg (by simp [check_cl ht hd, check_cl hs hd2, ho]), Fm.tr_cl ht.fit, Fm.tr_cl hs.fit]
  cases hL : ((L0 || dB t) || dB s) with
  | false =>
    rw [hmk hL, (capped_ok _).1]
    have : L0 = false := by cases L0 <;> simp_all
    subst this
    exact ⟨rfl, fun h => (capped_ok _).2 (by simpa using h)⟩
  | true =>
    have : (L0 || dB (bin op i e g t s)) = true := by
      cases L0
      · simp at hL ⊢
        rcases hL with hL | hL
        · exact hm1 hL
        · exact hm2 hL
      · rfl
    rw [this]
    exact ⟨rfl, fun h => by cases h⟩
/-- What a part of the grammar hands back. -/
def Post (E : Env) (w : World) (L0 : Bool) (r : Ps.Res Fm.Form) (e : Ending) (w' : World) : Prop :=
  ∃ (A : Option Addr) (c : Nat) (l : List Nd), e = .returned (.slice A l.length c) ∧ FR E w' A c l ∧ E.K w w' ∧
    match r with
    | .ok t ts => Fm.Good t ∧ Live E w' ts (L0 || dB t) ∧ ((L0 || dB t) = false → l = cl t)
    | .bad r x => ∃ L, Dead E w' r.length x L
/-- The same after an error. -/
def DPost (E : Env) (w : World) (m x : Nat) (e : Ending) (w' : World) : Prop :=
  ∃ (A : Option Addr) (c : Nat) (l : List Nd), e = .returned (.slice A l.length c) ∧ FR E w' A c l ∧ E.K w w' ∧ ∃ L, Dead E w' m x L
theorem FmPost.fr {E : Env} {w w' : World} {l : List Nd} {e : Ending} (h : FmPost w l e w') (hb : E.b < w.heap.size) (hl : l.length ≤ 200) : ∃ (A : Option Addr) (c : Nat), e = .returned (.slice A l.length c) ∧ FR E w' A c l ∧ Keep NoF w w' := by
  obtain ⟨A, c, he, hr, hk, hf⟩ := h
  exact ⟨A, c, he, ⟨hr, by omega, fun k hk' e => by have := hf k hk'; omega⟩, hk⟩
section
set_option maxRecDepth 100000
set_option maxHeartbeats 1000000
variable {E : Env} {w w' : World} {L : Bool} {ts : List ByteArray} {m x : Nat} {A : Option Addr} {c : Nat} {l : List Nd}
theorem true_any (hE : E.Ok) (hb : E.b < w.heap.size) : Calls Tryz.prog 99 #[] w fun e w' => ∃ (A : Option Addr) (c : Nat), e = .returned (.slice A 1 c) ∧ FR E w' A c (cl (leaf 1 0 0 0)) ∧ Keep NoF w w' := by
  refine (c_True w).mono fun e w' h => ?_
  obtain ⟨A, c, he, hr, hk⟩ := h.fr hb (mk_len0 _ _ _ _)
  have e1 : mk0 1 0 0 0 = cl (leaf 1 0 0 0) := by decide +kernel
  rw [e1] at he hr
  exact ⟨A, c, he, hr, hk⟩
theorem keep_live (hE : E.Ok) (h : Live E w ts L) (hf : FR E w A c l) : Calls Tryz.prog 68 #[E.ptr, .slice A l.length c] w fun e w' => ∃ (A' : Option Addr) (c' : Nat) (l' : List Nd), e = .returned (.slice A' l'.length c') ∧ FR E w' A' c' l' ∧ E.K w w' ∧ Live E w' ts (L || l.isEmpty) ∧ ((L || l.isEmpty) = false → l' = l) := by
  have c7 : w.cell? ⟨E.b, 7, none⟩ = some (.int .i64 0) := h.st.c7
  have c9 := h.st.c9
  have f9 := h.st.fr 9
  have hle := hf.len
  cases hL : (L || l.isEmpty) with
  | false =>
    have e1 : L = false := by cases L <;> simp_all
    subst e1
    have hl : l.isEmpty = false := by simpa using hL
    have hpos : 0 < l.length := by cases l with | nil => simp at hl | cons a r => simp
    have HL := Lib.hid h
    have HF := Lib.hid hf
    clear h hf hL hl
    generalize hn : l.length = n at *
    have HN := Lib.hid hn
    have hn0 : ((n : Int) == 0) = false := beq_eq_false_iff_ne.2 (by omega)
    clear hn
    go_enter Tryz.func68, Tryz.ntmps68
    go_wp2
    refine bodyPost_ret (v := .slice A n c) (by simp [results, Tryz.results68, go_sem]) rfl ?_
    exact ⟨A, c, l, by rw [HN.out], HF.out, Keep.refl _ _, HL.out, fun _ => rfl⟩
  | true =>
    have HL : Hid (Live E (w.setCell ⟨E.b, 9, none⟩ (.bool true)) ts true) := Lib.hid ⟨h.suf, h.st.setLong hE true⟩
    have HT : Hid (Calls Tryz.prog 99 #[] (w.setCell ⟨E.b, 9, none⟩ (.bool true)) _) := Lib.hid (true_any hE HL.out.st.bk.lt)
    cases L with
    | true =>
      clear h hf hL
      generalize l.length = n at *
      go_enter Tryz.func68, Tryz.ntmps68
      go_wp2_with (go_at_call 99; (with_reducible refine HT.out.mono ?_); rintro e w2 ⟨A2, c2, rfl, hf2, hk2⟩)
      refine bodyPost_ret (v := .slice A2 1 c2) (by simp [results, Tryz.results68, go_sem]) rfl ?_
      exact ⟨A2, c2, _, rfl, hf2, (K_set (Keep.refl _ _) 9 _).trans hk2 fun _ _ h => h.elim, HL.out.keep hk2, fun h => by cases h⟩
    | false =>
      have hl : l.length = 0 := by cases l with | nil => rfl | cons a r => simp at hL
      rw [hl]
      clear h hf hL hle hl
      go_enter Tryz.func68, Tryz.ntmps68
      go_wp2_with (go_at_call 99; (with_reducible refine HT.out.mono ?_); rintro e w2 ⟨A2, c2, rfl, hf2, hk2⟩)
      refine bodyPost_ret (v := .slice A2 1 c2) (by simp [results, Tryz.results68, go_sem]) rfl ?_
      exact ⟨A2, c2, _, rfl, hf2, (K_set (Keep.refl _ _) 9 _).trans hk2 fun _ _ h => h.elim, HL.out.keep hk2, fun h => by cases h⟩
theorem keep_dead (hE : E.Ok) (h : Dead E w m x L) (hf : FR E w A c l) : Calls Tryz.prog 68 #[E.ptr, .slice A l.length c] w (DPost E w m x) := by
  have hp0 := h.pos
  have c7 := h.st.c7
  have c9 := h.st.c9
  have f9 := h.st.fr 9
  have hle := hf.len
  have hp : ((x : Int) != 0) = true := by simp; omega
  have hp2 : ((x : Int) == 0) = false := beq_eq_false_iff_ne.2 (by omega)
  have HL : Hid (Dead E (w.setCell ⟨E.b, 9, none⟩ (.bool L)) m x L) := Lib.hid ⟨h.pos, h.st.setLong hE L⟩
  have HT : Hid (Calls Tryz.prog 99 #[] (w.setCell ⟨E.b, 9, none⟩ (.bool L)) _) := Lib.hid (true_any hE HL.out.st.bk.lt)
  clear h hf
  generalize l.length = n at *
  cases L
  all_goals
    go_enter Tryz.func68, Tryz.ntmps68
    go_wp2_with (go_at_call 99; (with_reducible refine HT.out.mono ?_); rintro e w2 ⟨A2, c2, rfl, hf2, hk2⟩)
    refine bodyPost_ret (v := .slice A2 1 c2) (by simp [results, Tryz.results68, go_sem]) rfl ?_
    exact ⟨A2, c2, _, rfl, hf2, (K_set (Keep.refl _ _) 9 _).trans hk2 fun _ _ h => h.elim, _, HL.out.keep hk2⟩
end
end Go.Proofs.YtbidfbojealmlaaGreatDoor
