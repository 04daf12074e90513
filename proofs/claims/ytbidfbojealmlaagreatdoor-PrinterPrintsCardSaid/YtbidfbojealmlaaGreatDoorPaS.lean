/- The reader: what prefix does. Conditions: the reader lies as it is built; what formula and prefix do on shorter rests. The reader: what prefix and formula do, on tokens that are fewer than the fuel. Condition: the reader lies as it is built. No condition. -/
import Derived.Test.YtbidfbojealmlaaGreatDoorPaQ
set_option linter.unusedVariables false
set_option linter.unusedSimpArgs false
namespace Go.Proofs.YtbidfbojealmlaaGreatDoor
open Go.RowKit
open Fm (Nd cl mk0 mk1 mk2 tr)
open Fm.Form
open Ps (Res)

section
variable {form q : Ps.P Fm.Form} {S : Ps.Sig} {n : Nat} {r : List ByteArray}
theorem eq_un (op : Int) : Ps.unP op q r = mapR (thenP (Res.ok () r) q) fun p => un op 0 0 0 p.2 := by
  simp only [Ps.unP, Ps.bind, thenP]
  cases q r <;> rfl
theorem eq_par : Ps.parP form r = mapR (thenW (thenP (Res.ok () r) form) Ps.wR) fun p => p.2 := by
  simp only [Ps.parP, Ps.bind, thenP]
  cases form r with
  | bad r x => rfl
  | ok t r => simp only [thenW]; cases Ps.want Ps.wR r <;> rfl
theorem eq_ag (op : Int) : Ps.agP S op q r = mapR (thenP (thenW (thenP (thenW (Res.ok () r) Ps.wLB) (Ps.name S.ag)) Ps.wRB) q) fun p => un op (p.1.2 : Int) 0 0 p.2 := by
  simp only [Ps.agP, Ps.bind, thenW]
  cases Ps.want Ps.wLB r with
  | bad r x => rfl
  | ok u r =>
    simp only [thenP]
    cases Ps.name S.ag r with
    | bad r x => rfl
    | ok i r =>
      simp only
      cases Ps.want Ps.wRB r with
      | bad r x => rfl
      | ok u r => simp only; cases q r <;> rfl
theorem eq_gr (op : Int) : Ps.grP S op q n r = mapR (thenP (thenW (stepU (thenW (Res.ok () r) Ps.wLB) (Ps.groupP S.ag n 0)) Ps.wRB) q) fun p => un op 0 0 (p.1 : Int) p.2 := by
  simp only [Ps.grP, Ps.bind, thenW]
  cases Ps.want Ps.wLB r with
  | bad r x => rfl
  | ok u r =>
    simp only [stepU]
    cases Ps.groupP S.ag n 0 r with
    | bad r x => rfl
    | ok i r =>
      simp only
      cases Ps.want Ps.wRB r with
      | bad r x => rfl
      | ok u r => simp only [thenP]; cases q r <;> rfl
theorem bar_eq {α : Type} (a : α) (r : List ByteArray) : barS (Res.ok a r) form = match Ps.barP form r with | .ok t r => .ok (a, t) r | .bad r x => .bad r x := by
  unfold barS
  cases r with
  | nil => rfl
  | cons t r =>
    by_cases h : t = Ps.wOr
    · subst h
      have : takes (Res.ok a (Ps.wOr :: r)) Ps.wOr = true := by simp [takes]
      rw [if_pos this]
      simp only [Ps.barP, Ps.bind, Ps.take_yes, if_true, tookR, thenP]
      cases form r <;> rfl
    · have : takes (Res.ok a (t :: r)) Ps.wOr = false := by simp [takes, h]
      rw [this]
      simp only [Ps.barP, Ps.bind, Ps.take_no h, Bool.false_eq_true, if_false, mapR, Ps.ret]
theorem eq_bel : Ps.belP S form q r = mapR (thenP (thenW (barS (thenP (thenW (Res.ok () r) Ps.wLB) (Ps.name S.ag)) form) Ps.wRB) q) fun p => bin 14 (p.1.1.2 : Int) 0 0 p.1.2 p.2 := by
  simp only [Ps.belP, Ps.bind, thenW]
  cases Ps.want Ps.wLB r with
  | bad r x => rfl
  | ok u r =>
    simp only [thenP]
    cases Ps.name S.ag r with
    | bad r x => rfl
    | ok i r =>
      simp only [bar_eq]
      cases Ps.barP form r with
      | bad r x => rfl
      | ok c r =>
        simp only
        cases Ps.want Ps.wRB r with
        | bad r x => rfl
        | ok u r => simp only; cases q r <;> rfl
theorem eq_com : Ps.comP S form q n r = mapR (thenP (thenW (barS (stepU (thenW (Res.ok () r) Ps.wLB) (Ps.groupP S.ag n 0)) form) Ps.wRB) q) fun p => bin 13 0 0 (p.1.1 : Int) p.1.2 p.2 := by
  simp only [Ps.comP, Ps.bind, thenW]
  cases Ps.want Ps.wLB r with
  | bad r x => rfl
  | ok u r =>
    simp only [stepU]
    cases Ps.groupP S.ag n 0 r with
    | bad r x => rfl
    | ok i r =>
      simp only [bar_eq]
      cases Ps.barP form r with
      | bad r x => rfl
      | ok c r =>
        simp only
        cases Ps.want Ps.wRB r with
        | bad r x => rfl
        | ok u r => simp only [thenP]; cases q r <;> rfl
theorem eq_ann : Ps.dynP S form q (Ps.wBang :: r) = mapR (thenP (thenW (thenP (Res.ok () r) form) Ps.wRB) q) fun p => bin 16 0 0 0 p.1.2 p.2 := by
  simp only [Ps.dynP, Ps.bind, Ps.take_yes, if_true, Ps.annP, thenP]
  cases form r with
  | bad r x => rfl
  | ok t r =>
    simp only [thenW]
    cases Ps.want Ps.wRB r with
    | bad r x => rfl
    | ok u r => simp only; cases q r <;> rfl
theorem eq_act (h : ∀ r', r ≠ Ps.wBang :: r') : Ps.dynP S form q r = mapR (thenP (thenW (thenP (thenW (thenP (Res.ok () r) (Ps.name S.ac)) Ps.wDot) Ps.number) Ps.wRB) q) fun p => un 17 (p.1.1.2 : Int) (p.1.2 : Int) 0 p.2 := by
  simp only [Ps.dynP, Ps.bind, take_not h, Bool.false_eq_true, if_false, Ps.actP, thenP]
  cases Ps.name S.ac r with
  | bad r x => rfl
  | ok i r =>
    simp only [thenW]
    cases Ps.want Ps.wDot r with
    | bad r x => rfl
    | ok u r =>
      simp only
      cases Ps.number r with
      | bad r x => rfl
      | ok e r =>
        simp only
        cases Ps.want Ps.wRB r with
        | bad r x => rfl
        | ok u r => simp only; cases q r <;> rfl
end
theorem PS_want {α : Type} {E : Env} {w w' : World} {st : Res (α × Fm.Form)} {L0 : Bool} {s : ByteArray} {l : List Nd} (h : PS E w st (fun _ => L0) l) (hs : SS E w' (thenW st s) fun p => L0 || dB p.2) : PS E w' (thenW st s) (fun _ => L0) l := by
  cases hst : thenW st s with
  | bad r x => rw [hst] at hs; exact hs
  | ok a r =>
    rw [hst] at hs
    obtain ⟨r', h1, _⟩ := thenW_ok hst
    subst h1
    exact ⟨h.1, hs, h.2.2⟩
theorem PS.post {α : Type} {E : Env} {w0 w : World} {st : Res (α × Fm.Form)} {L0 : Bool} {l : List Nd} {A : Option Addr} {c : Nat} (h : PS E w st (fun _ => L0) l) (hr : FR E w A c l) (hk : E.K w0 w) : Post E w0 L0 (mapR st fun p => p.2) (.returned (.slice A l.length c)) w := by
  refine ⟨A, c, l, rfl, hr, hk, ?_⟩
  cases st with
  | bad r x => exact h
  | ok a r => exact h
theorem kind_not {S : Ps.Sig} {t : ByteArray} (h : t ∉ [Ps.wNot, Ps.wNext, Ps.wPrev, Ps.wTrue, Ps.wFalse, Ps.wL, Ps.wK, Ps.wM, Ps.wS, Ps.wB, Ps.wE, Ps.wD, Ps.wC, Ps.wLB]) : Ps.kindE S t = match Ps.nameE S.fa t with | .ok i => .ok (.leaf 3 i) | .error e => .error e := by
  simp only [List.mem_cons, List.not_mem_nil, or_false, not_or] at h
  obtain ⟨h1, h2, h3, h4, h5, h6, h7, h8, h9, h10, h11, h12, h13, h14⟩ := h
  unfold Ps.kindE
  rw [if_neg h1, if_neg h2, if_neg h3, if_neg h4, if_neg h5, if_neg h6, if_neg h7, if_neg h8, if_neg h9, if_neg h10, if_neg h11, if_neg h12, if_neg h13, if_neg h14]
  cases Ps.nameE S.fa t <;> rfl
section
set_option maxRecDepth 100000
set_option maxHeartbeats 4000000
variable {E : Env}
theorem Live.go (hE : E.Ok) {w : World} {t : ByteArray} {r : List ByteArray} {L : Bool} (h : Live E w (t :: r) L) : ∃ k : Nat, k ≤ 4000 ∧ w.cell? ⟨E.b, 6, none⟩ = some (.int .i64 (k : Int)) ∧ w.frozen? ⟨E.b, 6, none⟩ = false ∧ Live E (w.setCell ⟨E.b, 6, none⟩ (.int .i64 ((k : Int) + 1))) r L := by
  have hle := h.suf.length_le
  have hb := hE.big
  refine ⟨E.ws.length - (t :: r).length, by omega, h.st.c6, h.st.fr 6, (List.suffix_cons t r).trans h.suf, ?_⟩
  have := h.st.setNext hE (E.ws.length - r.length)
  rwa [show ((E.ws.length - r.length : Nat) : Int) = ((E.ws.length - (t :: r).length : Nat) : Int) + 1 by simp at hle ⊢; omega] at this
theorem c_Not_fr {w : World} {A : Option Addr} {c : Nat} {f : List Nd} (hb : E.b < w.heap.size) (h : FR E w A c f) : Calls Tryz.prog 127 #[.slice A f.length c] w fun e w' => ∃ (A'' : Option Addr) (c'' : Nat), e = .returned (.slice A'' (mk1 4 0 0 0 f).length c'') ∧ FR E w' A'' c'' (mk1 4 0 0 0 f) ∧ Keep NoF w w' :=
  (c_Not h.len h.rd).mono fun _ _ h => h.fr hb (mk_len1 _ _ _ _ _)
theorem prefix_Not (hE : E.Ok) {form q : Ps.P Fm.Form} {N : Nat} (HFO : Part E 35 #[E.ptr] (fun _ => True) form N) (hff : Ps.Fine form) (HP : Part E 117 #[E.ptr] (fun _ => True) q N) {r : List ByteArray} {w : World} {L0 : Bool} (hlt : r.length < N) (hl : Live E w (⟨#[126]⟩ :: r) L0) :
    Calls Tryz.prog 117 #[E.ptr] w (Post E w L0 (mapR (thenP (Res.ok () r) q) fun p => un 4 0 0 0 p.2)) := by
  have HPK := Lib.hid (peek_tok hE hl)
  have HGO : Hid (∀ w1, Keep NoF w w1 → _) := Lib.hid fun w1 (hk : Keep NoF w w1) => (hl.keep hk).go hE
  have HPX := Lib.hid HP
  have HFX := Lib.hid HFO
  have HFF := Lib.hid hff
  have HLT := Lib.hid hlt
  clear HP HFO hff hlt hl
  go_enter Tryz.func117, Tryz.ntmps117
  go_wp2_with (first
    | (go_at_call 98; (with_reducible refine HPK.out.mono ?_); rintro e w1 ⟨rfl, K1⟩; obtain ⟨k, hk, c6, f6, hl⟩ := HGO.out w1 K1; have HL := Lib.hid hl; clear hl; have H2 := Lib.hid (prefix_all hE HPX.out (st := Res.ok () r) (Lf := fun _ => L0) HL.out (fun a r e => by cases e; exact HLT.out)))
    | (go_at_call 117; (with_reducible refine H2.out.mono ?_); rintro e w2 ⟨A2, c2, f2, rfl, R2, K2, Q2⟩; have HQ2 := Lib.hid Q2; have H3 := Lib.hid (c_Not_fr Q2.ss.lt R2); clear Q2)
    | (go_at_call 127; (with_reducible refine H3.out.mono ?_); rintro e w3 ⟨A3, c3, rfl, R3, K3⟩; have H4 := Lib.hid (keep_un hE (L0 := L0) (st := thenP (Res.ok () r) q) (fi := fun _ : Unit => 0) (fe := fun _ => 0) (fg := fun _ => 0) (HQ2.out.keep K3) (fun p r e => ⟨rfl, rfl, rfl, fun hg => ⟨by decide, by decide, by decide, hg⟩⟩) R3))
    | (go_at_call 68; (with_reducible refine H4.out.mono ?_); rintro e w4 ⟨A4, c4, f4, rfl, R4, K4, Q4⟩))
  refine bodyPost_ret (v := .slice A4 f4.length c4) (by simp [results, Tryz.results117, go_sem]) rfl ?_
  exact ⟨A4, c4, f4, rfl, R4, K_trans (K_trans (K_set (K0 K1) 6 _) K2) (K_trans (K0 K3) K4), Q4⟩
theorem c_Next_fr {w : World} {A : Option Addr} {c : Nat} {f : List Nd} (hb : E.b < w.heap.size) (h : FR E w A c f) : Calls Tryz.prog 128 #[.slice A f.length c] w fun e w' => ∃ (A'' : Option Addr) (c'' : Nat), e = .returned (.slice A'' (mk1 18 0 0 0 f).length c'') ∧ FR E w' A'' c'' (mk1 18 0 0 0 f) ∧ Keep NoF w w' :=
  (c_Next h.len h.rd).mono fun _ _ h => h.fr hb (mk_len1 _ _ _ _ _)
theorem prefix_Next (hE : E.Ok) {form q : Ps.P Fm.Form} {N : Nat} (HFO : Part E 35 #[E.ptr] (fun _ => True) form N) (hff : Ps.Fine form) (HP : Part E 117 #[E.ptr] (fun _ => True) q N) {r : List ByteArray} {w : World} {L0 : Bool} (hlt : r.length < N) (hl : Live E w (⟨#[110, 101, 120, 116]⟩ :: r) L0) :
    Calls Tryz.prog 117 #[E.ptr] w (Post E w L0 (mapR (thenP (Res.ok () r) q) fun p => un 18 0 0 0 p.2)) := by
  have HPK := Lib.hid (peek_tok hE hl)
  have HGO : Hid (∀ w1, Keep NoF w w1 → _) := Lib.hid fun w1 (hk : Keep NoF w w1) => (hl.keep hk).go hE
  have HPX := Lib.hid HP
  have HFX := Lib.hid HFO
  have HFF := Lib.hid hff
  have HLT := Lib.hid hlt
  clear HP HFO hff hlt hl
  go_enter Tryz.func117, Tryz.ntmps117
  go_wp2_with (first
    | (go_at_call 98; (with_reducible refine HPK.out.mono ?_); rintro e w1 ⟨rfl, K1⟩; obtain ⟨k, hk, c6, f6, hl⟩ := HGO.out w1 K1; have HL := Lib.hid hl; clear hl; have H2 := Lib.hid (prefix_all hE HPX.out (st := Res.ok () r) (Lf := fun _ => L0) HL.out (fun a r e => by cases e; exact HLT.out)))
    | (go_at_call 117; (with_reducible refine H2.out.mono ?_); rintro e w2 ⟨A2, c2, f2, rfl, R2, K2, Q2⟩; have HQ2 := Lib.hid Q2; have H3 := Lib.hid (c_Next_fr Q2.ss.lt R2); clear Q2)
    | (go_at_call 128; (with_reducible refine H3.out.mono ?_); rintro e w3 ⟨A3, c3, rfl, R3, K3⟩; have H4 := Lib.hid (keep_un hE (L0 := L0) (st := thenP (Res.ok () r) q) (fi := fun _ : Unit => 0) (fe := fun _ => 0) (fg := fun _ => 0) (HQ2.out.keep K3) (fun p r e => ⟨rfl, rfl, rfl, fun hg => ⟨by decide, by decide, by decide, hg⟩⟩) R3))
    | (go_at_call 68; (with_reducible refine H4.out.mono ?_); rintro e w4 ⟨A4, c4, f4, rfl, R4, K4, Q4⟩))
  refine bodyPost_ret (v := .slice A4 f4.length c4) (by simp [results, Tryz.results117, go_sem]) rfl ?_
  exact ⟨A4, c4, f4, rfl, R4, K_trans (K_trans (K_set (K0 K1) 6 _) K2) (K_trans (K0 K3) K4), Q4⟩
theorem c_Prev_fr {w : World} {A : Option Addr} {c : Nat} {f : List Nd} (hb : E.b < w.heap.size) (h : FR E w A c f) : Calls Tryz.prog 129 #[.slice A f.length c] w fun e w' => ∃ (A'' : Option Addr) (c'' : Nat), e = .returned (.slice A'' (mk1 20 0 0 0 f).length c'') ∧ FR E w' A'' c'' (mk1 20 0 0 0 f) ∧ Keep NoF w w' :=
  (c_Prev h.len h.rd).mono fun _ _ h => h.fr hb (mk_len1 _ _ _ _ _)
theorem prefix_Prev (hE : E.Ok) {form q : Ps.P Fm.Form} {N : Nat} (HFO : Part E 35 #[E.ptr] (fun _ => True) form N) (hff : Ps.Fine form) (HP : Part E 117 #[E.ptr] (fun _ => True) q N) {r : List ByteArray} {w : World} {L0 : Bool} (hlt : r.length < N) (hl : Live E w (⟨#[112, 114, 101, 118]⟩ :: r) L0) :
    Calls Tryz.prog 117 #[E.ptr] w (Post E w L0 (mapR (thenP (Res.ok () r) q) fun p => un 20 0 0 0 p.2)) := by
  have HPK := Lib.hid (peek_tok hE hl)
  have HGO : Hid (∀ w1, Keep NoF w w1 → _) := Lib.hid fun w1 (hk : Keep NoF w w1) => (hl.keep hk).go hE
  have HPX := Lib.hid HP
  have HFX := Lib.hid HFO
  have HFF := Lib.hid hff
  have HLT := Lib.hid hlt
  clear HP HFO hff hlt hl
  go_enter Tryz.func117, Tryz.ntmps117
  go_wp2_with (first
    | (go_at_call 98; (with_reducible refine HPK.out.mono ?_); rintro e w1 ⟨rfl, K1⟩; obtain ⟨k, hk, c6, f6, hl⟩ := HGO.out w1 K1; have HL := Lib.hid hl; clear hl; have H2 := Lib.hid (prefix_all hE HPX.out (st := Res.ok () r) (Lf := fun _ => L0) HL.out (fun a r e => by cases e; exact HLT.out)))
    | (go_at_call 117; (with_reducible refine H2.out.mono ?_); rintro e w2 ⟨A2, c2, f2, rfl, R2, K2, Q2⟩; have HQ2 := Lib.hid Q2; have H3 := Lib.hid (c_Prev_fr Q2.ss.lt R2); clear Q2)
    | (go_at_call 129; (with_reducible refine H3.out.mono ?_); rintro e w3 ⟨A3, c3, rfl, R3, K3⟩; have H4 := Lib.hid (keep_un hE (L0 := L0) (st := thenP (Res.ok () r) q) (fi := fun _ : Unit => 0) (fe := fun _ => 0) (fg := fun _ => 0) (HQ2.out.keep K3) (fun p r e => ⟨rfl, rfl, rfl, fun hg => ⟨by decide, by decide, by decide, hg⟩⟩) R3))
    | (go_at_call 68; (with_reducible refine H4.out.mono ?_); rintro e w4 ⟨A4, c4, f4, rfl, R4, K4, Q4⟩))
  refine bodyPost_ret (v := .slice A4 f4.length c4) (by simp [results, Tryz.results117, go_sem]) rfl ?_
  exact ⟨A4, c4, f4, rfl, R4, K_trans (K_trans (K_set (K0 K1) 6 _) K2) (K_trans (K0 K3) K4), Q4⟩
theorem cl_True : mk0 1 0 0 0 = cl (leaf 1 0 0 0) ∧ dB (leaf 1 0 0 0) = false := by decide +kernel
theorem prefix_True (hE : E.Ok) {form q : Ps.P Fm.Form} {N : Nat} (HFO : Part E 35 #[E.ptr] (fun _ => True) form N) (hff : Ps.Fine form) (HP : Part E 117 #[E.ptr] (fun _ => True) q N) {r : List ByteArray} {w : World} {L0 : Bool} (hlt : r.length < N) (hl : Live E w (⟨#[116, 114, 117, 101]⟩ :: r) L0) :
    Calls Tryz.prog 117 #[E.ptr] w (Post E w L0 (.ok (leaf 1 0 0 0) r)) := by
  have HPK := Lib.hid (peek_tok hE hl)
  have HGO : Hid (∀ w1, Keep NoF w w1 → _) := Lib.hid fun w1 (hk : Keep NoF w w1) => (hl.keep hk).go hE
  have HPX := Lib.hid HP
  have HFX := Lib.hid HFO
  have HFF := Lib.hid hff
  have HLT := Lib.hid hlt
  clear HP HFO hff hlt hl
  go_enter Tryz.func117, Tryz.ntmps117
  go_wp2_with (first
    | (go_at_call 98; (with_reducible refine HPK.out.mono ?_); rintro e w1 ⟨rfl, K1⟩; obtain ⟨k, hk, c6, f6, hl⟩ := HGO.out w1 K1; have HL := Lib.hid hl; clear hl; have H2 := Lib.hid ((c_True (w1.setCell ⟨E.b, 6, none⟩ (.int .i64 ((k : Int) + 1)))).mono fun _ _ h => h.fr (E := E) HL.out.lt (mk_len0 _ _ _ _)))
    | (go_at_call 99; (with_reducible refine H2.out.mono ?_); rintro e w2 ⟨A2, c2, rfl, R2, K2⟩))
  refine bodyPost_ret (v := .slice A2 (mk0 1 0 0 0).length c2) (by simp [results, Tryz.results117, go_sem]) rfl ?_
  exact ⟨A2, c2, _, rfl, R2, K_trans (K_set (K0 K1) 6 _) (K0 K2), ⟨by decide, by decide⟩, by rw [cl_True.2, Bool.or_false]; exact HL.out.keep K2, fun _ => cl_True.1⟩
theorem cl_False : mk0 2 0 0 0 = cl (leaf 2 0 0 0) ∧ dB (leaf 2 0 0 0) = false := by decide +kernel
theorem prefix_False (hE : E.Ok) {form q : Ps.P Fm.Form} {N : Nat} (HFO : Part E 35 #[E.ptr] (fun _ => True) form N) (hff : Ps.Fine form) (HP : Part E 117 #[E.ptr] (fun _ => True) q N) {r : List ByteArray} {w : World} {L0 : Bool} (hlt : r.length < N) (hl : Live E w (⟨#[102, 97, 108, 115, 101]⟩ :: r) L0) :
    Calls Tryz.prog 117 #[E.ptr] w (Post E w L0 (.ok (leaf 2 0 0 0) r)) := by
  have HPK := Lib.hid (peek_tok hE hl)
  have HGO : Hid (∀ w1, Keep NoF w w1 → _) := Lib.hid fun w1 (hk : Keep NoF w w1) => (hl.keep hk).go hE
  have HPX := Lib.hid HP
  have HFX := Lib.hid HFO
  have HFF := Lib.hid hff
  have HLT := Lib.hid hlt
  clear HP HFO hff hlt hl
  go_enter Tryz.func117, Tryz.ntmps117
  go_wp2_with (first
    | (go_at_call 98; (with_reducible refine HPK.out.mono ?_); rintro e w1 ⟨rfl, K1⟩; obtain ⟨k, hk, c6, f6, hl⟩ := HGO.out w1 K1; have HL := Lib.hid hl; clear hl; have H2 := Lib.hid ((c_False (w1.setCell ⟨E.b, 6, none⟩ (.int .i64 ((k : Int) + 1)))).mono fun _ _ h => h.fr (E := E) HL.out.lt (mk_len0 _ _ _ _)))
    | (go_at_call 130; (with_reducible refine H2.out.mono ?_); rintro e w2 ⟨A2, c2, rfl, R2, K2⟩))
  refine bodyPost_ret (v := .slice A2 (mk0 2 0 0 0).length c2) (by simp [results, Tryz.results117, go_sem]) rfl ?_
  exact ⟨A2, c2, _, rfl, R2, K_trans (K_set (K0 K1) 6 _) (K0 K2), ⟨by decide, by decide⟩, by rw [cl_False.2, Bool.or_false]; exact HL.out.keep K2, fun _ => cl_False.1⟩
theorem prefix_L (hE : E.Ok) {form q : Ps.P Fm.Form} {N : Nat} (HFO : Part E 35 #[E.ptr] (fun _ => True) form N) (hff : Ps.Fine form) (HP : Part E 117 #[E.ptr] (fun _ => True) q N) {r : List ByteArray} {w : World} {L0 : Bool} (hlt : r.length < N) (hl : Live E w (⟨#[40]⟩ :: r) L0) :
    Calls Tryz.prog 117 #[E.ptr] w (Post E w L0 (mapR (thenW (thenP (Res.ok () r) form) Ps.wR) fun p => p.2)) := by
  have HPK := Lib.hid (peek_tok hE hl)
  have HGO : Hid (∀ w1, Keep NoF w w1 → _) := Lib.hid fun w1 (hk : Keep NoF w w1) => (hl.keep hk).go hE
  have HPX := Lib.hid HP
  have HFX := Lib.hid HFO
  have HFF := Lib.hid hff
  have HLT := Lib.hid hlt
  clear HP HFO hff hlt hl
  go_enter Tryz.func117, Tryz.ntmps117
  go_wp2_with (first
    | (go_at_call 98; (with_reducible refine HPK.out.mono ?_); rintro e w1 ⟨rfl, K1⟩; obtain ⟨k, hk, c6, f6, hl⟩ := HGO.out w1 K1; have HL := Lib.hid hl; clear hl; have H2 := Lib.hid (formula_all HFX.out (a := ()) (Lf := fun _ => L0) HL.out HLT.out))
    | (go_at_call 35; (with_reducible refine H2.out.mono ?_); rintro e w2 ⟨A2, c2, f2, rfl, R2, K2, Q2⟩; have HQ2 := Lib.hid Q2; have H3 := Lib.hid (want_all hE ⟨#[41]⟩ (by decide) Q2.ss); clear Q2)
    | (go_at_call 131; (with_reducible refine H3.out.mono ?_); rintro e w3 ⟨rfl, S3, K3⟩))
  refine bodyPost_ret (v := .slice A2 f2.length c2) (by simp [results, Tryz.results117, go_sem]) rfl ?_
  exact (PS_want HQ2.out S3).post (R2.keep K3) (K_trans (K_trans (K_set (K0 K1) 6 _) K2) K3)
theorem prefix_K (hE : E.Ok) {form q : Ps.P Fm.Form} {N : Nat} (HFO : Part E 35 #[E.ptr] (fun _ => True) form N) (hff : Ps.Fine form) (HP : Part E 117 #[E.ptr] (fun _ => True) q N) {r : List ByteArray} {w : World} {L0 : Bool} (hlt : r.length < N) (hl : Live E w (⟨#[75]⟩ :: r) L0) :
    Calls Tryz.prog 117 #[E.ptr] w (Post E w L0 (mapR (thenP (thenW (thenP (thenW (Res.ok () r) Ps.wLB) (Ps.name (findS E.S E.S.A))) Ps.wRB) q) fun p => un 9 (p.1.2 : Int) 0 0 p.2)) := by
  have HPK := Lib.hid (peek_tok hE hl)
  have HGO : Hid (∀ w1, Keep NoF w w1 → _) := Lib.hid fun w1 (hk : Keep NoF w w1) => (hl.keep hk).go hE
  have HPX := Lib.hid HP
  have HFX := Lib.hid HFO
  have HFF := Lib.hid hff
  have HLT := Lib.hid hlt
  clear HP HFO hff hlt hl
  go_enter Tryz.func117, Tryz.ntmps117
  go_wp2_with (first
    | (go_at_call 98; (with_reducible refine HPK.out.mono ?_); rintro e w1 ⟨rfl, K1⟩; obtain ⟨k, hk, c6, f6, hl⟩ := HGO.out w1 K1; have HL := Lib.hid hl; clear hl; have H2 := Lib.hid (modal_K hE HFX.out HFF.out HPX.out HLT.out HL.out))
    | (go_at_call 132; (with_reducible refine H2.out.mono ?_); rintro e w2 ⟨A2, c2, f2, rfl, R2, K2, Q2⟩))
  refine bodyPost_ret (v := .slice A2 f2.length c2) (by simp [results, Tryz.results117, go_sem]) rfl ?_
  exact ⟨A2, c2, f2, rfl, R2, K_trans (K_set (K0 K1) 6 _) K2, Q2⟩
theorem prefix_M (hE : E.Ok) {form q : Ps.P Fm.Form} {N : Nat} (HFO : Part E 35 #[E.ptr] (fun _ => True) form N) (hff : Ps.Fine form) (HP : Part E 117 #[E.ptr] (fun _ => True) q N) {r : List ByteArray} {w : World} {L0 : Bool} (hlt : r.length < N) (hl : Live E w (⟨#[77]⟩ :: r) L0) :
    Calls Tryz.prog 117 #[E.ptr] w (Post E w L0 (mapR (thenP (thenW (thenP (thenW (Res.ok () r) Ps.wLB) (Ps.name (findS E.S E.S.A))) Ps.wRB) q) fun p => un 10 (p.1.2 : Int) 0 0 p.2)) := by
  have HPK := Lib.hid (peek_tok hE hl)
  have HGO : Hid (∀ w1, Keep NoF w w1 → _) := Lib.hid fun w1 (hk : Keep NoF w w1) => (hl.keep hk).go hE
  have HPX := Lib.hid HP
  have HFX := Lib.hid HFO
  have HFF := Lib.hid hff
  have HLT := Lib.hid hlt
  clear HP HFO hff hlt hl
  go_enter Tryz.func117, Tryz.ntmps117
  go_wp2_with (first
    | (go_at_call 98; (with_reducible refine HPK.out.mono ?_); rintro e w1 ⟨rfl, K1⟩; obtain ⟨k, hk, c6, f6, hl⟩ := HGO.out w1 K1; have HL := Lib.hid hl; clear hl; have H2 := Lib.hid (modal_M hE HFX.out HFF.out HPX.out HLT.out HL.out))
    | (go_at_call 132; (with_reducible refine H2.out.mono ?_); rintro e w2 ⟨A2, c2, f2, rfl, R2, K2, Q2⟩))
  refine bodyPost_ret (v := .slice A2 f2.length c2) (by simp [results, Tryz.results117, go_sem]) rfl ?_
  exact ⟨A2, c2, f2, rfl, R2, K_trans (K_set (K0 K1) 6 _) K2, Q2⟩
theorem prefix_S (hE : E.Ok) {form q : Ps.P Fm.Form} {N : Nat} (HFO : Part E 35 #[E.ptr] (fun _ => True) form N) (hff : Ps.Fine form) (HP : Part E 117 #[E.ptr] (fun _ => True) q N) {r : List ByteArray} {w : World} {L0 : Bool} (hlt : r.length < N) (hl : Live E w (⟨#[83]⟩ :: r) L0) :
    Calls Tryz.prog 117 #[E.ptr] w (Post E w L0 (mapR (thenP (thenW (thenP (thenW (Res.ok () r) Ps.wLB) (Ps.name (findS E.S E.S.A))) Ps.wRB) q) fun p => un 15 (p.1.2 : Int) 0 0 p.2)) := by
  have HPK := Lib.hid (peek_tok hE hl)
  have HGO : Hid (∀ w1, Keep NoF w w1 → _) := Lib.hid fun w1 (hk : Keep NoF w w1) => (hl.keep hk).go hE
  have HPX := Lib.hid HP
  have HFX := Lib.hid HFO
  have HFF := Lib.hid hff
  have HLT := Lib.hid hlt
  clear HP HFO hff hlt hl
  go_enter Tryz.func117, Tryz.ntmps117
  go_wp2_with (first
    | (go_at_call 98; (with_reducible refine HPK.out.mono ?_); rintro e w1 ⟨rfl, K1⟩; obtain ⟨k, hk, c6, f6, hl⟩ := HGO.out w1 K1; have HL := Lib.hid hl; clear hl; have H2 := Lib.hid (modal_S hE HFX.out HFF.out HPX.out HLT.out HL.out))
    | (go_at_call 132; (with_reducible refine H2.out.mono ?_); rintro e w2 ⟨A2, c2, f2, rfl, R2, K2, Q2⟩))
  refine bodyPost_ret (v := .slice A2 f2.length c2) (by simp [results, Tryz.results117, go_sem]) rfl ?_
  exact ⟨A2, c2, f2, rfl, R2, K_trans (K_set (K0 K1) 6 _) K2, Q2⟩
theorem prefix_B (hE : E.Ok) {form q : Ps.P Fm.Form} {N : Nat} (HFO : Part E 35 #[E.ptr] (fun _ => True) form N) (hff : Ps.Fine form) (HP : Part E 117 #[E.ptr] (fun _ => True) q N) {r : List ByteArray} {w : World} {L0 : Bool} (hlt : r.length < N) (hl : Live E w (⟨#[66]⟩ :: r) L0) :
    Calls Tryz.prog 117 #[E.ptr] w (Post E w L0 (mapR (thenP (thenW (barS (thenP (thenW (Res.ok () r) Ps.wLB) (Ps.name (findS E.S E.S.A))) form) Ps.wRB) q) fun p => bin 14 (p.1.1.2 : Int) 0 0 p.1.2 p.2)) := by
  have HPK := Lib.hid (peek_tok hE hl)
  have HGO : Hid (∀ w1, Keep NoF w w1 → _) := Lib.hid fun w1 (hk : Keep NoF w w1) => (hl.keep hk).go hE
  have HPX := Lib.hid HP
  have HFX := Lib.hid HFO
  have HFF := Lib.hid hff
  have HLT := Lib.hid hlt
  clear HP HFO hff hlt hl
  go_enter Tryz.func117, Tryz.ntmps117
  go_wp2_with (first
    | (go_at_call 98; (with_reducible refine HPK.out.mono ?_); rintro e w1 ⟨rfl, K1⟩; obtain ⟨k, hk, c6, f6, hl⟩ := HGO.out w1 K1; have HL := Lib.hid hl; clear hl; have H2 := Lib.hid (modal_B hE HFX.out HFF.out HPX.out HLT.out HL.out))
    | (go_at_call 132; (with_reducible refine H2.out.mono ?_); rintro e w2 ⟨A2, c2, f2, rfl, R2, K2, Q2⟩))
  refine bodyPost_ret (v := .slice A2 f2.length c2) (by simp [results, Tryz.results117, go_sem]) rfl ?_
  exact ⟨A2, c2, f2, rfl, R2, K_trans (K_set (K0 K1) 6 _) K2, Q2⟩
theorem prefix_E (hE : E.Ok) {form q : Ps.P Fm.Form} {N : Nat} (HFO : Part E 35 #[E.ptr] (fun _ => True) form N) (hff : Ps.Fine form) (HP : Part E 117 #[E.ptr] (fun _ => True) q N) {r : List ByteArray} {w : World} {L0 : Bool} (hlt : r.length < N) (hl : Live E w (⟨#[69]⟩ :: r) L0) :
    Calls Tryz.prog 117 #[E.ptr] w (Post E w L0 (mapR (thenP (thenW (stepU (thenW (Res.ok () r) Ps.wLB) (Ps.groupP (findS E.S E.S.A) N 0)) Ps.wRB) q) fun p => un 11 0 0 (p.1 : Int) p.2)) := by
  have HPK := Lib.hid (peek_tok hE hl)
  have HGO : Hid (∀ w1, Keep NoF w w1 → _) := Lib.hid fun w1 (hk : Keep NoF w w1) => (hl.keep hk).go hE
  have HPX := Lib.hid HP
  have HFX := Lib.hid HFO
  have HFF := Lib.hid hff
  have HLT := Lib.hid hlt
  clear HP HFO hff hlt hl
  go_enter Tryz.func117, Tryz.ntmps117
  go_wp2_with (first
    | (go_at_call 98; (with_reducible refine HPK.out.mono ?_); rintro e w1 ⟨rfl, K1⟩; obtain ⟨k, hk, c6, f6, hl⟩ := HGO.out w1 K1; have HL := Lib.hid hl; clear hl; have H2 := Lib.hid (modal_E hE HFX.out HFF.out HPX.out HLT.out HL.out))
    | (go_at_call 132; (with_reducible refine H2.out.mono ?_); rintro e w2 ⟨A2, c2, f2, rfl, R2, K2, Q2⟩))
  refine bodyPost_ret (v := .slice A2 f2.length c2) (by simp [results, Tryz.results117, go_sem]) rfl ?_
  exact ⟨A2, c2, f2, rfl, R2, K_trans (K_set (K0 K1) 6 _) K2, Q2⟩
theorem prefix_D (hE : E.Ok) {form q : Ps.P Fm.Form} {N : Nat} (HFO : Part E 35 #[E.ptr] (fun _ => True) form N) (hff : Ps.Fine form) (HP : Part E 117 #[E.ptr] (fun _ => True) q N) {r : List ByteArray} {w : World} {L0 : Bool} (hlt : r.length < N) (hl : Live E w (⟨#[68]⟩ :: r) L0) :
    Calls Tryz.prog 117 #[E.ptr] w (Post E w L0 (mapR (thenP (thenW (stepU (thenW (Res.ok () r) Ps.wLB) (Ps.groupP (findS E.S E.S.A) N 0)) Ps.wRB) q) fun p => un 12 0 0 (p.1 : Int) p.2)) := by
  have HPK := Lib.hid (peek_tok hE hl)
  have HGO : Hid (∀ w1, Keep NoF w w1 → _) := Lib.hid fun w1 (hk : Keep NoF w w1) => (hl.keep hk).go hE
  have HPX := Lib.hid HP
  have HFX := Lib.hid HFO
  have HFF := Lib.hid hff
  have HLT := Lib.hid hlt
  clear HP HFO hff hlt hl
  go_enter Tryz.func117, Tryz.ntmps117
  go_wp2_with (first
    | (go_at_call 98; (with_reducible refine HPK.out.mono ?_); rintro e w1 ⟨rfl, K1⟩; obtain ⟨k, hk, c6, f6, hl⟩ := HGO.out w1 K1; have HL := Lib.hid hl; clear hl; have H2 := Lib.hid (modal_D hE HFX.out HFF.out HPX.out HLT.out HL.out))
    | (go_at_call 132; (with_reducible refine H2.out.mono ?_); rintro e w2 ⟨A2, c2, f2, rfl, R2, K2, Q2⟩))
  refine bodyPost_ret (v := .slice A2 f2.length c2) (by simp [results, Tryz.results117, go_sem]) rfl ?_
  exact ⟨A2, c2, f2, rfl, R2, K_trans (K_set (K0 K1) 6 _) K2, Q2⟩
theorem prefix_C (hE : E.Ok) {form q : Ps.P Fm.Form} {N : Nat} (HFO : Part E 35 #[E.ptr] (fun _ => True) form N) (hff : Ps.Fine form) (HP : Part E 117 #[E.ptr] (fun _ => True) q N) {r : List ByteArray} {w : World} {L0 : Bool} (hlt : r.length < N) (hl : Live E w (⟨#[67]⟩ :: r) L0) :
    Calls Tryz.prog 117 #[E.ptr] w (Post E w L0 (mapR (thenP (thenW (barS (stepU (thenW (Res.ok () r) Ps.wLB) (Ps.groupP (findS E.S E.S.A) N 0)) form) Ps.wRB) q) fun p => bin 13 0 0 (p.1.1 : Int) p.1.2 p.2)) := by
  have HPK := Lib.hid (peek_tok hE hl)
  have HGO : Hid (∀ w1, Keep NoF w w1 → _) := Lib.hid fun w1 (hk : Keep NoF w w1) => (hl.keep hk).go hE
  have HPX := Lib.hid HP
  have HFX := Lib.hid HFO
  have HFF := Lib.hid hff
  have HLT := Lib.hid hlt
  clear HP HFO hff hlt hl
  go_enter Tryz.func117, Tryz.ntmps117
  go_wp2_with (first
    | (go_at_call 98; (with_reducible refine HPK.out.mono ?_); rintro e w1 ⟨rfl, K1⟩; obtain ⟨k, hk, c6, f6, hl⟩ := HGO.out w1 K1; have HL := Lib.hid hl; clear hl; have H2 := Lib.hid (modal_C hE HFX.out HFF.out HPX.out HLT.out HL.out))
    | (go_at_call 132; (with_reducible refine H2.out.mono ?_); rintro e w2 ⟨A2, c2, f2, rfl, R2, K2, Q2⟩))
  refine bodyPost_ret (v := .slice A2 f2.length c2) (by simp [results, Tryz.results117, go_sem]) rfl ?_
  exact ⟨A2, c2, f2, rfl, R2, K_trans (K_set (K0 K1) 6 _) K2, Q2⟩
theorem dyn_any (hE : E.Ok) {form q : Ps.P Fm.Form} {N : Nat} (HFO : Part E 35 #[E.ptr] (fun _ => True) form N) (hff : Ps.Fine form) (HP : Part E 117 #[E.ptr] (fun _ => True) q N) {r : List ByteArray} {w : World} {L0 : Bool} (hlt : r.length < N) (hl : Live E w r L0) : Calls Tryz.prog 133 #[E.ptr] w (Post E w L0 (Ps.dynP (sigP E.S) form q r)) := by
  by_cases hb : ∃ r', r = Ps.wBang :: r'
  · obtain ⟨r', rfl⟩ := hb
    rw [eq_ann]
    exact dyn_ann hE HFO hff HP (by simp at hlt; omega) hl
  · have hno : ∀ r', r ≠ Ps.wBang :: r' := fun r' e => hb ⟨r', e⟩
    rw [eq_act hno]
    exact dyn_act hE HP hlt hl hno
theorem prefix_LB (hE : E.Ok) {form q : Ps.P Fm.Form} {N : Nat} (HFO : Part E 35 #[E.ptr] (fun _ => True) form N) (hff : Ps.Fine form) (HP : Part E 117 #[E.ptr] (fun _ => True) q N) {r : List ByteArray} {w : World} {L0 : Bool} (hlt : r.length < N) (hl : Live E w (⟨#[91]⟩ :: r) L0) :
    Calls Tryz.prog 117 #[E.ptr] w (Post E w L0 (Ps.dynP (sigP E.S) form q r)) := by
  have HPK := Lib.hid (peek_tok hE hl)
  have HGO : Hid (∀ w1, Keep NoF w w1 → _) := Lib.hid fun w1 (hk : Keep NoF w w1) => (hl.keep hk).go hE
  have HPX := Lib.hid HP
  have HFX := Lib.hid HFO
  have HFF := Lib.hid hff
  have HLT := Lib.hid hlt
  clear HP HFO hff hlt hl
  go_enter Tryz.func117, Tryz.ntmps117
  go_wp2_with (first
    | (go_at_call 98; (with_reducible refine HPK.out.mono ?_); rintro e w1 ⟨rfl, K1⟩; obtain ⟨k, hk, c6, f6, hl⟩ := HGO.out w1 K1; have HL := Lib.hid hl; clear hl; have H2 := Lib.hid (dyn_any hE HFX.out HFF.out HPX.out HLT.out HL.out))
    | (go_at_call 133; (with_reducible refine H2.out.mono ?_); rintro e w2 ⟨A2, c2, f2, rfl, R2, K2, Q2⟩))
  refine bodyPost_ret (v := .slice A2 f2.length c2) (by simp [results, Tryz.results117, go_sem]) rfl ?_
  exact ⟨A2, c2, f2, rfl, R2, K_trans (K_set (K0 K1) 6 _) K2, Q2⟩
theorem c_Fact_fr {w : World} (i : Int) (hb : E.b < w.heap.size) : Calls Tryz.prog 136 #[.int .i64 i] w fun e w' => ∃ (A'' : Option Addr) (c'' : Nat), e = .returned (.slice A'' (mk0 3 i 0 0).length c'') ∧ FR E w' A'' c'' (mk0 3 i 0 0) ∧ Keep NoF w w' := (c_Fact i w).mono fun _ _ h => h.fr hb (mk_len0 _ _ _ _)
theorem own_fact {i : Nat} (h : i < 8) : Fm.own 3 i 0 0 = true := by
  have h8 : ∀ k : Fin 8, Fm.own 3 (k.val : Int) 0 0 = true := by decide
  exact h8 ⟨i, h⟩
theorem prefix_nil (hE : E.Ok) {w : World} {L0 : Bool} (hl : Live E w [] L0) : Calls Tryz.prog 117 #[E.ptr] w (Post E w L0 (.bad [] 4)) := by
  have HPK := Lib.hid (peek_end hE (fail := 0) (wh := 0) (L := L0) (w := w) (by simpa using hl.st))
  have HN : Hid (∀ w1, Keep NoF w w1 → _) := Lib.hid fun w1 (hk : Keep NoF w w1) => name_end hE (hl.keep hk) (.func (.func 135) #[] #[])
  clear hl
  go_enter Tryz.func117, Tryz.ntmps117
  go_wp2_with (first
    | (go_at_call 98; (with_reducible refine HPK.out.mono ?_); rintro e w1 ⟨rfl, K1⟩; have H2 := Lib.hid (HN.out w1 K1))
    | (go_at_call 134; (with_reducible refine H2.out.mono ?_); rintro e w2 ⟨rfl, D2, K2⟩; have H3 := Lib.hid (c_Fact_fr 0 D2.lt))
    | (go_at_call 136; (with_reducible refine H3.out.mono ?_); rintro e w3 ⟨A3, c3, rfl, R3, K3⟩; have H4 := Lib.hid (keepD (L0 := L0) (r := []) hE (D2.keep K3) R3))
    | (go_at_call 68; (with_reducible refine H4.out.mono ?_); rintro e w4 ⟨A4, c4, f4, rfl, R4, K4, Q4⟩))
  refine bodyPost_ret (v := .slice A4 f4.length c4) (by simp [results, Tryz.results117, go_sem]) rfl ?_
  exact ⟨A4, c4, f4, rfl, R4, K_trans (K_trans (K0 K1) K2) (K_trans (K0 K3) K4), Q4⟩
theorem prefix_name_ok (hE : E.Ok) {t : ByteArray} {r : List ByteArray} {w : World} {L0 : Bool} (hl : Live E w (t :: r) L0) (hno : t ∉ [Ps.wNot, Ps.wNext, Ps.wPrev, Ps.wTrue, Ps.wFalse, Ps.wL, Ps.wK, Ps.wM, Ps.wS, Ps.wB, Ps.wE, Ps.wD, Ps.wC, Ps.wLB]) {i : Nat} (hn : Ps.nameE (findS E.S E.S.F) t = .ok i) :
    Calls Tryz.prog 117 #[E.ptr] w (Post E w L0 (.ok (leaf 3 i 0 0) r)) := by
  have z0 : (t.toList == [126]) = false := beq_eq_false_iff_ne.2 fun e => hno (by rw [ByteArray.toList_eq] at e; rw [show t = Ps.wNot from ba_ext e]; decide)
  have z1 : (t.toList == [110, 101, 120, 116]) = false := beq_eq_false_iff_ne.2 fun e => hno (by rw [ByteArray.toList_eq] at e; rw [show t = Ps.wNext from ba_ext e]; decide)
  have z2 : (t.toList == [112, 114, 101, 118]) = false := beq_eq_false_iff_ne.2 fun e => hno (by rw [ByteArray.toList_eq] at e; rw [show t = Ps.wPrev from ba_ext e]; decide)
  have z3 : (t.toList == [116, 114, 117, 101]) = false := beq_eq_false_iff_ne.2 fun e => hno (by rw [ByteArray.toList_eq] at e; rw [show t = Ps.wTrue from ba_ext e]; decide)
  have z4 : (t.toList == [102, 97, 108, 115, 101]) = false := beq_eq_false_iff_ne.2 fun e => hno (by rw [ByteArray.toList_eq] at e; rw [show t = Ps.wFalse from ba_ext e]; decide)
  have z5 : (t.toList == [40]) = false := beq_eq_false_iff_ne.2 fun e => hno (by rw [ByteArray.toList_eq] at e; rw [show t = Ps.wL from ba_ext e]; decide)
  have z6 : (t.toList == [75]) = false := beq_eq_false_iff_ne.2 fun e => hno (by rw [ByteArray.toList_eq] at e; rw [show t = Ps.wK from ba_ext e]; decide)
  have z7 : (t.toList == [77]) = false := beq_eq_false_iff_ne.2 fun e => hno (by rw [ByteArray.toList_eq] at e; rw [show t = Ps.wM from ba_ext e]; decide)
  have z8 : (t.toList == [83]) = false := beq_eq_false_iff_ne.2 fun e => hno (by rw [ByteArray.toList_eq] at e; rw [show t = Ps.wS from ba_ext e]; decide)
  have z9 : (t.toList == [66]) = false := beq_eq_false_iff_ne.2 fun e => hno (by rw [ByteArray.toList_eq] at e; rw [show t = Ps.wB from ba_ext e]; decide)
  have z10 : (t.toList == [69]) = false := beq_eq_false_iff_ne.2 fun e => hno (by rw [ByteArray.toList_eq] at e; rw [show t = Ps.wE from ba_ext e]; decide)
  have z11 : (t.toList == [68]) = false := beq_eq_false_iff_ne.2 fun e => hno (by rw [ByteArray.toList_eq] at e; rw [show t = Ps.wD from ba_ext e]; decide)
  have z12 : (t.toList == [67]) = false := beq_eq_false_iff_ne.2 fun e => hno (by rw [ByteArray.toList_eq] at e; rw [show t = Ps.wC from ba_ext e]; decide)
  have z13 : (t.toList == [91]) = false := beq_eq_false_iff_ne.2 fun e => hno (by rw [ByteArray.toList_eq] at e; rw [show t = Ps.wLB from ba_ext e]; decide)
  have HPK := Lib.hid (peek_tok hE hl)
  have HN : Hid (∀ w1, Keep NoF w w1 → _) := Lib.hid fun w1 (hk : Keep NoF w w1) => name_ok hE (find_fact hE) (hl.keep hk) hn
  have hi : i < 8 := Ps.nameE_lt (lt_find hE.chk (checkS_ok hE.chk).lF) hn
  clear hl hno hn
  go_enter Tryz.func117, Tryz.ntmps117
  go_wp2_with (first
    | (go_at_call 98; (with_reducible refine HPK.out.mono ?_); rintro e w1 ⟨rfl, K1⟩; have H2 := Lib.hid (HN.out w1 K1))
    | (go_at_call 134; (with_reducible refine H2.out.mono ?_); rintro e w2 ⟨rfl, D2, K2⟩; have H3 := Lib.hid (c_Fact_fr (i : Int) D2.lt))
    | (go_at_call 136; (with_reducible refine H3.out.mono ?_); rintro e w3 ⟨A3, c3, rfl, R3, K3⟩; have H4 := Lib.hid (keep0 hE (D2.keep K3) ⟨by decide, own_fact hi⟩ R3))
    | (go_at_call 68; (with_reducible refine H4.out.mono ?_); rintro e w4 ⟨A4, c4, f4, rfl, R4, K4, Q4⟩))
  refine bodyPost_ret (v := .slice A4 f4.length c4) (by simp [results, Tryz.results117, go_sem]) rfl ?_
  exact ⟨A4, c4, f4, rfl, R4, K_trans (K_trans (K0 K1) K2) (K_trans (K0 K3) K4), Q4⟩
theorem prefix_name_bad (hE : E.Ok) {t : ByteArray} {r : List ByteArray} {w : World} {L0 : Bool} (hl : Live E w (t :: r) L0) (hno : t ∉ [Ps.wNot, Ps.wNext, Ps.wPrev, Ps.wTrue, Ps.wFalse, Ps.wL, Ps.wK, Ps.wM, Ps.wS, Ps.wB, Ps.wE, Ps.wD, Ps.wC, Ps.wLB]) {i : Nat} (hn : Ps.nameE (findS E.S E.S.F) t = .error i) :
    Calls Tryz.prog 117 #[E.ptr] w (Post E w L0 (.bad (t :: r) i)) := by
  have z0 : (t.toList == [126]) = false := beq_eq_false_iff_ne.2 fun e => hno (by rw [ByteArray.toList_eq] at e; rw [show t = Ps.wNot from ba_ext e]; decide)
  have z1 : (t.toList == [110, 101, 120, 116]) = false := beq_eq_false_iff_ne.2 fun e => hno (by rw [ByteArray.toList_eq] at e; rw [show t = Ps.wNext from ba_ext e]; decide)
  have z2 : (t.toList == [112, 114, 101, 118]) = false := beq_eq_false_iff_ne.2 fun e => hno (by rw [ByteArray.toList_eq] at e; rw [show t = Ps.wPrev from ba_ext e]; decide)
  have z3 : (t.toList == [116, 114, 117, 101]) = false := beq_eq_false_iff_ne.2 fun e => hno (by rw [ByteArray.toList_eq] at e; rw [show t = Ps.wTrue from ba_ext e]; decide)
  have z4 : (t.toList == [102, 97, 108, 115, 101]) = false := beq_eq_false_iff_ne.2 fun e => hno (by rw [ByteArray.toList_eq] at e; rw [show t = Ps.wFalse from ba_ext e]; decide)
  have z5 : (t.toList == [40]) = false := beq_eq_false_iff_ne.2 fun e => hno (by rw [ByteArray.toList_eq] at e; rw [show t = Ps.wL from ba_ext e]; decide)
  have z6 : (t.toList == [75]) = false := beq_eq_false_iff_ne.2 fun e => hno (by rw [ByteArray.toList_eq] at e; rw [show t = Ps.wK from ba_ext e]; decide)
  have z7 : (t.toList == [77]) = false := beq_eq_false_iff_ne.2 fun e => hno (by rw [ByteArray.toList_eq] at e; rw [show t = Ps.wM from ba_ext e]; decide)
  have z8 : (t.toList == [83]) = false := beq_eq_false_iff_ne.2 fun e => hno (by rw [ByteArray.toList_eq] at e; rw [show t = Ps.wS from ba_ext e]; decide)
  have z9 : (t.toList == [66]) = false := beq_eq_false_iff_ne.2 fun e => hno (by rw [ByteArray.toList_eq] at e; rw [show t = Ps.wB from ba_ext e]; decide)
  have z10 : (t.toList == [69]) = false := beq_eq_false_iff_ne.2 fun e => hno (by rw [ByteArray.toList_eq] at e; rw [show t = Ps.wE from ba_ext e]; decide)
  have z11 : (t.toList == [68]) = false := beq_eq_false_iff_ne.2 fun e => hno (by rw [ByteArray.toList_eq] at e; rw [show t = Ps.wD from ba_ext e]; decide)
  have z12 : (t.toList == [67]) = false := beq_eq_false_iff_ne.2 fun e => hno (by rw [ByteArray.toList_eq] at e; rw [show t = Ps.wC from ba_ext e]; decide)
  have z13 : (t.toList == [91]) = false := beq_eq_false_iff_ne.2 fun e => hno (by rw [ByteArray.toList_eq] at e; rw [show t = Ps.wLB from ba_ext e]; decide)
  have HPK := Lib.hid (peek_tok hE hl)
  have HN : Hid (∀ w1, Keep NoF w w1 → _) := Lib.hid fun w1 (hk : Keep NoF w w1) => name_err hE (find_fact hE) (hl.keep hk) hn
  clear hl hno hn
  go_enter Tryz.func117, Tryz.ntmps117
  go_wp2_with (first
    | (go_at_call 98; (with_reducible refine HPK.out.mono ?_); rintro e w1 ⟨rfl, K1⟩; have H2 := Lib.hid (HN.out w1 K1))
    | (go_at_call 134; (with_reducible refine H2.out.mono ?_); rintro e w2 ⟨rfl, D2, K2⟩; have H3 := Lib.hid (c_Fact_fr 0 D2.lt))
    | (go_at_call 136; (with_reducible refine H3.out.mono ?_); rintro e w3 ⟨A3, c3, rfl, R3, K3⟩; have H4 := Lib.hid (keepD (L0 := L0) (r := t :: r) hE (D2.keep K3) R3))
    | (go_at_call 68; (with_reducible refine H4.out.mono ?_); rintro e w4 ⟨A4, c4, f4, rfl, R4, K4, Q4⟩))
  refine bodyPost_ret (v := .slice A4 f4.length c4) (by simp [results, Tryz.results117, go_sem]) rfl ?_
  exact ⟨A4, c4, f4, rfl, R4, K_trans (K_trans (K0 K1) K2) (K_trans (K0 K3) K4), Q4⟩
theorem prefix_any (hE : E.Ok) {form q : Ps.P Fm.Form} {N : Nat} (HFO : Part E 35 #[E.ptr] (fun _ => True) form N) (hff : Ps.Fine form) (HP : Part E 117 #[E.ptr] (fun _ => True) q N) : Part E 117 #[E.ptr] (fun _ => True) (Ps.operP (sigP E.S) form q N) (N + 1) := by
  intro ts w L0 hlt _ hl
  cases ts with
  | nil => exact prefix_nil hE hl
  | cons t r =>
    have hr : r.length < N := by simp at hlt; omega
    have hb : ∀ k, Ps.kindE (sigP E.S) t = .ok k → Ps.operP (sigP E.S) form q N (t :: r) = Ps.body (sigP E.S) form q N k r := fun k hk => Ps.byTok_ok (by simp only [hk]) r
    by_cases hm : t ∈ [Ps.wNot, Ps.wNext, Ps.wPrev, Ps.wTrue, Ps.wFalse, Ps.wL, Ps.wK, Ps.wM, Ps.wS, Ps.wB, Ps.wE, Ps.wD, Ps.wC, Ps.wLB]
    · simp only [List.mem_cons, List.not_mem_nil, or_false] at hm
      rcases hm with rfl | rfl | rfl | rfl | rfl | rfl | rfl | rfl | rfl | rfl | rfl | rfl | rfl | rfl
      · rw [(hb (.un 4) (by rfl)).trans (eq_un 4)]
        exact prefix_Not hE HFO hff HP hr hl
      · rw [(hb (.un 18) (by rfl)).trans (eq_un 18)]
        exact prefix_Next hE HFO hff HP hr hl
      · rw [(hb (.un 20) (by rfl)).trans (eq_un 20)]
        exact prefix_Prev hE HFO hff HP hr hl
      · rw [(hb (.leaf 1 0) (by rfl)).trans rfl]
        exact prefix_True hE HFO hff HP hr hl
      · rw [(hb (.leaf 2 0) (by rfl)).trans rfl]
        exact prefix_False hE HFO hff HP hr hl
      · rw [(hb (.par) (by rfl)).trans eq_par]
        exact prefix_L hE HFO hff HP hr hl
      · rw [(hb (.ag 9) (by rfl)).trans (eq_ag 9)]
        exact prefix_K hE HFO hff HP hr hl
      · rw [(hb (.ag 10) (by rfl)).trans (eq_ag 10)]
        exact prefix_M hE HFO hff HP hr hl
      · rw [(hb (.ag 15) (by rfl)).trans (eq_ag 15)]
        exact prefix_S hE HFO hff HP hr hl
      · rw [(hb (.bel) (by rfl)).trans eq_bel]
        exact prefix_B hE HFO hff HP hr hl
      · rw [(hb (.gr 11) (by rfl)).trans (eq_gr 11)]
        exact prefix_E hE HFO hff HP hr hl
      · rw [(hb (.gr 12) (by rfl)).trans (eq_gr 12)]
        exact prefix_D hE HFO hff HP hr hl
      · rw [(hb (.com) (by rfl)).trans eq_com]
        exact prefix_C hE HFO hff HP hr hl
      · rw [(hb (.dyn) (by rfl)).trans rfl]
        exact prefix_LB hE HFO hff HP hr hl
    · have hk := kind_not (S := sigP E.S) hm
      cases hn : Ps.nameE (sigP E.S).fa t with
      | ok i =>
        rw [hn] at hk
        rw [hb _ hk]
        exact prefix_name_ok hE hl hm hn
      | error x =>
        rw [hn] at hk
        rw [show Ps.operP (sigP E.S) form q N (t :: r) = .bad (t :: r) x from Ps.byTok_err (by simp only [hk]) r]
        exact prefix_name_bad hE hl hm hn
end
end Go.Proofs.YtbidfbojealmlaaGreatDoor
namespace Go.Proofs.YtbidfbojealmlaaGreatDoor
open Go.RowKit
theorem formula_of {E : Env} (hE : E.Ok) {q : Ps.P Fm.Form} (hq : Ps.Fine q) {N : Nat} (HP : Part E 117 #[E.ptr] (fun _ => True) q N) : Part E 35 #[E.ptr] (fun _ => True) (Ps.fP q N) N :=
  formula_any hE (Ps.fine_iP hq N) (implies_any hE (Ps.fine_tP hq N) (time_any hE hq HP N (Nat.le_refl _)) N (Nat.le_refl _))
theorem prefix_fuel {E : Env} (hE : E.Ok) : ∀ n, Part E 117 #[E.ptr] (fun _ => True) (Ps.prefP (sigP E.S) n) n
  | 0 => fun ts w L h => by omega
  | n + 1 => prefix_any hE (formula_of hE (Ps.fine_pref _ n) (prefix_fuel hE n)) (Ps.fine_form _ n) (prefix_fuel hE n)
theorem formula_fuel {E : Env} (hE : E.Ok) (n : Nat) : Part E 35 #[E.ptr] (fun _ => True) (Ps.formP (sigP E.S) n) n := formula_of hE (Ps.fine_pref _ n) (prefix_fuel hE n)
end Go.Proofs.YtbidfbojealmlaaGreatDoor
