/- The reader: what implies, chain and formula do. Conditions: the reader lies as it is built; what their operands do. The reader: what formula and chain do. Conditions: the reader lies as it is built; what their operands do. The reader: what time does. Conditions: the reader lies as it is built; what prefix does. No condition. -/
import Derived.Test.YtbidfbojealmlaaGreatDoorPaJ
set_option linter.unusedVariables false
set_option linter.unusedSimpArgs false
namespace Go.Proofs.YtbidfbojealmlaaGreatDoor
open Go.RowKit
open Fm (Nd cl mk0 mk1 mk2 tr)
open Fm.Form

/-- A function that joins two formulas. -/
def Bin2 (E : Env) (F : Nat) (op : Int) : Prop := ∀ (w : World) (A : Option Addr) (c : Nat) (f : List Nd) (A' : Option Addr) (c' : Nat) (h : List Nd), E.b < w.heap.size → FR E w A c f → FR E w A' c' h →
  Calls Tryz.prog F #[.slice A f.length c, .slice A' h.length c'] w fun e w' => ∃ (A'' : Option Addr) (c'' : Nat), e = .returned (.slice A'' (mk2 op 0 0 0 f h).length c'') ∧ FR E w' A'' c'' (mk2 op 0 0 0 f h) ∧ Keep NoF w w'
section
variable {E : Env}
theorem b2_And : Bin2 E 22 5 := fun _ _ _ _ _ _ _ hb h1 h2 => (c_And h1.len h1.rd h2.len h2.rd).mono fun _ _ h => h.fr hb (mk_len2 _ _ _ _ _ _)
theorem b2_Or : Bin2 E 115 6 := fun _ _ _ _ _ _ _ hb h1 h2 => (c_Or h1.len h1.rd h2.len h2.rd).mono fun _ _ h => h.fr hb (mk_len2 _ _ _ _ _ _)
theorem b2_Imp : Bin2 E 97 7 := fun _ _ _ _ _ _ _ hb h1 h2 => (c_Imp h1.len h1.rd h2.len h2.rd).mono fun _ _ h => h.fr hb (mk_len2 _ _ _ _ _ _)
theorem b2_Iff : Bin2 E 69 8 := fun _ _ _ _ _ _ _ hb h1 h2 => (c_Iff h1.len h1.rd h2.len h2.rd).mono fun _ _ h => h.fr hb (mk_len2 _ _ _ _ _ _)
theorem b2_Until : Bin2 E 118 19 := fun _ _ _ _ _ _ _ hb h1 h2 => (c_Until h1.len h1.rd h2.len h2.rd).mono fun _ _ h => h.fr hb (mk_len2 _ _ _ _ _ _)
theorem b2_Since : Bin2 E 119 21 := fun _ _ _ _ _ _ _ hb h1 h2 => (c_Since h1.len h1.rd h2.len h2.rd).mono fun _ _ h => h.fr hb (mk_len2 _ _ _ _ _ _)
variable {w : World} {ts : List ByteArray} {L0 : Bool} {A : Option Addr} {c : Nat}
theorem Live.lt {L : Bool} (h : Live E w ts L) : E.b < w.heap.size := h.st.bk.lt
theorem Dead.lt {L : Bool} {m x : Nat} (h : Dead E w m x L) : E.b < w.heap.size := h.st.bk.lt
/-- What is joined, kept. -/
theorem keep2 (hE : E.Ok) {op i e g : Int} {t s : Fm.Form} {f h : List Nd} (hl : Live E w ts ((L0 || dB t) || dB s)) (hg : Fm.Good (bin op i e g t s)) (hf : (L0 || dB t) = false → f = cl t) (hh : ((L0 || dB t) || dB s) = false → h = cl s) (hr : FR E w A c (mk2 op i e g f h)) :
    Calls Tryz.prog 68 #[E.ptr, .slice A (mk2 op i e g f h).length c] w (Post E w L0 (.ok (bin op i e g t s) ts)) := by
  refine (keep_live hE hl hr).mono ?_
  rintro _ w' ⟨A', c', l', rfl, r', k', v', q'⟩
  obtain ⟨j1, j2⟩ := join2 L0 hg hf hh
  rw [j1] at v' q'
  exact ⟨A', c', l', rfl, r', k', hg, v', fun hx => (q' hx).trans (j2 hx)⟩
theorem keep1 (hE : E.Ok) {op i e g : Int} {t : Fm.Form} {f : List Nd} (hl : Live E w ts (L0 || dB t)) (hg : Fm.Good (un op i e g t)) (hf : (L0 || dB t) = false → f = cl t) (hr : FR E w A c (mk1 op i e g f)) :
    Calls Tryz.prog 68 #[E.ptr, .slice A (mk1 op i e g f).length c] w (Post E w L0 (.ok (un op i e g t) ts)) := by
  refine (keep_live hE hl hr).mono ?_
  rintro _ w' ⟨A', c', l', rfl, r', k', v', q'⟩
  obtain ⟨j1, j2⟩ := join1 L0 hg hf
  rw [j1] at v' q'
  exact ⟨A', c', l', rfl, r', k', hg, v', fun hx => (q' hx).trans (j2 hx)⟩
theorem keep0 (hE : E.Ok) {op i e g : Int} (hl : Live E w ts L0) (hg : Fm.Good (leaf op i e g)) (hr : FR E w A c (mk0 op i e g)) :
    Calls Tryz.prog 68 #[E.ptr, .slice A (mk0 op i e g).length c] w (Post E w L0 (.ok (leaf op i e g) ts)) := by
  refine (keep_live hE hl hr).mono ?_
  rintro _ w' ⟨A', c', l', rfl, r', k', v', q'⟩
  obtain ⟨j1, j2⟩ := join0 L0 hg
  rw [j1] at v' q'
  exact ⟨A', c', l', rfl, r', k', hg, v', fun hx => (q' hx).trans (j2 hx)⟩
theorem keepD (hE : E.Ok) {L : Bool} {l : List Nd} {r : List ByteArray} {x : Nat} (hd : Dead E w r.length x L) (hr : FR E w A c l) :
    Calls Tryz.prog 68 #[E.ptr, .slice A l.length c] w (Post E w L0 (.bad r x)) := keep_dead hE hd hr
theorem Post.from {w1 : World} {L1 : Bool} {r : Ps.Res Fm.Form} {e : Ending} {w' : World} (h : Post E w1 L0 r e w') (hk : E.K w w1) : Post E w L0 r e w' := by
  obtain ⟨A, c, l, he, hr, hk2, hm⟩ := h
  exact ⟨A, c, l, he, hr, K_trans hk hk2, hm⟩
/-- What a part of the grammar does. -/
def Part (E : Env) (F : Nat) (cap : Array Value) (J : World → Prop) (p : Ps.P Fm.Form) (N : Nat) : Prop := ∀ (ts : List ByteArray) (w : World) (L : Bool), ts.length < N → J w → Live E w ts L → Calls Tryz.prog F cap w (Post E w L (p ts))
end
section
set_option maxRecDepth 100000
set_option maxHeartbeats 2000000
variable {E : Env}
theorem implies_any (hE : E.Ok) {p : Ps.P Fm.Form} (hp : Ps.Fine p) {N : Nat} (HT : Part E 96 #[E.ptr] (fun _ => True) p N) : ∀ n, n ≤ N → Part E 66 #[E.ptr] (fun _ => True) (Ps.impP p n) n := by
  intro n
  induction n with
  | zero => intro _ ts w L h; omega
  | succ n ih =>
    intro hn ts w L hlt _ hl
    have H1 := HT ts w L (by omega) trivial hl
    have HIH := Lib.hid (ih (by omega))
    clear ih HT
    cases h1 : p ts with
    | bad r x =>
      rw [h1] at H1
      rw [show Ps.impP p (n + 1) ts = .bad r x by simp only [Ps.impP, Ps.bind, h1]]
      have H1' := Lib.hid H1
      clear H1 h1 hl
      go_enter Tryz.func66, Tryz.ntmps66
      go_wp2_with (first
        | (go_at_call 96; (with_reducible refine H1'.out.mono ?_); rintro e w1 ⟨A1, c1, f1, rfl, R1, K1, L1, D1⟩; have HTK := Lib.hid (take_dead D1 ⟨#[45, 62]⟩))
        | (go_at_call 67; (with_reducible refine HTK.out.mono ?_); rintro e w' ⟨rfl, hw'⟩; obtain rfl := hw'.symm))
      refine bodyPost_ret (v := .slice A1 f1.length c1) (by simp [results, Tryz.results66, go_sem]) rfl ?_
      exact ⟨A1, c1, f1, rfl, R1, K1, L1, D1⟩
    | ok t r =>
      have hr := hp.shr.ok h1
      rw [h1] at H1
      by_cases hw : ∃ r', r = Ps.wImp :: r'
      · obtain ⟨r', rfl⟩ := hw
        have hr' : r'.length < n := by simp at hr; omega
        rw [show Ps.impP p (n + 1) ts = Ps.bind (Ps.impP p n) (fun g => Ps.ret (bin 7 0 0 0 t g)) r' by simp only [Ps.impP, Ps.bind, h1, Ps.take_yes, if_true]]
        have H2 := Lib.hid fun w' L' (h : Live E w' r' L') => HIH.out r' w' L' hr' trivial h
        have H1' := Lib.hid H1
        clear H1 h1 hl hr HIH
        cases h2 : Ps.impP p n r' with
        | bad r2 x =>
          rw [h2] at H2
          rw [show Ps.bind (Ps.impP p n) (fun g => Ps.ret (bin 7 0 0 0 t g)) r' = .bad r2 x by simp only [Ps.bind, h2]]
          clear h2
          go_enter Tryz.func66, Tryz.ntmps66
          go_wp2_with (first
            | (go_at_call 96; (with_reducible refine H1'.out.mono ?_); rintro e w1 ⟨A1, c1, f1, rfl, R1, K1, G1, L1, V1⟩; have HTK := Lib.hid (take_yes_any hE ⟨#[45, 62]⟩ (by decide) L1); clear V1)
            | (go_at_call 67; (with_reducible refine HTK.out.mono ?_); rintro e w2 ⟨rfl, L2, K2⟩; have H3 := Lib.hid (H2.out w2 _ L2))
            | (go_at_call 66; (with_reducible refine H3.out.mono ?_); rintro e w3 ⟨A3, c3, f3, rfl, R3, K3, L3, D3⟩; have H4 := Lib.hid (b2_Imp w3 A1 c1 f1 A3 c3 f3 D3.lt ((R1.keep K2).keep K3) R3))
            | (go_at_call 97; (with_reducible refine H4.out.mono ?_); rintro e w4 ⟨A4, c4, rfl, R4, K4⟩; have H5 := Lib.hid (keepD (L0 := L) hE (D3.keep K4) R4))
            | (go_at_call 68; (with_reducible refine H5.out.mono ?_); rintro e w5 ⟨A5, c5, f5, rfl, R5, K5, Q5⟩))
          refine bodyPost_ret (v := .slice A5 f5.length c5) (by simp [results, Tryz.results66, go_sem]) rfl ?_
          exact ⟨A5, c5, f5, rfl, R5, K_trans (K_trans (K_trans K1 K2) K3) (K_trans (K0 K4) K5), Q5⟩
        | ok s r2 =>
          rw [h2] at H2
          rw [show Ps.bind (Ps.impP p n) (fun g => Ps.ret (bin 7 0 0 0 t g)) r' = .ok (bin 7 0 0 0 t s) r2 by simp only [Ps.bind, h2, Ps.ret]]
          clear h2
          go_enter Tryz.func66, Tryz.ntmps66
          go_wp2_with (first
            | (go_at_call 96; (with_reducible refine H1'.out.mono ?_); rintro e w1 ⟨A1, c1, f1, rfl, R1, K1, G1, L1, V1⟩; have HTK := Lib.hid (take_yes_any hE ⟨#[45, 62]⟩ (by decide) L1); have HV1 := Lib.hid V1; clear V1)
            | (go_at_call 67; (with_reducible refine HTK.out.mono ?_); rintro e w2 ⟨rfl, L2, K2⟩; have H3 := Lib.hid (H2.out w2 _ L2))
            | (go_at_call 66; (with_reducible refine H3.out.mono ?_); rintro e w3 ⟨A3, c3, f3, rfl, R3, K3, G3, L3, V3⟩; have HV3 := Lib.hid V3; clear V3; have H4 := Lib.hid (b2_Imp w3 A1 c1 f1 A3 c3 f3 L3.lt ((R1.keep K2).keep K3) R3))
            | (go_at_call 97; (with_reducible refine H4.out.mono ?_); rintro e w4 ⟨A4, c4, rfl, R4, K4⟩; have H5 := Lib.hid (keep2 (L0 := L) hE (L3.keep K4) ⟨by decide, by decide, G1, G3⟩ HV1.out HV3.out R4))
            | (go_at_call 68; (with_reducible refine H5.out.mono ?_); rintro e w5 ⟨A5, c5, f5, rfl, R5, K5, Q5⟩))
          refine bodyPost_ret (v := .slice A5 f5.length c5) (by simp [results, Tryz.results66, go_sem]) rfl ?_
          exact ⟨A5, c5, f5, rfl, R5, K_trans (K_trans (K_trans K1 K2) K3) (K_trans (K0 K4) K5), Q5⟩
      · have ht : Ps.take Ps.wImp r = .ok false r := by
          cases r with
          | nil => rfl
          | cons y r => exact Ps.take_no (fun e => hw ⟨r, by rw [e]⟩) r
        rw [show Ps.impP p (n + 1) ts = .ok t r by simp only [Ps.impP, Ps.bind, h1, ht, Bool.false_eq_true, if_false, Ps.ret]]
        have hno : ∀ r', r ≠ Ps.wImp :: r' := fun r' e => hw ⟨r', e⟩
        have H1' := Lib.hid H1
        have HNO := Lib.hid hno
        clear H1 h1 hl hr HIH ht hw hno
        go_enter Tryz.func66, Tryz.ntmps66
        go_wp2_with (first
          | (go_at_call 96; (with_reducible refine H1'.out.mono ?_); rintro e w1 ⟨A1, c1, f1, rfl, R1, K1, G1, L1, V1⟩; have HV1 := Lib.hid V1; clear V1; have HTK := Lib.hid (take_no_any hE ⟨#[45, 62]⟩ L1 HNO.out))
          | (go_at_call 67; (with_reducible refine HTK.out.mono ?_); rintro e w2 ⟨rfl, K2⟩))
        refine bodyPost_ret (v := .slice A1 f1.length c1) (by simp [results, Tryz.results66, go_sem]) rfl ?_
        exact ⟨A1, c1, f1, rfl, R1.keep (K0 K2), K_trans K1 (K0 K2), G1, L1.keep K2, HV1.out⟩
end
end Go.Proofs.YtbidfbojealmlaaGreatDoor
namespace Go.Proofs.YtbidfbojealmlaaGreatDoor
open Go.RowKit
open Fm (Nd cl mk0 mk1 mk2 tr)
open Fm.Form

/-- The state at a loop's head: what is still to be read behind a formula, or an error. -/
def LS (E : Env) (w : World) (L0 : Bool) (res : Ps.Res Fm.Form) (op : Int) (s : ByteArray) (p : Ps.P Fm.Form) (m : Nat) (l : List Nd) : Prop :=
  (∃ t r, res = Ps.loopP op s p m t r ∧ r.length < m ∧ Fm.Good t ∧ Live E w r (L0 || dB t) ∧ ((L0 || dB t) = false → l = cl t)) ∨ (∃ r x L, res = .bad r x ∧ Dead E w r.length x L)
theorem LS.keep {E : Env} {w w' : World} {L0 : Bool} {res : Ps.Res Fm.Form} {op : Int} {s : ByteArray} {p : Ps.P Fm.Form} {m : Nat} {l : List Nd} (h : LS E w L0 res op s p m l) (hk : Keep NoF w w') : LS E w' L0 res op s p m l := by
  rcases h with ⟨t, r, h1, h2, h3, h4, h5⟩ | ⟨r, x, L, h1, h2⟩
  · exact .inl ⟨t, r, h1, h2, h3, h4.keep hk, h5⟩
  · exact .inr ⟨r, x, L, h1, h2.keep hk⟩
/-- After the first operand. -/
theorem LS.first {E : Env} {w : World} {L0 : Bool} {op : Int} {s : ByteArray} {p : Ps.P Fm.Form} (hp : Ps.Fine p) {N : Nat} {ts : List ByteArray} (hlt : ts.length < N) {l : List Nd}
    (h : match p ts with | .ok t ts => Fm.Good t ∧ Live E w ts (L0 || dB t) ∧ ((L0 || dB t) = false → l = cl t) | .bad r x => ∃ L, Dead E w r.length x L) : LS E w L0 (Ps.chainP op s p N ts) op s p N l := by
  unfold Ps.chainP Ps.bind
  cases h1 : p ts with
  | ok t r =>
    rw [h1] at h
    have := hp.shr.ok h1
    exact .inl ⟨t, r, rfl, by omega, h.1, h.2.1, h.2.2⟩
  | bad r x =>
    rw [h1] at h
    obtain ⟨L, hd⟩ := h
    exact .inr ⟨r, x, L, rfl, hd⟩
theorem loop_yes_ok {op : Int} {s : ByteArray} {p : Ps.P Fm.Form} {m : Nat} {t s2 : Fm.Form} {r r2 : List ByteArray} (h : p r = .ok s2 r2) : Ps.loopP op s p (m + 1) t (s :: r) = Ps.loopP op s p m (bin op 0 0 0 t s2) r2 := by
  simp only [Ps.loopP, Ps.bind, Ps.take_yes, if_true, h]
theorem loop_yes_bad {op : Int} {s : ByteArray} {p : Ps.P Fm.Form} {m : Nat} {t : Fm.Form} {r r2 : List ByteArray} {x : Nat} (h : p r = .bad r2 x) : Ps.loopP op s p (m + 1) t (s :: r) = .bad r2 x := by
  simp only [Ps.loopP, Ps.bind, Ps.take_yes, if_true, h]
theorem take_not {s : ByteArray} {r : List ByteArray} (hw : ∀ r', r ≠ s :: r') : Ps.take s r = .ok false r := by
  cases r with
  | nil => rfl
  | cons y r => exact Ps.take_no (fun e => hw r (by rw [e])) r
theorem loop_no {op : Int} {s : ByteArray} {p : Ps.P Fm.Form} {m : Nat} {t : Fm.Form} {r : List ByteArray} (h : ∀ r', r ≠ s :: r') : Ps.loopP op s p (m + 1) t r = .ok t r := by
  simp only [Ps.loopP, Ps.bind, take_not h, Bool.false_eq_true, if_false, Ps.ret]
theorem join_op {op : Int} (h : op = 5 ∨ op = 6 ∨ op = 8) {t s : Fm.Form} (h1 : Fm.Good t) (h2 : Fm.Good s) : Fm.Good (bin op 0 0 0 t s) := by
  rcases h with rfl | rfl | rfl <;> exact ⟨by decide, by decide, h1, h2⟩
section
set_option maxRecDepth 100000
set_option maxHeartbeats 2000000
variable {E : Env}
theorem formula_any (hE : E.Ok) {p : Ps.P Fm.Form} (hp : Ps.Fine p) {N : Nat} (HT : Part E 66 #[E.ptr] (fun _ => True) p N) : Part E 35 #[E.ptr] (fun _ => True) (Ps.chainP 8 Ps.wIff p N) N := by
  intro ts w L hlt _ hl
  have HP := Lib.hid hp
  have HPT := Lib.hid HT
  have H1 := Lib.hid (HT ts w L hlt trivial hl)
  have HLT := Lib.hid hlt
  clear hp HT hl hlt
  generalize hres : Ps.chainP 8 Ps.wIff p N ts = res
  have HR := Lib.hid hres
  clear hres
  go_enter Tryz.func35, Tryz.ntmps35
  go_wp2_with (go_at_call 66; (with_reducible refine H1.out.mono ?_); rintro e w1 ⟨A1, c1, f1, rfl, R1, K1, Q1⟩)
  have Q1' : Hid (LS E w1 L res 8 Ps.wIff p N f1) := Lib.hid (by rw [← HR.out]; exact LS.first HP.out HLT.out Q1)
  clear Q1 H1 HR HLT
  go_loopg [3] N (fun gk fv wr => ∃ (A : Option Addr) (c : Nat) (l : List Nd), fv = .slice A l.length c ∧ FR E wr A c l ∧ E.K w wr ∧ gk ≤ N ∧ Hid (LS E wr L res 8 Ps.wIff p gk l))
  case atStart => exact ⟨A1, c1, f1, rfl, R1, K1, Nat.le_refl _, Q1'⟩
  case round =>
    clear R1 K1 Q1'
    obtain ⟨A, c, l, rfl, R, K, hgk, Q⟩ := hrel
    rcases Q.out with ⟨t, r, q1, q2, q3, q4, q5⟩ | ⟨r, x, L', q1, q2⟩
    · obtain ⟨m, rfl⟩ : ∃ m, gk = m + 1 := ⟨gk - 1, by omega⟩
      have V := Lib.hid q5
      clear Q q5
      by_cases hw : ∃ r', r = Ps.wIff :: r'
      · obtain ⟨r', rfl⟩ := hw
        have hr' : r'.length < N := by simp at q2; omega
        have HTK := Lib.hid (take_yes_any hE ⟨#[60, 45, 62]⟩ (by decide) q4)
        have H2 := Lib.hid fun w' L' hj (h : Live E w' r' L') => HPT.out r' w' L' hr' hj h
        cases h2 : p r' with
        | bad r2 x =>
          have QR : Hid (res = .bad r2 x) := Lib.hid (q1.trans (loop_yes_bad h2))
          rw [h2] at H2
          clear q1 q2 q4 h2 hr'
          go_wp2_with (first
            | (go_at_call 67; (with_reducible refine HTK.out.mono ?_); rintro e w2 ⟨rfl, L2, K2⟩; have H3 := Lib.hid (H2.out w2 _ trivial L2))
            | (go_at_call 66; (with_reducible refine H3.out.mono ?_); rintro e w3 ⟨A3, c3, f3, rfl, R3, K3, L3, D3⟩; have H4 := Lib.hid (b2_Iff w3 A c l A3 c3 f3 D3.lt ((R.keep K2).keep K3) R3))
            | (go_at_call 69; (with_reducible refine H4.out.mono ?_); rintro e w4 ⟨A4, c4, rfl, R4, K4⟩; have H5 := Lib.hid (keepD (L0 := L) hE (D3.keep K4) R4))
            | (go_at_call 68; (with_reducible refine H5.out.mono ?_); rintro e w5 ⟨A5, c5, f5, rfl, R5, K5, Q5⟩))
          go_roundg m
          case rel =>
            obtain ⟨L5, D5⟩ := Q5
            exact ⟨A5, c5, f5, rfl, R5, K_trans (K_trans (K_trans K K2) K3) (K_trans (K0 K4) K5), by omega, Lib.hid (.inr ⟨r2, x, L5, QR.out, D5⟩)⟩
          case measure => omega
        | ok s2 r2 =>
          have hp2 := HP.out.shr.ok h2
          have QR : Hid (res = Ps.loopP 8 Ps.wIff p m (bin 8 0 0 0 t s2) r2) := Lib.hid (q1.trans (loop_yes_ok h2))
          have hm : r2.length < m := by simp at q2; omega
          rw [h2] at H2
          clear q1 q2 q4 h2 hr' hp2
          go_wp2_with (first
            | (go_at_call 67; (with_reducible refine HTK.out.mono ?_); rintro e w2 ⟨rfl, L2, K2⟩; have H3 := Lib.hid (H2.out w2 _ trivial L2))
            | (go_at_call 66; (with_reducible refine H3.out.mono ?_); rintro e w3 ⟨A3, c3, f3, rfl, R3, K3, G3, L3, V3⟩; have HV3 := Lib.hid V3; clear V3; have H4 := Lib.hid (b2_Iff w3 A c l A3 c3 f3 L3.lt ((R.keep K2).keep K3) R3))
            | (go_at_call 69; (with_reducible refine H4.out.mono ?_); rintro e w4 ⟨A4, c4, rfl, R4, K4⟩; have H5 := Lib.hid (keep2 (L0 := L) hE (L3.keep K4) (join_op (.inr (.inr rfl)) q3 G3) V.out HV3.out R4))
            | (go_at_call 68; (with_reducible refine H5.out.mono ?_); rintro e w5 ⟨A5, c5, f5, rfl, R5, K5, Q5⟩))
          go_roundg m
          case rel => exact ⟨A5, c5, f5, rfl, R5, K_trans (K_trans (K_trans K K2) K3) (K_trans (K0 K4) K5), by omega, Lib.hid (.inl ⟨_, r2, QR.out, hm, Q5.1, Q5.2.1, Q5.2.2⟩)⟩
          case measure => omega
      · have hno : ∀ r', r ≠ Ps.wIff :: r' := fun r' e => hw ⟨r', e⟩
        have QR : Hid (res = .ok t r) := Lib.hid (q1.trans (loop_no hno))
        have HTK := Lib.hid (take_no_any hE ⟨#[60, 45, 62]⟩ q4 hno)
        clear q1 q2 hno hw
        go_wp2_with (go_at_call 67; (with_reducible refine HTK.out.mono ?_); rintro e w2 ⟨rfl, K2⟩)
        refine bodyPost_ret (v := .slice A l.length c) (by simp [results, Tryz.results35, go_sem]) rfl ?_
        rw [QR.out]
        exact ⟨A, c, l, rfl, R.keep (K0 K2), K_trans K (K0 K2), q3, q4.keep K2, V.out⟩
    · have QR : Hid (res = .bad r x) := Lib.hid q1
      have HTK := Lib.hid (take_dead q2 ⟨#[60, 45, 62]⟩)
      clear q1 Q
      go_wp2_with (go_at_call 67; (with_reducible refine HTK.out.mono ?_); rintro e w' ⟨rfl, hw'⟩; obtain rfl := hw'.symm)
      refine bodyPost_ret (v := .slice A l.length c) (by simp [results, Tryz.results35, go_sem]) rfl ?_
      rw [QR.out]
      exact ⟨A, c, l, rfl, R, K, L', q2⟩
theorem chain_any (hE : E.Ok) {p : Ps.P Fm.Form} (hp : Ps.Fine p) {N : Nat} {g jf : Nat} {fs cs : Array Value} {J : World → Prop} {op : Int} {s : ByteArray} (hs : s.data.toList ≠ []) (hop : op = 5 ∨ op = 6 ∨ op = 8)
    (hcf : ∀ (args : Array Value) w', (callFunc g args).run Tryz.prog w' = .ok (.enter g args) w') (hcj : ∀ (args : Array Value) w', (callFunc jf args).run Tryz.prog w' = .ok (.enter jf args) w') (hj : Bin2 E jf op)
    (hJ : ∀ w w', J w → E.K w w' → J w') (HT : Part E g (fs ++ cs) J p N) (ts : List ByteArray) (w : World) (L : Bool) (hlt : ts.length < N) (hJ0 : J w) (hl : Live E w ts L) :
    Calls Tryz.prog 114 #[E.ptr, .string s, .func (.func jf) #[] #[], .func (.func g) fs cs] w (Post E w L (Ps.chainP op s p N ts)) := by
  have HP := Lib.hid hp
  have HPT := Lib.hid HT
  have H1 := Lib.hid (HT ts w L hlt hJ0 hl)
  have HJJ := Lib.hid hJ
  clear hJ
  have HLT := Lib.hid hlt
  clear hp HT hl hlt
  generalize hres : Ps.chainP op s p N ts = res
  have HR := Lib.hid hres
  clear hres
  go_enter Tryz.func114, Tryz.ntmps114
  go_wp2_with ((with_reducible refine H1.out.mono ?_); rintro e w1 ⟨A1, c1, f1, rfl, R1, K1, Q1⟩)
  have Q1' : Hid (LS E w1 L res op s p N f1) := Lib.hid (by rw [← HR.out]; exact LS.first HP.out HLT.out Q1)
  have hJ1 := HJJ.out _ _ hJ0 K1
  clear Q1 H1 HR HLT hJ0
  go_loopg [9] N (fun gk fv wr => ∃ (A : Option Addr) (c : Nat) (l : List Nd), fv = .slice A l.length c ∧ FR E wr A c l ∧ E.K w wr ∧ gk ≤ N ∧ Hid (LS E wr L res op s p gk l) ∧ J wr)
  case atStart => exact ⟨A1, c1, f1, rfl, R1, K1, Nat.le_refl _, Q1', hJ1⟩
  case round =>
    clear R1 K1 Q1' hJ1
    obtain ⟨A, c, l, rfl, R, K, hgk, Q, hJr⟩ := hrel
    rcases Q.out with ⟨t, r, q1, q2, q3, q4, q5⟩ | ⟨r, x, L', q1, q2⟩
    · obtain ⟨m, rfl⟩ : ∃ m, gk = m + 1 := ⟨gk - 1, by omega⟩
      have V := Lib.hid q5
      clear Q q5
      by_cases hw : ∃ r', r = s :: r'
      · obtain ⟨r', rfl⟩ := hw
        have hr' : r'.length < N := by simp at q2; omega
        have HTK := Lib.hid (take_yes_any hE s hs q4)
        have H2 := Lib.hid fun w' L' hj (h : Live E w' r' L') => HPT.out r' w' L' hr' hj h
        cases h2 : p r' with
        | bad r2 x =>
          have QR : Hid (res = .bad r2 x) := Lib.hid (q1.trans (loop_yes_bad h2))
          rw [h2] at H2
          clear q1 q2 q4 h2 hr'
          go_wp2_with (first
            | (go_at_call 67; (with_reducible refine HTK.out.mono ?_); rintro e w2 ⟨rfl, L2, K2⟩; have hj2 := HJJ.out _ _ hJr K2; have H3 := Lib.hid (H2.out w2 _ hj2 L2))
            | ((with_reducible refine H3.out.mono ?_); rintro e w3 ⟨A3, c3, f3, rfl, R3, K3, L3, D3⟩; have H4 := Lib.hid (hj w3 A c l A3 c3 f3 D3.lt ((R.keep K2).keep K3) R3))
            | ((with_reducible refine H4.out.mono ?_); rintro e w4 ⟨A4, c4, rfl, R4, K4⟩; have H5 := Lib.hid (keepD (L0 := L) hE (D3.keep K4) R4))
            | (go_at_call 68; (with_reducible refine H5.out.mono ?_); rintro e w5 ⟨A5, c5, f5, rfl, R5, K5, Q5⟩))
          go_roundg m
          case rel =>
            obtain ⟨L5, D5⟩ := Q5
            exact ⟨A5, c5, f5, rfl, R5, K_trans (K_trans (K_trans K K2) K3) (K_trans (K0 K4) K5), by omega, Lib.hid (.inr ⟨r2, x, L5, QR.out, D5⟩), HJJ.out _ _ (HJJ.out _ _ hj2 K3) (K_trans (K0 K4) K5)⟩
          case measure => omega
        | ok s2 r2 =>
          have hp2 := HP.out.shr.ok h2
          have QR : Hid (res = Ps.loopP op s p m (bin op 0 0 0 t s2) r2) := Lib.hid (q1.trans (loop_yes_ok h2))
          have hm : r2.length < m := by simp at q2; omega
          rw [h2] at H2
          clear q1 q2 q4 h2 hr' hp2
          go_wp2_with (first
            | (go_at_call 67; (with_reducible refine HTK.out.mono ?_); rintro e w2 ⟨rfl, L2, K2⟩; have hj2 := HJJ.out _ _ hJr K2; have H3 := Lib.hid (H2.out w2 _ hj2 L2))
            | ((with_reducible refine H3.out.mono ?_); rintro e w3 ⟨A3, c3, f3, rfl, R3, K3, G3, L3, V3⟩; have HV3 := Lib.hid V3; clear V3; have H4 := Lib.hid (hj w3 A c l A3 c3 f3 L3.lt ((R.keep K2).keep K3) R3))
            | ((with_reducible refine H4.out.mono ?_); rintro e w4 ⟨A4, c4, rfl, R4, K4⟩; have H5 := Lib.hid (keep2 (L0 := L) hE (L3.keep K4) (join_op hop q3 G3) V.out HV3.out R4))
            | (go_at_call 68; (with_reducible refine H5.out.mono ?_); rintro e w5 ⟨A5, c5, f5, rfl, R5, K5, Q5⟩))
          go_roundg m
          case rel => exact ⟨A5, c5, f5, rfl, R5, K_trans (K_trans (K_trans K K2) K3) (K_trans (K0 K4) K5), by omega, Lib.hid (.inl ⟨_, r2, QR.out, hm, Q5.1, Q5.2.1, Q5.2.2⟩), HJJ.out _ _ (HJJ.out _ _ hj2 K3) (K_trans (K0 K4) K5)⟩
          case measure => omega
      · have hno : ∀ r', r ≠ s :: r' := fun r' e => hw ⟨r', e⟩
        have QR : Hid (res = .ok t r) := Lib.hid (q1.trans (loop_no hno))
        have HTK := Lib.hid (take_no_any hE s q4 hno)
        clear q1 q2 hno hw
        go_wp2_with (go_at_call 67; (with_reducible refine HTK.out.mono ?_); rintro e w2 ⟨rfl, K2⟩)
        refine bodyPost_ret (v := .slice A l.length c) (by simp [results, Tryz.results114, go_sem]) rfl ?_
        rw [QR.out]
        exact ⟨A, c, l, rfl, R.keep (K0 K2), K_trans K (K0 K2), q3, q4.keep K2, V.out⟩
    · have QR : Hid (res = .bad r x) := Lib.hid q1
      have HTK := Lib.hid (take_dead q2 s)
      clear q1 Q
      go_wp2_with (go_at_call 67; (with_reducible refine HTK.out.mono ?_); rintro e w' ⟨rfl, hw'⟩; obtain rfl := hw'.symm)
      refine bodyPost_ret (v := .slice A l.length c) (by simp [results, Tryz.results114, go_sem]) rfl ?_
      rw [QR.out]
      exact ⟨A, c, l, rfl, R, K, L', q2⟩
end
end Go.Proofs.YtbidfbojealmlaaGreatDoor
namespace Go.Proofs.YtbidfbojealmlaaGreatDoor
open Go.RowKit
open Fm (Nd cl mk0 mk1 mk2 tr)
open Fm.Form

theorem cf_prefix : ∀ (args : Array Value) w', (callFunc 117 args).run Tryz.prog w' = .ok (.enter 117 args) w' := by intro args w'; kernel_rfl
theorem cf_time1 : ∀ (args : Array Value) w', (callFunc 116 args).run Tryz.prog w' = .ok (.enter 116 args) w' := by intro args w'; kernel_rfl
theorem cf_And : ∀ (args : Array Value) w', (callFunc 22 args).run Tryz.prog w' = .ok (.enter 22 args) w' := by intro args w'; kernel_rfl
theorem cf_Or : ∀ (args : Array Value) w', (callFunc 115 args).run Tryz.prog w' = .ok (.enter 115 args) w' := by intro args w'; kernel_rfl
section
set_option maxRecDepth 100000
set_option maxHeartbeats 2000000
variable {E : Env}
/-- The box of the closure's variable. -/
def Boxed (E : Env) (B : Nat) (w : World) : Prop := w.cell? ⟨B, 0, none⟩ = some E.ptr
theorem Boxed.keep {B : Nat} (hne : B ≠ E.b) {w w' : World} (h : Boxed E B w) (hk : E.K w w') : Boxed E B w' := hk.cellv h hne
theorem time1_any (hE : E.Ok) {q : Ps.P Fm.Form} (hq : Ps.Fine q) {N : Nat} (HP : Part E 117 #[E.ptr] (fun _ => True) q N) (B : Nat) (hne : B ≠ E.b) : Part E 116 #[.pointer (some ⟨B, 0, none⟩)] (Boxed E B) (Ps.andP q N) N := by
  intro ts w L hlt hJ hl
  have cB : w.cell? ⟨B, 0, none⟩ = some E.ptr := hJ
  have H1 := Lib.hid (chain_any hE hq (g := 117) (jf := 22) (fs := #[E.ptr]) (cs := #[]) (J := fun _ => True) (op := 5) (s := ⟨#[38]⟩) (by decide) (.inl rfl) cf_prefix cf_And b2_And (fun _ _ _ _ => trivial) (by simpa using HP) ts w L hlt trivial hl)
  have H1' : Hid (Calls Tryz.prog 114 #[E.ptr, .string ⟨#[38]⟩, .func (.func 22) #[] #[], .func (.func 117) #[E.ptr] #[]] w (Post E w L (Ps.andP q N ts))) := H1
  clear H1 hJ hl hlt HP
  generalize Ps.andP q N ts = res at *
  go_enter Tryz.func116, Tryz.ntmps116
  go_wp2_with (go_at_call 114; (with_reducible refine H1'.out.mono ?_); rintro e w1 ⟨A1, c1, f1, rfl, Q1⟩)
  refine bodyPost_ret (v := .slice A1 f1.length c1) (by simp [results, Tryz.results116, go_sem]) rfl ?_
  exact ⟨A1, c1, f1, rfl, Q1⟩
theorem time_step {p : Ps.P Fm.Form} {n : Nat} {ts r : List ByteArray} {t : Fm.Form} (h : p ts = .ok t r) :
    (∀ r', r = Ps.wUntil :: r' → Ps.timeP p (n + 1) ts = Ps.bind (Ps.timeP p n) (fun g => Ps.ret (bin 19 0 0 0 t g)) r') ∧
    (∀ r', r = Ps.wSince :: r' → Ps.timeP p (n + 1) ts = Ps.bind (Ps.timeP p n) (fun g => Ps.ret (bin 21 0 0 0 t g)) r') ∧
    ((∀ r', r ≠ Ps.wUntil :: r') → (∀ r', r ≠ Ps.wSince :: r') → Ps.timeP p (n + 1) ts = .ok t r) := by
  refine ⟨fun r' e => ?_, fun r' e => ?_, fun h1 h2 => ?_⟩
  · subst e
    simp only [Ps.timeP, Ps.bind, h, Ps.take_yes, if_true]
  · subst e
    have : Ps.take Ps.wUntil (Ps.wSince :: r') = .ok false (Ps.wSince :: r') := Ps.take_no (by decide) r'
    simp only [Ps.timeP, Ps.bind, h, this, Ps.take_yes, if_true, Bool.false_eq_true, if_false]
  · simp only [Ps.timeP, Ps.bind, h, take_not h1, take_not h2, Bool.false_eq_true, if_false, Ps.ret]
theorem time_any (hE : E.Ok) {q : Ps.P Fm.Form} (hq : Ps.Fine q) {N : Nat} (HP : Part E 117 #[E.ptr] (fun _ => True) q N) : ∀ n, n ≤ N → Part E 96 #[E.ptr] (fun _ => True) (Ps.timeP (Ps.orP q N) n) n := by
  intro n
  induction n with
  | zero => intro _ ts w L h; omega
  | succ n ih =>
    intro hn ts w L hlt _ hl
    have hp := Ps.fine_or hq N
    have HIH := Lib.hid (ih (by omega))
    have hlw := hl.lt
    have hne : w.heap.size ≠ E.b := by omega
    have kW : Keep NoF w (w.alloc (.cells #[E.ptr] 60)) := (Keep.refl _ _).alloc _
    have bW : Boxed E w.heap.size (w.alloc (.cells #[E.ptr] 60)) := (Bk.new w 60 #[E.ptr]).cell 0
    have lW := hl.keep kW
    have H1 : Calls Tryz.prog 114 #[E.ptr, .string ⟨#[124]⟩, .func (.func 115) #[] #[], .func (.func 116) #[] #[.pointer (some ⟨w.heap.size, 0, none⟩)]] (w.alloc (.cells #[E.ptr] 60)) (Post E (w.alloc (.cells #[E.ptr] 60)) L (Ps.orP q N ts)) :=
      chain_any hE (Ps.fine_and hq N) (g := 116) (jf := 115) (fs := #[]) (cs := #[.pointer (some ⟨w.heap.size, 0, none⟩)]) (J := Boxed E w.heap.size) (op := 6) (s := ⟨#[124]⟩) (by decide) (.inr (.inl rfl)) cf_time1 cf_Or b2_Or (fun _ _ h k => h.keep hne k) (by simpa using time1_any hE hq HP w.heap.size hne) ts _ L (by omega) bW lW
    have bS : w.heap.size < (w.alloc (.cells #[E.ptr] 60)).heap.size := by simp
    clear ih HP lW hl
    cases h1 : Ps.orP q N ts with
    | bad r x =>
      rw [h1] at H1
      rw [show Ps.timeP (Ps.orP q N) (n + 1) ts = .bad r x by simp only [Ps.timeP, Ps.bind, h1]]
      have H1' := Lib.hid H1
      clear H1 h1
      go_enter Tryz.func96, Tryz.ntmps96
      go_wp2_with (first
        | (go_at_call 114; (with_reducible refine H1'.out.mono ?_); rintro e w1 ⟨A1, c1, f1, rfl, R1, K1, L1, D1⟩; have cB : w1.cell? ⟨w.heap.size, 0, none⟩ = some E.ptr := bW.keep hne K1; have HTK := Lib.hid (take_dead D1 ⟨#[117, 110, 116, 105, 108]⟩); have HTK2 := Lib.hid (take_dead D1 ⟨#[115, 105, 110, 99, 101]⟩))
        | (go_at_call 67; (with_reducible refine HTK.out.mono ?_); rintro e w' ⟨rfl, hw'⟩; obtain rfl := hw'.symm)
        | (go_at_call 67; (with_reducible refine HTK2.out.mono ?_); rintro e w' ⟨rfl, hw'⟩; obtain rfl := hw'.symm))
      refine bodyPost_ret (v := .slice A1 f1.length c1) (by simp [results, Tryz.results96, go_sem]) rfl ?_
      exact ⟨A1, c1, f1, rfl, R1, K_trans (K0 kW) K1, L1, D1⟩
    | ok t r =>
      have hr := hp.shr.ok h1
      obtain ⟨t1, t2, t3⟩ := time_step (n := n) h1
      rw [h1] at H1
      have H1' := Lib.hid H1
      clear H1 h1
      by_cases hu : ∃ r', r = Ps.wUntil :: r'
      · obtain ⟨r', rfl⟩ := hu
        have hr' : r'.length < n := by simp at hr; omega
        rw [t1 r' rfl]
        have H2 := Lib.hid fun w' L' (h : Live E w' r' L') => HIH.out r' w' L' hr' trivial h
        clear t1 t2 t3 hr hr' HIH
        cases h2 : Ps.timeP (Ps.orP q N) n r' with
        | bad r2 x =>
          rw [h2] at H2
          rw [show Ps.bind (Ps.timeP (Ps.orP q N) n) (fun g => Ps.ret (bin 19 0 0 0 t g)) r' = .bad r2 x by simp only [Ps.bind, h2]]
          clear h2
          go_enter Tryz.func96, Tryz.ntmps96
          go_wp2_with (first
            | (go_at_call 114; (with_reducible refine H1'.out.mono ?_); rintro e w1 ⟨A1, c1, f1, rfl, R1, K1, G1, L1, V1⟩; clear V1; have cB : w1.cell? ⟨w.heap.size, 0, none⟩ = some E.ptr := bW.keep hne K1; have HTK := Lib.hid (take_yes_any hE ⟨#[117, 110, 116, 105, 108]⟩ (by decide) L1))
            | (go_at_call 67; (with_reducible refine HTK.out.mono ?_); rintro e w2 ⟨rfl, L2, K2⟩))
          have e0 : w2.drew.cell? ⟨w.heap.size, 0, none⟩ = some E.ptr := Boxed.keep hne cB (K_trans K2 (K0 (Keep.refl NoF w2).drew))
          have kd : E.K w2 w2.drew := K0 (Keep.refl NoF w2).drew
          have H3 := Lib.hid (H2.out w2.drew _ (L2.keep (Keep.refl NoF w2).drew))
          go_region_held3 (fun w' => w'.cell? ⟨w.heap.size, 0, none⟩ = some E.ptr)
            (first | with_reducible exact e0 | with_reducible exact e3 | with_reducible exact e4 | with_reducible exact e5)
            (first
              | (go_at_call 96; (with_reducible refine H3.out.mono ?_); rintro e w3 ⟨A3, c3, f3, rfl, R3, K3, L3, D3⟩; have e3 : w3.cell? ⟨w.heap.size, 0, none⟩ = some E.ptr := Boxed.keep hne e0 K3; have H4 := Lib.hid (b2_Until w3 A1 c1 f1 A3 c3 f3 D3.lt (((R1.keep K2).keep kd).keep K3) R3))
              | (go_at_call 118; (with_reducible refine H4.out.mono ?_); rintro e w4 ⟨A4, c4, rfl, R4, K4⟩; have e4 : w4.cell? ⟨w.heap.size, 0, none⟩ = some E.ptr := Boxed.keep hne e3 (K0 K4); have H5 := Lib.hid (keepD (L0 := L) hE (D3.keep K4) R4))
              | (go_at_call 68; (with_reducible refine H5.out.mono ?_); rintro e w5 ⟨A5, c5, f5, rfl, R5, K5, Q5⟩; have e5 : w5.cell? ⟨w.heap.size, 0, none⟩ = some E.ptr := Boxed.keep hne e4 K5))
          go_wp2
          refine bodyPost_ret (v := .slice A5 f5.length c5) (by simp [results, Tryz.results96, go_sem]) rfl ?_
          exact ⟨A5, c5, f5, rfl, R5, K_trans (K_trans (K_trans (K_trans (K_trans (K0 kW) K1) K2) kd) K3) (K_trans (K0 K4) K5), Q5⟩
        | ok s r2 =>
          rw [h2] at H2
          rw [show Ps.bind (Ps.timeP (Ps.orP q N) n) (fun g => Ps.ret (bin 19 0 0 0 t g)) r' = .ok (bin 19 0 0 0 t s) r2 by simp only [Ps.bind, h2, Ps.ret]]
          clear h2
          go_enter Tryz.func96, Tryz.ntmps96
          go_wp2_with (first
            | (go_at_call 114; (with_reducible refine H1'.out.mono ?_); rintro e w1 ⟨A1, c1, f1, rfl, R1, K1, G1, L1, V1⟩; have HV1 := Lib.hid V1; clear V1; have cB : w1.cell? ⟨w.heap.size, 0, none⟩ = some E.ptr := bW.keep hne K1; have HTK := Lib.hid (take_yes_any hE ⟨#[117, 110, 116, 105, 108]⟩ (by decide) L1))
            | (go_at_call 67; (with_reducible refine HTK.out.mono ?_); rintro e w2 ⟨rfl, L2, K2⟩))
          have e0 : w2.drew.cell? ⟨w.heap.size, 0, none⟩ = some E.ptr := Boxed.keep hne cB (K_trans K2 (K0 (Keep.refl NoF w2).drew))
          have kd : E.K w2 w2.drew := K0 (Keep.refl NoF w2).drew
          have H3 := Lib.hid (H2.out w2.drew _ (L2.keep (Keep.refl NoF w2).drew))
          go_region_held3 (fun w' => w'.cell? ⟨w.heap.size, 0, none⟩ = some E.ptr)
            (first | with_reducible exact e0 | with_reducible exact e3 | with_reducible exact e4 | with_reducible exact e5)
            (first
              | (go_at_call 96; (with_reducible refine H3.out.mono ?_); rintro e w3 ⟨A3, c3, f3, rfl, R3, K3, G3, L3, V3⟩; have HV3 := Lib.hid V3; clear V3; have e3 : w3.cell? ⟨w.heap.size, 0, none⟩ = some E.ptr := Boxed.keep hne e0 K3; have H4 := Lib.hid (b2_Until w3 A1 c1 f1 A3 c3 f3 L3.lt (((R1.keep K2).keep kd).keep K3) R3))
              | (go_at_call 118; (with_reducible refine H4.out.mono ?_); rintro e w4 ⟨A4, c4, rfl, R4, K4⟩; have e4 : w4.cell? ⟨w.heap.size, 0, none⟩ = some E.ptr := Boxed.keep hne e3 (K0 K4); have H5 := Lib.hid (keep2 (L0 := L) hE (L3.keep K4) ⟨by decide, by decide, G1, G3⟩ HV1.out HV3.out R4))
              | (go_at_call 68; (with_reducible refine H5.out.mono ?_); rintro e w5 ⟨A5, c5, f5, rfl, R5, K5, Q5⟩; have e5 : w5.cell? ⟨w.heap.size, 0, none⟩ = some E.ptr := Boxed.keep hne e4 K5))
          go_wp2
          refine bodyPost_ret (v := .slice A5 f5.length c5) (by simp [results, Tryz.results96, go_sem]) rfl ?_
          exact ⟨A5, c5, f5, rfl, R5, K_trans (K_trans (K_trans (K_trans (K_trans (K0 kW) K1) K2) kd) K3) (K_trans (K0 K4) K5), Q5⟩
      · have hnu : ∀ r', r ≠ Ps.wUntil :: r' := fun r' e => hu ⟨r', e⟩
        have HNU := Lib.hid hnu
        by_cases hs : ∃ r', r = Ps.wSince :: r'
        · obtain ⟨r', rfl⟩ := hs
          have hr' : r'.length < n := by simp at hr; omega
          rw [t2 r' rfl]
          have H2 := Lib.hid fun w' L' (h : Live E w' r' L') => HIH.out r' w' L' hr' trivial h
          clear t1 t2 t3 hr hr' HIH hnu hu
          cases h2 : Ps.timeP (Ps.orP q N) n r' with
          | bad r2 x =>
            rw [h2] at H2
            rw [show Ps.bind (Ps.timeP (Ps.orP q N) n) (fun g => Ps.ret (bin 21 0 0 0 t g)) r' = .bad r2 x by simp only [Ps.bind, h2]]
            clear h2
            go_enter Tryz.func96, Tryz.ntmps96
            go_wp2_with (first
              | (go_at_call 114; (with_reducible refine H1'.out.mono ?_); rintro e w1 ⟨A1, c1, f1, rfl, R1, K1, G1, L1, V1⟩; clear V1; have cB : w1.cell? ⟨w.heap.size, 0, none⟩ = some E.ptr := bW.keep hne K1; have HTK := Lib.hid (take_no_any hE ⟨#[117, 110, 116, 105, 108]⟩ L1 HNU.out))
              | (go_at_call 67; (with_reducible refine HTK.out.mono ?_); rintro e w0 ⟨rfl, K00⟩; have cB0 : w0.cell? ⟨w.heap.size, 0, none⟩ = some E.ptr := K00.cellv cB (fun h => h); have HTK2 := Lib.hid (take_yes_any hE ⟨#[115, 105, 110, 99, 101]⟩ (by decide) (L1.keep K00)))
              | (go_at_call 67; (with_reducible refine HTK2.out.mono ?_); rintro e w2 ⟨rfl, L2, K20⟩; have K2 := K_trans (K0 K00) K20))
            have e0 : w2.drew.cell? ⟨w.heap.size, 0, none⟩ = some E.ptr := Boxed.keep hne cB (K_trans K2 (K0 (Keep.refl NoF w2).drew))
            have kd : E.K w2 w2.drew := K0 (Keep.refl NoF w2).drew
            have H3 := Lib.hid (H2.out w2.drew _ (L2.keep (Keep.refl NoF w2).drew))
            go_region_held3 (fun w' => w'.cell? ⟨w.heap.size, 0, none⟩ = some E.ptr)
              (first | with_reducible exact e0 | with_reducible exact e3 | with_reducible exact e4 | with_reducible exact e5)
              (first
                | (go_at_call 96; (with_reducible refine H3.out.mono ?_); rintro e w3 ⟨A3, c3, f3, rfl, R3, K3, L3, D3⟩; have e3 : w3.cell? ⟨w.heap.size, 0, none⟩ = some E.ptr := Boxed.keep hne e0 K3; have H4 := Lib.hid (b2_Since w3 A1 c1 f1 A3 c3 f3 D3.lt (((R1.keep K2).keep kd).keep K3) R3))
                | (go_at_call 119; (with_reducible refine H4.out.mono ?_); rintro e w4 ⟨A4, c4, rfl, R4, K4⟩; have e4 : w4.cell? ⟨w.heap.size, 0, none⟩ = some E.ptr := Boxed.keep hne e3 (K0 K4); have H5 := Lib.hid (keepD (L0 := L) hE (D3.keep K4) R4))
                | (go_at_call 68; (with_reducible refine H5.out.mono ?_); rintro e w5 ⟨A5, c5, f5, rfl, R5, K5, Q5⟩; have e5 : w5.cell? ⟨w.heap.size, 0, none⟩ = some E.ptr := Boxed.keep hne e4 K5))
            go_wp2
            refine bodyPost_ret (v := .slice A5 f5.length c5) (by simp [results, Tryz.results96, go_sem]) rfl ?_
            exact ⟨A5, c5, f5, rfl, R5, K_trans (K_trans (K_trans (K_trans (K_trans (K0 kW) K1) K2) kd) K3) (K_trans (K0 K4) K5), Q5⟩
          | ok s r2 =>
            rw [h2] at H2
            rw [show Ps.bind (Ps.timeP (Ps.orP q N) n) (fun g => Ps.ret (bin 21 0 0 0 t g)) r' = .ok (bin 21 0 0 0 t s) r2 by simp only [Ps.bind, h2, Ps.ret]]
            clear h2
            go_enter Tryz.func96, Tryz.ntmps96
            go_wp2_with (first
              | (go_at_call 114; (with_reducible refine H1'.out.mono ?_); rintro e w1 ⟨A1, c1, f1, rfl, R1, K1, G1, L1, V1⟩; have HV1 := Lib.hid V1; clear V1; have cB : w1.cell? ⟨w.heap.size, 0, none⟩ = some E.ptr := bW.keep hne K1; have HTK := Lib.hid (take_no_any hE ⟨#[117, 110, 116, 105, 108]⟩ L1 HNU.out))
              | (go_at_call 67; (with_reducible refine HTK.out.mono ?_); rintro e w0 ⟨rfl, K00⟩; have cB0 : w0.cell? ⟨w.heap.size, 0, none⟩ = some E.ptr := K00.cellv cB (fun h => h); have HTK2 := Lib.hid (take_yes_any hE ⟨#[115, 105, 110, 99, 101]⟩ (by decide) (L1.keep K00)))
              | (go_at_call 67; (with_reducible refine HTK2.out.mono ?_); rintro e w2 ⟨rfl, L2, K20⟩; have K2 := K_trans (K0 K00) K20))
            have e0 : w2.drew.cell? ⟨w.heap.size, 0, none⟩ = some E.ptr := Boxed.keep hne cB (K_trans K2 (K0 (Keep.refl NoF w2).drew))
            have kd : E.K w2 w2.drew := K0 (Keep.refl NoF w2).drew
            have H3 := Lib.hid (H2.out w2.drew _ (L2.keep (Keep.refl NoF w2).drew))
            go_region_held3 (fun w' => w'.cell? ⟨w.heap.size, 0, none⟩ = some E.ptr)
              (first | with_reducible exact e0 | with_reducible exact e3 | with_reducible exact e4 | with_reducible exact e5)
              (first
                | (go_at_call 96; (with_reducible refine H3.out.mono ?_); rintro e w3 ⟨A3, c3, f3, rfl, R3, K3, G3, L3, V3⟩; have HV3 := Lib.hid V3; clear V3; have e3 : w3.cell? ⟨w.heap.size, 0, none⟩ = some E.ptr := Boxed.keep hne e0 K3; have H4 := Lib.hid (b2_Since w3 A1 c1 f1 A3 c3 f3 L3.lt (((R1.keep K2).keep kd).keep K3) R3))
                | (go_at_call 119; (with_reducible refine H4.out.mono ?_); rintro e w4 ⟨A4, c4, rfl, R4, K4⟩; have e4 : w4.cell? ⟨w.heap.size, 0, none⟩ = some E.ptr := Boxed.keep hne e3 (K0 K4); have H5 := Lib.hid (keep2 (L0 := L) hE (L3.keep K4) ⟨by decide, by decide, G1, G3⟩ HV1.out HV3.out R4))
                | (go_at_call 68; (with_reducible refine H5.out.mono ?_); rintro e w5 ⟨A5, c5, f5, rfl, R5, K5, Q5⟩; have e5 : w5.cell? ⟨w.heap.size, 0, none⟩ = some E.ptr := Boxed.keep hne e4 K5))
            go_wp2
            refine bodyPost_ret (v := .slice A5 f5.length c5) (by simp [results, Tryz.results96, go_sem]) rfl ?_
            exact ⟨A5, c5, f5, rfl, R5, K_trans (K_trans (K_trans (K_trans (K_trans (K0 kW) K1) K2) kd) K3) (K_trans (K0 K4) K5), Q5⟩
        · have hns : ∀ r', r ≠ Ps.wSince :: r' := fun r' e => hs ⟨r', e⟩
          have HNS := Lib.hid hns
          rw [t3 hnu hns]
          clear t1 t2 t3 hr HIH hnu hns hu hs
          go_enter Tryz.func96, Tryz.ntmps96
          go_wp2_with (first
            | (go_at_call 114; (with_reducible refine H1'.out.mono ?_); rintro e w1 ⟨A1, c1, f1, rfl, R1, K1, G1, L1, V1⟩; have HV1 := Lib.hid V1; clear V1; have cB : w1.cell? ⟨w.heap.size, 0, none⟩ = some E.ptr := bW.keep hne K1; have HTK := Lib.hid (take_no_any hE ⟨#[117, 110, 116, 105, 108]⟩ L1 HNU.out))
            | (go_at_call 67; (with_reducible refine HTK.out.mono ?_); rintro e w0 ⟨rfl, K00⟩; have cB0 : w0.cell? ⟨w.heap.size, 0, none⟩ = some E.ptr := K00.cellv cB (fun h => h); have HTK2 := Lib.hid (take_no_any hE ⟨#[115, 105, 110, 99, 101]⟩ (L1.keep K00) HNS.out))
            | (go_at_call 67; (with_reducible refine HTK2.out.mono ?_); rintro e w2 ⟨rfl, K20⟩))
          refine bodyPost_ret (v := .slice A1 f1.length c1) (by simp [results, Tryz.results96, go_sem]) rfl ?_
          exact ⟨A1, c1, f1, rfl, (R1.keep (K0 K00)).keep (K0 K20), K_trans (K_trans (K_trans (K0 kW) K1) (K0 K00)) (K0 K20), G1, (L1.keep K00).keep K20, HV1.out⟩
end
end Go.Proofs.YtbidfbojealmlaaGreatDoor
