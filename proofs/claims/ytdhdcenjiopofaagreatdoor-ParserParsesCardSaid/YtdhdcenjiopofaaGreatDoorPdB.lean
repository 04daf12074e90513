/- The reference's reader: parts at an error; and, or, formula. Conditions: the reader lies as it is built; what their operands do. The reference's reader: implies and time. Conditions: the reader lies as it is built; what their operands do. The reference's reader: number. Conditions: the reader lies as it is built. The reference's reader: number and bar, whether there is an error or not. Conditions: the reader lies as it is built; what formula does. The reference's reader: group. Conditions: the reader lies as it is built. No condition. -/
import Derived.Test.YtdhdcenjiopofaaGreatDoorPdA
set_option linter.unusedVariables false
set_option linter.unusedSimpArgs false
namespace Go.Proofs.YtdhdcenjiopofaaGreatDoor
open Go.RowKit
open Fm (Nd put ins)
open Ps (Res)

/-- A part that is called at an error. -/
def RNil (E : RE) (F : Nat) : Prop := ∀ (w : World) (nx : Nat) (dv : Value) (o : List Nd) (bad x : Nat), 0 < x → RSt E w nx dv o bad x → Calls Tryz.prog F #[E.ptr] w fun e w' => e = .returned (.int .i64 0) ∧ w' = w
/-- A part at any state. -/
theorem RPart.all {E : RE} {F N : Nat} {α : Type} {q : Ps.P Fm.Form} (HP : RPart E F q N) (HN : RNil E F) {w : World} {st : Res α} {of : α → List Nd} {nb ob : Nat} (h : SR E w st of nb ob) (hn : ∀ a r, st = .ok a r → r.length < N) (h1 : nb ≤ 900000) (h2 : ob ≤ 900000) :
    Calls Tryz.prog F #[E.ptr] w fun e w' => ∃ v : Nat, e = .returned (.int .i64 (v : Int)) ∧ SR E w' (thenP st q) (fun p => (ins p.2 (of p.1)).2) nb ob ∧ (∀ p r, thenP st q = .ok p r → v = (ins p.2 (of p.1)).1) := by
  cases st with
  | bad r x =>
    have hd := h
    obtain ⟨h0, nx, dv, o, _, _, hst⟩ := h
    refine (HN w nx dv o _ x h0 hst).mono ?_
    rintro e w' ⟨rfl, rfl⟩
    exact ⟨0, rfl, hd, fun _ _ e => by cases e⟩
  | ok a ts =>
    refine (HP ts w (of a) nb ob (hn a ts rfl) h1 h2 h).mono ?_
    rintro e w' ⟨v, rfl, hs, hv⟩
    refine ⟨v, rfl, ?_, ?_⟩
    · cases hq : q ts with
      | ok t r => rw [hq] at hs; exact (by simp only [thenP, hq]; exact hs)
      | bad r x => rw [hq] at hs; exact (by simp only [thenP, hq]; exact hs)
    · intro p r e
      cases hq : q ts with
      | ok t r' =>
        simp only [thenP, hq] at e
        cases e
        exact hv t r hq
      | bad r' x => simp only [thenP, hq] at e; cases e
section
set_option maxRecDepth 100000
set_option maxHeartbeats 2000000
variable {E : RE}
theorem rprefix_nil : RNil E 116 := fun w nx dv o bad x hx h => by
  have c7 := h.c7
  have hp : ((x : Int) != 0) = true := by simp; omega
  clear h
  go_enter Tryz.func116, Tryz.ntmps116
  go_wp2
  refine bodyPost_ret (v := .int .i64 0) (by simp [results, Tryz.results116, go_sem]) rfl ?_
  exact ⟨rfl, rfl⟩
theorem rand_nil : RNil E 101 := fun w nx dv o bad x hx h => by
  have HP := Lib.hid (rprefix_nil w nx dv o bad x hx h)
  have HT0 := Lib.hid (rtakes_dead h hx ⟨#[38]⟩)
  clear h
  go_enter Tryz.func101, Tryz.ntmps101
  go_wp2_with (go_at_call 116; (with_reducible refine HP.out.mono ?_); rintro e w' ⟨rfl, hw'⟩; obtain rfl := hw'.symm)
  go_loopg [3] 1 (fun gk fv wr => fv = .int .i64 0 ∧ wr = w)
  case atStart => exact ⟨rfl, rfl⟩
  case round =>
    obtain ⟨rfl, rfl⟩ := hrel
    go_wp2_with (go_at_call 44; (with_reducible refine HT0.out.mono ?_); rintro e w' ⟨rfl, hw'⟩; obtain rfl := hw'.symm)
    refine bodyPost_ret (v := .int .i64 0) (by simp [results, Tryz.results101, go_sem]) rfl ?_
    exact ⟨rfl, rfl⟩
theorem ror_nil : RNil E 86 := fun w nx dv o bad x hx h => by
  have HP := Lib.hid (rand_nil w nx dv o bad x hx h)
  have HT0 := Lib.hid (rtakes_dead h hx ⟨#[124]⟩)
  clear h
  go_enter Tryz.func86, Tryz.ntmps86
  go_wp2_with (go_at_call 101; (with_reducible refine HP.out.mono ?_); rintro e w' ⟨rfl, hw'⟩; obtain rfl := hw'.symm)
  go_loopg [3] 1 (fun gk fv wr => fv = .int .i64 0 ∧ wr = w)
  case atStart => exact ⟨rfl, rfl⟩
  case round =>
    obtain ⟨rfl, rfl⟩ := hrel
    go_wp2_with (go_at_call 44; (with_reducible refine HT0.out.mono ?_); rintro e w' ⟨rfl, hw'⟩; obtain rfl := hw'.symm)
    refine bodyPost_ret (v := .int .i64 0) (by simp [results, Tryz.results86, go_sem]) rfl ?_
    exact ⟨rfl, rfl⟩
theorem rtime_nil : RNil E 67 := fun w nx dv o bad x hx h => by
  have HP := Lib.hid (ror_nil w nx dv o bad x hx h)
  have HT0 := Lib.hid (rtakes_dead h hx ⟨#[117, 110, 116, 105, 108]⟩)
  have HT1 := Lib.hid (rtakes_dead h hx ⟨#[115, 105, 110, 99, 101]⟩)
  clear h
  go_enter Tryz.func67, Tryz.ntmps67
  go_wp2_with (first
    | (go_at_call 86; (with_reducible refine HP.out.mono ?_); rintro e w' ⟨rfl, hw'⟩; obtain rfl := hw'.symm)
    | (go_at_call 44; (with_reducible refine HT0.out.mono ?_); rintro e w' ⟨rfl, hw'⟩; obtain rfl := hw'.symm)
    | (go_at_call 44; (with_reducible refine HT1.out.mono ?_); rintro e w' ⟨rfl, hw'⟩; obtain rfl := hw'.symm))
  refine bodyPost_ret (v := .int .i64 0) (by simp [results, Tryz.results67, go_sem]) rfl ?_
  exact ⟨rfl, rfl⟩
theorem rimplies_nil : RNil E 43 := fun w nx dv o bad x hx h => by
  have HP := Lib.hid (rtime_nil w nx dv o bad x hx h)
  have HT0 := Lib.hid (rtakes_dead h hx ⟨#[45, 62]⟩)
  clear h
  go_enter Tryz.func43, Tryz.ntmps43
  go_wp2_with (first
    | (go_at_call 67; (with_reducible refine HP.out.mono ?_); rintro e w' ⟨rfl, hw'⟩; obtain rfl := hw'.symm)
    | (go_at_call 44; (with_reducible refine HT0.out.mono ?_); rintro e w' ⟨rfl, hw'⟩; obtain rfl := hw'.symm))
  refine bodyPost_ret (v := .int .i64 0) (by simp [results, Tryz.results43, go_sem]) rfl ?_
  exact ⟨rfl, rfl⟩
theorem rformula_nil : RNil E 21 := fun w nx dv o bad x hx h => by
  have HP := Lib.hid (rimplies_nil w nx dv o bad x hx h)
  have HT0 := Lib.hid (rtakes_dead h hx ⟨#[60, 45, 62]⟩)
  clear h
  go_enter Tryz.func21, Tryz.ntmps21
  go_wp2_with (go_at_call 43; (with_reducible refine HP.out.mono ?_); rintro e w' ⟨rfl, hw'⟩; obtain rfl := hw'.symm)
  go_loopg [3] 1 (fun gk fv wr => fv = .int .i64 0 ∧ wr = w)
  case atStart => exact ⟨rfl, rfl⟩
  case round =>
    obtain ⟨rfl, rfl⟩ := hrel
    go_wp2_with (go_at_call 44; (with_reducible refine HT0.out.mono ?_); rintro e w' ⟨rfl, hw'⟩; obtain rfl := hw'.symm)
    refine bodyPost_ret (v := .int .i64 0) (by simp [results, Tryz.results21, go_sem]) rfl ?_
    exact ⟨rfl, rfl⟩
end
/-- The state at a loop's head. -/
def RLS (E : RE) (w : World) (o : List Nd) (nb ob : Nat) (res : Res Fm.Form) (op : Int) (s : ByteArray) (p : Ps.P Fm.Form) (m v : Nat) : Prop :=
  (∃ t r, res = Ps.loopP op s p m t r ∧ r.length < m ∧ SR E w (Res.ok () r) (fun _ => (ins t o).2) nb ob ∧ v = (ins t o).1) ∨ (∃ r x, res = .bad r x ∧ SR E w (Res.bad r x : Res Unit) (fun _ => o) nb ob)
theorem RLS.first {E : RE} {w : World} {o : List Nd} {nb ob v N : Nat} {op : Int} {s : ByteArray} {p : Ps.P Fm.Form} (hp : Ps.Fine p) {ts : List ByteArray} (hlt : ts.length < N)
    (h : SR E w (p ts) (fun t => (ins t o).2) nb ob) (hv : ∀ t r, p ts = .ok t r → v = (ins t o).1) : RLS E w o nb ob (Ps.chainP op s p N ts) op s p N v := by
  unfold Ps.chainP Ps.bind
  cases h1 : p ts with
  | ok t r =>
    rw [h1] at h
    have := hp.shr.ok h1
    exact .inl ⟨t, r, rfl, by omega, h, hv t r h1⟩
  | bad r x =>
    rw [h1] at h
    exact .inr ⟨r, x, rfl, h⟩
section
set_option maxRecDepth 100000
set_option maxHeartbeats 2000000
variable {E : RE}
theorem rand_any (hE : E.Ok) {p : Ps.P Fm.Form} (hp : Ps.Fine p) {N : Nat} (HT : RPart E 116 p N) : RPart E 101 (Ps.chainP 5 Ps.wAnd p N) N := by
  intro ts w o nb ob hlt hnb hob hl
  have HP := Lib.hid hp
  have HPT := Lib.hid HT
  have H1 := Lib.hid (HT ts w o nb ob hlt hnb hob hl)
  have HLT := Lib.hid hlt
  clear hp HT hl hlt
  generalize hres : Ps.chainP 5 Ps.wAnd p N ts = res
  have HR := Lib.hid hres
  clear hres
  go_enter Tryz.func101, Tryz.ntmps101
  go_wp2_with (go_at_call 116; (with_reducible refine H1.out.mono ?_); rintro e w1 ⟨v1, rfl, S1, V1⟩)
  have Q1 : Hid (RLS E w1 o nb ob res 5 Ps.wAnd p N v1) := Lib.hid (by rw [← HR.out]; exact RLS.first HP.out HLT.out S1 V1)
  clear S1 V1 H1 HR HLT
  go_loopg [3] N (fun gk fv wr => ∃ v : Nat, fv = .int .i64 (v : Int) ∧ gk ≤ N ∧ Hid (RLS E wr o nb ob res 5 Ps.wAnd p gk v))
  case atStart => exact ⟨v1, rfl, Nat.le_refl _, Q1⟩
  case round =>
    clear Q1
    obtain ⟨v, rfl, hgk, Q⟩ := hrel
    rcases Q.out with ⟨t, r, q1, q2, q3, q4⟩ | ⟨r, x, q1, q2⟩
    · obtain ⟨m, rfl⟩ : ∃ m, gk = m + 1 := ⟨gk - 1, by omega⟩
      have HV := Lib.hid q4
      clear Q q4
      by_cases hw : ∃ r', r = Ps.wAnd :: r'
      · obtain ⟨r', rfl⟩ := hw
        have hr' : r'.length < N := by simp at q2; omega
        have HTK := Lib.hid (rtakes_yes hE ⟨#[38]⟩ q3 (by omega) (by simp [takes]; rfl))
        have H2 := Lib.hid fun w' (h : SR E w' (Res.ok () r') (fun _ => (ins t o).2) (nb - 8) (ob - 8)) => HPT.out.all rprefix_nil h (fun a r e => by cases e; exact hr') (by omega) (by omega)
        have hob8 : 8 ≤ ob := by have := q3.2.2; omega
        have hq2 := Lib.hid q2
        have hq1 := Lib.hid q1
        clear q1 q2 q3 hr'
        go_wp2_with (first
          | (go_at_call 44; (with_reducible refine HTK.out.mono ?_); rintro e w2 ⟨rfl, S2⟩; have H3 := Lib.hid (H2.out w2 S2); clear S2)
          | (go_at_call 116; (with_reducible refine H3.out.mono ?_); rintro e w3 ⟨v3, rfl, S3, V3⟩; have HV3 := Lib.hid V3; have H4 := Lib.hid (rnode_all hE S3 (by omega) ⟨5, 0, 0, 0, (v : Int), (v3 : Int)⟩); clear S3 V3)
          | (go_at_call 45; (with_reducible refine H4.out.mono ?_); rintro e w4 ⟨v4, rfl, S4, V4⟩; have HS4 := Lib.hid S4; have HV4 := Lib.hid V4; clear S4 V4))
        go_roundg m
        case rel =>
          refine ⟨v4, rfl, by omega, Lib.hid ?_⟩
          have S4 := HS4.out
          cases h2 : p r' with
          | bad r2 x =>
            simp only [thenP, h2] at S4
            exact .inr ⟨r2, x, hq1.out.trans (loop_yes_bad h2), SR.mono (st := (Res.bad r2 x : Res Unit)) (of := fun _ => o) S4 (by omega) (by omega)⟩
          | ok s2 r2 =>
            have hp2 := HP.out.shr.ok h2
            have e3 := HV3.out ((), s2) r2 (by simp only [thenP, h2])
            have e4 := HV4.out ((), s2) r2 (by simp only [thenP, h2])
            simp only [thenP, h2] at S4
            have hq := hq2.out
            simp only [List.length_cons] at hq
            have hI : ins (Fm.Form.bin 5 0 0 0 t s2) o = put ⟨5, 0, 0, 0, (v : Int), (v3 : Int)⟩ (ins s2 (ins t o).2).2 := by rw [HV.out, e3]; rfl
            refine .inl ⟨_, r2, hq1.out.trans (loop_yes_ok h2), by omega, ?_, ?_⟩
            · rw [hI]
              exact ⟨S4.1, Nat.le_trans S4.2.1 (by omega), Nat.le_trans S4.2.2 (by omega)⟩
            · rw [hI]; exact e4
        case measure => omega
      · have hno : ∀ r', r ≠ Ps.wAnd :: r' := fun r' e => hw ⟨r', e⟩
        have QR : Hid (res = .ok t r) := Lib.hid (q1.trans (loop_no hno))
        have HTK := Lib.hid (rtakes_no hE ⟨#[38]⟩ (by decide) q3 (by omega) (by cases r with | nil => rfl | cons y r => simp only [takes, decide_eq_false_iff_not]; exact fun e => hno r (by rw [e]; rfl)))
        clear q1 q3 hno hw
        go_wp2_with (go_at_call 44; (with_reducible refine HTK.out.mono ?_); rintro e w2 ⟨rfl, S2⟩; have HS2 := Lib.hid S2; clear S2)
        refine bodyPost_ret (v := .int .i64 (v : Int)) (by simp [results, Tryz.results101, go_sem]) rfl ?_
        rw [QR.out]
        exact ⟨v, rfl, HS2.out, fun t' r' e => by cases e; exact HV.out⟩
    · have QR : Hid (res = .bad r x) := Lib.hid q1
      have HTK := Lib.hid (rtakes_no hE ⟨#[38]⟩ (by decide) q2 (by omega) rfl)
      clear q1 q2 Q
      go_wp2_with (go_at_call 44; (with_reducible refine HTK.out.mono ?_); rintro e w2 ⟨rfl, S2⟩; have HS2 := Lib.hid S2; clear S2)
      refine bodyPost_ret (v := .int .i64 (v : Int)) (by simp [results, Tryz.results101, go_sem]) rfl ?_
      rw [QR.out]
      exact ⟨v, rfl, HS2.out, fun t' r' e => by cases e⟩
theorem ror_any (hE : E.Ok) {p : Ps.P Fm.Form} (hp : Ps.Fine p) {N : Nat} (HT : RPart E 101 p N) : RPart E 86 (Ps.chainP 6 Ps.wOr p N) N := by
  intro ts w o nb ob hlt hnb hob hl
  have HP := Lib.hid hp
  have HPT := Lib.hid HT
  have H1 := Lib.hid (HT ts w o nb ob hlt hnb hob hl)
  have HLT := Lib.hid hlt
  clear hp HT hl hlt
  generalize hres : Ps.chainP 6 Ps.wOr p N ts = res
  have HR := Lib.hid hres
  clear hres
  go_enter Tryz.func86, Tryz.ntmps86
  go_wp2_with (go_at_call 101; (with_reducible refine H1.out.mono ?_); rintro e w1 ⟨v1, rfl, S1, V1⟩)
  have Q1 : Hid (RLS E w1 o nb ob res 6 Ps.wOr p N v1) := Lib.hid (by rw [← HR.out]; exact RLS.first HP.out HLT.out S1 V1)
  clear S1 V1 H1 HR HLT
  go_loopg [3] N (fun gk fv wr => ∃ v : Nat, fv = .int .i64 (v : Int) ∧ gk ≤ N ∧ Hid (RLS E wr o nb ob res 6 Ps.wOr p gk v))
  case atStart => exact ⟨v1, rfl, Nat.le_refl _, Q1⟩
  case round =>
    clear Q1
    obtain ⟨v, rfl, hgk, Q⟩ := hrel
    rcases Q.out with ⟨t, r, q1, q2, q3, q4⟩ | ⟨r, x, q1, q2⟩
    · obtain ⟨m, rfl⟩ : ∃ m, gk = m + 1 := ⟨gk - 1, by omega⟩
      have HV := Lib.hid q4
      clear Q q4
      by_cases hw : ∃ r', r = Ps.wOr :: r'
      · obtain ⟨r', rfl⟩ := hw
        have hr' : r'.length < N := by simp at q2; omega
        have HTK := Lib.hid (rtakes_yes hE ⟨#[124]⟩ q3 (by omega) (by simp [takes]; rfl))
        have H2 := Lib.hid fun w' (h : SR E w' (Res.ok () r') (fun _ => (ins t o).2) (nb - 8) (ob - 8)) => HPT.out.all rand_nil h (fun a r e => by cases e; exact hr') (by omega) (by omega)
        have hob8 : 8 ≤ ob := by have := q3.2.2; omega
        have hq2 := Lib.hid q2
        have hq1 := Lib.hid q1
        clear q1 q2 q3 hr'
        go_wp2_with (first
          | (go_at_call 44; (with_reducible refine HTK.out.mono ?_); rintro e w2 ⟨rfl, S2⟩; have H3 := Lib.hid (H2.out w2 S2); clear S2)
          | (go_at_call 101; (with_reducible refine H3.out.mono ?_); rintro e w3 ⟨v3, rfl, S3, V3⟩; have HV3 := Lib.hid V3; have H4 := Lib.hid (rnode_all hE S3 (by omega) ⟨6, 0, 0, 0, (v : Int), (v3 : Int)⟩); clear S3 V3)
          | (go_at_call 45; (with_reducible refine H4.out.mono ?_); rintro e w4 ⟨v4, rfl, S4, V4⟩; have HS4 := Lib.hid S4; have HV4 := Lib.hid V4; clear S4 V4))
        go_roundg m
        case rel =>
          refine ⟨v4, rfl, by omega, Lib.hid ?_⟩
          have S4 := HS4.out
          cases h2 : p r' with
          | bad r2 x =>
            simp only [thenP, h2] at S4
            exact .inr ⟨r2, x, hq1.out.trans (loop_yes_bad h2), SR.mono (st := (Res.bad r2 x : Res Unit)) (of := fun _ => o) S4 (by omega) (by omega)⟩
          | ok s2 r2 =>
            have hp2 := HP.out.shr.ok h2
            have e3 := HV3.out ((), s2) r2 (by simp only [thenP, h2])
            have e4 := HV4.out ((), s2) r2 (by simp only [thenP, h2])
            simp only [thenP, h2] at S4
            have hq := hq2.out
            simp only [List.length_cons] at hq
            have hI : ins (Fm.Form.bin 6 0 0 0 t s2) o = put ⟨6, 0, 0, 0, (v : Int), (v3 : Int)⟩ (ins s2 (ins t o).2).2 := by rw [HV.out, e3]; rfl
            refine .inl ⟨_, r2, hq1.out.trans (loop_yes_ok h2), by omega, ?_, ?_⟩
            · rw [hI]
              exact ⟨S4.1, Nat.le_trans S4.2.1 (by omega), Nat.le_trans S4.2.2 (by omega)⟩
            · rw [hI]; exact e4
        case measure => omega
      · have hno : ∀ r', r ≠ Ps.wOr :: r' := fun r' e => hw ⟨r', e⟩
        have QR : Hid (res = .ok t r) := Lib.hid (q1.trans (loop_no hno))
        have HTK := Lib.hid (rtakes_no hE ⟨#[124]⟩ (by decide) q3 (by omega) (by cases r with | nil => rfl | cons y r => simp only [takes, decide_eq_false_iff_not]; exact fun e => hno r (by rw [e]; rfl)))
        clear q1 q3 hno hw
        go_wp2_with (go_at_call 44; (with_reducible refine HTK.out.mono ?_); rintro e w2 ⟨rfl, S2⟩; have HS2 := Lib.hid S2; clear S2)
        refine bodyPost_ret (v := .int .i64 (v : Int)) (by simp [results, Tryz.results86, go_sem]) rfl ?_
        rw [QR.out]
        exact ⟨v, rfl, HS2.out, fun t' r' e => by cases e; exact HV.out⟩
    · have QR : Hid (res = .bad r x) := Lib.hid q1
      have HTK := Lib.hid (rtakes_no hE ⟨#[124]⟩ (by decide) q2 (by omega) rfl)
      clear q1 q2 Q
      go_wp2_with (go_at_call 44; (with_reducible refine HTK.out.mono ?_); rintro e w2 ⟨rfl, S2⟩; have HS2 := Lib.hid S2; clear S2)
      refine bodyPost_ret (v := .int .i64 (v : Int)) (by simp [results, Tryz.results86, go_sem]) rfl ?_
      rw [QR.out]
      exact ⟨v, rfl, HS2.out, fun t' r' e => by cases e⟩
theorem rformula_any (hE : E.Ok) {p : Ps.P Fm.Form} (hp : Ps.Fine p) {N : Nat} (HT : RPart E 43 p N) : RPart E 21 (Ps.chainP 8 Ps.wIff p N) N := by
  intro ts w o nb ob hlt hnb hob hl
  have HP := Lib.hid hp
  have HPT := Lib.hid HT
  have H1 := Lib.hid (HT ts w o nb ob hlt hnb hob hl)
  have HLT := Lib.hid hlt
  clear hp HT hl hlt
  generalize hres : Ps.chainP 8 Ps.wIff p N ts = res
  have HR := Lib.hid hres
  clear hres
  go_enter Tryz.func21, Tryz.ntmps21
  go_wp2_with (go_at_call 43; (with_reducible refine H1.out.mono ?_); rintro e w1 ⟨v1, rfl, S1, V1⟩)
  have Q1 : Hid (RLS E w1 o nb ob res 8 Ps.wIff p N v1) := Lib.hid (by rw [← HR.out]; exact RLS.first HP.out HLT.out S1 V1)
  clear S1 V1 H1 HR HLT
  go_loopg [3] N (fun gk fv wr => ∃ v : Nat, fv = .int .i64 (v : Int) ∧ gk ≤ N ∧ Hid (RLS E wr o nb ob res 8 Ps.wIff p gk v))
  case atStart => exact ⟨v1, rfl, Nat.le_refl _, Q1⟩
  case round =>
    clear Q1
    obtain ⟨v, rfl, hgk, Q⟩ := hrel
    rcases Q.out with ⟨t, r, q1, q2, q3, q4⟩ | ⟨r, x, q1, q2⟩
    · obtain ⟨m, rfl⟩ : ∃ m, gk = m + 1 := ⟨gk - 1, by omega⟩
      have HV := Lib.hid q4
      clear Q q4
      by_cases hw : ∃ r', r = Ps.wIff :: r'
      · obtain ⟨r', rfl⟩ := hw
        have hr' : r'.length < N := by simp at q2; omega
        have HTK := Lib.hid (rtakes_yes hE ⟨#[60, 45, 62]⟩ q3 (by omega) (by simp [takes]; rfl))
        have H2 := Lib.hid fun w' (h : SR E w' (Res.ok () r') (fun _ => (ins t o).2) (nb - 8) (ob - 8)) => HPT.out.all rimplies_nil h (fun a r e => by cases e; exact hr') (by omega) (by omega)
        have hob8 : 8 ≤ ob := by have := q3.2.2; omega
        have hq2 := Lib.hid q2
        have hq1 := Lib.hid q1
        clear q1 q2 q3 hr'
        go_wp2_with (first
          | (go_at_call 44; (with_reducible refine HTK.out.mono ?_); rintro e w2 ⟨rfl, S2⟩; have H3 := Lib.hid (H2.out w2 S2); clear S2)
          | (go_at_call 43; (with_reducible refine H3.out.mono ?_); rintro e w3 ⟨v3, rfl, S3, V3⟩; have HV3 := Lib.hid V3; have H4 := Lib.hid (rnode_all hE S3 (by omega) ⟨8, 0, 0, 0, (v : Int), (v3 : Int)⟩); clear S3 V3)
          | (go_at_call 45; (with_reducible refine H4.out.mono ?_); rintro e w4 ⟨v4, rfl, S4, V4⟩; have HS4 := Lib.hid S4; have HV4 := Lib.hid V4; clear S4 V4))
        go_roundg m
        case rel =>
          refine ⟨v4, rfl, by omega, Lib.hid ?_⟩
          have S4 := HS4.out
          cases h2 : p r' with
          | bad r2 x =>
            simp only [thenP, h2] at S4
            exact .inr ⟨r2, x, hq1.out.trans (loop_yes_bad h2), SR.mono (st := (Res.bad r2 x : Res Unit)) (of := fun _ => o) S4 (by omega) (by omega)⟩
          | ok s2 r2 =>
            have hp2 := HP.out.shr.ok h2
            have e3 := HV3.out ((), s2) r2 (by simp only [thenP, h2])
            have e4 := HV4.out ((), s2) r2 (by simp only [thenP, h2])
            simp only [thenP, h2] at S4
            have hq := hq2.out
            simp only [List.length_cons] at hq
            have hI : ins (Fm.Form.bin 8 0 0 0 t s2) o = put ⟨8, 0, 0, 0, (v : Int), (v3 : Int)⟩ (ins s2 (ins t o).2).2 := by rw [HV.out, e3]; rfl
            refine .inl ⟨_, r2, hq1.out.trans (loop_yes_ok h2), by omega, ?_, ?_⟩
            · rw [hI]
              exact ⟨S4.1, Nat.le_trans S4.2.1 (by omega), Nat.le_trans S4.2.2 (by omega)⟩
            · rw [hI]; exact e4
        case measure => omega
      · have hno : ∀ r', r ≠ Ps.wIff :: r' := fun r' e => hw ⟨r', e⟩
        have QR : Hid (res = .ok t r) := Lib.hid (q1.trans (loop_no hno))
        have HTK := Lib.hid (rtakes_no hE ⟨#[60, 45, 62]⟩ (by decide) q3 (by omega) (by cases r with | nil => rfl | cons y r => simp only [takes, decide_eq_false_iff_not]; exact fun e => hno r (by rw [e]; rfl)))
        clear q1 q3 hno hw
        go_wp2_with (go_at_call 44; (with_reducible refine HTK.out.mono ?_); rintro e w2 ⟨rfl, S2⟩; have HS2 := Lib.hid S2; clear S2)
        refine bodyPost_ret (v := .int .i64 (v : Int)) (by simp [results, Tryz.results21, go_sem]) rfl ?_
        rw [QR.out]
        exact ⟨v, rfl, HS2.out, fun t' r' e => by cases e; exact HV.out⟩
    · have QR : Hid (res = .bad r x) := Lib.hid q1
      have HTK := Lib.hid (rtakes_no hE ⟨#[60, 45, 62]⟩ (by decide) q2 (by omega) rfl)
      clear q1 q2 Q
      go_wp2_with (go_at_call 44; (with_reducible refine HTK.out.mono ?_); rintro e w2 ⟨rfl, S2⟩; have HS2 := Lib.hid S2; clear S2)
      refine bodyPost_ret (v := .int .i64 (v : Int)) (by simp [results, Tryz.results21, go_sem]) rfl ?_
      rw [QR.out]
      exact ⟨v, rfl, HS2.out, fun t' r' e => by cases e⟩
end
end Go.Proofs.YtdhdcenjiopofaaGreatDoor
namespace Go.Proofs.YtdhdcenjiopofaaGreatDoor
open Go.RowKit
open Fm (Nd put ins)
open Ps (Res)

theorem SR.unit {E : RE} {w : World} {t : Fm.Form} {r : List ByteArray} {of : Fm.Form → List Nd} {nb ob : Nat} (h : SR E w (Res.ok t r) of nb ob) : SR E w (Res.ok () r) (fun _ => of t) nb ob := h
/-- A node with two operands, behind the second. -/
theorem bin_post {E : RE} {w : World} {t : Fm.Form} {q : Ps.P Fm.Form} {r' : List ByteArray} {o : List Nd} {nb ob v1 v3 v4 : Nat} {op : Int} {res : Res Fm.Form}
    (hok : ∀ g r2, q r' = .ok g r2 → res = .ok (Fm.Form.bin op 0 0 0 t g) r2) (hbad : ∀ r2 x, q r' = .bad r2 x → res = .bad r2 x) (hv : v1 = (ins t o).1)
    (h3 : ∀ p r, thenP (Res.ok () r') q = .ok p r → v3 = (ins p.2 ((fun _ : Unit => (ins t o).2) p.1)).1)
    (hs : SR E w (thenP (Res.ok () r') q) (fun a => (put ⟨op, 0, 0, 0, (v1 : Int), (v3 : Int)⟩ (ins a.2 ((fun _ : Unit => (ins t o).2) a.1)).2).2) (nb - 8) (ob - 8 + 1))
    (h4 : ∀ a r, thenP (Res.ok () r') q = .ok a r → v4 = (put ⟨op, 0, 0, 0, (v1 : Int), (v3 : Int)⟩ (ins a.2 ((fun _ : Unit => (ins t o).2) a.1)).2).1) (hob : 8 ≤ ob) : RPost E w res o nb ob (.returned (.int .i64 (v4 : Int))) := by
  cases h2 : q r' with
  | bad r2 x =>
    simp only [thenP, h2] at hs
    rw [hbad r2 x h2]
    exact ⟨v4, rfl, SR.mono (st := (Res.bad r2 x : Res Fm.Form)) (of := fun t => (ins t o).2) hs (by omega) (by omega), fun t r e => by cases e⟩
  | ok s2 r2 =>
    have e3 := h3 ((), s2) r2 (by simp only [thenP, h2])
    have e4 := h4 ((), s2) r2 (by simp only [thenP, h2])
    simp only [thenP, h2] at hs
    rw [hok s2 r2 h2]
    have hI : ins (Fm.Form.bin op 0 0 0 t s2) o = put ⟨op, 0, 0, 0, (v1 : Int), (v3 : Int)⟩ (ins s2 (ins t o).2).2 := by rw [hv, e3]; rfl
    refine ⟨v4, rfl, ⟨?_, Nat.le_trans hs.2.1 (by omega), ?_⟩, fun t' r e => by cases e; rw [hI]; exact e4⟩
    · show RLive E w r2 (ins (Fm.Form.bin op 0 0 0 t s2) o).2
      rw [hI]; exact hs.1
    · show (ins (Fm.Form.bin op 0 0 0 t s2) o).2.length + 8 * r2.length + 8 ≤ ob
      rw [hI]; exact Nat.le_trans hs.2.2 (by omega)
section
variable {p : Ps.P Fm.Form} {n : Nat} {t : Fm.Form} {ts r' : List ByteArray}
theorem imp_yes_ok {g : Fm.Form} {r2 : List ByteArray} (h : p ts = .ok t (Ps.wImp :: r')) (h2 : Ps.impP p n r' = .ok g r2) : Ps.impP p (n + 1) ts = .ok (Fm.Form.bin 7 0 0 0 t g) r2 := by
  simp only [Ps.impP, Ps.bind, h, Ps.take_yes, if_true, h2, Ps.ret]
theorem imp_yes_bad {r2 : List ByteArray} {x : Nat} (h : p ts = .ok t (Ps.wImp :: r')) (h2 : Ps.impP p n r' = .bad r2 x) : Ps.impP p (n + 1) ts = .bad r2 x := by
  simp only [Ps.impP, Ps.bind, h, Ps.take_yes, if_true, h2]
theorem imp_no (h : takes (p ts) Ps.wImp = false) : Ps.impP p (n + 1) ts = p ts := by
  cases hp : p ts with
  | bad r x => simp only [Ps.impP, Ps.bind, hp]
  | ok t r =>
    have hno : ∀ r', r ≠ Ps.wImp :: r' := by rintro r' rfl; rw [hp] at h; simp [takes] at h
    simp only [Ps.impP, Ps.bind, hp, take_not hno, Bool.false_eq_true, if_false, Ps.ret]
theorem until_yes_ok {g : Fm.Form} {r2 : List ByteArray} (h : p ts = .ok t (Ps.wUntil :: r')) (h2 : Ps.timeP p n r' = .ok g r2) : Ps.timeP p (n + 1) ts = .ok (Fm.Form.bin 19 0 0 0 t g) r2 := by
  simp only [Ps.timeP, Ps.bind, h, Ps.take_yes, if_true, h2, Ps.ret]
theorem until_yes_bad {r2 : List ByteArray} {x : Nat} (h : p ts = .ok t (Ps.wUntil :: r')) (h2 : Ps.timeP p n r' = .bad r2 x) : Ps.timeP p (n + 1) ts = .bad r2 x := by
  simp only [Ps.timeP, Ps.bind, h, Ps.take_yes, if_true, h2]
theorem since_not : ∀ r'' : List ByteArray, Ps.wSince :: r' ≠ Ps.wUntil :: r'' := fun r'' e => absurd (List.cons.inj e).1 (by decide)
theorem since_yes_ok {g : Fm.Form} {r2 : List ByteArray} (h : p ts = .ok t (Ps.wSince :: r')) (h2 : Ps.timeP p n r' = .ok g r2) : Ps.timeP p (n + 1) ts = .ok (Fm.Form.bin 21 0 0 0 t g) r2 := by
  simp only [Ps.timeP, Ps.bind, h, take_not since_not, Bool.false_eq_true, if_false, Ps.take_yes, if_true, h2, Ps.ret]
theorem since_yes_bad {r2 : List ByteArray} {x : Nat} (h : p ts = .ok t (Ps.wSince :: r')) (h2 : Ps.timeP p n r' = .bad r2 x) : Ps.timeP p (n + 1) ts = .bad r2 x := by
  simp only [Ps.timeP, Ps.bind, h, take_not since_not, Bool.false_eq_true, if_false, Ps.take_yes, if_true, h2]
theorem time_no (h : takes (p ts) Ps.wUntil = false) (h' : takes (p ts) Ps.wSince = false) : Ps.timeP p (n + 1) ts = p ts := by
  cases hp : p ts with
  | bad r x => simp only [Ps.timeP, Ps.bind, hp]
  | ok t r =>
    have hno : ∀ r', r ≠ Ps.wUntil :: r' := by rintro r' rfl; rw [hp] at h; simp [takes] at h
    have hno' : ∀ r', r ≠ Ps.wSince :: r' := by rintro r' rfl; rw [hp] at h'; simp [takes] at h'
    simp only [Ps.timeP, Ps.bind, hp, take_not hno, take_not hno', Bool.false_eq_true, if_false, Ps.ret]
theorem takes_form {s : ByteArray} (h : takes (p ts) s = true) : ∃ t r', p ts = .ok t (s :: r') := by
  cases hp : p ts with
  | bad r x => rw [hp] at h; cases h
  | ok t r =>
    cases r with
    | nil => rw [hp] at h; cases h
    | cons y r =>
      rw [hp] at h
      obtain rfl : y = s := by simpa [takes] using h
      exact ⟨t, r, rfl⟩
end
section
set_option maxRecDepth 100000
set_option maxHeartbeats 2000000
variable {E : RE}
theorem rimplies_any (hE : E.Ok) {p : Ps.P Fm.Form} (hp : Ps.Fine p) {N : Nat} (HT : RPart E 67 p N) : ∀ n, n ≤ N → RPart E 43 (Ps.impP p n) n := by
  intro n
  induction n with
  | zero => exact fun _ ts w o nb ob hlt => absurd hlt (by omega)
  | succ n ih =>
    intro hn ts w o nb ob hlt hnb hob hl
    have IH := Lib.hid (ih (by omega))
    have hob8 : 8 ≤ ob := by have := hl.2.2; omega
    have H1 := Lib.hid (HT ts w o nb ob (by omega) hnb hob hl)
    have HSH := Lib.hid hp.shr
    clear hp HT hl ih
    by_cases h1 : takes (p ts) Ps.wImp = true
    · obtain ⟨t, r', hpt⟩ := takes_form h1
      have hr' : r'.length < n := by have := HSH.out.ok hpt; simp only [List.length_cons] at this; omega
      have HPT := Lib.hid hpt
      have HI := Lib.hid fun w' (h : SR E w' (Res.ok () r') (fun _ => (ins t o).2) (nb - 8) (ob - 8)) => IH.out.all (α := Unit) rimplies_nil h (fun a r e => by cases e; exact hr') (by omega) (by omega)
      have HTY := Lib.hid fun w' (h : SR E w' (p ts) (fun t => (ins t o).2) nb ob) => rtakes_yes hE ⟨#[45, 62]⟩ (SR.unit (by rw [hpt] at h; exact h)) (by omega) (show takes (Res.ok () (Ps.wImp :: r')) ⟨#[45, 62]⟩ = true by simp [takes]; rfl)
      clear h1 hpt hr'
      go_enter Tryz.func43, Tryz.ntmps43
      go_wp2_with (first
        | (go_at_call 67; (with_reducible refine H1.out.mono ?_); rintro e w1 ⟨v1, rfl, S1, V1⟩; have HV1 := Lib.hid (V1 _ _ HPT.out); have HS1 := Lib.hid S1; clear S1 V1)
        | (go_at_call 44; (with_reducible refine (HTY.out _ HS1.out).mono ?_); rintro e w2 ⟨rfl, S2⟩; have H3 := Lib.hid (HI.out w2 S2); clear S2)
        | (go_at_call 43; (with_reducible refine H3.out.mono ?_); rintro e w3 ⟨v3, rfl, S3, V3⟩; have HV3 := Lib.hid V3; have H4 := Lib.hid (rnode_all hE S3 (by omega) ⟨7, 0, 0, 0, (v1 : Int), (v3 : Int)⟩); clear S3 V3)
        | (go_at_call 45; (with_reducible refine H4.out.mono ?_); rintro e w4 ⟨v4, rfl, S4, V4⟩; have HS4 := Lib.hid S4; have HV4 := Lib.hid V4; clear S4 V4))
      refine bodyPost_ret (v := .int .i64 (v4 : Int)) (by simp [results, Tryz.results43, go_sem]) rfl ?_
      exact bin_post (q := Ps.impP p n) (fun g r2 h => imp_yes_ok HPT.out h) (fun r2 x h => imp_yes_bad HPT.out h) HV1.out HV3.out HS4.out HV4.out hob8
    · have h0 : takes (p ts) Ps.wImp = false := by simpa using h1
      have HEQ := Lib.hid (imp_no (n := n) h0)
      have HTN := Lib.hid fun w' (h : SR E w' (p ts) (fun t => (ins t o).2) nb ob) => rtakes_no hE ⟨#[45, 62]⟩ (by decide) h (by omega) h0
      clear h0 h1
      go_enter Tryz.func43, Tryz.ntmps43
      go_wp2_with (first
        | (go_at_call 67; (with_reducible refine H1.out.mono ?_); rintro e w1 ⟨v1, rfl, S1, V1⟩; have HV1 := Lib.hid V1; have HS1 := Lib.hid S1; clear S1 V1)
        | (go_at_call 44; (with_reducible refine (HTN.out _ HS1.out).mono ?_); rintro e w2 ⟨rfl, S2⟩; have HS2 := Lib.hid S2; clear S2))
      refine bodyPost_ret (v := .int .i64 (v1 : Int)) (by simp [results, Tryz.results43, go_sem]) rfl ?_
      rw [HEQ.out]
      exact ⟨v1, rfl, HS2.out, HV1.out⟩
theorem rtime_any (hE : E.Ok) {p : Ps.P Fm.Form} (hp : Ps.Fine p) {N : Nat} (HT : RPart E 86 p N) : ∀ n, n ≤ N → RPart E 67 (Ps.timeP p n) n := by
  intro n
  induction n with
  | zero => exact fun _ ts w o nb ob hlt => absurd hlt (by omega)
  | succ n ih =>
    intro hn ts w o nb ob hlt hnb hob hl
    have IH := Lib.hid (ih (by omega))
    have hob8 : 8 ≤ ob := by have := hl.2.2; omega
    have H1 := Lib.hid (HT ts w o nb ob (by omega) hnb hob hl)
    have HSH := Lib.hid hp.shr
    clear hp HT hl ih
    by_cases h1 : takes (p ts) Ps.wUntil = true
    · obtain ⟨t, r', hpt⟩ := takes_form h1
      have hr' : r'.length < n := by have := HSH.out.ok hpt; simp only [List.length_cons] at this; omega
      have HPT := Lib.hid hpt
      have HI := Lib.hid fun w' (h : SR E w' (Res.ok () r') (fun _ => (ins t o).2) (nb - 8) (ob - 8)) => IH.out.all (α := Unit) rtime_nil h (fun a r e => by cases e; exact hr') (by omega) (by omega)
      have HTY := Lib.hid fun w' (h : SR E w' (p ts) (fun t => (ins t o).2) nb ob) => rtakes_yes hE ⟨#[117, 110, 116, 105, 108]⟩ (SR.unit (by rw [hpt] at h; exact h)) (by omega) (show takes (Res.ok () (Ps.wUntil :: r')) ⟨#[117, 110, 116, 105, 108]⟩ = true by simp [takes]; rfl)
      clear h1 hpt hr'
      go_enter Tryz.func67, Tryz.ntmps67
      go_wp2_with (first
        | (go_at_call 86; (with_reducible refine H1.out.mono ?_); rintro e w1 ⟨v1, rfl, S1, V1⟩; have HV1 := Lib.hid (V1 _ _ HPT.out); have HS1 := Lib.hid S1; clear S1 V1)
        | (go_at_call 44; (with_reducible refine (HTY.out _ HS1.out).mono ?_); rintro e w2 ⟨rfl, S2⟩; have H3 := Lib.hid (HI.out w2 S2); clear S2)
        | (go_at_call 67; (with_reducible refine H3.out.mono ?_); rintro e w3 ⟨v3, rfl, S3, V3⟩; have HV3 := Lib.hid V3; have H4 := Lib.hid (rnode_all hE S3 (by omega) ⟨19, 0, 0, 0, (v1 : Int), (v3 : Int)⟩); clear S3 V3)
        | (go_at_call 45; (with_reducible refine H4.out.mono ?_); rintro e w4 ⟨v4, rfl, S4, V4⟩; have HS4 := Lib.hid S4; have HV4 := Lib.hid V4; clear S4 V4))
      refine bodyPost_ret (v := .int .i64 (v4 : Int)) (by simp [results, Tryz.results67, go_sem]) rfl ?_
      exact bin_post (q := Ps.timeP p n) (fun g r2 h => until_yes_ok HPT.out h) (fun r2 x h => until_yes_bad HPT.out h) HV1.out HV3.out HS4.out HV4.out hob8
    have h0 : takes (p ts) Ps.wUntil = false := by simpa using h1
    have HTN := Lib.hid fun w' (h : SR E w' (p ts) (fun t => (ins t o).2) nb ob) => rtakes_no hE ⟨#[117, 110, 116, 105, 108]⟩ (by decide) h (by omega) h0
    by_cases h2 : takes (p ts) Ps.wSince = true
    · obtain ⟨t, r', hpt⟩ := takes_form h2
      have hr' : r'.length < n := by have := HSH.out.ok hpt; simp only [List.length_cons] at this; omega
      have HPT := Lib.hid hpt
      have HI := Lib.hid fun w' (h : SR E w' (Res.ok () r') (fun _ => (ins t o).2) (nb - 8) (ob - 8)) => IH.out.all (α := Unit) rtime_nil h (fun a r e => by cases e; exact hr') (by omega) (by omega)
      have HTY := Lib.hid fun w' (h : SR E w' (p ts) (fun t => (ins t o).2) nb ob) => rtakes_yes hE ⟨#[115, 105, 110, 99, 101]⟩ (SR.unit (by rw [hpt] at h; exact h)) (by omega) (show takes (Res.ok () (Ps.wSince :: r')) ⟨#[115, 105, 110, 99, 101]⟩ = true by simp [takes]; rfl)
      clear h2 hpt hr' h0 h1
      go_enter Tryz.func67, Tryz.ntmps67
      go_wp2_with (first
        | (go_at_call 86; (with_reducible refine H1.out.mono ?_); rintro e w1 ⟨v1, rfl, S1, V1⟩; have HV1 := Lib.hid (V1 _ _ HPT.out); have HS1 := Lib.hid S1; clear S1 V1)
        | (go_at_call 44; (with_reducible refine (HTN.out _ HS1.out).mono ?_); rintro e w5 ⟨rfl, S5⟩; have HS5 := Lib.hid S5; clear S5)
        | (go_at_call 44; (with_reducible refine (HTY.out _ HS5.out).mono ?_); rintro e w2 ⟨rfl, S2⟩; have H3 := Lib.hid (HI.out w2 S2); clear S2)
        | (go_at_call 67; (with_reducible refine H3.out.mono ?_); rintro e w3 ⟨v3, rfl, S3, V3⟩; have HV3 := Lib.hid V3; have H4 := Lib.hid (rnode_all hE S3 (by omega) ⟨21, 0, 0, 0, (v1 : Int), (v3 : Int)⟩); clear S3 V3)
        | (go_at_call 45; (with_reducible refine H4.out.mono ?_); rintro e w4 ⟨v4, rfl, S4, V4⟩; have HS4 := Lib.hid S4; have HV4 := Lib.hid V4; clear S4 V4))
      refine bodyPost_ret (v := .int .i64 (v4 : Int)) (by simp [results, Tryz.results67, go_sem]) rfl ?_
      exact bin_post (q := Ps.timeP p n) (fun g r2 h => since_yes_ok HPT.out h) (fun r2 x h => since_yes_bad HPT.out h) HV1.out HV3.out HS4.out HV4.out hob8
    · have h3 : takes (p ts) Ps.wSince = false := by simpa using h2
      have HEQ := Lib.hid (time_no (n := n) h0 h3)
      have HTM := Lib.hid fun w' (h : SR E w' (p ts) (fun t => (ins t o).2) nb ob) => rtakes_no hE ⟨#[115, 105, 110, 99, 101]⟩ (by decide) h (by omega) h3
      clear h0 h1 h2 h3
      go_enter Tryz.func67, Tryz.ntmps67
      go_wp2_with (first
        | (go_at_call 86; (with_reducible refine H1.out.mono ?_); rintro e w1 ⟨v1, rfl, S1, V1⟩; have HV1 := Lib.hid V1; have HS1 := Lib.hid S1; clear S1 V1)
        | (go_at_call 44; (with_reducible refine (HTN.out _ HS1.out).mono ?_); rintro e w2 ⟨rfl, S2⟩; have HS2 := Lib.hid S2; clear S2)
        | (go_at_call 44; (with_reducible refine (HTM.out _ HS2.out).mono ?_); rintro e w3 ⟨rfl, S3⟩; have HS3 := Lib.hid S3; clear S3))
      refine bodyPost_ret (v := .int .i64 (v1 : Int)) (by simp [results, Tryz.results67, go_sem]) rfl ?_
      rw [HEQ.out]
      exact ⟨v1, rfl, HS3.out, HV1.out⟩
end
end Go.Proofs.YtdhdcenjiopofaaGreatDoor
namespace Go.Proofs.YtdhdcenjiopofaaGreatDoor
open Go.RowKit
open Fm (Nd put)
open Ps (Res)

section
set_option maxRecDepth 100000
set_option maxHeartbeats 2000000
variable {E : RE} {w w' : World} {nx bad x : Nat} {dv : Value} {o : List Nd}
theorem rnumber_err (hE : E.Ok) (h : RSt E w nx dv o bad x) (hb : nx ≤ 1000000) {y : Nat} (he : Ps.numE (wordAt E.ws nx) = .error y) : Calls Tryz.prog 131 #[E.ptr] w fun e w' => e = .returned (.int .i64 0) ∧ RSt E w' nx dv o (if x = 0 then nx else bad) (if x = 0 then y else x) := by
  have HL := Lib.hid (rlook_any hE h hb)
  have HC : Hid (∀ w', Keep NoF w w' → w'.cell? ⟨E.b, 4, none⟩ = some (.int .i64 (nx : Int))) := Lib.hid fun w' hk => (h.keep hk).c4
  have HF4 : Hid (∀ w1, Keep NoF w w1 → Calls Tryz.prog 22 #[E.ptr, .int .i64 (nx : Int), .int .i64 4] w1 fun e w' => e = .returned (.tuple #[]) ∧ RSt E w' nx dv o (if x = 0 then nx else bad) (if x = 0 then 4 else x)) := Lib.hid fun w1 hk => rfail_any hE (h.keep hk) nx 4
  have HF2 : Hid (∀ w1, Keep NoF w w1 → Calls Tryz.prog 22 #[E.ptr, .int .i64 (nx : Int), .int .i64 2] w1 fun e w' => e = .returned (.tuple #[]) ∧ RSt E w' nx dv o (if x = 0 then nx else bad) (if x = 0 then 2 else x)) := Lib.hid fun w1 hk => rfail_any hE (h.keep hk) nx 2
  have hwo := word_ok hE nx
  clear h hE
  generalize wordAt E.ws nx = t at *
  generalize (if x = 0 then nx else bad) = bad' at *
  rcases hwo with rfl | ht
  · have e4 : y = 4 := by
      have : Ps.numE ⟨#[]⟩ = .error 4 := if_pos (by decide)
      rw [this] at he; cases he; rfl
    subst e4
    clear he HF2
    generalize (if x = 0 then 4 else x) = x' at *
    go_enter Tryz.func131, Tryz.ntmps131
    go_wp2_with (first
      | (go_at_call 68; (with_reducible refine HL.out.mono ?_); rintro e w1 ⟨rfl, hk⟩; have c4 := HC.out w1 hk)
      | (go_at_call 22; (with_reducible refine (HF4.out _ hk).mono ?_); rintro e w2 ⟨rfl, hd⟩; have HD := Lib.hid hd; clear hd))
    refine bodyPost_ret (v := .int .i64 0) (by simp [results, Tryz.results131, go_sem]) rfl ?_
    exact ⟨rfl, HD.out⟩
  · have hsz : 0 < t.size := by have := ht.2.1; rw [← data_len]; exact List.length_pos_iff.2 this
    have hne : t.toList.isEmpty = false := by rw [ByteArray.toList_eq]; simpa using ht.2.1
    have hne2 : ¬ t.toList = [] := by rw [ByteArray.toList_eq]; exact ht.2.1
    have hhd : Ps.hd t = t[0].toNat := by unfold Ps.hd; rw [headD_at t hsz]
    unfold Ps.numE at he
    rw [hhd] at he
    have h40 := ht.1
    clear ht hhd
    have HDG := Lib.hid fun W => rdigit_any t[0].toNat W
    cases hdg : digN t[0].toNat with
    | false =>
      rw [hdg] at HDG he
      rw [if_pos rfl] at he
      cases he
      clear hdg HF2
      generalize (if x = 0 then 4 else x) = x' at *
      go_enter Tryz.func131, Tryz.ntmps131
      go_wp2_with (first
        | (go_at_call 68; (with_reducible refine HL.out.mono ?_); rintro e w1 ⟨rfl, hk⟩; have c4 := HC.out w1 hk)
        | (go_at_call 66; (with_reducible refine (HDG.out _).mono ?_); rintro e w' ⟨rfl, hw'⟩; obtain rfl := hw'.symm)
        | (go_at_call 22; (with_reducible refine (HF4.out _ hk).mono ?_); rintro e w2 ⟨rfl, hd⟩; have HD := Lib.hid hd; clear hd))
      refine bodyPost_ret (v := .int .i64 0) (by simp [results, Tryz.results131, go_sem]) rfl ?_
      exact ⟨rfl, HD.out⟩
    | true =>
      have hlo : 48 ≤ t[0].toNat ∧ t[0].toNat ≤ 57 := by simpa [digN] using hdg
      obtain ⟨hlo, hhi⟩ := hlo
      rw [hdg] at HDG he
      rw [if_neg (by simp)] at he
      clear hdg HF4
      by_cases hs1 : 1 < t.size
      · rw [if_pos (.inl hs1)] at he
        cases he
        have hs1' : (1 : Int) < (t.size : Int) := by omega
        generalize (if x = 0 then 2 else x) = x' at *
        go_enter Tryz.func131, Tryz.ntmps131
        go_wp2_with (first
          | (go_at_call 68; (with_reducible refine HL.out.mono ?_); rintro e w1 ⟨rfl, hk⟩; have c4 := HC.out w1 hk)
          | (go_at_call 66; (with_reducible refine (HDG.out _).mono ?_); rintro e w' ⟨rfl, hw'⟩; obtain rfl := hw'.symm)
          | (go_at_call 22; (with_reducible refine (HF2.out _ hk).mono ?_); rintro e w2 ⟨rfl, hd⟩; have HD := Lib.hid hd; clear hd))
        refine bodyPost_ret (v := .int .i64 0) (by simp [results, Tryz.results131, go_sem]) rfl ?_
        exact ⟨rfl, HD.out⟩
      · have hs1' : ¬ (1 : Int) < (t.size : Int) := by omega
        have hlo' : (48 : Int) ≤ (t[0].toNat : Int) := by omega
        by_cases h56 : 56 ≤ t[0].toNat
        · rw [if_pos (.inr h56)] at he
          cases he
          have h56' : (8 : Int) ≤ (t[0].toNat : Int) - 48 := by omega
          generalize (if x = 0 then 2 else x) = x' at *
          go_enter Tryz.func131, Tryz.ntmps131
          go_wp2_with (first
            | (go_at_call 68; (with_reducible refine HL.out.mono ?_); rintro e w1 ⟨rfl, hk⟩; have c4 := HC.out w1 hk)
            | (go_at_call 66; (with_reducible refine (HDG.out _).mono ?_); rintro e w' ⟨rfl, hw'⟩; obtain rfl := hw'.symm)
            | (go_at_call 22; (with_reducible refine (HF2.out _ hk).mono ?_); rintro e w2 ⟨rfl, hd⟩; have HD := Lib.hid hd; clear hd))
          refine bodyPost_ret (v := .int .i64 0) (by simp [results, Tryz.results131, go_sem]) rfl ?_
          exact ⟨rfl, HD.out⟩
        · rw [if_neg (by omega)] at he
          cases he
theorem rnumber_ok (hE : E.Ok) (h : RSt E w nx dv o bad x) (hb : nx ≤ 1000000) {i : Nat} (he : Ps.numE (wordAt E.ws nx) = .ok i) : Calls Tryz.prog 131 #[E.ptr] w fun e w' => e = .returned (.int .i64 (i : Int)) ∧ RSt E w' (nx + 1) dv o bad x := by
  have HL := Lib.hid (rlook_any hE h hb)
  have HN : Hid (∀ w', Keep NoF w w' → w'.cell? ⟨E.b, 4, none⟩ = some (.int .i64 (nx : Int)) ∧ w'.frozen? ⟨E.b, 4, none⟩ = false ∧ RSt E (w'.setCell ⟨E.b, 4, none⟩ (.int .i64 ((nx : Int) + 1))) (nx + 1) dv o bad x) := Lib.hid fun w' hk => by
    have hs := h.keep hk
    exact ⟨hs.c4, hs.fr 4, by have := hs.setNext hE (nx + 1); rwa [show ((nx + 1 : Nat) : Int) = (nx : Int) + 1 by omega] at this⟩
  have hwo := word_ok hE nx
  clear h hE
  generalize wordAt E.ws nx = t at *
  rcases hwo with rfl | ht
  · have : Ps.numE ⟨#[]⟩ = .error 4 := if_pos (by decide)
    rw [this] at he; cases he
  · have hsz : 0 < t.size := by have := ht.2.1; rw [← data_len]; exact List.length_pos_iff.2 this
    have hne : t.toList.isEmpty = false := by rw [ByteArray.toList_eq]; simpa using ht.2.1
    have hne2 : ¬ t.toList = [] := by rw [ByteArray.toList_eq]; exact ht.2.1
    have hhd : Ps.hd t = t[0].toNat := by unfold Ps.hd; rw [headD_at t hsz]
    unfold Ps.numE at he
    rw [hhd] at he
    have h40 := ht.1
    clear ht hhd
    have HDG := Lib.hid fun W => rdigit_any t[0].toNat W
    cases hdg : digN t[0].toNat with
    | false => rw [hdg, if_pos rfl] at he; cases he
    | true =>
      have hlo : 48 ≤ t[0].toNat ∧ t[0].toNat ≤ 57 := by simpa [digN] using hdg
      obtain ⟨hlo, hhi⟩ := hlo
      rw [hdg] at HDG he
      rw [if_neg (by simp)] at he
      clear hdg
      have hs1 : ¬ (1 < t.size ∨ 56 ≤ t[0].toNat) := fun h => by rw [if_pos h] at he; cases he
      rw [if_neg hs1] at he
      have hi : (i : Int) = (t[0].toNat : Int) - 48 := by cases he; omega
      have HI := Lib.hid hi
      have hs1' : ¬ (1 : Int) < (t.size : Int) := by omega
      have hlo' : (48 : Int) ≤ (t[0].toNat : Int) := by omega
      have h56' : ¬ (8 : Int) ≤ (t[0].toNat : Int) - 48 := by omega
      clear he hi hs1
      go_enter Tryz.func131, Tryz.ntmps131
      go_wp2_with (first
        | (go_at_call 68; (with_reducible refine HL.out.mono ?_); rintro e w1 ⟨rfl, hk⟩; obtain ⟨c4, f4, hl⟩ := HN.out w1 hk; have HD := Lib.hid hl; clear hl)
        | (go_at_call 66; (with_reducible refine (HDG.out _).mono ?_); rintro e w' ⟨rfl, hw'⟩; obtain rfl := hw'.symm))
      refine bodyPost_ret (v := .int .i64 ((t[0].toNat : Int) - 48)) (by simp [results, Tryz.results131, go_sem]) rfl ?_
      exact ⟨by rw [HI.out], HD.out⟩
end
end Go.Proofs.YtdhdcenjiopofaaGreatDoor
namespace Go.Proofs.YtdhdcenjiopofaaGreatDoor
open Go.RowKit
open Fm (Nd put ins)
open Ps (Res)

section
variable {E : RE} {α : Type} {w : World} {st : Res α} {of : α → List Nd} {nb ob : Nat}
theorem rnumber_all (hE : E.Ok) (h : SR E w st of nb ob) (hnb : nb ≤ 1000000) : Calls Tryz.prog 131 #[E.ptr] w fun e w' => ∃ v : Nat, e = .returned (.int .i64 (v : Int)) ∧ v < 8 ∧ SR E w' (thenP st Ps.number) (fun p => of p.1) (nb + 1) ob ∧ (∀ p r, thenP st Ps.number = .ok p r → v = p.2) := by
  cases st with
  | bad r x =>
    obtain ⟨h0, nx, dv, o, h1, h2, hst⟩ := h
    cases hn : Ps.numE (wordAt E.ws nx) with
    | ok i =>
      refine (rnumber_ok hE hst (by omega) hn).mono ?_
      rintro e w' ⟨rfl, hq⟩
      exact ⟨i, rfl, Ps.numE_lt hn, ⟨h0, nx + 1, dv, o, by omega, h2, hq⟩, fun _ _ e => by cases e⟩
    | error y =>
      refine (rnumber_err hE hst (by omega) hn).mono ?_
      rintro e w' ⟨rfl, hq⟩
      rw [if_neg (by omega), if_neg (by omega)] at hq
      exact ⟨0, rfl, by omega, ⟨h0, nx, dv, o, by omega, h2, hq⟩, fun _ _ e => by cases e⟩
  | ok a ts =>
    obtain ⟨⟨hsuf, dv, hst⟩, h1, h2⟩ := h
    have hle := hsuf.length_le
    cases ts with
    | nil =>
      have hn : Ps.numE (wordAt E.ws (E.ws.length - ([] : List ByteArray).length)) = .error 4 := by rw [word_nil]; exact if_pos (by decide)
      refine (rnumber_err hE hst (by omega) hn).mono ?_
      rintro e w' ⟨rfl, hq⟩
      rw [if_pos rfl, if_pos rfl] at hq
      exact ⟨0, rfl, by omega, ⟨by omega, _, dv, of a, by omega, by omega, hq⟩, fun _ _ e => by cases e⟩
    | cons t r =>
      simp only [List.length_cons] at h1 h2
      cases hn : Ps.numE t with
      | ok i =>
        have e1 : thenP (.ok a (t :: r)) Ps.number = .ok (a, i) r := by simp only [thenP, Ps.number, Ps.tok_ok hn]
        rw [e1]
        refine (rnumber_ok hE hst (by omega) (by rw [word_cons hsuf]; exact hn)).mono ?_
        rintro e w' ⟨rfl, hq⟩
        exact ⟨i, rfl, Ps.numE_lt hn, ⟨RSt.live hsuf hq, by omega, by simp only; omega⟩, fun _ _ e => by cases e; rfl⟩
      | error y =>
        have e1 : thenP (.ok a (t :: r)) Ps.number = .bad (t :: r) y := by simp only [thenP, Ps.number, Ps.tok_err hn]
        rw [e1]
        refine (rnumber_err hE hst (by omega) (by rw [word_cons hsuf]; exact hn)).mono ?_
        rintro e w' ⟨rfl, hq⟩
        rw [if_pos rfl, if_pos rfl] at hq
        have hy : 0 < y := by
          unfold Ps.numE at hn
          split at hn
          · cases hn; omega
          · split at hn
            · cases hn; omega
            · cases hn
        exact ⟨0, rfl, by omega, ⟨hy, _, dv, of a, by omega, by omega, hq⟩, fun _ _ e => by cases e⟩
end
theorem bar_yes {α : Type} {a : α} {form : Ps.P Fm.Form} {r : List ByteArray} : thenP (Res.ok a (Ps.wOr :: r)) (Ps.barP form) = thenP (Res.ok a r) form := by
  simp only [thenP, Ps.barP, Ps.bind, Ps.take_yes, if_true]
theorem bar_no {α : Type} {st : Res α} {form : Ps.P Fm.Form} (h : takes st Ps.wOr = false) : thenP st (Ps.barP form) = mapR st fun a => (a, Fm.Form.leaf 1 0 0 0) := by
  cases st with
  | bad r x => rfl
  | ok a ts =>
    have hno : ∀ r', ts ≠ Ps.wOr :: r' := by rintro r' rfl; simp [takes] at h
    simp only [thenP, Ps.barP, Ps.bind, take_not hno, Bool.false_eq_true, if_false, Ps.ret, mapR]
theorem SR.map {E : RE} {α β : Type} {w : World} {st : Res α} {f : α → β} {of : β → List Nd} {nb ob : Nat} (h : SR E w st (fun a => of (f a)) nb ob) : SR E w (mapR st f) of nb ob := by
  cases st with
  | ok a ts => exact h
  | bad r x => exact h
section
set_option maxRecDepth 100000
set_option maxHeartbeats 2000000
variable {E : RE} {α : Type} {w : World} {st : Res α} {of : α → List Nd} {nb ob : Nat}
/-- A condition behind a bar. -/
theorem rbar_all (hE : E.Ok) {form : Ps.P Fm.Form} {N : Nat} (HF : RPart E 21 form N) (h : SR E w st of nb ob) (hn : ∀ a r, st = .ok a r → r.length ≤ N) (h1 : nb ≤ 900000) (h2 : ob ≤ 900000) :
    Calls Tryz.prog 130 #[E.ptr] w fun e w' => ∃ v : Nat, e = .returned (.int .i64 (v : Int)) ∧ SR E w' (thenP st (Ps.barP form)) (fun p => (ins p.2 (of p.1)).2) nb (ob + 1) ∧ (∀ p r, thenP st (Ps.barP form) = .ok p r → v = (ins p.2 (of p.1)).1) := by
  cases ht : takes st Ps.wOr with
  | true =>
    obtain ⟨a, r, rfl⟩ : ∃ a r, st = .ok a (Ps.wOr :: r) := by
      cases st with
      | bad r x => cases ht
      | ok a ts =>
        cases ts with
        | nil => cases ht
        | cons y r => exact ⟨a, r, by rw [show y = Ps.wOr by simpa [takes] using ht]⟩
    rw [bar_yes]
    have hr : r.length < N := by have := hn a _ rfl; simp only [List.length_cons] at this; omega
    have HT := Lib.hid (rtakes_yes hE ⟨#[124]⟩ h (by omega) ht)
    have HR := Lib.hid fun w' (h : SR E w' (Res.ok a r) of (nb - 8) (ob - 8)) => HF.all rformula_nil h (fun a r e => by cases e; exact hr) (by omega) (by omega)
    clear h hn ht HF
    go_enter Tryz.func130, Tryz.ntmps130
    go_wp2_with (first
      | (go_at_call 44; (with_reducible refine HT.out.mono ?_); rintro e w2 ⟨rfl, S2⟩; have H3 := Lib.hid (HR.out w2 S2); clear S2)
      | (go_at_call 21; (with_reducible refine H3.out.mono ?_); rintro e w3 ⟨v3, rfl, S3, V3⟩; have HS3 := Lib.hid S3; have HV3 := Lib.hid V3; clear S3 V3))
    refine bodyPost_ret (v := .int .i64 (v3 : Int)) (by simp [results, Tryz.results130, go_sem]) rfl ?_
    exact ⟨v3, rfl, HS3.out.mono (by omega) (by omega), HV3.out⟩
  | false =>
    rw [bar_no ht]
    have HT := Lib.hid (rtakes_no hE ⟨#[124]⟩ (by decide) h (by omega) ht)
    have HN := Lib.hid fun w' (h : SR E w' st of nb ob) => rnode_all hE h (by omega) ⟨1, 0, 0, 0, 0, 0⟩
    clear h hn ht HF
    go_enter Tryz.func130, Tryz.ntmps130
    go_wp2_with (first
      | (go_at_call 44; (with_reducible refine HT.out.mono ?_); rintro e w2 ⟨rfl, S2⟩; have H3 := Lib.hid (HN.out w2 S2); clear S2)
      | (go_at_call 45; (with_reducible refine H3.out.mono ?_); rintro e w3 ⟨v3, rfl, S3, V3⟩; have HS3 := Lib.hid S3; have HV3 := Lib.hid V3; clear S3 V3))
    refine bodyPost_ret (v := .int .i64 (v3 : Int)) (by simp [results, Tryz.results130, go_sem]) rfl ?_
    refine ⟨v3, rfl, SR.map (of := fun p : α × Fm.Form => (ins p.2 (of p.1)).2) HS3.out, fun p r e => ?_⟩
    cases st with
    | bad r0 x => cases e
    | ok a ts => simp only [mapR] at e; cases e; exact HV3.out _ _ rfl
end
end Go.Proofs.YtdhdcenjiopofaaGreatDoor
namespace Go.Proofs.YtdhdcenjiopofaaGreatDoor
open Go.RowKit
open Fm (Nd put ins)
open Ps (Res)

theorem shl_bit {v : Nat} (h : v < 4) : wrap64 (2 ^ v) = ((2 ^ v : Nat) : Int) ∧ 2 ^ v < 16 := by
  have h4 : v = 0 ∨ v = 1 ∨ v = 2 ∨ v = 3 := by omega
  rcases h4 with rfl | rfl | rfl | rfl <;> decide +kernel
theorem and_bit {m j : Nat} (hm : m < 16) (hj : j < 4) : (bits BinOp.and IntKind.i64 (m : Int) (wrap64 (2 ^ j)) != 0) = m.testBit j := by
  have h : ∀ (m : Fin 16) (j : Fin 4), (bits BinOp.and IntKind.i64 (m.val : Int) (wrap64 (2 ^ j.val)) != 0) = m.val.testBit j.val := by decide +kernel
  exact h ⟨m, hm⟩ ⟨j, hj⟩
/-- Behind an agent of a group. -/
def tailG (find : ByteArray → Int) (m g : Nat) (r : List ByteArray) : Res Nat := Ps.bind (Ps.take Ps.wComma) (fun b => if b = true then Ps.groupP find m g else Ps.ret g) r
theorem group_ok {find : ByteArray → Int} {m g i : Nat} {t : ByteArray} {r : List ByteArray} (h : Ps.nameE find t = .ok i) (hb : g.testBit i = false) : Ps.groupP find (m + 1) g (t :: r) = tailG find m (g ||| 2 ^ i) r := by
  have h1 : Ps.mem find g (t :: r) = .ok i r := Ps.tok_ok (by simp only [Ps.memE, h, hb, Bool.false_eq_true, if_false]) r
  simp only [Ps.groupP, tailG, Ps.bind, h1]
theorem tail_yes {find : ByteArray → Int} {m g : Nat} {r : List ByteArray} : tailG find m g (Ps.wComma :: r) = Ps.groupP find m g r := by
  simp only [tailG, Ps.bind, Ps.take_yes, if_true]
theorem tail_no {find : ByteArray → Int} {m g : Nat} {r : List ByteArray} (h : ∀ r', r ≠ Ps.wComma :: r') : tailG find m g r = .ok g r := by
  simp only [tailG, Ps.bind, take_not h, Bool.false_eq_true, if_false, Ps.ret]
/-- The state at the head of the loop over agents. -/
def GRS (E : RE) (w : World) (o : List Nd) (nb ob : Nat) (res : Res Nat) (find : ByteArray → Int) (m v : Nat) : Prop :=
  (∃ r, res = tailG find m v r ∧ r.length ≤ m ∧ SR E w (Res.ok () r) (fun _ => o) nb ob) ∨ (∃ r x, res = .bad r x ∧ SR E w (Res.bad r x : Res Unit) (fun _ => o) nb ob)
section
variable {E : RE} {w : World} {o : List Nd} {nb ob : Nat}
/-- After the first agent. -/
theorem GRS.first {find : ByteArray → Int} {ts : List ByteArray} {N v : Nat} (hlt : ts.length ≤ N) (h : SR E w (thenP (Res.ok () ts) (Ps.name find)) (fun _ => o) nb ob) (hv : ∀ p r, thenP (Res.ok () ts) (Ps.name find) = .ok p r → v = p.2) :
    GRS E w o nb ob (Ps.groupP find (N + 1) 0 ts) find N (2 ^ v) := by
  cases ts with
  | nil => exact .inr ⟨[], 4, rfl, h⟩
  | cons t r =>
    cases hn : Ps.nameE find t with
    | ok i =>
      have e1 : thenP (Res.ok () (t :: r)) (Ps.name find) = .ok ((), i) r := by simp only [thenP, Ps.name, Ps.tok_ok hn]
      rw [e1] at h
      have e2 := hv _ _ e1
      refine .inl ⟨r, ?_, by simp at hlt; omega, h⟩
      rw [group_ok hn (by simp), Nat.zero_or, e2]
    | error y =>
      have e1 : thenP (Res.ok () (t :: r)) (Ps.name find) = .bad (t :: r) y := by simp only [thenP, Ps.name, Ps.tok_err hn]
      rw [e1] at h
      exact .inr ⟨t :: r, y, mem_bad hn, h⟩
end
theorem or_one {v : Nat} (hv : v < 16) : bits BinOp.or IntKind.i64 (v : Int) 1 = ((v ||| 1 : Nat) : Int) ∧ v ||| 1 < 16 := by
  have h : ∀ m : Fin 16, bits BinOp.or IntKind.i64 (m.val : Int) 1 = ((m.val ||| 1 : Nat) : Int) ∧ m.val ||| 1 < 16 := by decide +kernel
  exact h ⟨v, hv⟩
theorem grp_err {E : RE} {find : ByteArray → Int} {m v y : Nat} {r : List ByteArray} (hs : r <:+ E.ws) (hn : Ps.nameE find (wordAt E.ws (E.ws.length - r.length)) = .error y) : Ps.groupP find (m + 1) v r = .bad r y ∧ 0 < y := by
  have hy : 0 < y := by
    unfold Ps.nameE at hn
    split at hn
    · cases hn; omega
    · split at hn
      · cases hn; omega
      · cases hn
  refine ⟨?_, hy⟩
  cases r with
  | nil =>
    rw [word_nil] at hn
    have : Ps.nameE find ⟨#[]⟩ = .error 4 := if_pos (.inl (by decide))
    rw [this] at hn
    cases hn
    exact mem_nil
  | cons t r =>
    rw [word_cons hs] at hn
    exact mem_bad hn
theorem grp_word {E : RE} {find : ByteArray → Int} {i : Nat} {r : List ByteArray} (hs : r <:+ E.ws) (hn : Ps.nameE find (wordAt E.ws (E.ws.length - r.length)) = .ok i) : ∃ t r2, r = t :: r2 ∧ Ps.nameE find t = .ok i := by
  cases r with
  | nil =>
    rw [word_nil] at hn
    have : Ps.nameE find ⟨#[]⟩ = .error 4 := if_pos (.inl (by decide))
    rw [this] at hn
    cases hn
  | cons t r =>
    rw [word_cons hs] at hn
    exact ⟨t, r, rfl, hn⟩
section
set_option maxRecDepth 100000
set_option maxHeartbeats 4000000
variable {E : RE} {w : World} {o : List Nd} {nb ob : Nat}
theorem rgroup_live (hE : E.Ok) {ts : List ByteArray} {N : Nat} (h : SR E w (Res.ok () ts) (fun _ => o) nb ob) (hlt : ts.length ≤ N) (hnb : nb ≤ 900000) :
    Calls Tryz.prog 129 #[E.ptr] w fun e w' => ∃ v : Nat, e = .returned (.int .i64 (v : Int)) ∧ v < 16 ∧ SR E w' (Ps.groupP (findS E.S E.S.A) (N + 1) 0 ts) (fun _ => o) (nb + 1) ob ∧ (∀ g r, Ps.groupP (findS E.S E.S.A) (N + 1) 0 ts = .ok g r → v = g) := by
  have H1 := Lib.hid (rname1_all hE h (by omega))
  have HLT := Lib.hid hlt
  have hfl : ∀ t, findS E.S E.S.A t < ((4 : Nat) : Int) := lt_find hE.chk (checkS_ok hE.chk).lA
  have HFL := Lib.hid hfl
  clear h hlt hfl
  generalize hres : Ps.groupP (findS E.S E.S.A) (N + 1) 0 ts = res
  have HR := Lib.hid hres
  clear hres
  go_enter Tryz.func129, Tryz.ntmps129
  go_wp2_with (go_at_call 127; (with_reducible refine H1.out.mono ?_); rintro e w1 ⟨v1, rfl, hv1, S1, V1⟩; have Q1 : Hid (GRS E w1 o (nb + 1) ob res (findS E.S E.S.A) N (2 ^ v1)) := Lib.hid (by rw [← HR.out]; exact GRS.first HLT.out S1 V1); clear S1 V1)
  have HB1 := Lib.hid (shl_bit hv1)
  clear H1 HR HLT hv1
  go_loopg [3] N (fun gk fv wr => ∃ v : Nat, fv = .int .i64 (v : Int) ∧ v < 16 ∧ gk ≤ N ∧ Hid (GRS E wr o (nb + 1) ob res (findS E.S E.S.A) gk v))
  case atStart => exact ⟨2 ^ v1, by rw [HB1.out.1], HB1.out.2, Nat.le_refl _, Q1⟩
  case round =>
    clear Q1 HB1
    obtain ⟨v, rfl, hv, hgk, Q⟩ := hrel
    rcases Q.out with ⟨r, q1, q2, q3⟩ | ⟨r, x, q1, q2⟩
    · by_cases hw : ∃ r', r = Ps.wComma :: r'
      · obtain ⟨r', rfl⟩ := hw
        obtain ⟨m, rfl⟩ : ∃ m, gk = m + 1 := ⟨gk - 1, by simp at q2; omega⟩
        rw [tail_yes] at q1
        have hr' : r'.length ≤ m := by simp at q2; omega
        have hbud := q3.2
        simp only [List.length_cons] at hbud
        have HTK := Lib.hid (rtakes_yes hE ⟨#[44]⟩ q3 (by omega) (by simp [takes]; rfl))
        have hws := q3.1.suf.length_le
        simp only [List.length_cons] at hws
        clear Q q2 q3
        have HQ1 := Lib.hid q1
        have HR' := Lib.hid hr'
        have HBD := Lib.hid hbud
        have HWS := Lib.hid hws
        clear q1 hr' hbud hws
        have hbig := hE.big
        cases hn : Ps.nameE (findS E.S E.S.A) (wordAt E.ws (E.ws.length - r'.length)) with
        | error y =>
          have hor := or_one hv
          have HOR := Lib.hid hor.2
          have hor1 := hor.1
          have H2 := Lib.hid fun w2 dv2 (h : RSt E w2 (E.ws.length - r'.length) dv2 o 0 0) => rname1_err hE h (by omega) hn
          have HER := Lib.hid fun (hs : r' <:+ E.ws) => grp_err (m := m) (v := v) hs hn
          clear hor hn
          go_wp2_with (first
            | (go_at_call 44; (with_reducible refine HTK.out.mono ?_); rintro e w2 ⟨rfl, S2⟩; obtain ⟨dv2, hst2⟩ := S2.1.st; have c4 := hst2.c4; have H3 := Lib.hid (H2.out w2 dv2 hst2); have HSF := Lib.hid S2.1.suf; clear S2 hst2)
            | (go_at_call 127; (with_reducible refine H3.out.mono ?_); rintro e w3 ⟨rfl, h3'⟩; have h3 : RSt E w3 (E.ws.length - r'.length) dv2 o (E.ws.length - r'.length) y := h3'; clear h3'; have c7 := h3.c7; have hy1 := (HER.out HSF.out).2; have hy0 : ((y : Int) == 0) = false := beq_eq_false_iff_ne.2 (by omega); have HD := Lib.hid h3; clear h3))
          go_roundg m
          case rel =>
            have hb := HBD.out
            exact ⟨v ||| 1, rfl, HOR.out, by omega, Lib.hid (.inr ⟨r', y, HQ1.out.trans (HER.out HSF.out).1, (HER.out HSF.out).2, _, dv2, o, by omega, by omega, HD.out⟩)⟩
          case measure => omega
        | ok i =>
          have hi : i < 4 := Ps.nameE_lt HFL.out hn
          have hor := bit_or hv hi
          have HOR := Lib.hid hor.1
          have hor1 := hor.2
          have hand := and_bit hv hi
          have H2 := Lib.hid fun w2 dv2 (h : RSt E w2 (E.ws.length - r'.length) dv2 o 0 0) => rname1_ok hE h (by omega) hn
          have HCO := Lib.hid fun (hs : r' <:+ E.ws) => grp_word hs hn
          clear hor hn
          cases htb : v.testBit i with
          | true =>
            rw [htb] at hand
            have HTB := Lib.hid htb
            clear htb
            go_wp2_with (first
              | (go_at_call 44; (with_reducible refine HTK.out.mono ?_); rintro e w2 ⟨rfl, S2⟩; obtain ⟨dv2, hst2⟩ := S2.1.st; have c4 := hst2.c4; have H3 := Lib.hid (H2.out w2 dv2 hst2); have HSF := Lib.hid S2.1.suf; clear S2 hst2)
              | (go_at_call 127; (with_reducible refine H3.out.mono ?_); rintro e w3 ⟨rfl, h3⟩; have c7 : w3.cell? ⟨E.b, 7, none⟩ = some (.int .i64 0) := h3.c7; have H4 : Hid (Calls Tryz.prog 22 #[E.ptr, .int .i64 ((E.ws.length - r'.length : Nat) : Int), .int .i64 7] w3 fun e w' => e = .returned (.tuple #[]) ∧ RSt E w' (E.ws.length - r'.length + 1) dv2 o (E.ws.length - r'.length) 7) := Lib.hid (rfail_live hE h3 (E.ws.length - r'.length) 7); clear h3)
              | (go_at_call 22; (with_reducible refine H4.out.mono ?_); rintro e w4 ⟨rfl, h4⟩; have HD := Lib.hid h4; clear h4))
            go_roundg m
            case rel =>
              have hb := HBD.out
              obtain ⟨t, r2, e1, e2⟩ := HCO.out HSF.out
              exact ⟨v ||| 2 ^ i, rfl, HOR.out, by omega, Lib.hid (.inr ⟨r', 7, HQ1.out.trans (by rw [e1]; exact mem_exist e2 HTB.out), by omega, _, dv2, o, by omega, by omega, HD.out⟩)⟩
            case measure => omega
          | false =>
            rw [htb] at hand
            have HTB := Lib.hid htb
            clear htb
            go_wp2_with (first
              | (go_at_call 44; (with_reducible refine HTK.out.mono ?_); rintro e w2 ⟨rfl, S2⟩; obtain ⟨dv2, hst2⟩ := S2.1.st; have c4 := hst2.c4; have H3 := Lib.hid (H2.out w2 dv2 hst2); have HSF := Lib.hid S2.1.suf; clear S2 hst2)
              | (go_at_call 127; (with_reducible refine H3.out.mono ?_); rintro e w3 ⟨rfl, h3⟩; have c7 : w3.cell? ⟨E.b, 7, none⟩ = some (.int .i64 0) := h3.c7; have HD := Lib.hid h3; clear h3))
            go_roundg m
            case rel =>
              have hb := HBD.out
              have hr2 := HR'.out
              obtain ⟨t, r2, rfl, e2⟩ := HCO.out HSF.out
              simp only [List.length_cons] at hb hr2
              exact ⟨v ||| 2 ^ i, rfl, HOR.out, by omega, Lib.hid (.inl ⟨r2, HQ1.out.trans (group_ok e2 HTB.out), by omega, RSt.live HSF.out HD.out, by omega, by simp only; omega⟩)⟩
            case measure => omega
      · have hno : ∀ r', r ≠ Ps.wComma :: r' := fun r' e => hw ⟨r', e⟩
        have QR : Hid (res = .ok v r) := Lib.hid (q1.trans (tail_no hno))
        have HTK := Lib.hid (rtakes_no hE ⟨#[44]⟩ (by decide) q3 (by omega) (by cases r with | nil => rfl | cons y r => simp only [takes, decide_eq_false_iff_not]; exact fun e => hno r (by rw [e]; rfl)))
        clear q1 q3 hno hw Q
        go_wp2_with (go_at_call 44; (with_reducible refine HTK.out.mono ?_); rintro e w2 ⟨rfl, S2⟩; have HS2 := Lib.hid S2; clear S2)
        refine bodyPost_ret (v := .int .i64 (v : Int)) (by simp [results, Tryz.results129, go_sem]) rfl ?_
        rw [QR.out]
        exact ⟨v, rfl, hv, HS2.out, fun g r' e => by cases e; rfl⟩
    · have QR : Hid (res = .bad r x) := Lib.hid q1
      have HTK := Lib.hid (rtakes_no hE ⟨#[44]⟩ (by decide) q2 (by omega) rfl)
      clear q1 q2 Q
      go_wp2_with (go_at_call 44; (with_reducible refine HTK.out.mono ?_); rintro e w2 ⟨rfl, S2⟩; have HS2 := Lib.hid S2; clear S2)
      refine bodyPost_ret (v := .int .i64 (v : Int)) (by simp [results, Tryz.results129, go_sem]) rfl ?_
      rw [QR.out]
      exact ⟨v, rfl, hv, HS2.out, fun g r' e => by cases e⟩
theorem rgroup_bad (hE : E.Ok) {α : Type} {of : α → List Nd} {r : List ByteArray} {x : Nat} (h : SR E w (Res.bad r x : Res α) of nb ob) (hnb : nb ≤ 900000) : Calls Tryz.prog 129 #[E.ptr] w fun e w' => ∃ v : Nat, e = .returned (.int .i64 (v : Int)) ∧ v < 16 ∧ SR E w' (Res.bad r x : Res α) of (nb + 1) ob := by
  have H1 := Lib.hid (rname1_all hE h (by omega))
  have HT := Lib.hid fun w' (h : SR E w' (Res.bad r x : Res α) of (nb + 1) ob) => rtakes_no hE ⟨#[44]⟩ (by decide) h (by omega) rfl
  clear h
  go_enter Tryz.func129, Tryz.ntmps129
  go_wp2_with (go_at_call 127; (with_reducible refine H1.out.mono ?_); rintro e w1 ⟨v1, rfl, hv1, S1, V1⟩; have HS1 : Hid (SR E w1 (Res.bad r x : Res α) of (nb + 1) ob) := Lib.hid S1; clear S1 V1)
  have HB1 := Lib.hid (shl_bit hv1)
  clear H1 hv1
  go_loopg [3] 1 (fun gk fv wr => ∃ v : Nat, fv = .int .i64 (v : Int) ∧ v < 16 ∧ Hid (SR E wr (Res.bad r x : Res α) of (nb + 1) ob))
  case atStart => exact ⟨2 ^ v1, by rw [HB1.out.1], HB1.out.2, HS1⟩
  case round =>
    clear HS1 HB1
    obtain ⟨v, rfl, hv, Q⟩ := hrel
    have HTK := Lib.hid (HT.out _ Q.out)
    go_wp2_with (go_at_call 44; (with_reducible refine HTK.out.mono ?_); rintro e w2 ⟨rfl, S2⟩; have HS2 := Lib.hid S2; clear S2)
    refine bodyPost_ret (v := .int .i64 (v : Int)) (by simp [results, Tryz.results129, go_sem]) rfl ?_
    exact ⟨v, rfl, hv, HS2.out⟩
/-- A group, whether there is an error or not. -/
theorem rgroup_all (hE : E.Ok) {α : Type} {st : Res α} {of : α → List Nd} {N : Nat} (h : SR E w st of nb ob) (hn : ∀ a r, st = .ok a r → r.length ≤ N) (hnb : nb ≤ 900000) :
    Calls Tryz.prog 129 #[E.ptr] w fun e w' => ∃ v : Nat, e = .returned (.int .i64 (v : Int)) ∧ v < 16 ∧ SR E w' (thenP st (Ps.groupP (findS E.S E.S.A) (N + 1) 0)) (fun p => of p.1) (nb + 1) ob ∧ (∀ p r, thenP st (Ps.groupP (findS E.S E.S.A) (N + 1) 0) = .ok p r → v = p.2) := by
  cases st with
  | bad r x =>
    refine (rgroup_bad hE h hnb).mono ?_
    rintro e w' ⟨v, rfl, hv, hs⟩
    exact ⟨v, rfl, hv, hs, fun _ _ e => by cases e⟩
  | ok a ts =>
    refine (rgroup_live hE (o := of a) (show SR E w (Res.ok () ts) (fun _ => of a) nb ob from h) (hn a ts rfl) hnb).mono ?_
    rintro e w' ⟨v, rfl, hv, hs, hq⟩
    refine ⟨v, rfl, hv, ?_, ?_⟩
    · cases hg : Ps.groupP (findS E.S E.S.A) (N + 1) 0 ts with
      | ok g r => rw [hg] at hs; exact (by simp only [thenP, hg]; exact hs)
      | bad r x => rw [hg] at hs; exact (by simp only [thenP, hg]; exact hs)
    · intro p r e
      cases hg : Ps.groupP (findS E.S E.S.A) (N + 1) 0 ts with
      | ok g r' => simp only [thenP, hg] at e; cases e; exact hq _ _ hg
      | bad r' x => simp only [thenP, hg] at e; cases e
end
end Go.Proofs.YtdhdcenjiopofaaGreatDoor
