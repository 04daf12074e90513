/- The reference's reader: modal, by its letter, and update. Conditions: the reader lies as it is built; what formula and prefix do. The reference's reader: prefix and formula, on tokens that are fewer than the fuel. Conditions: the reader lies as it is built. The reference's Parse. Conditions: the variables lie as they are read. No condition. -/
import Derived.Test.YtdhdcenjiopofaaGreatDoorPdB
import Derived.Test.YtdhdcenjiopofaaGreatDoorPaV
import Derived.Test.YtdhdcenjiopofaaGreatDoorPb1
set_option linter.unusedVariables false
set_option linter.unusedSimpArgs false
namespace Go.Proofs.YtdhdcenjiopofaaGreatDoor
open Go.RowKit
open Fm (Nd put ins)
open Ps (Res)

theorem RPost.mono {E : RE} {w : World} {st : Res Fm.Form} {o : List Nd} {nb ob nb' ob' : Nat} {e : Ending} (h : RPost E w st o nb ob e) (h1 : nb ≤ nb') (h2 : ob ≤ ob') : RPost E w st o nb' ob' e := by
  obtain ⟨v, h3, h4, h5⟩ := h
  exact ⟨v, h3, h4.mono h1 h2, h5⟩
/-- A node with one operand, behind it. -/
theorem un_end {E : RE} {w : World} {α : Type} {st : Res (α × Fm.Form)} {o : List Nd} {nb ob v y : Nat} {op i e g : Int} {fi fe fg : α → Int}
    (hs : SR E w st (fun p => (put ⟨op, i, e, g, (y : Int), 0⟩ (ins p.2 o).2).2) nb ob) (hv : ∀ p r, st = .ok p r → v = (put ⟨op, i, e, g, (y : Int), 0⟩ (ins p.2 o).2).1)
    (hy : ∀ p r, st = .ok p r → y = (ins p.2 o).1) (hf : ∀ p r, st = .ok p r → i = fi p.1 ∧ e = fe p.1 ∧ g = fg p.1) :
    RPost E w (mapR st fun p => Fm.Form.un op (fi p.1) (fe p.1) (fg p.1) p.2) o nb ob (.returned (.int .i64 (v : Int))) := by
  cases st with
  | bad r x => exact ⟨v, rfl, hs, fun t r e => by cases e⟩
  | ok p r =>
    obtain ⟨rfl, rfl, rfl⟩ := hf p r rfl
    have e3 := hy p r rfl
    have e4 := hv p r rfl
    subst e3
    exact ⟨v, rfl, hs, fun t' r' e => by cases e; exact e4⟩
/-- A node with two operands, behind the second. -/
theorem bin_end {E : RE} {w : World} {α : Type} {st : Res (α × Fm.Form)} {o : List Nd} {nb ob v x y : Nat} {op i e g : Int} {fi fe fg : α → Int} {ff : α → Fm.Form}
    (hs : SR E w st (fun p => (put ⟨op, i, e, g, (x : Int), (y : Int)⟩ (ins p.2 (ins (ff p.1) o).2).2).2) nb ob) (hv : ∀ p r, st = .ok p r → v = (put ⟨op, i, e, g, (x : Int), (y : Int)⟩ (ins p.2 (ins (ff p.1) o).2).2).1)
    (hy : ∀ p r, st = .ok p r → y = (ins p.2 (ins (ff p.1) o).2).1) (hf : ∀ p r, st = .ok p r → i = fi p.1 ∧ e = fe p.1 ∧ g = fg p.1 ∧ x = (ins (ff p.1) o).1) :
    RPost E w (mapR st fun p => Fm.Form.bin op (fi p.1) (fe p.1) (fg p.1) (ff p.1) p.2) o nb ob (.returned (.int .i64 (v : Int))) := by
  cases st with
  | bad r x => exact ⟨v, rfl, hs, fun t r e => by cases e⟩
  | ok p r =>
    obtain ⟨rfl, rfl, rfl, e2⟩ := hf p r rfl
    have e3 := hy p r rfl
    have e4 := hv p r rfl
    subst e3
    subst e2
    exact ⟨v, rfl, hs, fun t' r' e => by cases e; exact e4⟩
section
variable {form q : Ps.P Fm.Form} {S : Ps.Sig} {n : Nat} {r : List ByteArray}
theorem req_gr (op : Int) : Ps.grP S op q n r = mapR (thenP (thenW (thenP (thenW (Res.ok () r) Ps.wLB) (Ps.groupP S.ag n 0)) Ps.wRB) q) fun p => Fm.Form.un op 0 0 (p.1.2 : Int) p.2 := by
  simp only [Ps.grP, Ps.bind, thenW]
  cases Ps.want Ps.wLB r with
  | bad r x => rfl
  | ok u r =>
    simp only [thenP]
    cases Ps.groupP S.ag n 0 r with
    | bad r x => rfl
    | ok i r =>
      simp only
      cases Ps.want Ps.wRB r with
      | bad r x => rfl
      | ok u r => simp only; cases q r <;> rfl
theorem req_bel : Ps.belP S form q r = mapR (thenP (thenW (thenP (thenP (thenW (Res.ok () r) Ps.wLB) (Ps.name S.ag)) (Ps.barP form)) Ps.wRB) q) fun p => Fm.Form.bin 14 (p.1.1.2 : Int) 0 0 p.1.2 p.2 := by
  simp only [Ps.belP, Ps.bind, thenW]
  cases Ps.want Ps.wLB r with
  | bad r x => rfl
  | ok u r =>
    simp only [thenP]
    cases Ps.name S.ag r with
    | bad r x => rfl
    | ok i r =>
      simp only
      cases Ps.barP form r with
      | bad r x => rfl
      | ok c r =>
        simp only
        cases Ps.want Ps.wRB r with
        | bad r x => rfl
        | ok u r => simp only; cases q r <;> rfl
theorem req_com : Ps.comP S form q n r = mapR (thenP (thenW (thenP (thenP (thenW (Res.ok () r) Ps.wLB) (Ps.groupP S.ag n 0)) (Ps.barP form)) Ps.wRB) q) fun p => Fm.Form.bin 13 0 0 (p.1.1.2 : Int) p.1.2 p.2 := by
  simp only [Ps.comP, Ps.bind, thenW]
  cases Ps.want Ps.wLB r with
  | bad r x => rfl
  | ok u r =>
    simp only [thenP]
    cases Ps.groupP S.ag n 0 r with
    | bad r x => rfl
    | ok i r =>
      simp only
      cases Ps.barP form r with
      | bad r x => rfl
      | ok c r =>
        simp only
        cases Ps.want Ps.wRB r with
        | bad r x => rfl
        | ok u r => simp only; cases q r <;> rfl
end
section
variable {α β : Type} {st : Res α} {s : ByteArray} {p : Ps.P β} {m : Nat}
/-- A bound on what is left. -/
theorem leW (h : ∀ a r, st = .ok a r → r.length ≤ m) : ∀ a r, thenW st s = .ok a r → r.length ≤ m := fun a r e => by
  obtain ⟨r', h1, h2⟩ := thenW_ok e
  have := h a r' h1
  have := (Ps.fine_want s).shr.ok h2
  omega
theorem leP (hp : Ps.Shr p) (h : ∀ a r, st = .ok a r → r.length ≤ m) : ∀ a r, thenP st p = .ok a r → r.length ≤ m := fun a r e => by
  obtain ⟨r', h1, h2⟩ := thenP_le hp e
  have := h a.1 r' h1
  omega
theorem le0 {a0 : α} {ts : List ByteArray} (h : ts.length ≤ m) : ∀ a r, (Res.ok a0 ts : Res α) = .ok a r → r.length ≤ m := fun a r e => by cases e; exact h
theorem ltN {N : Nat} (h : ∀ a r, st = .ok a r → r.length ≤ m) (hm : m < N) : ∀ a r, st = .ok a r → r.length < N := fun a r e => Nat.lt_of_le_of_lt (h a r e) hm
end
section
set_option maxRecDepth 100000
set_option maxHeartbeats 4000000
variable {E : RE}
theorem rmodal_K (hE : E.Ok) {form q : Ps.P Fm.Form} {M : Nat} (HFO : RPart E 21 form (M + 1)) (hff : Ps.Fine form) (HP : RPart E 116 q (M + 1)) {ts : List ByteArray} {w : World} {o : List Nd} {nb ob : Nat} (hlt : ts.length ≤ M) (hnb : nb + 8 ≤ 900000) (hob : ob + 8 ≤ 900000) (hl : SR E w (Res.ok () ts) (fun _ => o) nb ob) :
    Calls Tryz.prog 124 #[E.ptr, .string ⟨#[75]⟩] w fun e w' => RPost E w' (mapR (thenP (thenW (thenP (thenW (Res.ok () ts) Ps.wLB) (Ps.name (findS E.S E.S.A))) Ps.wRB) q) fun p => Fm.Form.un 9 (p.1.2 : Int) 0 0 p.2) o (nb + 4) (ob + 2) e := by
  have HW1 := Lib.hid (rwant_all hE ⟨#[91]⟩ (by decide) hl (by omega))
  have HPX := Lib.hid HP
  have HFX := Lib.hid HFO
  have HFF := Lib.hid hff
  have L0 := Lib.hid (le0 (α := Unit) (a0 := ()) hlt)
  clear HP HFO hff hlt hl
  go_enter Tryz.func124, Tryz.ntmps124
  go_wp2_with (first
    | (go_at_call 126; (with_reducible refine HW1.out.mono ?_); rintro e w1 ⟨rfl, S1⟩; have H2 := Lib.hid (rname1_all hE S1 (by omega)); clear S1)
    | (go_at_call 127; (with_reducible refine H2.out.mono ?_); rintro e w2 ⟨v, rfl, hv, S2, V2⟩; have HV2 := Lib.hid V2; have HW2 := Lib.hid (rwant_all hE ⟨#[93]⟩ (by decide) S2 (by omega)); clear V2 S2 hv)
    | (go_at_call 126; (with_reducible refine HW2.out.mono ?_); rintro e w3 ⟨rfl, S3⟩; have H4 := Lib.hid (HPX.out.all rprefix_nil S3 (ltN (leW (leP (Ps.fine_name _).shr (leW L0.out))) (Nat.lt_succ_self M)) (by omega) (by omega)); clear S3)
    | (go_at_call 116; (with_reducible refine H4.out.mono ?_); rintro e w4 ⟨y, rfl, S4, V4⟩; have HV4 := Lib.hid V4; have H5 := Lib.hid (rnode_all hE S4 (by omega) ⟨9, (v : Int), 0, 0, (y : Int), 0⟩); clear S4 V4)
    | (go_at_call 45; (with_reducible refine H5.out.mono ?_); rintro e w5 ⟨v9, rfl, S5, V5⟩; have HS9 := Lib.hid S5; have HV9 := Lib.hid V5; clear S5 V5))
  refine bodyPost_ret (v := .int .i64 (v9 : Int)) (by simp [results, Tryz.results124, go_sem]) rfl ?_
  exact (un_end (fi := fun p : Unit × Nat => (p.2 : Int)) (fe := fun _ => 0) (fg := fun _ => 0) HS9.out HV9.out HV4.out (fun p r e => by
    obtain ⟨r5, h8⟩ := thenP_ok e
    obtain ⟨r6, h9, _⟩ := thenW_ok h8
    exact ⟨by rw [HV2.out _ _ h9], rfl, rfl⟩)).mono (by omega) (by omega)
theorem rmodal_M (hE : E.Ok) {form q : Ps.P Fm.Form} {M : Nat} (HFO : RPart E 21 form (M + 1)) (hff : Ps.Fine form) (HP : RPart E 116 q (M + 1)) {ts : List ByteArray} {w : World} {o : List Nd} {nb ob : Nat} (hlt : ts.length ≤ M) (hnb : nb + 8 ≤ 900000) (hob : ob + 8 ≤ 900000) (hl : SR E w (Res.ok () ts) (fun _ => o) nb ob) :
    Calls Tryz.prog 124 #[E.ptr, .string ⟨#[77]⟩] w fun e w' => RPost E w' (mapR (thenP (thenW (thenP (thenW (Res.ok () ts) Ps.wLB) (Ps.name (findS E.S E.S.A))) Ps.wRB) q) fun p => Fm.Form.un 10 (p.1.2 : Int) 0 0 p.2) o (nb + 4) (ob + 2) e := by
  have HW1 := Lib.hid (rwant_all hE ⟨#[91]⟩ (by decide) hl (by omega))
  have HPX := Lib.hid HP
  have HFX := Lib.hid HFO
  have HFF := Lib.hid hff
  have L0 := Lib.hid (le0 (α := Unit) (a0 := ()) hlt)
  clear HP HFO hff hlt hl
  go_enter Tryz.func124, Tryz.ntmps124
  go_wp2_with (first
    | (go_at_call 126; (with_reducible refine HW1.out.mono ?_); rintro e w1 ⟨rfl, S1⟩; have H2 := Lib.hid (rname1_all hE S1 (by omega)); clear S1)
    | (go_at_call 127; (with_reducible refine H2.out.mono ?_); rintro e w2 ⟨v, rfl, hv, S2, V2⟩; have HV2 := Lib.hid V2; have HW2 := Lib.hid (rwant_all hE ⟨#[93]⟩ (by decide) S2 (by omega)); clear V2 S2 hv)
    | (go_at_call 126; (with_reducible refine HW2.out.mono ?_); rintro e w3 ⟨rfl, S3⟩; have H4 := Lib.hid (HPX.out.all rprefix_nil S3 (ltN (leW (leP (Ps.fine_name _).shr (leW L0.out))) (Nat.lt_succ_self M)) (by omega) (by omega)); clear S3)
    | (go_at_call 116; (with_reducible refine H4.out.mono ?_); rintro e w4 ⟨y, rfl, S4, V4⟩; have HV4 := Lib.hid V4; have H5 := Lib.hid (rnode_all hE S4 (by omega) ⟨10, (v : Int), 0, 0, (y : Int), 0⟩); clear S4 V4)
    | (go_at_call 45; (with_reducible refine H5.out.mono ?_); rintro e w5 ⟨v9, rfl, S5, V5⟩; have HS9 := Lib.hid S5; have HV9 := Lib.hid V5; clear S5 V5))
  refine bodyPost_ret (v := .int .i64 (v9 : Int)) (by simp [results, Tryz.results124, go_sem]) rfl ?_
  exact (un_end (fi := fun p : Unit × Nat => (p.2 : Int)) (fe := fun _ => 0) (fg := fun _ => 0) HS9.out HV9.out HV4.out (fun p r e => by
    obtain ⟨r5, h8⟩ := thenP_ok e
    obtain ⟨r6, h9, _⟩ := thenW_ok h8
    exact ⟨by rw [HV2.out _ _ h9], rfl, rfl⟩)).mono (by omega) (by omega)
theorem rmodal_S (hE : E.Ok) {form q : Ps.P Fm.Form} {M : Nat} (HFO : RPart E 21 form (M + 1)) (hff : Ps.Fine form) (HP : RPart E 116 q (M + 1)) {ts : List ByteArray} {w : World} {o : List Nd} {nb ob : Nat} (hlt : ts.length ≤ M) (hnb : nb + 8 ≤ 900000) (hob : ob + 8 ≤ 900000) (hl : SR E w (Res.ok () ts) (fun _ => o) nb ob) :
    Calls Tryz.prog 124 #[E.ptr, .string ⟨#[83]⟩] w fun e w' => RPost E w' (mapR (thenP (thenW (thenP (thenW (Res.ok () ts) Ps.wLB) (Ps.name (findS E.S E.S.A))) Ps.wRB) q) fun p => Fm.Form.un 15 (p.1.2 : Int) 0 0 p.2) o (nb + 4) (ob + 2) e := by
  have HW1 := Lib.hid (rwant_all hE ⟨#[91]⟩ (by decide) hl (by omega))
  have HPX := Lib.hid HP
  have HFX := Lib.hid HFO
  have HFF := Lib.hid hff
  have L0 := Lib.hid (le0 (α := Unit) (a0 := ()) hlt)
  clear HP HFO hff hlt hl
  go_enter Tryz.func124, Tryz.ntmps124
  go_wp2_with (first
    | (go_at_call 126; (with_reducible refine HW1.out.mono ?_); rintro e w1 ⟨rfl, S1⟩; have H2 := Lib.hid (rname1_all hE S1 (by omega)); clear S1)
    | (go_at_call 127; (with_reducible refine H2.out.mono ?_); rintro e w2 ⟨v, rfl, hv, S2, V2⟩; have HV2 := Lib.hid V2; have HW2 := Lib.hid (rwant_all hE ⟨#[93]⟩ (by decide) S2 (by omega)); clear V2 S2 hv)
    | (go_at_call 126; (with_reducible refine HW2.out.mono ?_); rintro e w3 ⟨rfl, S3⟩; have H4 := Lib.hid (HPX.out.all rprefix_nil S3 (ltN (leW (leP (Ps.fine_name _).shr (leW L0.out))) (Nat.lt_succ_self M)) (by omega) (by omega)); clear S3)
    | (go_at_call 116; (with_reducible refine H4.out.mono ?_); rintro e w4 ⟨y, rfl, S4, V4⟩; have HV4 := Lib.hid V4; have H5 := Lib.hid (rnode_all hE S4 (by omega) ⟨15, (v : Int), 0, 0, (y : Int), 0⟩); clear S4 V4)
    | (go_at_call 45; (with_reducible refine H5.out.mono ?_); rintro e w5 ⟨v9, rfl, S5, V5⟩; have HS9 := Lib.hid S5; have HV9 := Lib.hid V5; clear S5 V5))
  refine bodyPost_ret (v := .int .i64 (v9 : Int)) (by simp [results, Tryz.results124, go_sem]) rfl ?_
  exact (un_end (fi := fun p : Unit × Nat => (p.2 : Int)) (fe := fun _ => 0) (fg := fun _ => 0) HS9.out HV9.out HV4.out (fun p r e => by
    obtain ⟨r5, h8⟩ := thenP_ok e
    obtain ⟨r6, h9, _⟩ := thenW_ok h8
    exact ⟨by rw [HV2.out _ _ h9], rfl, rfl⟩)).mono (by omega) (by omega)
theorem rmodal_E (hE : E.Ok) {form q : Ps.P Fm.Form} {M : Nat} (HFO : RPart E 21 form (M + 1)) (hff : Ps.Fine form) (HP : RPart E 116 q (M + 1)) {ts : List ByteArray} {w : World} {o : List Nd} {nb ob : Nat} (hlt : ts.length ≤ M) (hnb : nb + 8 ≤ 900000) (hob : ob + 8 ≤ 900000) (hl : SR E w (Res.ok () ts) (fun _ => o) nb ob) :
    Calls Tryz.prog 124 #[E.ptr, .string ⟨#[69]⟩] w fun e w' => RPost E w' (mapR (thenP (thenW (thenP (thenW (Res.ok () ts) Ps.wLB) (Ps.groupP (findS E.S E.S.A) (M + 1) 0)) Ps.wRB) q) fun p => Fm.Form.un 11 0 0 (p.1.2 : Int) p.2) o (nb + 4) (ob + 2) e := by
  have HW1 := Lib.hid (rwant_all hE ⟨#[91]⟩ (by decide) hl (by omega))
  have HPX := Lib.hid HP
  have HFX := Lib.hid HFO
  have HFF := Lib.hid hff
  have L0 := Lib.hid (le0 (α := Unit) (a0 := ()) hlt)
  clear HP HFO hff hlt hl
  go_enter Tryz.func124, Tryz.ntmps124
  go_wp2_with (first
    | (go_at_call 126; (with_reducible refine HW1.out.mono ?_); rintro e w1 ⟨rfl, S1⟩; have H2 := Lib.hid (rgroup_all hE (N := M) S1 (leW L0.out) (by omega)); clear S1)
    | (go_at_call 129; (with_reducible refine H2.out.mono ?_); rintro e w2 ⟨v, rfl, hv, S2, V2⟩; have HV2 := Lib.hid V2; have HW2 := Lib.hid (rwant_all hE ⟨#[93]⟩ (by decide) S2 (by omega)); clear V2 S2 hv)
    | (go_at_call 126; (with_reducible refine HW2.out.mono ?_); rintro e w3 ⟨rfl, S3⟩; have H4 := Lib.hid (HPX.out.all rprefix_nil S3 (ltN (leW (leP (Ps.fine_group _ _ _).shr (leW L0.out))) (Nat.lt_succ_self M)) (by omega) (by omega)); clear S3)
    | (go_at_call 116; (with_reducible refine H4.out.mono ?_); rintro e w4 ⟨y, rfl, S4, V4⟩; have HV4 := Lib.hid V4; have H5 := Lib.hid (rnode_all hE S4 (by omega) ⟨11, 0, 0, (v : Int), (y : Int), 0⟩); clear S4 V4)
    | (go_at_call 45; (with_reducible refine H5.out.mono ?_); rintro e w5 ⟨v9, rfl, S5, V5⟩; have HS9 := Lib.hid S5; have HV9 := Lib.hid V5; clear S5 V5))
  refine bodyPost_ret (v := .int .i64 (v9 : Int)) (by simp [results, Tryz.results124, go_sem]) rfl ?_
  exact (un_end (fi := fun _ : Unit × Nat => 0) (fe := fun _ => 0) (fg := fun p => (p.2 : Int)) HS9.out HV9.out HV4.out (fun p r e => by
    obtain ⟨r5, h8⟩ := thenP_ok e
    obtain ⟨r6, h9, _⟩ := thenW_ok h8
    exact ⟨rfl, rfl, by rw [HV2.out _ _ h9]⟩)).mono (by omega) (by omega)
theorem rmodal_D (hE : E.Ok) {form q : Ps.P Fm.Form} {M : Nat} (HFO : RPart E 21 form (M + 1)) (hff : Ps.Fine form) (HP : RPart E 116 q (M + 1)) {ts : List ByteArray} {w : World} {o : List Nd} {nb ob : Nat} (hlt : ts.length ≤ M) (hnb : nb + 8 ≤ 900000) (hob : ob + 8 ≤ 900000) (hl : SR E w (Res.ok () ts) (fun _ => o) nb ob) :
    Calls Tryz.prog 124 #[E.ptr, .string ⟨#[68]⟩] w fun e w' => RPost E w' (mapR (thenP (thenW (thenP (thenW (Res.ok () ts) Ps.wLB) (Ps.groupP (findS E.S E.S.A) (M + 1) 0)) Ps.wRB) q) fun p => Fm.Form.un 12 0 0 (p.1.2 : Int) p.2) o (nb + 4) (ob + 2) e := by
  have HW1 := Lib.hid (rwant_all hE ⟨#[91]⟩ (by decide) hl (by omega))
  have HPX := Lib.hid HP
  have HFX := Lib.hid HFO
  have HFF := Lib.hid hff
  have L0 := Lib.hid (le0 (α := Unit) (a0 := ()) hlt)
  clear HP HFO hff hlt hl
  go_enter Tryz.func124, Tryz.ntmps124
  go_wp2_with (first
    | (go_at_call 126; (with_reducible refine HW1.out.mono ?_); rintro e w1 ⟨rfl, S1⟩; have H2 := Lib.hid (rgroup_all hE (N := M) S1 (leW L0.out) (by omega)); clear S1)
    | (go_at_call 129; (with_reducible refine H2.out.mono ?_); rintro e w2 ⟨v, rfl, hv, S2, V2⟩; have HV2 := Lib.hid V2; have HW2 := Lib.hid (rwant_all hE ⟨#[93]⟩ (by decide) S2 (by omega)); clear V2 S2 hv)
    | (go_at_call 126; (with_reducible refine HW2.out.mono ?_); rintro e w3 ⟨rfl, S3⟩; have H4 := Lib.hid (HPX.out.all rprefix_nil S3 (ltN (leW (leP (Ps.fine_group _ _ _).shr (leW L0.out))) (Nat.lt_succ_self M)) (by omega) (by omega)); clear S3)
    | (go_at_call 116; (with_reducible refine H4.out.mono ?_); rintro e w4 ⟨y, rfl, S4, V4⟩; have HV4 := Lib.hid V4; have H5 := Lib.hid (rnode_all hE S4 (by omega) ⟨12, 0, 0, (v : Int), (y : Int), 0⟩); clear S4 V4)
    | (go_at_call 45; (with_reducible refine H5.out.mono ?_); rintro e w5 ⟨v9, rfl, S5, V5⟩; have HS9 := Lib.hid S5; have HV9 := Lib.hid V5; clear S5 V5))
  refine bodyPost_ret (v := .int .i64 (v9 : Int)) (by simp [results, Tryz.results124, go_sem]) rfl ?_
  exact (un_end (fi := fun _ : Unit × Nat => 0) (fe := fun _ => 0) (fg := fun p => (p.2 : Int)) HS9.out HV9.out HV4.out (fun p r e => by
    obtain ⟨r5, h8⟩ := thenP_ok e
    obtain ⟨r6, h9, _⟩ := thenW_ok h8
    exact ⟨rfl, rfl, by rw [HV2.out _ _ h9]⟩)).mono (by omega) (by omega)
theorem rmodal_B (hE : E.Ok) {form q : Ps.P Fm.Form} {M : Nat} (HFO : RPart E 21 form (M + 1)) (hff : Ps.Fine form) (HP : RPart E 116 q (M + 1)) {ts : List ByteArray} {w : World} {o : List Nd} {nb ob : Nat} (hlt : ts.length ≤ M) (hnb : nb + 8 ≤ 900000) (hob : ob + 8 ≤ 900000) (hl : SR E w (Res.ok () ts) (fun _ => o) nb ob) :
    Calls Tryz.prog 124 #[E.ptr, .string ⟨#[66]⟩] w fun e w' => RPost E w' (mapR (thenP (thenW (thenP (thenP (thenW (Res.ok () ts) Ps.wLB) (Ps.name (findS E.S E.S.A))) (Ps.barP form)) Ps.wRB) q) fun p => Fm.Form.bin 14 (p.1.1.2 : Int) 0 0 p.1.2 p.2) o (nb + 4) (ob + 2) e := by
  have HW1 := Lib.hid (rwant_all hE ⟨#[91]⟩ (by decide) hl (by omega))
  have HPX := Lib.hid HP
  have HFX := Lib.hid HFO
  have HFF := Lib.hid hff
  have L0 := Lib.hid (le0 (α := Unit) (a0 := ()) hlt)
  clear HP HFO hff hlt hl
  go_enter Tryz.func124, Tryz.ntmps124
  go_wp2_with (first
    | (go_at_call 126; (with_reducible refine HW1.out.mono ?_); rintro e w1 ⟨rfl, S1⟩; have H2 := Lib.hid (rname1_all hE S1 (by omega)); clear S1)
    | (go_at_call 127; (with_reducible refine H2.out.mono ?_); rintro e w2 ⟨v, rfl, hv, S2, V2⟩; have HV2 := Lib.hid V2; have H3 := Lib.hid (rbar_all hE HFX.out S2 (fun a r e => Nat.le_succ_of_le (leP (Ps.fine_name _).shr (leW L0.out) a r e)) (by omega) (by omega)); clear V2 S2 hv)
    | (go_at_call 130; (with_reducible refine H3.out.mono ?_); rintro e w6 ⟨x, rfl, S6, V6⟩; have HV6 := Lib.hid V6; have HW2 := Lib.hid (rwant_all hE ⟨#[93]⟩ (by decide) S6 (by omega)); clear V6 S6)
    | (go_at_call 126; (with_reducible refine HW2.out.mono ?_); rintro e w3 ⟨rfl, S3⟩; have H4 := Lib.hid (HPX.out.all rprefix_nil S3 (ltN (leW (leP (Ps.fine_bar HFF.out).shr (leP (Ps.fine_name _).shr (leW L0.out)))) (Nat.lt_succ_self M)) (by omega) (by omega)); clear S3)
    | (go_at_call 116; (with_reducible refine H4.out.mono ?_); rintro e w4 ⟨y, rfl, S4, V4⟩; have HV4 := Lib.hid V4; have H5 := Lib.hid (rnode_all hE S4 (by omega) ⟨14, (v : Int), 0, 0, (x : Int), (y : Int)⟩); clear S4 V4)
    | (go_at_call 45; (with_reducible refine H5.out.mono ?_); rintro e w5 ⟨v9, rfl, S5, V5⟩; have HS9 := Lib.hid S5; have HV9 := Lib.hid V5; clear S5 V5))
  refine bodyPost_ret (v := .int .i64 (v9 : Int)) (by simp [results, Tryz.results124, go_sem]) rfl ?_
  exact (bin_end (fi := fun p : (Unit × Nat) × Fm.Form => (p.1.2 : Int)) (fe := fun _ => 0) (fg := fun _ => 0) (ff := fun p => p.2) HS9.out HV9.out HV4.out (fun p r e => by
    obtain ⟨r5, h8⟩ := thenP_ok e
    obtain ⟨r6, h9, _⟩ := thenW_ok h8
    obtain ⟨r7, h11⟩ := thenP_ok h9
    exact ⟨by rw [HV2.out _ _ h11], rfl, rfl, HV6.out _ _ h9⟩)).mono (by omega) (by omega)
theorem rmodal_C (hE : E.Ok) {form q : Ps.P Fm.Form} {M : Nat} (HFO : RPart E 21 form (M + 1)) (hff : Ps.Fine form) (HP : RPart E 116 q (M + 1)) {ts : List ByteArray} {w : World} {o : List Nd} {nb ob : Nat} (hlt : ts.length ≤ M) (hnb : nb + 8 ≤ 900000) (hob : ob + 8 ≤ 900000) (hl : SR E w (Res.ok () ts) (fun _ => o) nb ob) :
    Calls Tryz.prog 124 #[E.ptr, .string ⟨#[67]⟩] w fun e w' => RPost E w' (mapR (thenP (thenW (thenP (thenP (thenW (Res.ok () ts) Ps.wLB) (Ps.groupP (findS E.S E.S.A) (M + 1) 0)) (Ps.barP form)) Ps.wRB) q) fun p => Fm.Form.bin 13 0 0 (p.1.1.2 : Int) p.1.2 p.2) o (nb + 4) (ob + 2) e := by
  have HW1 := Lib.hid (rwant_all hE ⟨#[91]⟩ (by decide) hl (by omega))
  have HPX := Lib.hid HP
  have HFX := Lib.hid HFO
  have HFF := Lib.hid hff
  have L0 := Lib.hid (le0 (α := Unit) (a0 := ()) hlt)
  clear HP HFO hff hlt hl
  go_enter Tryz.func124, Tryz.ntmps124
  go_wp2_with (first
    | (go_at_call 126; (with_reducible refine HW1.out.mono ?_); rintro e w1 ⟨rfl, S1⟩; have H2 := Lib.hid (rgroup_all hE (N := M) S1 (leW L0.out) (by omega)); clear S1)
    | (go_at_call 129; (with_reducible refine H2.out.mono ?_); rintro e w2 ⟨v, rfl, hv, S2, V2⟩; have HV2 := Lib.hid V2; have H3 := Lib.hid (rbar_all hE HFX.out S2 (fun a r e => Nat.le_succ_of_le (leP (Ps.fine_group _ _ _).shr (leW L0.out) a r e)) (by omega) (by omega)); clear V2 S2 hv)
    | (go_at_call 130; (with_reducible refine H3.out.mono ?_); rintro e w6 ⟨x, rfl, S6, V6⟩; have HV6 := Lib.hid V6; have HW2 := Lib.hid (rwant_all hE ⟨#[93]⟩ (by decide) S6 (by omega)); clear V6 S6)
    | (go_at_call 126; (with_reducible refine HW2.out.mono ?_); rintro e w3 ⟨rfl, S3⟩; have H4 := Lib.hid (HPX.out.all rprefix_nil S3 (ltN (leW (leP (Ps.fine_bar HFF.out).shr (leP (Ps.fine_group _ _ _).shr (leW L0.out)))) (Nat.lt_succ_self M)) (by omega) (by omega)); clear S3)
    | (go_at_call 116; (with_reducible refine H4.out.mono ?_); rintro e w4 ⟨y, rfl, S4, V4⟩; have HV4 := Lib.hid V4; have H5 := Lib.hid (rnode_all hE S4 (by omega) ⟨13, 0, 0, (v : Int), (x : Int), (y : Int)⟩); clear S4 V4)
    | (go_at_call 45; (with_reducible refine H5.out.mono ?_); rintro e w5 ⟨v9, rfl, S5, V5⟩; have HS9 := Lib.hid S5; have HV9 := Lib.hid V5; clear S5 V5))
  refine bodyPost_ret (v := .int .i64 (v9 : Int)) (by simp [results, Tryz.results124, go_sem]) rfl ?_
  exact (bin_end (fi := fun _ : (Unit × Nat) × Fm.Form => 0) (fe := fun _ => 0) (fg := fun p => (p.1.2 : Int)) (ff := fun p => p.2) HS9.out HV9.out HV4.out (fun p r e => by
    obtain ⟨r5, h8⟩ := thenP_ok e
    obtain ⟨r6, h9, _⟩ := thenW_ok h8
    obtain ⟨r7, h11⟩ := thenP_ok h9
    exact ⟨rfl, rfl, by rw [HV2.out _ _ h11], HV6.out _ _ h9⟩)).mono (by omega) (by omega)
theorem rupd_ann (hE : E.Ok) {form q : Ps.P Fm.Form} {M : Nat} (HFO : RPart E 21 form (M + 1)) (hff : Ps.Fine form) (HP : RPart E 116 q (M + 1)) {ts : List ByteArray} {w : World} {o : List Nd} {nb ob : Nat} (hlt : ts.length ≤ M) (hnb : nb + 8 ≤ 900000) (hob : ob + 8 ≤ 900000) (hl : SR E w (Res.ok () (Ps.wBang :: ts)) (fun _ => o) nb ob) :
    Calls Tryz.prog 125 #[E.ptr] w fun e w' => RPost E w' (mapR (thenP (thenW (thenP (Res.ok () ts) form) Ps.wRB) q) fun p => Fm.Form.bin 16 0 0 0 p.1.2 p.2) o (nb + 4) (ob + 2) e := by
  have HT := Lib.hid (rtakes_yes hE ⟨#[33]⟩ hl (by omega) (by simp [takes]; rfl))
  have HPX := Lib.hid HP
  have HFX := Lib.hid HFO
  have HFF := Lib.hid hff
  have L0 := Lib.hid (le0 (α := Unit) (a0 := ()) hlt)
  clear HP HFO hff hlt hl
  go_enter Tryz.func125, Tryz.ntmps125
  go_wp2_with (first
    | (go_at_call 44; (with_reducible refine HT.out.mono ?_); rintro e w1 ⟨rfl, S1⟩; have S1' : SR E w1 (Res.ok () ts) (fun _ => o) (nb - 8) (ob - 8) := S1; clear S1; have H2 := Lib.hid (HFX.out.all rformula_nil S1' (ltN L0.out (Nat.lt_succ_self M)) (by omega) (by omega)); clear S1')
    | (go_at_call 21; (with_reducible refine H2.out.mono ?_); rintro e w2 ⟨x, rfl, S2, V2⟩; have HV2 := Lib.hid V2; have HW2 := Lib.hid (rwant_all hE ⟨#[93]⟩ (by decide) S2 (by omega)); clear V2 S2)
    | (go_at_call 126; (with_reducible refine HW2.out.mono ?_); rintro e w3 ⟨rfl, S3⟩; have H4 := Lib.hid (HPX.out.all rprefix_nil S3 (ltN (leW (leP HFF.out.shr L0.out)) (Nat.lt_succ_self M)) (by omega) (by omega)); clear S3)
    | (go_at_call 116; (with_reducible refine H4.out.mono ?_); rintro e w4 ⟨y, rfl, S4, V4⟩; have HV4 := Lib.hid V4; have H5 := Lib.hid (rnode_all hE S4 (by omega) ⟨16, 0, 0, 0, (x : Int), (y : Int)⟩); clear S4 V4)
    | (go_at_call 45; (with_reducible refine H5.out.mono ?_); rintro e w5 ⟨v9, rfl, S5, V5⟩; have HS9 := Lib.hid S5; have HV9 := Lib.hid V5; clear S5 V5))
  refine bodyPost_ret (v := .int .i64 (v9 : Int)) (by simp [results, Tryz.results125, go_sem]) rfl ?_
  exact (bin_end (fi := fun _ : Unit × Fm.Form => 0) (fe := fun _ => 0) (fg := fun _ => 0) (ff := fun p => p.2) HS9.out HV9.out HV4.out (fun p r e => by
    obtain ⟨r5, h8⟩ := thenP_ok e
    obtain ⟨r6, h9, _⟩ := thenW_ok h8
    exact ⟨rfl, rfl, rfl, HV2.out _ _ h9⟩)).mono (by omega) (by omega)
theorem rupd_act (hE : E.Ok) {form q : Ps.P Fm.Form} {M : Nat} (HFO : RPart E 21 form (M + 1)) (hff : Ps.Fine form) (HP : RPart E 116 q (M + 1)) {ts : List ByteArray} {w : World} {o : List Nd} {nb ob : Nat} (hlt : ts.length ≤ M) (hnb : nb + 8 ≤ 900000) (hob : ob + 8 ≤ 900000) (hl : SR E w (Res.ok () ts) (fun _ => o) nb ob) (hno : ∀ r', ts ≠ Ps.wBang :: r') :
    Calls Tryz.prog 125 #[E.ptr] w fun e w' => RPost E w' (mapR (thenP (thenW (thenP (thenW (thenP (Res.ok () ts) (Ps.name (findS E.S E.S.C))) Ps.wDot) Ps.number) Ps.wRB) q) fun p => Fm.Form.un 17 (p.1.1.2 : Int) (p.1.2 : Int) 0 p.2) o (nb + 4) (ob + 2) e := by
  have HT := Lib.hid (rtakes_no hE ⟨#[33]⟩ (by decide) hl (by omega) (by cases ts with | nil => rfl | cons y r => simp only [takes, decide_eq_false_iff_not]; exact fun e => hno r (by rw [e]; rfl)))
  have HPX := Lib.hid HP
  have L0 := Lib.hid (le0 (α := Unit) (a0 := ()) hlt)
  clear HP HFO hff hlt hl hno
  go_enter Tryz.func125, Tryz.ntmps125
  go_wp2_with (first
    | (go_at_call 44; (with_reducible refine HT.out.mono ?_); rintro e w1 ⟨rfl, S1⟩; have H2 := Lib.hid (rname2_all hE S1 (by omega)); clear S1)
    | (go_at_call 127; (with_reducible refine H2.out.mono ?_); rintro e w2 ⟨v, rfl, hv, S2, V2⟩; have HV2 := Lib.hid V2; have HW2 := Lib.hid (rwant_all hE ⟨#[46]⟩ (by decide) S2 (by omega)); clear V2 S2 hv)
    | (go_at_call 126; (with_reducible refine HW2.out.mono ?_); rintro e w3 ⟨rfl, S3⟩; have H3 := Lib.hid (rnumber_all hE S3 (by omega)); clear S3)
    | (go_at_call 131; (with_reducible refine H3.out.mono ?_); rintro e w6 ⟨z, rfl, hz, S6, V6⟩; have HV6 := Lib.hid V6; have HW3 := Lib.hid (rwant_all hE ⟨#[93]⟩ (by decide) S6 (by omega)); clear V6 S6 hz)
    | (go_at_call 126; (with_reducible refine HW3.out.mono ?_); rintro e w7 ⟨rfl, S7⟩; have H4 := Lib.hid (HPX.out.all rprefix_nil S7 (ltN (leW (leP Ps.fine_number.shr (leW (leP (Ps.fine_name _).shr L0.out)))) (Nat.lt_succ_self M)) (by omega) (by omega)); clear S7)
    | (go_at_call 116; (with_reducible refine H4.out.mono ?_); rintro e w4 ⟨y, rfl, S4, V4⟩; have HV4 := Lib.hid V4; have H5 := Lib.hid (rnode_all hE S4 (by omega) ⟨17, (v : Int), (z : Int), 0, (y : Int), 0⟩); clear S4 V4)
    | (go_at_call 45; (with_reducible refine H5.out.mono ?_); rintro e w5 ⟨v9, rfl, S5, V5⟩; have HS9 := Lib.hid S5; have HV9 := Lib.hid V5; clear S5 V5))
  refine bodyPost_ret (v := .int .i64 (v9 : Int)) (by simp [results, Tryz.results125, go_sem]) rfl ?_
  exact (un_end (fi := fun p : (Unit × Nat) × Nat => (p.1.2 : Int)) (fe := fun p => (p.2 : Int)) (fg := fun _ => 0) HS9.out HV9.out HV4.out (fun p r e => by
    obtain ⟨r5, h8⟩ := thenP_ok e
    obtain ⟨r6, h9, _⟩ := thenW_ok h8
    obtain ⟨r7, h10⟩ := thenP_ok h9
    obtain ⟨r8, h11, _⟩ := thenW_ok h10
    exact ⟨by rw [HV2.out _ _ h11], by rw [HV6.out _ _ h9], rfl⟩)).mono (by omega) (by omega)
end
end Go.Proofs.YtdhdcenjiopofaaGreatDoor
namespace Go.Proofs.YtdhdcenjiopofaaGreatDoor
open Go.RowKit
open Fm (Nd put ins)
open Ps (Res)

section
set_option maxRecDepth 100000
set_option maxHeartbeats 4000000
variable {E : RE}
theorem rgo (hE : E.Ok) {t : ByteArray} {r : List ByteArray} {w : World} {o : List Nd} {nb ob : Nat} (h : SR E w (Res.ok () (t :: r)) (fun _ => o) nb ob) : ∃ k : Nat, k ≤ 4000 ∧ w.cell? ⟨E.b, 4, none⟩ = some (.int .i64 (k : Int)) ∧ w.frozen? ⟨E.b, 4, none⟩ = false ∧ SR E (w.setCell ⟨E.b, 4, none⟩ (.int .i64 ((k : Int) + 1))) (Res.ok () r) (fun _ => o) (nb - 8) (ob - 8) := by
  obtain ⟨⟨hsuf, dv, hst⟩, h1, h2⟩ := h
  have hle := hsuf.length_le
  have hbig := hE.big
  refine ⟨E.ws.length - (t :: r).length, by omega, hst.c4, hst.fr 4, ⟨RSt.live hsuf (dv := dv) ?_, ?_, ?_⟩⟩
  · have := hst.setNext hE (E.ws.length - (t :: r).length + 1)
    rwa [show ((E.ws.length - (t :: r).length + 1 : Nat) : Int) = ((E.ws.length - (t :: r).length : Nat) : Int) + 1 by omega] at this
  · simp only [List.length_cons] at h1; omega
  · simp only [List.length_cons] at h2; simp only; omega
theorem rlook_tok (hE : E.Ok) {t : ByteArray} {r : List ByteArray} {w : World} {o : List Nd} {nb ob : Nat} (h : SR E w (Res.ok () (t :: r)) (fun _ => o) nb ob) : w.cell? ⟨E.b, 7, none⟩ = some (.int .i64 0) ∧ Calls Tryz.prog 68 #[E.ptr] w fun e w' => e = .returned (.string t) ∧ Keep NoF w w' := by
  obtain ⟨⟨hsuf, dv, hst⟩, h1, h2⟩ := h
  have hbig := hE.big
  refine ⟨hst.c7, ?_⟩
  have := rlook_any hE hst (by omega)
  rwa [word_cons hsuf] at this
theorem rname0_live (hE : E.Ok) {ts : List ByteArray} {w : World} {o : List Nd} {nb ob : Nat} (h : SR E w (Res.ok () ts) (fun _ => o) nb ob) (hnb : nb ≤ 1000000) : Calls Tryz.prog 127 #[E.ptr, .int .i64 0] w fun e w' => ∃ v : Nat, e = .returned (.int .i64 (v : Int)) ∧ v < 8 ∧ SR E w' (thenP (Res.ok () ts) (Ps.name (findS E.S E.S.F))) (fun _ => o) (nb - 8) (ob - 8) ∧ (∀ p r, thenP (Res.ok () ts) (Ps.name (findS E.S E.S.F)) = .ok p r → v = p.2) := by
  have hlt : ∀ t, findS E.S E.S.F t < ((8 : Nat) : Int) := lt_find hE.chk (checkS_ok hE.chk).lF
  obtain ⟨⟨hsuf, dv, hst⟩, h1, h2⟩ := h
  have hle := hsuf.length_le
  cases ts with
  | nil =>
    have hn : Ps.nameE (findS E.S E.S.F) (wordAt E.ws (E.ws.length - ([] : List ByteArray).length)) = .error 4 := by rw [word_nil]; exact if_pos (.inl (by decide))
    refine (rname0_err hE hst (by omega) hn).mono ?_
    rintro e w' ⟨rfl, hq⟩
    rw [if_pos rfl, if_pos rfl] at hq
    simp only [List.length_nil] at h1 h2
    exact ⟨0, rfl, by omega, ⟨by omega, _, dv, o, by omega, by omega, hq⟩, fun _ _ e => by cases e⟩
  | cons t r =>
    simp only [List.length_cons] at h1 h2
    cases hn : Ps.nameE (findS E.S E.S.F) t with
    | ok i =>
      have e1 : thenP (.ok () (t :: r)) (Ps.name (findS E.S E.S.F)) = .ok ((), i) r := by simp only [thenP, Ps.name, Ps.tok_ok hn]
      rw [e1]
      refine (rname0_ok hE hst (by omega) (by rw [word_cons hsuf]; exact hn)).mono ?_
      rintro e w' ⟨rfl, hq⟩
      exact ⟨i, rfl, Ps.nameE_lt hlt hn, ⟨RSt.live hsuf hq, by omega, by simp only; omega⟩, fun _ _ e => by cases e; rfl⟩
    | error y =>
      have e1 : thenP (.ok () (t :: r)) (Ps.name (findS E.S E.S.F)) = .bad (t :: r) y := by simp only [thenP, Ps.name, Ps.tok_err hn]
      rw [e1]
      refine (rname0_err hE hst (by omega) (by rw [word_cons hsuf]; exact hn)).mono ?_
      rintro e w' ⟨rfl, hq⟩
      rw [if_pos rfl, if_pos rfl] at hq
      have hy : 0 < y := by
        unfold Ps.nameE at hn
        split at hn
        · cases hn; omega
        · split at hn
          · cases hn; omega
          · cases hn
      exact ⟨0, rfl, by omega, ⟨hy, _, dv, o, by omega, by omega, hq⟩, fun _ _ e => by cases e⟩
theorem rupd_any (hE : E.Ok) {form q : Ps.P Fm.Form} {M : Nat} (HFO : RPart E 21 form (M + 1)) (hff : Ps.Fine form) (HP : RPart E 116 q (M + 1)) {ts : List ByteArray} {w : World} {o : List Nd} {nb ob : Nat} (hlt : ts.length ≤ M) (hnb : nb + 8 ≤ 900000) (hob : ob + 8 ≤ 900000) (hl : SR E w (Res.ok () ts) (fun _ => o) nb ob) :
    Calls Tryz.prog 125 #[E.ptr] w fun e w' => RPost E w' (Ps.dynP (sigP E.S) form q ts) o (nb + 4) (ob + 2) e := by
  by_cases hb : ∃ r', ts = Ps.wBang :: r'
  · obtain ⟨r', rfl⟩ := hb
    rw [eq_ann]
    exact rupd_ann hE HFO hff HP (by simp at hlt; omega) hnb hob hl
  · have hno : ∀ r', ts ≠ Ps.wBang :: r' := fun r' e => hb ⟨r', e⟩
    rw [eq_act hno]
    exact rupd_act hE HFO hff HP hlt hnb hob hl hno
theorem rprefix_Not (hE : E.Ok) {form q : Ps.P Fm.Form} {M : Nat} (HFO : RPart E 21 form (M + 1)) (hff : Ps.Fine form) (HP : RPart E 116 q (M + 1)) {r : List ByteArray} {w : World} {o : List Nd} {nb ob : Nat} (hlt : r.length ≤ M) (hnb : nb ≤ 900000) (hob : ob ≤ 900000) (hl : SR E w (Res.ok () (⟨#[126]⟩ :: r)) (fun _ => o) nb ob) :
    Calls Tryz.prog 116 #[E.ptr] w fun e w' => RPost E w' (mapR (thenP (Res.ok () r) q) fun p => Fm.Form.un 4 0 0 0 p.2) o nb ob e := by
  obtain ⟨c7, hlk⟩ := rlook_tok hE hl
  have HLK := Lib.hid hlk
  have HGO : Hid (∀ w1, Keep NoF w w1 → _) := Lib.hid fun w1 (hk : Keep NoF w w1) => rgo hE (hl.keep hk)
  have hb8 : 8 ≤ nb ∧ 8 ≤ ob := ⟨by have := hl.2.1; omega, by have := hl.2.2; omega⟩
  obtain ⟨hn8, ho8⟩ := hb8
  have HPX := Lib.hid HP
  have HFX := Lib.hid HFO
  have HFF := Lib.hid hff
  have HLT := Lib.hid hlt
  have L0 := Lib.hid (le0 (α := Unit) (a0 := ()) hlt)
  clear HP HFO hff hlt hl hlk
  go_enter Tryz.func116, Tryz.ntmps116
  go_wp2_with (first
    | (go_at_call 68; (with_reducible refine HLK.out.mono ?_); rintro e w1 ⟨rfl, K1⟩; obtain ⟨k, hk, c4, f4, S1⟩ := HGO.out w1 K1; have H2 := Lib.hid (HPX.out.all rprefix_nil S1 (ltN L0.out (Nat.lt_succ_self M)) (by omega) (by omega)); clear S1)
    | (go_at_call 116; (with_reducible refine H2.out.mono ?_); rintro e w4 ⟨y, rfl, S4, V4⟩; have HV4 := Lib.hid V4; have H5 := Lib.hid (rnode_all hE S4 (by omega) ⟨4, 0, 0, 0, (y : Int), 0⟩); clear S4 V4)
    | (go_at_call 45; (with_reducible refine H5.out.mono ?_); rintro e w5 ⟨v9, rfl, S5, V5⟩; have HS9 := Lib.hid S5; have HV9 := Lib.hid V5; clear S5 V5))
  refine bodyPost_ret (v := .int .i64 (v9 : Int)) (by simp [results, Tryz.results116, go_sem]) rfl ?_
  exact (un_end (fi := fun _ : Unit => 0) (fe := fun _ => 0) (fg := fun _ => 0) HS9.out HV9.out HV4.out (fun p r e => ⟨rfl, rfl, rfl⟩)).mono (by omega) (by omega)
theorem rprefix_Next (hE : E.Ok) {form q : Ps.P Fm.Form} {M : Nat} (HFO : RPart E 21 form (M + 1)) (hff : Ps.Fine form) (HP : RPart E 116 q (M + 1)) {r : List ByteArray} {w : World} {o : List Nd} {nb ob : Nat} (hlt : r.length ≤ M) (hnb : nb ≤ 900000) (hob : ob ≤ 900000) (hl : SR E w (Res.ok () (⟨#[110, 101, 120, 116]⟩ :: r)) (fun _ => o) nb ob) :
    Calls Tryz.prog 116 #[E.ptr] w fun e w' => RPost E w' (mapR (thenP (Res.ok () r) q) fun p => Fm.Form.un 18 0 0 0 p.2) o nb ob e := by
  obtain ⟨c7, hlk⟩ := rlook_tok hE hl
  have HLK := Lib.hid hlk
  have HGO : Hid (∀ w1, Keep NoF w w1 → _) := Lib.hid fun w1 (hk : Keep NoF w w1) => rgo hE (hl.keep hk)
  have hb8 : 8 ≤ nb ∧ 8 ≤ ob := ⟨by have := hl.2.1; omega, by have := hl.2.2; omega⟩
  obtain ⟨hn8, ho8⟩ := hb8
  have HPX := Lib.hid HP
  have HFX := Lib.hid HFO
  have HFF := Lib.hid hff
  have HLT := Lib.hid hlt
  have L0 := Lib.hid (le0 (α := Unit) (a0 := ()) hlt)
  clear HP HFO hff hlt hl hlk
  go_enter Tryz.func116, Tryz.ntmps116
  go_wp2_with (first
    | (go_at_call 68; (with_reducible refine HLK.out.mono ?_); rintro e w1 ⟨rfl, K1⟩; obtain ⟨k, hk, c4, f4, S1⟩ := HGO.out w1 K1; have H2 := Lib.hid (HPX.out.all rprefix_nil S1 (ltN L0.out (Nat.lt_succ_self M)) (by omega) (by omega)); clear S1)
    | (go_at_call 116; (with_reducible refine H2.out.mono ?_); rintro e w4 ⟨y, rfl, S4, V4⟩; have HV4 := Lib.hid V4; have H5 := Lib.hid (rnode_all hE S4 (by omega) ⟨18, 0, 0, 0, (y : Int), 0⟩); clear S4 V4)
    | (go_at_call 45; (with_reducible refine H5.out.mono ?_); rintro e w5 ⟨v9, rfl, S5, V5⟩; have HS9 := Lib.hid S5; have HV9 := Lib.hid V5; clear S5 V5))
  refine bodyPost_ret (v := .int .i64 (v9 : Int)) (by simp [results, Tryz.results116, go_sem]) rfl ?_
  exact (un_end (fi := fun _ : Unit => 0) (fe := fun _ => 0) (fg := fun _ => 0) HS9.out HV9.out HV4.out (fun p r e => ⟨rfl, rfl, rfl⟩)).mono (by omega) (by omega)
theorem rprefix_Prev (hE : E.Ok) {form q : Ps.P Fm.Form} {M : Nat} (HFO : RPart E 21 form (M + 1)) (hff : Ps.Fine form) (HP : RPart E 116 q (M + 1)) {r : List ByteArray} {w : World} {o : List Nd} {nb ob : Nat} (hlt : r.length ≤ M) (hnb : nb ≤ 900000) (hob : ob ≤ 900000) (hl : SR E w (Res.ok () (⟨#[112, 114, 101, 118]⟩ :: r)) (fun _ => o) nb ob) :
    Calls Tryz.prog 116 #[E.ptr] w fun e w' => RPost E w' (mapR (thenP (Res.ok () r) q) fun p => Fm.Form.un 20 0 0 0 p.2) o nb ob e := by
  obtain ⟨c7, hlk⟩ := rlook_tok hE hl
  have HLK := Lib.hid hlk
  have HGO : Hid (∀ w1, Keep NoF w w1 → _) := Lib.hid fun w1 (hk : Keep NoF w w1) => rgo hE (hl.keep hk)
  have hb8 : 8 ≤ nb ∧ 8 ≤ ob := ⟨by have := hl.2.1; omega, by have := hl.2.2; omega⟩
  obtain ⟨hn8, ho8⟩ := hb8
  have HPX := Lib.hid HP
  have HFX := Lib.hid HFO
  have HFF := Lib.hid hff
  have HLT := Lib.hid hlt
  have L0 := Lib.hid (le0 (α := Unit) (a0 := ()) hlt)
  clear HP HFO hff hlt hl hlk
  go_enter Tryz.func116, Tryz.ntmps116
  go_wp2_with (first
    | (go_at_call 68; (with_reducible refine HLK.out.mono ?_); rintro e w1 ⟨rfl, K1⟩; obtain ⟨k, hk, c4, f4, S1⟩ := HGO.out w1 K1; have H2 := Lib.hid (HPX.out.all rprefix_nil S1 (ltN L0.out (Nat.lt_succ_self M)) (by omega) (by omega)); clear S1)
    | (go_at_call 116; (with_reducible refine H2.out.mono ?_); rintro e w4 ⟨y, rfl, S4, V4⟩; have HV4 := Lib.hid V4; have H5 := Lib.hid (rnode_all hE S4 (by omega) ⟨20, 0, 0, 0, (y : Int), 0⟩); clear S4 V4)
    | (go_at_call 45; (with_reducible refine H5.out.mono ?_); rintro e w5 ⟨v9, rfl, S5, V5⟩; have HS9 := Lib.hid S5; have HV9 := Lib.hid V5; clear S5 V5))
  refine bodyPost_ret (v := .int .i64 (v9 : Int)) (by simp [results, Tryz.results116, go_sem]) rfl ?_
  exact (un_end (fi := fun _ : Unit => 0) (fe := fun _ => 0) (fg := fun _ => 0) HS9.out HV9.out HV4.out (fun p r e => ⟨rfl, rfl, rfl⟩)).mono (by omega) (by omega)
theorem rprefix_True (hE : E.Ok) {form q : Ps.P Fm.Form} {M : Nat} (HFO : RPart E 21 form (M + 1)) (hff : Ps.Fine form) (HP : RPart E 116 q (M + 1)) {r : List ByteArray} {w : World} {o : List Nd} {nb ob : Nat} (hlt : r.length ≤ M) (hnb : nb ≤ 900000) (hob : ob ≤ 900000) (hl : SR E w (Res.ok () (⟨#[116, 114, 117, 101]⟩ :: r)) (fun _ => o) nb ob) :
    Calls Tryz.prog 116 #[E.ptr] w fun e w' => RPost E w' (.ok (Fm.Form.leaf 1 0 0 0) r) o nb ob e := by
  obtain ⟨c7, hlk⟩ := rlook_tok hE hl
  have HLK := Lib.hid hlk
  have HGO : Hid (∀ w1, Keep NoF w w1 → _) := Lib.hid fun w1 (hk : Keep NoF w w1) => rgo hE (hl.keep hk)
  have hb8 : 8 ≤ nb ∧ 8 ≤ ob := ⟨by have := hl.2.1; omega, by have := hl.2.2; omega⟩
  obtain ⟨hn8, ho8⟩ := hb8
  have HPX := Lib.hid HP
  have HFX := Lib.hid HFO
  have HFF := Lib.hid hff
  have HLT := Lib.hid hlt
  have L0 := Lib.hid (le0 (α := Unit) (a0 := ()) hlt)
  clear HP HFO hff hlt hl hlk
  go_enter Tryz.func116, Tryz.ntmps116
  go_wp2_with (first
    | (go_at_call 68; (with_reducible refine HLK.out.mono ?_); rintro e w1 ⟨rfl, K1⟩; obtain ⟨k, hk, c4, f4, S1⟩ := HGO.out w1 K1; have H2 := Lib.hid (rnode_all hE S1 (by omega) ⟨1, 0, 0, 0, 0, 0⟩); clear S1)
    | (go_at_call 45; (with_reducible refine H2.out.mono ?_); rintro e w5 ⟨v9, rfl, S5, V5⟩; have HS9 := Lib.hid S5; have HV9 := Lib.hid V5; clear S5 V5))
  refine bodyPost_ret (v := .int .i64 (v9 : Int)) (by simp [results, Tryz.results116, go_sem]) rfl ?_
  exact RPost.mono (nb := nb - 8) (ob := ob - 8 + 1) ⟨v9, rfl, HS9.out, fun t' r' e => by cases e; exact HV9.out () r rfl⟩ (by omega) (by omega)
theorem rprefix_False (hE : E.Ok) {form q : Ps.P Fm.Form} {M : Nat} (HFO : RPart E 21 form (M + 1)) (hff : Ps.Fine form) (HP : RPart E 116 q (M + 1)) {r : List ByteArray} {w : World} {o : List Nd} {nb ob : Nat} (hlt : r.length ≤ M) (hnb : nb ≤ 900000) (hob : ob ≤ 900000) (hl : SR E w (Res.ok () (⟨#[102, 97, 108, 115, 101]⟩ :: r)) (fun _ => o) nb ob) :
    Calls Tryz.prog 116 #[E.ptr] w fun e w' => RPost E w' (.ok (Fm.Form.leaf 2 0 0 0) r) o nb ob e := by
  obtain ⟨c7, hlk⟩ := rlook_tok hE hl
  have HLK := Lib.hid hlk
  have HGO : Hid (∀ w1, Keep NoF w w1 → _) := Lib.hid fun w1 (hk : Keep NoF w w1) => rgo hE (hl.keep hk)
  have hb8 : 8 ≤ nb ∧ 8 ≤ ob := ⟨by have := hl.2.1; omega, by have := hl.2.2; omega⟩
  obtain ⟨hn8, ho8⟩ := hb8
  have HPX := Lib.hid HP
  have HFX := Lib.hid HFO
  have HFF := Lib.hid hff
  have HLT := Lib.hid hlt
  have L0 := Lib.hid (le0 (α := Unit) (a0 := ()) hlt)
  clear HP HFO hff hlt hl hlk
  go_enter Tryz.func116, Tryz.ntmps116
  go_wp2_with (first
    | (go_at_call 68; (with_reducible refine HLK.out.mono ?_); rintro e w1 ⟨rfl, K1⟩; obtain ⟨k, hk, c4, f4, S1⟩ := HGO.out w1 K1; have H2 := Lib.hid (rnode_all hE S1 (by omega) ⟨2, 0, 0, 0, 0, 0⟩); clear S1)
    | (go_at_call 45; (with_reducible refine H2.out.mono ?_); rintro e w5 ⟨v9, rfl, S5, V5⟩; have HS9 := Lib.hid S5; have HV9 := Lib.hid V5; clear S5 V5))
  refine bodyPost_ret (v := .int .i64 (v9 : Int)) (by simp [results, Tryz.results116, go_sem]) rfl ?_
  exact RPost.mono (nb := nb - 8) (ob := ob - 8 + 1) ⟨v9, rfl, HS9.out, fun t' r' e => by cases e; exact HV9.out () r rfl⟩ (by omega) (by omega)
theorem rprefix_L (hE : E.Ok) {form q : Ps.P Fm.Form} {M : Nat} (HFO : RPart E 21 form (M + 1)) (hff : Ps.Fine form) (HP : RPart E 116 q (M + 1)) {r : List ByteArray} {w : World} {o : List Nd} {nb ob : Nat} (hlt : r.length ≤ M) (hnb : nb ≤ 900000) (hob : ob ≤ 900000) (hl : SR E w (Res.ok () (⟨#[40]⟩ :: r)) (fun _ => o) nb ob) :
    Calls Tryz.prog 116 #[E.ptr] w fun e w' => RPost E w' (mapR (thenW (thenP (Res.ok () r) form) Ps.wR) fun p => p.2) o nb ob e := by
  obtain ⟨c7, hlk⟩ := rlook_tok hE hl
  have HLK := Lib.hid hlk
  have HGO : Hid (∀ w1, Keep NoF w w1 → _) := Lib.hid fun w1 (hk : Keep NoF w w1) => rgo hE (hl.keep hk)
  have hb8 : 8 ≤ nb ∧ 8 ≤ ob := ⟨by have := hl.2.1; omega, by have := hl.2.2; omega⟩
  obtain ⟨hn8, ho8⟩ := hb8
  have HPX := Lib.hid HP
  have HFX := Lib.hid HFO
  have HFF := Lib.hid hff
  have HLT := Lib.hid hlt
  have L0 := Lib.hid (le0 (α := Unit) (a0 := ()) hlt)
  clear HP HFO hff hlt hl hlk
  go_enter Tryz.func116, Tryz.ntmps116
  go_wp2_with (first
    | (go_at_call 68; (with_reducible refine HLK.out.mono ?_); rintro e w1 ⟨rfl, K1⟩; obtain ⟨k, hk, c4, f4, S1⟩ := HGO.out w1 K1; have H2 := Lib.hid (HFX.out.all rformula_nil S1 (ltN L0.out (Nat.lt_succ_self M)) (by omega) (by omega)); clear S1)
    | (go_at_call 21; (with_reducible refine H2.out.mono ?_); rintro e w4 ⟨v9, rfl, S4, V4⟩; have HV4 := Lib.hid V4; have H5 := Lib.hid (rwant_all hE ⟨#[41]⟩ (by decide) S4 (by omega)); clear S4 V4)
    | (go_at_call 126; (with_reducible refine H5.out.mono ?_); rintro e w5 ⟨rfl, S5⟩; have HS9 := Lib.hid S5; clear S5))
  refine bodyPost_ret (v := .int .i64 (v9 : Int)) (by simp [results, Tryz.results116, go_sem]) rfl ?_
  refine RPost.mono (nb := nb - 8 + 1) (ob := ob - 8) ⟨v9, rfl, SR.map (of := fun t => (ins t o).2) HS9.out, fun t' r' e => ?_⟩ (by omega) (by omega)
  generalize hst : thenP (Res.ok () r) form = st at *
  cases hs2 : thenW st Ps.wR with
  | bad r0 x => rw [hs2] at e; cases e
  | ok p r0 =>
    rw [hs2] at e
    obtain ⟨r5, h8, _⟩ := thenW_ok hs2
    cases e
    exact HV4.out _ _ h8
theorem rprefix_K (hE : E.Ok) {form q : Ps.P Fm.Form} {M : Nat} (HFO : RPart E 21 form (M + 1)) (hff : Ps.Fine form) (HP : RPart E 116 q (M + 1)) {r : List ByteArray} {w : World} {o : List Nd} {nb ob : Nat} (hlt : r.length ≤ M) (hnb : nb ≤ 900000) (hob : ob ≤ 900000) (hl : SR E w (Res.ok () (⟨#[75]⟩ :: r)) (fun _ => o) nb ob) :
    Calls Tryz.prog 116 #[E.ptr] w fun e w' => RPost E w' (mapR (thenP (thenW (thenP (thenW (Res.ok () r) Ps.wLB) (Ps.name (findS E.S E.S.A))) Ps.wRB) q) fun p => Fm.Form.un 9 (p.1.2 : Int) 0 0 p.2) o nb ob e := by
  obtain ⟨c7, hlk⟩ := rlook_tok hE hl
  have HLK := Lib.hid hlk
  have HGO : Hid (∀ w1, Keep NoF w w1 → _) := Lib.hid fun w1 (hk : Keep NoF w w1) => rgo hE (hl.keep hk)
  have hb8 : 8 ≤ nb ∧ 8 ≤ ob := ⟨by have := hl.2.1; omega, by have := hl.2.2; omega⟩
  obtain ⟨hn8, ho8⟩ := hb8
  have HPX := Lib.hid HP
  have HFX := Lib.hid HFO
  have HFF := Lib.hid hff
  have HLT := Lib.hid hlt
  have L0 := Lib.hid (le0 (α := Unit) (a0 := ()) hlt)
  clear HP HFO hff hlt hl hlk
  go_enter Tryz.func116, Tryz.ntmps116
  go_wp2_with (first
    | (go_at_call 68; (with_reducible refine HLK.out.mono ?_); rintro e w1 ⟨rfl, K1⟩; obtain ⟨k, hk, c4, f4, S1⟩ := HGO.out w1 K1; have H2 := Lib.hid (rmodal_K hE HFX.out HFF.out HPX.out HLT.out (by omega) (by omega) S1); clear S1)
    | (go_at_call 124; (with_reducible refine H2.out.mono ?_); rintro e w5 ⟨v9, rfl, S5, V5⟩; have HS9 := Lib.hid S5; have HV9 := Lib.hid V5; clear S5 V5))
  refine bodyPost_ret (v := .int .i64 (v9 : Int)) (by simp [results, Tryz.results116, go_sem]) rfl ?_
  exact RPost.mono (nb := nb - 8 + 4) (ob := ob - 8 + 2) ⟨v9, rfl, HS9.out, HV9.out⟩ (by omega) (by omega)
theorem rprefix_M (hE : E.Ok) {form q : Ps.P Fm.Form} {M : Nat} (HFO : RPart E 21 form (M + 1)) (hff : Ps.Fine form) (HP : RPart E 116 q (M + 1)) {r : List ByteArray} {w : World} {o : List Nd} {nb ob : Nat} (hlt : r.length ≤ M) (hnb : nb ≤ 900000) (hob : ob ≤ 900000) (hl : SR E w (Res.ok () (⟨#[77]⟩ :: r)) (fun _ => o) nb ob) :
    Calls Tryz.prog 116 #[E.ptr] w fun e w' => RPost E w' (mapR (thenP (thenW (thenP (thenW (Res.ok () r) Ps.wLB) (Ps.name (findS E.S E.S.A))) Ps.wRB) q) fun p => Fm.Form.un 10 (p.1.2 : Int) 0 0 p.2) o nb ob e := by
  obtain ⟨c7, hlk⟩ := rlook_tok hE hl
  have HLK := Lib.hid hlk
  have HGO : Hid (∀ w1, Keep NoF w w1 → _) := Lib.hid fun w1 (hk : Keep NoF w w1) => rgo hE (hl.keep hk)
  have hb8 : 8 ≤ nb ∧ 8 ≤ ob := ⟨by have := hl.2.1; omega, by have := hl.2.2; omega⟩
  obtain ⟨hn8, ho8⟩ := hb8
  have HPX := Lib.hid HP
  have HFX := Lib.hid HFO
  have HFF := Lib.hid hff
  have HLT := Lib.hid hlt
  have L0 := Lib.hid (le0 (α := Unit) (a0 := ()) hlt)
  clear HP HFO hff hlt hl hlk
  go_enter Tryz.func116, Tryz.ntmps116
  go_wp2_with (first
    | (go_at_call 68; (with_reducible refine HLK.out.mono ?_); rintro e w1 ⟨rfl, K1⟩; obtain ⟨k, hk, c4, f4, S1⟩ := HGO.out w1 K1; have H2 := Lib.hid (rmodal_M hE HFX.out HFF.out HPX.out HLT.out (by omega) (by omega) S1); clear S1)
    | (go_at_call 124; (with_reducible refine H2.out.mono ?_); rintro e w5 ⟨v9, rfl, S5, V5⟩; have HS9 := Lib.hid S5; have HV9 := Lib.hid V5; clear S5 V5))
  refine bodyPost_ret (v := .int .i64 (v9 : Int)) (by simp [results, Tryz.results116, go_sem]) rfl ?_
  exact RPost.mono (nb := nb - 8 + 4) (ob := ob - 8 + 2) ⟨v9, rfl, HS9.out, HV9.out⟩ (by omega) (by omega)
theorem rprefix_S (hE : E.Ok) {form q : Ps.P Fm.Form} {M : Nat} (HFO : RPart E 21 form (M + 1)) (hff : Ps.Fine form) (HP : RPart E 116 q (M + 1)) {r : List ByteArray} {w : World} {o : List Nd} {nb ob : Nat} (hlt : r.length ≤ M) (hnb : nb ≤ 900000) (hob : ob ≤ 900000) (hl : SR E w (Res.ok () (⟨#[83]⟩ :: r)) (fun _ => o) nb ob) :
    Calls Tryz.prog 116 #[E.ptr] w fun e w' => RPost E w' (mapR (thenP (thenW (thenP (thenW (Res.ok () r) Ps.wLB) (Ps.name (findS E.S E.S.A))) Ps.wRB) q) fun p => Fm.Form.un 15 (p.1.2 : Int) 0 0 p.2) o nb ob e := by
  obtain ⟨c7, hlk⟩ := rlook_tok hE hl
  have HLK := Lib.hid hlk
  have HGO : Hid (∀ w1, Keep NoF w w1 → _) := Lib.hid fun w1 (hk : Keep NoF w w1) => rgo hE (hl.keep hk)
  have hb8 : 8 ≤ nb ∧ 8 ≤ ob := ⟨by have := hl.2.1; omega, by have := hl.2.2; omega⟩
  obtain ⟨hn8, ho8⟩ := hb8
  have HPX := Lib.hid HP
  have HFX := Lib.hid HFO
  have HFF := Lib.hid hff
  have HLT := Lib.hid hlt
  have L0 := Lib.hid (le0 (α := Unit) (a0 := ()) hlt)
  clear HP HFO hff hlt hl hlk
  go_enter Tryz.func116, Tryz.ntmps116
  go_wp2_with (first
    | (go_at_call 68; (with_reducible refine HLK.out.mono ?_); rintro e w1 ⟨rfl, K1⟩; obtain ⟨k, hk, c4, f4, S1⟩ := HGO.out w1 K1; have H2 := Lib.hid (rmodal_S hE HFX.out HFF.out HPX.out HLT.out (by omega) (by omega) S1); clear S1)
    | (go_at_call 124; (with_reducible refine H2.out.mono ?_); rintro e w5 ⟨v9, rfl, S5, V5⟩; have HS9 := Lib.hid S5; have HV9 := Lib.hid V5; clear S5 V5))
  refine bodyPost_ret (v := .int .i64 (v9 : Int)) (by simp [results, Tryz.results116, go_sem]) rfl ?_
  exact RPost.mono (nb := nb - 8 + 4) (ob := ob - 8 + 2) ⟨v9, rfl, HS9.out, HV9.out⟩ (by omega) (by omega)
theorem rprefix_B (hE : E.Ok) {form q : Ps.P Fm.Form} {M : Nat} (HFO : RPart E 21 form (M + 1)) (hff : Ps.Fine form) (HP : RPart E 116 q (M + 1)) {r : List ByteArray} {w : World} {o : List Nd} {nb ob : Nat} (hlt : r.length ≤ M) (hnb : nb ≤ 900000) (hob : ob ≤ 900000) (hl : SR E w (Res.ok () (⟨#[66]⟩ :: r)) (fun _ => o) nb ob) :
    Calls Tryz.prog 116 #[E.ptr] w fun e w' => RPost E w' (mapR (thenP (thenW (thenP (thenP (thenW (Res.ok () r) Ps.wLB) (Ps.name (findS E.S E.S.A))) (Ps.barP form)) Ps.wRB) q) fun p => Fm.Form.bin 14 (p.1.1.2 : Int) 0 0 p.1.2 p.2) o nb ob e := by
  obtain ⟨c7, hlk⟩ := rlook_tok hE hl
  have HLK := Lib.hid hlk
  have HGO : Hid (∀ w1, Keep NoF w w1 → _) := Lib.hid fun w1 (hk : Keep NoF w w1) => rgo hE (hl.keep hk)
  have hb8 : 8 ≤ nb ∧ 8 ≤ ob := ⟨by have := hl.2.1; omega, by have := hl.2.2; omega⟩
  obtain ⟨hn8, ho8⟩ := hb8
  have HPX := Lib.hid HP
  have HFX := Lib.hid HFO
  have HFF := Lib.hid hff
  have HLT := Lib.hid hlt
  have L0 := Lib.hid (le0 (α := Unit) (a0 := ()) hlt)
  clear HP HFO hff hlt hl hlk
  go_enter Tryz.func116, Tryz.ntmps116
  go_wp2_with (first
    | (go_at_call 68; (with_reducible refine HLK.out.mono ?_); rintro e w1 ⟨rfl, K1⟩; obtain ⟨k, hk, c4, f4, S1⟩ := HGO.out w1 K1; have H2 := Lib.hid (rmodal_B hE HFX.out HFF.out HPX.out HLT.out (by omega) (by omega) S1); clear S1)
    | (go_at_call 124; (with_reducible refine H2.out.mono ?_); rintro e w5 ⟨v9, rfl, S5, V5⟩; have HS9 := Lib.hid S5; have HV9 := Lib.hid V5; clear S5 V5))
  refine bodyPost_ret (v := .int .i64 (v9 : Int)) (by simp [results, Tryz.results116, go_sem]) rfl ?_
  exact RPost.mono (nb := nb - 8 + 4) (ob := ob - 8 + 2) ⟨v9, rfl, HS9.out, HV9.out⟩ (by omega) (by omega)
theorem rprefix_E (hE : E.Ok) {form q : Ps.P Fm.Form} {M : Nat} (HFO : RPart E 21 form (M + 1)) (hff : Ps.Fine form) (HP : RPart E 116 q (M + 1)) {r : List ByteArray} {w : World} {o : List Nd} {nb ob : Nat} (hlt : r.length ≤ M) (hnb : nb ≤ 900000) (hob : ob ≤ 900000) (hl : SR E w (Res.ok () (⟨#[69]⟩ :: r)) (fun _ => o) nb ob) :
    Calls Tryz.prog 116 #[E.ptr] w fun e w' => RPost E w' (mapR (thenP (thenW (thenP (thenW (Res.ok () r) Ps.wLB) (Ps.groupP (findS E.S E.S.A) (M + 1) 0)) Ps.wRB) q) fun p => Fm.Form.un 11 0 0 (p.1.2 : Int) p.2) o nb ob e := by
  obtain ⟨c7, hlk⟩ := rlook_tok hE hl
  have HLK := Lib.hid hlk
  have HGO : Hid (∀ w1, Keep NoF w w1 → _) := Lib.hid fun w1 (hk : Keep NoF w w1) => rgo hE (hl.keep hk)
  have hb8 : 8 ≤ nb ∧ 8 ≤ ob := ⟨by have := hl.2.1; omega, by have := hl.2.2; omega⟩
  obtain ⟨hn8, ho8⟩ := hb8
  have HPX := Lib.hid HP
  have HFX := Lib.hid HFO
  have HFF := Lib.hid hff
  have HLT := Lib.hid hlt
  have L0 := Lib.hid (le0 (α := Unit) (a0 := ()) hlt)
  clear HP HFO hff hlt hl hlk
  go_enter Tryz.func116, Tryz.ntmps116
  go_wp2_with (first
    | (go_at_call 68; (with_reducible refine HLK.out.mono ?_); rintro e w1 ⟨rfl, K1⟩; obtain ⟨k, hk, c4, f4, S1⟩ := HGO.out w1 K1; have H2 := Lib.hid (rmodal_E hE HFX.out HFF.out HPX.out HLT.out (by omega) (by omega) S1); clear S1)
    | (go_at_call 124; (with_reducible refine H2.out.mono ?_); rintro e w5 ⟨v9, rfl, S5, V5⟩; have HS9 := Lib.hid S5; have HV9 := Lib.hid V5; clear S5 V5))
  refine bodyPost_ret (v := .int .i64 (v9 : Int)) (by simp [results, Tryz.results116, go_sem]) rfl ?_
  exact RPost.mono (nb := nb - 8 + 4) (ob := ob - 8 + 2) ⟨v9, rfl, HS9.out, HV9.out⟩ (by omega) (by omega)
theorem rprefix_D (hE : E.Ok) {form q : Ps.P Fm.Form} {M : Nat} (HFO : RPart E 21 form (M + 1)) (hff : Ps.Fine form) (HP : RPart E 116 q (M + 1)) {r : List ByteArray} {w : World} {o : List Nd} {nb ob : Nat} (hlt : r.length ≤ M) (hnb : nb ≤ 900000) (hob : ob ≤ 900000) (hl : SR E w (Res.ok () (⟨#[68]⟩ :: r)) (fun _ => o) nb ob) :
    Calls Tryz.prog 116 #[E.ptr] w fun e w' => RPost E w' (mapR (thenP (thenW (thenP (thenW (Res.ok () r) Ps.wLB) (Ps.groupP (findS E.S E.S.A) (M + 1) 0)) Ps.wRB) q) fun p => Fm.Form.un 12 0 0 (p.1.2 : Int) p.2) o nb ob e := by
  obtain ⟨c7, hlk⟩ := rlook_tok hE hl
  have HLK := Lib.hid hlk
  have HGO : Hid (∀ w1, Keep NoF w w1 → _) := Lib.hid fun w1 (hk : Keep NoF w w1) => rgo hE (hl.keep hk)
  have hb8 : 8 ≤ nb ∧ 8 ≤ ob := ⟨by have := hl.2.1; omega, by have := hl.2.2; omega⟩
  obtain ⟨hn8, ho8⟩ := hb8
  have HPX := Lib.hid HP
  have HFX := Lib.hid HFO
  have HFF := Lib.hid hff
  have HLT := Lib.hid hlt
  have L0 := Lib.hid (le0 (α := Unit) (a0 := ()) hlt)
  clear HP HFO hff hlt hl hlk
  go_enter Tryz.func116, Tryz.ntmps116
  go_wp2_with (first
    | (go_at_call 68; (with_reducible refine HLK.out.mono ?_); rintro e w1 ⟨rfl, K1⟩; obtain ⟨k, hk, c4, f4, S1⟩ := HGO.out w1 K1; have H2 := Lib.hid (rmodal_D hE HFX.out HFF.out HPX.out HLT.out (by omega) (by omega) S1); clear S1)
    | (go_at_call 124; (with_reducible refine H2.out.mono ?_); rintro e w5 ⟨v9, rfl, S5, V5⟩; have HS9 := Lib.hid S5; have HV9 := Lib.hid V5; clear S5 V5))
  refine bodyPost_ret (v := .int .i64 (v9 : Int)) (by simp [results, Tryz.results116, go_sem]) rfl ?_
  exact RPost.mono (nb := nb - 8 + 4) (ob := ob - 8 + 2) ⟨v9, rfl, HS9.out, HV9.out⟩ (by omega) (by omega)
theorem rprefix_C (hE : E.Ok) {form q : Ps.P Fm.Form} {M : Nat} (HFO : RPart E 21 form (M + 1)) (hff : Ps.Fine form) (HP : RPart E 116 q (M + 1)) {r : List ByteArray} {w : World} {o : List Nd} {nb ob : Nat} (hlt : r.length ≤ M) (hnb : nb ≤ 900000) (hob : ob ≤ 900000) (hl : SR E w (Res.ok () (⟨#[67]⟩ :: r)) (fun _ => o) nb ob) :
    Calls Tryz.prog 116 #[E.ptr] w fun e w' => RPost E w' (mapR (thenP (thenW (thenP (thenP (thenW (Res.ok () r) Ps.wLB) (Ps.groupP (findS E.S E.S.A) (M + 1) 0)) (Ps.barP form)) Ps.wRB) q) fun p => Fm.Form.bin 13 0 0 (p.1.1.2 : Int) p.1.2 p.2) o nb ob e := by
  obtain ⟨c7, hlk⟩ := rlook_tok hE hl
  have HLK := Lib.hid hlk
  have HGO : Hid (∀ w1, Keep NoF w w1 → _) := Lib.hid fun w1 (hk : Keep NoF w w1) => rgo hE (hl.keep hk)
  have hb8 : 8 ≤ nb ∧ 8 ≤ ob := ⟨by have := hl.2.1; omega, by have := hl.2.2; omega⟩
  obtain ⟨hn8, ho8⟩ := hb8
  have HPX := Lib.hid HP
  have HFX := Lib.hid HFO
  have HFF := Lib.hid hff
  have HLT := Lib.hid hlt
  have L0 := Lib.hid (le0 (α := Unit) (a0 := ()) hlt)
  clear HP HFO hff hlt hl hlk
  go_enter Tryz.func116, Tryz.ntmps116
  go_wp2_with (first
    | (go_at_call 68; (with_reducible refine HLK.out.mono ?_); rintro e w1 ⟨rfl, K1⟩; obtain ⟨k, hk, c4, f4, S1⟩ := HGO.out w1 K1; have H2 := Lib.hid (rmodal_C hE HFX.out HFF.out HPX.out HLT.out (by omega) (by omega) S1); clear S1)
    | (go_at_call 124; (with_reducible refine H2.out.mono ?_); rintro e w5 ⟨v9, rfl, S5, V5⟩; have HS9 := Lib.hid S5; have HV9 := Lib.hid V5; clear S5 V5))
  refine bodyPost_ret (v := .int .i64 (v9 : Int)) (by simp [results, Tryz.results116, go_sem]) rfl ?_
  exact RPost.mono (nb := nb - 8 + 4) (ob := ob - 8 + 2) ⟨v9, rfl, HS9.out, HV9.out⟩ (by omega) (by omega)
theorem rprefix_LB (hE : E.Ok) {form q : Ps.P Fm.Form} {M : Nat} (HFO : RPart E 21 form (M + 1)) (hff : Ps.Fine form) (HP : RPart E 116 q (M + 1)) {r : List ByteArray} {w : World} {o : List Nd} {nb ob : Nat} (hlt : r.length ≤ M) (hnb : nb ≤ 900000) (hob : ob ≤ 900000) (hl : SR E w (Res.ok () (⟨#[91]⟩ :: r)) (fun _ => o) nb ob) :
    Calls Tryz.prog 116 #[E.ptr] w fun e w' => RPost E w' (Ps.dynP (sigP E.S) form q r) o nb ob e := by
  obtain ⟨c7, hlk⟩ := rlook_tok hE hl
  have HLK := Lib.hid hlk
  have HGO : Hid (∀ w1, Keep NoF w w1 → _) := Lib.hid fun w1 (hk : Keep NoF w w1) => rgo hE (hl.keep hk)
  have hb8 : 8 ≤ nb ∧ 8 ≤ ob := ⟨by have := hl.2.1; omega, by have := hl.2.2; omega⟩
  obtain ⟨hn8, ho8⟩ := hb8
  have HPX := Lib.hid HP
  have HFX := Lib.hid HFO
  have HFF := Lib.hid hff
  have HLT := Lib.hid hlt
  have L0 := Lib.hid (le0 (α := Unit) (a0 := ()) hlt)
  clear HP HFO hff hlt hl hlk
  go_enter Tryz.func116, Tryz.ntmps116
  go_wp2_with (first
    | (go_at_call 68; (with_reducible refine HLK.out.mono ?_); rintro e w1 ⟨rfl, K1⟩; obtain ⟨k, hk, c4, f4, S1⟩ := HGO.out w1 K1; have H2 := Lib.hid (rupd_any hE HFX.out HFF.out HPX.out HLT.out (by omega) (by omega) S1); clear S1)
    | (go_at_call 125; (with_reducible refine H2.out.mono ?_); rintro e w5 ⟨v9, rfl, S5, V5⟩; have HS9 := Lib.hid S5; have HV9 := Lib.hid V5; clear S5 V5))
  refine bodyPost_ret (v := .int .i64 (v9 : Int)) (by simp [results, Tryz.results116, go_sem]) rfl ?_
  exact RPost.mono (nb := nb - 8 + 4) (ob := ob - 8 + 2) ⟨v9, rfl, HS9.out, HV9.out⟩ (by omega) (by omega)
theorem rprefix_name (hE : E.Ok) {ts : List ByteArray} {w : World} {o : List Nd} {nb ob : Nat} (hnb : nb ≤ 900000) (hob : ob ≤ 900000) (hl : SR E w (Res.ok () ts) (fun _ => o) nb ob) (hno : wordAt E.ws (E.ws.length - ts.length) ∉ [Ps.wNot, Ps.wNext, Ps.wPrev, Ps.wTrue, Ps.wFalse, Ps.wL, Ps.wK, Ps.wM, Ps.wS, Ps.wB, Ps.wE, Ps.wD, Ps.wC, Ps.wLB]) :
    Calls Tryz.prog 116 #[E.ptr] w fun e w' => RPost E w' (mapR (thenP (Res.ok () ts) (Ps.name (findS E.S E.S.F))) fun p => Fm.Form.leaf 3 (p.2 : Int) 0 0) o nb ob e := by
  have HN : Hid (∀ w1, Keep NoF w w1 → _) := Lib.hid fun w1 (hk : Keep NoF w w1) => rname0_live hE (hl.keep hk) (by omega)
  have hb8 : 8 ≤ nb ∧ 8 ≤ ob := ⟨by have := hl.2.1; omega, by have := hl.2.2; omega⟩
  obtain ⟨hn8, ho8⟩ := hb8
  obtain ⟨⟨hsuf, dv, hst⟩, h1, h2⟩ := hl
  have c7 : w.cell? ⟨E.b, 7, none⟩ = some (.int .i64 0) := hst.c7
  have hbig := hE.big
  have HLK := Lib.hid (rlook_any hE hst (by omega))
  clear hst h1 h2 hsuf
  generalize wordAt E.ws (E.ws.length - ts.length) = t at *
  have z0 : (t.toList == [126]) = false := beq_eq_false_iff_ne.2 fun e => hno (by rw [ByteArray.toList_eq] at e; rw [show t = Ps.wNot from ba_ext e]; decide)
  have z1 : (t.toList == [110, 101, 120, 116]) = false := beq_eq_false_iff_ne.2 fun e => hno (by rw [ByteArray.toList_eq] at e; rw [show t = Ps.wNext from ba_ext e]; decide)
  have z2 : (t.toList == [112, 114, 101, 118]) = false := beq_eq_false_iff_ne.2 fun e => hno (by rw [ByteArray.toList_eq] at e; rw [show t = Ps.wPrev from ba_ext e]; decide)
  have z3 : (t.toList == [116, 114, 117, 101]) = false := beq_eq_false_iff_ne.2 fun e => hno (by rw [ByteArray.toList_eq] at e; rw [show t = Ps.wTrue from ba_ext e]; decide)
  have z4 : (t.toList == [102, 97, 108, 115, 101]) = false := beq_eq_false_iff_ne.2 fun e => hno (by rw [ByteArray.toList_eq] at e; rw [show t = Ps.wFalse from ba_ext e]; decide)
  have z5 : (t.toList == [40]) = false := beq_eq_false_iff_ne.2 fun e => hno (by rw [ByteArray.toList_eq] at e; rw [show t = Ps.wL from ba_ext e]; decide)
  have z6 : (t.toList == [75]) = false := beq_eq_false_iff_ne.2 fun e => hno (by rw [ByteArray.toList_eq] at e; rw [show t = Ps.wK from ba_ext e]; decide)
  have z7 : (t.toList == [77]) = false := beq_eq_false_iff_ne.2 fun e => hno (by rw [ByteArray.toList_eq] at e; rw [show t = Ps.wM from ba_ext e]; decide)
  have z8 : (t.toList == [83]) = false := beq_eq_false_iff_ne.2 fun e => hno (by rw [ByteArray.toList_eq] at e; rw [show t = Ps.wS from ba_ext e]; decide)
  have z9 : (t.toList == [66]) = false := beq_eq_false_iff_ne.2 fun e => hno (by rw [ByteArray.toList_eq] at e; rw [show t = Ps.wB from ba_ext e]; decide)
  have z10 : (t.toList == [69]) = false := beq_eq_false_iff_ne.2 fun e => hno (by rw [ByteArray.toList_eq] at e; rw [show t = Ps.wE from ba_ext e]; decide)
  have z11 : (t.toList == [68]) = false := beq_eq_false_iff_ne.2 fun e => hno (by rw [ByteArray.toList_eq] at e; rw [show t = Ps.wD from ba_ext e]; decide)
  have z12 : (t.toList == [67]) = false := beq_eq_false_iff_ne.2 fun e => hno (by rw [ByteArray.toList_eq] at e; rw [show t = Ps.wC from ba_ext e]; decide)
  have z13 : (t.toList == [91]) = false := beq_eq_false_iff_ne.2 fun e => hno (by rw [ByteArray.toList_eq] at e; rw [show t = Ps.wLB from ba_ext e]; decide)
  clear hno
  go_enter Tryz.func116, Tryz.ntmps116
  go_wp2_with (first
    | (go_at_call 68; (with_reducible refine HLK.out.mono ?_); rintro e w1 ⟨rfl, K1⟩; have H2 := Lib.hid (HN.out w1 K1))
    | (go_at_call 127; (with_reducible refine H2.out.mono ?_); rintro e w2 ⟨v, rfl, hv, S2, V2⟩; have HV2 := Lib.hid V2; have H5 := Lib.hid (rnode_all hE S2 (by omega) ⟨3, (v : Int), 0, 0, 0, 0⟩); clear V2 S2 hv)
    | (go_at_call 45; (with_reducible refine H5.out.mono ?_); rintro e w5 ⟨v9, rfl, S5, V5⟩; have HS9 := Lib.hid S5; have HV9 := Lib.hid V5; clear S5 V5))
  refine bodyPost_ret (v := .int .i64 (v9 : Int)) (by simp [results, Tryz.results116, go_sem]) rfl ?_
  refine RPost.mono (nb := nb - 8) (ob := ob - 8 + 1) (st := mapR (thenP (Res.ok () ts) (Ps.name (findS E.S E.S.F))) fun p => Fm.Form.leaf 3 (p.2 : Int) 0 0) ?_ (by omega) (by omega)
  have S9 := HS9.out
  have V9 := HV9.out
  have V2 := HV2.out
  clear HS9 HV9 HV2 H5 H2 HLK HN
  generalize thenP (Res.ok () ts) (Ps.name (findS E.S E.S.F)) = st at *
  cases st with
  | bad r x => exact ⟨v9, rfl, S9, fun t r e => by cases e⟩
  | ok p r =>
    obtain rfl := V2 p r rfl
    exact ⟨v9, rfl, S9, fun t' r' e => by cases e; exact V9 p r rfl⟩
theorem rprefix_any (hE : E.Ok) {form q : Ps.P Fm.Form} {N : Nat} (HFO : RPart E 21 form N) (hff : Ps.Fine form) (HP : RPart E 116 q N) : RPart E 116 (Ps.operP (sigP E.S) form q N) (N + 1) := by
  intro ts w o nb ob hlt hnb hob hl
  cases ts with
  | nil =>
    have := rprefix_name hE hnb hob hl (by rw [word_nil]; decide)
    exact this
  | cons t r =>
    have hr : r.length < N := by simp at hlt; omega
    obtain ⟨M, rfl⟩ : ∃ M, N = M + 1 := ⟨N - 1, by omega⟩
    have hr : r.length ≤ M := by omega
    have hb : ∀ k, Ps.kindE (sigP E.S) t = .ok k → Ps.operP (sigP E.S) form q (M + 1) (t :: r) = Ps.body (sigP E.S) form q (M + 1) k r := fun k hk => Ps.byTok_ok (by simp only [hk]) r
    by_cases hm : t ∈ [Ps.wNot, Ps.wNext, Ps.wPrev, Ps.wTrue, Ps.wFalse, Ps.wL, Ps.wK, Ps.wM, Ps.wS, Ps.wB, Ps.wE, Ps.wD, Ps.wC, Ps.wLB]
    · simp only [List.mem_cons, List.not_mem_nil, or_false] at hm
      rcases hm with rfl | rfl | rfl | rfl | rfl | rfl | rfl | rfl | rfl | rfl | rfl | rfl | rfl | rfl
      · rw [(hb (.un 4) (by rfl)).trans (eq_un 4)]
        exact rprefix_Not hE HFO hff HP hr hnb hob hl
      · rw [(hb (.un 18) (by rfl)).trans (eq_un 18)]
        exact rprefix_Next hE HFO hff HP hr hnb hob hl
      · rw [(hb (.un 20) (by rfl)).trans (eq_un 20)]
        exact rprefix_Prev hE HFO hff HP hr hnb hob hl
      · rw [(hb (.leaf 1 0) (by rfl)).trans rfl]
        exact rprefix_True hE HFO hff HP hr hnb hob hl
      · rw [(hb (.leaf 2 0) (by rfl)).trans rfl]
        exact rprefix_False hE HFO hff HP hr hnb hob hl
      · rw [(hb (.par) (by rfl)).trans eq_par]
        exact rprefix_L hE HFO hff HP hr hnb hob hl
      · rw [(hb (.ag 9) (by rfl)).trans (eq_ag 9)]
        exact rprefix_K hE HFO hff HP hr hnb hob hl
      · rw [(hb (.ag 10) (by rfl)).trans (eq_ag 10)]
        exact rprefix_M hE HFO hff HP hr hnb hob hl
      · rw [(hb (.ag 15) (by rfl)).trans (eq_ag 15)]
        exact rprefix_S hE HFO hff HP hr hnb hob hl
      · rw [(hb (.bel) (by rfl)).trans req_bel]
        exact rprefix_B hE HFO hff HP hr hnb hob hl
      · rw [(hb (.gr 11) (by rfl)).trans (req_gr 11)]
        exact rprefix_E hE HFO hff HP hr hnb hob hl
      · rw [(hb (.gr 12) (by rfl)).trans (req_gr 12)]
        exact rprefix_D hE HFO hff HP hr hnb hob hl
      · rw [(hb (.com) (by rfl)).trans req_com]
        exact rprefix_C hE HFO hff HP hr hnb hob hl
      · rw [(hb (.dyn) (by rfl)).trans rfl]
        exact rprefix_LB hE HFO hff HP hr hnb hob hl
    · have hk := kind_not (S := sigP E.S) hm
      have hw : wordAt E.ws (E.ws.length - (t :: r).length) = t := word_cons hl.1.suf
      have H := rprefix_name hE hnb hob hl (by rw [hw]; exact hm)
      cases hn : Ps.nameE (sigP E.S).fa t with
      | ok i =>
        rw [hn] at hk
        rw [hb _ hk]
        have e1 : thenP (.ok () (t :: r)) (Ps.name (findS E.S E.S.F)) = .ok ((), i) r := by simp only [thenP, Ps.name]; rw [Ps.tok_ok (show Ps.nameE (findS E.S E.S.F) t = .ok i from hn)]
        rw [e1] at H
        exact H
      | error x =>
        rw [hn] at hk
        rw [show Ps.operP (sigP E.S) form q (M + 1) (t :: r) = .bad (t :: r) x from Ps.byTok_err (by simp only [hk]) r]
        have e1 : thenP (.ok () (t :: r)) (Ps.name (findS E.S E.S.F)) = .bad (t :: r) x := by simp only [thenP, Ps.name]; rw [Ps.tok_err (show Ps.nameE (findS E.S E.S.F) t = .error x from hn)]
        rw [e1] at H
        exact H
theorem rformula_of (hE : E.Ok) {q : Ps.P Fm.Form} (hq : Ps.Fine q) {N : Nat} (HP : RPart E 116 q N) : RPart E 21 (Ps.fP q N) N :=
  rformula_any hE (Ps.fine_iP hq N) (rimplies_any hE (Ps.fine_tP hq N) (rtime_any hE (Ps.fine_or hq N) (ror_any hE (Ps.fine_and hq N) (rand_any hE hq HP)) N (Nat.le_refl _)) N (Nat.le_refl _))
theorem rprefix_fuel (hE : E.Ok) : ∀ n, RPart E 116 (Ps.prefP (sigP E.S) n) n
  | 0 => fun ts w o nb ob h => by omega
  | n + 1 => rprefix_any hE (rformula_of hE (Ps.fine_pref _ n) (rprefix_fuel hE n)) (Ps.fine_form _ n) (rprefix_fuel hE n)
theorem rformula_fuel (hE : E.Ok) (n : Nat) : RPart E 21 (Ps.formP (sigP E.S) n) n := rformula_of hE (Ps.fine_pref _ n) (rprefix_fuel hE n)
end
end Go.Proofs.YtdhdcenjiopofaaGreatDoor
namespace Go.Proofs.YtdhdcenjiopofaaGreatDoor
open Go.RowKit
open Fm (Nd cl put ins)
open Ps (Res)
section
set_option maxRecDepth 100000
set_option maxHeartbeats 4000000
theorem rParse_any (S : Sg) (a f c : Option Addr) (ca cf cc : Nat) (t : ByteArray) (w : World) (hS : SigR w S a ca f cf c cc) (hT : Tab w) (ht : t.size ≤ 9223372036854775807) :
    Calls Tryz.prog 8 #[.agg #[.slice a S.A.length ca, .slice f S.F.length cf, .slice c S.C.length cc], .string t] w (ParPost S t w) := by
  have hK0 : Keep NoF w (w.alloc (.cells (boxS S a ca f cf c cc) 24)) := (Keep.refl _ _).alloc _
  have HC := Lib.hid (rCheck_any S a f c ca cf cc _ (hS.keep hK0))
  have HB := Lib.hid (fun w' => @box_cells w w' S a f c ca cf cc 24)
  have HTK := Lib.hid fun w1 => rTokens_any t ht w1
  have HS := Lib.hid hS
  have HT := Lib.hid hT
  unfold boxS at *
  clear hS hT
  by_cases h0 : checkS S = 0
  · have HH0 := Lib.hid h0
    rw [h0] at HC
    clear h0
    go_enter Tryz.func8, Tryz.ntmps8
    go_upto_region 5 with (first
      | (go_at_call 19; (with_reducible refine HC.out.mono ?_); rintro e w1 ⟨rfl, K1⟩; obtain ⟨c0, c1, c2, hsz⟩ := HB.out w1 K1; have k01 := hK0.trans K1 fun _ _ h => h)
      | (go_at_call 20; (with_reducible refine (HTK.out _).mono ?_); rintro e w2 ⟨cs, A, ac, B, bc, p, x, rfl, R2, Q2, K2, T2⟩))
    have k02 := k01.trans K2 fun _ _ h => h
    obtain ⟨d0, d1, d2, hsz2⟩ := HB.out w2 (K1.trans K2 fun _ _ h => h)
    clear c0 c1 c2 hsz
    have HTF := Lib.hid T2.tokF
    have hTR := Lib.hid T2
    by_cases hx : x = 0
    · subst hx
      have hok : t.size ≤ 4000 ∧ tokens t.data.toList 0 = .ok cs ∧ p = 0 := by
        rcases hTR.out with ⟨_, _, _, h⟩ | ⟨h1, ⟨_, _, _, _, h⟩ | ⟨h2, h3, _⟩⟩
        · exact absurd h (by omega)
        · exact absurd h (by omega)
        · exact ⟨h1, h2, h3⟩
      obtain ⟨h40, htok, rfl⟩ := hok
      obtain ⟨tk1, tk2⟩ := tok_ok htok h40
      have htf : tokF t = .ok cs := by have := HTF.out; rwa [if_pos rfl] at this
      have hwl := tW_len cs
      have hE : RE.Ok ⟨w2, w2.heap.size, S, a, ca, f, cf, c, cc, tW cs, A, ac⟩ :=
        ⟨Nat.le_refl _, HS.out.keep k02, HT.out.keep0 k02, HH0.out, by rw [hwl]; exact R2, tk1, tk2⟩
      generalize hEd : (⟨w2, w2.heap.size, S, a, ca, f, cf, c, cc, tW cs, A, ac⟩ : RE) = E at *
      have hEb : E.b = w2.heap.size := by rw [← hEd]
      have hEw : E.w0 = w2 := by rw [← hEd]
      have hEs : E.S = S := by rw [← hEd]
      have hws : E.ws = tW cs := by rw [← hEd]
      have hpr : E.ptr = .pointer (some ⟨w2.heap.size, 0, none⟩) := by show Value.pointer (some ⟨E.b, 0, none⟩) = _; rw [hEb]
      have hcells : E.cells 0 (.slice none 0 0) 0 0 = #[.slice a S.A.length ca, .slice f S.F.length cf, .slice c S.C.length cc, .slice A cs.length ac, .int .i64 0, .slice none 0 0, .int .i64 0, .int .i64 0] := by
        rw [← hEd]; simp [RE.cells, hwl]
      have hL : SR E (w2.alloc (.cells #[.slice a S.A.length ca, .slice f S.F.length cf, .slice c S.C.length cc, .slice A cs.length ac, .int .i64 0, .slice none 0 0, .int .i64 0, .int .i64 0] 50)) (Res.ok () (tW cs)) (fun _ => []) (9 * (tW cs).length + 8) (8 * (tW cs).length + 8) := by
        refine ⟨⟨by rw [hws]; exact List.suffix_refl _, .slice none 0 0, ?_, ?_, World.ownsRow_nil _ _ _ _⟩, by rw [hws]; omega, by simp⟩
        · rw [hEw]; exact (Keep.refl _ _).alloc _
        · rw [hws, Nat.sub_self, hcells, hEb]; exact Bk.new _ _ _
      have HF := rformula_fuel hE ((tW cs).length + 1) (tW cs) _ [] _ _ (by omega) (by omega) (by omega) hL
      rw [hEs, hpr] at HF
      have KW : ∀ v nx dv o bad x, RSt E v nx dv o bad x → Keep NoF w v := fun v nx dv o bad x hv => k02.trans (by have := hv.kp; rwa [hEw] at this) fun _ _ h => h
      have HKW := Lib.hid KW
      have HSZ : Hid ((tW cs).length = cs.length) := Lib.hid hwl
      have HCL : Hid (∀ v nx dv o bad x, RSt E v nx dv o bad x → v.cell? ⟨w2.heap.size, 4, none⟩ = some (.int .i64 (nx : Int)) ∧ v.cell? ⟨w2.heap.size, 5, none⟩ = some dv ∧ v.cell? ⟨w2.heap.size, 6, none⟩ = some (.int .i64 (bad : Int)) ∧ v.cell? ⟨w2.heap.size, 7, none⟩ = some (.int .i64 (x : Int))) := Lib.hid fun v nx dv o bad x h => by
        have h4 := h.c4
        have h5 := h.c5
        have h6 := h.c6
        have h7 := h.c7
        rw [hEb] at h4 h5 h6 h7
        exact ⟨h4, h5, h6, h7⟩
      have HFL : Hid (∀ v nx dv o, RSt E v nx dv o 0 0 → Calls Tryz.prog 22 #[.pointer (some ⟨w2.heap.size, 0, none⟩), .int .i64 (nx : Int), .int .i64 4] v fun e w' => e = .returned (.tuple #[]) ∧ RSt E w' nx dv o nx 4) := Lib.hid fun v nx dv o h => by
        have := rfail_live hE h nx 4
        rwa [hpr] at this
      have HFD : Hid (∀ v nx dv o bad x, 0 < x → RSt E v nx dv o bad x → Calls Tryz.prog 22 #[.pointer (some ⟨w2.heap.size, 0, none⟩), .int .i64 (nx : Int), .int .i64 4] v fun e w' => e = .returned (.tuple #[]) ∧ w' = v) := Lib.hid fun v nx dv o bad x h0 h => by
        have := rfail_dead h h0 nx 4
        rwa [hpr] at this
      have HPF := Lib.hid fun (l : List Nd) (m x : Nat) (h : readF (sigP S) (tW cs) = (l, m, x)) => parseF_read HH0.out htf h
      have HAT : Hid (∀ v m, Keep NoF w2 v → 0 < m → m ≤ cs.length → ∃ bl off, B = some ⟨bl, off, none⟩ ∧ cs.length ≤ bc ∧ v.cell? ⟨bl, off + (cs.length - m), none⟩ = some (.int .i64 (placeF t cs m : Int))) := Lib.hid fun v m hk h0 hm => by
        obtain ⟨_, hcap, bl, off, hb, hcell⟩ := (Q2.kept hk fun _ _ h => h).at_ (by omega)
        refine ⟨bl, off, hb, hcap, ?_⟩
        exact hcell (cs.length - m) (.int .i64 (placeF t cs m : Int)) (by
          unfold tA placeF
          rw [List.getElem?_map, if_neg (by omega), tW_len, List.getD_eq_getElem?_getD, List.getElem?_map, List.getElem?_eq_getElem (show cs.length - m < cs.length by omega)]
          rfl)
      have HKP : Hid (∀ v nx dv o bad x, RSt E v nx dv o bad x → Keep NoF w2 v) := Lib.hid fun v nx dv o bad x h => by have := h.kp; rwa [hEw] at this
      have HWS : Hid (E.ws.length = cs.length) := Lib.hid (by rw [hws, hwl])
      have hc40 : cs.length ≤ 4000 := by omega
      clear hTR HTF htok tk1 tk2 htf hwl hE hEd hEb hEs hcells hL KW T2 R2 Q2 HS HT HTK HC HB hpr hEw hws
      cases hres : Ps.formP (sigP S) ((tW cs).length + 1) (tW cs) with
      | bad r x =>
        rw [hres] at HF
        have HF' := Lib.hid HF
        have hrd := read_bad hres
        have hrl : r.length ≤ cs.length := by
          have := (Ps.fine_form (sigP S) ((tW cs).length + 1)).shr.bad hres
          rwa [HSZ.out] at this
        clear HF hres
        have HPR := Lib.hid (HPF.out _ _ _ hrd)
        clear hrd
        by_cases hr0 : r.length = 0
        · have HR0 := Lib.hid hr0
          have HP0 : Hid (placeF t cs r.length = t.size) := Lib.hid (if_pos hr0)
          clear hr0
          go_wp2_with (first
            | (go_at_call 21; (with_reducible refine HF'.out.mono ?_); rintro e w5 ⟨v5, rfl, ⟨hx0, nx, dv, o5, hnx, ho5, D5⟩, V5⟩; clear V5; obtain ⟨c4, c5, c6', c7⟩ := HCL.out _ _ _ _ _ _ D5; have hx' : ((x : Int) != 0) = true := (by simp; omega); have hbad : E.ws.length - r.length = cs.length := (by rw [HWS.out, HR0.out]; rfl); rw [hbad] at c6'; have c6 : w5.cell? ⟨w2.heap.size, 6, none⟩ = some (.int .i64 (cs.length : Int)) := c6'; have HD5 := Lib.hid D5; have HX0 := Lib.hid hx0; clear D5 hbad c6'; by_cases hlt : (nx : Int) < (cs.length : Int))
            | (go_at_call 22; (with_reducible refine (HFD.out _ _ _ _ _ _ HX0.out HD5.out).mono ?_); rintro e w' ⟨rfl, hw'⟩; obtain rfl := hw'.symm))
          all_goals
            go_quiet (fail)
            go_wp2
            refine bodyPost_ret (v := .tuple #[.slice none 0 0, .int .i64 (t.size : Int), .int .i64 (x : Int)]) (by simp [results, Tryz.results8, go_sem]) rfl ?_
            exact ParPost.nil (by rw [HPR.out, if_neg (by have := HX0.out; omega), HP0.out]) ((HKW.out _ _ _ _ _ _ HD5.out).drewN _)
        · have hr1 : 0 < r.length := by omega
          have HR1 := Lib.hid hr1
          have HRL := Lib.hid hrl
          clear hr0 hr1 hrl
          go_wp2_with (first
            | (go_at_call 21; (with_reducible refine HF'.out.mono ?_); rintro e w5 ⟨v5, rfl, ⟨hx0, nx, dv, o5, hnx, ho5, D5⟩, V5⟩; clear V5; obtain ⟨c4, c5, c6', c7⟩ := HCL.out _ _ _ _ _ _ D5; have hx' : ((x : Int) != 0) = true := (by simp; omega); rw [HWS.out] at c6'; obtain ⟨bl, off, rfl, hcap, cB⟩ := HAT.out w5 r.length (HKP.out _ _ _ _ _ _ D5) HR1.out HRL.out; obtain ⟨pl, hpl⟩ : ∃ pl : Nat, pl = placeF t cs r.length := ⟨_, rfl⟩; rw [← hpl] at cB; obtain ⟨bd, hbd⟩ : ∃ bd : Nat, bd = cs.length - r.length := ⟨_, rfl⟩; rw [← hbd] at cB c6'; have hbl : (bd : Int) < (cs.length : Int) := (by have := HR1.out; have := HRL.out; omega); have HD5 := Lib.hid D5; have HX0 := Lib.hid hx0; have HPL := Lib.hid hpl; clear D5 hpl hbd; by_cases hlt : (nx : Int) < (cs.length : Int))
            | (go_at_call 22; (with_reducible refine (HFD.out _ _ _ _ _ _ HX0.out HD5.out).mono ?_); rintro e w' ⟨rfl, hw'⟩; obtain rfl := hw'.symm))
          all_goals
            go_quiet (fail)
            go_wp2
            refine bodyPost_ret (v := .tuple #[.slice none 0 0, .int .i64 (pl : Int), .int .i64 (x : Int)]) (by simp [results, Tryz.results8, go_sem]) rfl ?_
            exact ParPost.nil (by rw [HPR.out, if_neg (by have := HX0.out; omega), HPL.out]) ((HKW.out _ _ _ _ _ _ HD5.out).drewN _)
      | ok tr r =>
        rw [hres] at HF
        have HF' := Lib.hid HF
        clear HF
        cases r with
        | cons y r =>
          have hrd := read_more hres
          have hrl : (y :: r).length ≤ cs.length := by
            have := (Ps.fine_form (sigP S) ((tW cs).length + 1)).shr.ok hres
            rwa [HSZ.out] at this
          have hrp : 0 < (y :: r).length := by simp
          have HPR := Lib.hid (HPF.out _ _ _ hrd)
          have HRL := Lib.hid hrl
          have HRP := Lib.hid hrp
          generalize hm : (y :: r).length = m at *
          have HM := Lib.hid hm
          clear hrd hres hrl hrp hm
          go_wp2_with (first
            | (go_at_call 21; (with_reducible refine HF'.out.mono ?_); rintro e w5 ⟨v5, rfl, ⟨⟨hsf, dv, D5'⟩, hnx, ho5⟩, V5⟩; clear V5 hsf hnx ho5; rw [HWS.out, HM.out] at D5'; obtain ⟨bd, hbd⟩ : ∃ bd : Nat, bd = cs.length - m := ⟨_, rfl⟩; rw [← hbd] at D5'; obtain ⟨c4, c5, c6, c7'⟩ := HCL.out _ _ _ _ _ _ D5'; have c7 : w5.cell? ⟨w2.heap.size, 7, none⟩ = some (.int .i64 0) := c7'; have hbl : (bd : Int) < (cs.length : Int) := (by have := HRP.out; have := HRL.out; omega); have HBD := Lib.hid hbd; have HFS := Lib.hid (HFL.out _ _ _ _ D5'); clear D5' c7' hbd)
            | (go_at_call 22; (with_reducible refine HFS.out.mono ?_); rintro e w6 ⟨rfl, D6⟩; obtain ⟨d4, d5, d6, d7'⟩ := HCL.out _ _ _ _ _ _ D6; have d7 : w6.cell? ⟨w2.heap.size, 7, none⟩ = some (.int .i64 4) := d7'; obtain ⟨bl, off, rfl, hcap, cB⟩ := HAT.out w6 m (HKP.out _ _ _ _ _ _ D6) HRP.out HRL.out; rw [← HBD.out] at cB; obtain ⟨pl, hpl⟩ : ∃ pl : Nat, pl = placeF t cs m := ⟨_, rfl⟩; rw [← hpl] at cB; have HPL := Lib.hid hpl; have HD6 := Lib.hid D6; clear D6 hpl d7'))
          go_quiet (fail)
          go_wp2
          refine bodyPost_ret (v := .tuple #[.slice none 0 0, .int .i64 (pl : Int), .int .i64 4]) (by simp [results, Tryz.results8, go_sem]) rfl ?_
          exact ParPost.nil (by rw [HPR.out, if_neg (by omega), HPL.out]; rfl) ((HKW.out _ _ _ _ _ _ HD6.out).drewN _)
        | nil =>
          have hrd := read_ok hres
          have hpos : 0 < cs.length := by
            false_or_by_contra
            have h0 : tW cs = [] := List.length_eq_zero_iff.1 (by rw [HSZ.out]; omega)
            rw [h0] at hres
            have h1 : Ps.formP (sigP S) 1 [] = .bad [] 4 := readF_nil _
            rw [show ([] : List ByteArray).length + 1 = 1 from rfl, h1] at hres
            cases hres
          have HPS := Lib.hid hpos
          clear hres
          cases hd : dB tr with
          | true =>
            rw [hd, if_pos rfl] at hrd
            have HPR := Lib.hid (HPF.out _ _ _ hrd)
            have h200 : 200 < (cl tr).length := of_decide_eq_true hd
            have H2 := Lib.hid h200
            clear hrd hd h200 hpos
            go_wp2_with (go_at_call 21
                         (with_reducible refine HF'.out.mono ?_)
                         rintro e w5 ⟨v5, rfl, ⟨⟨hsf, dv, D5'⟩, hnx, ho5⟩, V5⟩
                         clear V5 hsf hnx ho5
                         rw [HWS.out] at D5'
                         obtain ⟨A5, a5, rfl⟩ := own_form D5'.own
                         obtain ⟨c4', c5, c6, c7'⟩ := HCL.out _ _ _ _ _ _ D5'
                         have c7 : w5.cell? ⟨w2.heap.size, 7, none⟩ = some (.int .i64 0) := c7'
                         have c4 : w5.cell? ⟨w2.heap.size, 4, none⟩ = some (.int .i64 (cs.length : Int)) := c4'
                         obtain ⟨bl, off, rfl, hcap, cB'⟩ := HAT.out w5 cs.length (HKP.out _ _ _ _ _ _ D5') HPS.out (Nat.le_refl _)
                         rw [Nat.sub_self, Nat.add_zero] at cB'
                         obtain ⟨pl, hpl⟩ : ∃ pl : Nat, pl = placeF t cs cs.length := ⟨_, rfl⟩
                         rw [← hpl] at cB'
                         have hcp : (0 : Int) < (cs.length : Int) := (by have := HPS.out; omega)
                         obtain ⟨N5, hN⟩ : ∃ N5 : Nat, N5 = (ins tr []).2.length := ⟨_, rfl⟩
                         rw [← hN] at c5
                         have h200 : (200 : Int) < (N5 : Int) := (by have := H2.out; unfold cl at this; omega)
                         have HPL := Lib.hid hpl
                         have HD5 := Lib.hid D5'
                         clear D5' c7' c4' hpl hN)
            go_quiet (fail)
            go_wp2
            refine bodyPost_ret (v := .tuple #[.slice none 0 0, .int .i64 (pl : Int), .int .i64 8]) (by simp [results, Tryz.results8, go_sem]) rfl ?_
            exact ParPost.nil (by rw [HPR.out, if_neg (by omega), HPL.out, HSZ.out]; rfl) ((HKW.out _ _ _ _ _ _ HD5.out).drewN _)
          | false =>
            rw [hd, if_neg (by simp)] at hrd
            have HPR : Hid (parseF S t = (cl tr, 0, 0)) := Lib.hid ((HPF.out _ _ _ hrd).trans (if_pos rfl))
            have h200 : ¬ 200 < (cl tr).length := of_decide_eq_false hd
            have H2 := Lib.hid h200
            clear hrd hd h200 hpos
            go_wp2_with (go_at_call 21
                         (with_reducible refine HF'.out.mono ?_)
                         rintro e w5 ⟨v5, rfl, ⟨⟨hsf, dv, D5'⟩, hnx, ho5⟩, V5⟩
                         clear V5 hsf hnx ho5
                         rw [HWS.out] at D5'
                         obtain ⟨A5, a5, rfl⟩ := own_form D5'.own
                         obtain ⟨c4', c5, c6, c7'⟩ := HCL.out _ _ _ _ _ _ D5'
                         have c7 : w5.cell? ⟨w2.heap.size, 7, none⟩ = some (.int .i64 0) := c7'
                         have c4 : w5.cell? ⟨w2.heap.size, 4, none⟩ = some (.int .i64 (cs.length : Int)) := c4'
                         obtain ⟨N5, hN⟩ : ∃ N5 : Nat, N5 = (ins tr []).2.length := ⟨_, rfl⟩
                         rw [← hN] at c5
                         have h200 : ¬ (200 : Int) < (N5 : Int) := (by have := H2.out; unfold cl at this; omega)
                         have HN := Lib.hid hN
                         have HD5 := Lib.hid D5'
                         clear D5' c7' c4' hN)
            refine bodyPost_ret (v := .tuple #[.slice A5 N5 a5, .int .i64 0, .int .i64 0]) (by simp [results, Tryz.results8, go_sem]) rfl ?_
            refine ⟨A5, a5, ?_, ?_, HKW.out _ _ _ _ _ _ HD5.out⟩
            · rw [HPR.out, HN.out]; rfl
            · rw [HPR.out]; exact Rd.of_own HD5.out.own
    · have hpf : parseF S t = ([], p, x) := by
        unfold parseF
        rw [if_neg (by rw [HH0.out]; simp), HTF.out, if_neg hx]
      have HPF := Lib.hid hpf
      have hx' : (x != 0) = true := by simpa using hx
      clear hpf hx
      go_wp2
      refine bodyPost_ret (v := .tuple #[.slice none 0 0, .int .i64 p, .int .i64 x]) (by simp [results, Tryz.results8, go_sem]) rfl ?_
      exact ParPost.nil HPF.out k02
  · have HPF := Lib.hid (show parseF S t = ([], 0, (checkS S : Int)) by unfold parseF; rw [if_pos h0])
    generalize checkS S = n at *
    have hn : ((n : Int) != 0) = true := by simp; omega
    go_enter Tryz.func8, Tryz.ntmps8
    go_wp2_with (go_at_call 19; (with_reducible refine HC.out.mono ?_); rintro e w1 ⟨rfl, hk1⟩; have hk := hK0.trans hk1 fun _ _ h => h)
    refine bodyPost_ret (v := .tuple #[.slice none 0 0, .int .i64 0, .int .i64 n]) (by simp [results, Tryz.results8, go_sem]) rfl ?_
    exact ParPost.nil HPF.out hk
end
end Go.Proofs.YtdhdcenjiopofaaGreatDoor
