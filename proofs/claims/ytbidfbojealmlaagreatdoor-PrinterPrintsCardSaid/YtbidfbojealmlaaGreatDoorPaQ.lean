/- The reader: what modal does. Conditions: the reader lies as it is built; what formula and prefix do. The reader: what dynamic does. Conditions: the reader lies as it is built; what formula and prefix do. No condition. -/
import Derived.Test.YtbidfbojealmlaaGreatDoorPaO
set_option linter.unusedVariables false
set_option linter.unusedSimpArgs false
namespace Go.Proofs.YtbidfbojealmlaaGreatDoor
open Go.RowKit
open Fm (Nd cl mk0 mk1 mk2 tr)
open Fm.Form
open Ps (Res)

theorem lt_find {S : Sg} (h : checkS S = 0) {l : List ByteArray} {m : Nat} (hl : l.length ≤ m) : ∀ t, findS S l t < (m : Int) := fun t => by
  rw [findS_ok h]
  rcases idx_cases l t with ⟨h, _⟩ | ⟨k, h, hk, _⟩ <;> rw [h] <;> omega
theorem name_val {α : Type} {st : Res α} {find : ByteArray → Int} {m : Nat} (h : ∀ t, find t < (m : Int)) {p : α × Nat} {r : List ByteArray} (e : thenP st (Ps.name find) = .ok p r) : p.2 < m := by
  cases st with
  | bad r0 x => cases e
  | ok a0 r0 =>
    simp only [thenP] at e
    cases hw : Ps.name find r0 with
    | bad r1 x => rw [hw] at e; cases e
    | ok u r1 => rw [hw] at e; cases e; exact Ps.val_name h _ _ _ hw
theorem thenP_le {α β : Type} {st : Res α} {p : Ps.P β} (hp : Ps.Shr p) {b : α × β} {r : List ByteArray} (e : thenP st p = .ok b r) : ∃ r', st = .ok b.1 r' ∧ r.length ≤ r'.length := by
  obtain ⟨r', h⟩ := thenP_ok e
  subst h
  exact ⟨r', rfl, thenP_len hp e⟩
section
set_option maxRecDepth 100000
set_option maxHeartbeats 4000000
variable {E : Env}
theorem own_agent {op : Int} (h : op = 9 ∨ op = 10 ∨ op = 14 ∨ op = 15) {a : Nat} (ha : a < 4) : Fm.own op a 0 0 = true := by
  have h4 : a = 0 ∨ a = 1 ∨ a = 2 ∨ a = 3 := by omega
  rcases h with rfl | rfl | rfl | rfl <;> rcases h4 with rfl | rfl | rfl | rfl <;> decide
theorem ag4 (hE : E.Ok) : ∀ t, findS E.S E.S.A t < ((4 : Nat) : Int) := lt_find hE.chk (checkS_ok hE.chk).lA
theorem c_Know_fr {w : World} {A : Option Addr} {c : Nat} {f : List Nd} (g : Int) (hb : E.b < w.heap.size) (h : FR E w A c f) : Calls Tryz.prog 147 #[.int .i64 g, .slice A f.length c] w fun e w' => ∃ (A'' : Option Addr) (c'' : Nat), e = .returned (.slice A'' (mk1 9 g 0 0 f).length c'') ∧ FR E w' A'' c'' (mk1 9 g 0 0 f) ∧ Keep NoF w w' :=
  (c_Know g h.len h.rd).mono fun _ _ h => h.fr hb (mk_len1 _ _ _ _ _)
theorem modal_K (hE : E.Ok) {form q : Ps.P Fm.Form} {N : Nat} (HFO : Part E 35 #[E.ptr] (fun _ => True) form N) (hff : Ps.Fine form) (HP : Part E 117 #[E.ptr] (fun _ => True) q N) {ts : List ByteArray} {w : World} {L0 : Bool} (hlt : ts.length < N) (hl : Live E w ts L0) :
    Calls Tryz.prog 132 #[E.ptr, .string ⟨#[75]⟩] w (Post E w L0 (mapR (thenP (thenW (thenP (thenW (Res.ok () ts) Ps.wLB) (Ps.name (findS E.S E.S.A))) Ps.wRB) q) fun p => un 9 (p.1.2 : Int) 0 0 p.2)) := by
  have HW1 := Lib.hid (want_all hE ⟨#[91]⟩ (by decide) (st := Res.ok () ts) (Lf := fun _ => L0) hl)
  have HPX := Lib.hid HP
  have HFX := Lib.hid HFO
  have HFF := Lib.hid hff
  have HLT := Lib.hid hlt
  clear HP HFO hff hlt hl
  go_enter Tryz.func132, Tryz.ntmps132
  go_wp2_with (first
    | (go_at_call 131; (with_reducible refine HW1.out.mono ?_); rintro e w1 ⟨rfl, S1, K1⟩; have H2 := Lib.hid (name_all hE (find_agent hE) S1))
    | (go_at_call 134; (with_reducible refine H2.out.mono ?_); rintro e w2 ⟨v, rfl, S2, V2, K2⟩; have HV2 := Lib.hid V2; clear V2; have HT := Lib.hid (true_any hE S2.lt))
    | (go_at_call 99; (with_reducible refine HT.out.mono ?_); rintro e w3 ⟨A3, c3, rfl, R3, K3⟩; have HW2 := Lib.hid (want_all hE ⟨#[93]⟩ (by decide) (S2.keep K3)))
    | (go_at_call 131
       (with_reducible refine HW2.out.mono ?_)
       rintro e w4 ⟨rfl, S4, K4⟩
       have H5 := Lib.hid (prefix_all hE HPX.out S4 (fun a r e => by
         obtain ⟨r2, h2, h3⟩ := thenW_ok e
         obtain ⟨r4, h4, h5⟩ := thenP_le (Ps.fine_name _).shr h2
         obtain ⟨r5, h6, h7⟩ := thenW_ok h4
         cases h6
         have h8 := (Ps.fine_want ⟨#[93]⟩).shr.ok h3
         have h9 := (Ps.fine_want ⟨#[91]⟩).shr.ok h7
         have := HLT.out
         omega)))
    | (go_at_call 117; (with_reducible refine H5.out.mono ?_); rintro e w5 ⟨A5, c5, f5, rfl, R5, K5, Q5⟩; have HQ5 := Lib.hid Q5; have H6 := Lib.hid (c_Know_fr v Q5.ss.lt R5); clear Q5)
    | (go_at_call 147
       (with_reducible refine H6.out.mono ?_)
       rintro e w6 ⟨A6, c6, rfl, R6, K6⟩
       have H7 := Lib.hid (keep_un hE (L0 := L0) (st := thenP (thenW (thenP (thenW (Res.ok () ts) ⟨#[91]⟩) (Ps.name (findS E.S E.S.A))) ⟨#[93]⟩) q) (fi := fun p : Unit × Nat => (p.2 : Int)) (fe := fun _ => 0) (fg := fun _ => 0) (HQ5.out.keep K6) (fun p r e => by
         obtain ⟨r5, h8⟩ := thenP_ok e
         obtain ⟨r6, h9, _⟩ := thenW_ok h8
         have hv := HV2.out _ _ h9
         have h4 := name_val (ag4 hE) h9
         exact ⟨hv, rfl, rfl, fun hg => ⟨by decide, by decide, by rw [hv]; exact own_agent (by decide) h4, hg⟩⟩) R6))
    | (go_at_call 68; (with_reducible refine H7.out.mono ?_); rintro e w7 ⟨A7, c7, f7, rfl, R7, K7, Q7⟩))
  refine bodyPost_ret (v := .slice A7 f7.length c7) (by simp [results, Tryz.results132, go_sem]) rfl ?_
  exact ⟨A7, c7, f7, rfl, R7, K_trans (K_trans (K_trans (K_trans (K_trans K1 K2) (K0 K3)) K4) K5) (K_trans (K0 K6) K7), Q7⟩
theorem c_Poss_fr {w : World} {A : Option Addr} {c : Nat} {f : List Nd} (g : Int) (hb : E.b < w.heap.size) (h : FR E w A c f) : Calls Tryz.prog 148 #[.int .i64 g, .slice A f.length c] w fun e w' => ∃ (A'' : Option Addr) (c'' : Nat), e = .returned (.slice A'' (mk1 10 g 0 0 f).length c'') ∧ FR E w' A'' c'' (mk1 10 g 0 0 f) ∧ Keep NoF w w' :=
  (c_Poss g h.len h.rd).mono fun _ _ h => h.fr hb (mk_len1 _ _ _ _ _)
theorem modal_M (hE : E.Ok) {form q : Ps.P Fm.Form} {N : Nat} (HFO : Part E 35 #[E.ptr] (fun _ => True) form N) (hff : Ps.Fine form) (HP : Part E 117 #[E.ptr] (fun _ => True) q N) {ts : List ByteArray} {w : World} {L0 : Bool} (hlt : ts.length < N) (hl : Live E w ts L0) :
    Calls Tryz.prog 132 #[E.ptr, .string ⟨#[77]⟩] w (Post E w L0 (mapR (thenP (thenW (thenP (thenW (Res.ok () ts) Ps.wLB) (Ps.name (findS E.S E.S.A))) Ps.wRB) q) fun p => un 10 (p.1.2 : Int) 0 0 p.2)) := by
  have HW1 := Lib.hid (want_all hE ⟨#[91]⟩ (by decide) (st := Res.ok () ts) (Lf := fun _ => L0) hl)
  have HPX := Lib.hid HP
  have HFX := Lib.hid HFO
  have HFF := Lib.hid hff
  have HLT := Lib.hid hlt
  clear HP HFO hff hlt hl
  go_enter Tryz.func132, Tryz.ntmps132
  go_wp2_with (first
    | (go_at_call 131; (with_reducible refine HW1.out.mono ?_); rintro e w1 ⟨rfl, S1, K1⟩; have H2 := Lib.hid (name_all hE (find_agent hE) S1))
    | (go_at_call 134; (with_reducible refine H2.out.mono ?_); rintro e w2 ⟨v, rfl, S2, V2, K2⟩; have HV2 := Lib.hid V2; clear V2; have HT := Lib.hid (true_any hE S2.lt))
    | (go_at_call 99; (with_reducible refine HT.out.mono ?_); rintro e w3 ⟨A3, c3, rfl, R3, K3⟩; have HW2 := Lib.hid (want_all hE ⟨#[93]⟩ (by decide) (S2.keep K3)))
    | (go_at_call 131
       (with_reducible refine HW2.out.mono ?_)
       rintro e w4 ⟨rfl, S4, K4⟩
       have H5 := Lib.hid (prefix_all hE HPX.out S4 (fun a r e => by
         obtain ⟨r2, h2, h3⟩ := thenW_ok e
         obtain ⟨r4, h4, h5⟩ := thenP_le (Ps.fine_name _).shr h2
         obtain ⟨r5, h6, h7⟩ := thenW_ok h4
         cases h6
         have h8 := (Ps.fine_want ⟨#[93]⟩).shr.ok h3
         have h9 := (Ps.fine_want ⟨#[91]⟩).shr.ok h7
         have := HLT.out
         omega)))
    | (go_at_call 117; (with_reducible refine H5.out.mono ?_); rintro e w5 ⟨A5, c5, f5, rfl, R5, K5, Q5⟩; have HQ5 := Lib.hid Q5; have H6 := Lib.hid (c_Poss_fr v Q5.ss.lt R5); clear Q5)
    | (go_at_call 148
       (with_reducible refine H6.out.mono ?_)
       rintro e w6 ⟨A6, c6, rfl, R6, K6⟩
       have H7 := Lib.hid (keep_un hE (L0 := L0) (st := thenP (thenW (thenP (thenW (Res.ok () ts) ⟨#[91]⟩) (Ps.name (findS E.S E.S.A))) ⟨#[93]⟩) q) (fi := fun p : Unit × Nat => (p.2 : Int)) (fe := fun _ => 0) (fg := fun _ => 0) (HQ5.out.keep K6) (fun p r e => by
         obtain ⟨r5, h8⟩ := thenP_ok e
         obtain ⟨r6, h9, _⟩ := thenW_ok h8
         have hv := HV2.out _ _ h9
         have h4 := name_val (ag4 hE) h9
         exact ⟨hv, rfl, rfl, fun hg => ⟨by decide, by decide, by rw [hv]; exact own_agent (by decide) h4, hg⟩⟩) R6))
    | (go_at_call 68; (with_reducible refine H7.out.mono ?_); rintro e w7 ⟨A7, c7, f7, rfl, R7, K7, Q7⟩))
  refine bodyPost_ret (v := .slice A7 f7.length c7) (by simp [results, Tryz.results132, go_sem]) rfl ?_
  exact ⟨A7, c7, f7, rfl, R7, K_trans (K_trans (K_trans (K_trans (K_trans K1 K2) (K0 K3)) K4) K5) (K_trans (K0 K6) K7), Q7⟩
theorem c_Safe_fr {w : World} {A : Option Addr} {c : Nat} {f : List Nd} (g : Int) (hb : E.b < w.heap.size) (h : FR E w A c f) : Calls Tryz.prog 149 #[.int .i64 g, .slice A f.length c] w fun e w' => ∃ (A'' : Option Addr) (c'' : Nat), e = .returned (.slice A'' (mk1 15 g 0 0 f).length c'') ∧ FR E w' A'' c'' (mk1 15 g 0 0 f) ∧ Keep NoF w w' :=
  (c_Safe g h.len h.rd).mono fun _ _ h => h.fr hb (mk_len1 _ _ _ _ _)
theorem modal_S (hE : E.Ok) {form q : Ps.P Fm.Form} {N : Nat} (HFO : Part E 35 #[E.ptr] (fun _ => True) form N) (hff : Ps.Fine form) (HP : Part E 117 #[E.ptr] (fun _ => True) q N) {ts : List ByteArray} {w : World} {L0 : Bool} (hlt : ts.length < N) (hl : Live E w ts L0) :
    Calls Tryz.prog 132 #[E.ptr, .string ⟨#[83]⟩] w (Post E w L0 (mapR (thenP (thenW (thenP (thenW (Res.ok () ts) Ps.wLB) (Ps.name (findS E.S E.S.A))) Ps.wRB) q) fun p => un 15 (p.1.2 : Int) 0 0 p.2)) := by
  have HW1 := Lib.hid (want_all hE ⟨#[91]⟩ (by decide) (st := Res.ok () ts) (Lf := fun _ => L0) hl)
  have HPX := Lib.hid HP
  have HFX := Lib.hid HFO
  have HFF := Lib.hid hff
  have HLT := Lib.hid hlt
  clear HP HFO hff hlt hl
  go_enter Tryz.func132, Tryz.ntmps132
  go_wp2_with (first
    | (go_at_call 131; (with_reducible refine HW1.out.mono ?_); rintro e w1 ⟨rfl, S1, K1⟩; have H2 := Lib.hid (name_all hE (find_agent hE) S1))
    | (go_at_call 134; (with_reducible refine H2.out.mono ?_); rintro e w2 ⟨v, rfl, S2, V2, K2⟩; have HV2 := Lib.hid V2; clear V2; have HT := Lib.hid (true_any hE S2.lt))
    | (go_at_call 99; (with_reducible refine HT.out.mono ?_); rintro e w3 ⟨A3, c3, rfl, R3, K3⟩; have HW2 := Lib.hid (want_all hE ⟨#[93]⟩ (by decide) (S2.keep K3)))
    | (go_at_call 131
       (with_reducible refine HW2.out.mono ?_)
       rintro e w4 ⟨rfl, S4, K4⟩
       have H5 := Lib.hid (prefix_all hE HPX.out S4 (fun a r e => by
         obtain ⟨r2, h2, h3⟩ := thenW_ok e
         obtain ⟨r4, h4, h5⟩ := thenP_le (Ps.fine_name _).shr h2
         obtain ⟨r5, h6, h7⟩ := thenW_ok h4
         cases h6
         have h8 := (Ps.fine_want ⟨#[93]⟩).shr.ok h3
         have h9 := (Ps.fine_want ⟨#[91]⟩).shr.ok h7
         have := HLT.out
         omega)))
    | (go_at_call 117; (with_reducible refine H5.out.mono ?_); rintro e w5 ⟨A5, c5, f5, rfl, R5, K5, Q5⟩; have HQ5 := Lib.hid Q5; have H6 := Lib.hid (c_Safe_fr v Q5.ss.lt R5); clear Q5)
    | (go_at_call 149
       (with_reducible refine H6.out.mono ?_)
       rintro e w6 ⟨A6, c6, rfl, R6, K6⟩
       have H7 := Lib.hid (keep_un hE (L0 := L0) (st := thenP (thenW (thenP (thenW (Res.ok () ts) ⟨#[91]⟩) (Ps.name (findS E.S E.S.A))) ⟨#[93]⟩) q) (fi := fun p : Unit × Nat => (p.2 : Int)) (fe := fun _ => 0) (fg := fun _ => 0) (HQ5.out.keep K6) (fun p r e => by
         obtain ⟨r5, h8⟩ := thenP_ok e
         obtain ⟨r6, h9, _⟩ := thenW_ok h8
         have hv := HV2.out _ _ h9
         have h4 := name_val (ag4 hE) h9
         exact ⟨hv, rfl, rfl, fun hg => ⟨by decide, by decide, by rw [hv]; exact own_agent (by decide) h4, hg⟩⟩) R6))
    | (go_at_call 68; (with_reducible refine H7.out.mono ?_); rintro e w7 ⟨A7, c7, f7, rfl, R7, K7, Q7⟩))
  refine bodyPost_ret (v := .slice A7 f7.length c7) (by simp [results, Tryz.results132, go_sem]) rfl ?_
  exact ⟨A7, c7, f7, rfl, R7, K_trans (K_trans (K_trans (K_trans (K_trans K1 K2) (K0 K3)) K4) K5) (K_trans (K0 K6) K7), Q7⟩
theorem modal_E (hE : E.Ok) {form q : Ps.P Fm.Form} {N : Nat} (HFO : Part E 35 #[E.ptr] (fun _ => True) form N) (hff : Ps.Fine form) (HP : Part E 117 #[E.ptr] (fun _ => True) q N) {ts : List ByteArray} {w : World} {L0 : Bool} (hlt : ts.length < N) (hl : Live E w ts L0) :
    Calls Tryz.prog 132 #[E.ptr, .string ⟨#[69]⟩] w (Post E w L0 (mapR (thenP (thenW (stepU (thenW (Res.ok () ts) Ps.wLB) (Ps.groupP (findS E.S E.S.A) N 0)) Ps.wRB) q) fun p => un 11 0 0 (p.1 : Int) p.2)) := by
  have HW1 := Lib.hid (want_all hE ⟨#[91]⟩ (by decide) (st := Res.ok () ts) (Lf := fun _ => L0) hl)
  have HPX := Lib.hid HP
  have HFX := Lib.hid HFO
  have HFF := Lib.hid hff
  have HLT := Lib.hid hlt
  clear HP HFO hff hlt hl
  go_enter Tryz.func132, Tryz.ntmps132
  go_wp2_with (first
    | (go_at_call 131
       (with_reducible refine HW1.out.mono ?_)
       rintro e w1 ⟨rfl, S1, K1⟩
       have H2 := Lib.hid (group_E hE HPX.out S1 (fun a r e => by
           obtain ⟨r2, h2, h3⟩ := thenW_ok e
           cases h2
           have h6 := (Ps.fine_want ⟨#[91]⟩).shr.ok h3
           have := HLT.out
           omega)))
    | (go_at_call 145; (with_reducible refine H2.out.mono ?_); rintro e w2 ⟨A2, c2, f2, rfl, R2, K2, Q2⟩))
  refine bodyPost_ret (v := .slice A2 f2.length c2) (by simp [results, Tryz.results132, go_sem]) rfl ?_
  exact ⟨A2, c2, f2, rfl, R2, K_trans K1 K2, Q2⟩
theorem modal_D (hE : E.Ok) {form q : Ps.P Fm.Form} {N : Nat} (HFO : Part E 35 #[E.ptr] (fun _ => True) form N) (hff : Ps.Fine form) (HP : Part E 117 #[E.ptr] (fun _ => True) q N) {ts : List ByteArray} {w : World} {L0 : Bool} (hlt : ts.length < N) (hl : Live E w ts L0) :
    Calls Tryz.prog 132 #[E.ptr, .string ⟨#[68]⟩] w (Post E w L0 (mapR (thenP (thenW (stepU (thenW (Res.ok () ts) Ps.wLB) (Ps.groupP (findS E.S E.S.A) N 0)) Ps.wRB) q) fun p => un 12 0 0 (p.1 : Int) p.2)) := by
  have HW1 := Lib.hid (want_all hE ⟨#[91]⟩ (by decide) (st := Res.ok () ts) (Lf := fun _ => L0) hl)
  have HPX := Lib.hid HP
  have HFX := Lib.hid HFO
  have HFF := Lib.hid hff
  have HLT := Lib.hid hlt
  clear HP HFO hff hlt hl
  go_enter Tryz.func132, Tryz.ntmps132
  go_wp2_with (first
    | (go_at_call 131
       (with_reducible refine HW1.out.mono ?_)
       rintro e w1 ⟨rfl, S1, K1⟩
       have H2 := Lib.hid (group_D hE HPX.out S1 (fun a r e => by
           obtain ⟨r2, h2, h3⟩ := thenW_ok e
           cases h2
           have h6 := (Ps.fine_want ⟨#[91]⟩).shr.ok h3
           have := HLT.out
           omega)))
    | (go_at_call 145; (with_reducible refine H2.out.mono ?_); rintro e w2 ⟨A2, c2, f2, rfl, R2, K2, Q2⟩))
  refine bodyPost_ret (v := .slice A2 f2.length c2) (by simp [results, Tryz.results132, go_sem]) rfl ?_
  exact ⟨A2, c2, f2, rfl, R2, K_trans K1 K2, Q2⟩
theorem modal_C (hE : E.Ok) {form q : Ps.P Fm.Form} {N : Nat} (HFO : Part E 35 #[E.ptr] (fun _ => True) form N) (hff : Ps.Fine form) (HP : Part E 117 #[E.ptr] (fun _ => True) q N) {ts : List ByteArray} {w : World} {L0 : Bool} (hlt : ts.length < N) (hl : Live E w ts L0) :
    Calls Tryz.prog 132 #[E.ptr, .string ⟨#[67]⟩] w (Post E w L0 (mapR (thenP (thenW (barS (stepU (thenW (Res.ok () ts) Ps.wLB) (Ps.groupP (findS E.S E.S.A) N 0)) form) Ps.wRB) q) fun p => bin 13 0 0 (p.1.1 : Int) p.1.2 p.2)) := by
  have HW1 := Lib.hid (want_all hE ⟨#[91]⟩ (by decide) (st := Res.ok () ts) (Lf := fun _ => L0) hl)
  have HPX := Lib.hid HP
  have HFX := Lib.hid HFO
  have HFF := Lib.hid hff
  have HLT := Lib.hid hlt
  clear HP HFO hff hlt hl
  go_enter Tryz.func132, Tryz.ntmps132
  go_wp2_with (first
    | (go_at_call 131
       (with_reducible refine HW1.out.mono ?_)
       rintro e w1 ⟨rfl, S1, K1⟩
       have H2 := Lib.hid (group_C hE HFX.out HFF.out HPX.out S1 (fun a r e => by
           obtain ⟨r2, h2, h3⟩ := thenW_ok e
           cases h2
           have h6 := (Ps.fine_want ⟨#[91]⟩).shr.ok h3
           have := HLT.out
           omega)))
    | (go_at_call 145; (with_reducible refine H2.out.mono ?_); rintro e w2 ⟨A2, c2, f2, rfl, R2, K2, Q2⟩))
  refine bodyPost_ret (v := .slice A2 f2.length c2) (by simp [results, Tryz.results132, go_sem]) rfl ?_
  exact ⟨A2, c2, f2, rfl, R2, K_trans K1 K2, Q2⟩
theorem c_Belief_fr {w : World} {A A' : Option Addr} {c c' : Nat} {f h : List Nd} (g : Int) (hb : E.b < w.heap.size) (h1 : FR E w A c f) (h2 : FR E w A' c' h) : Calls Tryz.prog 150 #[.int .i64 g, .slice A f.length c, .slice A' h.length c'] w fun e w' => ∃ (A'' : Option Addr) (c'' : Nat), e = .returned (.slice A'' (mk2 14 g 0 0 f h).length c'') ∧ FR E w' A'' c'' (mk2 14 g 0 0 f h) ∧ Keep NoF w w' :=
  (c_Belief g h1.len h1.rd h2.len h2.rd).mono fun _ _ h => h.fr hb (mk_len2 _ _ _ _ _ _)
theorem modal_B (hE : E.Ok) {form q : Ps.P Fm.Form} {N : Nat} (HFO : Part E 35 #[E.ptr] (fun _ => True) form N) (hff : Ps.Fine form) (HP : Part E 117 #[E.ptr] (fun _ => True) q N) {ts : List ByteArray} {w : World} {L0 : Bool} (hlt : ts.length < N) (hl : Live E w ts L0) :
    Calls Tryz.prog 132 #[E.ptr, .string ⟨#[66]⟩] w (Post E w L0 (mapR (thenP (thenW (barS (thenP (thenW (Res.ok () ts) Ps.wLB) (Ps.name (findS E.S E.S.A))) form) Ps.wRB) q) fun p => bin 14 (p.1.1.2 : Int) 0 0 p.1.2 p.2)) := by
  have HW1 := Lib.hid (want_all hE ⟨#[91]⟩ (by decide) (st := Res.ok () ts) (Lf := fun _ => L0) hl)
  have HPX := Lib.hid HP
  have HFX := Lib.hid HFO
  have HFF := Lib.hid hff
  have HLT := Lib.hid hlt
  clear HP HFO hff hlt hl
  have HSH : Hid (∀ a r, (thenP (thenW (Res.ok () ts) ⟨#[91]⟩) (Ps.name (findS E.S E.S.A))) = .ok a r → r.length < N) := Lib.hid fun a r e => by
    obtain ⟨r4, h4, h5⟩ := thenP_le (Ps.fine_name _).shr e
    obtain ⟨r5, h6, h7⟩ := thenW_ok h4
    cases h6
    have h9 := (Ps.fine_want ⟨#[91]⟩).shr.ok h7
    have := HLT.out
    omega
  have HVL : Hid (∀ a r, (thenP (thenW (Res.ok () ts) ⟨#[91]⟩) (Ps.name (findS E.S E.S.A))) = .ok a r → a.2 < 4) := Lib.hid fun a r e => name_val (ag4 hE) e
  cases htk : takes (thenP (thenW (Res.ok () ts) ⟨#[91]⟩) (Ps.name (findS E.S E.S.A))) Ps.wOr with
  | true =>
    obtain ⟨g1, r1, hres⟩ := takes_yes htk
    have hg4 := HVL.out _ _ hres
    have hrN : r1.length < N := by have := HSH.out _ _ hres; simp at this; omega
    have hb : barS (thenP (thenW (Res.ok () ts) ⟨#[91]⟩) (Ps.name (findS E.S E.S.A))) form = thenP (.ok g1 r1) form := by rw [hres] at htk ⊢; simp only [barS, htk, if_true, tookR]
    have htl : takes (Res.ok g1 (Ps.wOr :: r1)) ⟨#[124]⟩ = true := by rw [hres] at htk; exact htk
    have HTL := Lib.hid htl
    have HBR : Hid (barS (thenP (thenW (Res.ok () ts) Ps.wLB) (Ps.name (findS E.S E.S.A))) form = thenP (.ok g1 r1) form) := Lib.hid hb
    have HRS := Lib.hid hres
    clear htk htl hb hres
    go_enter Tryz.func132, Tryz.ntmps132
    go_wp2_with (first
      | (go_at_call 131; (with_reducible refine HW1.out.mono ?_); rintro e w1 ⟨rfl, S1, K1⟩; have H2 := Lib.hid (name_all hE (find_agent hE) S1))
      | (go_at_call 134; (with_reducible refine H2.out.mono ?_); rintro e w2 ⟨v, rfl, S2, V2, K2⟩; have HV2 := Lib.hid V2; clear V2; have HT := Lib.hid (true_any hE S2.lt); rw [HRS.out] at S2)
      | (go_at_call 99; (with_reducible refine HT.out.mono ?_); rintro e w3 ⟨A3, c3, rfl, R3, K3⟩; have HTK := Lib.hid (take_all_yes hE ⟨#[124]⟩ (by decide) (S2.keep K3) HTL.out))
      | (go_at_call 67; (with_reducible refine HTK.out.mono ?_); rintro e w4 ⟨rfl, S4, K4⟩; have H3 := Lib.hid (formula_all HFX.out S4 hrN))
      | (go_at_call 35; (with_reducible refine H3.out.mono ?_); rintro e w5 ⟨A5, c5, f5, rfl, R5, K5, Q5⟩; have HQ5 := Lib.hid Q5; have HW2 := Lib.hid (want_all hE ⟨#[93]⟩ (by decide) Q5.ss); clear Q5)
      | (go_at_call 131
         (with_reducible refine HW2.out.mono ?_)
         rintro e w6 ⟨rfl, S6, K6⟩
         have H6 := Lib.hid (prefix_all hE HPX.out S6 (fun a r e => by
           obtain ⟨r2, h2, h3⟩ := thenW_ok e
           have h6 := (Ps.fine_want ⟨#[93]⟩).shr.ok h3
           have h7 := thenP_len HFF.out.shr h2
           omega)))
      | (go_at_call 117; (with_reducible refine H6.out.mono ?_); rintro e w7 ⟨A7, c7, f7, rfl, R7, K7, Q7⟩; have HQ7 := Lib.hid Q7; have H7 := Lib.hid (c_Belief_fr v Q7.ss.lt ((R5.keep K6).keep K7) R7); clear Q7)
      | (go_at_call 150
         (with_reducible refine H7.out.mono ?_)
         rintro e w8 ⟨A8, c8, rfl, R8, K8⟩
         have H8 := Lib.hid (keep_bin hE (L0 := L0) (st := thenP (thenW (thenP (Res.ok g1 r1) form) ⟨#[93]⟩) q) (fi := fun p : (Unit × Nat) × Fm.Form => (p.1.2 : Int)) (fe := fun _ => 0) (fg := fun _ => 0) (ff := fun p => p.2) (HQ7.out.keep K8) (fun p r e => by
           obtain ⟨r5, h8⟩ := thenP_ok e
           obtain ⟨r6, h9, _⟩ := thenW_ok h8
           have hq := HQ5.out
           rw [h9] at hq
           obtain ⟨r7, h10⟩ := thenP_ok h9
           have hg1 : g1 = p.1.1 := by cases h10; rfl
           have hv : v = (p.1.1.2 : Int) := by rw [HV2.out _ _ HRS.out, hg1]
           exact ⟨hv, rfl, rfl, fun hg => ⟨by decide, by rw [hv, ← hg1]; exact own_agent (by decide) hg4, hq.1, hg⟩, hq.2.2⟩) R8))
      | (go_at_call 68; (with_reducible refine H8.out.mono ?_); rintro e w9 ⟨A9, c9, f9, rfl, R9, K9, Q9⟩))
    refine bodyPost_ret (v := .slice A9 f9.length c9) (by simp [results, Tryz.results132, go_sem]) rfl ?_
    rw [HBR.out]
    exact ⟨A9, c9, f9, rfl, R9, K_trans (K_trans (K_trans (K_trans (K_trans K1 K2) (K0 K3)) K4) K5) (K_trans (K_trans K6 K7) (K_trans (K0 K8) K9)), Q9⟩
  | false =>
    have hb : barS (thenP (thenW (Res.ok () ts) ⟨#[91]⟩) (Ps.name (findS E.S E.S.A))) form = mapR (thenP (thenW (Res.ok () ts) ⟨#[91]⟩) (Ps.name (findS E.S E.S.A))) fun g => (g, leaf 1 0 0 0) := by simp only [barS, htk, Bool.false_eq_true, if_false]
    have htl : takes (thenP (thenW (Res.ok () ts) ⟨#[91]⟩) (Ps.name (findS E.S E.S.A))) ⟨#[124]⟩ = false := htk
    have HTL := Lib.hid htl
    have HBR : Hid (barS (thenP (thenW (Res.ok () ts) Ps.wLB) (Ps.name (findS E.S E.S.A))) form = mapR (thenP (thenW (Res.ok () ts) Ps.wLB) (Ps.name (findS E.S E.S.A))) fun g => (g, leaf 1 0 0 0)) := Lib.hid hb
    clear htk htl hb
    go_enter Tryz.func132, Tryz.ntmps132
    go_wp2_with (first
      | (go_at_call 131; (with_reducible refine HW1.out.mono ?_); rintro e w1 ⟨rfl, S1, K1⟩; have H2 := Lib.hid (name_all hE (find_agent hE) S1))
      | (go_at_call 134; (with_reducible refine H2.out.mono ?_); rintro e w2 ⟨v, rfl, S2, V2, K2⟩; have HV2 := Lib.hid V2; clear V2; have HT := Lib.hid (true_any hE S2.lt))
      | (go_at_call 99; (with_reducible refine HT.out.mono ?_); rintro e w3 ⟨A3, c3, rfl, R3, K3⟩; have HTK := Lib.hid (take_all_no hE ⟨#[124]⟩ (S2.keep K3) HTL.out))
      | (go_at_call 67; (with_reducible refine HTK.out.mono ?_); rintro e w4 ⟨rfl, K4⟩; have HW2 := Lib.hid (want_all hE ⟨#[93]⟩ (by decide) ((S2.keep K3).keep K4).bar))
      | (go_at_call 131
         (with_reducible refine HW2.out.mono ?_)
         rintro e w6 ⟨rfl, S6, K6⟩
         have H6 := Lib.hid (prefix_all hE HPX.out S6 (fun a r e => by
           obtain ⟨r2, h2, h3⟩ := thenW_ok e
           obtain ⟨g2, h5, _⟩ := mapR_ok h2
           have h6 := (Ps.fine_want ⟨#[93]⟩).shr.ok h3
           have h7 := HSH.out g2 r2 h5
           omega)))
      | (go_at_call 117; (with_reducible refine H6.out.mono ?_); rintro e w7 ⟨A7, c7, f7, rfl, R7, K7, Q7⟩; have HQ7 := Lib.hid Q7; have H7 := Lib.hid (by have h := c_Belief_fr v Q7.ss.lt (f := cl (leaf 1 0 0 0)) (((R3.keep (K0 K4)).keep K6).keep K7) R7; rwa [cl_true_len] at h); clear Q7)
      | (go_at_call 150
         (with_reducible refine H7.out.mono ?_)
         rintro e w8 ⟨A8, c8, rfl, R8, K8⟩
         have H8 := Lib.hid (keep_bin hE (L0 := L0) (st := thenP (thenW (mapR (thenP (thenW (Res.ok () ts) ⟨#[91]⟩) (Ps.name (findS E.S E.S.A))) fun g => (g, leaf 1 0 0 0)) ⟨#[93]⟩) q) (fi := fun p : (Unit × Nat) × Fm.Form => (p.1.2 : Int)) (fe := fun _ => 0) (fg := fun _ => 0) (ff := fun p => p.2) (HQ7.out.keep K8) (fun p r e => by
           obtain ⟨r5, h8⟩ := thenP_ok e
           obtain ⟨r6, h9, _⟩ := thenW_ok h8
           obtain ⟨g2, h10, h11⟩ := mapR_ok h9
           have hz := HV2.out _ _ h10
           have hg4 := HVL.out _ _ h10
           have hp1 : p.1.1 = g2 := by rw [← h11]
           have hp2 : p.1.2 = leaf 1 0 0 0 := by rw [← h11]
           exact ⟨by rw [hz, hp1], rfl, rfl, fun hg => ⟨by decide, by rw [hz]; exact own_agent (by decide) hg4, by rw [hp2]; exact ⟨by decide, by decide⟩, hg⟩, fun _ => by rw [hp2]⟩) R8))
      | (go_at_call 68; (with_reducible refine H8.out.mono ?_); rintro e w9 ⟨A9, c9, f9, rfl, R9, K9, Q9⟩))
    refine bodyPost_ret (v := .slice A9 f9.length c9) (by simp [results, Tryz.results132, go_sem]) rfl ?_
    rw [HBR.out]
    exact ⟨A9, c9, f9, rfl, R9, K_trans (K_trans (K_trans (K_trans K1 K2) (K0 K3)) (K0 K4)) (K_trans (K_trans K6 K7) (K_trans (K0 K8) K9)), Q9⟩
end
end Go.Proofs.YtbidfbojealmlaaGreatDoor
namespace Go.Proofs.YtbidfbojealmlaaGreatDoor
open Go.RowKit
open Fm (Nd cl mk0 mk1 mk2 tr)
open Fm.Form
open Ps (Res)

theorem own_act {i e : Nat} (h : i < 8) (h' : e < 8) : Fm.own 17 i e 0 = true := (Ps.q_act (nA := 0) (nF := 0) h h').1
theorem num_val {α : Type} {st : Res α} {p : α × Nat} {r : List ByteArray} (e : thenP st Ps.number = .ok p r) : p.2 < 8 := by
  cases st with
  | bad r0 x => cases e
  | ok a0 r0 =>
    simp only [thenP] at e
    cases hw : Ps.number r0 with
    | bad r1 x => rw [hw] at e; cases e
    | ok u r1 => rw [hw] at e; cases e; exact Ps.val_tok (R := (· < 8)) (fun t i e => Ps.numE_lt e) _ _ _ hw
theorem num_tok {α : Type} {a : α} {t : ByteArray} {r : List ByteArray} {i : Nat} (h : Ps.numE t = .ok i) : thenP (Res.ok a (t :: r)) Ps.number = .ok (a, i) r := by
  simp only [thenP, Ps.number, Ps.tok_ok h]
theorem num_err {α : Type} {a : α} {t : ByteArray} {r : List ByteArray} {x : Nat} (h : Ps.numE t = .error x) : thenP (Res.ok a (t :: r)) Ps.number = .bad (t :: r) x := by
  simp only [thenP, Ps.number, Ps.tok_err h]
section
set_option maxRecDepth 100000
set_option maxHeartbeats 4000000
variable {E : Env}
theorem c_Announce_fr {w : World} {A A' : Option Addr} {c c' : Nat} {f h : List Nd} (hb : E.b < w.heap.size) (h1 : FR E w A c f) (h2 : FR E w A' c' h) : Calls Tryz.prog 151 #[.slice A f.length c, .slice A' h.length c'] w fun e w' => ∃ (A'' : Option Addr) (c'' : Nat), e = .returned (.slice A'' (mk2 16 0 0 0 f h).length c'') ∧ FR E w' A'' c'' (mk2 16 0 0 0 f h) ∧ Keep NoF w w' :=
  (c_Announce h1.len h1.rd h2.len h2.rd).mono fun _ _ h => h.fr hb (mk_len2 _ _ _ _ _ _)
theorem c_Act_fr {w : World} {A : Option Addr} {c : Nat} {f : List Nd} (i e : Int) (hb : E.b < w.heap.size) (h : FR E w A c f) : Calls Tryz.prog 153 #[.int .i64 i, .int .i64 e, .slice A f.length c] w fun e1 w' => ∃ (A'' : Option Addr) (c'' : Nat), e1 = .returned (.slice A'' (mk1 17 i e 0 f).length c'') ∧ FR E w' A'' c'' (mk1 17 i e 0 f) ∧ Keep NoF w w' :=
  (c_Act i e h.len h.rd).mono fun _ _ h => h.fr hb (mk_len1 _ _ _ _ _)
/-- The present word, or none. -/
def tokS {α : Type} (st : Res α) : ByteArray := match st with | .ok _ (t :: _) => t | _ => ⟨#[]⟩
theorem peek_all (hE : E.Ok) {α : Type} {w : World} {st : Res α} {Lf : α → Bool} (h : SS E w st Lf) : Calls Tryz.prog 98 #[E.ptr] w fun e w' => e = .returned (.string (tokS st)) ∧ Keep NoF w w' := by
  cases st with
  | bad r x => obtain ⟨L, hd⟩ := h; exact peek_dead hE hd
  | ok a ts =>
    cases ts with
    | nil => exact peek_end hE (fail := 0) (wh := 0) (L := Lf a) (w := w) (by simpa using (show Live E w [] (Lf a) from h).st)
    | cons t r => exact peek_tok hE h
theorem dyn_ann (hE : E.Ok) {form q : Ps.P Fm.Form} {N : Nat} (HFO : Part E 35 #[E.ptr] (fun _ => True) form N) (hff : Ps.Fine form) (HP : Part E 117 #[E.ptr] (fun _ => True) q N) {ts : List ByteArray} {w : World} {L0 : Bool} (hlt : ts.length < N) (hl : Live E w (Ps.wBang :: ts) L0) :
    Calls Tryz.prog 133 #[E.ptr] w (Post E w L0 (mapR (thenP (thenW (thenP (Res.ok () ts) form) Ps.wRB) q) fun p => bin 16 0 0 0 p.1.2 p.2)) := by
  have HTK := Lib.hid (take_yes_any hE ⟨#[33]⟩ (by decide) hl)
  have HPX := Lib.hid HP
  have HFX := Lib.hid HFO
  have HFF := Lib.hid hff
  have HLT := Lib.hid hlt
  clear HP HFO hff hlt hl
  go_enter Tryz.func133, Tryz.ntmps133
  go_wp2_with (first
    | (go_at_call 67; (with_reducible refine HTK.out.mono ?_); rintro e w1 ⟨rfl, L1, K1⟩; have H2 := Lib.hid (formula_all HFX.out (a := ()) (Lf := fun _ => L0) L1 HLT.out))
    | (go_at_call 35; (with_reducible refine H2.out.mono ?_); rintro e w2 ⟨A2, c2, f2, rfl, R2, K2, Q2⟩; have HQ2 := Lib.hid Q2; have HW := Lib.hid (want_all hE ⟨#[93]⟩ (by decide) Q2.ss); clear Q2)
    | (go_at_call 131
       (with_reducible refine HW.out.mono ?_)
       rintro e w3 ⟨rfl, S3, K3⟩
       have H4 := Lib.hid (prefix_all hE HPX.out S3 (fun a r e => by
         obtain ⟨r2, h2, h3⟩ := thenW_ok e
         have h6 := (Ps.fine_want ⟨#[93]⟩).shr.ok h3
         have h7 := thenP_len HFF.out.shr h2
         have := HLT.out
         omega)))
    | (go_at_call 117; (with_reducible refine H4.out.mono ?_); rintro e w4 ⟨A4, c4, f4, rfl, R4, K4, Q4⟩; have HQ4 := Lib.hid Q4; have H5 := Lib.hid (c_Announce_fr Q4.ss.lt ((R2.keep K3).keep K4) R4); clear Q4)
    | (go_at_call 151
       (with_reducible refine H5.out.mono ?_)
       rintro e w5 ⟨A5, c5, rfl, R5, K5⟩
       have H6 := Lib.hid (keep_bin hE (L0 := L0) (st := thenP (thenW (thenP (Res.ok () ts) form) ⟨#[93]⟩) q) (fi := fun _ => 0) (fe := fun _ => 0) (fg := fun _ => 0) (ff := fun p : Unit × Fm.Form => p.2) (HQ4.out.keep K5) (fun p r e => by
         obtain ⟨r5, h8⟩ := thenP_ok e
         obtain ⟨r6, h9, _⟩ := thenW_ok h8
         have hq := HQ2.out
         rw [h9] at hq
         exact ⟨rfl, rfl, rfl, fun hg => ⟨by decide, by decide, hq.1, hg⟩, hq.2.2⟩) R5))
    | (go_at_call 68; (with_reducible refine H6.out.mono ?_); rintro e w6 ⟨A6, c6, f6, rfl, R6, K6, Q6⟩))
  refine bodyPost_ret (v := .slice A6 f6.length c6) (by simp [results, Tryz.results133, go_sem]) rfl ?_
  exact ⟨A6, c6, f6, rfl, R6, K_trans (K_trans (K_trans (K_trans K1 K2) K3) K4) (K_trans (K0 K5) K6), Q6⟩
theorem dyn_act (hE : E.Ok) {q : Ps.P Fm.Form} {N : Nat} (HP : Part E 117 #[E.ptr] (fun _ => True) q N) {ts : List ByteArray} {w : World} {L0 : Bool} (hlt : ts.length < N) (hl : Live E w ts L0) (hno : ∀ r, ts ≠ Ps.wBang :: r) :
    Calls Tryz.prog 133 #[E.ptr] w (Post E w L0 (mapR (thenP (thenW (thenP (thenW (thenP (Res.ok () ts) (Ps.name (findS E.S E.S.C))) Ps.wDot) Ps.number) Ps.wRB) q) fun p => un 17 (p.1.1.2 : Int) (p.1.2 : Int) 0 p.2)) := by
  have HTK := Lib.hid (take_no_any hE ⟨#[33]⟩ hl hno)
  have HPX := Lib.hid HP
  have HLT := Lib.hid hlt
  have HAC := Lib.hid (lt_find hE.chk (checkS_ok hE.chk).lC)
  have HL := Lib.hid hl
  clear HP hlt hl hno
  go_enter Tryz.func133, Tryz.ntmps133
  go_upto_block 0 with (first
    | (go_at_call 67; (with_reducible refine HTK.out.mono ?_); rintro e w1 ⟨rfl, K1⟩; have H2 := Lib.hid (name_all hE (find_action hE) (st := Res.ok () ts) (Lf := fun _ => L0) (HL.out.keep K1)))
    | (go_at_call 134; (with_reducible refine H2.out.mono ?_); rintro e w2 ⟨v, rfl, S2, V2, K2⟩; have HV2 := Lib.hid V2; clear V2; have HW := Lib.hid (want_all hE ⟨#[46]⟩ (by decide) S2))
    | (go_at_call 131; (with_reducible refine HW.out.mono ?_); rintro e w3 ⟨rfl, S3, K3⟩; have HPK := Lib.hid (peek_all hE S3))
    | (go_at_call 98; (with_reducible refine HPK.out.mono ?_); rintro e w4 ⟨rfl, K4⟩))
  have hS4 := S3.keep K4
  have kk4 : E.K w w4 := K_trans (K_trans (K_trans (K0 K1) K2) K3) (K0 K4)
  have HSH : Hid (∀ a r, thenW (thenP (Res.ok () ts) (Ps.name (findS E.S E.S.C))) ⟨#[46]⟩ = .ok a r → r.length < N ∧ a.2 < 8 ∧ v = (a.2 : Int)) := Lib.hid fun a r e => by
    obtain ⟨r2, h2, h3⟩ := thenW_ok e
    obtain ⟨r4, h4, h5⟩ := thenP_le (Ps.fine_name _).shr h2
    cases h4
    have h6 := (Ps.fine_want ⟨#[46]⟩).shr.ok h3
    have := HLT.out
    exact ⟨by omega, name_val HAC.out h2, HV2.out _ _ h2⟩
  have HPO : Hid (∀ st2, thenW (thenP (Res.ok () ts) (Ps.name (findS E.S E.S.C))) ⟨#[46]⟩ = st2 → thenW (thenP (Res.ok () ts) (Ps.name (findS E.S E.S.C))) Ps.wDot = st2) := Lib.hid fun st2 h => h
  clear HTK HLT HAC HL K1 H2 S2 HV2 HW K2 S3 K3 HPK K4
  generalize hst : thenW (thenP (Res.ok () ts) (Ps.name (findS E.S E.S.C))) ⟨#[46]⟩ = st2 at *
  have HST := Lib.hid hst
  generalize htk : tokS st2 = tk at *
  have HTK := Lib.hid htk
  clear hst htk
  go_cut [5] (fun ev wc => ∃ z : Int, ev = .int .i64 z ∧ E.K w4 wc ∧ Hid (SS E wc (thenP st2 Ps.number) fun _ => L0) ∧ Hid (∀ p r, thenP st2 Ps.number = .ok p r → z = (p.2 : Int)))
  case first =>
    clear HPX kk4 HSH HPO HST
    cases st2 with
    | bad r x =>
      obtain rfl : tk = ⟨#[]⟩ := HTK.out.symm
      obtain ⟨L, hd⟩ := hS4
      have HSP := Lib.hid (stop_dead hd 4)
      have HD := Lib.hid hd
      clear hd
      go_wp2_with (go_at_call 36; (with_reducible refine HSP.out.mono ?_); rintro e w' ⟨rfl, hw'⟩; obtain rfl := hw'.symm)
      go_meet
      case rel => exact ⟨0, rfl, Keep.refl _ _, Lib.hid ⟨L, HD.out⟩, Lib.hid fun p r e => by cases e⟩
    | ok a tl =>
      cases tl with
      | nil =>
        obtain rfl : tk = ⟨#[]⟩ := HTK.out.symm
        have HSP : Hid (Calls Tryz.prog 36 #[E.ptr, .int .i64 4] w4 _) := Lib.hid (stop_live hE hS4 (x := 4) (by omega))
        clear hS4
        go_wp2_with (go_at_call 36; (with_reducible refine HSP.out.mono ?_); rintro e w5 ⟨rfl, D5, K5⟩)
        go_meet
        case rel => exact ⟨0, rfl, K5, Lib.hid ⟨L0, D5⟩, Lib.hid fun p r e => by cases e⟩
      | cons t r =>
        obtain rfl : tk = t := HTK.out.symm
        have hl : Live E w4 (tk :: r) L0 := hS4
        have hm : tk ∈ E.ws := hl.suf.subset (by simp)
        have ht := hE.tok tk hm
        have hsz : 0 < tk.size := by have := ht.2.1; rw [← data_len]; exact List.length_pos_iff.2 this
        have hne : tk.toList.isEmpty = false := by rw [ByteArray.toList_eq]; simpa using ht.2.1
        have hhd : Ps.hd tk = tk[0].toNat := by unfold Ps.hd; rw [headD_at tk hsz]
        have h40 := ht.1
        have HSP4 : Hid (Calls Tryz.prog 36 #[E.ptr, .int .i64 4] w4 _) := Lib.hid (stop_live hE hl (x := 4) (by omega))
        have HSP2 : Hid (Calls Tryz.prog 36 #[E.ptr, .int .i64 2] w4 _) := Lib.hid (stop_live hE hl (x := 2) (by omega))
        have HDG := Lib.hid fun W => fdigit_any tk[0].toNat W
        have hbig := hE.big
        have hle := hl.suf.length_le
        have c6 := hl.st.c6
        have f6 := hl.st.fr 6
        have hsuf : r <:+ E.ws := (List.suffix_cons tk r).trans hl.suf
        have HN : Hid (Live E (w4.setCell ⟨E.b, 6, none⟩ (.int .i64 (((E.ws.length - (tk :: r).length : Nat) : Int) + 1))) r L0) := Lib.hid ⟨hsuf, by
          have := hl.st.setNext hE (E.ws.length - r.length)
          rwa [show ((E.ws.length - r.length : Nat) : Int) = ((E.ws.length - (tk :: r).length : Nat) : Int) + 1 by simp at hle ⊢; omega] at this⟩
        have hk4 : E.ws.length - (tk :: r).length ≤ 4000 := by omega
        have HNE : Hid (Ps.numE tk = if digN tk[0].toNat = false then .error 4 else if 1 < tk.size ∨ 56 ≤ tk[0].toNat then .error 2 else .ok (tk[0].toNat - 48)) := Lib.hid (by unfold Ps.numE; rw [hhd])
        have HCL : Hid ((tk :: r).length = r.length + 1) := Lib.hid (by simp)
        clear hS4 ht hm hl hhd hsuf hle hbig HTK
        generalize E.ws.length - (tk :: r).length = k at *
        cases hdg : digN tk[0].toNat with
        | false =>
          have HX := Lib.hid (num_err (a := a) (r := r) (t := tk) (x := 4) (by rw [HNE.out, hdg]; rfl))
          rw [hdg] at HDG
          clear hdg HNE
          go_wp2_with (first
            | (go_at_call 74; (with_reducible refine (HDG.out _).mono ?_); rintro e w' ⟨rfl, hw'⟩; obtain rfl := hw'.symm)
            | (go_at_call 36; (with_reducible refine HSP4.out.mono ?_); rintro e w5 ⟨rfl, D5, K5⟩))
          go_meet
          case rel => exact ⟨0, rfl, K5, Lib.hid (by rw [HX.out]; exact ⟨L0, D5⟩), Lib.hid fun p r e => by rw [HX.out] at e; cases e⟩
        | true =>
          have hlo : 48 ≤ tk[0].toNat ∧ tk[0].toNat ≤ 57 := by simpa [digN] using hdg
          obtain ⟨hlo, hhi⟩ := hlo
          rw [hdg] at HDG HNE
          clear hdg
          by_cases hs1 : 1 < tk.size
          · have HX := Lib.hid (num_err (a := a) (r := r) (t := tk) (x := 2) (by rw [HNE.out, if_neg (by simp), if_pos (.inl hs1)]))
            have hs1' : (1 : Int) < (tk.size : Int) := by omega
            clear HNE
            go_wp2_with (first
              | (go_at_call 74; (with_reducible refine (HDG.out _).mono ?_); rintro e w' ⟨rfl, hw'⟩; obtain rfl := hw'.symm)
              | (go_at_call 36; (with_reducible refine HSP2.out.mono ?_); rintro e w5 ⟨rfl, D5, K5⟩))
            go_meet
            case rel => exact ⟨0, rfl, K5, Lib.hid (by rw [HX.out]; exact ⟨L0, D5⟩), Lib.hid fun p r e => by rw [HX.out] at e; cases e⟩
          · have hs1' : ¬ (1 : Int) < (tk.size : Int) := by omega
            have hlo' : (48 : Int) ≤ (tk[0].toNat : Int) := by omega
            by_cases h56 : 56 ≤ tk[0].toNat
            · have HX := Lib.hid (num_err (a := a) (r := r) (t := tk) (x := 2) (by rw [HNE.out, if_neg (by simp), if_pos (.inr h56)]))
              have h56' : (56 : Int) ≤ (tk[0].toNat : Int) := by omega
              clear HNE
              go_wp2_with (first
                | (go_at_call 74; (with_reducible refine (HDG.out _).mono ?_); rintro e w' ⟨rfl, hw'⟩; obtain rfl := hw'.symm)
                | (go_at_call 36; (with_reducible refine HSP2.out.mono ?_); rintro e w5 ⟨rfl, D5, K5⟩))
              go_meet
              case rel => exact ⟨0, rfl, K5, Lib.hid (by rw [HX.out]; exact ⟨L0, D5⟩), Lib.hid fun p r e => by rw [HX.out] at e; cases e⟩
            · have HX := Lib.hid (num_tok (a := a) (r := r) (t := tk) (i := tk[0].toNat - 48) (by rw [HNE.out, if_neg (by simp), if_neg (by omega)]))
              have h56' : ¬ (56 : Int) ≤ (tk[0].toNat : Int) := by omega
              have HSB : Hid ((tk[0].toNat : Int) - 48 = ((tk[0].toNat - 48 : Nat) : Int)) := Lib.hid (by omega)
              clear HNE
              go_wp2_with (go_at_call 74; (with_reducible refine (HDG.out _).mono ?_); rintro e w' ⟨rfl, hw'⟩; obtain rfl := hw'.symm)
              go_meet
              case rel => exact ⟨(tk[0].toNat : Int) - 48, rfl, K_set (Keep.refl _ _) 6 _, Lib.hid (by rw [HX.out]; exact HN.out), Lib.hid fun p r e => by rw [HX.out] at e; cases e; exact HSB.out⟩
  case rest =>
    obtain ⟨z, rfl, K5, HS, HZ⟩ := hcut
    obtain ⟨w5, rfl⟩ : ∃ w5 : World, w5 = wc := ⟨_, rfl⟩
    have HW := Lib.hid (want_all hE ⟨#[93]⟩ (by decide) HS.out)
    clear HTK hS4
    go_wp2_with (first
      | (go_at_call 131
         (with_reducible refine HW.out.mono ?_)
         rintro e w6 ⟨rfl, S6, K6⟩
         have H6 := Lib.hid (prefix_all hE HPX.out S6 (fun a r e => by
           obtain ⟨r2, h2, h3⟩ := thenW_ok e
           obtain ⟨r4, h4, h5⟩ := thenP_le Ps.fine_number.shr h2
           have h6 := (Ps.fine_want ⟨#[93]⟩).shr.ok h3
           have h7 := (HSH.out _ _ h4).1
           omega)))
      | (go_at_call 117; (with_reducible refine H6.out.mono ?_); rintro e w7 ⟨A7, c7, f7, rfl, R7, K7, Q7⟩; have HQ7 := Lib.hid Q7; have H7 := Lib.hid (c_Act_fr v z Q7.ss.lt R7); clear Q7)
      | (go_at_call 153
         (with_reducible refine H7.out.mono ?_)
         rintro e w8 ⟨A8, c8, rfl, R8, K8⟩
         have H8 := Lib.hid (keep_un hE (L0 := L0) (st := thenP (thenW (thenP st2 Ps.number) ⟨#[93]⟩) q) (fi := fun p : (Unit × Nat) × Nat => (p.1.2 : Int)) (fe := fun p => (p.2 : Int)) (fg := fun _ => 0) (HQ7.out.keep K8) (fun p r e => by
           obtain ⟨r5, h8⟩ := thenP_ok e
           obtain ⟨r6, h9, _⟩ := thenW_ok h8
           obtain ⟨r7, h10⟩ := thenP_ok h9
           obtain ⟨_, h11, h12⟩ := HSH.out _ _ h10
           have hz := HZ.out _ _ h9
           have h8v := num_val h9
           exact ⟨h12, hz, rfl, fun hg => ⟨by decide, by decide, by rw [h12, hz]; exact own_act h11 h8v, hg⟩⟩) R8))
      | (go_at_call 68; (with_reducible refine H8.out.mono ?_); rintro e w9 ⟨A9, c9, f9, rfl, R9, K9, Q9⟩))
    refine bodyPost_ret (v := .slice A9 f9.length c9) (by simp [results, Tryz.results133, go_sem]) rfl ?_
    rw [HPO.out _ rfl]
    exact ⟨A9, c9, f9, rfl, R9, K_trans (K_trans (K_trans (K_trans kk4 K5) K6) K7) (K_trans (K0 K8) K9), Q9⟩
end
end Go.Proofs.YtbidfbojealmlaaGreatDoor
