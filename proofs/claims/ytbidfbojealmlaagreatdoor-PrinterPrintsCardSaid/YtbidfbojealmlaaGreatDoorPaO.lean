/- The reader: what group does. Conditions: the reader lies as it is built; what formula and prefix do. -/
import Derived.Test.YtbidfbojealmlaaGreatDoorPaN
import Derived.Test.YtbidfbojealmlaaGreatDoorSgHJ
set_option linter.unusedVariables false
set_option linter.unusedSimpArgs false
namespace Go.Proofs.YtbidfbojealmlaaGreatDoor
open Go.RowKit
open Fm (Nd cl mk0 mk1 mk2 tr)
open Fm.Form
open Ps (Res)

def stepU {α β : Type} (st : Res α) (p : Ps.P β) : Res β := match st with | .ok _ r => p r | .bad r x => .bad r x
theorem bit_or {m j : Nat} (hm : m < 16) (hj : j < 4) : m ||| 2 ^ j < 16 ∧ bits BinOp.or IntKind.i64 (m : Int) (wrap64 (2 ^ j)) = ((m ||| 2 ^ j : Nat) : Int) := by
  have h : ∀ (m : Fin 16) (j : Fin 4), m.val ||| 2 ^ j.val < 16 ∧ bits BinOp.or IntKind.i64 (m.val : Int) (wrap64 (2 ^ j.val)) = ((m.val ||| 2 ^ j.val : Nat) : Int) := by decide +kernel
  exact h ⟨m, hm⟩ ⟨j, hj⟩
/-- The state at the head of the loop over agents. -/
def GS (E : Env) (w : World) (L0 : Bool) (res : Res Nat) (find : ByteArray → Int) (m : Nat) (z : Int) : Prop :=
  (∃ (g : Nat) (r : List ByteArray), res = Ps.groupP find m g r ∧ r.length < m ∧ z = (g : Int) ∧ g < 16 ∧ Live E w r L0) ∨ (∃ (r : List ByteArray) (x : Nat) (L : Bool), res = .bad r x ∧ Dead E w r.length x L)
theorem mem_ok {find : ByteArray → Int} {m g i : Nat} {t : ByteArray} {r : List ByteArray} (h : Ps.nameE find t = .ok i) (hb : g.testBit i = false) :
    (∀ r', r = Ps.wComma :: r' → Ps.groupP find (m + 1) g (t :: r) = Ps.groupP find m (g ||| 2 ^ i) r') ∧ ((∀ r', r ≠ Ps.wComma :: r') → Ps.groupP find (m + 1) g (t :: r) = .ok (g ||| 2 ^ i) r) := by
  have h1 : Ps.mem find g (t :: r) = .ok i r := Ps.tok_ok (by simp only [Ps.memE, h, hb, Bool.false_eq_true, if_false]) r
  refine ⟨fun r' e => ?_, fun hno => ?_⟩
  · subst e
    simp only [Ps.groupP, Ps.bind, h1, Ps.take_yes, if_true]
  · simp only [Ps.groupP, Ps.bind, h1, take_not hno, Bool.false_eq_true, if_false, Ps.ret]
theorem mem_exist {find : ByteArray → Int} {m g i : Nat} {t : ByteArray} {r : List ByteArray} (h : Ps.nameE find t = .ok i) (hb : g.testBit i = true) : Ps.groupP find (m + 1) g (t :: r) = .bad (t :: r) 7 := by
  have h1 : Ps.mem find g (t :: r) = .bad (t :: r) 7 := Ps.tok_err (by simp only [Ps.memE, h, hb, if_true]) r
  simp only [Ps.groupP, Ps.bind, h1]
theorem mem_bad {find : ByteArray → Int} {m g x : Nat} {t : ByteArray} {r : List ByteArray} (h : Ps.nameE find t = .error x) : Ps.groupP find (m + 1) g (t :: r) = .bad (t :: r) x := by
  have h1 : Ps.mem find g (t :: r) = .bad (t :: r) x := Ps.tok_err (by simp only [Ps.memE, h]) r
  simp only [Ps.groupP, Ps.bind, h1]
theorem mem_nil {find : ByteArray → Int} {m g : Nat} : Ps.groupP find (m + 1) g [] = .bad [] 4 := rfl
/-- A condition behind a bar, or none. -/
def barS {α : Type} (st : Res α) (form : Ps.P Fm.Form) : Res (α × Fm.Form) := if takes st Ps.wOr = true then thenP (tookR st) form else mapR st fun a => (a, leaf 1 0 0 0)
section
variable {α β : Type} {st : Res α} {s : ByteArray} {p : Ps.P β}
theorem takes_yes (h : takes st s = true) : ∃ a r, st = .ok a (s :: r) := by
  cases st with
  | bad r x => cases h
  | ok a ts =>
    cases ts with
    | nil => cases h
    | cons t r => obtain rfl : t = s := by simpa [takes] using h
                  exact ⟨a, r, rfl⟩
theorem thenW_ok {a : α} {r : List ByteArray} (e : thenW st s = .ok a r) : ∃ r', st = .ok a r' ∧ Ps.want s r' = .ok () r := by
  cases st with
  | bad r0 x => cases e
  | ok a0 r0 =>
    simp only [thenW] at e
    cases hw : Ps.want s r0 with
    | bad r1 x => rw [hw] at e; cases e
    | ok u r1 => rw [hw] at e; cases e; exact ⟨r0, rfl, hw⟩
theorem thenP_ok {b : α × β} {r : List ByteArray} (e : thenP st p = .ok b r) : ∃ r', st = .ok b.1 r' := by
  cases st with
  | bad r0 x => cases e
  | ok a0 r0 =>
    simp only [thenP] at e
    cases hw : p r0 with
    | bad r1 x => rw [hw] at e; cases e
    | ok u r1 => rw [hw] at e; cases e; exact ⟨r0, rfl⟩
theorem thenP_len {a : α} {r0 : List ByteArray} (hp : Ps.Shr p) {b : α × β} {r : List ByteArray} (e : thenP (.ok a r0) p = .ok b r) : r.length ≤ r0.length := by
  simp only [thenP] at e
  cases hw : p r0 with
  | bad r1 x => rw [hw] at e; cases e
  | ok u r1 => rw [hw] at e; cases e; exact hp.ok hw
theorem mapR_ok {f : α → β} {b : β} {r : List ByteArray} (e : mapR st f = .ok b r) : ∃ a, st = .ok a r ∧ f a = b := by
  cases st with
  | bad r0 x => cases e
  | ok a0 r0 => cases e; exact ⟨a0, rfl, rfl⟩
theorem cl_true_len : (cl (leaf 1 0 0 0)).length = 1 := by decide +kernel
theorem dB_true : dB (leaf 1 0 0 0) = false := by decide +kernel
theorem SS.bar {E : Env} {w : World} {L0 : Bool} (h : SS E w st fun _ => L0) : SS E w (mapR st fun a => (a, leaf 1 0 0 0)) (fun p => L0 || dB p.2) := by
  cases st with
  | bad r0 x => exact h
  | ok a0 r0 =>
    have : (L0 || dB (leaf 1 0 0 0)) = L0 := by rw [dB_true]; simp
    show Live E w r0 (L0 || dB (leaf 1 0 0 0))
    rw [this]
    exact h
end
section
set_option maxRecDepth 100000
set_option maxHeartbeats 4000000
variable {E : Env}
theorem back_live (hE : E.Ok) {w : World} {t : ByteArray} {r : List ByteArray} {L : Bool} (hs : t :: r <:+ E.ws) (h : Live E w r L) : Live E (w.setCell ⟨E.b, 6, none⟩ (.int .i64 ((E.ws.length - (r.length + 1) : Nat) : Int))) (t :: r) L := ⟨hs, h.st.setNext hE _⟩
theorem gz {res : Res Nat} {z : Int} {s : ByteArray} {q : Ps.P Fm.Form} (h : ∀ g r, res = .ok g r → z = (g : Int)) {p : Nat × Fm.Form} {r : List ByteArray} (e : thenP (thenW res s) q = .ok p r) : z = (p.1 : Int) := by
  cases res with
  | bad r0 x => cases e
  | ok g r0 =>
    have hz := h g r0 rfl
    simp only [thenW] at e
    cases hw : Ps.want s r0 with
    | bad r1 x => rw [hw] at e; cases e
    | ok u r1 =>
      rw [hw] at e
      simp only [thenP] at e
      cases hq : q r1 with
      | bad r2 x => rw [hq] at e; cases e
      | ok t r2 => rw [hq] at e; cases e; exact hz
theorem c_Every_fr {w : World} {A : Option Addr} {c : Nat} {f : List Nd} (g : Int) (hb : E.b < w.heap.size) (h : FR E w A c f) : Calls Tryz.prog 165 #[.int .i64 g, .slice A f.length c] w fun e w' => ∃ (A'' : Option Addr) (c'' : Nat), e = .returned (.slice A'' (mk1 11 0 0 g f).length c'') ∧ FR E w' A'' c'' (mk1 11 0 0 g f) ∧ Keep NoF w w' :=
  (c_Every g h.len h.rd).mono fun _ _ h => h.fr hb (mk_len1 _ _ _ _ _)
theorem group_E (hE : E.Ok) {q : Ps.P Fm.Form} {N : Nat} (HP : Part E 117 #[E.ptr] (fun _ => True) q N) {st : Res Unit} {w : World} {L0 : Bool} (h : SS E w st fun _ => L0) (hn : ∀ a r, st = .ok a r → r.length < N) :
    Calls Tryz.prog 145 #[E.ptr, .string ⟨#[69]⟩] w (Post E w L0 (mapR (thenP (thenW (stepU st (Ps.groupP (findS E.S E.S.A) N 0)) Ps.wRB) q) fun p => un 11 0 0 (p.1 : Int) p.2)) := by
  have hbd : ∀ t, findS E.S E.S.A t < 4 := fun t => by
    have h4 := (checkS_ok hE.chk).lA
    rw [findS_ok hE.chk]
    rcases idx_cases E.S.A t with ⟨h, _⟩ | ⟨k, h, hk, _⟩ <;> rw [h] <;> omega
  have HBD := Lib.hid hbd
  have HFD := Lib.hid (find_agent hE)
  have HFI : Hid (GS E w L0 (stepU st (Ps.groupP (findS E.S E.S.A) N 0)) (findS E.S E.S.A) N 0) := Lib.hid (by
    cases st with
    | ok a r => exact .inl ⟨0, r, rfl, hn a r rfl, rfl, by omega, h⟩
    | bad r x => obtain ⟨L, hd⟩ := h; exact .inr ⟨r, x, L, rfl, hd⟩)
  have HSH : Hid (∀ g r, stepU st (Ps.groupP (findS E.S E.S.A) N 0) = .ok g r → r.length < N) := Lib.hid fun g r e => by
    cases st with
    | ok a r0 => have := (Ps.fine_group (findS E.S E.S.A) N 0).shr.ok (show Ps.groupP (findS E.S E.S.A) N 0 r0 = .ok g r from e); have := hn a r0 rfl; omega
    | bad r0 x => cases e
  have HGD : Hid (∀ (p : Nat × Fm.Form) r, thenP (thenW (stepU st (Ps.groupP (findS E.S E.S.A) N 0)) ⟨#[93]⟩) q = .ok p r → ∀ z : Int, z = (p.1 : Int) → Fm.Good p.2 → Fm.Good (un 11 0 0 z p.2)) := Lib.hid fun p r e z hz hg => by
    refine ⟨by decide, by decide, ?_, hg⟩
    have hv : 0 < p.1 ∧ p.1 < 2 ^ 4 := by
      have hV := Ps.val_group (find := findS E.S E.S.A) (m := 4) (by simpa using hbd) N 0 (by omega)
      cases st with
      | bad r0 x => cases e
      | ok a r0 =>
        simp only [stepU] at e
        cases hg0 : Ps.groupP (findS E.S E.S.A) N 0 r0 with
        | bad r1 x => rw [hg0] at e; cases e
        | ok g r1 =>
          have h3 := hV r0 g r1 hg0
          rw [hg0] at e
          rw [← Int.ofNat_inj.1 ((gz (res := .ok g r1) (z := (g : Int)) (fun g' r' e' => by cases e'; rfl) e))]
          exact h3
    have h16 : ∀ k : Fin 16, 0 < k.val → Fm.own 11 0 0 (k.val : Int) = true := by decide
    rw [hz]
    exact h16 ⟨p.1, by omega⟩ hv.1
  clear h hn hbd
  generalize stepU st (Ps.groupP (findS E.S E.S.A) N 0) = res at *
  have HCM := Lib.hid hE.big
  go_enter Tryz.func145, Tryz.ntmps145
  go_upto_block 0 with (fail)
  go_cut [5] (fun gv wc => ∃ z : Int, gv = .int .i64 z ∧ E.K w wc ∧ Hid (SS E wc res fun _ => L0) ∧ Hid (∀ g r, res = .ok g r → z = (g : Int)))
  case first =>
    go_wp2
    go_loopg [5] N (fun gk gv wr => ∃ z : Int, gv = .int .i64 z ∧ E.K w wr ∧ Hid (GS E wr L0 res (findS E.S E.S.A) gk z))
    case atStart => exact ⟨0, rfl, Keep.refl _ _, HFI⟩
    case round =>
      clear HFI
      obtain ⟨z, rfl, K, Q⟩ := hrel
      rcases Q.out with ⟨g, r, q1, q2, rfl, q4, q5⟩ | ⟨r, x, L, q1, q2⟩
      · obtain ⟨m, rfl⟩ : ∃ m, gk = m + 1 := ⟨gk - 1, by omega⟩
        clear Q
        have c6 := q5.st.c6
        have HLV := Lib.hid q5
        cases r with
        | nil =>
          have QR : Hid (res = .bad [] 4) := Lib.hid (q1.trans mem_nil)
          have H1 := Lib.hid (name_end hE q5 (.func (.func 146) #[] #[]))
          clear q1 q2 q5
          go_wp2_with (first
            | (go_at_call 134; (with_reducible refine H1.out.mono ?_); rintro e w2 ⟨rfl, D2, K2⟩; have c7 := D2.st.c7; have hp : (((4 : Nat) : Int) == 0) = false := (by decide); have HTK := Lib.hid (take_dead D2 ⟨#[44]⟩))
            | (go_at_call 67; (with_reducible refine HTK.out.mono ?_); rintro e w' ⟨rfl, hw'⟩; obtain rfl := hw'.symm))
          go_meet
          case rel => exact ⟨_, rfl, K_trans K K2, Lib.hid (by rw [QR.out]; exact ⟨_, D2⟩), Lib.hid fun g r e => by rw [QR.out] at e; cases e⟩
        | cons t r =>
          cases hn : Ps.nameE (findS E.S E.S.A) t with
          | error x =>
            have QR : Hid (res = .bad (t :: r) x) := Lib.hid (q1.trans (mem_bad hn))
            have H1 := Lib.hid (name_err hE HFD.out q5 hn)
            clear q1 q2 q5 hn
            go_wp2_with (first
              | (go_at_call 134; (with_reducible refine H1.out.mono ?_); rintro e w2 ⟨rfl, D2, K2⟩; have c7 := D2.st.c7; have hpp := D2.pos; have hp : ((x : Int) == 0) = false := (beq_eq_false_iff_ne.2 (by omega)); have HTK := Lib.hid (take_dead D2 ⟨#[44]⟩))
              | (go_at_call 67; (with_reducible refine HTK.out.mono ?_); rintro e w' ⟨rfl, hw'⟩; obtain rfl := hw'.symm))
            go_meet
            case rel => exact ⟨_, rfl, K_trans K K2, Lib.hid (by rw [QR.out]; exact ⟨_, D2⟩), Lib.hid fun g r e => by rw [QR.out] at e; cases e⟩
          | ok i =>
            have hi : i < 4 := Ps.nameE_lt HBD.out hn
            have hba := bit_ask q4 hi
            obtain ⟨ho1, ho2⟩ := bit_or q4 hi
            have H1 := Lib.hid (name_ok hE HFD.out q5 hn)
            cases hb : g.testBit i with
            | true =>
              have QR : Hid (res = .bad (t :: r) 7) := Lib.hid (q1.trans (mem_exist hn hb))
              have HSF := Lib.hid q5.suf
              rw [hb] at hba
              clear q1 q2 q5 hn hb ho2
              go_wp2_with (first
                | (go_at_call 134
                   (with_reducible refine H1.out.mono ?_)
                   rintro e w2 ⟨rfl, L2, K2⟩
                   have c7 : w2.cell? ⟨E.b, 7, none⟩ = some (.int .i64 0) := L2.st.c7
                   have d6 := L2.st.c6
                   have f6 := L2.st.fr 6
                   have HST : Hid (Calls Tryz.prog 36 #[E.ptr, .int .i64 7] (w2.setCell ⟨E.b, 6, none⟩ (.int .i64 ((E.ws.length - (r.length + 1) : Nat) : Int))) fun e w' => e = .returned (.tuple #[]) ∧ Dead E w' (t :: r).length 7 L0 ∧ E.K (w2.setCell ⟨E.b, 6, none⟩ (.int .i64 ((E.ws.length - (r.length + 1) : Nat) : Int))) w') := Lib.hid (stop_live hE (back_live hE HSF.out L2) (x := 7) (by omega)))
                | (go_at_call 36; (with_reducible refine HST.out.mono ?_); rintro e w3 ⟨rfl, D3, K3⟩; have HTK := Lib.hid (take_dead D3 ⟨#[44]⟩))
                | (go_at_call 67; (with_reducible refine HTK.out.mono ?_); rintro e w' ⟨rfl, hw'⟩; obtain rfl := hw'.symm))
              go_meet
              case rel => exact ⟨_, rfl, K_trans (K_trans K K2) (K_trans (K_set (Keep.refl _ _) 6 _) K3), Lib.hid (by rw [QR.out]; exact ⟨_, D3⟩), Lib.hid fun g r e => by rw [QR.out] at e; cases e⟩
            | false =>
              obtain ⟨m1, m2⟩ := mem_ok (m := m) (r := r) hn hb
              rw [hb] at hba
              have HO := Lib.hid ho2
              by_cases hc : ∃ r', r = Ps.wComma :: r'
              · obtain ⟨r', rfl⟩ := hc
                have QR := Lib.hid (q1.trans (m1 r' rfl))
                have hm : r'.length < m := by simp at q2; omega
                clear q1 q2 q5 hn hb ho2 m1 m2
                go_wp2_with (first
                  | (go_at_call 134; (with_reducible refine H1.out.mono ?_); rintro e w2 ⟨rfl, L2, K2⟩; have c7 : w2.cell? ⟨E.b, 7, none⟩ = some (.int .i64 0) := L2.st.c7; have HTK := Lib.hid (take_yes_any hE ⟨#[44]⟩ (by decide) L2))
                  | (go_at_call 67; (with_reducible refine HTK.out.mono ?_); rintro e w3 ⟨rfl, L3, K3⟩))
                go_roundg m
                case rel => exact ⟨_, rfl, K_trans (K_trans K K2) K3, Lib.hid (.inl ⟨_, r', QR.out, hm, HO.out, ho1, L3⟩)⟩
                case measure => omega
              · have hno : ∀ r', r ≠ Ps.wComma :: r' := fun r' e => hc ⟨r', e⟩
                have QR := Lib.hid (q1.trans (m2 hno))
                have HNO := Lib.hid hno
                clear q1 q2 q5 hn hb ho2 m1 m2 hno hc
                go_wp2_with (first
                  | (go_at_call 134; (with_reducible refine H1.out.mono ?_); rintro e w2 ⟨rfl, L2, K2⟩; have c7 : w2.cell? ⟨E.b, 7, none⟩ = some (.int .i64 0) := L2.st.c7; have HTK := Lib.hid (take_no_any hE ⟨#[44]⟩ L2 HNO.out))
                  | (go_at_call 67; (with_reducible refine HTK.out.mono ?_); rintro e w3 ⟨rfl, K3⟩))
                go_meet
                case rel => exact ⟨_, rfl, K_trans (K_trans K K2) (K0 K3), Lib.hid (by rw [QR.out]; exact L2.keep K3), Lib.hid fun g r e => by rw [QR.out] at e; cases e; exact HO.out⟩
      · have c6 := q2.st.c6
        have c7 := q2.st.c7
        have hpp := q2.pos
        have hp : ((x : Int) == 0) = false := beq_eq_false_iff_ne.2 (by omega)
        have H1 := Lib.hid (name_dead hE q2 (.func (.func 146) #[] #[]))
        have HQ := Lib.hid q1
        have HD := Lib.hid q2
        clear q1 q2 Q
        go_wp2_with (first
          | (go_at_call 134; (with_reducible refine H1.out.mono ?_); rintro e w2 ⟨rfl, K2⟩; have c72 := (HD.out.keep K2).st.c7; have HTK := Lib.hid (take_dead (HD.out.keep K2) ⟨#[44]⟩))
          | (go_at_call 67; (with_reducible refine HTK.out.mono ?_); rintro e w' ⟨rfl, hw'⟩; obtain rfl := hw'.symm))
        go_meet
        case rel => exact ⟨_, rfl, K_trans K (K0 K2), Lib.hid (by rw [HQ.out]; exact ⟨_, HD.out.keep K2⟩), Lib.hid fun g r e => by rw [HQ.out] at e; cases e⟩
  case rest =>
    obtain ⟨z, rfl, K, HS, HV⟩ := hcut
    obtain ⟨w1, rfl⟩ : ∃ w1 : World, w1 = wc := ⟨_, rfl⟩
    have HT : Hid (Calls Tryz.prog 99 #[] w1 _) := Lib.hid (true_any hE HS.out.lt)
    have HPX := Lib.hid HP
    clear HP
    go_wp2_with (first
      | (go_at_call 99; (with_reducible refine HT.out.mono ?_); rintro e w2 ⟨A2, c2, rfl, R2, K2⟩; have HW := Lib.hid (want_all hE ⟨#[93]⟩ (by decide) (HS.out.keep K2)))
      | (go_at_call 131
         (with_reducible refine HW.out.mono ?_)
         rintro e w3 ⟨rfl, S3, K3⟩
         have H4 := Lib.hid (prefix_all hE HPX.out S3 (fun a r e => by
           cases hr : res with
           | bad r0 x => rw [hr] at e; cases e
           | ok g0 r0 =>
             have h1 := HSH.out g0 r0 hr
             rw [hr] at e
             simp only [thenW] at e
             have h2 := (Ps.fine_want ⟨#[93]⟩).shr
             cases hw : Ps.want ⟨#[93]⟩ r0 with
             | ok u r1 => rw [hw] at e; cases e; have := h2.ok hw; omega
             | bad r1 x => rw [hw] at e; cases e)))
      | (go_at_call 117; (with_reducible refine H4.out.mono ?_); rintro e w4 ⟨A4, c4, f4, rfl, R4, K4, Q4⟩; have HQ4 := Lib.hid Q4; have H5 := Lib.hid (c_Every_fr z Q4.ss.lt R4); clear Q4)
      | (go_at_call 165
         (with_reducible refine H5.out.mono ?_)
         rintro e w5 ⟨A5, c5, rfl, R5, K5⟩
         have H6 := Lib.hid (keep_un hE (L0 := L0) (st := thenP (thenW res ⟨#[93]⟩) q) (fi := fun _ => 0) (fe := fun _ => 0) (fg := fun g : Nat => (g : Int)) (HQ4.out.keep K5) (fun p r e => ⟨rfl, rfl, gz HV.out e, fun hg => HGD.out p r e z (gz HV.out e) hg⟩) R5))
      | (go_at_call 68; (with_reducible refine H6.out.mono ?_); rintro e w6 ⟨A6, c6, f6, rfl, R6, K6, Q6⟩))
    refine bodyPost_ret (v := .slice A6 f6.length c6) (by simp [results, Tryz.results145, go_sem]) rfl ?_
    exact ⟨A6, c6, f6, rfl, R6, K_trans (K_trans (K_trans (K_trans K (K0 K2)) K3) K4) (K_trans (K0 K5) K6), Q6⟩
theorem c_Dist_fr {w : World} {A : Option Addr} {c : Nat} {f : List Nd} (g : Int) (hb : E.b < w.heap.size) (h : FR E w A c f) : Calls Tryz.prog 166 #[.int .i64 g, .slice A f.length c] w fun e w' => ∃ (A'' : Option Addr) (c'' : Nat), e = .returned (.slice A'' (mk1 12 0 0 g f).length c'') ∧ FR E w' A'' c'' (mk1 12 0 0 g f) ∧ Keep NoF w w' :=
  (c_Dist g h.len h.rd).mono fun _ _ h => h.fr hb (mk_len1 _ _ _ _ _)
theorem group_D (hE : E.Ok) {q : Ps.P Fm.Form} {N : Nat} (HP : Part E 117 #[E.ptr] (fun _ => True) q N) {st : Res Unit} {w : World} {L0 : Bool} (h : SS E w st fun _ => L0) (hn : ∀ a r, st = .ok a r → r.length < N) :
    Calls Tryz.prog 145 #[E.ptr, .string ⟨#[68]⟩] w (Post E w L0 (mapR (thenP (thenW (stepU st (Ps.groupP (findS E.S E.S.A) N 0)) Ps.wRB) q) fun p => un 12 0 0 (p.1 : Int) p.2)) := by
  have hbd : ∀ t, findS E.S E.S.A t < 4 := fun t => by
    have h4 := (checkS_ok hE.chk).lA
    rw [findS_ok hE.chk]
    rcases idx_cases E.S.A t with ⟨h, _⟩ | ⟨k, h, hk, _⟩ <;> rw [h] <;> omega
  have HBD := Lib.hid hbd
  have HFD := Lib.hid (find_agent hE)
  have HFI : Hid (GS E w L0 (stepU st (Ps.groupP (findS E.S E.S.A) N 0)) (findS E.S E.S.A) N 0) := Lib.hid (by
    cases st with
    | ok a r => exact .inl ⟨0, r, rfl, hn a r rfl, rfl, by omega, h⟩
    | bad r x => obtain ⟨L, hd⟩ := h; exact .inr ⟨r, x, L, rfl, hd⟩)
  have HSH : Hid (∀ g r, stepU st (Ps.groupP (findS E.S E.S.A) N 0) = .ok g r → r.length < N) := Lib.hid fun g r e => by
    cases st with
    | ok a r0 => have := (Ps.fine_group (findS E.S E.S.A) N 0).shr.ok (show Ps.groupP (findS E.S E.S.A) N 0 r0 = .ok g r from e); have := hn a r0 rfl; omega
    | bad r0 x => cases e
  have HGD : Hid (∀ (p : Nat × Fm.Form) r, thenP (thenW (stepU st (Ps.groupP (findS E.S E.S.A) N 0)) ⟨#[93]⟩) q = .ok p r → ∀ z : Int, z = (p.1 : Int) → Fm.Good p.2 → Fm.Good (un 12 0 0 z p.2)) := Lib.hid fun p r e z hz hg => by
    refine ⟨by decide, by decide, ?_, hg⟩
    have hv : 0 < p.1 ∧ p.1 < 2 ^ 4 := by
      have hV := Ps.val_group (find := findS E.S E.S.A) (m := 4) (by simpa using hbd) N 0 (by omega)
      cases st with
      | bad r0 x => cases e
      | ok a r0 =>
        simp only [stepU] at e
        cases hg0 : Ps.groupP (findS E.S E.S.A) N 0 r0 with
        | bad r1 x => rw [hg0] at e; cases e
        | ok g r1 =>
          have h3 := hV r0 g r1 hg0
          rw [hg0] at e
          rw [← Int.ofNat_inj.1 ((gz (res := .ok g r1) (z := (g : Int)) (fun g' r' e' => by cases e'; rfl) e))]
          exact h3
    have h16 : ∀ k : Fin 16, 0 < k.val → Fm.own 12 0 0 (k.val : Int) = true := by decide
    rw [hz]
    exact h16 ⟨p.1, by omega⟩ hv.1
  clear h hn hbd
  generalize stepU st (Ps.groupP (findS E.S E.S.A) N 0) = res at *
  have HCM := Lib.hid hE.big
  go_enter Tryz.func145, Tryz.ntmps145
  go_upto_block 0 with (fail)
  go_cut [5] (fun gv wc => ∃ z : Int, gv = .int .i64 z ∧ E.K w wc ∧ Hid (SS E wc res fun _ => L0) ∧ Hid (∀ g r, res = .ok g r → z = (g : Int)))
  case first =>
    go_wp2
    go_loopg [5] N (fun gk gv wr => ∃ z : Int, gv = .int .i64 z ∧ E.K w wr ∧ Hid (GS E wr L0 res (findS E.S E.S.A) gk z))
    case atStart => exact ⟨0, rfl, Keep.refl _ _, HFI⟩
    case round =>
      clear HFI
      obtain ⟨z, rfl, K, Q⟩ := hrel
      rcases Q.out with ⟨g, r, q1, q2, rfl, q4, q5⟩ | ⟨r, x, L, q1, q2⟩
      · obtain ⟨m, rfl⟩ : ∃ m, gk = m + 1 := ⟨gk - 1, by omega⟩
        clear Q
        have c6 := q5.st.c6
        have HLV := Lib.hid q5
        cases r with
        | nil =>
          have QR : Hid (res = .bad [] 4) := Lib.hid (q1.trans mem_nil)
          have H1 := Lib.hid (name_end hE q5 (.func (.func 146) #[] #[]))
          clear q1 q2 q5
          go_wp2_with (first
            | (go_at_call 134; (with_reducible refine H1.out.mono ?_); rintro e w2 ⟨rfl, D2, K2⟩; have c7 := D2.st.c7; have hp : (((4 : Nat) : Int) == 0) = false := (by decide); have HTK := Lib.hid (take_dead D2 ⟨#[44]⟩))
            | (go_at_call 67; (with_reducible refine HTK.out.mono ?_); rintro e w' ⟨rfl, hw'⟩; obtain rfl := hw'.symm))
          go_meet
          case rel => exact ⟨_, rfl, K_trans K K2, Lib.hid (by rw [QR.out]; exact ⟨_, D2⟩), Lib.hid fun g r e => by rw [QR.out] at e; cases e⟩
        | cons t r =>
          cases hn : Ps.nameE (findS E.S E.S.A) t with
          | error x =>
            have QR : Hid (res = .bad (t :: r) x) := Lib.hid (q1.trans (mem_bad hn))
            have H1 := Lib.hid (name_err hE HFD.out q5 hn)
            clear q1 q2 q5 hn
            go_wp2_with (first
              | (go_at_call 134; (with_reducible refine H1.out.mono ?_); rintro e w2 ⟨rfl, D2, K2⟩; have c7 := D2.st.c7; have hpp := D2.pos; have hp : ((x : Int) == 0) = false := (beq_eq_false_iff_ne.2 (by omega)); have HTK := Lib.hid (take_dead D2 ⟨#[44]⟩))
              | (go_at_call 67; (with_reducible refine HTK.out.mono ?_); rintro e w' ⟨rfl, hw'⟩; obtain rfl := hw'.symm))
            go_meet
            case rel => exact ⟨_, rfl, K_trans K K2, Lib.hid (by rw [QR.out]; exact ⟨_, D2⟩), Lib.hid fun g r e => by rw [QR.out] at e; cases e⟩
          | ok i =>
            have hi : i < 4 := Ps.nameE_lt HBD.out hn
            have hba := bit_ask q4 hi
            obtain ⟨ho1, ho2⟩ := bit_or q4 hi
            have H1 := Lib.hid (name_ok hE HFD.out q5 hn)
            cases hb : g.testBit i with
            | true =>
              have QR : Hid (res = .bad (t :: r) 7) := Lib.hid (q1.trans (mem_exist hn hb))
              have HSF := Lib.hid q5.suf
              rw [hb] at hba
              clear q1 q2 q5 hn hb ho2
              go_wp2_with (first
                | (go_at_call 134
                   (with_reducible refine H1.out.mono ?_)
                   rintro e w2 ⟨rfl, L2, K2⟩
                   have c7 : w2.cell? ⟨E.b, 7, none⟩ = some (.int .i64 0) := L2.st.c7
                   have d6 := L2.st.c6
                   have f6 := L2.st.fr 6
                   have HST : Hid (Calls Tryz.prog 36 #[E.ptr, .int .i64 7] (w2.setCell ⟨E.b, 6, none⟩ (.int .i64 ((E.ws.length - (r.length + 1) : Nat) : Int))) fun e w' => e = .returned (.tuple #[]) ∧ Dead E w' (t :: r).length 7 L0 ∧ E.K (w2.setCell ⟨E.b, 6, none⟩ (.int .i64 ((E.ws.length - (r.length + 1) : Nat) : Int))) w') := Lib.hid (stop_live hE (back_live hE HSF.out L2) (x := 7) (by omega)))
                | (go_at_call 36; (with_reducible refine HST.out.mono ?_); rintro e w3 ⟨rfl, D3, K3⟩; have HTK := Lib.hid (take_dead D3 ⟨#[44]⟩))
                | (go_at_call 67; (with_reducible refine HTK.out.mono ?_); rintro e w' ⟨rfl, hw'⟩; obtain rfl := hw'.symm))
              go_meet
              case rel => exact ⟨_, rfl, K_trans (K_trans K K2) (K_trans (K_set (Keep.refl _ _) 6 _) K3), Lib.hid (by rw [QR.out]; exact ⟨_, D3⟩), Lib.hid fun g r e => by rw [QR.out] at e; cases e⟩
            | false =>
              obtain ⟨m1, m2⟩ := mem_ok (m := m) (r := r) hn hb
              rw [hb] at hba
              have HO := Lib.hid ho2
              by_cases hc : ∃ r', r = Ps.wComma :: r'
              · obtain ⟨r', rfl⟩ := hc
                have QR := Lib.hid (q1.trans (m1 r' rfl))
                have hm : r'.length < m := by simp at q2; omega
                clear q1 q2 q5 hn hb ho2 m1 m2
                go_wp2_with (first
                  | (go_at_call 134; (with_reducible refine H1.out.mono ?_); rintro e w2 ⟨rfl, L2, K2⟩; have c7 : w2.cell? ⟨E.b, 7, none⟩ = some (.int .i64 0) := L2.st.c7; have HTK := Lib.hid (take_yes_any hE ⟨#[44]⟩ (by decide) L2))
                  | (go_at_call 67; (with_reducible refine HTK.out.mono ?_); rintro e w3 ⟨rfl, L3, K3⟩))
                go_roundg m
                case rel => exact ⟨_, rfl, K_trans (K_trans K K2) K3, Lib.hid (.inl ⟨_, r', QR.out, hm, HO.out, ho1, L3⟩)⟩
                case measure => omega
              · have hno : ∀ r', r ≠ Ps.wComma :: r' := fun r' e => hc ⟨r', e⟩
                have QR := Lib.hid (q1.trans (m2 hno))
                have HNO := Lib.hid hno
                clear q1 q2 q5 hn hb ho2 m1 m2 hno hc
                go_wp2_with (first
                  | (go_at_call 134; (with_reducible refine H1.out.mono ?_); rintro e w2 ⟨rfl, L2, K2⟩; have c7 : w2.cell? ⟨E.b, 7, none⟩ = some (.int .i64 0) := L2.st.c7; have HTK := Lib.hid (take_no_any hE ⟨#[44]⟩ L2 HNO.out))
                  | (go_at_call 67; (with_reducible refine HTK.out.mono ?_); rintro e w3 ⟨rfl, K3⟩))
                go_meet
                case rel => exact ⟨_, rfl, K_trans (K_trans K K2) (K0 K3), Lib.hid (by rw [QR.out]; exact L2.keep K3), Lib.hid fun g r e => by rw [QR.out] at e; cases e; exact HO.out⟩
      · have c6 := q2.st.c6
        have c7 := q2.st.c7
        have hpp := q2.pos
        have hp : ((x : Int) == 0) = false := beq_eq_false_iff_ne.2 (by omega)
        have H1 := Lib.hid (name_dead hE q2 (.func (.func 146) #[] #[]))
        have HQ := Lib.hid q1
        have HD := Lib.hid q2
        clear q1 q2 Q
        go_wp2_with (first
          | (go_at_call 134; (with_reducible refine H1.out.mono ?_); rintro e w2 ⟨rfl, K2⟩; have c72 := (HD.out.keep K2).st.c7; have HTK := Lib.hid (take_dead (HD.out.keep K2) ⟨#[44]⟩))
          | (go_at_call 67; (with_reducible refine HTK.out.mono ?_); rintro e w' ⟨rfl, hw'⟩; obtain rfl := hw'.symm))
        go_meet
        case rel => exact ⟨_, rfl, K_trans K (K0 K2), Lib.hid (by rw [HQ.out]; exact ⟨_, HD.out.keep K2⟩), Lib.hid fun g r e => by rw [HQ.out] at e; cases e⟩
  case rest =>
    obtain ⟨z, rfl, K, HS, HV⟩ := hcut
    obtain ⟨w1, rfl⟩ : ∃ w1 : World, w1 = wc := ⟨_, rfl⟩
    have HT : Hid (Calls Tryz.prog 99 #[] w1 _) := Lib.hid (true_any hE HS.out.lt)
    have HPX := Lib.hid HP
    clear HP
    go_wp2_with (first
      | (go_at_call 99; (with_reducible refine HT.out.mono ?_); rintro e w2 ⟨A2, c2, rfl, R2, K2⟩; have HW := Lib.hid (want_all hE ⟨#[93]⟩ (by decide) (HS.out.keep K2)))
      | (go_at_call 131
         (with_reducible refine HW.out.mono ?_)
         rintro e w3 ⟨rfl, S3, K3⟩
         have H4 := Lib.hid (prefix_all hE HPX.out S3 (fun a r e => by
           cases hr : res with
           | bad r0 x => rw [hr] at e; cases e
           | ok g0 r0 =>
             have h1 := HSH.out g0 r0 hr
             rw [hr] at e
             simp only [thenW] at e
             have h2 := (Ps.fine_want ⟨#[93]⟩).shr
             cases hw : Ps.want ⟨#[93]⟩ r0 with
             | ok u r1 => rw [hw] at e; cases e; have := h2.ok hw; omega
             | bad r1 x => rw [hw] at e; cases e)))
      | (go_at_call 117; (with_reducible refine H4.out.mono ?_); rintro e w4 ⟨A4, c4, f4, rfl, R4, K4, Q4⟩; have HQ4 := Lib.hid Q4; have H5 := Lib.hid (c_Dist_fr z Q4.ss.lt R4); clear Q4)
      | (go_at_call 166
         (with_reducible refine H5.out.mono ?_)
         rintro e w5 ⟨A5, c5, rfl, R5, K5⟩
         have H6 := Lib.hid (keep_un hE (L0 := L0) (st := thenP (thenW res ⟨#[93]⟩) q) (fi := fun _ => 0) (fe := fun _ => 0) (fg := fun g : Nat => (g : Int)) (HQ4.out.keep K5) (fun p r e => ⟨rfl, rfl, gz HV.out e, fun hg => HGD.out p r e z (gz HV.out e) hg⟩) R5))
      | (go_at_call 68; (with_reducible refine H6.out.mono ?_); rintro e w6 ⟨A6, c6, f6, rfl, R6, K6, Q6⟩))
    refine bodyPost_ret (v := .slice A6 f6.length c6) (by simp [results, Tryz.results145, go_sem]) rfl ?_
    exact ⟨A6, c6, f6, rfl, R6, K_trans (K_trans (K_trans (K_trans K (K0 K2)) K3) K4) (K_trans (K0 K5) K6), Q6⟩
theorem c_Common_fr {w : World} {A A' : Option Addr} {c c' : Nat} {f h : List Nd} (g : Int) (hb : E.b < w.heap.size) (h1 : FR E w A c f) (h2 : FR E w A' c' h) : Calls Tryz.prog 167 #[.int .i64 g, .slice A f.length c, .slice A' h.length c'] w fun e w' => ∃ (A'' : Option Addr) (c'' : Nat), e = .returned (.slice A'' (mk2 13 0 0 g f h).length c'') ∧ FR E w' A'' c'' (mk2 13 0 0 g f h) ∧ Keep NoF w w' :=
  (c_Common g h1.len h1.rd h2.len h2.rd).mono fun _ _ h => h.fr hb (mk_len2 _ _ _ _ _ _)
theorem group_C (hE : E.Ok) {form q : Ps.P Fm.Form} {N : Nat} (HFO : Part E 35 #[E.ptr] (fun _ => True) form N) (hff : Ps.Fine form) (HP : Part E 117 #[E.ptr] (fun _ => True) q N) {st : Res Unit} {w : World} {L0 : Bool} (h : SS E w st fun _ => L0) (hn : ∀ a r, st = .ok a r → r.length < N) :
    Calls Tryz.prog 145 #[E.ptr, .string ⟨#[67]⟩] w (Post E w L0 (mapR (thenP (thenW (barS (stepU st (Ps.groupP (findS E.S E.S.A) N 0)) form) Ps.wRB) q) fun p => bin 13 0 0 (p.1.1 : Int) p.1.2 p.2)) := by
  have hbd : ∀ t, findS E.S E.S.A t < 4 := fun t => by
    have h4 := (checkS_ok hE.chk).lA
    rw [findS_ok hE.chk]
    rcases idx_cases E.S.A t with ⟨h, _⟩ | ⟨k, h, hk, _⟩ <;> rw [h] <;> omega
  have HBD := Lib.hid hbd
  have HFD := Lib.hid (find_agent hE)
  have HFI : Hid (GS E w L0 (stepU st (Ps.groupP (findS E.S E.S.A) N 0)) (findS E.S E.S.A) N 0) := Lib.hid (by
    cases st with
    | ok a r => exact .inl ⟨0, r, rfl, hn a r rfl, rfl, by omega, h⟩
    | bad r x => obtain ⟨L, hd⟩ := h; exact .inr ⟨r, x, L, rfl, hd⟩)
  have HSH : Hid (∀ g r, stepU st (Ps.groupP (findS E.S E.S.A) N 0) = .ok g r → r.length < N) := Lib.hid fun g r e => by
    cases st with
    | ok a r0 => have := (Ps.fine_group (findS E.S E.S.A) N 0).shr.ok (show Ps.groupP (findS E.S E.S.A) N 0 r0 = .ok g r from e); have := hn a r0 rfl; omega
    | bad r0 x => cases e
  have HGD : Hid (∀ g r, stepU st (Ps.groupP (findS E.S E.S.A) N 0) = .ok g r → ∀ z : Int, z = (g : Int) → Fm.own 13 0 0 z = true) := Lib.hid fun g r e z hz => by
    have hv : 0 < g ∧ g < 2 ^ 4 := by
      cases st with
      | bad r0 x => cases e
      | ok a r0 => exact Ps.val_group (find := findS E.S E.S.A) (m := 4) (by simpa using hbd) N 0 (by omega) r0 g r e
    have h16 : ∀ k : Fin 16, 0 < k.val → Fm.own 13 0 0 (k.val : Int) = true := by decide
    rw [hz]
    exact h16 ⟨g, by omega⟩ hv.1
  clear h hn hbd
  generalize stepU st (Ps.groupP (findS E.S E.S.A) N 0) = res at *
  have HCM := Lib.hid hE.big
  go_enter Tryz.func145, Tryz.ntmps145
  go_upto_block 0 with (fail)
  go_cut [5] (fun gv wc => ∃ z : Int, gv = .int .i64 z ∧ E.K w wc ∧ Hid (SS E wc res fun _ => L0) ∧ Hid (∀ g r, res = .ok g r → z = (g : Int)))
  case first =>
    go_wp2
    go_loopg [5] N (fun gk gv wr => ∃ z : Int, gv = .int .i64 z ∧ E.K w wr ∧ Hid (GS E wr L0 res (findS E.S E.S.A) gk z))
    case atStart => exact ⟨0, rfl, Keep.refl _ _, HFI⟩
    case round =>
      clear HFI
      obtain ⟨z, rfl, K, Q⟩ := hrel
      rcases Q.out with ⟨g, r, q1, q2, rfl, q4, q5⟩ | ⟨r, x, L, q1, q2⟩
      · obtain ⟨m, rfl⟩ : ∃ m, gk = m + 1 := ⟨gk - 1, by omega⟩
        clear Q
        have c6 := q5.st.c6
        have HLV := Lib.hid q5
        cases r with
        | nil =>
          have QR : Hid (res = .bad [] 4) := Lib.hid (q1.trans mem_nil)
          have H1 := Lib.hid (name_end hE q5 (.func (.func 146) #[] #[]))
          clear q1 q2 q5
          go_wp2_with (first
            | (go_at_call 134; (with_reducible refine H1.out.mono ?_); rintro e w2 ⟨rfl, D2, K2⟩; have c7 := D2.st.c7; have hp : (((4 : Nat) : Int) == 0) = false := (by decide); have HTK := Lib.hid (take_dead D2 ⟨#[44]⟩))
            | (go_at_call 67; (with_reducible refine HTK.out.mono ?_); rintro e w' ⟨rfl, hw'⟩; obtain rfl := hw'.symm))
          go_meet
          case rel => exact ⟨_, rfl, K_trans K K2, Lib.hid (by rw [QR.out]; exact ⟨_, D2⟩), Lib.hid fun g r e => by rw [QR.out] at e; cases e⟩
        | cons t r =>
          cases hn : Ps.nameE (findS E.S E.S.A) t with
          | error x =>
            have QR : Hid (res = .bad (t :: r) x) := Lib.hid (q1.trans (mem_bad hn))
            have H1 := Lib.hid (name_err hE HFD.out q5 hn)
            clear q1 q2 q5 hn
            go_wp2_with (first
              | (go_at_call 134; (with_reducible refine H1.out.mono ?_); rintro e w2 ⟨rfl, D2, K2⟩; have c7 := D2.st.c7; have hpp := D2.pos; have hp : ((x : Int) == 0) = false := (beq_eq_false_iff_ne.2 (by omega)); have HTK := Lib.hid (take_dead D2 ⟨#[44]⟩))
              | (go_at_call 67; (with_reducible refine HTK.out.mono ?_); rintro e w' ⟨rfl, hw'⟩; obtain rfl := hw'.symm))
            go_meet
            case rel => exact ⟨_, rfl, K_trans K K2, Lib.hid (by rw [QR.out]; exact ⟨_, D2⟩), Lib.hid fun g r e => by rw [QR.out] at e; cases e⟩
          | ok i =>
            have hi : i < 4 := Ps.nameE_lt HBD.out hn
            have hba := bit_ask q4 hi
            obtain ⟨ho1, ho2⟩ := bit_or q4 hi
            have H1 := Lib.hid (name_ok hE HFD.out q5 hn)
            cases hb : g.testBit i with
            | true =>
              have QR : Hid (res = .bad (t :: r) 7) := Lib.hid (q1.trans (mem_exist hn hb))
              have HSF := Lib.hid q5.suf
              rw [hb] at hba
              clear q1 q2 q5 hn hb ho2
              go_wp2_with (first
                | (go_at_call 134
                   (with_reducible refine H1.out.mono ?_)
                   rintro e w2 ⟨rfl, L2, K2⟩
                   have c7 : w2.cell? ⟨E.b, 7, none⟩ = some (.int .i64 0) := L2.st.c7
                   have d6 := L2.st.c6
                   have f6 := L2.st.fr 6
                   have HST : Hid (Calls Tryz.prog 36 #[E.ptr, .int .i64 7] (w2.setCell ⟨E.b, 6, none⟩ (.int .i64 ((E.ws.length - (r.length + 1) : Nat) : Int))) fun e w' => e = .returned (.tuple #[]) ∧ Dead E w' (t :: r).length 7 L0 ∧ E.K (w2.setCell ⟨E.b, 6, none⟩ (.int .i64 ((E.ws.length - (r.length + 1) : Nat) : Int))) w') := Lib.hid (stop_live hE (back_live hE HSF.out L2) (x := 7) (by omega)))
                | (go_at_call 36; (with_reducible refine HST.out.mono ?_); rintro e w3 ⟨rfl, D3, K3⟩; have HTK := Lib.hid (take_dead D3 ⟨#[44]⟩))
                | (go_at_call 67; (with_reducible refine HTK.out.mono ?_); rintro e w' ⟨rfl, hw'⟩; obtain rfl := hw'.symm))
              go_meet
              case rel => exact ⟨_, rfl, K_trans (K_trans K K2) (K_trans (K_set (Keep.refl _ _) 6 _) K3), Lib.hid (by rw [QR.out]; exact ⟨_, D3⟩), Lib.hid fun g r e => by rw [QR.out] at e; cases e⟩
            | false =>
              obtain ⟨m1, m2⟩ := mem_ok (m := m) (r := r) hn hb
              rw [hb] at hba
              have HO := Lib.hid ho2
              by_cases hc : ∃ r', r = Ps.wComma :: r'
              · obtain ⟨r', rfl⟩ := hc
                have QR := Lib.hid (q1.trans (m1 r' rfl))
                have hm : r'.length < m := by simp at q2; omega
                clear q1 q2 q5 hn hb ho2 m1 m2
                go_wp2_with (first
                  | (go_at_call 134; (with_reducible refine H1.out.mono ?_); rintro e w2 ⟨rfl, L2, K2⟩; have c7 : w2.cell? ⟨E.b, 7, none⟩ = some (.int .i64 0) := L2.st.c7; have HTK := Lib.hid (take_yes_any hE ⟨#[44]⟩ (by decide) L2))
                  | (go_at_call 67; (with_reducible refine HTK.out.mono ?_); rintro e w3 ⟨rfl, L3, K3⟩))
                go_roundg m
                case rel => exact ⟨_, rfl, K_trans (K_trans K K2) K3, Lib.hid (.inl ⟨_, r', QR.out, hm, HO.out, ho1, L3⟩)⟩
                case measure => omega
              · have hno : ∀ r', r ≠ Ps.wComma :: r' := fun r' e => hc ⟨r', e⟩
                have QR := Lib.hid (q1.trans (m2 hno))
                have HNO := Lib.hid hno
                clear q1 q2 q5 hn hb ho2 m1 m2 hno hc
                go_wp2_with (first
                  | (go_at_call 134; (with_reducible refine H1.out.mono ?_); rintro e w2 ⟨rfl, L2, K2⟩; have c7 : w2.cell? ⟨E.b, 7, none⟩ = some (.int .i64 0) := L2.st.c7; have HTK := Lib.hid (take_no_any hE ⟨#[44]⟩ L2 HNO.out))
                  | (go_at_call 67; (with_reducible refine HTK.out.mono ?_); rintro e w3 ⟨rfl, K3⟩))
                go_meet
                case rel => exact ⟨_, rfl, K_trans (K_trans K K2) (K0 K3), Lib.hid (by rw [QR.out]; exact L2.keep K3), Lib.hid fun g r e => by rw [QR.out] at e; cases e; exact HO.out⟩
      · have c6 := q2.st.c6
        have c7 := q2.st.c7
        have hpp := q2.pos
        have hp : ((x : Int) == 0) = false := beq_eq_false_iff_ne.2 (by omega)
        have H1 := Lib.hid (name_dead hE q2 (.func (.func 146) #[] #[]))
        have HQ := Lib.hid q1
        have HD := Lib.hid q2
        clear q1 q2 Q
        go_wp2_with (first
          | (go_at_call 134; (with_reducible refine H1.out.mono ?_); rintro e w2 ⟨rfl, K2⟩; have c72 := (HD.out.keep K2).st.c7; have HTK := Lib.hid (take_dead (HD.out.keep K2) ⟨#[44]⟩))
          | (go_at_call 67; (with_reducible refine HTK.out.mono ?_); rintro e w' ⟨rfl, hw'⟩; obtain rfl := hw'.symm))
        go_meet
        case rel => exact ⟨_, rfl, K_trans K (K0 K2), Lib.hid (by rw [HQ.out]; exact ⟨_, HD.out.keep K2⟩), Lib.hid fun g r e => by rw [HQ.out] at e; cases e⟩
  case rest =>
    obtain ⟨z, rfl, K, HS, HV⟩ := hcut
    obtain ⟨w1, rfl⟩ : ∃ w1 : World, w1 = wc := ⟨_, rfl⟩
    have HT : Hid (Calls Tryz.prog 99 #[] w1 _) := Lib.hid (true_any hE HS.out.lt)
    have HPX := Lib.hid HP
    have HFX := Lib.hid HFO
    have HFF := Lib.hid hff
    clear HP HFO hff
    cases htk : takes res Ps.wOr with
    | true =>
      obtain ⟨g1, r1, rfl⟩ := takes_yes htk
      have htl : takes (Res.ok g1 (Ps.wOr :: r1)) ⟨#[124]⟩ = true := htk
      have HTL := Lib.hid htl
      have hb : barS (Res.ok g1 (Ps.wOr :: r1)) form = thenP (.ok g1 r1) form := by simp only [barS, htk, if_true, tookR]
      have hrN : r1.length < N := by have := HSH.out _ _ rfl; simp at this; omega
      have HV1 := Lib.hid (HV.out _ _ rfl)
      have HG1 := Lib.hid (HGD.out _ _ rfl z HV1.out)
      have HBR := Lib.hid hb
      clear htk hb htl
      go_wp2_with (first
        | (go_at_call 99; (with_reducible refine HT.out.mono ?_); rintro e w2 ⟨A2, c2, rfl, R2, K2⟩; have HTK := Lib.hid (take_all_yes hE ⟨#[124]⟩ (by decide) (HS.out.keep K2) HTL.out))
        | (go_at_call 67; (with_reducible refine HTK.out.mono ?_); rintro e w3 ⟨rfl, S3, K3⟩; have H3 := Lib.hid (formula_all HFX.out S3 hrN))
        | (go_at_call 35; (with_reducible refine H3.out.mono ?_); rintro e w4 ⟨A4, c4, f4, rfl, R4, K4, Q4⟩; have HQ4 := Lib.hid Q4; have HW := Lib.hid (want_all hE ⟨#[93]⟩ (by decide) Q4.ss); clear Q4)
        | (go_at_call 131
           (with_reducible refine HW.out.mono ?_)
           rintro e w5 ⟨rfl, S5, K5⟩
           have H5 := Lib.hid (prefix_all hE HPX.out S5 (fun a r e => by
             obtain ⟨r2, h2, h3⟩ := thenW_ok e
             obtain ⟨r4, h5⟩ := thenP_ok h2
             have h6 := (Ps.fine_want ⟨#[93]⟩).shr.ok h3
             have h7 := thenP_len HFF.out.shr h2
             omega)))
        | (go_at_call 117; (with_reducible refine H5.out.mono ?_); rintro e w6 ⟨A6, c6, f6, rfl, R6, K6, Q6⟩; have HQ6 := Lib.hid Q6; have H6 := Lib.hid (c_Common_fr z Q6.ss.lt ((R4.keep K5).keep K6) R6); clear Q6)
        | (go_at_call 167
           (with_reducible refine H6.out.mono ?_)
           rintro e w7 ⟨A7, c7, rfl, R7, K7⟩
           have H7 := Lib.hid (keep_bin hE (L0 := L0) (st := thenP (thenW (thenP (Res.ok g1 r1) form) ⟨#[93]⟩) q) (fi := fun _ => 0) (fe := fun _ => 0) (fg := fun p : Nat × Fm.Form => (p.1 : Int)) (ff := fun p => p.2) (HQ6.out.keep K7) (fun p r e => by
             obtain ⟨r5, h8⟩ := thenP_ok e
             obtain ⟨r6, h9, _⟩ := thenW_ok h8
             have hq := HQ4.out
             rw [h9] at hq
             obtain ⟨r7, h10⟩ := thenP_ok h9
             have hg1 : g1 = p.1.1 := by cases h10; rfl
             exact ⟨rfl, rfl, by rw [HV1.out, hg1], fun hg => ⟨by decide, HG1.out, hq.1, hg⟩, hq.2.2⟩) R7))
        | (go_at_call 68; (with_reducible refine H7.out.mono ?_); rintro e w8 ⟨A8, c8, f8, rfl, R8, K8, Q8⟩))
      refine bodyPost_ret (v := .slice A8 f8.length c8) (by simp [results, Tryz.results145, go_sem]) rfl ?_
      rw [HBR.out]
      exact ⟨A8, c8, f8, rfl, R8, K_trans (K_trans (K_trans (K_trans (K_trans (K_trans K (K0 K2)) K3) K4) K5) K6) (K_trans (K0 K7) K8), Q8⟩
    | false =>
      have htl : takes res ⟨#[124]⟩ = false := htk
      have HTL := Lib.hid htl
      have hb : barS res form = mapR res fun g => (g, leaf 1 0 0 0) := by simp only [barS, htk, Bool.false_eq_true, if_false]
      have HBR := Lib.hid hb
      clear htk hb htl
      go_wp2_with (first
        | (go_at_call 99; (with_reducible refine HT.out.mono ?_); rintro e w2 ⟨A2, c2, rfl, R2, K2⟩; have HTK := Lib.hid (take_all_no hE ⟨#[124]⟩ (HS.out.keep K2) HTL.out))
        | (go_at_call 67; (with_reducible refine HTK.out.mono ?_); rintro e w3 ⟨rfl, K3⟩; have HW := Lib.hid (want_all hE ⟨#[93]⟩ (by decide) ((HS.out.keep K2).keep K3).bar))
        | (go_at_call 131
           (with_reducible refine HW.out.mono ?_)
           rintro e w5 ⟨rfl, S5, K5⟩
           have H5 := Lib.hid (prefix_all hE HPX.out S5 (fun a r e => by
             obtain ⟨r2, h2, h3⟩ := thenW_ok e
             obtain ⟨g2, h5, _⟩ := mapR_ok h2
             have h6 := (Ps.fine_want ⟨#[93]⟩).shr.ok h3
             have h7 := HSH.out g2 r2 h5
             omega)))
        | (go_at_call 117; (with_reducible refine H5.out.mono ?_); rintro e w6 ⟨A6, c6, f6, rfl, R6, K6, Q6⟩; have HQ6 := Lib.hid Q6; have H6 := Lib.hid (by have h := c_Common_fr z Q6.ss.lt (f := cl (leaf 1 0 0 0)) (((R2.keep (K0 K3)).keep K5).keep K6) R6; rwa [cl_true_len] at h); clear Q6)
        | (go_at_call 167
           (with_reducible refine H6.out.mono ?_)
           rintro e w7 ⟨A7, c7, rfl, R7, K7⟩
           have H7 := Lib.hid (keep_bin hE (L0 := L0) (st := thenP (thenW (mapR res fun g => (g, leaf 1 0 0 0)) ⟨#[93]⟩) q) (fi := fun _ => 0) (fe := fun _ => 0) (fg := fun p : Nat × Fm.Form => (p.1 : Int)) (ff := fun p => p.2) (HQ6.out.keep K7) (fun p r e => by
             obtain ⟨r5, h8⟩ := thenP_ok e
             obtain ⟨r6, h9, _⟩ := thenW_ok h8
             obtain ⟨g2, h10, h11⟩ := mapR_ok h9
             have hz := HV.out _ _ h10
             have hp1 : p.1.1 = g2 := by rw [← h11]
             have hp2 : p.1.2 = leaf 1 0 0 0 := by rw [← h11]
             exact ⟨rfl, rfl, by rw [hz, hp1], fun hg => ⟨by decide, HGD.out _ _ h10 z hz, by rw [hp2]; exact ⟨by decide, by decide⟩, hg⟩, fun _ => by rw [hp2]⟩) R7))
        | (go_at_call 68; (with_reducible refine H7.out.mono ?_); rintro e w8 ⟨A8, c8, f8, rfl, R8, K8, Q8⟩))
      refine bodyPost_ret (v := .slice A8 f8.length c8) (by simp [results, Tryz.results145, go_sem]) rfl ?_
      rw [HBR.out]
      exact ⟨A8, c8, f8, rfl, R8, K_trans (K_trans (K_trans (K_trans K (K0 K2)) (K0 K3)) K5) (K_trans K6 (K_trans (K0 K7) K8)), Q8⟩
end
end Go.Proofs.YtbidfbojealmlaaGreatDoor
