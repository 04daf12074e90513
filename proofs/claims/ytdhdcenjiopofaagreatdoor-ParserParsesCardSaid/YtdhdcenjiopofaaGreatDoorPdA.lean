/- The reference's reader: its state; look, fail, takes, want. Conditions: the reader lies as it is built. The reference's reader: takes and want. Conditions: the reader lies as it is built. The reference's reader: node. Conditions: the reader lies as it is built. The reference's reader: special, name. Conditions: the reader lies as it is built. The reference's reader: name, node and number, whether there is an error or not. Conditions: the reader lies as it is built. No condition. -/
import Derived.Test.YtdhdcenjiopofaaGreatDoorPaN
import Derived.Test.YtdhdcenjiopofaaGreatDoorFmL
import Derived.Test.YtdhdcenjiopofaaGreatDoorPaS
set_option linter.unusedVariables false
set_option linter.unusedSimpArgs false
namespace Go.Proofs.YtdhdcenjiopofaaGreatDoor
open Go.RowKit
open Fm (Nd)
open Ps (Res)

/-- What a run of the reference's reader does not change. -/
structure RE where
  w0 : World
  b : Nat
  S : Sg
  a : Option Addr
  ca : Nat
  f : Option Addr
  cf : Nat
  c : Option Addr
  cc : Nat
  ws : List ByteArray
  WA : Option Addr
  wc : Nat
structure RE.Ok (E : RE) : Prop where
  hb : E.w0.heap.size ≤ E.b
  sig : SigR E.w0 E.S E.a E.ca E.f E.cf E.c E.cc
  tab : Tab E.w0
  chk : checkS E.S = 0
  words : Rd E.w0 (.slice E.WA E.ws.length E.wc) 1 E.ws.length (strs E.ws)
  tok : ∀ t ∈ E.ws, TokOk t
  big : E.ws.length ≤ 4000
def RE.cells (E : RE) (nx : Nat) (dv : Value) (bad x : Nat) : Array Value := #[.slice E.a E.S.A.length E.ca, .slice E.f E.S.F.length E.cf, .slice E.c E.S.C.length E.cc, .slice E.WA E.ws.length E.wc, .int .i64 (nx : Int), dv, .int .i64 (bad : Int), .int .i64 (x : Int)]
abbrev RE.ptr (E : RE) : Value := .pointer (some ⟨E.b, 0, none⟩)
structure RSt (E : RE) (w : World) (nx : Nat) (dv : Value) (o : List Nd) (bad x : Nat) : Prop where
  kp : Keep NoF E.w0 w
  bk : Bk w E.b 50 (E.cells nx dv bad x)
  own : w.ownsRow (E.b + 1) 37 6 dv o.length (fmC o)
structure RLive (E : RE) (w : World) (ts : List ByteArray) (o : List Nd) : Prop where
  suf : ts <:+ E.ws
  st : ∃ dv, RSt E w (E.ws.length - ts.length) dv o 0 0
/-- An error: so many tokens from it on; where the reader and its list may be. -/
def RDead (E : RE) (w : World) (m x nb ob : Nat) : Prop := 0 < x ∧ ∃ nx dv o, nx ≤ nb ∧ o.length ≤ ob ∧ RSt E w nx dv o (E.ws.length - m) x
section
variable {E : RE} {w w' : World} {nx bad x m nb ob : Nat} {dv : Value} {o : List Nd} {ts : List ByteArray}
theorem RSt.keep (h : RSt E w nx dv o bad x) (hk : Keep NoF w w') : RSt E w' nx dv o bad x :=
  ⟨h.kp.trans hk fun _ _ h => h, h.bk.keep hk fun h => h, own_keep h.own fun k hk' => hk.block k (h.own.lt k hk').2 fun h => h⟩
theorem RLive.keep (h : RLive E w ts o) (hk : Keep NoF w w') : RLive E w' ts o := ⟨h.suf, h.st.elim fun dv hs => ⟨dv, hs.keep hk⟩⟩
theorem RDead.keep (h : RDead E w m x nb ob) (hk : Keep NoF w w') : RDead E w' m x nb ob := by
  obtain ⟨h0, nx, dv, o, h1, h2, hs⟩ := h
  exact ⟨h0, nx, dv, o, h1, h2, hs.keep hk⟩
theorem RDead.mono {nb' ob' : Nat} (h : RDead E w m x nb ob) (h1 : nb ≤ nb') (h2 : ob ≤ ob') : RDead E w m x nb' ob' := by
  obtain ⟨h0, nx, dv, o, a1, a2, hs⟩ := h
  exact ⟨h0, nx, dv, o, by omega, by omega, hs⟩
theorem RSt.c0 (h : RSt E w nx dv o bad x) : w.cell? ⟨E.b, 0, none⟩ = some (.slice E.a E.S.A.length E.ca) ∧ w.cell? ⟨E.b, 1, none⟩ = some (.slice E.f E.S.F.length E.cf) ∧ w.cell? ⟨E.b, 2, none⟩ = some (.slice E.c E.S.C.length E.cc) := ⟨h.bk.cell 0, h.bk.cell 1, h.bk.cell 2⟩
theorem RSt.c3 (h : RSt E w nx dv o bad x) : w.cell? ⟨E.b, 3, none⟩ = some (.slice E.WA E.ws.length E.wc) := h.bk.cell 3
theorem RSt.c4 (h : RSt E w nx dv o bad x) : w.cell? ⟨E.b, 4, none⟩ = some (.int .i64 (nx : Int)) := h.bk.cell 4
theorem RSt.c5 (h : RSt E w nx dv o bad x) : w.cell? ⟨E.b, 5, none⟩ = some dv := h.bk.cell 5
theorem RSt.c6 (h : RSt E w nx dv o bad x) : w.cell? ⟨E.b, 6, none⟩ = some (.int .i64 (bad : Int)) := h.bk.cell 6
theorem RSt.c7 (h : RSt E w nx dv o bad x) : w.cell? ⟨E.b, 7, none⟩ = some (.int .i64 (x : Int)) := h.bk.cell 7
theorem RSt.fr (h : RSt E w nx dv o bad x) (i : Nat) : w.frozen? ⟨E.b, i, none⟩ = false := h.bk.frozen i
theorem RSt.set (h : RSt E w nx dv o bad x) (hE : E.Ok) (i : Nat) (u : Value) {nx' bad' x' : Nat} (he : (E.cells nx dv bad x).setIfInBounds i u = E.cells nx' dv bad' x') : RSt E (w.setCell ⟨E.b, i, none⟩ u) nx' dv o bad' x' :=
  ⟨h.kp.setCell (.inr hE.hb) _, he ▸ h.bk.put i u, own_keep h.own fun k hk => Below.heap_setCell _ _ _ _ (by have := (h.own.lt k hk).1; show k ≠ E.b; omega)⟩
theorem RSt.setNext (h : RSt E w nx dv o bad x) (hE : E.Ok) (v : Nat) : RSt E (w.setCell ⟨E.b, 4, none⟩ (.int .i64 (v : Int))) v dv o bad x := h.set hE 4 _ rfl
theorem RSt.setBad (h : RSt E w nx dv o bad x) (hE : E.Ok) (v : Nat) : RSt E (w.setCell ⟨E.b, 6, none⟩ (.int .i64 (v : Int))) nx dv o v x := h.set hE 6 _ rfl
theorem RSt.setE (h : RSt E w nx dv o bad x) (hE : E.Ok) (v : Nat) : RSt E (w.setCell ⟨E.b, 7, none⟩ (.int .i64 (v : Int))) nx dv o bad v := h.set hE 7 _ rfl
/-- The present word. -/
def wordAt (ws : List ByteArray) (k : Nat) : ByteArray := ws.getD k ⟨#[]⟩
theorem word_cons {t : ByteArray} {r : List ByteArray} (h : t :: r <:+ E.ws) : wordAt E.ws (E.ws.length - (t :: r).length) = t := by
  unfold wordAt
  rw [List.getD_eq_getElem?_getD, (suf_at h rfl).1]
  rfl
theorem word_nil : wordAt E.ws (E.ws.length - ([] : List ByteArray).length) = ⟨#[]⟩ := by
  unfold wordAt
  rw [List.getD_eq_getElem?_getD, List.getElem?_eq_none (by simp)]
  rfl
end
section
set_option maxRecDepth 100000
set_option maxHeartbeats 2000000
variable {E : RE} {w w' : World} {nx bad x m nb ob : Nat} {dv : Value} {o : List Nd} {ts : List ByteArray}
theorem rlook_any (hE : E.Ok) (h : RSt E w nx dv o bad x) (hb : nx ≤ 1000000) : Calls Tryz.prog 68 #[E.ptr] w fun e w' => e = .returned (.string (wordAt E.ws nx)) ∧ Keep NoF w w' := by
  have c3 := h.c3
  have c4 := h.c4
  have hbig := hE.big
  by_cases hlt : nx < E.ws.length
  · obtain ⟨_, hc, bl, off, hA, hcell⟩ := (hE.words.kept h.kp fun _ _ h => h).at_ (by omega)
    have hw := hcell nx (.string (wordAt E.ws nx)) (by unfold wordAt strs; rw [List.getElem?_map, List.getD_eq_getElem?_getD, List.getElem?_eq_getElem hlt]; rfl)
    rw [hA] at c3
    clear hA hcell h hE
    generalize wordAt E.ws nx = t at *
    generalize E.ws.length = N at *
    have hk : (nx : Int) < N := by omega
    go_enter Tryz.func68, Tryz.ntmps68
    go_wp2
    go_quiet (fail)
    go_wp2
    go_quiet (fail)
    go_wp2
    refine bodyPost_ret (v := .string t) (by simp [results, Tryz.results68, go_sem]) rfl ?_
    exact ⟨rfl, ((Keep.refl _ _).drewN _).drewN _⟩
  · have hw : wordAt E.ws nx = ⟨#[]⟩ := by
      unfold wordAt
      rw [List.getD_eq_getElem?_getD, List.getElem?_eq_none (by omega)]
      rfl
    rw [hw]
    clear hw h hE
    generalize E.ws.length = N at *
    have hk : ¬ (nx : Int) < N := by omega
    go_enter Tryz.func68, Tryz.ntmps68
    go_wp2
    go_quiet (fail)
    go_wp2
    refine bodyPost_ret (v := .string ⟨#[]⟩) (by simp [results, Tryz.results68, go_sem]) rfl ?_
    exact ⟨rfl, (Keep.refl _ _).drewN _⟩
theorem rfail_live (hE : E.Ok) (h : RSt E w nx dv o bad 0) (t y : Nat) : Calls Tryz.prog 22 #[E.ptr, .int .i64 (t : Int), .int .i64 (y : Int)] w fun e w' => e = .returned (.tuple #[]) ∧ RSt E w' nx dv o t y := by
  have c7 : w.cell? ⟨E.b, 7, none⟩ = some (.int .i64 0) := h.c7
  have c6 := h.c6
  have f6 := h.fr 6
  have f7 := h.fr 7
  have H := Lib.hid ((h.setBad hE t).setE hE y)
  clear h hE
  go_enter Tryz.func22, Tryz.ntmps22
  go_wp2
  refine bodyPost_end (v := .tuple #[]) (by simp [results, Tryz.results22, go_sem]) rfl ?_
  exact ⟨rfl, H.out⟩
theorem rfail_dead (h : RSt E w nx dv o bad x) (hx : 0 < x) (t y : Int) : Calls Tryz.prog 22 #[E.ptr, .int .i64 t, .int .i64 y] w fun e w' => e = .returned (.tuple #[]) ∧ w' = w := by
  have c7 := h.c7
  have hp : ((x : Int) == 0) = false := by simp; omega
  go_enter Tryz.func22, Tryz.ntmps22
  go_wp2
  refine bodyPost_end (v := .tuple #[]) (by simp [results, Tryz.results22, go_sem]) rfl ?_
  exact ⟨rfl, rfl⟩
theorem rfail_any (hE : E.Ok) (h : RSt E w nx dv o bad x) (t y : Nat) : Calls Tryz.prog 22 #[E.ptr, .int .i64 (t : Int), .int .i64 (y : Int)] w fun e w' => e = .returned (.tuple #[]) ∧ RSt E w' nx dv o (if x = 0 then t else bad) (if x = 0 then y else x) := by
  by_cases hx : x = 0
  · subst hx
    rw [if_pos rfl, if_pos rfl]
    exact rfail_live hE h t y
  · rw [if_neg hx, if_neg hx]
    refine (rfail_dead h (by omega) t y).mono ?_
    rintro e w' ⟨rfl, rfl⟩
    exact ⟨rfl, h⟩
end
end Go.Proofs.YtdhdcenjiopofaaGreatDoor
namespace Go.Proofs.YtdhdcenjiopofaaGreatDoor
open Go.RowKit
open Fm (Nd)
open Ps (Res)
/-- The state that belongs to what has been read; the budgets of a run behind an error. -/
def SR {α : Type} (E : RE) (w : World) (st : Res α) (of : α → List Nd) (nb ob : Nat) : Prop := match st with
  | .ok a ts => RLive E w ts (of a) ∧ E.ws.length + 8 * ts.length + 8 ≤ nb ∧ (of a).length + 8 * ts.length + 8 ≤ ob
  | .bad r x => RDead E w r.length x nb ob
section
set_option maxRecDepth 100000
set_option maxHeartbeats 2000000
variable {E : RE} {w w' : World} {nx bad x m nb ob : Nat} {dv : Value} {o : List Nd} {ts : List ByteArray}
theorem rtakes_word (hE : E.Ok) (h : RSt E w nx dv o bad 0) (hb : nx ≤ 1000000) {s : ByteArray} (hs : wordAt E.ws nx = s) : Calls Tryz.prog 44 #[E.ptr, .string s] w fun e w' => e = .returned (.bool true) ∧ RSt E w' (nx + 1) dv o bad 0 := by
  have c7 : w.cell? ⟨E.b, 7, none⟩ = some (.int .i64 0) := h.c7
  have HL := Lib.hid (rlook_any hE h hb)
  rw [hs] at HL
  have HN : Hid (∀ w', Keep NoF w w' → w'.cell? ⟨E.b, 4, none⟩ = some (.int .i64 (nx : Int)) ∧ w'.frozen? ⟨E.b, 4, none⟩ = false ∧ RSt E (w'.setCell ⟨E.b, 4, none⟩ (.int .i64 ((nx : Int) + 1))) (nx + 1) dv o bad 0) := Lib.hid fun w' hk => by
    have hs := h.keep hk
    exact ⟨hs.c4, hs.fr 4, by have := hs.setNext hE (nx + 1); rwa [show ((nx + 1 : Nat) : Int) = (nx : Int) + 1 by omega] at this⟩
  clear h hE hs
  go_enter Tryz.func44, Tryz.ntmps44
  go_wp2_with (go_at_call 68; (with_reducible refine HL.out.mono ?_); rintro e w1 ⟨rfl, hk1⟩; obtain ⟨c4, f4, hl⟩ := HN.out w1 hk1; have HQ := Lib.hid hl; clear hl)
  refine bodyPost_ret (v := .bool true) (by simp [results, Tryz.results44, go_sem]) rfl ?_
  exact ⟨rfl, HQ.out⟩
theorem rtakes_other (hE : E.Ok) (h : RSt E w nx dv o bad 0) (hb : nx ≤ 1000000) {s : ByteArray} (hs : wordAt E.ws nx ≠ s) : Calls Tryz.prog 44 #[E.ptr, .string s] w fun e w' => e = .returned (.bool false) ∧ Keep NoF w w' := by
  have c7 : w.cell? ⟨E.b, 7, none⟩ = some (.int .i64 0) := h.c7
  have HL := Lib.hid (rlook_any hE h hb)
  have hne : ((wordAt E.ws nx).toList == s.toList) = false := beq_eq_false_iff_ne.2 fun e => hs (by rw [ByteArray.toList_eq, ByteArray.toList_eq] at e; exact ba_ext e)
  clear h hE hs
  generalize wordAt E.ws nx = y at *
  go_enter Tryz.func44, Tryz.ntmps44
  go_wp2_with (go_at_call 68; (with_reducible refine HL.out.mono ?_); rintro e w1 ⟨rfl, hk1⟩)
  refine bodyPost_ret (v := .bool false) (by simp [results, Tryz.results44, go_sem]) rfl ?_
  exact ⟨rfl, hk1⟩
theorem rtakes_dead (h : RSt E w nx dv o bad x) (hx : 0 < x) (s : ByteArray) : Calls Tryz.prog 44 #[E.ptr, .string s] w fun e w' => e = .returned (.bool false) ∧ w' = w := by
  have c7 := h.c7
  have hp : ((x : Int) != 0) = true := by simp; omega
  go_enter Tryz.func44, Tryz.ntmps44
  go_wp2
  refine bodyPost_ret (v := .bool false) (by simp [results, Tryz.results44, go_sem]) rfl ?_
  exact ⟨rfl, rfl⟩
theorem rwant_word (hE : E.Ok) (h : RSt E w nx dv o bad x) (hb : nx ≤ 1000000) {s : ByteArray} (hs : wordAt E.ws nx = s) : Calls Tryz.prog 126 #[E.ptr, .string s] w fun e w' => e = .returned (.tuple #[]) ∧ RSt E w' (nx + 1) dv o bad x := by
  have HL := Lib.hid (rlook_any hE h hb)
  rw [hs] at HL
  have HN : Hid (∀ w', Keep NoF w w' → w'.cell? ⟨E.b, 4, none⟩ = some (.int .i64 (nx : Int)) ∧ w'.frozen? ⟨E.b, 4, none⟩ = false ∧ RSt E (w'.setCell ⟨E.b, 4, none⟩ (.int .i64 ((nx : Int) + 1))) (nx + 1) dv o bad x) := Lib.hid fun w' hk => by
    have hs := h.keep hk
    exact ⟨hs.c4, hs.fr 4, by have := hs.setNext hE (nx + 1); rwa [show ((nx + 1 : Nat) : Int) = (nx : Int) + 1 by omega] at this⟩
  clear h hE hs
  go_enter Tryz.func126, Tryz.ntmps126
  go_wp2_with (go_at_call 68; (with_reducible refine HL.out.mono ?_); rintro e w1 ⟨rfl, hk1⟩; obtain ⟨c4, f4, hl⟩ := HN.out w1 hk1; have HQ := Lib.hid hl; clear hl)
  refine bodyPost_end (v := .tuple #[]) (by simp [results, Tryz.results126, go_sem]) rfl ?_
  exact ⟨rfl, HQ.out⟩
/-- What is wanted is not there. -/
theorem rwant_other (hE : E.Ok) (h : RSt E w nx dv o bad x) (hb : nx ≤ 1000000) {s : ByteArray} (hs : wordAt E.ws nx ≠ s) : Calls Tryz.prog 126 #[E.ptr, .string s] w fun e w' => e = .returned (.tuple #[]) ∧ RSt E w' (nx + 1) dv o (if x = 0 then nx else bad) (if x = 0 then 4 else x) := by
  have HL := Lib.hid (rlook_any hE h hb)
  have hne : ((wordAt E.ws nx).toList == s.toList) = false := beq_eq_false_iff_ne.2 fun e => hs (by rw [ByteArray.toList_eq, ByteArray.toList_eq] at e; exact ba_ext e)
  have HC : Hid (∀ w', Keep NoF w w' → w'.cell? ⟨E.b, 4, none⟩ = some (.int .i64 (nx : Int))) := Lib.hid fun w' hk => (h.keep hk).c4
  have HF : Hid (∀ w1, Keep NoF w w1 → Calls Tryz.prog 22 #[E.ptr, .int .i64 (nx : Int), .int .i64 4] w1 fun e w' => e = .returned (.tuple #[]) ∧ RSt E w' nx dv o (if x = 0 then nx else bad) (if x = 0 then 4 else x)) := Lib.hid fun w1 hk => rfail_any hE (h.keep hk) nx 4
  have HN : Hid (∀ w' bad x, RSt E w' nx dv o bad x → w'.cell? ⟨E.b, 4, none⟩ = some (.int .i64 (nx : Int)) ∧ w'.frozen? ⟨E.b, 4, none⟩ = false ∧ RSt E (w'.setCell ⟨E.b, 4, none⟩ (.int .i64 ((nx : Int) + 1))) (nx + 1) dv o bad x) := Lib.hid fun w' bad x hs =>
    ⟨hs.c4, hs.fr 4, by have := hs.setNext hE (nx + 1); rwa [show ((nx + 1 : Nat) : Int) = (nx : Int) + 1 by omega] at this⟩
  clear h hE hs
  generalize wordAt E.ws nx = y at *
  generalize (if x = 0 then nx else bad) = bad' at *
  generalize (if x = 0 then 4 else x) = x' at *
  go_enter Tryz.func126, Tryz.ntmps126
  go_wp2_with (first
    | (go_at_call 68; (with_reducible refine HL.out.mono ?_); rintro e w1 ⟨rfl, hk1⟩; have c4 := HC.out w1 hk1)
    | (go_at_call 22; (with_reducible refine (HF.out _ hk1).mono ?_); rintro e w2 ⟨rfl, h2⟩; obtain ⟨d4, f4, hl⟩ := HN.out _ _ _ h2; have HQ := Lib.hid hl; clear hl h2))
  refine bodyPost_end (v := .tuple #[]) (by simp [results, Tryz.results126, go_sem]) rfl ?_
  exact ⟨rfl, HQ.out⟩
end
section
variable {E : RE} {α : Type} {w : World} {st : Res α} {of : α → List Nd} {nb ob : Nat}
theorem SR.mono {nb' ob' : Nat} (h : SR E w st of nb ob) (h1 : nb ≤ nb') (h2 : ob ≤ ob') : SR E w st of nb' ob' := by
  cases st with
  | ok a ts => exact ⟨h.1, Nat.le_trans h.2.1 h1, Nat.le_trans h.2.2 h2⟩
  | bad r x => exact RDead.mono h h1 h2
theorem SR.keep {w' : World} (h : SR E w st of nb ob) (hk : Keep NoF w w') : SR E w' st of nb ob := by
  cases st with
  | ok a ts => exact ⟨h.1.keep hk, h.2⟩
  | bad r x => exact RDead.keep h hk
theorem rword_ne {s : ByteArray} (hs : s.data.toList ≠ []) {ts : List ByteArray} (hsuf : ts <:+ E.ws) (hno : ∀ r, ts ≠ s :: r) : wordAt E.ws (E.ws.length - ts.length) ≠ s := by
  cases ts with
  | nil => rw [word_nil]; rintro rfl; exact hs rfl
  | cons t r => rw [word_cons hsuf]; rintro rfl; exact hno r rfl
theorem RSt.live {dv : Value} {o : List Nd} {t : ByteArray} {r : List ByteArray} (hsuf : t :: r <:+ E.ws) (h : RSt E w (E.ws.length - (t :: r).length + 1) dv o 0 0) : RLive E w r o := by
  have hle := hsuf.length_le
  refine ⟨(List.suffix_cons t r).trans hsuf, dv, ?_⟩
  rwa [show E.ws.length - (t :: r).length + 1 = E.ws.length - r.length by simp at hle ⊢; omega] at h
theorem rwant_all (hE : E.Ok) (s : ByteArray) (hs : s.data.toList ≠ []) (h : SR E w st of nb ob) (hnb : nb ≤ 1000000) : Calls Tryz.prog 126 #[E.ptr, .string s] w fun e w' => e = .returned (.tuple #[]) ∧ SR E w' (thenW st s) of (nb + 1) ob := by
  cases st with
  | bad r x =>
    obtain ⟨h0, nx, dv, o, h1, h2, hst⟩ := h
    by_cases hw : wordAt E.ws nx = s
    · refine (rwant_word hE hst (by omega) hw).mono ?_
      rintro e w' ⟨rfl, hq⟩
      exact ⟨rfl, h0, nx + 1, dv, o, by omega, h2, hq⟩
    · refine (rwant_other hE hst (by omega) hw).mono ?_
      rintro e w' ⟨rfl, hq⟩
      rw [if_neg (by omega), if_neg (by omega)] at hq
      exact ⟨rfl, h0, nx + 1, dv, o, by omega, h2, hq⟩
  | ok a ts =>
    obtain ⟨⟨hsuf, dv, hst⟩, h1, h2⟩ := h
    have hle := hsuf.length_le
    by_cases hw : ∃ r, ts = s :: r
    · obtain ⟨r, rfl⟩ := hw
      refine (rwant_word hE hst (by omega) (word_cons hsuf)).mono ?_
      rintro e w' ⟨rfl, hq⟩
      refine ⟨rfl, ?_⟩
      simp only [thenW, want_ok]
      simp only [List.length_cons] at h1 h2
      exact ⟨RSt.live hsuf hq, by omega, by omega⟩
    · have hno : ∀ r, ts ≠ s :: r := fun r e => hw ⟨r, e⟩
      refine (rwant_other hE hst (by omega) (rword_ne hs hsuf hno)).mono ?_
      rintro e w' ⟨rfl, hq⟩
      refine ⟨rfl, ?_⟩
      simp only [thenW, want_bad hno]
      rw [if_pos rfl, if_pos rfl] at hq
      exact ⟨by omega, _, dv, of a, by omega, by omega, hq⟩
theorem rtakes_yes (hE : E.Ok) (s : ByteArray) (h : SR E w st of nb ob) (hnb : nb ≤ 1000000) (ht : takes st s = true) : Calls Tryz.prog 44 #[E.ptr, .string s] w fun e w' => e = .returned (.bool true) ∧ SR E w' (tookR st) of (nb - 8) (ob - 8) := by
  cases st with
  | bad r x => cases ht
  | ok a ts =>
    cases ts with
    | nil => cases ht
    | cons t r =>
      obtain rfl : t = s := by simpa [takes] using ht
      obtain ⟨⟨hsuf, dv, hst⟩, h1, h2⟩ := h
      have hle := hsuf.length_le
      refine (rtakes_word hE hst (by omega) (word_cons hsuf)).mono ?_
      rintro e w' ⟨rfl, hq⟩
      simp only [List.length_cons] at h1 h2
      exact ⟨rfl, RSt.live hsuf hq, by omega, by omega⟩
theorem rtakes_no (hE : E.Ok) (s : ByteArray) (hs : s.data.toList ≠ []) (h : SR E w st of nb ob) (hnb : nb ≤ 1000000) (ht : takes st s = false) : Calls Tryz.prog 44 #[E.ptr, .string s] w fun e w' => e = .returned (.bool false) ∧ SR E w' st of nb ob := by
  cases st with
  | bad r x =>
    have hd := h
    obtain ⟨h0, nx, dv, o, h1, h2, hst⟩ := h
    refine (rtakes_dead hst h0 s).mono ?_
    rintro e w' ⟨rfl, rfl⟩
    exact ⟨rfl, hd⟩
  | ok a ts =>
    have hd := h
    obtain ⟨⟨hsuf, dv, hst⟩, h1, h2⟩ := h
    have hle := hsuf.length_le
    refine (rtakes_other hE hst (by omega) (rword_ne hs hsuf (by rintro r rfl; simp [takes] at ht))).mono ?_
    rintro e w' ⟨rfl, hk⟩
    exact ⟨rfl, hd.keep hk⟩
end
end Go.Proofs.YtdhdcenjiopofaaGreatDoor
namespace Go.Proofs.YtdhdcenjiopofaaGreatDoor
open Go.RowKit
open Fm (Nd put)

theorem idx_nd {N : List Nd} {x : Nd} {k : Nat} (h : N[k]? = some x) (hn : ∀ j, j < k → N[j]? ≠ some x) : x ∈ N ∧ N.idxOf x = k := by
  have hk : k < N.length := (List.getElem?_eq_some_iff.1 h).1
  have hmem : x ∈ N := List.mem_of_getElem? h
  refine ⟨hmem, ?_⟩
  have hi := List.idxOf_lt_length_of_mem hmem
  have hge : N[N.idxOf x]? = some x := by rw [List.getElem?_eq_getElem hi, List.getElem_idxOf hi]
  by_cases h1 : N.idxOf x < k
  · exact absurd hge (hn _ h1)
  · by_cases h2 : k < N.idxOf x
    · exfalso
      have := List.not_of_lt_findIdx (p := (· == x)) (xs := N) (i := k) h2
      have e : N[k] = x := (List.getElem?_eq_some_iff.1 h).2
      simp [e] at this
    · omega
set_option maxHeartbeats 2000000 in
theorem run_nd_eql (a b : Nd) (w : World) : (binOp .eql 37 (ndV a) (ndV b)).run Tryz.prog w = .ok (.bool (decide (a = b))) w := by
  have hp := nd_stood
  obtain ⟨a1, a2, a3, a4, a5, a6⟩ := a
  obtain ⟨b1, b2, b3, b4, b5, b6⟩ := b
  have hd : decide ((⟨a1, a2, a3, a4, a5, a6⟩ : Nd) = ⟨b1, b2, b3, b4, b5, b6⟩) = (a1 == b1 && (a2 == b2 && (a3 == b3 && (a4 == b4 && (a5 == b5 && a6 == b6))))) := by
    rw [Bool.eq_iff_iff]
    simp
  rw [hd]
  clear hd
  cases e1 : a1 == b1 <;> cases e2 : a2 == b2 <;> cases e3 : a3 == b3 <;> cases e4 : a4 == b4 <;> cases e5 : a5 == b5 <;> cases e6 : a6 == b6 <;> simp [go_sem, hp, e1, e2, e3, e4, e5, e6]
theorem fmC_snocD (o : List Nd) (n : Nd) : fmC o ++ ndC n = fmC (o ++ [n]) := by simp [fmC]
set_option maxRecDepth 100000 in
set_option maxHeartbeats 4000000 in
theorem rnode_any {E : RE} (hE : E.Ok) {w : World} {nx bad x : Nat} {dv : Value} {o : List Nd} (h : RSt E w nx dv o bad x) (hlen : o.length ≤ 1000000) (n : Nd) :
    Calls Tryz.prog 45 #[E.ptr, ndV n] w fun e w' => e = .returned (.int .i64 ((put n o).1 : Nat)) ∧ ∃ dv', RSt E w' nx dv' (put n o).2 bad x := by
  obtain ⟨A, c, rfl⟩ := own_form h.own
  have hbw := h.bk.lt
  have k0 : Keep NoF w (w.alloc (.cells #[.int .i64 n.op, .int .i64 n.i, .int .i64 n.e, .int .i64 n.g, .int .i64 n.x, .int .i64 n.y] 37)) := (Keep.refl _ _).alloc _
  have qn := Bk.new w 37 #[.int .i64 n.op, .int .i64 n.i, .int .i64 n.e, .int .i64 n.g, .int .i64 n.x, .int .i64 n.y]
  have h0 := h.keep k0
  have hz : w.heap.size < (w.alloc (.cells #[.int .i64 n.op, .int .i64 n.i, .int .i64 n.e, .int .i64 n.g, .int .i64 n.x, .int .i64 n.y] 37)).heap.size := by rw [World.size_alloc]; omega
  clear h
  go_enter Tryz.func45, Tryz.ntmps45
  go_wp2
  generalize w.alloc (.cells #[.int .i64 n.op, .int .i64 n.i, .int .i64 n.e, .int .i64 n.g, .int .i64 n.x, .int .i64 n.y] 37) = W0 at *
  have c5 := h0.c5
  have HS := Lib.hid h0
  have HRD := Lib.hid (Rd.of_own h0.own)
  have QN := Lib.hid qn
  clear h0 qn
  go_loopw [5] (fun i wr => ∃ k : Nat, i = .int .i64 k ∧ k ≤ o.length ∧ Hid (∀ j, j < k → o[j]? ≠ some n) ∧ Keep NoF W0 wr) (fun i _ => o.length - (intOf i).toNat)
  case atStart => exact ⟨0, rfl, by omega, Lib.hid fun j hj => by omega, Keep.refl _ _⟩
  case round =>
    obtain ⟨k, rfl, hk, hall, hkr⟩ := hrel
    have hq := QN.out.keep hkr fun h => h
    have n0 : wr.cell? ⟨w.heap.size, 0, none⟩ = some (.int .i64 n.op) := hq.cell 0
    have n1 : wr.cell? ⟨w.heap.size, 1, none⟩ = some (.int .i64 n.i) := hq.cell 1
    have n2 : wr.cell? ⟨w.heap.size, 2, none⟩ = some (.int .i64 n.e) := hq.cell 2
    have n3 : wr.cell? ⟨w.heap.size, 3, none⟩ = some (.int .i64 n.g) := hq.cell 3
    have n4 : wr.cell? ⟨w.heap.size, 4, none⟩ = some (.int .i64 n.x) := hq.cell 4
    have n5 : wr.cell? ⟨w.heap.size, 5, none⟩ = some (.int .i64 n.y) := hq.cell 5
    have d5 : wr.cell? ⟨E.b, 5, none⟩ = some (.slice A o.length c) := hkr.cellv c5 fun h => h
    clear hq
    by_cases hlt : k < o.length
    · obtain ⟨bl, off, rfl, _, hc1, x0, x1, x2, x3, x4, x5⟩ := (HRD.out.kept hkr fun _ _ h => h).nd (ndAt_eq hlt)
      have b1 : (0 : Int) ≤ (k : Int) := by omega
      have b2 : (k : Int) < (o.length : Int) := by omega
      generalize hr : ndAt o k = r at *
      have HR := Lib.hid ((ndAt_eq hlt).trans (congrArg some hr))
      clear hr
      have hsd := nd_guard
      have heql := run_nd_eql r n
      generalize hdd : decide (r = n) = dd at *
      have HDD := Lib.hid hdd
      clear hdd
      obtain ⟨r1, r2, r3, r4, r5, r6⟩ := r
      simp only [ndV] at x0 x1 x2 x3 x4 x5 heql
      go_wp2
      go_quiet (fail)
      cases dd
      · go_wp2
        go_roundw
        case rel =>
          refine ⟨k + 1, by go_num, by omega, Lib.hid fun j hj => ?_, hkr.drewN _⟩
          by_cases hjk : j = k
          · rw [hjk, HR.out]
            intro e
            exact of_decide_eq_false HDD.out (Option.some.inj e)
          · exact hall.out j (by omega)
        case measure => simp [intOf]; omega
      · go_wp2
        refine bodyPost_ret (v := .int .i64 (k : Int)) (by simp [results, Tryz.results45, go_sem]) rfl ?_
        obtain ⟨hm, hix⟩ := idx_nd (HR.out.trans (congrArg some (of_decide_eq_true HDD.out))) hall.out
        have hp : put n o = (k, o) := by unfold put; rw [if_pos hm, hix]
        rw [hp]
        exact ⟨rfl, _, HS.out.keep (hkr.drewN _)⟩
    · have hnin : n ∉ o := fun hm => by
        obtain ⟨j, hj, hje⟩ := List.getElem_of_mem hm
        exact hall.out j (by omega) (by rw [List.getElem?_eq_getElem hj, hje])
      have hp : put n o = (o.length, o ++ [n]) := by unfold put; rw [if_neg hnin]
      have HP := Lib.hid hp
      have hsr := HS.out.keep hkr
      have ho := hsr.own
      have hvb : (Value.slice A o.length c).ownBlock ≠ some E.b := fun he => by have := (ho.lt _ he).1; omega
      have f5 := hsr.fr 5
      have hbl : E.b < wr.heap.size := hsr.bk.lt
      have hnl : w.heap.size < wr.heap.size := by have := hkr.size; omega
      have hbk := hsr.bk
      have HSR := Lib.hid hsr
      clear hnin hp hsr
      go_wp2
      go_region_law
        ((refine step_app (by rfl) eNodes (.tmp 29) (.tmp 31) (by rfl) (by rfl) ((ho.alloc _).drew) ⟨wr.heap.size, 0, none⟩ 1 1 (ndC n) (by rfl) (by rfl)
            (World.news_of_block (cs := (ndC n).toArray) (t := 37) (fr := (0, 0)) (heap_alloc_new wr _)) (by simp [ndC, Value.oneCell']) (by omega) (by omega) (by omega) (by simp; omega) ?_; intro g4 cap4 w4 hown4 hA4
          have hb4 : Bk w4 E.b 50 (E.cells nx (.slice A o.length c) bad x) := Bk.grown (Bk.drew (Bk.alloc hbk _)) hA4.grown (Ne.symm hvb)
          have d4 : w4.cell? ⟨E.b, 5, none⟩ = some (.slice A o.length c) := (hb4.cell 5).trans rfl
          have f4 : w4.frozen? ⟨E.b, 5, none⟩ = false := hb4.frozen 5))
      all_goals
        go_wp2
        refine bodyPost_ret (v := .int .i64 (o.length : Int)) (by simp [results, Tryz.results45, go_sem]) rfl ?_
        rw [HP.out]
        refine ⟨rfl, .slice (some ⟨g4, 0, none⟩) (o.length + 1) cap4, ?_, hb4.put 5 _, ?_⟩
        · exact (((((HSR.out.kp).alloc _).drew).grown hA4.grown fun y hy => .inr (by have := (ho.lt y hy).1; have := hE.hb; omega))).setCell (.inr hE.hb) _
        · show World.ownsRow _ _ _ _ _ (o ++ [n]).length (fmC (o ++ [n]))
          rw [List.length_append, ← fmC_snocD]
          exact own_keep hown4 fun y hy => Below.heap_setCell _ _ _ _ (by
            have hy2 : g4 = y := by simpa [Value.ownBlock] using hy
            have := (hown4.lt y hy).1
            show y ≠ E.b
            omega)
end Go.Proofs.YtdhdcenjiopofaaGreatDoor
namespace Go.Proofs.YtdhdcenjiopofaaGreatDoor
open Go.RowKit
open Fm (Nd)
open Ps (Res)

theorem rd_litD (w : World) (l : List ByteArray) (n : Nat) (hn : n ≤ 1000) (h : l.length = n) : Rd (w.alloc (.cells (strs l).toArray 9)) (.slice (some ⟨w.heap.size, 0, none⟩) n n) 1 n (strs l) :=
  Rd.of_own (World.ownsRow_lit (base := 0) (e := 9) (size := 1) w (strs l).toArray n (by omega) (by simp [maxLen]; omega) (by simp [h]))
theorem word_ok {E : RE} (hE : E.Ok) (k : Nat) : wordAt E.ws k = ⟨#[]⟩ ∨ TokOk (wordAt E.ws k) := by
  unfold wordAt
  rw [List.getD_eq_getElem?_getD]
  cases h : E.ws[k]? with
  | none => exact .inl rfl
  | some t => exact .inr (hE.tok t (List.mem_of_getElem? h))
section
set_option maxRecDepth 100000
set_option maxHeartbeats 2000000
theorem rspecial_any (t : ByteArray) (w : World) : Calls Tryz.prog 132 #[.string t] w fun e w' => e = .returned (.bool (decide (t ∈ Ps.specials))) ∧ Keep NoF w w' := by
  have hk0 : Keep NoF w (w.alloc (.cells (strs Ps.specials).toArray 9)) := (Keep.refl _ _).alloc _
  have HRD := Lib.hid (rd_litD w Ps.specials 13 (by omega) rfl)
  have HK0 := Lib.hid hk0
  clear hk0
  go_enter Tryz.func132, Tryz.ntmps132
  go_wp2
  have hW : (w.alloc (.cells (strs Ps.specials).toArray 9)) = (w.alloc (.cells #[.string ⟨#[116, 114, 117, 101]⟩, .string ⟨#[102, 97, 108, 115, 101]⟩, .string ⟨#[110, 101, 120, 116]⟩, .string ⟨#[112, 114, 101, 118]⟩, .string ⟨#[117, 110, 116, 105, 108]⟩, .string ⟨#[115, 105, 110, 99, 101]⟩, .string ⟨#[75]⟩, .string ⟨#[77]⟩, .string ⟨#[83]⟩, .string ⟨#[66]⟩, .string ⟨#[69]⟩, .string ⟨#[68]⟩, .string ⟨#[67]⟩] 9)) := rfl
  rw [hW] at HRD HK0
  clear hW
  generalize w.alloc (.cells #[.string ⟨#[116, 114, 117, 101]⟩, .string ⟨#[102, 97, 108, 115, 101]⟩, .string ⟨#[110, 101, 120, 116]⟩, .string ⟨#[112, 114, 101, 118]⟩, .string ⟨#[117, 110, 116, 105, 108]⟩, .string ⟨#[115, 105, 110, 99, 101]⟩, .string ⟨#[75]⟩, .string ⟨#[77]⟩, .string ⟨#[83]⟩, .string ⟨#[66]⟩, .string ⟨#[69]⟩, .string ⟨#[68]⟩, .string ⟨#[67]⟩] 9) = W0 at *
  go_loopw [4] (fun i wr => ∃ k nq : Nat, i = .int .i64 k ∧ k ≤ 13 ∧ Hid (∀ j, j < k → Ps.specials[j]? ≠ some t) ∧ wr = W0.drewN nq) (fun i _ => 13 - (intOf i).toNat)
  case atStart => exact ⟨0, 0, rfl, by omega, Lib.hid fun j hj => by omega, rfl⟩
  case round =>
    obtain ⟨k, nq0, rfl, hk, hall, rfl⟩ := hrel
    by_cases hlt : k < 13
    · have hx : Ps.specials[k]? = some (Ps.specials[k]'(by show k < 13; exact hlt)) := List.getElem?_eq_getElem _
      obtain ⟨-, hcc, bl, off, hA, hc⟩ := HRD.out.str hx
      obtain ⟨rfl, rfl⟩ : w.heap.size = bl ∧ 0 = off := by simpa using hA
      rw [Nat.zero_add] at hc
      have HX := Lib.hid hx
      clear hx hA
      generalize Ps.specials[k]'(by show k < 13; exact hlt) = y at *
      by_cases hyt : y = t
      · subst hyt
        have hm : decide (y ∈ Ps.specials) = true := decide_eq_true (List.mem_of_getElem? HX.out)
        go_wp2
        refine bodyPost_ret (v := .bool true) (by simp [results, Tryz.results132, go_sem]) rfl ?_
        rw [hm]
        exact ⟨rfl, HK0.out.drewN _⟩
      · have hne : (y.toList == t.toList) = false := beq_eq_false_iff_ne.2 fun e => hyt (by rw [ByteArray.toList_eq, ByteArray.toList_eq] at e; exact ba_ext e)
        have HY := Lib.hid hyt
        clear hyt
        go_wp2
        go_roundw
        case rel =>
          refine ⟨k + 1, nq0, by go_num, by omega, Lib.hid fun j hj => ?_, rfl⟩
          by_cases hjk : j = k
          · rw [hjk, HX.out]
            intro e
            exact HY.out (Option.some.inj e)
          · exact hall.out j (by omega)
        case measure => simp only [intOf]; omega
    · have hm : decide (t ∈ Ps.specials) = false := decide_eq_false fun hm => by
        obtain ⟨j, hj, hje⟩ := List.getElem_of_mem hm
        exact hall.out j (by have : j < 13 := hj; omega) (by rw [List.getElem?_eq_getElem hj, hje])
      go_wp2
      refine bodyPost_ret (v := .bool false) (by simp [results, Tryz.results132, go_sem]) rfl ?_
      rw [hm]
      exact ⟨rfl, HK0.out.drewN _⟩
variable {E : RE} {w w' : World} {nx bad x : Nat} {dv : Value} {o : List Nd}
theorem rname0_err (hE : E.Ok) (h : RSt E w nx dv o bad x) (hb : nx ≤ 1000000) {y : Nat} (he : Ps.nameE (findS E.S E.S.F) (wordAt E.ws nx) = .error y) : Calls Tryz.prog 127 #[E.ptr, .int .i64 0] w fun e w' => e = .returned (.int .i64 0) ∧ RSt E w' nx dv o (if x = 0 then nx else bad) (if x = 0 then y else x) := by
  have HL := Lib.hid (rlook_any hE h hb)
  have HC : Hid (∀ w', Keep NoF w w' → w'.cell? ⟨E.b, 4, none⟩ = some (.int .i64 (nx : Int)) ∧ w'.cell? ⟨E.b, 0, none⟩ = some (.slice E.a E.S.A.length E.ca) ∧ w'.cell? ⟨E.b, 1, none⟩ = some (.slice E.f E.S.F.length E.cf) ∧ w'.cell? ⟨E.b, 2, none⟩ = some (.slice E.c E.S.C.length E.cc)) := Lib.hid fun w' hk => ⟨(h.keep hk).c4, (h.keep hk).c0⟩
  have HF : Hid (∀ (y : Nat) w1, Keep NoF w w1 → Calls Tryz.prog 22 #[E.ptr, .int .i64 (nx : Int), .int .i64 (y : Int)] w1 fun e w' => e = .returned (.tuple #[]) ∧ RSt E w' nx dv o (if x = 0 then nx else bad) (if x = 0 then y else x)) := Lib.hid fun y w1 hk => rfail_any hE (h.keep hk) nx y
  have HFI : Hid (∀ w1, Keep NoF w w1 → Calls Tryz.prog 133 #[.agg #[.slice E.a E.S.A.length E.ca, .slice E.f E.S.F.length E.cf, .slice E.c E.S.C.length E.cc], .string (wordAt E.ws nx)] w1 fun e w' => e = .returned (.int .i64 (findS E.S E.S.F (wordAt E.ws nx))) ∧ Keep NoF w1 w') := Lib.hid fun w1 hk => rFact_any E.S E.a E.f E.c E.ca E.cf E.cc _ w1 (hE.sig.keep (h.kp.trans hk fun _ _ h => h))
  have hwo := word_ok hE nx
  clear h hE
  generalize wordAt E.ws nx = t at *
  generalize findS E.S E.S.F = find at *
  generalize (if x = 0 then nx else bad) = bad' at *
  rcases hwo with rfl | ht
  · have e4 : y = 4 := by
      have : Ps.nameE find ⟨#[]⟩ = .error 4 := if_pos (.inl (by decide))
      rw [this] at he; cases he; rfl
    subst e4
    have HF4 : Hid (∀ w1, Keep NoF w w1 → Calls Tryz.prog 22 #[E.ptr, .int .i64 (nx : Int), .int .i64 4] w1 fun e w' => e = .returned (.tuple #[]) ∧ RSt E w' nx dv o bad' (if x = 0 then 4 else x)) := Lib.hid fun w1 hk => HF.out 4 w1 hk
    clear he HF
    generalize (if x = 0 then 4 else x) = x' at *
    go_enter Tryz.func127, Tryz.ntmps127
    go_wp2_with (first
      | (go_at_call 68; (with_reducible refine HL.out.mono ?_); rintro e w1 ⟨rfl, hk⟩; obtain ⟨c4, c0, c1, c2⟩ := HC.out w1 hk)
      | (go_at_call 22; (with_reducible refine (HF4.out _ hk).mono ?_); rintro e w2 ⟨rfl, hd⟩; have HD := Lib.hid hd; clear hd))
    refine bodyPost_ret (v := .int .i64 0) (by simp [results, Tryz.results127, go_sem]) rfl ?_
    exact ⟨rfl, HD.out⟩
  · have hsz : 0 < t.size := by have := ht.2.1; rw [← data_len]; exact List.length_pos_iff.2 this
    have hne : t.toList.isEmpty = false := by rw [ByteArray.toList_eq]; simpa using ht.2.1
    have hne2 : ¬ t.toList = [] := by rw [ByteArray.toList_eq]; exact ht.2.1
    have hhd : Ps.hd t = t[0].toNat := by unfold Ps.hd; rw [headD_at t hsz]
    unfold Ps.nameE at he
    rw [hhd] at he
    have h40 := ht.1
    clear ht hhd
    have HLE := Lib.hid fun W => rletter_any t[0].toNat W
    have HSP := Lib.hid fun W => rspecial_any t W
    by_cases hbad : letN t[0].toNat = false ∨ t ∈ Ps.specials
    · rw [if_pos hbad] at he
      cases he
      have HF4 : Hid (∀ w1, Keep NoF w w1 → Calls Tryz.prog 22 #[E.ptr, .int .i64 (nx : Int), .int .i64 4] w1 fun e w' => e = .returned (.tuple #[]) ∧ RSt E w' nx dv o bad' (if x = 0 then 4 else x)) := Lib.hid fun w1 hk => HF.out 4 w1 hk
      clear HF
      generalize (if x = 0 then 4 else x) = x' at *
      cases hl : letN t[0].toNat with
      | false =>
        rw [hl] at HLE
        clear hl hbad HSP
        go_enter Tryz.func127, Tryz.ntmps127
        go_wp2_with (first
          | (go_at_call 68; (with_reducible refine HL.out.mono ?_); rintro e w1 ⟨rfl, hk⟩; obtain ⟨c4, c0, c1, c2⟩ := HC.out w1 hk)
          | (go_at_call 65; (with_reducible refine (HLE.out _).mono ?_); rintro e w' ⟨rfl, hw'⟩; obtain rfl := hw'.symm)
          | (go_at_call 22; (with_reducible refine (HF4.out _ hk).mono ?_); rintro e w2 ⟨rfl, hd⟩; have HD := Lib.hid hd; clear hd))
        refine bodyPost_ret (v := .int .i64 0) (by simp [results, Tryz.results127, go_sem]) rfl ?_
        exact ⟨rfl, HD.out⟩
      | true =>
        rw [hl] at HLE
        have hsp : t ∈ Ps.specials := hbad.resolve_left (by rw [hl]; simp)
        rw [decide_eq_true hsp] at HSP
        clear hl hbad hsp
        go_enter Tryz.func127, Tryz.ntmps127
        go_wp2_with (first
          | (go_at_call 68; (with_reducible refine HL.out.mono ?_); rintro e w1 ⟨rfl, hk⟩)
          | (go_at_call 65; (with_reducible refine (HLE.out _).mono ?_); rintro e w' ⟨rfl, hw'⟩; obtain rfl := hw'.symm)
          | (go_at_call 132; (with_reducible refine (HSP.out _).mono ?_); rintro e w3 ⟨rfl, hk3'⟩; have hk3 := hk.trans hk3' fun _ _ h => h; obtain ⟨c4, c0, c1, c2⟩ := HC.out w3 hk3)
          | (go_at_call 22; (with_reducible refine (HF4.out _ hk3).mono ?_); rintro e w2 ⟨rfl, hd⟩; have HD := Lib.hid hd; clear hd))
        refine bodyPost_ret (v := .int .i64 0) (by simp [results, Tryz.results127, go_sem]) rfl ?_
        exact ⟨rfl, HD.out⟩
    · rw [if_neg hbad] at he
      have hlt : find t < 0 := by
        false_or_by_contra
        rename_i hn
        rw [if_neg hn] at he
        cases he
      rw [if_pos hlt] at he
      cases he
      have HF5 : Hid (∀ w1, Keep NoF w w1 → Calls Tryz.prog 22 #[E.ptr, .int .i64 (nx : Int), .int .i64 5] w1 fun e w' => e = .returned (.tuple #[]) ∧ RSt E w' nx dv o bad' (if x = 0 then 5 else x)) := Lib.hid fun w1 hk => HF.out 5 w1 hk
      clear HF
      generalize (if x = 0 then 5 else x) = x' at *
      rw [show letN t[0].toNat = true by cases hq : letN t[0].toNat; exact absurd (.inl hq) hbad; rfl] at HLE
      rw [decide_eq_false (fun h => hbad (.inr h))] at HSP
      clear hbad
      generalize find t = q at *
      go_enter Tryz.func127, Tryz.ntmps127
      go_wp2_with (first
        | (go_at_call 68; (with_reducible refine HL.out.mono ?_); rintro e w1 ⟨rfl, hk⟩)
        | (go_at_call 65; (with_reducible refine (HLE.out _).mono ?_); rintro e w' ⟨rfl, hw'⟩; obtain rfl := hw'.symm)
        | (go_at_call 132; (with_reducible refine (HSP.out _).mono ?_); rintro e w3 ⟨rfl, hk3'⟩; have hk3 := hk.trans hk3' fun _ _ h => h; obtain ⟨c4, c0, c1, c2⟩ := HC.out w3 hk3)
        | (go_at_call 133; (with_reducible refine (HFI.out _ hk3).mono ?_); rintro e w4 ⟨rfl, hk4'⟩; have hk4 := hk3.trans hk4' fun _ _ h => h; obtain ⟨d4, d0, d1, d2⟩ := HC.out w4 hk4)
        | (go_at_call 22; (with_reducible refine (HF5.out _ hk4).mono ?_); rintro e w2 ⟨rfl, hd⟩; have HD := Lib.hid hd; clear hd))
      refine bodyPost_ret (v := .int .i64 0) (by simp [results, Tryz.results127, go_sem]) rfl ?_
      exact ⟨rfl, HD.out⟩
theorem rname0_ok (hE : E.Ok) (h : RSt E w nx dv o bad x) (hb : nx ≤ 1000000) {i : Nat} (he : Ps.nameE (findS E.S E.S.F) (wordAt E.ws nx) = .ok i) : Calls Tryz.prog 127 #[E.ptr, .int .i64 0] w fun e w' => e = .returned (.int .i64 (i : Int)) ∧ RSt E w' (nx + 1) dv o bad x := by
  have HL := Lib.hid (rlook_any hE h hb)
  have HC : Hid (∀ w', Keep NoF w w' → w'.cell? ⟨E.b, 4, none⟩ = some (.int .i64 (nx : Int)) ∧ w'.cell? ⟨E.b, 0, none⟩ = some (.slice E.a E.S.A.length E.ca) ∧ w'.cell? ⟨E.b, 1, none⟩ = some (.slice E.f E.S.F.length E.cf) ∧ w'.cell? ⟨E.b, 2, none⟩ = some (.slice E.c E.S.C.length E.cc)) := Lib.hid fun w' hk => ⟨(h.keep hk).c4, (h.keep hk).c0⟩
  have HN : Hid (∀ w', Keep NoF w w' → w'.cell? ⟨E.b, 4, none⟩ = some (.int .i64 (nx : Int)) ∧ w'.frozen? ⟨E.b, 4, none⟩ = false ∧ RSt E (w'.setCell ⟨E.b, 4, none⟩ (.int .i64 ((nx : Int) + 1))) (nx + 1) dv o bad x) := Lib.hid fun w' hk => by
    have hs := h.keep hk
    exact ⟨hs.c4, hs.fr 4, by have := hs.setNext hE (nx + 1); rwa [show ((nx + 1 : Nat) : Int) = (nx : Int) + 1 by omega] at this⟩
  have HFI : Hid (∀ w1, Keep NoF w w1 → Calls Tryz.prog 133 #[.agg #[.slice E.a E.S.A.length E.ca, .slice E.f E.S.F.length E.cf, .slice E.c E.S.C.length E.cc], .string (wordAt E.ws nx)] w1 fun e w' => e = .returned (.int .i64 (findS E.S E.S.F (wordAt E.ws nx))) ∧ Keep NoF w1 w') := Lib.hid fun w1 hk => rFact_any E.S E.a E.f E.c E.ca E.cf E.cc _ w1 (hE.sig.keep (h.kp.trans hk fun _ _ h => h))
  have hwo := word_ok hE nx
  clear h hE
  generalize wordAt E.ws nx = t at *
  generalize findS E.S E.S.F = find at *
  rcases hwo with rfl | ht
  · have : Ps.nameE find ⟨#[]⟩ = .error 4 := if_pos (.inl (by decide))
    rw [this] at he; cases he
  · have hsz : 0 < t.size := by have := ht.2.1; rw [← data_len]; exact List.length_pos_iff.2 this
    have hne : t.toList.isEmpty = false := by rw [ByteArray.toList_eq]; simpa using ht.2.1
    have hne2 : ¬ t.toList = [] := by rw [ByteArray.toList_eq]; exact ht.2.1
    have hhd : Ps.hd t = t[0].toNat := by unfold Ps.hd; rw [headD_at t hsz]
    unfold Ps.nameE at he
    rw [hhd] at he
    have h40 := ht.1
    clear ht hhd
    have HLE := Lib.hid fun W => rletter_any t[0].toNat W
    have HSP := Lib.hid fun W => rspecial_any t W
    have hn : ¬ (letN t[0].toNat = false ∨ t ∈ Ps.specials) := fun hn => by rw [if_pos hn] at he; cases he
    rw [if_neg hn] at he
    have hge : ¬ find t < 0 := fun hn => by rw [if_pos hn] at he; cases he
    rw [if_neg hge] at he
    have hi : find t = (i : Int) := by
      have : (find t).toNat = i := by cases he; rfl
      omega
    clear he
    rw [hi] at HFI hge
    clear hi
    rw [show letN t[0].toNat = true by cases hq : letN t[0].toNat; exact absurd (.inl hq) hn; rfl] at HLE
    rw [decide_eq_false (fun h => hn (.inr h))] at HSP
    clear hn
    go_enter Tryz.func127, Tryz.ntmps127
    go_wp2_with (first
      | (go_at_call 68; (with_reducible refine HL.out.mono ?_); rintro e w1 ⟨rfl, hk⟩)
      | (go_at_call 65; (with_reducible refine (HLE.out _).mono ?_); rintro e w' ⟨rfl, hw'⟩; obtain rfl := hw'.symm)
      | (go_at_call 132; (with_reducible refine (HSP.out _).mono ?_); rintro e w3 ⟨rfl, hk3'⟩; have hk3 := hk.trans hk3' fun _ _ h => h; obtain ⟨c4, c0, c1, c2⟩ := HC.out w3 hk3)
      | (go_at_call 133; (with_reducible refine (HFI.out _ hk3).mono ?_); rintro e w4 ⟨rfl, hk4'⟩; have hk4 := hk3.trans hk4' fun _ _ h => h; obtain ⟨d4, f4, hl⟩ := HN.out w4 hk4; have HD := Lib.hid hl; clear hl))
    refine bodyPost_ret (v := .int .i64 (i : Int)) (by simp [results, Tryz.results127, go_sem]) rfl ?_
    exact ⟨rfl, HD.out⟩
theorem rname1_err (hE : E.Ok) (h : RSt E w nx dv o bad x) (hb : nx ≤ 1000000) {y : Nat} (he : Ps.nameE (findS E.S E.S.A) (wordAt E.ws nx) = .error y) : Calls Tryz.prog 127 #[E.ptr, .int .i64 1] w fun e w' => e = .returned (.int .i64 0) ∧ RSt E w' nx dv o (if x = 0 then nx else bad) (if x = 0 then y else x) := by
  have HL := Lib.hid (rlook_any hE h hb)
  have HC : Hid (∀ w', Keep NoF w w' → w'.cell? ⟨E.b, 4, none⟩ = some (.int .i64 (nx : Int)) ∧ w'.cell? ⟨E.b, 0, none⟩ = some (.slice E.a E.S.A.length E.ca) ∧ w'.cell? ⟨E.b, 1, none⟩ = some (.slice E.f E.S.F.length E.cf) ∧ w'.cell? ⟨E.b, 2, none⟩ = some (.slice E.c E.S.C.length E.cc)) := Lib.hid fun w' hk => ⟨(h.keep hk).c4, (h.keep hk).c0⟩
  have HF : Hid (∀ (y : Nat) w1, Keep NoF w w1 → Calls Tryz.prog 22 #[E.ptr, .int .i64 (nx : Int), .int .i64 (y : Int)] w1 fun e w' => e = .returned (.tuple #[]) ∧ RSt E w' nx dv o (if x = 0 then nx else bad) (if x = 0 then y else x)) := Lib.hid fun y w1 hk => rfail_any hE (h.keep hk) nx y
  have HFI : Hid (∀ w1, Keep NoF w w1 → Calls Tryz.prog 134 #[.agg #[.slice E.a E.S.A.length E.ca, .slice E.f E.S.F.length E.cf, .slice E.c E.S.C.length E.cc], .string (wordAt E.ws nx)] w1 fun e w' => e = .returned (.int .i64 (findS E.S E.S.A (wordAt E.ws nx))) ∧ Keep NoF w1 w') := Lib.hid fun w1 hk => rAgent_any E.S E.a E.f E.c E.ca E.cf E.cc _ w1 (hE.sig.keep (h.kp.trans hk fun _ _ h => h))
  have hwo := word_ok hE nx
  clear h hE
  generalize wordAt E.ws nx = t at *
  generalize findS E.S E.S.A = find at *
  generalize (if x = 0 then nx else bad) = bad' at *
  rcases hwo with rfl | ht
  · have e4 : y = 4 := by
      have : Ps.nameE find ⟨#[]⟩ = .error 4 := if_pos (.inl (by decide))
      rw [this] at he; cases he; rfl
    subst e4
    have HF4 : Hid (∀ w1, Keep NoF w w1 → Calls Tryz.prog 22 #[E.ptr, .int .i64 (nx : Int), .int .i64 4] w1 fun e w' => e = .returned (.tuple #[]) ∧ RSt E w' nx dv o bad' (if x = 0 then 4 else x)) := Lib.hid fun w1 hk => HF.out 4 w1 hk
    clear he HF
    generalize (if x = 0 then 4 else x) = x' at *
    go_enter Tryz.func127, Tryz.ntmps127
    go_wp2_with (first
      | (go_at_call 68; (with_reducible refine HL.out.mono ?_); rintro e w1 ⟨rfl, hk⟩; obtain ⟨c4, c0, c1, c2⟩ := HC.out w1 hk)
      | (go_at_call 22; (with_reducible refine (HF4.out _ hk).mono ?_); rintro e w2 ⟨rfl, hd⟩; have HD := Lib.hid hd; clear hd))
    refine bodyPost_ret (v := .int .i64 0) (by simp [results, Tryz.results127, go_sem]) rfl ?_
    exact ⟨rfl, HD.out⟩
  · have hsz : 0 < t.size := by have := ht.2.1; rw [← data_len]; exact List.length_pos_iff.2 this
    have hne : t.toList.isEmpty = false := by rw [ByteArray.toList_eq]; simpa using ht.2.1
    have hne2 : ¬ t.toList = [] := by rw [ByteArray.toList_eq]; exact ht.2.1
    have hhd : Ps.hd t = t[0].toNat := by unfold Ps.hd; rw [headD_at t hsz]
    unfold Ps.nameE at he
    rw [hhd] at he
    have h40 := ht.1
    clear ht hhd
    have HLE := Lib.hid fun W => rletter_any t[0].toNat W
    have HSP := Lib.hid fun W => rspecial_any t W
    by_cases hbad : letN t[0].toNat = false ∨ t ∈ Ps.specials
    · rw [if_pos hbad] at he
      cases he
      have HF4 : Hid (∀ w1, Keep NoF w w1 → Calls Tryz.prog 22 #[E.ptr, .int .i64 (nx : Int), .int .i64 4] w1 fun e w' => e = .returned (.tuple #[]) ∧ RSt E w' nx dv o bad' (if x = 0 then 4 else x)) := Lib.hid fun w1 hk => HF.out 4 w1 hk
      clear HF
      generalize (if x = 0 then 4 else x) = x' at *
      cases hl : letN t[0].toNat with
      | false =>
        rw [hl] at HLE
        clear hl hbad HSP
        go_enter Tryz.func127, Tryz.ntmps127
        go_wp2_with (first
          | (go_at_call 68; (with_reducible refine HL.out.mono ?_); rintro e w1 ⟨rfl, hk⟩; obtain ⟨c4, c0, c1, c2⟩ := HC.out w1 hk)
          | (go_at_call 65; (with_reducible refine (HLE.out _).mono ?_); rintro e w' ⟨rfl, hw'⟩; obtain rfl := hw'.symm)
          | (go_at_call 22; (with_reducible refine (HF4.out _ hk).mono ?_); rintro e w2 ⟨rfl, hd⟩; have HD := Lib.hid hd; clear hd))
        refine bodyPost_ret (v := .int .i64 0) (by simp [results, Tryz.results127, go_sem]) rfl ?_
        exact ⟨rfl, HD.out⟩
      | true =>
        rw [hl] at HLE
        have hsp : t ∈ Ps.specials := hbad.resolve_left (by rw [hl]; simp)
        rw [decide_eq_true hsp] at HSP
        clear hl hbad hsp
        go_enter Tryz.func127, Tryz.ntmps127
        go_wp2_with (first
          | (go_at_call 68; (with_reducible refine HL.out.mono ?_); rintro e w1 ⟨rfl, hk⟩)
          | (go_at_call 65; (with_reducible refine (HLE.out _).mono ?_); rintro e w' ⟨rfl, hw'⟩; obtain rfl := hw'.symm)
          | (go_at_call 132; (with_reducible refine (HSP.out _).mono ?_); rintro e w3 ⟨rfl, hk3'⟩; have hk3 := hk.trans hk3' fun _ _ h => h; obtain ⟨c4, c0, c1, c2⟩ := HC.out w3 hk3)
          | (go_at_call 22; (with_reducible refine (HF4.out _ hk3).mono ?_); rintro e w2 ⟨rfl, hd⟩; have HD := Lib.hid hd; clear hd))
        refine bodyPost_ret (v := .int .i64 0) (by simp [results, Tryz.results127, go_sem]) rfl ?_
        exact ⟨rfl, HD.out⟩
    · rw [if_neg hbad] at he
      have hlt : find t < 0 := by
        false_or_by_contra
        rename_i hn
        rw [if_neg hn] at he
        cases he
      rw [if_pos hlt] at he
      cases he
      have HF5 : Hid (∀ w1, Keep NoF w w1 → Calls Tryz.prog 22 #[E.ptr, .int .i64 (nx : Int), .int .i64 5] w1 fun e w' => e = .returned (.tuple #[]) ∧ RSt E w' nx dv o bad' (if x = 0 then 5 else x)) := Lib.hid fun w1 hk => HF.out 5 w1 hk
      clear HF
      generalize (if x = 0 then 5 else x) = x' at *
      rw [show letN t[0].toNat = true by cases hq : letN t[0].toNat; exact absurd (.inl hq) hbad; rfl] at HLE
      rw [decide_eq_false (fun h => hbad (.inr h))] at HSP
      clear hbad
      generalize find t = q at *
      go_enter Tryz.func127, Tryz.ntmps127
      go_wp2_with (first
        | (go_at_call 68; (with_reducible refine HL.out.mono ?_); rintro e w1 ⟨rfl, hk⟩)
        | (go_at_call 65; (with_reducible refine (HLE.out _).mono ?_); rintro e w' ⟨rfl, hw'⟩; obtain rfl := hw'.symm)
        | (go_at_call 132; (with_reducible refine (HSP.out _).mono ?_); rintro e w3 ⟨rfl, hk3'⟩; have hk3 := hk.trans hk3' fun _ _ h => h; obtain ⟨c4, c0, c1, c2⟩ := HC.out w3 hk3)
        | (go_at_call 134; (with_reducible refine (HFI.out _ hk3).mono ?_); rintro e w4 ⟨rfl, hk4'⟩; have hk4 := hk3.trans hk4' fun _ _ h => h; obtain ⟨d4, d0, d1, d2⟩ := HC.out w4 hk4)
        | (go_at_call 22; (with_reducible refine (HF5.out _ hk4).mono ?_); rintro e w2 ⟨rfl, hd⟩; have HD := Lib.hid hd; clear hd))
      refine bodyPost_ret (v := .int .i64 0) (by simp [results, Tryz.results127, go_sem]) rfl ?_
      exact ⟨rfl, HD.out⟩
theorem rname1_ok (hE : E.Ok) (h : RSt E w nx dv o bad x) (hb : nx ≤ 1000000) {i : Nat} (he : Ps.nameE (findS E.S E.S.A) (wordAt E.ws nx) = .ok i) : Calls Tryz.prog 127 #[E.ptr, .int .i64 1] w fun e w' => e = .returned (.int .i64 (i : Int)) ∧ RSt E w' (nx + 1) dv o bad x := by
  have HL := Lib.hid (rlook_any hE h hb)
  have HC : Hid (∀ w', Keep NoF w w' → w'.cell? ⟨E.b, 4, none⟩ = some (.int .i64 (nx : Int)) ∧ w'.cell? ⟨E.b, 0, none⟩ = some (.slice E.a E.S.A.length E.ca) ∧ w'.cell? ⟨E.b, 1, none⟩ = some (.slice E.f E.S.F.length E.cf) ∧ w'.cell? ⟨E.b, 2, none⟩ = some (.slice E.c E.S.C.length E.cc)) := Lib.hid fun w' hk => ⟨(h.keep hk).c4, (h.keep hk).c0⟩
  have HN : Hid (∀ w', Keep NoF w w' → w'.cell? ⟨E.b, 4, none⟩ = some (.int .i64 (nx : Int)) ∧ w'.frozen? ⟨E.b, 4, none⟩ = false ∧ RSt E (w'.setCell ⟨E.b, 4, none⟩ (.int .i64 ((nx : Int) + 1))) (nx + 1) dv o bad x) := Lib.hid fun w' hk => by
    have hs := h.keep hk
    exact ⟨hs.c4, hs.fr 4, by have := hs.setNext hE (nx + 1); rwa [show ((nx + 1 : Nat) : Int) = (nx : Int) + 1 by omega] at this⟩
  have HFI : Hid (∀ w1, Keep NoF w w1 → Calls Tryz.prog 134 #[.agg #[.slice E.a E.S.A.length E.ca, .slice E.f E.S.F.length E.cf, .slice E.c E.S.C.length E.cc], .string (wordAt E.ws nx)] w1 fun e w' => e = .returned (.int .i64 (findS E.S E.S.A (wordAt E.ws nx))) ∧ Keep NoF w1 w') := Lib.hid fun w1 hk => rAgent_any E.S E.a E.f E.c E.ca E.cf E.cc _ w1 (hE.sig.keep (h.kp.trans hk fun _ _ h => h))
  have hwo := word_ok hE nx
  clear h hE
  generalize wordAt E.ws nx = t at *
  generalize findS E.S E.S.A = find at *
  rcases hwo with rfl | ht
  · have : Ps.nameE find ⟨#[]⟩ = .error 4 := if_pos (.inl (by decide))
    rw [this] at he; cases he
  · have hsz : 0 < t.size := by have := ht.2.1; rw [← data_len]; exact List.length_pos_iff.2 this
    have hne : t.toList.isEmpty = false := by rw [ByteArray.toList_eq]; simpa using ht.2.1
    have hne2 : ¬ t.toList = [] := by rw [ByteArray.toList_eq]; exact ht.2.1
    have hhd : Ps.hd t = t[0].toNat := by unfold Ps.hd; rw [headD_at t hsz]
    unfold Ps.nameE at he
    rw [hhd] at he
    have h40 := ht.1
    clear ht hhd
    have HLE := Lib.hid fun W => rletter_any t[0].toNat W
    have HSP := Lib.hid fun W => rspecial_any t W
    have hn : ¬ (letN t[0].toNat = false ∨ t ∈ Ps.specials) := fun hn => by rw [if_pos hn] at he; cases he
    rw [if_neg hn] at he
    have hge : ¬ find t < 0 := fun hn => by rw [if_pos hn] at he; cases he
    rw [if_neg hge] at he
    have hi : find t = (i : Int) := by
      have : (find t).toNat = i := by cases he; rfl
      omega
    clear he
    rw [hi] at HFI hge
    clear hi
    rw [show letN t[0].toNat = true by cases hq : letN t[0].toNat; exact absurd (.inl hq) hn; rfl] at HLE
    rw [decide_eq_false (fun h => hn (.inr h))] at HSP
    clear hn
    go_enter Tryz.func127, Tryz.ntmps127
    go_wp2_with (first
      | (go_at_call 68; (with_reducible refine HL.out.mono ?_); rintro e w1 ⟨rfl, hk⟩)
      | (go_at_call 65; (with_reducible refine (HLE.out _).mono ?_); rintro e w' ⟨rfl, hw'⟩; obtain rfl := hw'.symm)
      | (go_at_call 132; (with_reducible refine (HSP.out _).mono ?_); rintro e w3 ⟨rfl, hk3'⟩; have hk3 := hk.trans hk3' fun _ _ h => h; obtain ⟨c4, c0, c1, c2⟩ := HC.out w3 hk3)
      | (go_at_call 134; (with_reducible refine (HFI.out _ hk3).mono ?_); rintro e w4 ⟨rfl, hk4'⟩; have hk4 := hk3.trans hk4' fun _ _ h => h; obtain ⟨d4, f4, hl⟩ := HN.out w4 hk4; have HD := Lib.hid hl; clear hl))
    refine bodyPost_ret (v := .int .i64 (i : Int)) (by simp [results, Tryz.results127, go_sem]) rfl ?_
    exact ⟨rfl, HD.out⟩
theorem rname2_err (hE : E.Ok) (h : RSt E w nx dv o bad x) (hb : nx ≤ 1000000) {y : Nat} (he : Ps.nameE (findS E.S E.S.C) (wordAt E.ws nx) = .error y) : Calls Tryz.prog 127 #[E.ptr, .int .i64 2] w fun e w' => e = .returned (.int .i64 0) ∧ RSt E w' nx dv o (if x = 0 then nx else bad) (if x = 0 then y else x) := by
  have HL := Lib.hid (rlook_any hE h hb)
  have HC : Hid (∀ w', Keep NoF w w' → w'.cell? ⟨E.b, 4, none⟩ = some (.int .i64 (nx : Int)) ∧ w'.cell? ⟨E.b, 0, none⟩ = some (.slice E.a E.S.A.length E.ca) ∧ w'.cell? ⟨E.b, 1, none⟩ = some (.slice E.f E.S.F.length E.cf) ∧ w'.cell? ⟨E.b, 2, none⟩ = some (.slice E.c E.S.C.length E.cc)) := Lib.hid fun w' hk => ⟨(h.keep hk).c4, (h.keep hk).c0⟩
  have HF : Hid (∀ (y : Nat) w1, Keep NoF w w1 → Calls Tryz.prog 22 #[E.ptr, .int .i64 (nx : Int), .int .i64 (y : Int)] w1 fun e w' => e = .returned (.tuple #[]) ∧ RSt E w' nx dv o (if x = 0 then nx else bad) (if x = 0 then y else x)) := Lib.hid fun y w1 hk => rfail_any hE (h.keep hk) nx y
  have HFI : Hid (∀ w1, Keep NoF w w1 → Calls Tryz.prog 135 #[.agg #[.slice E.a E.S.A.length E.ca, .slice E.f E.S.F.length E.cf, .slice E.c E.S.C.length E.cc], .string (wordAt E.ws nx)] w1 fun e w' => e = .returned (.int .i64 (findS E.S E.S.C (wordAt E.ws nx))) ∧ Keep NoF w1 w') := Lib.hid fun w1 hk => rAction_any E.S E.a E.f E.c E.ca E.cf E.cc _ w1 (hE.sig.keep (h.kp.trans hk fun _ _ h => h))
  have hwo := word_ok hE nx
  clear h hE
  generalize wordAt E.ws nx = t at *
  generalize findS E.S E.S.C = find at *
  generalize (if x = 0 then nx else bad) = bad' at *
  rcases hwo with rfl | ht
  · have e4 : y = 4 := by
      have : Ps.nameE find ⟨#[]⟩ = .error 4 := if_pos (.inl (by decide))
      rw [this] at he; cases he; rfl
    subst e4
    have HF4 : Hid (∀ w1, Keep NoF w w1 → Calls Tryz.prog 22 #[E.ptr, .int .i64 (nx : Int), .int .i64 4] w1 fun e w' => e = .returned (.tuple #[]) ∧ RSt E w' nx dv o bad' (if x = 0 then 4 else x)) := Lib.hid fun w1 hk => HF.out 4 w1 hk
    clear he HF
    generalize (if x = 0 then 4 else x) = x' at *
    go_enter Tryz.func127, Tryz.ntmps127
    go_wp2_with (first
      | (go_at_call 68; (with_reducible refine HL.out.mono ?_); rintro e w1 ⟨rfl, hk⟩; obtain ⟨c4, c0, c1, c2⟩ := HC.out w1 hk)
      | (go_at_call 22; (with_reducible refine (HF4.out _ hk).mono ?_); rintro e w2 ⟨rfl, hd⟩; have HD := Lib.hid hd; clear hd))
    refine bodyPost_ret (v := .int .i64 0) (by simp [results, Tryz.results127, go_sem]) rfl ?_
    exact ⟨rfl, HD.out⟩
  · have hsz : 0 < t.size := by have := ht.2.1; rw [← data_len]; exact List.length_pos_iff.2 this
    have hne : t.toList.isEmpty = false := by rw [ByteArray.toList_eq]; simpa using ht.2.1
    have hne2 : ¬ t.toList = [] := by rw [ByteArray.toList_eq]; exact ht.2.1
    have hhd : Ps.hd t = t[0].toNat := by unfold Ps.hd; rw [headD_at t hsz]
    unfold Ps.nameE at he
    rw [hhd] at he
    have h40 := ht.1
    clear ht hhd
    have HLE := Lib.hid fun W => rletter_any t[0].toNat W
    have HSP := Lib.hid fun W => rspecial_any t W
    by_cases hbad : letN t[0].toNat = false ∨ t ∈ Ps.specials
    · rw [if_pos hbad] at he
      cases he
      have HF4 : Hid (∀ w1, Keep NoF w w1 → Calls Tryz.prog 22 #[E.ptr, .int .i64 (nx : Int), .int .i64 4] w1 fun e w' => e = .returned (.tuple #[]) ∧ RSt E w' nx dv o bad' (if x = 0 then 4 else x)) := Lib.hid fun w1 hk => HF.out 4 w1 hk
      clear HF
      generalize (if x = 0 then 4 else x) = x' at *
      cases hl : letN t[0].toNat with
      | false =>
        rw [hl] at HLE
        clear hl hbad HSP
        go_enter Tryz.func127, Tryz.ntmps127
        go_wp2_with (first
          | (go_at_call 68; (with_reducible refine HL.out.mono ?_); rintro e w1 ⟨rfl, hk⟩; obtain ⟨c4, c0, c1, c2⟩ := HC.out w1 hk)
          | (go_at_call 65; (with_reducible refine (HLE.out _).mono ?_); rintro e w' ⟨rfl, hw'⟩; obtain rfl := hw'.symm)
          | (go_at_call 22; (with_reducible refine (HF4.out _ hk).mono ?_); rintro e w2 ⟨rfl, hd⟩; have HD := Lib.hid hd; clear hd))
        refine bodyPost_ret (v := .int .i64 0) (by simp [results, Tryz.results127, go_sem]) rfl ?_
        exact ⟨rfl, HD.out⟩
      | true =>
        rw [hl] at HLE
        have hsp : t ∈ Ps.specials := hbad.resolve_left (by rw [hl]; simp)
        rw [decide_eq_true hsp] at HSP
        clear hl hbad hsp
        go_enter Tryz.func127, Tryz.ntmps127
        go_wp2_with (first
          | (go_at_call 68; (with_reducible refine HL.out.mono ?_); rintro e w1 ⟨rfl, hk⟩)
          | (go_at_call 65; (with_reducible refine (HLE.out _).mono ?_); rintro e w' ⟨rfl, hw'⟩; obtain rfl := hw'.symm)
          | (go_at_call 132; (with_reducible refine (HSP.out _).mono ?_); rintro e w3 ⟨rfl, hk3'⟩; have hk3 := hk.trans hk3' fun _ _ h => h; obtain ⟨c4, c0, c1, c2⟩ := HC.out w3 hk3)
          | (go_at_call 22; (with_reducible refine (HF4.out _ hk3).mono ?_); rintro e w2 ⟨rfl, hd⟩; have HD := Lib.hid hd; clear hd))
        refine bodyPost_ret (v := .int .i64 0) (by simp [results, Tryz.results127, go_sem]) rfl ?_
        exact ⟨rfl, HD.out⟩
    · rw [if_neg hbad] at he
      have hlt : find t < 0 := by
        false_or_by_contra
        rename_i hn
        rw [if_neg hn] at he
        cases he
      rw [if_pos hlt] at he
      cases he
      have HF5 : Hid (∀ w1, Keep NoF w w1 → Calls Tryz.prog 22 #[E.ptr, .int .i64 (nx : Int), .int .i64 5] w1 fun e w' => e = .returned (.tuple #[]) ∧ RSt E w' nx dv o bad' (if x = 0 then 5 else x)) := Lib.hid fun w1 hk => HF.out 5 w1 hk
      clear HF
      generalize (if x = 0 then 5 else x) = x' at *
      rw [show letN t[0].toNat = true by cases hq : letN t[0].toNat; exact absurd (.inl hq) hbad; rfl] at HLE
      rw [decide_eq_false (fun h => hbad (.inr h))] at HSP
      clear hbad
      generalize find t = q at *
      go_enter Tryz.func127, Tryz.ntmps127
      go_wp2_with (first
        | (go_at_call 68; (with_reducible refine HL.out.mono ?_); rintro e w1 ⟨rfl, hk⟩)
        | (go_at_call 65; (with_reducible refine (HLE.out _).mono ?_); rintro e w' ⟨rfl, hw'⟩; obtain rfl := hw'.symm)
        | (go_at_call 132; (with_reducible refine (HSP.out _).mono ?_); rintro e w3 ⟨rfl, hk3'⟩; have hk3 := hk.trans hk3' fun _ _ h => h; obtain ⟨c4, c0, c1, c2⟩ := HC.out w3 hk3)
        | (go_at_call 135; (with_reducible refine (HFI.out _ hk3).mono ?_); rintro e w4 ⟨rfl, hk4'⟩; have hk4 := hk3.trans hk4' fun _ _ h => h; obtain ⟨d4, d0, d1, d2⟩ := HC.out w4 hk4)
        | (go_at_call 22; (with_reducible refine (HF5.out _ hk4).mono ?_); rintro e w2 ⟨rfl, hd⟩; have HD := Lib.hid hd; clear hd))
      refine bodyPost_ret (v := .int .i64 0) (by simp [results, Tryz.results127, go_sem]) rfl ?_
      exact ⟨rfl, HD.out⟩
theorem rname2_ok (hE : E.Ok) (h : RSt E w nx dv o bad x) (hb : nx ≤ 1000000) {i : Nat} (he : Ps.nameE (findS E.S E.S.C) (wordAt E.ws nx) = .ok i) : Calls Tryz.prog 127 #[E.ptr, .int .i64 2] w fun e w' => e = .returned (.int .i64 (i : Int)) ∧ RSt E w' (nx + 1) dv o bad x := by
  have HL := Lib.hid (rlook_any hE h hb)
  have HC : Hid (∀ w', Keep NoF w w' → w'.cell? ⟨E.b, 4, none⟩ = some (.int .i64 (nx : Int)) ∧ w'.cell? ⟨E.b, 0, none⟩ = some (.slice E.a E.S.A.length E.ca) ∧ w'.cell? ⟨E.b, 1, none⟩ = some (.slice E.f E.S.F.length E.cf) ∧ w'.cell? ⟨E.b, 2, none⟩ = some (.slice E.c E.S.C.length E.cc)) := Lib.hid fun w' hk => ⟨(h.keep hk).c4, (h.keep hk).c0⟩
  have HN : Hid (∀ w', Keep NoF w w' → w'.cell? ⟨E.b, 4, none⟩ = some (.int .i64 (nx : Int)) ∧ w'.frozen? ⟨E.b, 4, none⟩ = false ∧ RSt E (w'.setCell ⟨E.b, 4, none⟩ (.int .i64 ((nx : Int) + 1))) (nx + 1) dv o bad x) := Lib.hid fun w' hk => by
    have hs := h.keep hk
    exact ⟨hs.c4, hs.fr 4, by have := hs.setNext hE (nx + 1); rwa [show ((nx + 1 : Nat) : Int) = (nx : Int) + 1 by omega] at this⟩
  have HFI : Hid (∀ w1, Keep NoF w w1 → Calls Tryz.prog 135 #[.agg #[.slice E.a E.S.A.length E.ca, .slice E.f E.S.F.length E.cf, .slice E.c E.S.C.length E.cc], .string (wordAt E.ws nx)] w1 fun e w' => e = .returned (.int .i64 (findS E.S E.S.C (wordAt E.ws nx))) ∧ Keep NoF w1 w') := Lib.hid fun w1 hk => rAction_any E.S E.a E.f E.c E.ca E.cf E.cc _ w1 (hE.sig.keep (h.kp.trans hk fun _ _ h => h))
  have hwo := word_ok hE nx
  clear h hE
  generalize wordAt E.ws nx = t at *
  generalize findS E.S E.S.C = find at *
  rcases hwo with rfl | ht
  · have : Ps.nameE find ⟨#[]⟩ = .error 4 := if_pos (.inl (by decide))
    rw [this] at he; cases he
  · have hsz : 0 < t.size := by have := ht.2.1; rw [← data_len]; exact List.length_pos_iff.2 this
    have hne : t.toList.isEmpty = false := by rw [ByteArray.toList_eq]; simpa using ht.2.1
    have hne2 : ¬ t.toList = [] := by rw [ByteArray.toList_eq]; exact ht.2.1
    have hhd : Ps.hd t = t[0].toNat := by unfold Ps.hd; rw [headD_at t hsz]
    unfold Ps.nameE at he
    rw [hhd] at he
    have h40 := ht.1
    clear ht hhd
    have HLE := Lib.hid fun W => rletter_any t[0].toNat W
    have HSP := Lib.hid fun W => rspecial_any t W
    have hn : ¬ (letN t[0].toNat = false ∨ t ∈ Ps.specials) := fun hn => by rw [if_pos hn] at he; cases he
    rw [if_neg hn] at he
    have hge : ¬ find t < 0 := fun hn => by rw [if_pos hn] at he; cases he
    rw [if_neg hge] at he
    have hi : find t = (i : Int) := by
      have : (find t).toNat = i := by cases he; rfl
      omega
    clear he
    rw [hi] at HFI hge
    clear hi
    rw [show letN t[0].toNat = true by cases hq : letN t[0].toNat; exact absurd (.inl hq) hn; rfl] at HLE
    rw [decide_eq_false (fun h => hn (.inr h))] at HSP
    clear hn
    go_enter Tryz.func127, Tryz.ntmps127
    go_wp2_with (first
      | (go_at_call 68; (with_reducible refine HL.out.mono ?_); rintro e w1 ⟨rfl, hk⟩)
      | (go_at_call 65; (with_reducible refine (HLE.out _).mono ?_); rintro e w' ⟨rfl, hw'⟩; obtain rfl := hw'.symm)
      | (go_at_call 132; (with_reducible refine (HSP.out _).mono ?_); rintro e w3 ⟨rfl, hk3'⟩; have hk3 := hk.trans hk3' fun _ _ h => h; obtain ⟨c4, c0, c1, c2⟩ := HC.out w3 hk3)
      | (go_at_call 135; (with_reducible refine (HFI.out _ hk3).mono ?_); rintro e w4 ⟨rfl, hk4'⟩; have hk4 := hk3.trans hk4' fun _ _ h => h; obtain ⟨d4, f4, hl⟩ := HN.out w4 hk4; have HD := Lib.hid hl; clear hl))
    refine bodyPost_ret (v := .int .i64 (i : Int)) (by simp [results, Tryz.results127, go_sem]) rfl ?_
    exact ⟨rfl, HD.out⟩
end
end Go.Proofs.YtdhdcenjiopofaaGreatDoor
namespace Go.Proofs.YtdhdcenjiopofaaGreatDoor
open Go.RowKit
open Fm (Nd put)
open Ps (Res)

section
variable {E : RE} {α : Type} {w : World} {st : Res α} {of : α → List Nd} {nb ob : Nat}
theorem rname0_all (hE : E.Ok) (h : SR E w st of nb ob) (hnb : nb ≤ 1000000) : Calls Tryz.prog 127 #[E.ptr, .int .i64 0] w fun e w' => ∃ v : Nat, e = .returned (.int .i64 (v : Int)) ∧ v < 8 ∧ SR E w' (thenP st (Ps.name (findS E.S E.S.F))) (fun p => of p.1) (nb + 1) ob ∧ (∀ p r, thenP st (Ps.name (findS E.S E.S.F)) = .ok p r → v = p.2) := by
  have hlt : ∀ t, findS E.S E.S.F t < ((8 : Nat) : Int) := lt_find hE.chk (checkS_ok hE.chk).lF
  cases st with
  | bad r x =>
    obtain ⟨h0, nx, dv, o, h1, h2, hst⟩ := h
    cases hn : Ps.nameE (findS E.S E.S.F) (wordAt E.ws nx) with
    | ok i =>
      refine (rname0_ok hE hst (by omega) hn).mono ?_
      rintro e w' ⟨rfl, hq⟩
      exact ⟨i, rfl, Ps.nameE_lt hlt hn, ⟨h0, nx + 1, dv, o, by omega, h2, hq⟩, fun _ _ e => by cases e⟩
    | error y =>
      refine (rname0_err hE hst (by omega) hn).mono ?_
      rintro e w' ⟨rfl, hq⟩
      rw [if_neg (by omega), if_neg (by omega)] at hq
      exact ⟨0, rfl, by omega, ⟨h0, nx, dv, o, by omega, h2, hq⟩, fun _ _ e => by cases e⟩
  | ok a ts =>
    obtain ⟨⟨hsuf, dv, hst⟩, h1, h2⟩ := h
    have hle := hsuf.length_le
    cases ts with
    | nil =>
      have hn : Ps.nameE (findS E.S E.S.F) (wordAt E.ws (E.ws.length - ([] : List ByteArray).length)) = .error 4 := by rw [word_nil]; exact if_pos (.inl (by decide))
      refine (rname0_err hE hst (by omega) hn).mono ?_
      rintro e w' ⟨rfl, hq⟩
      rw [if_pos rfl, if_pos rfl] at hq
      exact ⟨0, rfl, by omega, ⟨by omega, _, dv, of a, by omega, by omega, hq⟩, fun _ _ e => by cases e⟩
    | cons t r =>
      simp only [List.length_cons] at h1 h2
      cases hn : Ps.nameE (findS E.S E.S.F) t with
      | ok i =>
        have e1 : thenP (.ok a (t :: r)) (Ps.name (findS E.S E.S.F)) = .ok (a, i) r := by simp only [thenP, Ps.name, Ps.tok_ok hn]
        rw [e1]
        refine (rname0_ok hE hst (by omega) (by rw [word_cons hsuf]; exact hn)).mono ?_
        rintro e w' ⟨rfl, hq⟩
        exact ⟨i, rfl, Ps.nameE_lt hlt hn, ⟨RSt.live hsuf hq, by omega, by simp only; omega⟩, fun _ _ e => by cases e; rfl⟩
      | error y =>
        have e1 : thenP (.ok a (t :: r)) (Ps.name (findS E.S E.S.F)) = .bad (t :: r) y := by simp only [thenP, Ps.name, Ps.tok_err hn]
        rw [e1]
        refine (rname0_err hE hst (by omega) (by rw [word_cons hsuf]; exact hn)).mono ?_
        rintro e w' ⟨rfl, hq⟩
        rw [if_pos rfl, if_pos rfl] at hq
        have hy : 0 < y := by
          unfold Ps.nameE at hn
          split at hn
          · cases hn; omega
          · split at hn
            · cases hn; omega
            · cases hn
        exact ⟨0, rfl, by omega, ⟨hy, _, dv, of a, by omega, by omega, hq⟩, fun _ _ e => by cases e⟩
theorem rname1_all (hE : E.Ok) (h : SR E w st of nb ob) (hnb : nb ≤ 1000000) : Calls Tryz.prog 127 #[E.ptr, .int .i64 1] w fun e w' => ∃ v : Nat, e = .returned (.int .i64 (v : Int)) ∧ v < 4 ∧ SR E w' (thenP st (Ps.name (findS E.S E.S.A))) (fun p => of p.1) (nb + 1) ob ∧ (∀ p r, thenP st (Ps.name (findS E.S E.S.A)) = .ok p r → v = p.2) := by
  have hlt : ∀ t, findS E.S E.S.A t < ((4 : Nat) : Int) := lt_find hE.chk (checkS_ok hE.chk).lA
  cases st with
  | bad r x =>
    obtain ⟨h0, nx, dv, o, h1, h2, hst⟩ := h
    cases hn : Ps.nameE (findS E.S E.S.A) (wordAt E.ws nx) with
    | ok i =>
      refine (rname1_ok hE hst (by omega) hn).mono ?_
      rintro e w' ⟨rfl, hq⟩
      exact ⟨i, rfl, Ps.nameE_lt hlt hn, ⟨h0, nx + 1, dv, o, by omega, h2, hq⟩, fun _ _ e => by cases e⟩
    | error y =>
      refine (rname1_err hE hst (by omega) hn).mono ?_
      rintro e w' ⟨rfl, hq⟩
      rw [if_neg (by omega), if_neg (by omega)] at hq
      exact ⟨0, rfl, by omega, ⟨h0, nx, dv, o, by omega, h2, hq⟩, fun _ _ e => by cases e⟩
  | ok a ts =>
    obtain ⟨⟨hsuf, dv, hst⟩, h1, h2⟩ := h
    have hle := hsuf.length_le
    cases ts with
    | nil =>
      have hn : Ps.nameE (findS E.S E.S.A) (wordAt E.ws (E.ws.length - ([] : List ByteArray).length)) = .error 4 := by rw [word_nil]; exact if_pos (.inl (by decide))
      refine (rname1_err hE hst (by omega) hn).mono ?_
      rintro e w' ⟨rfl, hq⟩
      rw [if_pos rfl, if_pos rfl] at hq
      exact ⟨0, rfl, by omega, ⟨by omega, _, dv, of a, by omega, by omega, hq⟩, fun _ _ e => by cases e⟩
    | cons t r =>
      simp only [List.length_cons] at h1 h2
      cases hn : Ps.nameE (findS E.S E.S.A) t with
      | ok i =>
        have e1 : thenP (.ok a (t :: r)) (Ps.name (findS E.S E.S.A)) = .ok (a, i) r := by simp only [thenP, Ps.name, Ps.tok_ok hn]
        rw [e1]
        refine (rname1_ok hE hst (by omega) (by rw [word_cons hsuf]; exact hn)).mono ?_
        rintro e w' ⟨rfl, hq⟩
        exact ⟨i, rfl, Ps.nameE_lt hlt hn, ⟨RSt.live hsuf hq, by omega, by simp only; omega⟩, fun _ _ e => by cases e; rfl⟩
      | error y =>
        have e1 : thenP (.ok a (t :: r)) (Ps.name (findS E.S E.S.A)) = .bad (t :: r) y := by simp only [thenP, Ps.name, Ps.tok_err hn]
        rw [e1]
        refine (rname1_err hE hst (by omega) (by rw [word_cons hsuf]; exact hn)).mono ?_
        rintro e w' ⟨rfl, hq⟩
        rw [if_pos rfl, if_pos rfl] at hq
        have hy : 0 < y := by
          unfold Ps.nameE at hn
          split at hn
          · cases hn; omega
          · split at hn
            · cases hn; omega
            · cases hn
        exact ⟨0, rfl, by omega, ⟨hy, _, dv, of a, by omega, by omega, hq⟩, fun _ _ e => by cases e⟩
theorem rname2_all (hE : E.Ok) (h : SR E w st of nb ob) (hnb : nb ≤ 1000000) : Calls Tryz.prog 127 #[E.ptr, .int .i64 2] w fun e w' => ∃ v : Nat, e = .returned (.int .i64 (v : Int)) ∧ v < 8 ∧ SR E w' (thenP st (Ps.name (findS E.S E.S.C))) (fun p => of p.1) (nb + 1) ob ∧ (∀ p r, thenP st (Ps.name (findS E.S E.S.C)) = .ok p r → v = p.2) := by
  have hlt : ∀ t, findS E.S E.S.C t < ((8 : Nat) : Int) := lt_find hE.chk (checkS_ok hE.chk).lC
  cases st with
  | bad r x =>
    obtain ⟨h0, nx, dv, o, h1, h2, hst⟩ := h
    cases hn : Ps.nameE (findS E.S E.S.C) (wordAt E.ws nx) with
    | ok i =>
      refine (rname2_ok hE hst (by omega) hn).mono ?_
      rintro e w' ⟨rfl, hq⟩
      exact ⟨i, rfl, Ps.nameE_lt hlt hn, ⟨h0, nx + 1, dv, o, by omega, h2, hq⟩, fun _ _ e => by cases e⟩
    | error y =>
      refine (rname2_err hE hst (by omega) hn).mono ?_
      rintro e w' ⟨rfl, hq⟩
      rw [if_neg (by omega), if_neg (by omega)] at hq
      exact ⟨0, rfl, by omega, ⟨h0, nx, dv, o, by omega, h2, hq⟩, fun _ _ e => by cases e⟩
  | ok a ts =>
    obtain ⟨⟨hsuf, dv, hst⟩, h1, h2⟩ := h
    have hle := hsuf.length_le
    cases ts with
    | nil =>
      have hn : Ps.nameE (findS E.S E.S.C) (wordAt E.ws (E.ws.length - ([] : List ByteArray).length)) = .error 4 := by rw [word_nil]; exact if_pos (.inl (by decide))
      refine (rname2_err hE hst (by omega) hn).mono ?_
      rintro e w' ⟨rfl, hq⟩
      rw [if_pos rfl, if_pos rfl] at hq
      exact ⟨0, rfl, by omega, ⟨by omega, _, dv, of a, by omega, by omega, hq⟩, fun _ _ e => by cases e⟩
    | cons t r =>
      simp only [List.length_cons] at h1 h2
      cases hn : Ps.nameE (findS E.S E.S.C) t with
      | ok i =>
        have e1 : thenP (.ok a (t :: r)) (Ps.name (findS E.S E.S.C)) = .ok (a, i) r := by simp only [thenP, Ps.name, Ps.tok_ok hn]
        rw [e1]
        refine (rname2_ok hE hst (by omega) (by rw [word_cons hsuf]; exact hn)).mono ?_
        rintro e w' ⟨rfl, hq⟩
        exact ⟨i, rfl, Ps.nameE_lt hlt hn, ⟨RSt.live hsuf hq, by omega, by simp only; omega⟩, fun _ _ e => by cases e; rfl⟩
      | error y =>
        have e1 : thenP (.ok a (t :: r)) (Ps.name (findS E.S E.S.C)) = .bad (t :: r) y := by simp only [thenP, Ps.name, Ps.tok_err hn]
        rw [e1]
        refine (rname2_err hE hst (by omega) (by rw [word_cons hsuf]; exact hn)).mono ?_
        rintro e w' ⟨rfl, hq⟩
        rw [if_pos rfl, if_pos rfl] at hq
        have hy : 0 < y := by
          unfold Ps.nameE at hn
          split at hn
          · cases hn; omega
          · split at hn
            · cases hn; omega
            · cases hn
        exact ⟨0, rfl, by omega, ⟨hy, _, dv, of a, by omega, by omega, hq⟩, fun _ _ e => by cases e⟩
/-- A node behind what has been read. -/
theorem rnode_all (hE : E.Ok) (h : SR E w st of nb ob) (hob : ob ≤ 1000000) (n : Nd) : Calls Tryz.prog 45 #[E.ptr, ndV n] w fun e w' => ∃ v : Nat, e = .returned (.int .i64 (v : Int)) ∧ SR E w' st (fun a => (put n (of a)).2) nb (ob + 1) ∧ (∀ a r, st = .ok a r → v = (put n (of a)).1) := by
  cases st with
  | bad r x =>
    obtain ⟨h0, nx, dv, o, h1, h2, hst⟩ := h
    refine (rnode_any hE hst (by omega) n).mono ?_
    rintro e w' ⟨rfl, dv', hq⟩
    have := Fm.put_len n o
    exact ⟨_, rfl, ⟨h0, nx, dv', _, h1, by omega, hq⟩, fun _ _ e => by cases e⟩
  | ok a ts =>
    obtain ⟨⟨hsuf, dv, hst⟩, h1, h2⟩ := h
    refine (rnode_any hE hst (by omega) n).mono ?_
    rintro e w' ⟨rfl, dv', hq⟩
    have := Fm.put_len n (of a)
    exact ⟨_, rfl, ⟨⟨hsuf, dv', hq⟩, h1, by simp only; omega⟩, fun _ _ e => by cases e; rfl⟩
/-- What a part of the reader answers: the number of the tree's root, and the list with the tree in it. -/
def RPost (E : RE) (w' : World) (st : Res Fm.Form) (o : List Nd) (nb ob : Nat) (e : Ending) : Prop :=
  ∃ v : Nat, e = .returned (.int .i64 (v : Int)) ∧ SR E w' st (fun t => (Fm.ins t o).2) nb ob ∧ (∀ t r, st = .ok t r → v = (Fm.ins t o).1)
/-- A part of the reader that follows a parser, up to a number of tokens. -/
def RPart (E : RE) (F : Nat) (p : Ps.P Fm.Form) (N : Nat) : Prop := ∀ (ts : List ByteArray) (w : World) (o : List Nd) (nb ob : Nat), ts.length < N → nb ≤ 900000 → ob ≤ 900000 → SR E w (Res.ok () ts) (fun _ => o) nb ob → Calls Tryz.prog F #[E.ptr] w fun e w' => RPost E w' (p ts) o nb ob e
end
end Go.Proofs.YtdhdcenjiopofaaGreatDoor
