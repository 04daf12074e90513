/- The reader: its state, and what stop, peek, take and want do. Conditions: the reader lies as it is built. -/
import Derived.Test.YtbidfbojealmlaaGreatDoorPaG
import Derived.Test.YtbidfbojealmlaaGreatDoorSgRG
set_option linter.unusedVariables false
set_option linter.unusedSimpArgs false
namespace Go.Proofs.YtbidfbojealmlaaGreatDoor
open Go.RowKit


/-- What a run of the reader does not change. -/
structure Env where
  w0 : World
  b : Nat
  S : Sg
  a : Option Addr
  ca : Nat
  f : Option Addr
  cf : Nat
  c : Option Addr
  cc : Nat
  ws : List ByteArray
  WA : Option Addr
  wc : Nat
  ps : List Nat
  AA : Option Addr
  ac : Nat
  len : Nat
def TokOk (t : ByteArray) : Prop := t.size ≤ 4000 ∧ t.data.toList ≠ [] ∧ (32 : UInt8) ∉ t.data.toList
def atV (ps : List Nat) : List Value := ps.map fun (p : Nat) => .int .i64 (p : Int)
structure Env.Ok (E : Env) : Prop where
  hb : E.w0.heap.size ≤ E.b
  sig : SigR E.w0 E.S E.a E.ca E.f E.cf E.c E.cc
  tab : Tab E.w0
  chk : checkS E.S = 0
  words : Rd E.w0 (.slice E.WA E.ws.length E.wc) 1 E.ws.length (strs E.ws)
  at_ : Rd E.w0 (.slice E.AA E.ps.length E.ac) 1 E.ps.length (atV E.ps)
  len : E.ps.length = E.ws.length
  tok : ∀ t ∈ E.ws, TokOk t
  big : E.ws.length ≤ 4000
def Env.cells (E : Env) (next fail wh : Nat) (L : Bool) : Array Value := #[.slice E.a E.S.A.length E.ca, .slice E.f E.S.F.length E.cf, .slice E.c E.S.C.length E.cc, .slice E.WA E.ws.length E.wc, .slice E.AA E.ps.length E.ac, .int .i64 (E.len : Int), .int .i64 (next : Int), .int .i64 (fail : Int), .int .i64 (wh : Int), .bool L]
abbrev Env.ptr (E : Env) : Value := .pointer (some ⟨E.b, 0, none⟩)
/-- The reader's state. -/
structure St (E : Env) (w : World) (next fail wh : Nat) (L : Bool) : Prop where
  kp : Keep NoF E.w0 w
  bk : Bk w E.b 62 (E.cells next fail wh L)
/-- The place of an error: so many tokens are left from it on. -/
def Env.pos (E : Env) (m : Nat) : Nat := if m = 0 then E.len else E.ps.getD (E.ws.length - m) 0
/-- No error so far: the tokens that are left. -/
structure Live (E : Env) (w : World) (ts : List ByteArray) (L : Bool) : Prop where
  suf : ts <:+ E.ws
  st : St E w (E.ws.length - ts.length) 0 0 L
/-- An error, and so many tokens from it on. -/
structure Dead (E : Env) (w : World) (m x : Nat) (L : Bool) : Prop where
  pos : 0 < x
  st : St E w E.ws.length x (E.pos m) L
abbrev Env.K (E : Env) : World → World → Prop := Keep (fun k => k = E.b)
section
variable {E : Env} {w w' : World} {next fail wh : Nat} {L : Bool} {ts : List ByteArray} {m x : Nat}
theorem St.keep (h : St E w next fail wh L) (hk : Keep NoF w w') : St E w' next fail wh L := ⟨h.kp.trans hk fun _ _ h => h, h.bk.keep hk fun h => h⟩
theorem Live.keep (h : Live E w ts L) (hk : Keep NoF w w') : Live E w' ts L := ⟨h.suf, h.st.keep hk⟩
theorem Dead.keep (h : Dead E w m x L) (hk : Keep NoF w w') : Dead E w' m x L := ⟨h.pos, h.st.keep hk⟩
theorem St.drewN (h : St E w next fail wh L) (n : Nat) : St E (w.drewN n) next fail wh L := h.keep ((Keep.refl _ _).drewN n)
theorem K0 (hk : Keep NoF w w') : E.K w w' := hk.mono fun _ _ h => h.elim
theorem St.c0 (h : St E w next fail wh L) : w.cell? ⟨E.b, 0, none⟩ = some (.slice E.a E.S.A.length E.ca) ∧ w.cell? ⟨E.b, 1, none⟩ = some (.slice E.f E.S.F.length E.cf) ∧ w.cell? ⟨E.b, 2, none⟩ = some (.slice E.c E.S.C.length E.cc) := ⟨h.bk.cell 0, h.bk.cell 1, h.bk.cell 2⟩
theorem St.c3 (h : St E w next fail wh L) : w.cell? ⟨E.b, 3, none⟩ = some (.slice E.WA E.ws.length E.wc) := h.bk.cell 3
theorem St.c4 (h : St E w next fail wh L) : w.cell? ⟨E.b, 4, none⟩ = some (.slice E.AA E.ps.length E.ac) := h.bk.cell 4
theorem St.c5 (h : St E w next fail wh L) : w.cell? ⟨E.b, 5, none⟩ = some (.int .i64 (E.len : Int)) := h.bk.cell 5
theorem St.c6 (h : St E w next fail wh L) : w.cell? ⟨E.b, 6, none⟩ = some (.int .i64 (next : Int)) := h.bk.cell 6
theorem St.c7 (h : St E w next fail wh L) : w.cell? ⟨E.b, 7, none⟩ = some (.int .i64 (fail : Int)) := h.bk.cell 7
theorem St.c8 (h : St E w next fail wh L) : w.cell? ⟨E.b, 8, none⟩ = some (.int .i64 (wh : Int)) := h.bk.cell 8
theorem St.c9 (h : St E w next fail wh L) : w.cell? ⟨E.b, 9, none⟩ = some (.bool L) := h.bk.cell 9
theorem St.fr (h : St E w next fail wh L) (i : Nat) : w.frozen? ⟨E.b, i, none⟩ = false := h.bk.frozen i
theorem St.setNext (h : St E w next fail wh L) (hE : E.Ok) (v : Nat) : St E (w.setCell ⟨E.b, 6, none⟩ (.int .i64 (v : Int))) v fail wh L := ⟨h.kp.setCell (.inr hE.hb) _, h.bk.put 6 _⟩
theorem St.setFail (h : St E w next fail wh L) (hE : E.Ok) (v : Nat) : St E (w.setCell ⟨E.b, 7, none⟩ (.int .i64 (v : Int))) next v wh L := ⟨h.kp.setCell (.inr hE.hb) _, h.bk.put 7 _⟩
theorem St.setWhere (h : St E w next fail wh L) (hE : E.Ok) (v : Nat) : St E (w.setCell ⟨E.b, 8, none⟩ (.int .i64 (v : Int))) next fail v L := ⟨h.kp.setCell (.inr hE.hb) _, h.bk.put 8 _⟩
theorem St.setLong (h : St E w next fail wh L) (hE : E.Ok) (v : Bool) : St E (w.setCell ⟨E.b, 9, none⟩ (.bool v)) next fail wh v := ⟨h.kp.setCell (.inr hE.hb) _, h.bk.put 9 _⟩
theorem K_set (h : E.K w w') (i : Nat) (u : Value) : E.K w (w'.setCell ⟨E.b, i, none⟩ u) := h.setCell (.inl rfl) u
theorem K_trans {w1 : World} (h : E.K w w1) (k : E.K w1 w') : E.K w w' := h.trans k fun _ _ h => h
theorem suf_at {l ts : List ByteArray} {t : ByteArray} {r : List ByteArray} (h : ts <:+ l) (e : ts = t :: r) : l[l.length - ts.length]? = some t ∧ ts.length ≤ l.length := by
  obtain ⟨u, rfl⟩ := h
  subst e
  simp
/-- The present word. -/
theorem Live.word (hE : E.Ok) {t : ByteArray} {r : List ByteArray} (h : Live E w (t :: r) L) : ∃ bl off, E.WA = some ⟨bl, off, none⟩ ∧ E.ws.length ≤ E.wc ∧ w.cell? ⟨bl, off + (E.ws.length - (t :: r).length), none⟩ = some (.string t) ∧ E.ws.length - (t :: r).length < E.ws.length := by
  obtain ⟨h1, h2⟩ := suf_at h.suf rfl
  have hlt : E.ws.length - (t :: r).length < E.ws.length := by simp at h2 ⊢; omega
  obtain ⟨_, hc, bl, off, e, hcell⟩ := (hE.words.kept h.st.kp fun _ _ h => h).at_ (by omega)
  exact ⟨bl, off, e, hc, hcell _ _ (by rw [List.getElem?_map, h1]; rfl), hlt⟩
end
section
set_option maxRecDepth 100000
set_option maxHeartbeats 1000000
variable {E : Env} {w w' : World} {next fail wh : Nat} {L : Bool} {ts : List ByteArray} {m x : Nat}
theorem peek_end (hE : E.Ok) (h : St E w E.ws.length fail wh L) : Calls Tryz.prog 98 #[E.ptr] w fun e w' => e = .returned (.string ⟨#[]⟩) ∧ Keep NoF w w' := by
  have c3 := h.c3
  have c6 := h.c6
  have hb := hE.big
  go_enter Tryz.func98, Tryz.ntmps98
  go_wp2
  go_quiet (fail)
  go_wp2
  refine bodyPost_ret (v := .string ⟨#[]⟩) (by simp [results, Tryz.results98, go_sem]) rfl ?_
  exact ⟨rfl, (Keep.refl _ _).drewN _⟩
theorem peek_tok (hE : E.Ok) {t : ByteArray} {r : List ByteArray} (h : Live E w (t :: r) L) : Calls Tryz.prog 98 #[E.ptr] w fun e w' => e = .returned (.string t) ∧ Keep NoF w w' := by
  obtain ⟨bl, off, hA, hc, hcell, hlt⟩ := h.word hE
  have c3 := h.st.c3
  have c6 := h.st.c6
  have hb := hE.big
  rw [hA] at c3
  clear hA
  generalize E.ws.length - (t :: r).length = k at *
  generalize E.ws.length = N at *
  have hk : (k : Int) < N := by omega
  go_enter Tryz.func98, Tryz.ntmps98
  go_wp2
  go_quiet (fail)
  go_wp2
  go_quiet (fail)
  go_wp2
  refine bodyPost_ret (v := .string t) (by simp [results, Tryz.results98, go_sem]) rfl ?_
  exact ⟨rfl, ((Keep.refl _ _).drewN _).drewN _⟩
theorem stop_live (hE : E.Ok) (h : Live E w ts L) (hx : 0 < x) : Calls Tryz.prog 36 #[E.ptr, .int .i64 (x : Int)] w fun e w' => e = .returned (.tuple #[]) ∧ Dead E w' ts.length x L ∧ E.K w w' := by
  have hs := h.st
  have hle : ts.length ≤ E.ws.length := h.suf.length_le
  have c3 := hs.c3
  have c4 := hs.c4
  have c5 := hs.c5
  have c6 := hs.c6
  have c7 : w.cell? ⟨E.b, 7, none⟩ = some (.int .i64 0) := hs.c7
  have c8 : w.cell? ⟨E.b, 8, none⟩ = some (.int .i64 0) := hs.c8
  have f6 := hs.fr 6
  have f7 := hs.fr 7
  have f8 := hs.fr 8
  have hb := hE.big
  have hpl := hE.len
  by_cases h0 : ts.length = 0
  · rw [h0] at c6 hs ⊢
    rw [Nat.sub_zero] at c6 hs
    have HD : Hid (∀ n, Dead E ((((w.setCell ⟨E.b, 7, none⟩ (.int .i64 (x : Int))).setCell ⟨E.b, 8, none⟩ (.int .i64 (E.len : Int))).drewN n).setCell ⟨E.b, 6, none⟩ (.int .i64 (E.ws.length : Int))) 0 x L) := Lib.hid fun n => ⟨hx, (((hs.setFail hE x).setWhere hE E.len).drewN n).setNext hE E.ws.length⟩
    clear hs hle h
    rw [hpl] at c4
    clear hpl
    go_enter Tryz.func36, Tryz.ntmps36
    go_wp2
    go_quiet (fail)
    go_wp2
    refine bodyPost_end (v := .tuple #[]) (by simp [results, Tryz.results36, go_sem]) rfl ?_
    exact ⟨rfl, HD.out _, K_set (((K_set (K_set (Keep.refl _ _) 7 _) 8 _)).drewN _) 6 _⟩
  · have hk : E.ws.length - ts.length < E.ps.length := by omega
    have hk' : ((E.ws.length - ts.length : Nat) : Int) < E.ps.length := by omega
    have hk0 : (0 : Int) ≤ ((E.ws.length - ts.length : Nat) : Int) := by omega
    obtain ⟨_, hc, bl, off, hA, hcell⟩ := (hE.at_.kept hs.kp fun _ _ h => h).at_ (by omega)
    have hv : E.ps[E.ws.length - ts.length]? = some (E.pos ts.length) := by
      unfold Env.pos
      rw [if_neg h0, List.getD_eq_getElem?_getD, List.getElem?_eq_getElem hk]
      rfl
    have ca := hcell (E.ws.length - ts.length) (.int .i64 (E.pos ts.length : Int)) (by unfold atV; rw [List.getElem?_map, hv]; rfl)
    have hbl : bl ≠ E.b := by
      rintro rfl
      have h1 := (hE.at_.at_ (by omega)).2.2
      obtain ⟨bl2, off2, hA2, hcell2⟩ := h1
      rw [hA] at hA2
      obtain ⟨rfl, rfl⟩ : E.b = bl2 ∧ off = off2 := by simpa using hA2
      have := World.block_lt_of_cell? E.w0 _ (hcell2 (E.ws.length - ts.length) (.int .i64 (E.pos ts.length : Int)) (by unfold atV; rw [List.getElem?_map, hv]; rfl))
      have := hE.hb
      simp at *
      omega
    have hbl2 : E.b ≠ bl := fun e => hbl e.symm
    rw [hA] at c4
    generalize hP : E.pos ts.length = p at *
    have HD : Hid (∀ n, Dead E (((((w.setCell ⟨E.b, 7, none⟩ (.int .i64 (x : Int))).setCell ⟨E.b, 8, none⟩ (.int .i64 (E.len : Int))).drewN n).setCell ⟨E.b, 8, none⟩ (.int .i64 (p : Int))).setCell ⟨E.b, 6, none⟩ (.int .i64 (E.ws.length : Int))) ts.length x L) := Lib.hid fun n => ⟨hx, hP.symm ▸ (((((hs.setFail hE x).setWhere hE E.len).drewN n).setWhere hE p).setNext hE E.ws.length)⟩
    clear hs hle h hP hv hpl h0
    generalize E.ws.length - ts.length = k at *
    generalize E.ps.length = N at *
    go_enter Tryz.func36, Tryz.ntmps36
    go_wp2
    go_quiet (fail)
    go_wp2
    go_region
    go_wp2
    refine bodyPost_end (v := .tuple #[]) (by simp [results, Tryz.results36, go_sem]) rfl ?_
    exact ⟨rfl, HD.out _, K_set (K_set (((K_set (K_set (Keep.refl _ _) 7 _) 8 _)).drewN _) 8 _) 6 _⟩
theorem stop_dead (h : Dead E w m x L) (y : Int) : Calls Tryz.prog 36 #[E.ptr, .int .i64 y] w fun e w' => e = .returned (.tuple #[]) ∧ w' = w := by
  have c7 := h.st.c7
  have hp : ((x : Int) != 0) = true := by have := h.pos; simp; omega
  go_enter Tryz.func36, Tryz.ntmps36
  go_wp2
  refine bodyPost_ret (v := .tuple #[]) (by simp [results, Tryz.results36, go_sem]) rfl ?_
  exact ⟨rfl, rfl⟩
theorem take_yes_any (hE : E.Ok) (t : ByteArray) (ht : t.data.toList ≠ []) {r : List ByteArray} (h : Live E w (t :: r) L) : Calls Tryz.prog 67 #[E.ptr, .string t] w fun e w' => e = .returned (.bool true) ∧ Live E w' r L ∧ E.K w w' := by
  have c7 : w.cell? ⟨E.b, 7, none⟩ = some (.int .i64 0) := h.st.c7
  have HP := Lib.hid (peek_tok hE h)
  have hle := h.suf.length_le
  have hb := hE.big
  have hsuf : r <:+ E.ws := (List.suffix_cons t r).trans h.suf
  have HN : Hid (∀ w', Keep NoF w w' → w'.cell? ⟨E.b, 6, none⟩ = some (.int .i64 ((E.ws.length - (t :: r).length : Nat) : Int)) ∧ w'.frozen? ⟨E.b, 6, none⟩ = false ∧ Live E (w'.setCell ⟨E.b, 6, none⟩ (.int .i64 (((E.ws.length - (t :: r).length : Nat) : Int) + 1))) r L) := Lib.hid fun w' hk => by
    have hs := h.st.keep hk
    refine ⟨hs.c6, hs.fr 6, hsuf, ?_⟩
    have := hs.setNext hE (E.ws.length - r.length)
    rwa [show ((E.ws.length - r.length : Nat) : Int) = ((E.ws.length - (t :: r).length : Nat) : Int) + 1 by simp at hle ⊢; omega] at this
  have hk : E.ws.length - (t :: r).length ≤ 4000 := by omega
  have he : t.toList.isEmpty = false := by rw [ByteArray.toList_eq]; simpa using ht
  clear h hsuf hle hb hE ht
  generalize E.ws.length - (t :: r).length = k at *
  go_enter Tryz.func67, Tryz.ntmps67
  go_wp2_with (go_at_call 98; (with_reducible refine HP.out.mono ?_); rintro e w1 ⟨rfl, hk1⟩; obtain ⟨c6, f6, hl⟩ := HN.out w1 hk1; have HL := Lib.hid hl; clear hl)
  refine bodyPost_ret (v := .bool true) (by simp [results, Tryz.results67, go_sem]) rfl ?_
  exact ⟨rfl, HL.out, K_set (K0 hk1) 6 _⟩
theorem take_no_any (hE : E.Ok) (t : ByteArray) (h : Live E w ts L) (hno : ∀ r, ts ≠ t :: r) : Calls Tryz.prog 67 #[E.ptr, .string t] w fun e w' => e = .returned (.bool false) ∧ Keep NoF w w' := by
  have c7 : w.cell? ⟨E.b, 7, none⟩ = some (.int .i64 0) := h.st.c7
  cases ts with
  | nil =>
    have HP := Lib.hid (peek_end hE (fail := 0) (wh := 0) (L := L) (w := w) (by simpa using h.st))
    clear h hE hno
    go_enter Tryz.func67, Tryz.ntmps67
    go_wp2_with (go_at_call 98; (with_reducible refine HP.out.mono ?_); rintro e w1 ⟨rfl, hk1⟩)
    all_goals
      refine bodyPost_ret (v := .bool false) (by simp [results, Tryz.results67, go_sem]) rfl ?_
      exact ⟨rfl, hk1⟩
  | cons y r =>
    have HP := Lib.hid (peek_tok hE h)
    have hne : ¬ y.toList = t.toList := fun e => hno r (by rw [ByteArray.toList_eq, ByteArray.toList_eq] at e; rw [ba_ext e])
    clear h hE hno
    go_enter Tryz.func67, Tryz.ntmps67
    go_wp2_with (go_at_call 98; (with_reducible refine HP.out.mono ?_); rintro e w1 ⟨rfl, hk1⟩)
    all_goals
      refine bodyPost_ret (v := .bool false) (by simp [results, Tryz.results67, go_sem]) rfl ?_
      exact ⟨rfl, hk1⟩
theorem take_dead (h : Dead E w m x L) (t : ByteArray) : Calls Tryz.prog 67 #[E.ptr, .string t] w fun e w' => e = .returned (.bool false) ∧ w' = w := by
  have c7 := h.st.c7
  have hp : ((x : Int) != 0) = true := by have := h.pos; simp; omega
  go_enter Tryz.func67, Tryz.ntmps67
  go_wp2
  refine bodyPost_ret (v := .bool false) (by simp [results, Tryz.results67, go_sem]) rfl ?_
  exact ⟨rfl, rfl⟩
/-- What is wanted is there. -/
theorem want_yes (hE : E.Ok) (t : ByteArray) (ht : t.data.toList ≠ []) {r : List ByteArray} (h : Live E w (t :: r) L) : Calls Tryz.prog 131 #[E.ptr, .string t] w fun e w' => e = .returned (.tuple #[]) ∧ Live E w' r L ∧ E.K w w' := by
  have HT := Lib.hid (take_yes_any hE t ht h)
  clear h hE ht
  go_enter Tryz.func131, Tryz.ntmps131
  go_wp2_with (go_at_call 67; (with_reducible refine HT.out.mono ?_); rintro e w1 ⟨rfl, hl, hk⟩)
  refine bodyPost_end (v := .tuple #[]) (by simp [results, Tryz.results131, go_sem]) rfl ?_
  exact ⟨rfl, hl, hk⟩
theorem want_no (hE : E.Ok) (t : ByteArray) (h : Live E w ts L) (hno : ∀ r, ts ≠ t :: r) : Calls Tryz.prog 131 #[E.ptr, .string t] w fun e w' => e = .returned (.tuple #[]) ∧ Dead E w' ts.length 4 L ∧ E.K w w' := by
  have HT := Lib.hid (take_no_any hE t h hno)
  have HS : Hid (∀ w1, Keep NoF w w1 → Calls Tryz.prog 36 #[E.ptr, .int .i64 4] w1 fun e w' => e = .returned (.tuple #[]) ∧ Dead E w' ts.length 4 L ∧ E.K w1 w') := Lib.hid fun w1 hk => stop_live hE (h.keep hk) (x := 4) (by omega)
  clear h hE hno
  go_enter Tryz.func131, Tryz.ntmps131
  go_wp2_with (first
    | (go_at_call 67; (with_reducible refine HT.out.mono ?_); rintro e w1 ⟨rfl, hk⟩)
    | (go_at_call 36; (with_reducible refine (HS.out _ hk).mono ?_); rintro e w2 ⟨rfl, hd, hk2⟩))
  refine bodyPost_end (v := .tuple #[]) (by simp [results, Tryz.results131, go_sem]) rfl ?_
  exact ⟨rfl, hd, K_trans (K0 hk) hk2⟩
theorem want_dead (h : Dead E w m x L) (t : ByteArray) : Calls Tryz.prog 131 #[E.ptr, .string t] w fun e w' => e = .returned (.tuple #[]) ∧ w' = w := by
  have HT := Lib.hid (take_dead h t)
  have HS := Lib.hid (stop_dead h 4)
  clear h
  go_enter Tryz.func131, Tryz.ntmps131
  go_wp2_with (first
    | (go_at_call 67; (with_reducible refine HT.out.mono ?_); rintro e w1 ⟨rfl, hw'⟩; obtain rfl := hw'.symm)
    | (go_at_call 36; (with_reducible refine HS.out.mono ?_); rintro e w2 ⟨rfl, hw'⟩; obtain rfl := hw'.symm))
  refine bodyPost_end (v := .tuple #[]) (by simp [results, Tryz.results131, go_sem]) rfl ?_
  exact ⟨rfl, rfl⟩
end
end Go.Proofs.YtbidfbojealmlaaGreatDoor
