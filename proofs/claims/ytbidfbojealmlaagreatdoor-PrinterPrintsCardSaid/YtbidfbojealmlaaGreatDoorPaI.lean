/- The reader: what name does. Conditions: the reader lies as it is built; what finds a name. -/
import Derived.Test.YtbidfbojealmlaaGreatDoorPaH
set_option linter.unusedVariables false
set_option linter.unusedSimpArgs false
namespace Go.Proofs.YtbidfbojealmlaaGreatDoor
open Go.RowKit

abbrev Env.sgv (E : Env) : Value := .agg #[.slice E.a E.S.A.length E.ca, .slice E.f E.S.F.length E.cf, .slice E.c E.S.C.length E.cc]
/-- A function that finds a name. -/
def FindOk (E : Env) (F : Nat) (find : ByteArray → Int) : Prop :=
  (∀ (args : Array Value) w', (callFunc F args).run Tryz.prog w' = .ok (.enter F args) w') ∧ ∀ x w', Keep NoF E.w0 w' → Calls Tryz.prog F #[E.sgv, .string x] w' fun e w'' => e = .returned (.int .i64 (find x)) ∧ Keep NoF w' w''
theorem find_agent {E : Env} (hE : E.Ok) : FindOk E 146 (findS E.S E.S.A) := ⟨fun args w' => by kernel_rfl, fun x w' hk => Agent_any E.S E.a E.f E.c E.ca E.cf E.cc x w' (hE.sig.keep hk) (hE.tab.keep0 hk)⟩
theorem find_fact {E : Env} (hE : E.Ok) : FindOk E 135 (findS E.S E.S.F) := ⟨fun args w' => by kernel_rfl, fun x w' hk => Fact_any E.S E.a E.f E.c E.ca E.cf E.cc x w' (hE.sig.keep hk) (hE.tab.keep0 hk)⟩
theorem find_action {E : Env} (hE : E.Ok) : FindOk E 152 (findS E.S E.S.C) := ⟨fun args w' => by kernel_rfl, fun x w' hk => Action_any E.S E.a E.f E.c E.ca E.cf E.cc x w' (hE.sig.keep hk) (hE.tab.keep0 hk)⟩
/-- What finds the names of a signature. -/
def sigP (S : Sg) : Ps.Sig := ⟨findS S S.A, findS S S.F, findS S S.C⟩
theorem cat_data (t : ByteArray) : ((⟨#[32]⟩ : ByteArray) ++ t ++ ⟨#[32]⟩).data.toList = 32 :: t.data.toList ++ [32] := by
  simp
theorem contains_sp {E : Env} (hE : E.Ok) {t : ByteArray} (ht : TokOk t) {w : World} (hk : Keep NoF E.w0 w) : Calls Tryz.prog 154 #[.string ⟨#[32, 116, 114, 117, 101, 32, 102, 97, 108, 115, 101, 32, 110, 101, 120, 116, 32, 112, 114, 101, 118, 32, 117, 110, 116, 105, 108, 32, 115, 105, 110, 99, 101, 32, 75, 32, 77, 32, 83, 32, 66, 32, 69, 32, 68, 32, 67, 32]⟩, .string ((⟨#[32]⟩ : ByteArray) ++ t ++ ⟨#[32]⟩)] w fun e w' => e = .returned (.bool (decide (t ∈ Ps.specials))) ∧ w' = w := by
  obtain ⟨-, m, hm⟩ := hE.tab.keep0 hk
  have := Tryz.strings_Contains ⟨#[32, 116, 114, 117, 101, 32, 102, 97, 108, 115, 101, 32, 110, 101, 120, 116, 32, 112, 114, 101, 118, 32, 117, 110, 116, 105, 108, 32, 115, 105, 110, 99, 101, 32, 75, 32, 77, 32, 83, 32, 66, 32, 69, 32, 68, 32, 67, 32]⟩ ((⟨#[32]⟩ : ByteArray) ++ t ++ ⟨#[32]⟩) m w (by decide) hm
  rw [cat_data] at this
  rw [show (⟨#[32, 116, 114, 117, 101, 32, 102, 97, 108, 115, 101, 32, 110, 101, 120, 116, 32, 112, 114, 101, 118, 32, 117, 110, 116, 105, 108, 32, 115, 105, 110, 99, 101, 32, 75, 32, 77, 32, 83, 32, 66, 32, 69, 32, 68, 32, 67, 32]⟩ : ByteArray).data.toList = spL from rfl, special_iff t ht.2.1 ht.2.2] at this
  exact this
section
set_option maxRecDepth 100000
set_option maxHeartbeats 1000000
variable {E : Env} {w w' : World} {next fail wh : Nat} {L : Bool} {ts : List ByteArray} {m x : Nat} {F : Nat} {find : ByteArray → Int}
theorem peek_dead (hE : E.Ok) (h : Dead E w m x L) : Calls Tryz.prog 98 #[E.ptr] w fun e w' => e = .returned (.string ⟨#[]⟩) ∧ Keep NoF w w' := peek_end hE h.st
theorem name_dead (hE : E.Ok) (h : Dead E w m x L) (v : Value) : Calls Tryz.prog 134 #[E.ptr, v] w fun e w' => e = .returned (.int .i64 0) ∧ Keep NoF w w' := by
  have HP := Lib.hid (peek_dead hE h)
  have HS : Hid (∀ w1, Keep NoF w w1 → Calls Tryz.prog 36 #[E.ptr, .int .i64 4] w1 fun e w' => e = .returned (.tuple #[]) ∧ w' = w1) := Lib.hid fun w1 hk => stop_dead (h.keep hk) 4
  clear h hE
  go_enter Tryz.func134, Tryz.ntmps134
  go_wp2_with (first
    | (go_at_call 98; (with_reducible refine HP.out.mono ?_); rintro e w1 ⟨rfl, hk⟩)
    | (go_at_call 36; (with_reducible refine (HS.out _ hk).mono ?_); rintro e w2 ⟨rfl, hw'⟩; obtain rfl := hw'.symm))
  refine bodyPost_ret (v := .int .i64 0) (by simp [results, Tryz.results134, go_sem]) rfl ?_
  exact ⟨rfl, hk⟩
theorem name_end (hE : E.Ok) (h : Live E w [] L) (v : Value) : Calls Tryz.prog 134 #[E.ptr, v] w fun e w' => e = .returned (.int .i64 0) ∧ Dead E w' 0 4 L ∧ E.K w w' := by
  have HP := Lib.hid (peek_end hE (fail := 0) (wh := 0) (L := L) (w := w) (by simpa using h.st))
  have HS : Hid (∀ w1, Keep NoF w w1 → Calls Tryz.prog 36 #[E.ptr, .int .i64 4] w1 fun e w' => e = .returned (.tuple #[]) ∧ Dead E w' 0 4 L ∧ E.K w1 w') := Lib.hid fun w1 hk => stop_live hE (h.keep hk) (x := 4) (by omega)
  clear h hE
  go_enter Tryz.func134, Tryz.ntmps134
  go_wp2_with (first
    | (go_at_call 98; (with_reducible refine HP.out.mono ?_); rintro e w1 ⟨rfl, hk⟩)
    | (go_at_call 36; (with_reducible refine (HS.out _ hk).mono ?_); rintro e w2 ⟨rfl, hd, hk2⟩))
  refine bodyPost_ret (v := .int .i64 0) (by simp [results, Tryz.results134, go_sem]) rfl ?_
  exact ⟨rfl, hd, K_trans (K0 hk) hk2⟩
theorem name_err (hE : E.Ok) (hF : FindOk E F find) {t : ByteArray} {r : List ByteArray} (h : Live E w (t :: r) L) (he : Ps.nameE find t = .error x) : Calls Tryz.prog 134 #[E.ptr, .func (.func F) #[] #[]] w fun e w' => e = .returned (.int .i64 0) ∧ Dead E w' (t :: r).length x L ∧ E.K w w' := by
  have hm : t ∈ E.ws := h.suf.subset (by simp)
  have ht := hE.tok t hm
  have HP := Lib.hid (peek_tok hE h)
  have HS4 : Hid (∀ w1, Keep NoF w w1 → Calls Tryz.prog 36 #[E.ptr, .int .i64 4] w1 fun e w' => e = .returned (.tuple #[]) ∧ Dead E w' (t :: r).length 4 L ∧ E.K w1 w') := Lib.hid fun w1 hk => stop_live hE (h.keep hk) (x := 4) (by omega)
  have HS5 : Hid (∀ w1, Keep NoF w w1 → Calls Tryz.prog 36 #[E.ptr, .int .i64 5] w1 fun e w' => e = .returned (.tuple #[]) ∧ Dead E w' (t :: r).length 5 L ∧ E.K w1 w') := Lib.hid fun w1 hk => stop_live hE (h.keep hk) (x := 5) (by omega)
  have HC : Hid (∀ w1, Keep NoF w w1 → _) := Lib.hid fun w1 (hk : Keep NoF w w1) => contains_sp hE ht (h.st.kp.trans hk fun _ _ h => h)
  have HFF : Hid (∀ w1, Keep NoF w w1 → Calls Tryz.prog F #[E.sgv, .string t] w1 fun e w'' => e = .returned (.int .i64 (find t)) ∧ Keep NoF w1 w'') := Lib.hid fun w1 hk => hF.2 t w1 (h.st.kp.trans hk fun _ _ h => h)
  have HX := Lib.hid fun w1 (hk : Keep NoF w w1) => (h.st.keep hk).c0
  have hcf := hF.1
  have hsz : 0 < t.size := by have := ht.2.1; rw [← data_len]; exact List.length_pos_iff.2 this
  have hne : t.toList.isEmpty = false := by rw [ByteArray.toList_eq]; simpa using ht.2.1
  have hhd : Ps.hd t = t[0].toNat := by unfold Ps.hd; rw [headD_at t hsz]
  unfold Ps.nameE at he
  rw [hhd] at he
  have h40 := ht.1
  clear ht hm h hE hF hhd
  generalize (t :: r).length = len at *
  cases hl : letN t[0].toNat with
  | false =>
    rw [if_pos (.inl hl)] at he
    cases he
    have HL := Lib.hid fun W => fletter_any t[0].toNat W
    rw [hl] at HL
    clear hl
    go_enter Tryz.func134, Tryz.ntmps134
    go_wp2_with (first
      | (go_at_call 98; (with_reducible refine HP.out.mono ?_); rintro e w1 ⟨rfl, hk⟩)
      | (go_at_call 73; (with_reducible refine (HL.out _).mono ?_); rintro e w' ⟨rfl, hw'⟩; obtain rfl := hw'.symm)
      | (go_at_call 36; (with_reducible refine (HS4.out _ hk).mono ?_); rintro e w2 ⟨rfl, hd, hk2⟩))
    refine bodyPost_ret (v := .int .i64 0) (by simp [results, Tryz.results134, go_sem]) rfl ?_
    exact ⟨rfl, hd, K_trans (K0 hk) hk2⟩
  | true =>
    have HL := Lib.hid fun W => fletter_any t[0].toNat W
    rw [hl] at HL
    by_cases hsp : t ∈ Ps.specials
    · rw [if_pos (.inr hsp)] at he
      cases he
      have HC2 : Hid (∀ w1, Keep NoF w w1 → Calls Tryz.prog 154 #[.string ⟨#[32, 116, 114, 117, 101, 32, 102, 97, 108, 115, 101, 32, 110, 101, 120, 116, 32, 112, 114, 101, 118, 32, 117, 110, 116, 105, 108, 32, 115, 105, 110, 99, 101, 32, 75, 32, 77, 32, 83, 32, 66, 32, 69, 32, 68, 32, 67, 32]⟩, .string ((⟨#[32]⟩ : ByteArray) ++ t ++ ⟨#[32]⟩)] w1 fun e w' => e = .returned (.bool true) ∧ w' = w1) := Lib.hid fun w1 hk => by
        have := HC.out w1 hk
        rwa [decide_eq_true hsp] at this
      clear hl hsp HC
      go_enter Tryz.func134, Tryz.ntmps134
      go_wp2_with (first
        | (go_at_call 98; (with_reducible refine HP.out.mono ?_); rintro e w1 ⟨rfl, hk⟩)
        | (go_at_call 73; (with_reducible refine (HL.out _).mono ?_); rintro e w' ⟨rfl, hw'⟩; obtain rfl := hw'.symm)
        | (go_at_call 154; (with_reducible refine (HC2.out _ hk).mono ?_); rintro e w' ⟨rfl, hw'⟩; obtain rfl := hw'.symm)
        | (go_at_call 36; (with_reducible refine (HS4.out _ hk).mono ?_); rintro e w2 ⟨rfl, hd, hk2⟩))
      refine bodyPost_ret (v := .int .i64 0) (by simp [results, Tryz.results134, go_sem]) rfl ?_
      exact ⟨rfl, hd, K_trans (K0 hk) hk2⟩
    · rw [if_neg (by simp [hl, hsp])] at he
      have HC2 : Hid (∀ w1, Keep NoF w w1 → Calls Tryz.prog 154 #[.string ⟨#[32, 116, 114, 117, 101, 32, 102, 97, 108, 115, 101, 32, 110, 101, 120, 116, 32, 112, 114, 101, 118, 32, 117, 110, 116, 105, 108, 32, 115, 105, 110, 99, 101, 32, 75, 32, 77, 32, 83, 32, 66, 32, 69, 32, 68, 32, 67, 32]⟩, .string ((⟨#[32]⟩ : ByteArray) ++ t ++ ⟨#[32]⟩)] w1 fun e w' => e = .returned (.bool false) ∧ w' = w1) := Lib.hid fun w1 hk => by
        have := HC.out w1 hk
        rwa [decide_eq_false hsp] at this
      have hlt : find t < 0 := by
        false_or_by_contra
        rename_i hn
        rw [if_neg hn] at he
        cases he
      rw [if_pos hlt] at he
      cases he
      clear hl hsp HC
      generalize find t = q at *
      go_enter Tryz.func134, Tryz.ntmps134
      go_wp2_with (first
        | (go_at_call 98; (with_reducible refine HP.out.mono ?_); rintro e w1 ⟨rfl, hk⟩; obtain ⟨c0, c1, c2⟩ := HX.out w1 hk)
        | (go_at_call 73; (with_reducible refine (HL.out _).mono ?_); rintro e w' ⟨rfl, hw'⟩; obtain rfl := hw'.symm)
        | (go_at_call 154; (with_reducible refine (HC2.out _ hk).mono ?_); rintro e w' ⟨rfl, hw'⟩; obtain rfl := hw'.symm)
        | (go_at_call 36; (with_reducible refine (HS5.out _ hk3).mono ?_); rintro e w2 ⟨rfl, hd, hk2⟩)
        | ((with_reducible refine (HFF.out _ hk).mono ?_); rintro e w3 ⟨rfl, hkf⟩; have hk3 := hk.trans hkf fun _ _ h => h))
      refine bodyPost_ret (v := .int .i64 0) (by simp [results, Tryz.results134, go_sem]) rfl ?_
      exact ⟨rfl, hd, K_trans (K0 hk3) hk2⟩
theorem name_ok (hE : E.Ok) (hF : FindOk E F find) {t : ByteArray} {r : List ByteArray} (h : Live E w (t :: r) L) {i : Nat} (he : Ps.nameE find t = .ok i) : Calls Tryz.prog 134 #[E.ptr, .func (.func F) #[] #[]] w fun e w' => e = .returned (.int .i64 (i : Int)) ∧ Live E w' r L ∧ E.K w w' := by
  have hm : t ∈ E.ws := h.suf.subset (by simp)
  have ht := hE.tok t hm
  have hb := hE.big
  have hle := h.suf.length_le
  have hsuf : r <:+ E.ws := (List.suffix_cons t r).trans h.suf
  have HP := Lib.hid (peek_tok hE h)
  have HC : Hid (∀ w1, Keep NoF w w1 → _) := Lib.hid fun w1 (hk : Keep NoF w w1) => contains_sp hE ht (h.st.kp.trans hk fun _ _ h => h)
  have HFF : Hid (∀ w1, Keep NoF w w1 → Calls Tryz.prog F #[E.sgv, .string t] w1 fun e w'' => e = .returned (.int .i64 (find t)) ∧ Keep NoF w1 w'') := Lib.hid fun w1 hk => hF.2 t w1 (h.st.kp.trans hk fun _ _ h => h)
  have HX := Lib.hid fun w1 (hk : Keep NoF w w1) => (h.st.keep hk).c0
  have HN : Hid (∀ w', Keep NoF w w' → w'.cell? ⟨E.b, 6, none⟩ = some (.int .i64 ((E.ws.length - (t :: r).length : Nat) : Int)) ∧ w'.frozen? ⟨E.b, 6, none⟩ = false ∧ Live E (w'.setCell ⟨E.b, 6, none⟩ (.int .i64 (((E.ws.length - (t :: r).length : Nat) : Int) + 1))) r L) := Lib.hid fun w' hk => by
    have hs := h.st.keep hk
    refine ⟨hs.c6, hs.fr 6, hsuf, ?_⟩
    have := hs.setNext hE (E.ws.length - r.length)
    rwa [show ((E.ws.length - r.length : Nat) : Int) = ((E.ws.length - (t :: r).length : Nat) : Int) + 1 by simp at hle ⊢; omega] at this
  have hk4 : E.ws.length - (t :: r).length ≤ 4000 := by omega
  have hcf := hF.1
  have hsz : 0 < t.size := by have := ht.2.1; rw [← data_len]; exact List.length_pos_iff.2 this
  have hne : t.toList.isEmpty = false := by rw [ByteArray.toList_eq]; simpa using ht.2.1
  have hhd : Ps.hd t = t[0].toNat := by unfold Ps.hd; rw [headD_at t hsz]
  unfold Ps.nameE at he
  rw [hhd] at he
  have h40 := ht.1
  clear ht hm h hE hF hhd hsuf hle hb
  generalize E.ws.length - (t :: r).length = k at *
  have hn : ¬ (letN t[0].toNat = false ∨ t ∈ Ps.specials) := fun hn => by rw [if_pos hn] at he; cases he
  rw [if_neg hn] at he
  have hge : ¬ find t < 0 := fun hn => by rw [if_pos hn] at he; cases he
  rw [if_neg hge] at he
  have hi : find t = (i : Int) := by
    have : (find t).toNat = i := by cases he; rfl
    omega
  clear he
  rw [hi] at HFF hge
  clear hi
  have HL := Lib.hid fun W => fletter_any t[0].toNat W
  rw [show letN t[0].toNat = true by cases hq : letN t[0].toNat; exact absurd (.inl hq) hn; rfl] at HL
  have HC2 : Hid (∀ w1, Keep NoF w w1 → Calls Tryz.prog 154 #[.string ⟨#[32, 116, 114, 117, 101, 32, 102, 97, 108, 115, 101, 32, 110, 101, 120, 116, 32, 112, 114, 101, 118, 32, 117, 110, 116, 105, 108, 32, 115, 105, 110, 99, 101, 32, 75, 32, 77, 32, 83, 32, 66, 32, 69, 32, 68, 32, 67, 32]⟩, .string ((⟨#[32]⟩ : ByteArray) ++ t ++ ⟨#[32]⟩)] w1 fun e w' => e = .returned (.bool false) ∧ w' = w1) := Lib.hid fun w1 hk => by
    have := HC.out w1 hk
    rwa [decide_eq_false (fun h => hn (.inr h))] at this
  clear hn HC
  go_enter Tryz.func134, Tryz.ntmps134
  go_wp2_with (first
    | (go_at_call 98; (with_reducible refine HP.out.mono ?_); rintro e w1 ⟨rfl, hk⟩; obtain ⟨c0, c1, c2⟩ := HX.out w1 hk)
    | (go_at_call 73; (with_reducible refine (HL.out _).mono ?_); rintro e w' ⟨rfl, hw'⟩; obtain rfl := hw'.symm)
    | (go_at_call 154; (with_reducible refine (HC2.out _ hk).mono ?_); rintro e w' ⟨rfl, hw'⟩; obtain rfl := hw'.symm)
    | ((with_reducible refine (HFF.out _ hk).mono ?_); rintro e w3 ⟨rfl, hkf⟩; have hk3 := hk.trans hkf fun _ _ h => h; obtain ⟨c6, f6, hl⟩ := HN.out w3 hk3; have HLV := Lib.hid hl; clear hl))
  refine bodyPost_ret (v := .int .i64 (i : Int)) (by simp [results, Tryz.results134, go_sem]) rfl ?_
  exact ⟨rfl, HLV.out, K_set (K0 hk3) 6 _⟩
end
end Go.Proofs.YtbidfbojealmlaaGreatDoor
