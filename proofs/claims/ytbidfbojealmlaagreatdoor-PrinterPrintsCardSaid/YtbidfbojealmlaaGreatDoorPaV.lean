/- What the program's Parse does. Conditions: the variables lie as they are read. -/
import Derived.Test.YtbidfbojealmlaaGreatDoorPaU
import Derived.Test.YtbidfbojealmlaaGreatDoorPaS
set_option linter.unusedVariables false
set_option linter.unusedSimpArgs false
namespace Go.Proofs.YtbidfbojealmlaaGreatDoor
open Go.RowKit
open Fm (Nd cl)

def ParPost (S : Sg) (t : ByteArray) (w : World) (e : Ending) (w' : World) : Prop :=
  ∃ (A : Option Addr) (c : Nat), e = .returned (.tuple #[.slice A (parseF S t).1.length c, .int .i64 (parseF S t).2.1, .int .i64 (parseF S t).2.2]) ∧ Rd w' (.slice A (parseF S t).1.length c) 6 (parseF S t).1.length (fmC (parseF S t).1) ∧ Keep NoF w w'
theorem ParPost.nil {S : Sg} {t : ByteArray} {w w' : World} {p x : Int} (h : parseF S t = ([], p, x)) (hk : Keep NoF w w') : ParPost S t w (.returned (.tuple #[.slice none 0 0, .int .i64 p, .int .i64 x])) w' := by
  refine ⟨none, 0, ?_, ?_, hk⟩
  · rw [h]; rfl
  · rw [h]; exact Rd.nil _ _
theorem parseF_read {S : Sg} {t : ByteArray} {cs : Tk} (h0 : checkS S = 0) (ht : tokF t = .ok cs) {l : List Nd} {m x : Nat} (hr : readF (sigP S) (tW cs) = (l, m, x)) : parseF S t = if x = 0 then (l, 0, 0) else ([], (placeF t cs m : Int), (x : Int)) := by
  unfold parseF
  rw [if_neg (by rw [h0]; simp), ht]
  simp only [hr]
theorem read_ok {S : Ps.Sig} {ws : List ByteArray} {tr : Fm.Form} (h : Ps.formP S (ws.length + 1) ws = .ok tr []) : readF S ws = if dB tr = true then ([], ws.length, 8) else (cl tr, 0, 0) := by
  unfold readF Ps.whole dB
  rw [h]
  simp only [decide_eq_true_eq]
theorem read_more {S : Ps.Sig} {ws : List ByteArray} {tr : Fm.Form} {y : ByteArray} {r : List ByteArray} (h : Ps.formP S (ws.length + 1) ws = .ok tr (y :: r)) : readF S ws = ([], (y :: r).length, 4) := by
  unfold readF Ps.whole
  rw [h]
theorem read_bad {S : Ps.Sig} {ws : List ByteArray} {x : Nat} {r : List ByteArray} (h : Ps.formP S (ws.length + 1) ws = .bad r x) : readF S ws = ([], r.length, x) := by
  unfold readF Ps.whole
  rw [h]
section
set_option maxRecDepth 100000
set_option maxHeartbeats 4000000
theorem Parse_any (S : Sg) (a f c : Option Addr) (ca cf cc : Nat) (t : ByteArray) (w : World) (hS : SigR w S a ca f cf c cc) (hT : Tab w) (ht : t.size ≤ 9223372036854775807) :
    Calls Tryz.prog 14 #[.agg #[.slice a S.A.length ca, .slice f S.F.length cf, .slice c S.C.length cc], .string t] w (ParPost S t w) := by
  have hK0 : Keep NoF w (w.alloc (.cells (boxS S a ca f cf c cc) 24)) := (Keep.refl _ _).alloc _
  have HC := Lib.hid (Check_any S a f c ca cf cc _ (hS.keep hK0) (hT.keep0 hK0))
  have HB := Lib.hid (fun w' => @box_cells w w' S a f c ca cf cc 24)
  have HTK := Lib.hid fun w1 => Tokens_any t ht w1
  have HS := Lib.hid hS
  have HT := Lib.hid hT
  unfold boxS at *
  clear hS hT
  by_cases h0 : checkS S = 0
  · have HH0 := Lib.hid h0
    rw [h0] at HC
    clear h0
    go_enter Tryz.func14, Tryz.ntmps14
    go_upto_region 5 with (first
      | (go_at_call 27; (with_reducible refine HC.out.mono ?_); rintro e w1 ⟨rfl, K1⟩; obtain ⟨c0, c1, c2, hsz⟩ := HB.out w1 K1; have k01 := hK0.trans K1 fun _ _ h => h)
      | (go_at_call 17; (with_reducible refine (HTK.out _).mono ?_); rintro e w2 ⟨cs, A, ac, B, bc, p, x, rfl, R2, Q2, K2, T2⟩))
    have k02 := k01.trans K2 fun _ _ h => h
    obtain ⟨d0, d1, d2, hsz2⟩ := HB.out w2 (K1.trans K2 fun _ _ h => h)
    clear c0 c1 c2 hsz
    have HTF := Lib.hid T2.tokF
    have hTR := Lib.hid T2
    by_cases hx : x = 0
    · subst hx
      have hok : t.size ≤ 4000 ∧ tokens t.data.toList 0 = .ok cs ∧ p = 0 := by
        rcases hTR with ⟨_, _, _, h⟩ | ⟨h1, ⟨_, _, _, _, h⟩ | ⟨h2, h3, _⟩⟩
        · exact absurd h (by omega)
        · exact absurd h (by omega)
        · exact ⟨h1, h2, h3⟩
      obtain ⟨h40, htok, rfl⟩ := hok
      obtain ⟨tk1, tk2⟩ := tok_ok htok h40
      have htf : tokF t = .ok cs := by have := HTF.out; rwa [if_pos rfl] at this
      have hwl := tW_len cs
      have hE : Env.Ok ⟨w2, w2.heap.size, S, a, ca, f, cf, c, cc, tW cs, A, ac, cs.map (·.1), B, bc, t.size⟩ :=
        ⟨Nat.le_refl _, HS.out.keep k02, HT.out.keep0 k02, HH0.out, by rw [hwl]; exact R2, by rw [List.length_map, atV, List.map_map]; exact Q2, by rw [List.length_map, hwl], tk1, tk2⟩
      generalize hEd : (⟨w2, w2.heap.size, S, a, ca, f, cf, c, cc, tW cs, A, ac, cs.map (·.1), B, bc, t.size⟩ : Env) = E at *
      have hEb : E.b = w2.heap.size := by rw [← hEd]
      have hEw : E.w0 = w2 := by rw [← hEd]
      have hEs : E.S = S := by rw [← hEd]
      have hws : E.ws = tW cs := by rw [← hEd]
      have hpos : ∀ m, E.pos m = placeF t cs m := fun m => by rw [← hEd]; rfl
      have hcells : E.cells 0 0 0 false = #[.slice a S.A.length ca, .slice f S.F.length cf, .slice c S.C.length cc, .slice A cs.length ac, .slice B cs.length bc, .int .i64 (t.size : Int), .int .i64 0, .int .i64 0, .int .i64 0, .bool false] := by
        rw [← hEd]; simp [Env.cells, hwl]
      have hL : Live E (w2.alloc (.cells #[.slice a S.A.length ca, .slice f S.F.length cf, .slice c S.C.length cc, .slice A cs.length ac, .slice B cs.length bc, .int .i64 (t.size : Int), .int .i64 0, .int .i64 0, .int .i64 0, .bool false] 62)) (tW cs) false := by
        refine ⟨by rw [hws]; exact List.suffix_refl _, ?_, ?_⟩
        · rw [hEw]; exact (Keep.refl _ _).alloc _
        · rw [hws, Nat.sub_self, hcells, hEb]; exact Bk.new _ _ _
      have HF := formula_fuel hE ((tW cs).length + 1) (tW cs) _ false (by omega) trivial hL
      rw [hEs] at HF
      rw [show E.ptr = .pointer (some ⟨w2.heap.size, 0, none⟩) by show Value.pointer (some ⟨E.b, 0, none⟩) = _; rw [hEb]] at HF
      have KW : ∀ v, E.K (w2.alloc (.cells #[.slice a S.A.length ca, .slice f S.F.length cf, .slice c S.C.length cc, .slice A cs.length ac, .slice B cs.length bc, .int .i64 (t.size : Int), .int .i64 0, .int .i64 0, .int .i64 0, .bool false] 62)) v → Keep NoF w v := fun v hv => by
        refine (k02.alloc (.cells #[.slice a S.A.length ca, .slice f S.F.length cf, .slice c S.C.length cc, .slice A cs.length ac, .slice B cs.length bc, .int .i64 (t.size : Int), .int .i64 0, .int .i64 0, .int .i64 0, .bool false] 62)).trans hv fun i hi he => ?_
        have := k02.size
        rw [he, hEb] at hi
        omega
      have HKW := Lib.hid KW
      have HSZ : Hid ((tW cs).length = cs.length) := Lib.hid hwl
      have HDC : Hid (∀ v m x L, Dead E v m x L → v.cell? ⟨w2.heap.size, 6, none⟩ = some (.int .i64 (cs.length : Int)) ∧ v.cell? ⟨w2.heap.size, 7, none⟩ = some (.int .i64 (x : Int)) ∧ v.cell? ⟨w2.heap.size, 8, none⟩ = some (.int .i64 (placeF t cs m : Int)) ∧ 0 < x) := Lib.hid fun v m x L h => by
        have h6 := h.st.c6
        have h7 := h.st.c7
        have h8 := h.st.c8
        rw [hEb] at h6 h7 h8
        rw [hws, hwl] at h6
        rw [hpos] at h8
        exact ⟨h6, h7, h8, h.pos⟩
      have HLC : Hid (∀ v ts L, Live E v ts L → v.cell? ⟨w2.heap.size, 6, none⟩ = some (.int .i64 ((cs.length - ts.length : Nat) : Int)) ∧ v.cell? ⟨w2.heap.size, 7, none⟩ = some (.int .i64 0) ∧ v.cell? ⟨w2.heap.size, 9, none⟩ = some (.bool L)) := Lib.hid fun v ts L h => by
        have h6 := h.st.c6
        have h7 := h.st.c7
        have h9 := h.st.c9
        rw [hEb] at h6 h7 h9
        rw [hws, hwl] at h6
        exact ⟨h6, h7, h9⟩
      have HSP : Hid (∀ v ts L, Live E v ts L → Calls Tryz.prog 36 #[.pointer (some ⟨w2.heap.size, 0, none⟩), .int .i64 4] v fun e w' => e = .returned (.tuple #[]) ∧ Dead E w' ts.length 4 L ∧ E.K v w') := Lib.hid fun v ts L h => by
        have := stop_live hE h (x := 4) (by omega)
        rwa [show E.ptr = .pointer (some ⟨w2.heap.size, 0, none⟩) by show Value.pointer (some ⟨E.b, 0, none⟩) = _; rw [hEb]] at this
      have HPF := Lib.hid fun (l : List Nd) (m x : Nat) (h : readF (sigP S) (tW cs) = (l, m, x)) => parseF_read HH0.out htf h
      have HQ2 := Lib.hid Q2
      have hc40 : cs.length ≤ 4000 := by omega
      have HBW := Lib.hid hEw
      clear hTR HTF htok tk1 tk2 htf hwl hE hEd hEb hEs hpos hcells hL KW T2 R2 Q2 HS HT HTK HC HB
      cases hres : Ps.formP (sigP S) ((tW cs).length + 1) (tW cs) with
      | bad r x =>
        rw [hres] at HF
        have HF' := Lib.hid HF
        have hrd := read_bad hres
        clear HF hres
        have HPR := Lib.hid (HPF.out _ _ _ hrd)
        clear hrd
        go_wp2_with (go_at_call 35; (with_reducible refine HF'.out.mono ?_); rintro e w5 ⟨A5, c5, f5, rfl, R5, K5, L5, D5⟩; obtain ⟨c6, c7, c8, hx⟩ := HDC.out _ _ _ _ D5; have hx' : ((x : Int) != 0) = true := by simp; omega)
        go_quiet (fail)
        go_wp2
        refine bodyPost_ret (v := .tuple #[.slice none 0 0, .int .i64 (placeF t cs r.length : Int), .int .i64 (x : Int)]) (by simp [results, Tryz.results14, go_sem]) rfl ?_
        exact ParPost.nil (by rw [HPR.out, if_neg (by omega)]) ((HKW.out _ K5).drewN _)
      | ok tr r =>
        rw [hres] at HF
        have HF' := Lib.hid HF
        clear HF
        cases r with
        | cons y r =>
          have hrd := read_more hres
          have hrl : (y :: r).length ≤ cs.length := by
            have := (Ps.fine_form (sigP S) ((tW cs).length + 1)).shr.ok hres
            rw [HSZ.out] at this
            exact this
          have hlt : ((cs.length - (y :: r).length : Nat) : Int) < (cs.length : Int) := by simp at hrl ⊢; omega
          have HPR := Lib.hid (HPF.out _ _ _ hrd)
          clear hrd hres
          have HYR : Hid (∀ v : World, v.cell? ⟨w2.heap.size, 6, none⟩ = some (.int .i64 ((cs.length - (y :: r).length : Nat) : Int)) → v.cell? ⟨w2.heap.size, 6, none⟩ = some (.int .i64 ((cs.length - (r.length + 1) : Nat) : Int))) := Lib.hid fun v h => h
          have hlt' : ((cs.length - (r.length + 1) : Nat) : Int) < (cs.length : Int) := hlt
          clear hlt hrl
          go_wp2_with (first
            | (go_at_call 35; (with_reducible refine HF'.out.mono ?_); rintro e w5 ⟨A5, c5, f5, rfl, R5, K5, G5, L5, V5⟩; clear V5; obtain ⟨c6', c7, c9⟩ := HLC.out _ _ _ L5; have c6 := HYR.out _ c6'; clear c6'; have HS4 := Lib.hid (HSP.out _ _ _ L5))
            | (go_at_call 36; (with_reducible refine HS4.out.mono ?_); rintro e w6 ⟨rfl, D6, K6⟩; obtain ⟨d6, d7', d8', hx⟩ := HDC.out _ _ _ _ D6; have d7 : w6.cell? ⟨w2.heap.size, 7, none⟩ = some (.int .i64 4) := d7'; clear d7'; have HD8 := Lib.hid d8'; obtain ⟨pl, hpl⟩ : ∃ pl : Nat, pl = placeF t cs (y :: r).length := ⟨_, rfl⟩; have d8 : w6.cell? ⟨w2.heap.size, 8, none⟩ = some (.int .i64 (pl : Int)) := (by rw [hpl]; exact d8'); have HPL := Lib.hid hpl; clear d8' hpl))
          go_quiet (fail)
          go_wp2
          refine bodyPost_ret (v := .tuple #[.slice none 0 0, .int .i64 (pl : Int), .int .i64 4]) (by simp [results, Tryz.results14, go_sem]) rfl ?_
          exact ParPost.nil (by rw [HPR.out, if_neg (by omega), HPL.out]; rfl) ((HKW.out _ (K_trans K5 K6)).drewN _)
        | nil =>
          have hrd := read_ok hres
          have hpos : 0 < cs.length := by
            false_or_by_contra
            have h0 : tW cs = [] := List.length_eq_zero_iff.1 (by rw [HSZ.out]; omega)
            rw [h0] at hres
            have h1 : Ps.formP (sigP S) 1 [] = .bad [] 4 := readF_nil _
            rw [show ([] : List ByteArray).length + 1 = 1 from rfl, h1] at hres
            cases hres
          have HC6 : Hid (∀ v : World, v.cell? ⟨w2.heap.size, 6, none⟩ = some (.int .i64 ((cs.length - ([] : List ByteArray).length : Nat) : Int)) → v.cell? ⟨w2.heap.size, 6, none⟩ = some (.int .i64 (cs.length : Int))) := Lib.hid fun v h => h
          clear hres
          cases hd : dB tr with
          | true =>
            rw [hd, if_pos rfl] at hrd
            have HPR := Lib.hid (HPF.out _ _ _ hrd)
            have HD := Lib.hid hd
            clear hrd hd
            have HB0 : Hid (∀ v, Keep NoF w2 v → ∃ bl off, B = some ⟨bl, off, none⟩ ∧ cs.length ≤ bc ∧ v.cell? ⟨bl, off, none⟩ = some (.int .i64 (placeF t cs cs.length : Int))) := Lib.hid fun v hk => by
              obtain ⟨_, hcap, bl, off, hb, hcell⟩ := (HQ2.out.kept hk fun _ _ h => h).at_ hpos
              refine ⟨bl, off, hb, hcap, ?_⟩
              have := hcell 0 (.int .i64 (placeF t cs cs.length : Int)) (by
                unfold tA placeF
                rw [List.getElem?_map, if_neg (by omega), tW_len, Nat.sub_self]
                cases cs with
                | nil => simp at hpos
                | cons a l => rfl)
              simpa using this
            have hcp : (0 : Int) < (cs.length : Int) := by omega
            go_wp2_with (go_at_call 35
                         (with_reducible refine HF'.out.mono ?_)
                         rintro e w5 ⟨A5, c5, f5, rfl, R5, K5, G5, L5, V5⟩
                         clear V5
                         rw [HD.out] at L5
                         obtain ⟨c6', c7, c9'⟩ := HLC.out _ _ _ L5
                         have c6 := HC6.out _ c6'
                         have c9 : w5.cell? ⟨w2.heap.size, 9, none⟩ = some (.bool true) := c9'
                         clear c6' c9'
                         have hk25 : Keep NoF w2 w5 := (by have := L5.st.kp; rwa [HBW.out] at this)
                         obtain ⟨bl, off, rfl, hcap, cB⟩ := HB0.out w5 hk25)
            obtain ⟨pl, hpl⟩ : ∃ pl : Nat, pl = placeF t cs cs.length := ⟨_, rfl⟩
            rw [← hpl] at cB
            have HPL := Lib.hid hpl
            clear hpl
            go_quiet (fail)
            go_wp2
            refine bodyPost_ret (v := .tuple #[.slice none 0 0, .int .i64 (pl : Int), .int .i64 8]) (by simp [results, Tryz.results14, go_sem]) rfl ?_
            exact ParPost.nil (by rw [HPR.out, if_neg (by omega), HPL.out, HSZ.out]; rfl) ((HKW.out _ K5).drewN _)
          | false =>
            rw [hd, if_neg (by simp)] at hrd
            have HPR : Hid (parseF S t = (cl tr, 0, 0)) := Lib.hid ((HPF.out _ _ _ hrd).trans (if_pos rfl))
            have HD := Lib.hid hd
            clear hrd hd
            go_wp2_with (go_at_call 35
                         (with_reducible refine HF'.out.mono ?_)
                         rintro e w5 ⟨A5, c5, f5, rfl, R5, K5, G5, L5, V5⟩
                         rw [HD.out] at L5 V5
                         obtain ⟨c6', c7, c9'⟩ := HLC.out _ _ _ L5
                         have c6 := HC6.out _ c6'
                         have c9 : w5.cell? ⟨w2.heap.size, 9, none⟩ = some (.bool false) := c9'
                         have HV5 := Lib.hid (V5 rfl)
                         clear c6' c9' V5)
            refine bodyPost_ret (v := .tuple #[.slice A5 f5.length c5, .int .i64 0, .int .i64 0]) (by simp [results, Tryz.results14, go_sem]) rfl ?_
            refine ⟨A5, c5, ?_, ?_, HKW.out _ K5⟩
            · rw [HPR.out, HV5.out]
            · rw [HPR.out, ← HV5.out]; exact R5.rd
    · have hpf : parseF S t = ([], p, x) := by
        unfold parseF
        rw [if_neg (by rw [HH0.out]; simp), HTF.out, if_neg hx]
      have HPF := Lib.hid hpf
      have hx' : (x != 0) = true := by simpa using hx
      clear hpf hx
      go_wp2
      refine bodyPost_ret (v := .tuple #[.slice none 0 0, .int .i64 p, .int .i64 x]) (by simp [results, Tryz.results14, go_sem]) rfl ?_
      exact ParPost.nil HPF.out k02
  · have HPF := Lib.hid (show parseF S t = ([], 0, (checkS S : Int)) by unfold parseF; rw [if_pos h0])
    generalize checkS S = n at *
    have hn : ((n : Int) != 0) = true := by simp; omega
    go_enter Tryz.func14, Tryz.ntmps14
    go_wp2_with (go_at_call 27; (with_reducible refine HC.out.mono ?_); rintro e w1 ⟨rfl, hk1⟩; have hk := hK0.trans hk1 fun _ _ h => h)
    refine bodyPost_ret (v := .tuple #[.slice none 0 0, .int .i64 0, .int .i64 n]) (by simp [results, Tryz.results14, go_sem]) rfl ?_
    exact ParPost.nil HPF.out hk
end
end Go.Proofs.YtbidfbojealmlaaGreatDoor
