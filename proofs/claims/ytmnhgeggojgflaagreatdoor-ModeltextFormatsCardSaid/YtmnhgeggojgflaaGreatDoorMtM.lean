/- The text of a model: how the reader reads the line of an agent at a world. Conditions: the line has the form of such a line. -/
import Derived.Test.YtmnhgeggojgflaaGreatDoorMtL
set_option linter.unusedVariables false
set_option linter.unusedSimpArgs false
namespace Go.Proofs.YtmnhgeggojgflaaGreatDoor
open Go.RowKit
open Mt
attribute [local go_sem] Oper.semAt_some
section
variable {w w1 w2 : World} {S : Sg} {a f c : Option Addr} {ca cf cc : Nat} {r : St} {Pr : Nat → Prop} {b m0 m1 m2 m3 vb rb : Nat} {rs : List Nat}
theorem RdW.agent (h : RdW w S a f c ca cf cc r Pr b m0 m1 m2 m3 vb rb rs) {k wd x g : Nat} {w' : World} (hg : rs[k]? = some g)
    (hok : Mt.Ok S { r with at_ := fun p => decide (p = (k, wd)) || r.at_ p, so := fun j => decide (j = k) || r.so j, R := r.R.set k ((r.R.getD k []).set wd x) })
    (hm1 : MapS Tryz.prog 130 prV .bool tinyP w1 m1 (mp fun p => decide (p = (k, wd)) || r.at_ p)) (g1 : w.grownBy w1 (some m1))
    (hm2 : MapS Tryz.prog 3 niV .bool tinyI w2 m2 (mp fun j => decide (j = k) || r.so j)) (g2 : w1.grownBy w2 (some m2)) (hw : w' = w2.setCell ⟨g, wd, none⟩ (.int .u64 (x : Int))) :
    RdW w' S a f c ca cf cc { r with at_ := fun p => decide (p = (k, wd)) || r.at_ p, so := fun j => decide (j = k) || r.so j, R := r.R.set k ((r.R.getD k []).set wd x) } Pr b m0 m1 m2 m3 vb rb rs := by
  subst hw
  have hgm := List.mem_of_getElem? hg
  obtain ⟨n1, n2, n3, n4, n5⟩ := h.nes
  obtain ⟨p1, p2, p3, p4⟩ := n5 m1 (by simp)
  obtain ⟨q1, q2, q3, q4⟩ := n5 m2 (by simp)
  have same2 : ∀ j, j < w.heap.size → j ≠ m1 → j ≠ m2 → w2.heap[j]? = w.heap[j]? := fun j hj h1 h2 =>
    (g2.block j (Nat.lt_of_lt_of_le hj g1.size) fun e => h2 (Option.some.inj e)).trans (g1.block j hj fun e => h1 (Option.some.inj e))
  have same : ∀ j, j < w.heap.size → j ≠ m1 → j ≠ m2 → j ≠ g → (w2.setCell ⟨g, wd, none⟩ (.int .u64 (x : Int))).heap[j]? = w.heap[j]? := fun j hj h1 h2 h3 =>
    (Below.heap_setCell _ _ _ _ h3).trans (same2 j hj h1 h2)
  have hk : k < r.R.length := by rw [h.ok.a h.w0, ← h.rl]; exact (List.getElem?_eq_some_iff.1 hg).1
  refine ⟨⟨h.mb.fa.block (same _ h.mb.fa.lt h.mb.n01 h.mb.n02 ((n5 m0 (by simp)).2.2.2 g hgm)), ?_, hm2.block (Below.heap_setCell _ _ _ _ (q4 g hgm)), h.mb.ce.block (same _ h.mb.ce.lt h.mb.n13.symm h.mb.n23.symm ((n5 m3 (by simp)).2.2.2 g hgm)), h.mb.n01, h.mb.n02, h.mb.n03, h.mb.n12, h.mb.n13, h.mb.n23, h.mb.pr⟩,
    h.B.block (same _ h.B.lt p1.symm q1.symm (n4 g hgm).1), h.V.block (same _ h.V.lt p2.symm q2.symm (n4 g hgm).2.2), h.R.block (same _ h.R.lt p3.symm q3.symm (n4 g hgm).2.1), h.rl, fun j l g' h1 h2 => ?_, h.nv, h.nd, h.pv, hok, h.w0⟩
  · exact hm1.block ((Below.heap_setCell _ _ _ _ (p4 g hgm)).trans (g2.block m1 hm1.1.lt fun e => h.mb.n12 (Option.some.inj e)))
  · have hgm' := List.mem_of_getElem? h2
    by_cases hj : j = k
    · subst hj
      obtain rfl : g = g' := Option.some.inj (hg.symm.trans h2)
      simp only [List.getElem?_set_self hk, Option.some.injEq] at h1
      subst h1
      have hb := h.row j _ g (List.getElem?_eq_getElem hk) hg
      have e : r.R.getD j [] = r.R[j] := by rw [List.getD_eq_getElem?_getD, List.getElem?_eq_getElem hk]; rfl
      have := (hb.block (same2 _ hb.lt (p4 g hgm).symm (q4 g hgm).symm)).put wd (.int .u64 (x : Int))
      rw [u6_arr] at this
      rw [e]
      exact this
    · simp only at h1
      rw [List.getElem?_set_ne (fun e => hj e.symm)] at h1
      have hb := h.row j l g' h1 h2
      have hne : g' ≠ g := fun e => hj ((List.getElem?_inj (by have := (List.getElem?_eq_some_iff.1 h2).1; exact this) h.nd).1 (by rw [h2, hg, e]))
      exact hb.block (same _ hb.lt (p4 g' hgm').symm (q4 g' hgm').symm hne)
end
section
set_option maxRecDepth 100000
set_option maxHeartbeats 4000000
variable {w0 w : World} {S : Sg} {a f c : Option Addr} {ca cf cc : Nat} {r : St} {Pr : Nat → Prop} {b m0 m1 m2 m3 vb rb : Nat} {rs : List Nat}
theorem mtagent_any (E : EnvM w0 S a f c ca cf cc Pr) (KW : Keep NoF w0 w) (hR : RdW w S a f c ca cf cc r Pr b m0 m1 m2 m3 vb rb rs) (l : List (List UInt8)) (A : Option Addr) (lc : Nat) (hrd : Rd w (.slice A l.length lc) 1 l.length (strs (l.map txt)))
    (hl4 : l.length = 4) (hls : ∀ x ∈ l, x.length ≤ 100000) :
    Calls Tryz.prog 71 #[.pointer (some ⟨b, 0, none⟩), .slice A 4 lc] w (RPost S a f c ca cf cc Pr b m0 m1 m2 m3 (agentP S r l) w) := by
  obtain ⟨-, hc1, bl, off, rfl, hcells⟩ := hrd.at_ (by omega)
  have x1 := hcells 1 _ (strs_get (by omega))
  have x2 := hcells 2 _ (strs_get (by omega))
  have HR3 := Lib.hid (rd_drop (k := 3) (c := lc) hl4 hcells (by omega) (by omega))
  have b0 : w.cell? ⟨b, 0, none⟩ = some (.slice a S.A.length ca) := hR.B.cell 0
  have b1 : w.cell? ⟨b, 1, none⟩ = some (.slice f S.F.length cf) := hR.B.cell 1
  have b2 : w.cell? ⟨b, 2, none⟩ = some (.slice c S.C.length cc) := hR.B.cell 2
  have HF := Lib.hid fun W (hk : Keep NoF w W) => Agent_any S a f c ca cf cc (txt (itAt l 1)) W (E.sig.keep (KW.trans hk fun _ _ h => h)) (E.tab.keep0 (KW.trans hk fun _ _ h => h))
  have HNU := Lib.hid fun W => mtnumber_any (txt (itAt l 2)) W
  rw [data_txt] at HNU
  have K0 : Keep NoF w w.drew := (Keep.refl _ _).drew
  obtain ⟨q, hq⟩ : ∃ q, agentP S r l = q := ⟨_, rfl⟩
  have HQ := Lib.hid hq
  have HOK : Hid (Mt.Ok S q.1) := Lib.hid (by have := (ok_agent l hR.ok).1; rwa [hq] at this)
  rw [hq]
  have HE := Lib.hid E
  have HRW := Lib.hid hR
  have HC := findS_cases S S.A (txt (itAt l 1))
  clear hcells hrd E hR hq
  unfold agentP at HQ
  simp only at HQ
  rw [show (numB (itAt l 2)).getD 0 = nIt l 2 from rfl] at HNU
  generalize findS S S.A (txt (itAt l 1)) = i at *
  generalize nIt l 2 = wd at *
  generalize (numB (itAt l 2)).isSome = nok at *
  rcases HC with rfl | ⟨k, rfl, hk⟩
  · obtain rfl := HQ.out.symm.trans (if_pos (by decide))
    clear HQ HR3
    go_enter Tryz.func71, Tryz.ntmps71
    go_upto_region 1 with (fail)
    go_region_held3 (fun w' => w'.cell? ⟨b, 0, none⟩ = some (.slice a S.A.length ca) ∧ w'.cell? ⟨b, 1, none⟩ = some (.slice f S.F.length cf) ∧ w'.cell? ⟨b, 2, none⟩ = some (.slice c S.C.length cc) ∧ w'.cell? ⟨bl, off + 1, none⟩ = some (.string (txt (itAt l 1)))) (go_keep)
      ((go_at_call 106; (with_reducible refine (HF.out _ K0).mono ?_); rintro e w1 ⟨rfl, hk1⟩
        have K1 := hk1.undrew
        have d0 : w1.cell? ⟨b, 0, none⟩ = some (.slice a S.A.length ca) := K1.cellv b0 fun h => h
        have d1 : w1.cell? ⟨b, 1, none⟩ = some (.slice f S.F.length cf) := K1.cellv b1 fun h => h
        have d2 : w1.cell? ⟨b, 2, none⟩ = some (.slice c S.C.length cc) := K1.cellv b2 fun h => h
        have y1 : w1.cell? ⟨bl, off + 1, none⟩ = some (.string (txt (itAt l 1))) := K1.cellv x1 fun h => h))
    go_wp2
    go_ret
    exact ⟨rfl, K1.mono fun _ _ h => h.elim, fun h => absurd h (show ¬ (5 : Int) = 0 by decide)⟩
  · have HQ1 := Lib.hid (HQ.out.symm.trans (if_neg (by omega)))
    simp only [Int.toNat_natCast] at HQ1
    clear HQ
    have hl3 : (l.drop 3).length = 1 := by simp [hl4]
    have hls2 : ∀ x ∈ l.drop 3, x.length ≤ 100000 := fun x hx => hls x (List.mem_of_mem_drop hx)
    have hsl := setsP_len (n := r.W) (l := l.drop 3)
    have HS := Lib.hid fun W (hk : Keep NoF w W) => mtsets_any b r.W HRW.out.ok.w64 (l.drop 3) (some ⟨bl, off + 3, none⟩) (lc - 3) W (by have := HR3.out.kept hk fun _ _ h => h; rw [hl3]; exact this) (by omega) hls2 (hk.cellv (HRW.out.B.cell 3) fun h => h) (HE.out.wtab.keep0 (KW.trans hk fun _ _ h => h))
    rw [hl3] at HS hsl
    have HSL := Lib.hid hsl
    clear hsl hls2 hls hl3 HR3
    generalize setsP r.W (l.drop 3) = sp at *
    obtain ⟨xs, e⟩ := sp
    simp only at HSL HQ1
    have hW64 := HRW.out.ok.w64
    have B3 : ∀ W, Keep NoF w W → W.cell? ⟨b, 3, none⟩ = some (.int .i64 (r.W : Int)) := fun W hk => hk.cellv (HRW.out.B.cell 3) fun h => h
    have HB3 := Lib.hid B3
    clear B3
    obtain ⟨RW, hRW⟩ : ∃ n, r.W = n := ⟨_, rfl⟩
    rw [hRW] at HB3
    have HRWN := Lib.hid hRW
    by_cases hw : r.W ≤ wd
    · obtain rfl := HQ1.out.trans (if_pos hw)
      have hw' : (RW : Int) ≤ (wd : Int) := by omega
      clear HQ1 HSL HS hw hRW
      go_enter Tryz.func71, Tryz.ntmps71
      go_upto_region 1 with (fail)
      go_region_held3 (fun w' => w'.cell? ⟨b, 0, none⟩ = some (.slice a S.A.length ca) ∧ w'.cell? ⟨b, 1, none⟩ = some (.slice f S.F.length cf) ∧ w'.cell? ⟨b, 2, none⟩ = some (.slice c S.C.length cc) ∧ w'.cell? ⟨bl, off + 1, none⟩ = some (.string (txt (itAt l 1)))) (go_keep)
        ((go_at_call 106; (with_reducible refine (HF.out _ K0).mono ?_); rintro e w1 ⟨rfl, hk1⟩
          have K1 := hk1.undrew
          have d0 : w1.cell? ⟨b, 0, none⟩ = some (.slice a S.A.length ca) := K1.cellv b0 fun h => h
          have d1 : w1.cell? ⟨b, 1, none⟩ = some (.slice f S.F.length cf) := K1.cellv b1 fun h => h
          have d2 : w1.cell? ⟨b, 2, none⟩ = some (.slice c S.C.length cc) := K1.cellv b2 fun h => h
          have y1 : w1.cell? ⟨bl, off + 1, none⟩ = some (.string (txt (itAt l 1))) := K1.cellv x1 fun h => h))
      have y2 : w1.cell? ⟨bl, off + 2, none⟩ = some (.string (txt (itAt l 2))) := K1.cellv x2 fun h => h
      go_wp2_with (go_at_call 102; (with_reducible refine (HNU.out _).mono ?_); rintro e2 w2 ⟨rfl, hk2⟩; have K2 := K1.trans hk2 fun _ _ h => h; have d3 := HB3.out w2 K2)
      go_ret
      exact ⟨rfl, K2.mono fun _ _ h => h.elim, fun h => absurd h (show ¬ (2 : Int) = 0 by decide)⟩
    · have HQ2 := Lib.hid (HQ1.out.trans (if_neg hw))
      have hw' : ¬ (RW : Int) ≤ (wd : Int) := by omega
      have hwl : wd < RW := by omega
      have hwb : wd < 64 := by omega
      clear HQ1 hw hRW hW64
      by_cases he : e = 0
      · subst he
        have HQ3 := Lib.hid (HQ2.out.trans (if_neg (by decide)))
        obtain ⟨x, rfl⟩ : ∃ x, xs = [x] := by
          have := HSL.out rfl
          match xs, this with
          | [x], _ => exact ⟨x, rfl⟩
        clear HQ2 HSL
        have htk : tinyI k := by have := HE.out.sig.lA; unfold tinyI; omega
        have htp : tinyP (k, wd) := ⟨htk, by unfold tinyI; omega⟩
        have HLK1 := Lib.hid fun W (hk : Keep NoF w W) => (HRW.out.mb.keep hk).at_.1.look encPr Tryz.underlying64 (zeroMtBool W) htp false
        have HLK3 := Lib.hid fun W (hk : Keep NoF w W) => (HRW.out.mb.keep hk).ce.look encNi Tryz.underlying63 (zeroMtBool W) htk false
        simp only [mp_look, Bool.false_eq_true, if_false] at HLK1 HLK3
        have HTK := Lib.hid htk
        have HTP := Lib.hid htp
        clear htk htp
        obtain ⟨at1, hat⟩ : ∃ v, r.at_ (k, wd) = v := ⟨_, rfl⟩
        obtain ⟨ce1, hce⟩ : ∃ v, r.ce k = v := ⟨_, rfl⟩
        rw [hat] at HLK1 HQ3
        rw [hce] at HLK3 HQ3
        have HAT := Lib.hid hat
        have HCE := Lib.hid hce
        clear hat hce
        unfold prV at HLK1
        unfold niV at HLK3
        cases at1 with
        | true =>
          obtain rfl := HQ3.out.trans (if_pos (by simp))
          clear HQ3
          go_enter Tryz.func71, Tryz.ntmps71
          go_upto_region 1 with (fail)
          go_region_held3 (fun w' => w'.cell? ⟨b, 0, none⟩ = some (.slice a S.A.length ca) ∧ w'.cell? ⟨b, 1, none⟩ = some (.slice f S.F.length cf) ∧ w'.cell? ⟨b, 2, none⟩ = some (.slice c S.C.length cc) ∧ w'.cell? ⟨bl, off + 1, none⟩ = some (.string (txt (itAt l 1)))) (go_keep)
            ((go_at_call 106; (with_reducible refine (HF.out _ K0).mono ?_); rintro e w1 ⟨rfl, hk1⟩
              have K1 := hk1.undrew
              have d0 : w1.cell? ⟨b, 0, none⟩ = some (.slice a S.A.length ca) := K1.cellv b0 fun h => h
              have d1 : w1.cell? ⟨b, 1, none⟩ = some (.slice f S.F.length cf) := K1.cellv b1 fun h => h
              have d2 : w1.cell? ⟨b, 2, none⟩ = some (.slice c S.C.length cc) := K1.cellv b2 fun h => h
              have y1 : w1.cell? ⟨bl, off + 1, none⟩ = some (.string (txt (itAt l 1))) := K1.cellv x1 fun h => h))
          have y2 : w1.cell? ⟨bl, off + 2, none⟩ = some (.string (txt (itAt l 2))) := K1.cellv x2 fun h => h
          go_wp2_with (first
            | (go_at_call 102; (with_reducible refine (HNU.out _).mono ?_); rintro e2 w2 ⟨rfl, hk2⟩; have K2 := K1.trans hk2 fun _ _ h => h; have d3 := HB3.out w2 K2)
            | (go_at_call 105; (with_reducible refine (HS.out _ K2).mono ?_); rintro e3 w3 ⟨xA, xc, rfl, ho3, hk3⟩; have K3 := K2.trans hk3 fun _ _ h => h; have d7 : w3.cell? ⟨b, 7, none⟩ = some (.map (some m1)) := K3.cellv (HRW.out.B.cell 7) fun h => h; have d9 : w3.cell? ⟨b, 9, none⟩ = some (.map (some m3)) := K3.cellv (HRW.out.B.cell 9) fun h => h; have hlk1 := HLK1.out w3 K3; have hlk3 := HLK3.out w3 K3))
          go_ret
          exact ⟨rfl, K3.mono fun _ _ h => h.elim, fun h => absurd h (show ¬ (7 : Int) = 0 by decide)⟩
        | false =>
          cases ce1 with
          | true =>
            obtain rfl := HQ3.out.trans (if_pos (by simp))
            clear HQ3
            go_enter Tryz.func71, Tryz.ntmps71
            go_upto_region 1 with (fail)
            go_region_held3 (fun w' => w'.cell? ⟨b, 0, none⟩ = some (.slice a S.A.length ca) ∧ w'.cell? ⟨b, 1, none⟩ = some (.slice f S.F.length cf) ∧ w'.cell? ⟨b, 2, none⟩ = some (.slice c S.C.length cc) ∧ w'.cell? ⟨bl, off + 1, none⟩ = some (.string (txt (itAt l 1)))) (go_keep)
              ((go_at_call 106; (with_reducible refine (HF.out _ K0).mono ?_); rintro e w1 ⟨rfl, hk1⟩
                have K1 := hk1.undrew
                have d0 : w1.cell? ⟨b, 0, none⟩ = some (.slice a S.A.length ca) := K1.cellv b0 fun h => h
                have d1 : w1.cell? ⟨b, 1, none⟩ = some (.slice f S.F.length cf) := K1.cellv b1 fun h => h
                have d2 : w1.cell? ⟨b, 2, none⟩ = some (.slice c S.C.length cc) := K1.cellv b2 fun h => h
                have y1 : w1.cell? ⟨bl, off + 1, none⟩ = some (.string (txt (itAt l 1))) := K1.cellv x1 fun h => h))
            have y2 : w1.cell? ⟨bl, off + 2, none⟩ = some (.string (txt (itAt l 2))) := K1.cellv x2 fun h => h
            go_wp2_with (first
              | (go_at_call 102; (with_reducible refine (HNU.out _).mono ?_); rintro e2 w2 ⟨rfl, hk2⟩; have K2 := K1.trans hk2 fun _ _ h => h; have d3 := HB3.out w2 K2)
              | (go_at_call 105; (with_reducible refine (HS.out _ K2).mono ?_); rintro e3 w3 ⟨xA, xc, rfl, ho3, hk3⟩; have K3 := K2.trans hk3 fun _ _ h => h; have d7 : w3.cell? ⟨b, 7, none⟩ = some (.map (some m1)) := K3.cellv (HRW.out.B.cell 7) fun h => h; have d9 : w3.cell? ⟨b, 9, none⟩ = some (.map (some m3)) := K3.cellv (HRW.out.B.cell 9) fun h => h; have hlk1 := HLK1.out w3 K3; have hlk3 := HLK3.out w3 K3))
            go_ret
            exact ⟨rfl, K3.mono fun _ _ h => h.elim, fun h => absurd h (show ¬ (7 : Int) = 0 by decide)⟩
          | false =>
            obtain rfl := HQ3.out.trans (if_neg (by simp))
            clear HQ3
            go_enter Tryz.func71, Tryz.ntmps71
            go_upto_region 1 with (fail)
            go_region_held3 (fun w' => w'.cell? ⟨b, 0, none⟩ = some (.slice a S.A.length ca) ∧ w'.cell? ⟨b, 1, none⟩ = some (.slice f S.F.length cf) ∧ w'.cell? ⟨b, 2, none⟩ = some (.slice c S.C.length cc) ∧ w'.cell? ⟨bl, off + 1, none⟩ = some (.string (txt (itAt l 1)))) (go_keep)
              ((go_at_call 106; (with_reducible refine (HF.out _ K0).mono ?_); rintro e w1 ⟨rfl, hk1⟩
                have K1 := hk1.undrew
                have d0 : w1.cell? ⟨b, 0, none⟩ = some (.slice a S.A.length ca) := K1.cellv b0 fun h => h
                have d1 : w1.cell? ⟨b, 1, none⟩ = some (.slice f S.F.length cf) := K1.cellv b1 fun h => h
                have d2 : w1.cell? ⟨b, 2, none⟩ = some (.slice c S.C.length cc) := K1.cellv b2 fun h => h
                have y1 : w1.cell? ⟨bl, off + 1, none⟩ = some (.string (txt (itAt l 1))) := K1.cellv x1 fun h => h))
            have y2 : w1.cell? ⟨bl, off + 2, none⟩ = some (.string (txt (itAt l 2))) := K1.cellv x2 fun h => h
            go_upto_region 12 with (first
              | (go_at_call 102; (with_reducible refine (HNU.out _).mono ?_); rintro e2 w2 ⟨rfl, hk2⟩; have K2 := K1.trans hk2 fun _ _ h => h; have d3 := HB3.out w2 K2)
              | (go_at_call 105; (with_reducible refine (HS.out _ K2).mono ?_); rintro e3 w3 ⟨xA, xc, rfl, ho3, hk3⟩; have K3 := K2.trans hk3 fun _ _ h => h; have d7 : w3.cell? ⟨b, 7, none⟩ = some (.map (some m1)) := K3.cellv (HRW.out.B.cell 7) fun h => h; have d9 : w3.cell? ⟨b, 9, none⟩ = some (.map (some m3)) := K3.cellv (HRW.out.B.cell 9) fun h => h; have hlk1 := HLK1.out w3 K3; have hlk3 := HLK3.out w3 K3))
            have HR3 := Lib.hid (HRW.out.keep K3)
            obtain ⟨v1, st1, w4, r1, g1, z1, nx1⟩ := (MapS.block (w' := w3.drew) HR3.out.mb.at_ rfl).entry encPr Tryz.underlying64 zeroMtBool HTP.out true
            obtain ⟨w5, r2, g2, z2, hm5⟩ := nx1 w4 rfl
            have N := Lib.hid HR3.out.nes
            have G35 : Hid (w3.grownBy w5 (some m1)) := Lib.hid (by have := g1.trans g2; exact ⟨this.os, this.tape, this.output, this.size, this.block⟩)
            have hso5 := HR3.out.mb.so.block ((G35.out.block m2 HR3.out.mb.so.1.lt fun e => HR3.out.mb.n12.symm (Option.some.inj e)))
            obtain ⟨v2, st2, w6, r3, g3, z3, nx2⟩ := hso5.entry encNi Tryz.underlying63 zeroMtBool HTK.out true
            obtain ⟨w7, r4, g4, z4, hm7⟩ := nx2 w6 rfl
            have G57 := Lib.hid (g3.trans g4)
            unfold goInt prV at r1
            unfold goInt at r2 r3 r4
            unfold niV at r3
            have HM5 := Lib.hid hm5
            have HM7 := Lib.hid hm7
            have p17 : m1 ≠ b := (N.out.2.2.2.2 m1 (by simp)).1
            have p27 : m2 ≠ b := (N.out.2.2.2.2 m2 (by simp)).1
            have a7 : w3.cell? ⟨b, 7, none⟩ = some (.map (some m1)) := HR3.out.B.cell 7
            have a8 : w3.cell? ⟨b, 8, none⟩ = some (.map (some m2)) := HR3.out.B.cell 8
            have c47 : w4.cell? ⟨b, 7, none⟩ = some (.map (some m1)) := g1.cell a7 fun e => p17 (Option.some.inj e).symm
            have c48 : w4.cell? ⟨b, 8, none⟩ = some (.map (some m2)) := g1.cell a8 fun e => p17 (Option.some.inj e).symm
            have c57 : w5.cell? ⟨b, 7, none⟩ = some (.map (some m1)) := g2.cell c47 fun e => p17 (Option.some.inj e).symm
            have c58 : w5.cell? ⟨b, 8, none⟩ = some (.map (some m2)) := g2.cell c48 fun e => p17 (Option.some.inj e).symm
            have c67 : w6.cell? ⟨b, 7, none⟩ = some (.map (some m1)) := g3.cell c57 fun e => p27 (Option.some.inj e).symm
            have c68 : w6.cell? ⟨b, 8, none⟩ = some (.map (some m2)) := g3.cell c58 fun e => p27 (Option.some.inj e).symm
            have c77 : w7.cell? ⟨b, 7, none⟩ = some (.map (some m1)) := g4.cell c67 fun e => p27 (Option.some.inj e).symm
            have c78 : w7.cell? ⟨b, 8, none⟩ = some (.map (some m2)) := g4.cell c68 fun e => p27 (Option.some.inj e).symm
            clear g1 g2 g3 g4 z1 z2 z3 z4 nx1 nx2 hso5 hm5 hm7
            go_region_held3 (fun w' => w'.cell? ⟨b, 7, none⟩ = some (.map (some m1)) ∧ w'.cell? ⟨b, 8, none⟩ = some (.map (some m2))) (go_keep) (fail)
            clear r1 r2 r3 r4 c47 c48 c57 c58 c67 c68 c77 c78 a7 a8
            have hkr : k < rs.length := by rw [HR3.out.rl]; exact hk
            obtain ⟨g, hg⟩ : ∃ g, rs[k]? = some g := ⟨_, List.getElem?_eq_getElem hkr⟩
            have HG := Lib.hid hg
            have hgm := List.mem_of_getElem? hg
            have p1 := N.out.2.2.2.2 m1 (by simp)
            have p2 := N.out.2.2.2.2 m2 (by simp)
            have K7 : Keep (fun j => j = m1 ∨ j = m2) w3 w7 := ((Keep.refl (fun j => j = m1 ∨ j = m2) w3).grown G35.out (fun j hj => .inl (.inl (Option.some.inj hj).symm))).grown G57.out (fun j hj => .inl (.inr (Option.some.inj hj).symm))
            have B7 := HR3.out.B.keep K7 (by rintro (h | h); exact p1.1 h.symm; exact p2.1 h.symm)
            have R7 := HR3.out.R.keep K7 (by rintro (h | h); exact p1.2.2.1 h.symm; exact p2.2.2.1 h.symm)
            have hRl : r.R.length = S.A.length := HRW.out.ok.a HRW.out.w0
            have hkR : k < r.R.length := by omega
            have G7 := (HR3.out.row k _ g (List.getElem?_eq_getElem hkR) hg).keep K7 (by rintro (h | h); exact p1.2.2.2 g hgm h.symm; exact p2.2.2.2 g hgm h.symm)
            have hrl : r.R[k].length = r.W := HRW.out.ok.rl _ (List.getElem_mem hkR)
            have e5 : w7.cell? ⟨b, 5, none⟩ = some (.slice (some ⟨rb, 0, none⟩) S.A.length S.A.length) := B7.cell 5
            have e6 : w7.cell? ⟨rb, k, none⟩ = some (.slice (some ⟨g, 0, none⟩) RW RW) := (R7.cell k).trans (by simp [hg, rowB, HRWN.out])
            obtain ⟨ov, v7⟩ : ∃ ov : Nat, w7.cell? ⟨g, wd, none⟩ = some (.int .u64 (ov : Int)) := ⟨r.R[k].getD wd 0, (G7.cell wd).trans (by
              have : wd < r.R[k].length := by rw [hrl, HRWN.out]; exact hwl
              simp [u6, List.getD_eq_getElem?_getD, List.getElem?_eq_getElem this])⟩
            have f7 : w7.frozen? ⟨g, wd, none⟩ = false := G7.frozen wd
            obtain ⟨-, hcx, xg, xo, rfl, hxc⟩ := (Rd.of_own ho3).at_ (by simp)
            have hx3 := hxc 0 (.int .u64 (x : Int)) rfl
            have hxw : ∀ j, j < w.heap.size → xg ≠ j := fun j hj e => by
              have h1 := (ho3.lt xg rfl).1
              have := K2.size
              omega
            have x7 : w7.cell? ⟨xg, xo, none⟩ = some (.int .u64 (x : Int)) := K7.cellv hx3 (by rintro (h | h); exact hxw m1 HRW.out.mb.at_.1.lt h; exact hxw m2 HRW.out.mb.so.1.lt h)
            have hgw : g < w.heap.size := by
              have := (HRW.out.row k _ g (List.getElem?_eq_getElem hkR) hg).lt
              exact this
            have q5 : (w7.setCell ⟨g, wd, none⟩ (.int .u64 (x : Int))).cell? ⟨b, 5, none⟩ = some (.slice (some ⟨rb, 0, none⟩) S.A.length S.A.length) := (World.cell?_of_block (Below.heap_setCell _ _ _ _ (N.out.2.2.2.1 g hgm).1)).trans e5
            have q6 : (w7.setCell ⟨g, wd, none⟩ (.int .u64 (x : Int))).cell? ⟨rb, k, none⟩ = some (.slice (some ⟨g, 0, none⟩) RW RW) := (World.cell?_of_block (Below.heap_setCell _ _ _ _ (N.out.2.2.2.1 g hgm).2.1)).trans e6
            have qx : (w7.setCell ⟨g, wd, none⟩ (.int .u64 (x : Int))).cell? ⟨xg, xo, none⟩ = some (.int .u64 (x : Int)) := (World.cell?_of_block (Below.heap_setCell _ _ _ _ (hxw g hgw))).trans x7
            have HPM := Lib.hid (fun m hm => HR3.out.mb.pr m hm)
            have HPG := Lib.hid (HR3.out.pv g (.inr (.inr hgm)))
            have K37 : Keep (fun k => ¬ Pr k) w w7 := (K3.mono fun _ _ h => h.elim).trans K7 fun j _ hj => by
              rcases hj with rfl | rfl
              · exact HPM.out _ (by simp)
              · exact HPM.out _ (by simp)
            have HF4 := Lib.hid (fun w' hw => HR3.out.agent (k := k) (wd := wd) (x := x) (w' := w') HG.out HOK.out (mpS_upd (d := fun _ => Classical.propDecidable _) HM5.out) G35.out (mpS_upd (d := fun _ => Classical.propDecidable _) HM7.out) G57.out hw)
            have kI0 : (0 : Int) ≤ (k : Int) := by omega
            have kI1 : (k : Int) < (S.A.length : Int) := by omega
            have wI0 : (0 : Int) ≤ (wd : Int) := by omega
            have wI1 : (wd : Int) < (RW : Int) := by omega
            have hcx' : (1 : Nat) ≤ xc := hcx
            clear B7 R7 G7 HR3 hxc hx3 hcx hg p1 p2 hrl hRl hkR hkr
            go_wp2
            go_region_held3 (fun w' => w'.cell? ⟨b, 5, none⟩ = some (.slice (some ⟨rb, 0, none⟩) S.A.length S.A.length) ∧ w'.cell? ⟨rb, k, none⟩ = some (.slice (some ⟨g, 0, none⟩) RW RW) ∧ w'.cell? ⟨xg, xo, none⟩ = some (.int .u64 (x : Int))) (first | go_keep | exact ⟨q5, q6, qx⟩) (fail)
            go_wp2
            go_ret
            refine ⟨rfl, ?_, fun _ => ⟨vb, rb, rs, ?_⟩⟩
            · exact (K37.setCell (p := ⟨g, wd, none⟩) (.inl HPG.out) _).drew
            · exact (HF4.out _ rfl).keep (Keep.refl _ _).drew
      · obtain rfl := HQ2.out.trans (if_pos he)
        have he' : (e != 0) = true := by simpa using he
        clear HQ2 HSL
        go_enter Tryz.func71, Tryz.ntmps71
        go_upto_region 1 with (fail)
        go_region_held3 (fun w' => w'.cell? ⟨b, 0, none⟩ = some (.slice a S.A.length ca) ∧ w'.cell? ⟨b, 1, none⟩ = some (.slice f S.F.length cf) ∧ w'.cell? ⟨b, 2, none⟩ = some (.slice c S.C.length cc) ∧ w'.cell? ⟨bl, off + 1, none⟩ = some (.string (txt (itAt l 1)))) (go_keep)
          ((go_at_call 106; (with_reducible refine (HF.out _ K0).mono ?_); rintro e w1 ⟨rfl, hk1⟩
            have K1 := hk1.undrew
            have d0 : w1.cell? ⟨b, 0, none⟩ = some (.slice a S.A.length ca) := K1.cellv b0 fun h => h
            have d1 : w1.cell? ⟨b, 1, none⟩ = some (.slice f S.F.length cf) := K1.cellv b1 fun h => h
            have d2 : w1.cell? ⟨b, 2, none⟩ = some (.slice c S.C.length cc) := K1.cellv b2 fun h => h
            have y1 : w1.cell? ⟨bl, off + 1, none⟩ = some (.string (txt (itAt l 1))) := K1.cellv x1 fun h => h))
        have y2 : w1.cell? ⟨bl, off + 2, none⟩ = some (.string (txt (itAt l 2))) := K1.cellv x2 fun h => h
        go_wp2_with (first
          | (go_at_call 102; (with_reducible refine (HNU.out _).mono ?_); rintro e2 w2 ⟨rfl, hk2⟩; have K2 := K1.trans hk2 fun _ _ h => h; have d3 := HB3.out w2 K2)
          | (go_at_call 105; (with_reducible refine (HS.out _ K2).mono ?_); rintro e3 w3 ⟨xA, xc, rfl, ho3, hk3⟩))
        go_ret
        exact ⟨rfl, (K2.trans hk3 fun _ _ h => h).mono fun _ _ h => h.elim, fun h => absurd h he⟩
end
end Go.Proofs.YtmnhgeggojgflaaGreatDoor
