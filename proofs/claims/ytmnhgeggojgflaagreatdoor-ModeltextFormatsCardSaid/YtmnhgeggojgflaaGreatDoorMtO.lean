/- The text of a model: how the reader reads a line of cells. Conditions: the line has the form of such a line. -/
import Derived.Test.YtmnhgeggojgflaaGreatDoorMtN
set_option linter.unusedVariables false
set_option linter.unusedSimpArgs false
namespace Go.Proofs.YtmnhgeggojgflaaGreatDoor
open Go.RowKit
open Mt
attribute [local go_sem] Oper.semAt_some
theorem andZ {a b : Nat} (ha : a < 18446744073709551616) (hb : b < 18446744073709551616) : bits .and .u64 (a : Int) (b : Int) = ((a &&& b : Nat) : Int) := bits_and_u64_nat _ _ ha hb
theorem orZ {a b : Nat} (ha : a < 18446744073709551616) (hb : b < 18446744073709551616) : bits .or .u64 (a : Int) (b : Int) = ((a ||| b : Nat) : Int) := bits_or_u64_nat _ _ ha hb
/-- What a loop over the sets of a line leaves. -/
def UnP (xs : List Nat) (j acc : Nat) : Prop := unionD xs 0 = unionD (xs.drop j) acc ∧ acc < 18446744073709551616
section
set_option maxRecDepth 100000
set_option maxHeartbeats 4000000
variable {w0 w : World} {S : Sg} {a f c : Option Addr} {ca cf cc : Nat} {r : St} {Pr : Nat → Prop} {b m0 m1 m2 m3 vb rb : Nat} {rs : List Nat}
theorem mtdivide_any (E : EnvM w0 S a f c ca cf cc Pr) (KW : Keep NoF w0 w) (hR : RdW w S a f c ca cf cc r Pr b m0 m1 m2 m3 vb rb rs) (l : List (List UInt8)) (A : Option Addr) (lc n : Nat) (hrd : Rd w (.slice A l.length lc) 1 l.length (strs (l.map txt)))
    (hln : l.length = n + 2) (hn : n ≤ 100000) (hls : ∀ x ∈ l, x.length ≤ 100000) :
    Calls Tryz.prog 72 #[.pointer (some ⟨b, 0, none⟩), .slice A (n + 2 : Nat) lc] w (RPost S a f c ca cf cc Pr b m0 m1 m2 m3 (divideP S r l) w) := by
  obtain ⟨-, hc1, bl, off, rfl, hcells⟩ := hrd.at_ (by omega)
  have x1 := hcells 1 _ (strs_get (by omega))
  -- the rest of the items
  obtain ⟨A2, c2, hA2, HR2⟩ : ∃ (A2 : Option Addr) (c2 : Nat), (∀ W, (Instr.slice 22 (.slice (some ⟨bl, off, none⟩) (n + 2 : Nat) lc) (some (.int .i64 2)) none none).run Tryz.prog W = .ok (.slice A2 n c2) W) ∧ Hid (Rd w (.slice A2 n c2) 1 n (strs ((l.drop 2).map txt))) := by
    have hsz : ∀ W, (sizeOf (Tryz.prog.elem 22)).run Tryz.prog W = .ok 1 W := fun W => by kernel_rfl
    have hel : Tryz.prog.underlying 22 = some (.slice (Tryz.prog.elem 22)) := by kernel_rfl
    have hs : ∀ W, (Instr.slice 22 (.slice (some ⟨bl, off, none⟩) (n + 2 : Nat) lc) (some (.int .i64 2)) none none).run Tryz.prog W = .ok (sliced (some ⟨bl, off, none⟩) 2 (n + 2) lc 1) W := fun W => by
      rw [run_slice_l W 22 _ _ _ hel .i64 2 (by decide) (by omega), hsz]
      rfl
    by_cases h2 : lc = 2
    · refine ⟨some ⟨bl, off, none⟩, 0, fun W => ?_, Lib.hid ?_⟩
      · rw [hs]
        simp [sliced, h2]
      · have : n = 0 := by omega
        subst this
        refine ⟨by simp [strs, hln], _, _, rfl, by omega, fun h => absurd h (by omega)⟩
    · refine ⟨some ⟨bl, off + 2, none⟩, lc - 2, fun W => ?_, Lib.hid ?_⟩
      · rw [hs]
        simp [sliced, h2, Addr.add]
      · by_cases hn0 : 0 < n
        · have := rd_drop (k := 2) (c := lc) hln hcells (by omega) (by omega)
          rwa [Nat.add_sub_cancel] at this
        · have : n = 0 := by omega
          subst this
          exact ⟨by simp [strs, hln], _, _, rfl, by omega, fun h => absurd h (by omega)⟩
  have i1 : (1 : Int) < (n : Int) + 2 := by omega
  have b0 : w.cell? ⟨b, 0, none⟩ = some (.slice a S.A.length ca) := hR.B.cell 0
  have b1 : w.cell? ⟨b, 1, none⟩ = some (.slice f S.F.length cf) := hR.B.cell 1
  have b2 : w.cell? ⟨b, 2, none⟩ = some (.slice c S.C.length cc) := hR.B.cell 2
  have HF := Lib.hid fun W (hk : Keep NoF w W) => Agent_any S a f c ca cf cc (txt (itAt l 1)) W (E.sig.keep (KW.trans hk fun _ _ h => h)) (E.tab.keep0 (KW.trans hk fun _ _ h => h))
  have K0 : Keep NoF w w.drew := (Keep.refl _ _).drew
  obtain ⟨q, hq⟩ : ∃ q, divideP S r l = q := ⟨_, rfl⟩
  have HQ := Lib.hid hq
  have HOK : Hid (Mt.Ok S q.1) := Lib.hid (by have := (ok_divide l hR.ok).1; rwa [hq] at this)
  rw [hq]
  have HE := Lib.hid E
  have HRW := Lib.hid hR
  have HC := findS_cases S S.A (txt (itAt l 1))
  clear hcells hrd E hR hq
  unfold divideP at HQ
  simp only at HQ
  generalize findS S S.A (txt (itAt l 1)) = i at *
  rcases HC with rfl | ⟨k, rfl, hk⟩
  · obtain rfl := HQ.out.symm.trans (if_pos (by decide))
    clear HQ HR2 hA2
    go_enter Tryz.func72, Tryz.ntmps72
    go_upto_region 1 with (fail)
    go_region_held3 (fun w' => w'.cell? ⟨b, 0, none⟩ = some (.slice a S.A.length ca) ∧ w'.cell? ⟨b, 1, none⟩ = some (.slice f S.F.length cf) ∧ w'.cell? ⟨b, 2, none⟩ = some (.slice c S.C.length cc) ∧ w'.cell? ⟨bl, off + 1, none⟩ = some (.string (txt (itAt l 1)))) (go_keep)
      ((go_at_call 106; (with_reducible refine (HF.out _ K0).mono ?_); rintro e w1 ⟨rfl, hk1⟩
        have K1 := hk1.undrew
        have d0 : w1.cell? ⟨b, 0, none⟩ = some (.slice a S.A.length ca) := K1.cellv b0 fun h => h
        have d1 : w1.cell? ⟨b, 1, none⟩ = some (.slice f S.F.length cf) := K1.cellv b1 fun h => h
        have d2 : w1.cell? ⟨b, 2, none⟩ = some (.slice c S.C.length cc) := K1.cellv b2 fun h => h
        have y1 : w1.cell? ⟨bl, off + 1, none⟩ = some (.string (txt (itAt l 1))) := K1.cellv x1 fun h => h))
    go_wp2
    go_ret
    exact ⟨rfl, K1.mono fun _ _ h => h.elim, fun h => absurd h (show ¬ (5 : Int) = 0 by decide)⟩
  · have HQ1 := Lib.hid (HQ.out.symm.trans (if_neg (by omega)))
    simp only [Int.toNat_natCast] at HQ1
    clear HQ
    have hl3 : (l.drop 2).length = n := by simp [hln]
    have hls2 : ∀ x ∈ l.drop 2, x.length ≤ 100000 := fun x hx => hls x (List.mem_of_mem_drop hx)
    have hsl := setsP_len (n := r.W) (l := l.drop 2)
    have hsb : ∀ x ∈ (setsP r.W (l.drop 2)).1, x < 2 ^ r.W := fun x hx => setsP_lt x hx
    have HS := Lib.hid fun W (hk : Keep NoF w W) => mtsets_any b r.W HRW.out.ok.w64 (l.drop 2) A2 c2 W (by have := HR2.out.kept hk fun _ _ h => h; rw [hl3]; exact this) (by omega) hls2 (hk.cellv (HRW.out.B.cell 3) fun h => h) (HE.out.wtab.keep0 (KW.trans hk fun _ _ h => h))
    rw [hl3] at HS hsl
    have HSL := Lib.hid hsl
    have HSB := Lib.hid hsb
    clear hsl hls2 hls hl3 HR2 hsb
    generalize setsP r.W (l.drop 2) = sp at *
    obtain ⟨xs, e⟩ := sp
    simp only at HSL HSB HQ1
    by_cases he : e = 0
    · subst he
      have HQ2 := Lib.hid (HQ1.out.trans (if_neg (by decide)))
      have hxl : xs.length = n := HSL.out rfl
      clear HQ1 HSL
      subst hxl
      go_enter Tryz.func72, Tryz.ntmps72
      go_upto_region 1 with (fail)
      go_region_held3 (fun w' => w'.cell? ⟨b, 0, none⟩ = some (.slice a S.A.length ca) ∧ w'.cell? ⟨b, 1, none⟩ = some (.slice f S.F.length cf) ∧ w'.cell? ⟨b, 2, none⟩ = some (.slice c S.C.length cc) ∧ w'.cell? ⟨bl, off + 1, none⟩ = some (.string (txt (itAt l 1)))) (go_keep)
        ((go_at_call 106; (with_reducible refine (HF.out _ K0).mono ?_); rintro e w1 ⟨rfl, hk1⟩
          have K1 := hk1.undrew
          have d0 : w1.cell? ⟨b, 0, none⟩ = some (.slice a S.A.length ca) := K1.cellv b0 fun h => h
          have d1 : w1.cell? ⟨b, 1, none⟩ = some (.slice f S.F.length cf) := K1.cellv b1 fun h => h
          have d2 : w1.cell? ⟨b, 2, none⟩ = some (.slice c S.C.length cc) := K1.cellv b2 fun h => h
          have y1 : w1.cell? ⟨bl, off + 1, none⟩ = some (.string (txt (itAt l 1))) := K1.cellv x1 fun h => h))
      go_upto_region 8 with (go_at_call 105; (with_reducible refine (HS.out _ K1).mono ?_); rintro e2 w2 ⟨xA, xc, rfl, ho2, hk2⟩; have K2 := K1.trans hk2 fun _ _ h => h)
      have hW64 := HRW.out.ok.w64
      have HXB : Hid (∀ (j : Nat) (h : j < xs.length), xs[j] < 2 ^ r.W ∧ xs[j] < 18446744073709551616) := Lib.hid fun j h => by
        have h1 := HSB.out _ (List.getElem_mem h)
        have := Nat.pow_le_pow_right (n := 2) (by omega) hW64
        exact ⟨h1, by omega⟩
      have HXW : Hid (∀ j, j < w.heap.size → ∀ xg, (Value.slice xA xs.length xc).ownBlock = some xg → xg ≠ j) := Lib.hid fun j hj xg hx e => by
        have h1 := (ho2.lt xg hx).1
        have := K1.size
        omega
      have HRX := Lib.hid (Rd.of_own ho2)
      clear HSB
      go_wp2
      go_loop [8, 38] (fun v8 v38 => ∃ j acc : Nat, v38 = .int .i64 j ∧ j ≤ xs.length ∧ v8 = .int .u64 acc ∧ Hid (UnP xs j acc)) (fun _ v => xs.length - (intOf v).toNat)
      case atStart => exact ⟨0, 0, rfl, by omega, rfl, Lib.hid ⟨rfl, by decide⟩⟩
      case round =>
        obtain ⟨j, acc, rfl, hj, rfl, HU⟩ := hrel
        have hacc := HU.out.2
        by_cases hlt : j < xs.length
        · obtain ⟨-, hcx, xg, xo, rfl, hxc⟩ := HRX.out.at_ (by omega)
          have hxj := hxc j (.int .u64 (xs[j] : Int)) (by simp [u6, List.getElem?_eq_getElem hlt])
          have hx64 := (HXB.out j hlt).2
          have HSTEP : Hid (unionD xs 0 = if acc &&& xs[j] = 0 then unionD (xs.drop (j + 1)) (acc ||| xs[j]) else none) := Lib.hid (by rw [HU.out.1, List.drop_eq_getElem_cons hlt, unionD_cons])
          have hor64 := Nat.or_lt_two_pow (n := 64) hacc hx64
          have hand := andZ hacc hx64
          have hor := orZ hacc hx64
          clear hxc HU
          generalize xs[j] = x at *
          have hj2 : (j : Int) < (xs.length : Int) := by omega
          by_cases hz : acc &&& x = 0
          · rw [hz] at hand
            have HS2 := Lib.hid (HSTEP.out.trans (if_pos hz))
            clear HSTEP hz
            go_wp2
            go_round
            case rel => exact ⟨j + 1, acc ||| x, by go_num, by omega, rfl, Lib.hid ⟨HS2.out, hor64⟩⟩
            case measure => simp only [intOf]; omega
          · have hne : (((acc &&& x : Nat) : Int) != 0) = true := by simpa using hz
            obtain rfl := HQ2.out.trans (if_pos (HSTEP.out.trans (if_neg hz)))
            clear HSTEP hz HQ2
            generalize acc &&& x = y at *
            go_wp2
            go_ret
            exact ⟨rfl, K2.mono fun _ _ h => h.elim, fun h => absurd h (show ¬ (7 : Int) = 0 by decide)⟩
        · obtain rfl : j = xs.length := by omega
          have HQ3 := Lib.hid (HQ2.out.trans (if_neg (by rw [HU.out.1, List.drop_length]; simp [unionD])))
          clear HQ2 HU hacc
          have htk : tinyI k := by have := HE.out.sig.lA; unfold tinyI; omega
          have hlk2 := (HRW.out.mb.keep K2).so.1.look encNi Tryz.underlying63 (zeroMtBool w2) htk false
          have hlk3 := (HRW.out.mb.keep K2).ce.look encNi Tryz.underlying63 (zeroMtBool w2) htk false
          simp only [mp_look, Bool.false_eq_true, if_false] at hlk2 hlk3
          unfold niV at hlk2 hlk3
          have d8 : w2.cell? ⟨b, 8, none⟩ = some (.map (some m2)) := K2.cellv (HRW.out.B.cell 8) fun h => h
          have d9 : w2.cell? ⟨b, 9, none⟩ = some (.map (some m3)) := K2.cellv (HRW.out.B.cell 9) fun h => h
          have HTK := Lib.hid htk
          clear htk
          obtain ⟨so1, hso⟩ : ∃ v, r.so k = v := ⟨_, rfl⟩
          obtain ⟨ce1, hce⟩ : ∃ v, r.ce k = v := ⟨_, rfl⟩
          rw [hso] at hlk2 HQ3
          rw [hce] at hlk3 HQ3
          clear hso hce
          cases so1 with
          | true =>
            obtain rfl := HQ3.out.trans (if_pos (by simp))
            clear HQ3
            go_wp2
            go_ret
            exact ⟨rfl, K2.mono fun _ _ h => h.elim, fun h => absurd h (show ¬ (7 : Int) = 0 by decide)⟩
          | false =>
            cases ce1 with
            | true =>
              obtain rfl := HQ3.out.trans (if_pos (by simp))
              clear HQ3
              go_wp2
              go_ret
              exact ⟨rfl, K2.mono fun _ _ h => h.elim, fun h => absurd h (show ¬ (7 : Int) = 0 by decide)⟩
            | false =>
              obtain rfl := HQ3.out.trans (if_neg (by simp))
              clear HQ3
              have HR2 := Lib.hid (HRW.out.keep K2)
              go_upto_region 18 with (at_mapUpdate
                                      refine wpList_mapT ?_ HR2.out.mb.ce encNi Tryz.underlying63 HTK.out true (.tmp 67) (.tmp 68) (.const (.bool true)) ?_ ?_ ?_ ?_ ?_
                                      · rfl
                                      · rfl
                                      · rfl
                                      · rfl
                                      · rfl
                                      intro w5 hm5 hg5 hz5)
              have hRl : r.R.length = S.A.length := HRW.out.ok.a HRW.out.w0
              have hkR : k < r.R.length := by omega
              have hrs : k < rs.length := by rw [HR2.out.rl]; exact hk
              obtain ⟨g, hg⟩ : ∃ g, rs[k]? = some g := ⟨_, List.getElem?_eq_getElem hrs⟩
              have HG := Lib.hid hg
              have HR5 := Lib.hid (HR2.out.cell (mp_upd (d := fun _ => Classical.propDecidable _) hm5) hg5 hk)
              obtain ⟨old, hold⟩ : ∃ old, r.R.getD k [] = old := ⟨_, rfl⟩
              rw [hold] at HR5
              have hom : old ∈ r.R := by
                rw [← hold, List.getD_eq_getElem?_getD, List.getElem?_eq_getElem hkR]
                exact List.getElem_mem hkR
              have HOL : Hid (old.length = r.W) := Lib.hid (HRW.out.ok.rl _ hom)
              have HOB : Hid (∀ x ∈ old, x < 2 ^ r.W) := Lib.hid (HRW.out.ok.rb _ hom)
              have HROK := Lib.hid HRW.out.ok
              have HGW : Hid (g < w.heap.size) := Lib.hid (HRW.out.row k _ g (List.getElem?_eq_getElem hkR) hg).lt
              have N := Lib.hid HR2.out.nes
              have HBG : Hid (b ≠ g ∧ rb ≠ g) := Lib.hid (by have := N.out.2.2.2.1 g (List.mem_of_getElem? hg); exact ⟨this.1, this.2.1⟩)
              have HPG := Lib.hid (HR2.out.pv g (.inr (.inr (List.mem_of_getElem? hg))))
              have K5 : Keep (fun k => ¬ Pr k) w w5 := (K2.mono fun _ _ h => h.elim).grown hg5 fun j hj => .inl (by obtain rfl := Option.some.inj hj; exact HR2.out.mb.pr m3 (by simp))
              have K05 : Keep NoF w0 w5 := (KW.trans K5 (G := fun k => ¬ Pr k) fun i hi h => h (HE.out.pr i hi))
              have K25 : Keep (fun j => j = m3) w2 w5 := Keep.of_grown hg5 fun j hj => (Option.some.inj hj).symm
              have hm3w : m3 < w.heap.size := HRW.out.mb.ce.lt
              have e3 : w5.cell? ⟨b, 3, none⟩ = some (.int .i64 (r.W : Int)) := HR5.out.B.cell 3
              have HXC : Hid (∀ (j : Nat) (h : j < xs.length), ∃ xg xo, xA = some ⟨xg, xo, none⟩ ∧ xs.length ≤ xc ∧ w5.cell? ⟨xg, xo + j, none⟩ = some (.int .u64 (xs[j] : Int)) ∧ xg ≠ g) := Lib.hid fun j h => by
                obtain ⟨-, hcx, xg, xo, rfl, hxc⟩ := HRX.out.at_ (by omega)
                exact ⟨xg, xo, rfl, hcx, K25.cellv (hxc j _ (by simp [u6, List.getElem?_eq_getElem h])) (fun e => HXW.out m3 hm3w xg rfl e), HXW.out g HGW.out xg rfl⟩
              have HKR : Hid (Keep (fun j => j = g) w5 w5) := Lib.hid (Keep.refl _ _)
              have hkI0 : (0 : Int) ≤ (k : Int) := by omega
              have hkI1 : (k : Int) < (S.A.length : Int) := by omega
              clear hm5 hg5 hz5 HR2 hold hom hg hrs d8 d9 hlk2 hlk3 K25 hm3w
              go_upto_region 19 with (fail)
              clear e3
              go_loopw [74] (fun v wr => ∃ j : Nat, v = .int .i64 j ∧ j ≤ r.W ∧ Hid (RdW wr S a f c ca cf cc (divR r k (oneRow old j)) Pr b m0 m1 m2 m3 vb rb rs) ∧ Keep (fun i => i = g) w5 wr) (fun v _ => r.W - (intOf v).toNat)
              case atStart => exact ⟨0, rfl, by omega, HR5, HKR.out⟩
              case round =>
                obtain ⟨j, rfl, hj, HRj, hkr⟩ := hrel
                by_cases hlt : j < r.W
                · obtain ⟨t5, t6, hrow⟩ := HRj.out.rowat HG.out hkR
                  have hrl := oneRow_len (j := j) HOL.out hj
                  obtain ⟨ov, v7⟩ : ∃ ov : Nat, wr.cell? ⟨g, j, none⟩ = some (.int .u64 (ov : Int)) := ⟨(oneRow old j).getD j 0, (hrow.cell j).trans (by
                    have : j < (oneRow old j).length := by rw [hrl]; exact hlt
                    simp [u6, List.getD_eq_getElem?_getD, List.getElem?_eq_getElem this])⟩
                  have f7 := hrow.frozen j
                  have q5 : (wr.setCell ⟨g, j, none⟩ (.int .u64 (IntKind.u64.wrap (2 ^ j)))).cell? ⟨b, 5, none⟩ = some (.slice (some ⟨rb, 0, none⟩) S.A.length S.A.length) := (World.cell?_of_block (Below.heap_setCell _ _ _ _ HBG.out.1)).trans t5
                  have q6 : (wr.setCell ⟨g, j, none⟩ (.int .u64 (IntKind.u64.wrap (2 ^ j)))).cell? ⟨rb, k, none⟩ = some (.slice (some ⟨g, 0, none⟩) r.W r.W) := (World.cell?_of_block (Below.heap_setCell _ _ _ _ HBG.out.2)).trans t6
                  have HN := Lib.hid (HRj.out.rowset (wd := j) (x := 2 ^ j) (w' := (wr.setCell ⟨g, j, none⟩ (.int .u64 ((2 ^ j : Nat) : Int)))) HG.out (divR_ok HROK.out k (by rw [List.length_set]; exact hrl) (set_all_lt (oneRow_lt HOB.out hj) (Nat.pow_lt_pow_right (by omega) hlt))) hkR rfl)
                  rw [oneRow_step (by rw [HOL.out]; exact hlt), ← shl1 (k := j) (by omega)] at HN
                  have hKK : Keep (fun i => i = g) w5 (wr.setCell ⟨g, j, none⟩ (.int .u64 (IntKind.u64.wrap (2 ^ j)))) := hkr.setCell (p := ⟨g, j, none⟩) (.inl rfl) _
                  have HKK := Lib.hid hKK
                  have hjI0 : (0 : Int) ≤ (j : Int) := by omega
                  have hjI1 : (j : Int) < (r.W : Int) := by omega
                  clear hrow hrl hKK
                  go_upto_region 21 with (fail)
                  go_region_held3 (fun w' => w'.cell? ⟨b, 5, none⟩ = some (.slice (some ⟨rb, 0, none⟩) S.A.length S.A.length) ∧ w'.cell? ⟨rb, k, none⟩ = some (.slice (some ⟨g, 0, none⟩) r.W r.W)) (first | go_keep | exact ⟨q5, q6⟩) (fail)
                  go_wp2
                  go_roundw
                  case rel => exact ⟨j + 1, by go_num, by omega, Lib.hid (HN.out.keep (Keep.refl _ _).drew), HKK.out.drew⟩
                  case measure => simp only [intOf]; omega
                · obtain rfl : j = r.W := by omega
                  rw [oneRow_all HOL.out] at HRj
                  have HKJ := Lib.hid hkr
                  clear hkr hkI0 hkI1
                  obtain ⟨w6, rfl⟩ : ∃ w6 : World, w6 = wr := ⟨_, rfl⟩
                  go_wp2
                  go_loopw [92] (fun v wr => ∃ j : Nat, v = .int .i64 j ∧ j ≤ xs.length ∧ Hid (RdW wr S a f c ca cf cc (divR r k (cellRow r.W (xs.take j))) Pr b m0 m1 m2 m3 vb rb rs) ∧ Keep (fun i => i = g) w5 wr) (fun v _ => xs.length - (intOf v).toNat)
                  case atStart => exact ⟨0, rfl, by omega, HRj, HKJ.out⟩
                  case round =>
                    obtain ⟨j, rfl, hj, HRk, hkr⟩ := hrel
                    obtain ⟨w7, rfl⟩ : ∃ w7 : World, w7 = wr := ⟨_, rfl⟩
                    by_cases hlt : j < xs.length
                    · obtain ⟨xg, xo, rfl, hcx, hxj, hxg⟩ := HXC.out j hlt
                      have hx7 := hkr.cellv hxj hxg
                      obtain ⟨hxb, hx64⟩ := HXB.out j hlt
                      have hsn := cellRow_snoc (xs.take j) hxb HRW.out.ok.w64
                      rw [← List.take_succ_eq_append_getElem hlt] at hsn
                      have K07 : Keep NoF w0 w7 := K05.trans hkr (G := fun i => i = g) fun i hi e => absurd hi (by have := KW.size; have := HGW.out; have := HE.out.pr i hi; have := HPG.out; subst e; contradiction)
                      have HMB := Lib.hid (Ws.Members_any xs[j] hx64 w7 (HE.out.wtab.keep0 K07))
                      have HSN := Lib.hid hsn
                      have HXB2 := Lib.hid hxb
                      have hmw : ∀ i ∈ Ws.mem xs[j], i < r.W := fun i hi => by
                        have := (mem_iff hxb HRW.out.ok.w64).1 hi
                        by_cases hlt2 : i < r.W
                        · exact hlt2
                        · rw [Nat.testBit_lt_two_pow (Nat.lt_of_lt_of_le hxb (Nat.pow_le_pow_right (by omega) (by omega)))] at this
                          cases this
                      have HMW := Lib.hid hmw
                      have hml : (Ws.mem xs[j]).length ≤ 64 := Ws.mem_len _
                      have hx64' := hx64
                      have HKR7 := Lib.hid hkr
                      clear hxj hxb hx64 hsn hmw hkr
                      generalize hxx : xs[j] = x at *
                      clear hxx
                      have hj2 : (j : Int) < (xs.length : Int) := by omega
                      generalize Ws.mem x = ms at *
                      go_wp2_with (go_at_call 107; (with_reducible refine HMB.out.mono ?_); rintro e8 w8 ⟨mv, rfl, hom, hk8⟩
                                   obtain ⟨mA, mc, rfl⟩ := own_form hom
                                   have hz8 := hk8.size)
                      have HRM := Lib.hid (Rd.of_own hom)
                      have HMG : Hid (∀ xg, (Value.slice mA ms.length mc).ownBlock = some xg → xg ≠ g) := Lib.hid fun xg hx e => by
                        have h1 := (hom.lt xg hx).1
                        have := HGW.out
                        have := K2.size
                        have := K5.size
                        have := HKR7.out.size
                        omega
                      have HR8 := Lib.hid (HRk.out.keep hk8)
                      have HK8 : Hid (Keep (fun i => i = g) w5 w8) := Lib.hid (HKR7.out.trans hk8 fun _ _ h => h.elim)
                      have HK88 : Hid (Keep (fun i => i = g) w8 w8) := Lib.hid (Keep.refl _ _)
                      clear hom hk8
                      go_loopw [99] (fun v wr => ∃ i : Nat, v = .int .i64 i ∧ i ≤ ms.length ∧ Hid (RdW wr S a f c ca cf cc (divR r k (setAll (cellRow r.W (xs.take j)) x (ms.take i))) Pr b m0 m1 m2 m3 vb rb rs) ∧ Keep (fun i => i = g) w8 wr) (fun v _ => ms.length - (intOf v).toNat)
                      case atStart => exact ⟨0, rfl, by omega, HR8, HK88.out⟩
                      case round =>
                        obtain ⟨i, rfl, hi, HRi, hki⟩ := hrel
                        by_cases hlt3 : i < ms.length
                        · obtain ⟨-, hcm, mg, mo, rfl, hmc⟩ := HRM.out.at_ (by omega)
                          have hmi := hki.cellv (hmc i (.int .i64 (ms[i] : Int)) (by simp [List.getElem?_eq_getElem hlt3, Ws.inV])) (HMG.out mg rfl)
                          have hmr := HMW.out _ (List.getElem_mem hlt3)
                          obtain ⟨t5, t6, hrow⟩ := HRi.out.rowat HG.out hkR
                          have hsl := setAll_len x (ms.take i) (cellRow r.W (xs.take j))
                          rw [cellRow_len] at hsl
                          have HT := Lib.hid (setAll_snoc (cellRow r.W (xs.take j)) x (ms.take i) ms[i])
                          rw [← List.take_succ_eq_append_getElem hlt3] at HT
                          clear hmc
                          generalize ms[i] = m at *
                          obtain ⟨ov, v7⟩ : ∃ ov : Nat, wr.cell? ⟨g, m, none⟩ = some (.int .u64 (ov : Int)) := ⟨(setAll (cellRow r.W (xs.take j)) x (ms.take i)).getD m 0, (hrow.cell m).trans (by
                            have : m < (setAll (cellRow r.W (xs.take j)) x (ms.take i)).length := by rw [hsl]; exact hmr
                            simp [u6, List.getD_eq_getElem?_getD, List.getElem?_eq_getElem this])⟩
                          have f7 := hrow.frozen m
                          have HBD : Hid (∀ y ∈ setAll (cellRow r.W (xs.take j)) x (ms.take i), y < 2 ^ r.W) := Lib.hid fun y hy => by
                            exact HRi.out.ok.rb _ (List.mem_iff_getElem?.2 ⟨k, by simp only [divR, List.getElem?_set_self hkR]⟩) y hy
                          have HN := Lib.hid (HRi.out.rowset (wd := m) (x := x) (w' := (wr.setCell ⟨g, m, none⟩ (.int .u64 (x : Int)))) HG.out (divR_ok HROK.out k (by rw [List.length_set]; exact hsl) (set_all_lt HBD.out HXB2.out)) hkR rfl)
                          rw [← HT.out] at HN
                          have HKK := Lib.hid (hki.setCell (p := ⟨g, m, none⟩) (.inl rfl) (.int .u64 (x : Int)))
                          have hI0 : (0 : Int) ≤ (m : Int) := by omega
                          have hI1 : (m : Int) < (r.W : Int) := by omega
                          have hkI0 : (0 : Int) ≤ (k : Int) := by omega
                          have hkI1 : (k : Int) < (S.A.length : Int) := by omega
                          have hi2 : (i : Int) < (ms.length : Int) := by omega
                          clear hrow hki hsl
                          go_wp2
                          go_roundw
                          case rel => exact ⟨i + 1, by go_num, by omega, HN, HKK.out⟩
                          case measure => simp only [intOf]; omega
                        · obtain rfl : i = ms.length := by omega
                          rw [List.take_length, HSN.out] at HRi
                          have HKI := Lib.hid hki
                          clear hki
                          go_wp2
                          go_roundw
                          case rel => exact ⟨j + 1, by go_num, by omega, HRi, HK8.out.trans HKI.out fun _ _ h => h⟩
                          case measure => simp only [intOf]; omega
                    · obtain rfl : j = xs.length := by omega
                      rw [List.take_length] at HRk
                      go_wp2
                      go_ret
                      refine ⟨rfl, ?_, fun _ => ⟨vb, rb, rs, HRk.out⟩⟩
                      exact K5.trans hkr fun i _ e => e ▸ HPG.out
    · obtain rfl := HQ1.out.trans (if_pos he)
      have he' : (e != 0) = true := by simpa using he
      clear HQ1 HSL HSB
      go_enter Tryz.func72, Tryz.ntmps72
      go_upto_region 1 with (fail)
      go_region_held3 (fun w' => w'.cell? ⟨b, 0, none⟩ = some (.slice a S.A.length ca) ∧ w'.cell? ⟨b, 1, none⟩ = some (.slice f S.F.length cf) ∧ w'.cell? ⟨b, 2, none⟩ = some (.slice c S.C.length cc) ∧ w'.cell? ⟨bl, off + 1, none⟩ = some (.string (txt (itAt l 1)))) (go_keep)
        ((go_at_call 106; (with_reducible refine (HF.out _ K0).mono ?_); rintro e w1 ⟨rfl, hk1⟩
          have K1 := hk1.undrew
          have d0 : w1.cell? ⟨b, 0, none⟩ = some (.slice a S.A.length ca) := K1.cellv b0 fun h => h
          have d1 : w1.cell? ⟨b, 1, none⟩ = some (.slice f S.F.length cf) := K1.cellv b1 fun h => h
          have d2 : w1.cell? ⟨b, 2, none⟩ = some (.slice c S.C.length cc) := K1.cellv b2 fun h => h
          have y1 : w1.cell? ⟨bl, off + 1, none⟩ = some (.string (txt (itAt l 1))) := K1.cellv x1 fun h => h))
      go_wp2_with (go_at_call 105; (with_reducible refine (HS.out _ K1).mono ?_); rintro e2 w2 ⟨xA, xc, rfl, ho2, hk2⟩)
      go_ret
      exact ⟨rfl, (K1.trans hk2 fun _ _ h => h).mono fun _ _ h => h.elim, fun h => absurd h he⟩
end
end Go.Proofs.YtmnhgeggojgflaaGreatDoor
