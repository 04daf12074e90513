/- The text of a model: how the reader reads the line of a fact. Conditions: the line has the form of such a line. -/
import Derived.Test.YtmnhgeggojgflaaGreatDoorMtJ
import Derived.Deep.RegionHeld3
import Derived.Deep.Cut
set_option linter.unusedVariables false
set_option linter.unusedSimpArgs false
namespace Go.Proofs.YtmnhgeggojgflaaGreatDoor
open Go.RowKit
open Mt
attribute [local go_sem] Oper.semAt_some
theorem findS_cases (S : Sg) (l : List ByteArray) (x : ByteArray) : findS S l x = -1 ∨ ∃ k : Nat, findS S l x = (k : Int) ∧ k < l.length := by
  unfold findS
  split
  · rcases idx_cases l x with ⟨h, -⟩ | ⟨k, h, h2, -⟩
    · exact .inl h
    · exact .inr ⟨k, h, h2⟩
  · exact .inl rfl
theorem strs_get {l : List (List UInt8)} {k : Nat} (h : k < l.length) : (strs (l.map txt))[k]? = some (.string (txt (itAt l k))) := by
  unfold itAt
  rw [List.getD_eq_getElem?_getD, List.getElem?_eq_getElem h]
  simp [strs, List.getElem?_eq_getElem h]
theorem rd_drop {w : World} {bl off n c k : Nat} {l : List (List UInt8)} (hl : l.length = n) (h : ∀ (j : Nat) u, (strs (l.map txt))[j]? = some u → w.cell? ⟨bl, off + j, none⟩ = some u) (hc : n ≤ c) (hk : k < n) : Rd w (.slice (some ⟨bl, off + k, none⟩) (n - k) (c - k)) 1 (n - k) (strs ((l.drop k).map txt)) := by
  refine ⟨by simp [strs, hl], _, _, rfl, by omega, fun _ => ⟨bl, off + k, rfl, fun j u hu => ?_⟩⟩
  rw [Nat.add_assoc]
  refine h (k + j) u ?_
  rw [List.map_drop] at hu
  unfold strs at hu ⊢
  rwa [List.map_drop, List.getElem?_drop] at hu
theorem mp_upd {κ : Type} [D : DecidableEq κ] {Ok : κ → Prop} {enc : κ → Value} {t : TypeId} {w : World} {m : Nat} {f : κ → Bool} {x : κ} {d : ∀ y, Decidable (y = x)} (h : MapT Tryz.prog t enc .bool Ok w m (fun y => @ite _ (y = x) (d y) (some true) (mp f y))) : MapT Tryz.prog t enc .bool Ok w m (mp fun y => @decide (y = x) (D y x) || f y) :=
  h.congr fun y => @mp_put κ D f x d y
theorem mpS_upd {κ : Type} [D : DecidableEq κ] {Ok : κ → Prop} {enc : κ → Value} {t : TypeId} {w : World} {m : Nat} {f : κ → Bool} {x : κ} {d : ∀ y, Decidable (y = x)} (h : MapS Tryz.prog t enc .bool Ok w m (fun y => @ite _ (y = x) (d y) (some true) (mp f y))) : MapS Tryz.prog t enc .bool Ok w m (mp fun y => @decide (y = x) (D y x) || f y) :=
  h.congr fun y => @mp_put κ D f x d y
section
variable {w w1 : World} {S : Sg} {a f c : Option Addr} {ca cf cc : Nat} {r : St} {Pr : Nat → Prop} {b m0 m1 m2 m3 vb rb : Nat} {rs : List Nat}
theorem RdW.nes (h : RdW w S a f c ca cf cc r Pr b m0 m1 m2 m3 vb rb rs) : b ≠ vb ∧ b ≠ rb ∧ vb ≠ rb ∧ (∀ g ∈ rs, b ≠ g ∧ rb ≠ g ∧ vb ≠ g) ∧ ∀ m, m = m0 ∨ m = m1 ∨ m = m2 ∨ m = m3 → m ≠ b ∧ m ≠ vb ∧ m ≠ rb ∧ ∀ g ∈ rs, m ≠ g := by
  have hrow : ∀ g ∈ rs, ∃ l, Bk w g 45 (u6 l).toArray := fun g hg => by
    obtain ⟨k, hk, rfl⟩ := List.getElem_of_mem hg
    have hkl : k < r.R.length := by rw [h.ok.a h.w0, ← h.rl]; exact hk
    exact ⟨_, h.row k _ _ (List.getElem?_eq_getElem hkl) (List.getElem?_eq_getElem hk)⟩
  refine ⟨h.B.ne_type h.V (by decide), h.B.ne_type h.R (by decide), h.V.ne_type h.R (by decide), fun g hg => ?_, fun m hm => ?_⟩
  · obtain ⟨l, hl⟩ := hrow g hg
    exact ⟨h.B.ne_type hl (by decide), h.R.ne_type hl (by decide), fun e => h.nv (e ▸ hg)⟩
  · have key : ∀ g t cs, Bk w g t cs → m ≠ g := fun g t cs hb => by
      rcases hm with rfl | rfl | rfl | rfl
      · exact h.mb.fa.ne_bk hb
      · exact h.mb.at_.1.ne_bk hb
      · exact h.mb.so.1.ne_bk hb
      · exact h.mb.ce.ne_bk hb
    exact ⟨key _ _ _ h.B, key _ _ _ h.V, key _ _ _ h.R, fun g hg => by obtain ⟨l, hl⟩ := hrow g hg; exact key _ _ _ hl⟩
theorem RdW.fact (h : RdW w S a f c ca cf cc r Pr b m0 m1 m2 m3 vb rb rs) {k x : Nat} {w' : World} (hok : Mt.Ok S { r with fa := fun j => decide (j = k) || r.fa j, V := r.V.set k x })
    (hm : MapT Tryz.prog 3 niV .bool tinyI w1 m0 (mp fun j => decide (j = k) || r.fa j)) (hg : w.grownBy w1 (some m0)) (hw : w' = w1.setCell ⟨vb, k, none⟩ (.int .u64 (x : Int))) :
    RdW w' S a f c ca cf cc { r with fa := fun j => decide (j = k) || r.fa j, V := r.V.set k x } Pr b m0 m1 m2 m3 vb rb rs := by
  subst hw
  obtain ⟨n1, n2, n3, n4, n5⟩ := h.nes
  obtain ⟨p1, p2, p3, p4⟩ := n5 m0 (.inl rfl)
  have same : ∀ j, j < w.heap.size → j ≠ m0 → j ≠ vb → (w1.setCell ⟨vb, k, none⟩ (.int .u64 (x : Int))).heap[j]? = w.heap[j]? := fun j hj h1 h2 =>
    (Below.heap_setCell _ _ _ _ h2).trans (hg.block j hj fun e => h1 (Option.some.inj e))
  refine ⟨⟨hm.block (Below.heap_setCell _ _ _ _ p2), h.mb.at_.block (same _ h.mb.at_.1.lt h.mb.n01.symm (n5 m1 (by simp)).2.1), h.mb.so.block (same _ h.mb.so.1.lt h.mb.n02.symm (n5 m2 (by simp)).2.1), h.mb.ce.block (same _ h.mb.ce.lt h.mb.n03.symm (n5 m3 (by simp)).2.1), h.mb.n01, h.mb.n02, h.mb.n03, h.mb.n12, h.mb.n13, h.mb.n23, h.mb.pr⟩,
    h.B.block (same _ h.B.lt p1.symm n1), ?_, h.R.block (same _ h.R.lt p3.symm n3.symm), h.rl, fun j l g h1 h2 => ?_, h.nv, h.nd, h.pv, hok, h.w0⟩
  · have := (h.V.grown hg (fun e => p2 (Option.some.inj e).symm)).put k (.int .u64 (x : Int))
    rwa [u6_arr] at this
  · have hb := h.row j l g h1 h2
    have hm := List.mem_of_getElem? h2
    exact hb.block (same _ hb.lt (p4 g hm).symm (n4 g hm).2.2.symm)
end
section
set_option maxRecDepth 100000
set_option maxHeartbeats 2000000
variable {w0 w : World} {S : Sg} {a f c : Option Addr} {ca cf cc : Nat} {r : St} {Pr : Nat → Prop} {b m0 m1 m2 m3 vb rb : Nat} {rs : List Nat}
theorem mtfact_any (E : EnvM w0 S a f c ca cf cc Pr) (KW : Keep NoF w0 w) (hR : RdW w S a f c ca cf cc r Pr b m0 m1 m2 m3 vb rb rs) (l : List (List UInt8)) (A : Option Addr) (lc : Nat) (hrd : Rd w (.slice A l.length lc) 1 l.length (strs (l.map txt)))
    (hl3 : l.length = 3) (hls : ∀ x ∈ l, x.length ≤ 100000) :
    Calls Tryz.prog 70 #[.pointer (some ⟨b, 0, none⟩), .slice A 3 lc] w (RPost S a f c ca cf cc Pr b m0 m1 m2 m3 (factP S r l) w) := by
  obtain ⟨-, hc1, bl, off, rfl, hcells⟩ := hrd.at_ (by omega)
  have x1 := hcells 1 _ (strs_get (by omega))
  have HR2 := Lib.hid (rd_drop (k := 2) (c := lc) hl3 hcells (by omega) (by omega))
  have b0 : w.cell? ⟨b, 0, none⟩ = some (.slice a S.A.length ca) := hR.B.cell 0
  have b1 : w.cell? ⟨b, 1, none⟩ = some (.slice f S.F.length cf) := hR.B.cell 1
  have b2 : w.cell? ⟨b, 2, none⟩ = some (.slice c S.C.length cc) := hR.B.cell 2
  have HF := Lib.hid fun W (hk : Keep NoF w W) => Fact_any S a f c ca cf cc (txt (itAt l 1)) W (E.sig.keep (KW.trans hk fun _ _ h => h)) (E.tab.keep0 (KW.trans hk fun _ _ h => h))
  have K0 : Keep NoF w w.drew := (Keep.refl _ _).drew
  obtain ⟨q, hq⟩ : ∃ q, factP S r l = q := ⟨_, rfl⟩
  have HQ := Lib.hid hq
  have HOK : Hid (Mt.Ok S q.1) := Lib.hid (by have := (ok_fact l hR.ok).1; rwa [hq] at this)
  rw [hq]
  have HE := Lib.hid E
  have HRW := Lib.hid hR
  have HC := findS_cases S S.F (txt (itAt l 1))
  clear hcells hrd E hR hq
  unfold factP at HQ
  simp only at HQ
  generalize findS S S.F (txt (itAt l 1)) = i at *
  rcases HC with rfl | ⟨k, rfl, hk⟩
  · obtain rfl := HQ.out.symm.trans (if_pos (by decide))
    clear HQ HR2
    go_enter Tryz.func70, Tryz.ntmps70
    go_upto_region 1 with (fail)
    go_region_held3 (fun w' => w'.cell? ⟨b, 0, none⟩ = some (.slice a S.A.length ca) ∧ w'.cell? ⟨b, 1, none⟩ = some (.slice f S.F.length cf) ∧ w'.cell? ⟨b, 2, none⟩ = some (.slice c S.C.length cc) ∧ w'.cell? ⟨bl, off + 1, none⟩ = some (.string (txt (itAt l 1)))) (go_keep)
      ((go_at_call 104; (with_reducible refine (HF.out _ K0).mono ?_); rintro e w1 ⟨rfl, hk1⟩
        have K1 := hk1.undrew
        have d0 : w1.cell? ⟨b, 0, none⟩ = some (.slice a S.A.length ca) := K1.cellv b0 fun h => h
        have d1 : w1.cell? ⟨b, 1, none⟩ = some (.slice f S.F.length cf) := K1.cellv b1 fun h => h
        have d2 : w1.cell? ⟨b, 2, none⟩ = some (.slice c S.C.length cc) := K1.cellv b2 fun h => h
        have y1 : w1.cell? ⟨bl, off + 1, none⟩ = some (.string (txt (itAt l 1))) := K1.cellv x1 fun h => h))
    go_wp2
    go_ret
    exact ⟨rfl, K1.mono fun _ _ h => h.elim, fun h => absurd h (show ¬ (5 : Int) = 0 by decide)⟩
  · have HQ1 := Lib.hid (HQ.out.symm.trans (if_neg (by omega)))
    clear HQ
    have hl2 : (l.drop 2).length = 1 := by simp [hl3]
    have hls2 : ∀ x ∈ l.drop 2, x.length ≤ 100000 := fun x hx => hls x (List.mem_of_mem_drop hx)
    have hsl := setsP_len (n := r.W) (l := l.drop 2)
    have HS := Lib.hid fun W (hk : Keep NoF w W) => mtsets_any b r.W HRW.out.ok.w64 (l.drop 2) (some ⟨bl, off + 2, none⟩) (lc - 2) W (by have := HR2.out.kept hk fun _ _ h => h; rw [hl2]; exact this) (by omega) hls2 (hk.cellv (HRW.out.B.cell 3) fun h => h) (HE.out.wtab.keep0 (KW.trans hk fun _ _ h => h))
    rw [hl2] at HS hsl
    have HSL := Lib.hid hsl
    clear hsl hls2 hls hl2 HR2
    generalize setsP r.W (l.drop 2) = sp at *
    obtain ⟨xs, e⟩ := sp
    simp only at HSL HQ1
    by_cases he : e = 0
    · subst he
      have HQ2 := Lib.hid (HQ1.out.trans (if_neg (by decide)))
      simp only [Int.toNat_natCast] at HQ2
      obtain ⟨x, rfl⟩ : ∃ x, xs = [x] := by
        have := HSL.out rfl
        match xs, this with
        | [x], _ => exact ⟨x, rfl⟩
      clear HQ1 HSL
      have htk : tinyI k := by have := HE.out.sig.lF; unfold tinyI; omega
      have HLK := Lib.hid fun W (hk : Keep NoF w W) => (HRW.out.mb.keep hk).fa.look encNi Tryz.underlying63 (zeroMtBool W) htk false
      simp only [mp_look, Bool.false_eq_true, if_false] at HLK
      have HTK := Lib.hid htk
      clear htk
      by_cases hfa : r.fa k = true
      · rw [hfa] at HLK
        obtain rfl := HQ2.out.trans (if_pos hfa)
        clear HQ2 hfa
        go_enter Tryz.func70, Tryz.ntmps70
        go_upto_region 1 with (fail)
        go_region_held3 (fun w' => w'.cell? ⟨b, 0, none⟩ = some (.slice a S.A.length ca) ∧ w'.cell? ⟨b, 1, none⟩ = some (.slice f S.F.length cf) ∧ w'.cell? ⟨b, 2, none⟩ = some (.slice c S.C.length cc) ∧ w'.cell? ⟨bl, off + 1, none⟩ = some (.string (txt (itAt l 1)))) (go_keep)
          ((go_at_call 104; (with_reducible refine (HF.out _ K0).mono ?_); rintro e w1 ⟨rfl, hk1⟩
            have K1 := hk1.undrew
            have d0 : w1.cell? ⟨b, 0, none⟩ = some (.slice a S.A.length ca) := K1.cellv b0 fun h => h
            have d1 : w1.cell? ⟨b, 1, none⟩ = some (.slice f S.F.length cf) := K1.cellv b1 fun h => h
            have d2 : w1.cell? ⟨b, 2, none⟩ = some (.slice c S.C.length cc) := K1.cellv b2 fun h => h
            have y1 : w1.cell? ⟨bl, off + 1, none⟩ = some (.string (txt (itAt l 1))) := K1.cellv x1 fun h => h))
        go_wp2_with (go_at_call 105; (with_reducible refine (HS.out _ K1).mono ?_); rintro e2 w2 ⟨xA, xc, rfl, ho2, hk2⟩; have K2 := K1.trans hk2 fun _ _ h => h; have d6 : w2.cell? ⟨b, 6, none⟩ = some (.map (some m0)) := K2.cellv (HRW.out.B.cell 6) fun h => h; have hlk := HLK.out w2 K2; unfold niV at hlk)
        go_ret
        exact ⟨rfl, K2.mono fun _ _ h => h.elim, fun h => absurd h (show ¬ (7 : Int) = 0 by decide)⟩
      · rw [Bool.not_eq_true] at hfa
        rw [hfa] at HLK
        obtain rfl := HQ2.out.trans (if_neg (by rw [hfa]; simp))
        clear HQ2
        have HFA := Lib.hid hfa
        clear hfa
        go_enter Tryz.func70, Tryz.ntmps70
        go_upto_region 1 with (fail)
        go_region_held3 (fun w' => w'.cell? ⟨b, 0, none⟩ = some (.slice a S.A.length ca) ∧ w'.cell? ⟨b, 1, none⟩ = some (.slice f S.F.length cf) ∧ w'.cell? ⟨b, 2, none⟩ = some (.slice c S.C.length cc) ∧ w'.cell? ⟨bl, off + 1, none⟩ = some (.string (txt (itAt l 1)))) (go_keep)
          ((go_at_call 104; (with_reducible refine (HF.out _ K0).mono ?_); rintro e w1 ⟨rfl, hk1⟩
            have K1 := hk1.undrew
            have d0 : w1.cell? ⟨b, 0, none⟩ = some (.slice a S.A.length ca) := K1.cellv b0 fun h => h
            have d1 : w1.cell? ⟨b, 1, none⟩ = some (.slice f S.F.length cf) := K1.cellv b1 fun h => h
            have d2 : w1.cell? ⟨b, 2, none⟩ = some (.slice c S.C.length cc) := K1.cellv b2 fun h => h
            have y1 : w1.cell? ⟨bl, off + 1, none⟩ = some (.string (txt (itAt l 1))) := K1.cellv x1 fun h => h))
        go_upto_region 9 with (go_at_call 105; (with_reducible refine (HS.out _ K1).mono ?_); rintro e2 w2 ⟨xA, xc, rfl, ho2, hk2⟩; have K2 := K1.trans hk2 fun _ _ h => h; have d6 : w2.cell? ⟨b, 6, none⟩ = some (.map (some m0)) := K2.cellv (HRW.out.B.cell 6) fun h => h; have hlk := HLK.out w2 K2; unfold niV at hlk)
        have HR2 := Lib.hid (HRW.out.keep K2)
        go_upto_region 10 with (at_mapUpdate
                                refine wpList_mapT ?_ HR2.out.mb.fa encNi Tryz.underlying63 HTK.out true (.tmp 37) (.tmp 38) (.const (.bool true)) ?_ ?_ ?_ ?_ ?_
                                · rfl
                                · rfl
                                · rfl
                                · rfl
                                · rfl
                                intro w3 hm3 hg3 hz3)
        have N := Lib.hid HR2.out.nes
        have p0 : m0 ≠ b := (N.out.2.2.2.2 m0 (.inl rfl)).1
        have p1 : m0 ≠ vb := (N.out.2.2.2.2 m0 (.inl rfl)).2.1
        have B3 := HR2.out.B.grown hg3 fun e => p0 (Option.some.inj e).symm
        have V3 := HR2.out.V.grown hg3 fun e => p1 (Option.some.inj e).symm
        have hVl : r.V.length = S.F.length := HRW.out.ok.v HRW.out.w0
        have e4 : w3.cell? ⟨b, 4, none⟩ = some (.slice (some ⟨vb, 0, none⟩) S.F.length S.F.length) := B3.cell 4
        have v4 : w3.cell? ⟨vb, k, none⟩ = some (.int .u64 ((r.V.getD k 0 : Nat) : Int)) := (V3.cell k).trans (by simp [u6, List.getD_eq_getElem?_getD, List.getElem?_eq_getElem (show k < r.V.length by omega)])
        have f4 : w3.frozen? ⟨vb, k, none⟩ = false := V3.frozen k
        obtain ⟨-, hcx, xg, xo, rfl, hxc⟩ := (Rd.of_own ho2).at_ (by simp)
        have hx2 := hxc 0 (.int .u64 (x : Int)) rfl
        have hxm : xg ≠ m0 := fun e => by
          have h1 := (ho2.lt xg rfl).1
          have h2 := HRW.out.mb.fa.lt
          have := K1.size
          omega
        have x3 : w3.cell? ⟨xg, xo, none⟩ = some (.int .u64 (x : Int)) := hg3.cell hx2 (fun e => hxm (Option.some.inj e))
        have K3 : Keep (fun k => ¬ Pr k) w w3 := (K2.mono fun _ _ h => h.elim).grown hg3 fun j hj => .inl (by obtain rfl := Option.some.inj hj; exact HR2.out.mb.pr m0 (by simp))
        have HF4 := Lib.hid (fun w' hw => HR2.out.fact (k := k) (x := x) (w' := w') HOK.out (mp_upd (d := fun _ => Classical.propDecidable _) hm3) hg3 hw)
        have HPV := Lib.hid (HR2.out.pv vb (.inl rfl))
        have kI0 : (0 : Int) ≤ (k : Int) := by omega
        have kI1 : (k : Int) < (S.F.length : Int) := by omega
        have hcx' : (1 : Nat) ≤ xc := hcx
        have q4 : (w3.setCell ⟨vb, k, none⟩ (.int .u64 (x : Int))).cell? ⟨b, 4, none⟩ = some (.slice (some ⟨vb, 0, none⟩) S.F.length S.F.length) := (World.cell?_of_block (Below.heap_setCell _ _ _ _ N.out.1)).trans e4
        have hxv : xg ≠ vb := fun e => by
          have h1 := (ho2.lt xg rfl).1
          have h2 := HRW.out.V.lt
          have := K1.size
          omega
        have qx : (w3.setCell ⟨vb, k, none⟩ (.int .u64 (x : Int))).cell? ⟨xg, xo, none⟩ = some (.int .u64 (x : Int)) := (World.cell?_of_block (Below.heap_setCell _ _ _ _ hxv)).trans x3
        clear hm3 hg3 B3 V3 HR2 hxc hx2 hcx
        go_region_held3 (fun w' => w'.cell? ⟨b, 4, none⟩ = some (.slice (some ⟨vb, 0, none⟩) S.F.length S.F.length) ∧ w'.cell? ⟨xg, xo, none⟩ = some (.int .u64 (x : Int))) (first | go_keep | exact ⟨q4, qx⟩) (fail)
        go_wp2
        go_ret
        refine ⟨rfl, ((K3.setCell (p := ⟨vb, k, none⟩) (.inl HPV.out) _).drew), fun _ => ⟨vb, rb, rs, ?_⟩⟩
        exact (HF4.out _ rfl).keep (Keep.refl _ _).drew
    · obtain rfl := HQ1.out.trans (if_pos he)
      have he' : (e != 0) = true := by simpa using he
      clear HQ1 HSL
      go_enter Tryz.func70, Tryz.ntmps70
      go_upto_region 1 with (fail)
      go_region_held3 (fun w' => w'.cell? ⟨b, 0, none⟩ = some (.slice a S.A.length ca) ∧ w'.cell? ⟨b, 1, none⟩ = some (.slice f S.F.length cf) ∧ w'.cell? ⟨b, 2, none⟩ = some (.slice c S.C.length cc) ∧ w'.cell? ⟨bl, off + 1, none⟩ = some (.string (txt (itAt l 1)))) (go_keep)
        ((go_at_call 104; (with_reducible refine (HF.out _ K0).mono ?_); rintro e w1 ⟨rfl, hk1⟩
          have K1 := hk1.undrew
          have d0 : w1.cell? ⟨b, 0, none⟩ = some (.slice a S.A.length ca) := K1.cellv b0 fun h => h
          have d1 : w1.cell? ⟨b, 1, none⟩ = some (.slice f S.F.length cf) := K1.cellv b1 fun h => h
          have d2 : w1.cell? ⟨b, 2, none⟩ = some (.slice c S.C.length cc) := K1.cellv b2 fun h => h
          have y1 : w1.cell? ⟨bl, off + 1, none⟩ = some (.string (txt (itAt l 1))) := K1.cellv x1 fun h => h))
      go_wp2_with (go_at_call 105; (with_reducible refine (HS.out _ K1).mono ?_); rintro e2 w2 ⟨xA, xc, rfl, ho2, hk2⟩)
      go_ret
      exact ⟨rfl, (K1.trans hk2 fun _ _ h => h).mono fun _ _ h => h.elim, fun h => absurd h he⟩
end
end Go.Proofs.YtmnhgeggojgflaaGreatDoor
