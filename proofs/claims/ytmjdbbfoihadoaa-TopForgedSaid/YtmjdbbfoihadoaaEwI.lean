/- Evidence: what Explain does. Conditions: the slices' cells are those given; common does what is asked of it. -/
import Derived.Test.YtmjdbbfoihadoaaEwEG
import Derived.Test.YtmjdbbfoihadoaaFmH
set_option linter.unusedVariables false
set_option linter.unusedSimpArgs false
namespace Go.Proofs.Ytmjdbbfoihadoaa
open Go.RowKit
open Ev
open Fm (Nd checkE compactL)
attribute [local go_sem] Oper.semAt_some

/-- The list of sets that Explain reads. -/
noncomputable def setsL (M : Md) (f : List Nd) : List Nat := (setsN M f f.length).map (·.1)
/-- Steps in memory. -/
structure StR (w : World) (base : Nat) (E : List Rs) (sA : Option Addr) (sc : Nat) (ps : List (Option Addr × Nat)) : Prop where
  own : w.ownsRow base 40 5 (.slice sA E.length sc) E.length (rssC E ps)
  pl : ps.length = E.length
  fr : ∀ (i : Nat) (r : Rs) (p : Option Addr × Nat), E[i]? = some r → ps[i]? = some p → w.ownsRow base 3 1 (.slice p.1 r.fr.length p.2) r.fr.length (inZ r.fr)
theorem StR.keep {w w' : World} {base : Nat} {E : List Rs} {sA : Option Addr} {sc : Nat} {ps : List (Option Addr × Nat)} (h : StR w base E sA sc ps) (k : Keep NoF w w') : StR w' base E sA sc ps :=
  ⟨own_keep h.own fun j hj => k.block j (h.own.lt j hj).2 fun h => h, h.pl, fun i r p h1 h2 => own_keep (h.fr i r p h1 h2) fun j hj => k.block j ((h.fr i r p h1 h2).lt j hj).2 fun h => h⟩
theorem StR.evd {w : World} {base : Nat} {E : List Rs} {sA : Option Addr} {sc : Nat} {ps : List (Option Addr × Nat)} (h : StR w base E sA sc ps) (hst : ∀ r ∈ E, r.st < 18446744073709551616) (hle : E.length ≤ 1000000) (hlf : ∀ r ∈ E, r.fr.length ≤ 1000000) : EvdR w E sA sc ps :=
  ⟨Rd.of_own h.own, h.pl, fun k r p h1 h2 => Rd.of_own (h.fr k r p h1 h2), hst, hle, hlf⟩
theorem rd_of_bk {w : World} {b size n : Nat} {t : TypeId} {xs : List Value} (h : Bk w b t xs.toArray) (hl : xs.length = n * size) : Rd w (.slice (some ⟨b, 0, none⟩) n n) size n xs :=
  ⟨hl, _, _, rfl, Nat.le_refl _, fun _ => ⟨b, 0, rfl, fun j u hu => by rw [Nat.zero_add]; exact (h.cell j).trans (by simpa using hu)⟩⟩
theorem bk_new2 (w : World) (o : Obj) (t : TypeId) (cs : Array Value) : Bk ((w.alloc o).alloc (.cells cs t)) (w.heap.size + 1) t cs := by
  have := Bk.new (w.alloc o) t cs
  rwa [World.size_alloc] at this
/-- What the builder's making has brought about. -/
def ExpI (w1 : World) (M : Md) (va ra : Option Addr) (cv cr : Nat) (c : List Nd) (zA : Option Addr) (zn zc : Nat) (v11 : Value) (wc : World) : Prop :=
  ∃ (w0 : World) (b mb : Nat) (cA : Option Addr) (cc : Nat), v11 = .pointer (some ⟨b, 0, none⟩) ∧ Keep NoF w1 w0 ∧ Keep NoF w0 wc ∧ Rd w0 (.slice cA c.length cc) 6 c.length (fmC c) ∧ w0.heap[mb]? = some (.map #[] 0) ∧ b = w0.heap.size ∧ w1.heap.size ≤ mb ∧
    Bk wc b 65 #[.int .i64 M.W, .slice va M.V.length cv, .slice ra M.R.length cr, .slice cA c.length cc, .slice zA zn zc, .slice none 0 0, .map (some mb)]
section
set_option maxRecDepth 100000
set_option maxHeartbeats 4000000
variable {w : World} {M : Md} {va ra : Option Addr} {cv cr : Nat} {rs : List (Option Addr × Nat)}
theorem evExplain_bad (f : List Nd) (A : Option Addr) (c : Nat) (wd : Int) (hM : MdR w M va cv ra cr rs) (hll : f.length ≤ 9223372036854775807) (hrd : Rd w (.slice A f.length c) 6 f.length (fmC f)) (h : requestE M f ≠ 0) :
    Calls Try.prog 12 #[.agg #[.int .i64 M.W, .slice va M.V.length cv, .slice ra M.R.length cr], .int .i64 wd, .slice A f.length c] w fun e w' => e = .returned (.tuple #[.agg #[.slice none 0 0], .bool false, .int .i64 (requestE M f)]) ∧ Keep NoF w w' := by
  have k0 : Keep NoF w ((w.alloc (.cells #[.int .i64 M.W, .slice va M.V.length cv, .slice ra M.R.length cr] 25)).alloc (.cells #[.slice none 0 0] 29)) := ((Keep.refl _ _).alloc _).alloc _
  have HS := Lib.hid (ckSets_bad f A c (hM.keep k0) hll (hrd.kept k0 fun _ _ h => h) h)
  have hx : (requestE M f != 0) = true := by simpa using h
  have h1 := Bk.new (w.alloc (.cells #[.int .i64 M.W, .slice va M.V.length cv, .slice ra M.R.length cr] 25)) 29 #[.slice none 0 0]
  simp only [World.size_alloc] at h1
  have HB := Lib.hid h1
  clear h hM hrd h1
  generalize requestE M f = x at *
  generalize f.length = fl at *
  go_enter Try.func12, Try.ntmps12
  go_wp2_with (first
    | (go_at_call 8; (with_reducible refine HS.out.mono ?_); rintro e w1 ⟨rfl, K1⟩; have f1 := (HB.out.keep K1 fun h => h).frozen 0; have c1 := (HB.out.keep K1 fun h => h).cell 0; have cx := ((HB.out.keep K1 fun h => h).put 0 (.slice none 0 0)).cell 0))
  refine bodyPost_ret (v := .tuple #[.agg #[.slice none 0 0], .bool false, .int .i64 x]) (by simp [results, Try.results12, go_sem, cx]) rfl ?_
  exact ⟨rfl, (k0.trans K1 fun _ _ h => h).setCell (.inr (by simp)) _⟩
theorem evExplain_range (f : List Nd) (A : Option Addr) (c : Nat) (wd : Int) (hM : MdR w M va cv ra cr rs) (hrd : Rd w (.slice A f.length c) 6 f.length (fmC f)) (h : requestE M f = 0) (hwd : wd < 0 ∨ M.W ≤ wd) :
    Calls Try.prog 12 #[.agg #[.int .i64 M.W, .slice va M.V.length cv, .slice ra M.R.length cr], .int .i64 wd, .slice A f.length c] w fun e w' => e = .returned (.tuple #[.agg #[.slice none 0 0], .bool false, .int .i64 2]) ∧ Keep NoF w w' := by
  have k0 : Keep NoF w ((w.alloc (.cells #[.int .i64 M.W, .slice va M.V.length cv, .slice ra M.R.length cr] 25)).alloc (.cells #[.slice none 0 0] 29)) := ((Keep.refl _ _).alloc _).alloc _
  have HS := Lib.hid (ckSets_ok f A c (hM.keep k0) (hrd.kept k0 fun _ _ h => h) h)
  have h1 := Bk.new (w.alloc (.cells #[.int .i64 M.W, .slice va M.V.length cv, .slice ra M.R.length cr] 25)) 29 #[.slice none 0 0]
  have h2 := (Bk.new w 25 #[.int .i64 M.W, .slice va M.V.length cv, .slice ra M.R.length cr]).alloc (.cells #[.slice none 0 0] 29)
  simp only [World.size_alloc] at h1
  have HB := Lib.hid (And.intro h1 h2)
  clear h hM hrd h1 h2
  generalize f.length = fl at *
  go_enter Try.func12, Try.ntmps12
  by_cases h0 : wd < 0
  · have g0 : wd < 0 := h0
    go_wp2_with (first
      | (go_at_call 8; (with_reducible refine HS.out.mono ?_); rintro e w1 ⟨b, rfl, hb, hB, K1⟩; have f1 := (HB.out.1.keep K1 fun h => h).frozen 0; have c1 := (HB.out.1.keep K1 fun h => h).cell 0; have cx := ((HB.out.1.keep K1 fun h => h).put 0 (.slice none 0 0)).cell 0; have m0 := (HB.out.2.keep K1 fun h => h).cell 0))
    refine bodyPost_ret (v := .tuple #[.agg #[.slice none 0 0], .bool false, .int .i64 2]) (by simp [results, Try.results12, go_sem, cx]) rfl ?_
    exact ⟨rfl, (k0.trans K1 fun _ _ h => h).setCell (.inr (by simp)) _⟩
  · have g0 : ¬ wd < 0 := h0
    have g1 : M.W ≤ wd := by omega
    go_wp2_with (first
      | (go_at_call 8; (with_reducible refine HS.out.mono ?_); rintro e w1 ⟨b, rfl, hb, hB, K1⟩; have f1 := (HB.out.1.keep K1 fun h => h).frozen 0; have c1 := (HB.out.1.keep K1 fun h => h).cell 0; have cx := ((HB.out.1.keep K1 fun h => h).put 0 (.slice none 0 0)).cell 0; have m0 := (HB.out.2.keep K1 fun h => h).cell 0))
    refine bodyPost_ret (v := .tuple #[.agg #[.slice none 0 0], .bool false, .int .i64 2]) (by simp [results, Try.results12, go_sem, cx]) rfl ?_
    exact ⟨rfl, (k0.trans K1 fun _ _ h => h).setCell (.inr (by simp)) _⟩
theorem evExplain_ok (f : List Nd) (A : Option Addr) (c : Nat) (wd : Nat) (hM : MdR w M va cv ra cr rs) (hrd : Rd w (.slice A f.length c) 6 f.length (fmC f)) (h : requestE M f = 0) (hwd : wd < M.n)
    (HC : ∀ (b : Nat) (cA : Option Addr) (cc : Nat) (zA : Option Addr) (zc : Nat), CmOk M b va ra cv cr rs (compactL f) cA cc (setsL M f) zA zc)
    (r : Nat × ES) (hr : exN M (compactL f) (setsL M f) ((compactL f).length) wd ((compactL f).length - 1) ⟨[], fun _ => none⟩ = r) :
    Calls Try.prog 12 #[.agg #[.int .i64 M.W, .slice va M.V.length cv, .slice ra M.R.length cr], .int .i64 (wd : Int), .slice A f.length c] w fun e w' => ∃ sA sc ps, e = .returned (.tuple #[.agg #[.slice sA r.2.steps.length sc], .bool (rsAt r.2.steps r.1).h, .int .i64 0]) ∧ StR w' w.heap.size r.2.steps sA sc ps ∧ Keep NoF w w' ∧ r.1 < r.2.steps.length := by
  obtain ⟨h1, h2, h3, h4⟩ := request_zero.1 h
  have hok := (model_zero hM.u).1 h1
  have hoc := okc_of h2 h3 h4
  have hle : (compactL f).length ≤ f.length := by rw [Fm.compactL_ok h2]; exact Fm.cl_tr_le h2
  obtain ⟨hc2, hc0⟩ := Fm.compactL_len h2
  have hMW := hok.n1
  have k0 : Keep NoF w ((w.alloc (.cells #[.int .i64 M.W, .slice va M.V.length cv, .slice ra M.R.length cr] 25)).alloc (.cells #[.slice none 0 0] 29)) := ((Keep.refl _ _).alloc _).alloc _
  have HS := Lib.hid (ckSets_ok f A c (hM.keep k0) (hrd.kept k0 fun _ _ h => h) h)
  have q1 := Bk.new (w.alloc (.cells #[.int .i64 M.W, .slice va M.V.length cv, .slice ra M.R.length cr] 25)) 29 #[.slice none 0 0]
  have q2 := (Bk.new w 25 #[.int .i64 M.W, .slice va M.V.length cv, .slice ra M.R.length cr]).alloc (.cells #[.slice none 0 0] 29)
  simp only [World.size_alloc] at q1
  have HB := Lib.hid (And.intro q1 q2)
  have hzl : (setsL M f).length = f.length := by unfold setsL; rw [List.length_map, setsN_len]
  have hz64 : ∀ x ∈ setsL M f, x < 18446744073709551616 := fun x hx => by
    obtain ⟨p, hp, rfl⟩ := List.mem_map.1 hx
    obtain ⟨j, hj, he⟩ := List.getElem_of_mem hp
    have := setsN_lt hok (fun k n hk => Fm.check_own h2 k n hk) f.length (Nat.le_refl _) j
    rw [List.getD_eq_getElem?_getD, List.getElem?_eq_getElem hj, he] at this
    exact this
  have HCO : Hid (∀ W, Keep NoF w W → Calls Try.prog 7 #[.slice A f.length c] W (FmPost W (compactL f))) := Lib.hid fun W k => Compact_any f A c W (by have := (Fm.checkE_zero.1 h2).2.1; omega) (hrd.kept k fun _ _ h => h)
  have hne : (compactL f).length ≠ 0 := by omega
  have HEE := Lib.hid (exN_ok (M := M) (c := compactL f) (S := setsL M f) (fun w k hw hk => (needs_ok hok hoc (HC 0 none 0 none 0) w k _ (getD_of hk) hw _).1) (compactL f).length wd ((compactL f).length - 1) ⟨[], fun _ => none⟩ (by omega) hwd (by omega) (Inv.nil _ _))
  rw [hr] at HEE
  have HSS2 : Hid (Calls Try.prog 8 #[.agg #[.int .i64 M.W, .slice va M.V.length cv, .slice ra M.R.length cr], .slice A f.length c] ((w.alloc (.cells #[.int .i64 M.W, .slice va M.V.length cv, .slice ra M.R.length cr] 25)).alloc (.cells #[.slice none 0 0] 29)) fun e w' => ∃ b, e = .returned (.tuple #[.slice (some ⟨b, 0, none⟩) (setsL M f).length (setsL M f).length, .int .i64 0]) ∧ Rd w' (.slice (some ⟨b, 0, none⟩) (setsL M f).length (setsL M f).length) 1 (setsL M f).length (u6 (setsL M f)) ∧ Keep NoF ((w.alloc (.cells #[.int .i64 M.W, .slice va M.V.length cv, .slice ra M.R.length cr] 25)).alloc (.cells #[.slice none 0 0] 29)) w') := Lib.hid (HS.out.mono fun e w' ⟨b, he, hb, hB, hk⟩ => ⟨b, by rw [hzl]; exact he, by rw [hzl]; exact rd_of_bk hB (by show (u6 (setsL M f)).length = _; unfold u6; rw [List.length_map, hzl, Nat.mul_one]), hk⟩)
  have HX := Lib.hid (And.intro hM (And.intro hok (And.intro hoc (And.intro hz64 (And.intro hle (And.intro hc2 (And.intro HC hr)))))))
  clear HS hM hok hoc hz64 HC h h1 h2 h3 h4 hrd q1 q2 hr
  rw [← hzl] at hle
  generalize hcl : compactL f = cl at *
  generalize setsL M f = S at *
  clear hcl hne hzl
  generalize f.length = fl at *
  have l0 : ¬ ((wd : Int) < 0) := by omega
  have l1 : ¬ (M.W ≤ (wd : Int)) := by unfold Md.n at hwd; omega
  go_enter Try.func12, Try.ntmps12
  go_upto_region 1 with (fail)
  generalize (w.alloc (.cells #[.int .i64 M.W, .slice va M.V.length cv, .slice ra M.R.length cr] 25)).alloc (.cells #[.slice none 0 0] 29) = W0 at *
  have m0 := HB.out.2.cell 0
  have m1 := HB.out.2.cell 1
  have m2 := HB.out.2.cell 2
  go_upto_region 6 with (first
    | (go_at_call 8; (with_reducible refine HSS2.out.mono ?_); rintro e w1 ⟨bz, rfl, RZ, K1⟩; have n0 := K1.cellv m0 fun h => h; have n1 := K1.cellv m1 fun h => h; have n2 := K1.cellv m2 fun h => h))
  have HCO1 : Hid (∀ W, Keep NoF w1 W → Calls Try.prog 7 #[.slice A fl c] W (FmPost W cl)) := Lib.hid fun W k => HCO.out W ((k0.trans K1 fun _ _ h => h).trans k fun _ _ h => h)
  have HZ1 := Lib.hid (And.intro RZ (And.intro K1 (k0.trans K1 fun _ _ h => h)))
  have HSS : Hid (∀ w', Keep NoF w1 w' → w'.cell? ⟨w.heap.size, 0, none⟩ = some (.int .i64 M.W) ∧ w'.cell? ⟨w.heap.size, 1, none⟩ = some (.slice va M.V.length cv) ∧ w'.cell? ⟨w.heap.size, 2, none⟩ = some (.slice ra M.R.length cr)) := Lib.hid fun w' k => ⟨k.cellv n0 fun h => h, k.cellv n1 fun h => h, k.cellv n2 fun h => h⟩
  clear HSS2 RZ HCO m0 m1 m2 n0 n1 n2 K1 k0
  go_cut [11] from 39 to 61 (fun v11 wc => ExpI w1 M va ra cv cr cl (some ⟨bz, 0, none⟩) S.length S.length v11 wc)
  case first =>
    have hmm := @run_makeMap Try.prog
    have K0 : Keep NoF w1 w1.drew := (Keep.refl _ _).drew
    refine wp_region_held_drew (S := fun w' => w'.cell? ⟨w.heap.size, 0, none⟩ = some (.int .i64 M.W) ∧ w'.cell? ⟨w.heap.size, 1, none⟩ = some (.slice va M.V.length cv) ∧ w'.cell? ⟨w.heap.size, 2, none⟩ = some (.slice ra M.R.length cr)) (by kernel_rfl) (HSS.out _ K0) (fun hHeld => ?_)
    -- ROUND
    refine wpAnyH_take (i := 0) (oi := ⟨some 32, _, _, _, _, _⟩) (v := ?_) rfl (by kernel_rfl) (by kernel_rfl) (by kernel_rfl) (fun _ _ _ h => h) (Or.inl ⟨by rfl, ?_⟩) (by assumption) ?_
    rotate_left 1
    · intro w hSw
      (try dsimp only at hSw)
      go_simp
      all_goals (try with_reducible rfl)
    (try simp only [Act.put, List.setIfInBounds_toArray, List.set_cons_zero, List.set_cons_succ])
    refine wpAnyH_take (i := 1) (oi := ⟨some 33, _, _, _, _, _⟩) (v := ?_) rfl (by kernel_rfl) (by kernel_rfl) (by kernel_rfl) (fun _ _ _ h => h) (Or.inl ⟨by rfl, ?_⟩) (by assumption) ?_
    rotate_left 1
    · intro w hSw
      (try dsimp only at hSw)
      go_simp
      all_goals (try with_reducible rfl)
    (try simp only [Act.put, List.setIfInBounds_toArray, List.set_cons_zero, List.set_cons_succ])
    refine wpAnyH_take (i := 3) (oi := ⟨some 35, _, _, _, _, _⟩) (v := ?_) rfl (by kernel_rfl) (by kernel_rfl) (by kernel_rfl) (fun _ _ _ h => h) (Or.inl ⟨by rfl, ?_⟩) (by assumption) ?_
    rotate_left 1
    · intro w hSw
      (try dsimp only at hSw)
      go_simp
      all_goals (try with_reducible rfl)
    (try simp only [Act.put, List.setIfInBounds_toArray, List.set_cons_zero, List.set_cons_succ])
    refine wpAnyH_ready (rs := [2, 4]) (by kernel_rfl) (by simp) ?_
    refine AllReadyH.cons (o := ⟨some 34, _, _, _, _, _⟩) rfl (fun K hK => ?_) ?_
    · go_simp
      go_at_call 7
      (first | (with_reducible refine (HCO1.out _ K0).mono ?_) | (with_reducible refine (HCO1.out _ K0m).mono ?_))
      rintro e w5 ⟨cA, cc, rfl, R5, K5, F5⟩
      (try go_wp2_with (fail))
      refine hK.out _ _ (HSS.out _ (K0.trans K5 fun _ _ h => h)) (fun hHeld => ?_)
      clear hK K
      (try simp only [Act.put, List.setIfInBounds_toArray, List.set_cons_zero, List.set_cons_succ])
      refine wpAnyH_ready (rs := [4]) (by kernel_rfl) (by simp) ?_
      refine AllReadyH.cons (o := ⟨some 36, _, _, _, _, _⟩) rfl (fun K hK => ?_) ?_
      · go_simp
        refine hK.out _ _ (HSS.out _ ((K0.trans K5 fun _ _ h => h).alloc _)) (fun hHeld => ?_)
        clear hK K
        (try simp only [Act.put, List.setIfInBounds_toArray, List.set_cons_zero, List.set_cons_succ])
        have KK : Keep NoF w1 (w5.alloc (.map #[] 0)) := (K0.trans K5 fun _ _ h => h).alloc _
        clear hmm
        refine wpAnyH_take (i := 5) (oi := ⟨some 37, _, _, _, _, _⟩) (v := ?_) rfl (by kernel_rfl) (by kernel_rfl) (by kernel_rfl) (fun _ _ _ h => h) (Or.inl ⟨by rfl, ?_⟩) (by assumption) ?_
        rotate_left 1
        · intro w hSw
          (try dsimp only at hSw)
          go_simp
          all_goals (try with_reducible rfl)
        (try simp only [Act.put, List.setIfInBounds_toArray, List.set_cons_zero, List.set_cons_succ])
        refine wpAnyH_ready (rs := [6]) (by kernel_rfl) (by simp) ?_
        refine AllReadyH.cons (o := ⟨some 38, _, _, _, _, _⟩) rfl (fun K hK => ?_) ?_
        · go_simp
          refine hK.out _ _ (HSS.out _ (KK.alloc _)) (fun hHeld => ?_)
          clear hK K
          (try simp only [Act.put, List.setIfInBounds_toArray, List.set_cons_zero, List.set_cons_succ])
          refine wpAnyH_take (i := 7) (oi := ⟨some 11, _, _, _, _, _⟩) (v := ?_) rfl (by kernel_rfl) (by kernel_rfl) (by kernel_rfl) (fun _ _ _ h => h) (Or.inl ⟨by rfl, ?_⟩) (by assumption) ?_
          rotate_left 1
          · intro w hSw
            (try dsimp only at hSw)
            go_simp
            all_goals (try with_reducible rfl)
          (try simp only [Act.put, List.setIfInBounds_toArray, List.set_cons_zero, List.set_cons_succ])
          refine wpAnyH_done (by kernel_rfl) ?_ _
          go_wp2
          go_meet
          exact ⟨w5.alloc (.map #[] 0), w5.heap.size + 1, w5.heap.size, cA, cc, rfl, (K0.trans K5 fun _ _ h => h).alloc _, (Keep.refl _ _).alloc _, R5.kept ((Keep.refl _ _).alloc _) (fun _ _ h => h), heap_alloc_new w5 _, (World.size_alloc w5 _).symm, (K0.trans K5 fun _ _ h => h).size, bk_new2 w5 _ _ _⟩
        exact AllReadyH.nil
      exact AllReadyH.nil
    refine AllReadyH.cons (o := ⟨some 36, _, _, _, _, _⟩) rfl (fun K hK => ?_) ?_
    · go_simp
      refine hK.out _ _ (HSS.out _ (((Keep.refl _ _).alloc _).drew)) (fun hHeld => ?_)
      clear hK K
      (try simp only [Act.put, List.setIfInBounds_toArray, List.set_cons_zero, List.set_cons_succ])
      have K0m : Keep NoF w1 (w1.alloc (.map #[] 0)).drew := ((Keep.refl _ _).alloc _).drew
      refine wpAnyH_ready (rs := [2]) (by kernel_rfl) (by simp) ?_
      refine AllReadyH.cons (o := ⟨some 34, _, _, _, _, _⟩) rfl (fun K hK => ?_) ?_
      · go_simp
        go_at_call 7
        (first | (with_reducible refine (HCO1.out _ K0).mono ?_) | (with_reducible refine (HCO1.out _ K0m).mono ?_))
        rintro e w5 ⟨cA, cc, rfl, R5, K5, F5⟩
        (try go_wp2_with (fail))
        refine hK.out _ _ (HSS.out _ (K0m.trans K5 fun _ _ h => h)) (fun hHeld => ?_)
        clear hK K
        (try simp only [Act.put, List.setIfInBounds_toArray, List.set_cons_zero, List.set_cons_succ])
        have KK : Keep NoF w1 w5 := K0m.trans K5 fun _ _ h => h
        clear hmm
        refine wpAnyH_take (i := 5) (oi := ⟨some 37, _, _, _, _, _⟩) (v := ?_) rfl (by kernel_rfl) (by kernel_rfl) (by kernel_rfl) (fun _ _ _ h => h) (Or.inl ⟨by rfl, ?_⟩) (by assumption) ?_
        rotate_left 1
        · intro w hSw
          (try dsimp only at hSw)
          go_simp
          all_goals (try with_reducible rfl)
        (try simp only [Act.put, List.setIfInBounds_toArray, List.set_cons_zero, List.set_cons_succ])
        refine wpAnyH_ready (rs := [6]) (by kernel_rfl) (by simp) ?_
        refine AllReadyH.cons (o := ⟨some 38, _, _, _, _, _⟩) rfl (fun K hK => ?_) ?_
        · go_simp
          refine hK.out _ _ (HSS.out _ (KK.alloc _)) (fun hHeld => ?_)
          clear hK K
          (try simp only [Act.put, List.setIfInBounds_toArray, List.set_cons_zero, List.set_cons_succ])
          refine wpAnyH_take (i := 7) (oi := ⟨some 11, _, _, _, _, _⟩) (v := ?_) rfl (by kernel_rfl) (by kernel_rfl) (by kernel_rfl) (fun _ _ _ h => h) (Or.inl ⟨by rfl, ?_⟩) (by assumption) ?_
          rotate_left 1
          · intro w hSw
            (try dsimp only at hSw)
            go_simp
            all_goals (try with_reducible rfl)
          (try simp only [Act.put, List.setIfInBounds_toArray, List.set_cons_zero, List.set_cons_succ])
          refine wpAnyH_done (by kernel_rfl) ?_ _
          go_wp2
          go_meet
          exact ⟨w5, w5.heap.size, w1.heap.size, cA, cc, rfl, KK, (Keep.refl _ _).alloc _, R5, (K5.block w1.heap.size (by show w1.heap.size < (w1.alloc (.map #[] 0)).heap.size; rw [World.size_alloc]; omega) fun h => h).trans (heap_alloc_new w1 _), rfl, Nat.le_refl _, Bk.new w5 _ _⟩
        exact AllReadyH.nil
      exact AllReadyH.nil
    exact AllReadyH.nil
    -- END ROUND
  case rest =>
    obtain ⟨w0, b, mb, cA, cc, rfl, Ka, Kb, Rc, Hm, hbz, hmz, hBK⟩ := hcut
    obtain ⟨hM, hok, hoc, hz64, hle', hc2', HC, hr⟩ := HX.out
    obtain ⟨RZ, K1, K01⟩ := HZ1.out
    have hb0 : w0.heap.size ≤ b := by omega
    clear hbz
    have hmlt : mb < w0.heap.size := (Array.getElem?_eq_some_iff.1 Hm).1
    have hBS : BdS w0 wc b M va ra cv cr cl cA cc S (some ⟨bz, 0, none⟩) S.length ⟨[], fun _ => none⟩ [] (.slice none 0 0) mb :=
      ⟨Kb.mono fun _ _ h => h.elim, Hm, hBK, World.ownsRow_nil _ _ _ _, rfl, fun i r p h => by simp at h, ⟨#[], 0, (Kb.block mb hmlt fun h => h).trans Hm, by simp, by simp, by simp⟩, hb0⟩
    obtain ⟨t, hct⟩ : ∃ t : Nat, cl.length = t + 1 := ⟨cl.length - 1, by omega⟩
    have HE := Lib.hid (evexplain_any (hM.keep (K01.trans Ka fun _ _ h => h)) hok hoc Rc (by omega) (RZ.kept Ka fun _ _ h => h) hz64 hle (HC b cA cc (some ⟨bz, 0, none⟩) S.length) cl.length wd t wc ⟨[], fun _ => none⟩ [] (.slice none 0 0) mb (by omega) hwd (by omega) (Inv.nil _ _) hBS)
    rw [show cl.length - 1 = t by omega] at hr
    rw [hr] at HE
    have hQ := (HB.out.1.keep K1 fun h => h).keep (Ka.trans Kb fun _ _ h => h) fun h => h
    have hQb : w.heap.size + 1 ≠ b := by have := (HB.out.1.keep K1 fun h => h).lt; have := Ka.size; omega
    have hQm : w.heap.size + 1 ≠ mb := by have := (HB.out.1.keep K1 fun h => h).lt; omega
    have HQ := Lib.hid (And.intro hQ (And.intro hQb hQm))
    have HW := Lib.hid ((K01.trans Ka fun _ _ h => h).trans Kb fun _ _ h => h)
    have b3 : wc.cell? ⟨b, 3, none⟩ = some (.slice cA cl.length cc) := hBK.cell 3
    have e1 : ((cl.length : Nat) : Int) - 1 = (t : Int) := by omega
    have ht : t ≤ 200 := by omega
    have hws1 : w.heap.size ≤ w1.heap.size := K01.size
    have hws : w.heap.size ≤ w0.heap.size := (K01.trans Ka fun _ _ h => h).size
    have HEE2 := Lib.hid HEE.out.1.dn
    obtain ⟨rr, hr1, -, -⟩ := HEE.out.1.dn wd (cl.length - 1) r.1 HEE.out.2.2
    have hrlt : r.1 < r.2.steps.length := (List.getElem?_eq_some_iff.1 hr1).1
    clear hM hok hoc hz64 HC hr RZ K1 K01 Ka Kb Rc Hm hBK hBS hct HX HZ1 HEE HEE2 hr1 HCO1 HSS hQ hQb hQm hle' hc2'
    go_wp2_with (first
      | (go_at_call 20; (with_reducible refine HE.out.mono ?_); rintro e w' ⟨ps', sv', rfl, HB', HK', -, -⟩
         obtain ⟨sA, sc, rfl⟩ := own_form HB'.own
         obtain ⟨-, hsc, gl, go, rfl, hcs⟩ := (Rd.of_own HB'.own).at_ (by omega)
         have h2 : w'.cell? ⟨gl, go + r.1 * 5 + 2, none⟩ = some (.bool (rsAt r.2.steps r.1).h) := by
           obtain ⟨⟨pA, pc⟩, hp⟩ : ∃ p, ([] ++ ps')[r.1]? = some p := ⟨_, List.getElem?_eq_getElem (show r.1 < ([] ++ ps').length by rw [HB'.pl]; exact hrlt)⟩
           have := hcs (r.1 * 5 + 2) _ (by rw [rssC_at _ _ r.1 _ _ (rsAt_eq hrlt) hp 2 (by omega)]; rfl)
           rwa [← Nat.add_assoc] at this
         have b5 : w'.cell? ⟨b, 5, none⟩ = some (.slice (some ⟨gl, go, none⟩) r.2.steps.length sc) := HB'.bk.cell 5
         have HQ' := Lib.hid (HQ.out.1.keep HK' (by rintro (h | h | h); exact HQ.out.2.1 h; exact HQ.out.2.2 h; cases h))
         have q0 := HQ'.out.cell 0
         have f0 := HQ'.out.frozen 0
         have HBB := Lib.hid HB'
         have l1 : ((r.1 : Nat) : Int) < (r.2.steps.length : Int) := by omega
         have l0 : (0 : Int) ≤ (r.1 : Int) := by omega))
    have hn1 : w.heap.size + 1 ≠ b := HQ.out.2.1
    have hn2 : w.heap.size + 1 ≠ gl := fun e => own_ne_bk HBB.out.own HQ'.out (by decide) (by rw [e]; rfl)
    have hn3 := Ne.symm hn1
    have hn4 := Ne.symm hn2
    have cx : (w'.setCell ⟨w.heap.size + 1, 0, none⟩ (.slice (some ⟨gl, go, none⟩) r.2.steps.length sc)).cell? ⟨w.heap.size + 1, 0, none⟩ = some (.slice (some ⟨gl, go, none⟩) r.2.steps.length sc) := (HQ'.out.put 0 _).cell 0
    have HKF := Lib.hid HK'
    clear HK' HB' hcs
    go_region
    all_goals go_wp2
    all_goals
      have cx' : ((w'.setCell ⟨w.heap.size + 1, 0, none⟩ (.slice (some ⟨gl, go, none⟩) r.2.steps.length sc)).drew).cell? ⟨w.heap.size + 1, 0, none⟩ = some (.slice (some ⟨gl, go, none⟩) r.2.steps.length sc) := cx
      refine bodyPost_ret (v := .tuple #[.agg #[.slice (some ⟨gl, go, none⟩) r.2.steps.length sc], .bool (rsAt r.2.steps r.1).h, .int .i64 0]) (by simp [results, Try.results12, go_sem, cx']) rfl ?_
      have hsz := HW.out.size
      refine ⟨_, sc, [] ++ ps', rfl, ⟨own_base (own_keep HBB.out.own fun x hx => Below.heap_setCell _ _ _ _ ?_) hws, HBB.out.pl, fun i q p hq hp => own_base (own_keep (HBB.out.fr i q p hq hp) fun x hx => Below.heap_setCell _ _ _ _ ?_) hws⟩,
        ((HW.out.trans HKF.out fun i hi h => ?_).setCell (p := ⟨w.heap.size + 1, 0, none⟩) (.inr (by simp)) _).drew, hrlt⟩
      · have e : gl = x := by simpa [Value.ownBlock] using hx
        subst e
        exact hn4
      · intro e
        have e : x = w.heap.size + 1 := e
        subst e
        exact own_ne_bk (HBB.out.fr i q p hq hp) HQ'.out (by decide) hx
      · rcases h with h | h | h
        · omega
        · omega
        · cases h
end
end Go.Proofs.Ytmjdbbfoihadoaa
