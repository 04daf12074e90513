/- Evidence in memory; what Check does. Conditions: the slices' cells are those given; the lengths are small. -/
import Derived.Test.YtmjdbbfoihadoaaEvY
import Derived.Test.YtmjdbbfoihadoaaEvM
set_option linter.unusedVariables false
set_option linter.unusedSimpArgs false
namespace Go.Proofs.Ytmjdbbfoihadoaa
open Go.RowKit
open Ev
open Fm (Nd checkE compactL)
attribute [local go_sem] Oper.semAt_some

def rsC (r : Rs) (p : Option Addr × Nat) : List Value := [.int .i64 r.w, .int .i64 r.k, .bool r.h, .slice p.1 r.fr.length p.2, .int .u64 r.st]
def rssC (E : List Rs) (ps : List (Option Addr × Nat)) : List Value := (List.zipWith rsC E ps).flatten
theorem rssC_at : ∀ (E : List Rs) (ps : List (Option Addr × Nat)) (k : Nat) (r : Rs) (p : Option Addr × Nat), E[k]? = some r → ps[k]? = some p → ∀ j, j < 5 → (rssC E ps)[k * 5 + j]? = (rsC r p)[j]?
  | [], _, _, _, _, h, _, _, _ => by simp at h
  | _ :: _, [], _, _, _, _, h, _, _ => by simp at h
  | a :: E, b :: ps, 0, r, p, h, h2, j, hj => by
    obtain rfl : a = r := by simpa using h
    obtain rfl : b = p := by simpa using h2
    have e : rssC (a :: E) (b :: ps) = rsC a b ++ rssC E ps := rfl
    rw [e, Nat.zero_mul, Nat.zero_add, List.getElem?_append_left (by show j < 5; exact hj)]
  | a :: E, b :: ps, k + 1, r, p, h, h2, j, hj => by
    have e : rssC (a :: E) (b :: ps) = rsC a b ++ rssC E ps := rfl
    have h5 : (rsC a b).length = 5 := rfl
    rw [e, List.getElem?_append_right (by rw [h5]; omega), h5, show (k + 1) * 5 + j - 5 = k * 5 + j by omega]
    exact rssC_at E ps k r p (by simpa using h) (by simpa using h2) j hj
theorem rssC_len : ∀ (E : List Rs) (ps : List (Option Addr × Nat)), ps.length = E.length → (rssC E ps).length = E.length * 5
  | [], _, _ => by simp [rssC]
  | _ :: _, [], h => by simp at h
  | a :: E, b :: ps, h => by
    have e : rssC (a :: E) (b :: ps) = rsC a b ++ rssC E ps := rfl
    rw [e, List.length_append, rssC_len E ps (by simpa using h), List.length_cons]
    show 5 + _ = _
    omega
structure EvdR (w : World) (E : List Rs) (sA : Option Addr) (sc : Nat) (ps : List (Option Addr × Nat)) : Prop where
  S : Rd w (.slice sA E.length sc) 5 E.length (rssC E ps)
  pl : ps.length = E.length
  fr : ∀ (k : Nat) (r : Rs) (p : Option Addr × Nat), E[k]? = some r → ps[k]? = some p → Rd w (.slice p.1 r.fr.length p.2) 1 r.fr.length (inZ r.fr)
  st : ∀ r ∈ E, r.st < 18446744073709551616
  le : E.length ≤ 1000000
  lf : ∀ r ∈ E, r.fr.length ≤ 1000000
theorem EvdR.keep {w w' : World} {E : List Rs} {sA : Option Addr} {sc : Nat} {ps : List (Option Addr × Nat)} (h : EvdR w E sA sc ps) (hk : Keep NoF w w') : EvdR w' E sA sc ps :=
  ⟨h.S.kept hk fun _ _ h => h, h.pl, fun k r p h1 h2 => (h.fr k r p h1 h2).kept hk fun _ _ h => h, h.st, h.le, h.lf⟩
def rsAt (E : List Rs) (k : Nat) : Rs := E.getD k default
theorem rsAt_eq {E : List Rs} {k : Nat} (h : k < E.length) : E[k]? = some (rsAt E k) := by
  unfold rsAt
  rw [List.getD_eq_getElem?_getD, List.getElem?_eq_getElem h]
  rfl
theorem EvdR.at_ {w : World} {E : List Rs} {sA : Option Addr} {sc : Nat} {ps : List (Option Addr × Nat)} (h : EvdR w E sA sc ps) {k : Nat} (hk : k < E.length) :
    ∃ bl off, sA = some ⟨bl, off, none⟩ ∧ E.length ≤ sc ∧ ∃ pA pc, Rd w (.slice pA (rsAt E k).fr.length pc) 1 (rsAt E k).fr.length (inZ (rsAt E k).fr) ∧ (rsAt E k).st < 18446744073709551616 ∧ (rsAt E k).fr.length ≤ 1000000 ∧
      w.cell? ⟨bl, off + k * 5, none⟩ = some (.int .i64 (rsAt E k).w) ∧ w.cell? ⟨bl, off + k * 5 + 1, none⟩ = some (.int .i64 (rsAt E k).k) ∧ w.cell? ⟨bl, off + k * 5 + 2, none⟩ = some (.bool (rsAt E k).h) ∧ w.cell? ⟨bl, off + k * 5 + 3, none⟩ = some (.slice pA (rsAt E k).fr.length pc) ∧ w.cell? ⟨bl, off + k * 5 + 4, none⟩ = some (.int .u64 (rsAt E k).st) := by
  obtain ⟨_, hc', bl, off, rfl, hc⟩ := h.S.at_ (by omega)
  obtain ⟨⟨pA, pc⟩, hp⟩ : ∃ p, ps[k]? = some p := ⟨_, List.getElem?_eq_getElem (show k < ps.length by rw [h.pl]; exact hk)⟩
  have hr := rsAt_eq hk
  have hm := List.mem_of_getElem? hr
  have g : ∀ j v, j < 5 → (rsC (rsAt E k) (pA, pc))[j]? = some v → w.cell? ⟨bl, off + k * 5 + j, none⟩ = some v := fun j v hj hv => by
    have := hc (k * 5 + j) v (by rw [rssC_at E ps k _ _ hr hp j hj]; exact hv)
    rwa [← Nat.add_assoc] at this
  exact ⟨bl, off, rfl, hc', pA, pc, h.fr k _ _ hr hp, h.st _ hm, h.lf _ hm, g 0 _ (by omega) rfl, g 1 _ (by omega) rfl, g 2 _ (by omega) rfl, g 3 _ (by omega) rfl, g 4 _ (by omega) rfl⟩
/-- What the loops of Check have seen. -/
theorem ev_form_bad {M : Md} {c : List Nd} {E : List Rs} {k : Nat} (hk : k < E.length) (h : formB M c k (rsAt E k) = false) : evE M c E = 3 := by
  unfold evE
  rw [if_pos]
  right
  cases hb : formAll M c E with
  | false => rfl
  | true =>
    have := form_at hb (rsAt_eq hk)
    rw [h] at this
    cases this
theorem ev_form_all {M : Md} {c : List Nd} {E : List Rs} (h : ∀ j, j < E.length → formB M c j (rsAt E j) = true) : formAll M c E = true := by
  unfold formAll
  rw [List.all_eq_true]
  intro i hi
  exact h i (List.mem_range.1 hi)
theorem ev_fol_bad {M : Md} {c : List Nd} {E : List Rs} {k : Nat} (hk : k < E.length) (hf : formAll M c E = true) (h : folB M c (rsAt E k) (frm E (rsAt E k)) = false) : evE M c E = 13 := by
  unfold evE
  have h1 : ¬ (E = [] ∨ formAll M c E = false) := by
    rintro (h | h)
    · rw [h] at hk; simp at hk
    · rw [hf] at h; cases h
  rw [if_neg h1, if_pos]
  cases hb : folAll M c E with
  | false => rfl
  | true =>
    unfold folAll at hb
    rw [List.all_eq_true] at hb
    have := hb _ (List.mem_of_getElem? (rsAt_eq hk))
    rw [h] at this
    cases this
theorem ev_all {M : Md} {c : List Nd} {E : List Rs} (h0 : 0 < E.length) (hf : formAll M c E = true) (h : ∀ j, j < E.length → folB M c (rsAt E j) (frm E (rsAt E j)) = true) : evE M c E = 0 := by
  refine ev_zero.2 ⟨fun h => by rw [h] at h0; simp at h0, hf, ?_⟩
  unfold folAll
  rw [List.all_eq_true]
  intro r hr
  obtain ⟨j, hj, rfl⟩ := List.getElem_of_mem hr
  have := h j hj
  have e : rsAt E j = E[j] := by unfold rsAt; rw [List.getD_eq_getElem?_getD, List.getElem?_eq_getElem hj]; rfl
  rwa [e] at this
theorem ev_nil (M : Md) (c : List Nd) {E : List Rs} (h : E.length = 0) : evE M c E = 3 := by
  unfold evE
  rw [if_pos (.inl (List.eq_nil_of_length_eq_zero h))]
theorem form_parts {M : Md} {c : List Nd} {k : Nat} {r : Rs} (h : formB M c k r = true) : (0 ≤ r.w ∧ r.w < M.W) ∧ (0 ≤ r.k ∧ r.k < (c.length : Int)) ∧ (∀ x ∈ r.fr, 0 ≤ x ∧ x < (k : Int)) ∧ r.st < 2 ^ M.n := by
  unfold formB at h
  simp only [Bool.and_eq_true, decide_eq_true_eq, List.all_eq_true] at h
  obtain ⟨⟨h1, h2, h3, h4⟩, h5, h6, -⟩ := h
  exact ⟨⟨h1, h2⟩, ⟨h3, h4⟩, h5, h6⟩
section
set_option maxRecDepth 100000
set_option maxHeartbeats 4000000
variable {w : World} {M : Md} {va ra : Option Addr} {cv cr : Nat} {rs : List (Option Addr × Nat)}
theorem evCheck_bad (f : List Nd) (A : Option Addr) (c : Nat) (hM : MdR w M va cv ra cr rs) (hll : f.length ≤ 9223372036854775807) (hrd : Rd w (.slice A f.length c) 6 f.length (fmC f)) (h : requestE M f ≠ 0) (v : Value) :
    Calls Try.prog 9 #[.agg #[.int .i64 M.W, .slice va M.V.length cv, .slice ra M.R.length cr], .slice A f.length c, .agg #[v]] w fun e w' => e = .returned (.int .i64 (requestE M f)) ∧ Keep NoF w w' := by
  have k0 : Keep NoF w ((w.alloc (.cells #[.int .i64 M.W, .slice va M.V.length cv, .slice ra M.R.length cr] 25)).alloc (.cells #[v] 29)) := ((Keep.refl _ _).alloc _).alloc _
  have HS := Lib.hid (ckSets_bad f A c (hM.keep k0) hll (hrd.kept k0 fun _ _ h => h) h)
  have hx : (requestE M f != 0) = true := by simpa using h
  clear h hM hrd
  generalize requestE M f = x at *
  generalize f.length = fl at *
  go_enter Try.func9, Try.ntmps9
  go_wp2_with (first
    | (go_at_call 8; (with_reducible refine HS.out.mono ?_); rintro e w1 ⟨rfl, K1⟩))
  go_ret
  exact ⟨rfl, k0.trans K1 fun _ _ h => h⟩
theorem cl_take {E : List Rs} {r : Rs} {j : Nat} (hj : j < r.fr.length) : (frm E r).take (j + 1) = (frm E r).take j ++ [(rsAt E (r.fr.getD j 0).toNat).cl] := by
  have hl : j < (frm E r).length := by unfold frm; rw [List.length_map]; exact hj
  rw [List.take_succ_eq_append_getElem hl]
  have e : (frm E r)[j] = (rsAt E (r.fr.getD j 0).toNat).cl := by
    simp only [frm, List.getElem_map]
    rw [List.getD_eq_getElem?_getD (l := r.fr), List.getElem?_eq_getElem hj]
    rfl
  rw [e]
theorem evCheck_ok (f : List Nd) (A : Option Addr) (c : Nat) (hM : MdR w M va cv ra cr rs) (hrd : Rd w (.slice A f.length c) 6 f.length (fmC f)) (h : requestE M f = 0) (E : List Rs) (sA : Option Addr) (sc : Nat) (ps : List (Option Addr × Nat)) (hE : EvdR w E sA sc ps) :
    Calls Try.prog 9 #[.agg #[.int .i64 M.W, .slice va M.V.length cv, .slice ra M.R.length cr], .slice A f.length c, .agg #[.slice sA E.length sc]] w fun e w' => e = .returned (.int .i64 (evE M (compactL f) E)) ∧ Keep NoF w w' := by
  obtain ⟨h1, h2, h3, h4⟩ := request_zero.1 h
  have hok := (model_zero hM.u).1 h1
  have hoc := okc_of h2 h3 h4
  obtain ⟨hp, h200, _⟩ := Fm.checkE_zero.1 h2
  have hl := Fm.compactL_len h2
  have k0 : Keep NoF w ((w.alloc (.cells #[.int .i64 M.W, .slice va M.V.length cv, .slice ra M.R.length cr] 25)).alloc (.cells #[.slice sA E.length sc] 29)) := ((Keep.refl _ _).alloc _).alloc _
  have HS := Lib.hid (ckSets_ok f A c (hM.keep k0) (hrd.kept k0 fun _ _ h => h) h)
  have HC : Hid (∀ W, Keep NoF w W → Calls Try.prog 7 #[.slice A f.length c] W (FmPost W (compactL f))) := Lib.hid fun W hk => Compact_any f A c W (by omega) (hrd.kept hk fun _ _ h => h)
  have q0 := (Bk.new w 25 #[.int .i64 M.W, .slice va M.V.length cv, .slice ra M.R.length cr]).alloc (.cells #[.slice sA E.length sc] 29)
  have q1 := Bk.new (w.alloc (.cells #[.int .i64 M.W, .slice va M.V.length cv, .slice ra M.R.length cr] 25)) 29 #[.slice sA E.length sc]
  simp only [World.size_alloc] at q1
  have HQ := Lib.hid (And.intro q0 (And.intro q1 k0))
  have HM := Lib.hid hM
  have HE := Lib.hid hE
  have HOK := Lib.hid hok
  have HOC := Lib.hid hoc
  have hle := hE.le
  generalize hll : compactL f = l at *
  clear hll h h1 h2 h3 h4 hM hrd hok hoc hE k0 q0 q1
  generalize f.length = fl at *
  go_enter Try.func9, Try.ntmps9
  go_upto_region 1 with (fail)
  generalize (w.alloc (.cells #[.int .i64 M.W, .slice va M.V.length cv, .slice ra M.R.length cr] 25)).alloc (.cells #[.slice sA E.length sc] 29) = W0 at *
  have m0 := HQ.out.1.cell 0
  have m1 := HQ.out.1.cell 1
  have m2 := HQ.out.1.cell 2
  have s0 := HQ.out.2.1.cell 0
  go_wp2_with (first
    | (go_at_call 8; (with_reducible refine HS.out.mono ?_); rintro e w1 ⟨b1, rfl, -, -, K1⟩)
    | (go_at_call 7; (with_reducible refine (HC.out _ (HQ.out.2.2.trans K1 fun _ _ h => h)).mono ?_); rintro e w2 ⟨A3, c3, rfl, R3, K2, -⟩
       have K02 := K1.trans K2 fun _ _ h => h
       have s02 := K02.cellv s0 fun h => h))
  have HM0 : Hid (∀ W', Keep NoF w2 W' → W'.cell? ⟨w.heap.size, 0, none⟩ = some (.int .i64 M.W) ∧ W'.cell? ⟨w.heap.size, 1, none⟩ = some (.slice va M.V.length cv) ∧ W'.cell? ⟨w.heap.size, 2, none⟩ = some (.slice ra M.R.length cr) ∧ W'.cell? ⟨w.heap.size + 1, 0, none⟩ = some (.slice sA E.length sc)) :=
    Lib.hid fun W' hk => by
      have k := K02.trans hk fun _ _ h => h
      exact ⟨k.cellv m0 fun h => h, k.cellv m1 fun h => h, k.cellv m2 fun h => h, k.cellv s0 fun h => h⟩
  have HK := Lib.hid (HQ.out.2.2.trans K02 fun _ _ h => h)
  have HR3 := Lib.hid R3
  clear m0 m1 m2 s0 K1 K2 K02 R3
  go_loopw [32] (fun t wr => ∃ k : Nat, t = .int .i64 (k : Int) ∧ k ≤ E.length ∧ Hid (∀ j, j < k → formB M l j (rsAt E j) = true) ∧ Keep NoF w2 wr) (fun t _ => E.length - (intOf t).toNat)
  case atStart => exact ⟨0, rfl, by omega, Lib.hid fun j hj => absurd hj (by omega), Keep.refl _ _⟩
  case round =>
    obtain ⟨k, rfl, hk, HJ, hkr⟩ := hrel
    have kwr := HK.out.trans hkr fun _ _ h => h
    by_cases hlt : k < E.length
    · obtain ⟨bl, off, rfl, hsc, pA, pc, hfr, hst, hlf, x0, x1, x2, x3, x4⟩ := (HE.out.keep kwr).at_ hlt
      have l1 : (k : Int) < (E.length : Int) := by omega
      have l0 : (0 : Int) ≤ (k : Int) := by omega
      have HBAD := Lib.hid (ev_form_bad (M := M) (c := l) hlt)
      have k3 : Keep NoF wr (wr.alloc (.cells #[.int .i64 (rsAt E k).w, .int .i64 (rsAt E k).k, .bool (rsAt E k).h, .slice pA (rsAt E k).fr.length pc, .int .u64 (rsAt E k).st] 40)) := (Keep.refl _ _).alloc _
      have b3 := Bk.new wr 40 #[.int .i64 (rsAt E k).w, .int .i64 (rsAt E k).k, .bool (rsAt E k).h, .slice pA (rsAt E k).fr.length pc, .int .u64 (rsAt E k).st]
      have HF := Lib.hid (evform_any (M := M) (va := va) (ra := ra) (cv := cv) (cr := cr) HOK.out l A3 c3 ((HR3.out.kept hkr fun _ _ h => h).kept k3 fun _ _ h => h) (by omega) k (by omega) (rsAt E k) (pA, pc) (hfr.kept k3 fun _ _ h => h) hlf hst)
      obtain ⟨m0, m1, m2, s0⟩ := HM0.out _ (hkr.trans k3 fun _ _ h => h)
      have s0r := (HM0.out _ hkr).2.2.2
      have HKR := Lib.hid (hkr.trans k3 fun _ _ h => h)
      have HSN : Hid (formB M l k (rsAt E k) = true → ∀ j, j < k + 1 → formB M l j (rsAt E j) = true) := Lib.hid fun h j hj => by
        by_cases hjk : j = k
        · rw [hjk]; exact h
        · exact HJ.out j (by omega)
      generalize hfb : formB M l k (rsAt E k) = fb at *
      clear hfb
      generalize rsAt E k = r at *
      obtain ⟨rw_, rk, rh, rfr, rst⟩ := r
      simp only at x0 x1 x2 x3 x4 b3 HF
      generalize rfr.length = rl at *
      go_upto_region 8 with (fail)
      generalize wr.alloc (.cells #[.int .i64 rw_, .int .i64 rk, .bool rh, .slice pA rl pc, .int .u64 rst] 40) = W3 at *
      have z0 := b3.cell 0
      have z1 := b3.cell 1
      have z2 := b3.cell 2
      have z3 := b3.cell 3
      have z4 := b3.cell 4
      cases fb with
      | false =>
        have HB2 := Lib.hid (HBAD.out rfl)
        go_wp2_with (go_at_call 17; (with_reducible refine HF.out.mono ?_); rintro e w4 ⟨rfl, k4⟩)
        go_ret
        exact ⟨by rw [HB2.out]; rfl, (HK.out.trans HKR.out fun _ _ h => h).trans k4 fun _ _ h => h⟩
      | true =>
        have HS2 := Lib.hid (HSN.out rfl)
        clear HSN HBAD
        go_wp2_with (go_at_call 17; (with_reducible refine HF.out.mono ?_); rintro e w4 ⟨rfl, k4⟩)
        go_roundw
        case rel => exact ⟨k + 1, by go_num, by omega, HS2, HKR.out.trans k4 fun _ _ h => h⟩
        case measure => simp only [intOf]; omega
    · obtain rfl : k = E.length := by omega
      have l1 : ¬ (E.length : Int) < (E.length : Int) := by omega
      obtain ⟨wa, rfl⟩ : ∃ wa : World, wa = wr := ⟨_, rfl⟩
      obtain ⟨m0, m1, m2, s0⟩ := HM0.out _ hkr
      have HALL := Lib.hid (ev_form_all HJ.out)
      by_cases h0 : E.length = 0
      · have e0 : ((E.length : Int) == 0) = true := by rw [h0]; rfl
        have HB := Lib.hid (ev_nil M l h0)
        clear h0
        go_wp2
        go_ret
        exact ⟨by rw [HB.out]; rfl, kwr⟩
      · have e0 : ((E.length : Int) == 0) = false := beq_eq_false_iff_ne.2 (by omega)
        go_wp2
        go_loopw [51] (fun t wq => ∃ k : Nat, t = .int .i64 (k : Int) ∧ k ≤ E.length ∧ Hid (∀ j, j < k → folB M l (rsAt E j) (frm E (rsAt E j)) = true) ∧ Keep NoF wa wq) (fun t _ => E.length - (intOf t).toNat)
        case atStart => exact ⟨0, rfl, by omega, Lib.hid fun j hj => absurd hj (by omega), Keep.refl _ _⟩
        case round =>
          obtain ⟨k, rfl, hkE, HG, hkq⟩ := hrel
          obtain ⟨wq, rfl⟩ : ∃ wq : World, wq = wr := ⟨_, rfl⟩
          have kwq := kwr.trans hkq fun _ _ h => h
          have k2q := hkr.trans hkq fun _ _ h => h
          by_cases hlt : k < E.length
          · obtain ⟨bl, off, rfl, hsc, pA, pc, hfr, hst, hlf, x0, x1, x2, x3, x4⟩ := (HE.out.keep kwq).at_ hlt
            obtain ⟨hpw, hpk, hpf, hps⟩ := form_parts (HJ.out k hlt)
            have l1 : (k : Int) < (E.length : Int) := by omega
            have l0 : (0 : Int) ≤ (k : Int) := by omega
            have HBAD := Lib.hid (ev_fol_bad (M := M) (c := l) hlt HALL.out)
            have k3 : Keep NoF wq (wq.alloc (.cells #[.int .i64 (rsAt E k).w, .int .i64 (rsAt E k).k, .bool (rsAt E k).h, .slice pA (rsAt E k).fr.length pc, .int .u64 (rsAt E k).st] 40)) := (Keep.refl _ _).alloc _
            have b3 := Bk.new wq 40 #[.int .i64 (rsAt E k).w, .int .i64 (rsAt E k).k, .bool (rsAt E k).h, .slice pA (rsAt E k).fr.length pc, .int .u64 (rsAt E k).st]
            have HSN : Hid (folB M l (rsAt E k) (frm E (rsAt E k)) = true → ∀ j, j < k + 1 → folB M l (rsAt E j) (frm E (rsAt E j)) = true) := Lib.hid fun h j hj => by
              by_cases hjk : j = k
              · rw [hjk]; exact h
              · exact HG.out j (by omega)
            have hfl : (frm E (rsAt E k)).length = (rsAt E k).fr.length := by unfold frm; rw [List.length_map]
            have hLw : ∀ a ∈ frm E (rsAt E k), 0 ≤ a.w ∧ a.w < M.W := fun a ha => by
              unfold frm at ha
              rw [List.mem_map] at ha
              obtain ⟨x, hx, rfl⟩ := ha
              have h1 := hpf x hx
              exact (form_parts (HJ.out x.toNat (by omega))).1
            have HFW : Hid (∀ (W : World) (AL : Option Addr) (cL : Nat), Keep NoF w2 W → Rd W (.slice AL (rsAt E k).fr.length cL) 3 (rsAt E k).fr.length (clsC (frm E (rsAt E k))) →
                Calls Try.prog 18 #[.agg #[.int .i64 M.W, .slice va M.V.length cv, .slice ra M.R.length cr], .slice A3 l.length c3, .agg #[.int .i64 (rsAt E k).w, .int .i64 (rsAt E k).k, .bool (rsAt E k).h, .slice pA (rsAt E k).fr.length pc, .int .u64 (rsAt E k).st], .slice AL (rsAt E k).fr.length cL] W fun e w' => e = .returned (.bool (folB M l (rsAt E k) (frm E (rsAt E k)))) ∧ Keep NoF W w') := Lib.hid fun W AL cL hkW hR => by
              rw [← hfl] at hR
              have := evfollows_any (HM.out.keep (HK.out.trans hkW fun _ _ h => h)) HOK.out l HOC.out A3 c3 (HR3.out.kept hkW fun _ _ h => h) (rsAt E k) hpw hpk hps (pA, pc) (frm E (rsAt E k)) AL cL (by omega) hR hLw
              rwa [hfl] at this
            have HTK := Lib.hid fun j hj => cl_take (E := E) (r := rsAt E k) (j := j) hj
            have HTE : Hid (clsC ((frm E (rsAt E k)).take (rsAt E k).fr.length) = clsC (frm E (rsAt E k))) := Lib.hid (by rw [← hfl, List.take_length])
            have HPF := Lib.hid hpf
            have HFR := Lib.hid hfr
            have HKQ := Lib.hid (k2q.trans k3 fun _ _ h => h)
            have HKW := Lib.hid (kwq.trans k3 fun _ _ h => h)
            have HK3 := Lib.hid k3
            clear hfl hLw hpw hpk hps hpf hfr
            generalize hfb : folB M l (rsAt E k) (frm E (rsAt E k)) = fb at *
            clear hfb
            generalize frm E (rsAt E k) = L at *
            generalize rsAt E k = r at *
            obtain ⟨rw_, rk, rh, rfr, rst⟩ := r
            simp only at x0 x1 x2 x3 x4 b3 HFW HTK HTE HPF HFR hlf
            go_upto_region 16 with (fail)
            generalize wq.alloc (.cells #[.int .i64 rw_, .int .i64 rk, .bool rh, .slice pA rfr.length pc, .int .u64 rst] 40) = W3 at *
            have z3 := b3.cell 3
            go_wp2
            go_loopw [14, 58] (fun u t wi => ∃ j : Nat, t = .int .i64 (j : Int) ∧ j ≤ rfr.length ∧ wi.ownsRow W3.heap.size 59 3 u j (clsC (L.take j)) ∧ Keep NoF W3 wi) (fun _ t _ => rfr.length - (intOf t).toNat)
            case atStart => exact ⟨0, rfl, by omega, World.ownsRow_nil _ _ _ _, Keep.refl _ _⟩
            case round =>
              obtain ⟨j, rfl, hj, hown, hki⟩ := hrel
              obtain ⟨wi, rfl⟩ : ∃ wi : World, wi = wr := ⟨_, rfl⟩
              have kwi := HKW.out.trans hki fun _ _ h => h
              have k2i := HKQ.out.trans hki fun _ _ h => h
              by_cases hjl : j < rfr.length
              · obtain ⟨-, hpc, fb_, fo, rfl, y0⟩ := ((HFR.out.kept HK3.out fun _ _ h => h).kept hki fun _ _ h => h).z hjl
                have hx := HPF.out (rfr.getD j 0) (by rw [List.getD_eq_getElem?_getD, List.getElem?_eq_getElem hjl]; exact List.getElem_mem hjl)
                have HT := Lib.hid (HTK.out j hjl)
                generalize rfr.getD j 0 = xi at *
                obtain ⟨x, rfl⟩ : ∃ x : Nat, xi = (x : Int) := ⟨xi.toNat, by omega⟩
                rw [Int.toNat_natCast] at HT
                obtain ⟨bl2, off2, hbe, -, qA, qc, -, -, -, v0, v1, v2, v3, v4⟩ := (HE.out.keep kwi).at_ (k := x) (by omega)
                obtain ⟨g1, g2⟩ : bl = bl2 ∧ off = off2 := by simpa using hbe
                subst g1 g2
                clear hbe
                have j1 : (j : Int) < (rfr.length : Int) := by omega
                have j0 : (0 : Int) ≤ (j : Int) := by omega
                have n1 : (x : Int) < (E.length : Int) := by omega
                have n0 : (0 : Int) ≤ (x : Int) := by omega
                have s0i := (HM0.out _ k2i).2.2.2
                have k5 : Keep NoF wi (wi.alloc (.cells #[.int .i64 (rsAt E x).w, .int .i64 (rsAt E x).k, .bool (rsAt E x).h, .slice qA (rsAt E x).fr.length qc, .int .u64 (rsAt E x).st] 40)) := (Keep.refl _ _).alloc _
                have b5 := Bk.new wi 40 #[.int .i64 (rsAt E x).w, .int .i64 (rsAt E x).k, .bool (rsAt E x).h, .slice qA (rsAt E x).fr.length qc, .int .u64 (rsAt E x).st]
                have hown5 := own_keep hown fun k hk => k5.block k (hown.lt k hk).2 fun h => h
                have HT2 : Hid (clsC (L.take (j + 1)) = clsC (L.take j) ++ [.int .i64 (rsAt E x).w, .int .i64 (rsAt E x).k, .bool (rsAt E x).h]) := Lib.hid (by rw [HT.out, clsC_app]; rfl)
                have hwz : W3.heap.size ≤ wi.heap.size := hki.size
                have HK5 := Lib.hid (hki.trans k5 fun _ _ h => h)
                clear HT
                generalize rsAt E x = q at *
                obtain ⟨qw, qk, qh, qfr, qst⟩ := q
                simp only at v0 v1 v2 v3 v4 b5 HT2
                go_upto_region 21 with (fail)
                generalize wi.alloc (.cells #[.int .i64 qw, .int .i64 qk, .bool qh, .slice qA qfr.length qc, .int .u64 qst] 40) = W5 at *
                have c0 := b5.cell 0
                have c1 := b5.cell 1
                have c2 := b5.cell 2
                have hwz5 : W3.heap.size ≤ W5.heap.size := HK5.out.size
                go_wp2_with (at_builtin
                             refine wpList_app (by rfl) elemClaim (.tmp 67) (.tmp 75) (by rfl) (by rfl) (hown5.alloc _) ⟨W5.heap.size, 0, none⟩ 1 1 [.int .i64 qw, .int .i64 qk, .bool qh] (by rfl) (by rfl)
                               (World.news_of_block (cs := #[.int .i64 qw, .int .i64 qk, .bool qh]) (t := 59) (fr := (0, 0)) (heap_alloc_new W5 _)) (by simp [Value.oneCell']) (by omega) (by omega) (by omega) (by simp; omega) ?_
                             intro g6 cap6 w6 hown6 hA6)
                go_roundw
                case rel =>
                  refine ⟨j + 1, by go_num, by omega, by rw [HT2.out]; exact hown6, (HK5.out.alloc _).grown hA6.grown fun k hk => .inr ?_⟩
                  exact (hown5.lt k hk).1
                case measure => simp only [intOf]; omega
              · obtain rfl : j = rfr.length := by omega
                have j1 : ¬ (rfr.length : Int) < (rfr.length : Int) := by omega
                rw [HTE.out] at hown
                obtain ⟨AL, cL, rfl⟩ := own_form hown
                have HF := Lib.hid (HFW.out wi AL cL k2i (Rd.of_own hown))
                obtain ⟨m0, m1, m2, s0⟩ := HM0.out _ k2i
                have z0 := hki.cellv (b3.cell 0) fun h => h
                have z1 := hki.cellv (b3.cell 1) fun h => h
                have z2 := hki.cellv (b3.cell 2) fun h => h
                have z3 := hki.cellv (b3.cell 3) fun h => h
                have z4 := hki.cellv (b3.cell 4) fun h => h
                have HKI := Lib.hid hki
                clear HFW HTE HTK hown hki
                cases fb with
                | false =>
                  have HB2 := Lib.hid (HBAD.out rfl)
                  clear HSN HBAD
                  go_wp2_with (go_at_call 18; (with_reducible refine HF.out.mono ?_); rintro e w4 ⟨rfl, k4⟩)
                  go_ret
                  exact ⟨by rw [HB2.out]; rfl, kwi.trans k4 fun _ _ h => h⟩
                | true =>
                  have HS2 := Lib.hid (HSN.out rfl)
                  clear HSN HBAD
                  go_wp2_with (go_at_call 18; (with_reducible refine HF.out.mono ?_); rintro e w4 ⟨rfl, k4⟩)
                  go_roundw
                  case rel => exact ⟨k + 1, by go_num, by omega, HS2, ((hkq.trans HK3.out fun _ _ h => h).trans HKI.out fun _ _ h => h).trans k4 fun _ _ h => h⟩
                  case measure => simp only [intOf]; omega
          · obtain rfl : k = E.length := by omega
            have l1 : ¬ (E.length : Int) < (E.length : Int) := by omega
            have HA := Lib.hid (ev_all (by omega) HALL.out HG.out)
            go_wp2
            go_ret
            exact ⟨by rw [HA.out]; rfl, kwq⟩
end
end Go.Proofs.Ytmjdbbfoihadoaa
