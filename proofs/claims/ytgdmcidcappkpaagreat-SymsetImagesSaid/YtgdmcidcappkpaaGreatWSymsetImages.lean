/- The law SymsetImages answers true. No condition. -/
import Derived.Test.YtgdmcidcappkpaaGreatSyS
import Derived.Test.YtgdmcidcappkpaaGreatSzC
import Derived.Test.YtgdmcidcappkpaaGreatSzDE
set_option linter.unusedVariables false
set_option linter.unusedSimpArgs false
namespace Go.Proofs.YtgdmcidcappkpaaGreat
open Go.RowKit
open Dd (ofN Valid supp den odN)

/-- What hands back a diagram and an error. -/
def EPz (w : World) (V : Nat) (f : BF) (err : Int) (e : Ending) (w' : World) : Prop :=
  ∃ A n c, ∃ r : Nat, e = .returned (.tuple #[.agg #[.int .i64 V, .slice A n c, .int .i64 r], .int .i64 err]) ∧ IsD w' V f A n c r ∧ Keep NoF w w'
theorem isD_zeroz (w : World) : IsD w 0 (fun _ => false) none 0 0 0 := ⟨[], rfl, Rd.nil _ _, valid_const 0 (by omega) false, fun ρ => rfl⟩
theorem epz_bad {w : World} {err : Int} {e : Ending} {w' : World} (h : e = .returned (.tuple #[dgZero, .int .i64 err]) ∧ Keep NoF w w') : EPz w 0 (fun _ => false) err e w' := ⟨none, 0, 0, 0, h.1, isD_zeroz w', h.2⟩
theorem noOdd_set {V r : Nat} {M : List Nd} (H : Valid V M r) (h : supp M &&& odN V = 0) : NoOdd (den M r) := fun v hv ρ b => Dd.valid_locQ H (Dd.set_vars H h) _ _ fun x hx => by
  have h2 : x % 2 = 0 := (show x < V ∧ x % 2 = 0 from hx).2
  rw [Dd.upd_ne]
  intro e
  rw [e] at h2
  omega
theorem rel_form (d : Dg) {w : World} (hd : d.In w) (h : relE d = 0) : ∃ (V : Nat) (M : List Nd) (r : Nat) (A : Option Addr) (c : Nat), d = ⟨V, ofN M, r, .slice A M.length c⟩ ∧ Valid V M r ∧ V % 2 = 0 := by
  obtain ⟨_, _, _, he⟩ := relE_zero h
  obtain ⟨V, M, r, A, c, hf, hv, _⟩ := dg_isD d hd he
  have h2 := relE_even h
  rw [hf] at h2
  exact ⟨V, M, r, A, c, hf, hv, by simp only at h2; omega⟩
theorem set_form (s : Dg) {w : World} (hs : s.In w) (h : setE s = 0) : ∃ (V : Nat) (M : List Nd) (r : Nat) (A : Option Addr) (c : Nat), s = ⟨V, ofN M, r, .slice A M.length c⟩ ∧ Valid V M r ∧ V % 2 = 0 ∧ NoOdd (den M r) := by
  obtain ⟨h1, h2⟩ := setE_zero h
  obtain ⟨_, _, _, he⟩ := relE_zero h1
  obtain ⟨V, M, r, A, c, hf, hv, hev⟩ := rel_form s hs h1
  refine ⟨V, M, r, A, c, hf, hv, hev, noOdd_set hv ?_⟩
  have hsu : suppD s = supp M := by
    unfold suppD
    rw [if_pos he, hf, Dd.toN_ofN]
  rw [hsu, hf] at h2
  exact h2
theorem in_isD {V r : Nat} {M : List Nd} {A : Option Addr} {c : Nat} (hv : Valid V M r) {W : World} (h : (⟨V, ofN M, r, .slice A M.length c⟩ : Dg).In W) : IsD W V (den M r) A M.length c r := ⟨M, rfl, by
  have := h.1
  simp only at this
  rw [Dd.ofN_len, rnsC_ofN] at this
  exact this, hv, fun _ => rfl⟩
theorem prime_both (s : Dg) {w : World} (hs : s.In w) (hf : s.V ≤ 10 ∨ 24 < s.V) : ∃ V f err, ∀ W, s.In W → Calls Tryz.prog 6 #[s.val] W (EPz W V f err) ∧ Calls Tryz.prog 7 #[s.val] W (EPz W V f err) := by
  by_cases h : setE s = 0
  · obtain ⟨V, M, r, A, c, rfl, hv, he, hno⟩ := set_form s hs h
    have := hv.vars
    simp only at hf
    exact ⟨_, _, 0, fun W hW => ⟨Prime_ok (by omega) he hno _ _ _ _ W (in_isD hv hW), rPrime_ok he hno _ _ _ _ W (in_isD hv hW)⟩⟩
  · exact ⟨_, _, _, fun W hW => ⟨(Prime_bad s W hW h).mono fun e w' => epz_bad, (rPrime_bad s W hW h).mono fun e w' => epz_bad⟩⟩
theorem conv_both (s : Dg) {w : World} (hs : s.In w) (hf : s.V ≤ 10 ∨ 24 < s.V) : ∃ V f err, ∀ W, s.In W → Calls Tryz.prog 15 #[s.val] W (EPz W V f err) ∧ Calls Tryz.prog 16 #[s.val] W (EPz W V f err) := by
  by_cases h : relE s = 0
  · obtain ⟨V, M, r, A, c, rfl, hv, he⟩ := rel_form s hs h
    have := hv.vars
    simp only at hf
    exact ⟨_, _, 0, fun W hW => ⟨Converse_ok (by omega) he _ _ _ _ W (in_isD hv hW), rConverse_ok (by omega) he _ _ _ _ W (in_isD hv hW)⟩⟩
  · exact ⟨_, _, _, fun W hW => ⟨(Converse_bad s W hW h).mono fun e w' => epz_bad, (rConverse_bad s W hW h).mono fun e w' => epz_bad⟩⟩
theorem Image_both (d s : Dg) {w : World} (hd : d.In w) (hs : s.In w) (hf : s.V ≤ 10 ∨ 24 < s.V) : ∃ V f err, ∀ W, d.In W → s.In W → Calls Tryz.prog 9 #[d.val, s.val] W (EPz W V f err) ∧ Calls Tryz.prog 10 #[d.val, s.val] W (EPz W V f err) := by
  rcases pairE_cases d s with ⟨h1, h2⟩ | ⟨h1, h2, h3⟩ | ⟨h1, h2, h3, h4⟩ | ⟨h1, h2, h3, h4⟩
  · exact ⟨_, _, _, fun W hW hW2 => ⟨(Image_bad d s W hW hW2 (by rw [h2]; exact h1)).mono fun e w' => epz_bad, (rImage_bad d s W hW hW2 (by rw [h2]; exact h1)).mono fun e w' => epz_bad⟩⟩
  · exact ⟨_, _, _, fun W hW hW2 => ⟨(Image_bad d s W hW hW2 (by rw [h3]; exact h2)).mono fun e w' => epz_bad, (rImage_bad d s W hW hW2 (by rw [h3]; exact h2)).mono fun e w' => epz_bad⟩⟩
  · exact ⟨_, _, _, fun W hW hW2 => ⟨(Image_bad d s W hW hW2 (by rw [h4]; decide)).mono fun e w' => epz_bad, (rImage_bad d s W hW hW2 (by rw [h4]; decide)).mono fun e w' => epz_bad⟩⟩
  · obtain ⟨V, M, r, A, c, rfl, hv, he⟩ := rel_form d hd h1
    obtain ⟨V2, M2, r2, A2, c2, rfl, hv2, he2, hno⟩ := set_form s hs h2
    simp only at h3 hf
    obtain rfl : V2 = V := by omega
    have := hv.vars
    exact ⟨_, _, 0, fun W hW hW2 => ⟨Image_ok (by omega) he hno _ _ _ _ _ _ _ _ W (in_isD hv hW) (in_isD hv2 hW2), rImage_ok (by omega) he hno _ _ _ _ _ _ _ _ W (in_isD hv hW) (in_isD hv2 hW2)⟩⟩
theorem Pre_both (d s : Dg) {w : World} (hd : d.In w) (hs : s.In w) (hf : s.V ≤ 10 ∨ 24 < s.V) : ∃ V f err, ∀ W, d.In W → s.In W → Calls Tryz.prog 11 #[d.val, s.val] W (EPz W V f err) ∧ Calls Tryz.prog 12 #[d.val, s.val] W (EPz W V f err) := by
  rcases pairE_cases d s with ⟨h1, h2⟩ | ⟨h1, h2, h3⟩ | ⟨h1, h2, h3, h4⟩ | ⟨h1, h2, h3, h4⟩
  · exact ⟨_, _, _, fun W hW hW2 => ⟨(Pre_bad d s W hW hW2 (by rw [h2]; exact h1)).mono fun e w' => epz_bad, (rPre_bad d s W hW hW2 (by rw [h2]; exact h1)).mono fun e w' => epz_bad⟩⟩
  · exact ⟨_, _, _, fun W hW hW2 => ⟨(Pre_bad d s W hW hW2 (by rw [h3]; exact h2)).mono fun e w' => epz_bad, (rPre_bad d s W hW hW2 (by rw [h3]; exact h2)).mono fun e w' => epz_bad⟩⟩
  · exact ⟨_, _, _, fun W hW hW2 => ⟨(Pre_bad d s W hW hW2 (by rw [h4]; decide)).mono fun e w' => epz_bad, (rPre_bad d s W hW hW2 (by rw [h4]; decide)).mono fun e w' => epz_bad⟩⟩
  · obtain ⟨V, M, r, A, c, rfl, hv, he⟩ := rel_form d hd h1
    obtain ⟨V2, M2, r2, A2, c2, rfl, hv2, he2, hno⟩ := set_form s hs h2
    simp only at h3 hf
    obtain rfl : V2 = V := by omega
    have := hv.vars
    exact ⟨_, _, 0, fun W hW hW2 => ⟨Pre_ok (by omega) he hno _ _ _ _ _ _ _ _ W (in_isD hv hW) (in_isD hv2 hW2), rPre_ok (by omega) he hno _ _ _ _ _ _ _ _ W (in_isD hv hW) (in_isD hv2 hW2)⟩⟩
theorem Box_both (d s : Dg) {w : World} (hd : d.In w) (hs : s.In w) (hf : s.V ≤ 10 ∨ 24 < s.V) : ∃ V f err, ∀ W, d.In W → s.In W → Calls Tryz.prog 13 #[d.val, s.val] W (EPz W V f err) ∧ Calls Tryz.prog 14 #[d.val, s.val] W (EPz W V f err) := by
  rcases pairE_cases d s with ⟨h1, h2⟩ | ⟨h1, h2, h3⟩ | ⟨h1, h2, h3, h4⟩ | ⟨h1, h2, h3, h4⟩
  · exact ⟨_, _, _, fun W hW hW2 => ⟨(Box_bad d s W hW hW2 (by rw [h2]; exact h1)).mono fun e w' => epz_bad, (rBox_bad d s W hW hW2 (by rw [h2]; exact h1)).mono fun e w' => epz_bad⟩⟩
  · exact ⟨_, _, _, fun W hW hW2 => ⟨(Box_bad d s W hW hW2 (by rw [h3]; exact h2)).mono fun e w' => epz_bad, (rBox_bad d s W hW hW2 (by rw [h3]; exact h2)).mono fun e w' => epz_bad⟩⟩
  · exact ⟨_, _, _, fun W hW hW2 => ⟨(Box_bad d s W hW hW2 (by rw [h4]; decide)).mono fun e w' => epz_bad, (rBox_bad d s W hW hW2 (by rw [h4]; decide)).mono fun e w' => epz_bad⟩⟩
  · obtain ⟨V, M, r, A, c, rfl, hv, he⟩ := rel_form d hd h1
    obtain ⟨V2, M2, r2, A2, c2, rfl, hv2, he2, hno⟩ := set_form s hs h2
    simp only at h3 hf
    obtain rfl : V2 = V := by omega
    have := hv.vars
    exact ⟨_, _, 0, fun W hW hW2 => ⟨Box_ok (by omega) he hno _ _ _ _ _ _ _ _ W (in_isD hv hW) (in_isD hv2 hW2), rBox_ok (by omega) he hno _ _ _ _ _ _ _ _ W (in_isD hv hW) (in_isD hv2 hW2)⟩⟩
section
set_option maxRecDepth 100000
set_option maxHeartbeats 4000000
theorem walk_SymsetImages (d s : Dg) (w : World) (hd : d.Has w) (hs : s.Has w) : Calls Tryz.prog 3 #[d.val, s.val] w fun e w' => e = .returned (.bool true) ∧ Keep NoF w w' := by
  have hf1 := fun W (hk : Keep NoF w W) => Few12_any d W ⟨hd.1.kept hk fun _ _ h => h, hd.2⟩
  have hf2 := fun W (hk : Keep NoF w W) => Few12_any s W ⟨hs.1.kept hk fun _ _ h => h, hs.2⟩
  have hin : ∀ (d : Dg), d.Has w → few12 d = true → ∀ W, Keep NoF w W → d.In W := fun d hd h W hk => ⟨hd.1.kept hk fun _ _ h => h, by
    unfold few12 at h
    rw [Bool.and_eq_true] at h
    have := of_decide_eq_true h.1
    omega⟩
  have hvv : ∀ (d : Dg), few12 d = true → d.V ≤ 10 ∨ 24 < d.V := fun d h => by
    unfold few12 at h
    rw [Bool.and_eq_true, Bool.or_eq_true] at h
    simpa using h.2
  have hall : few12 d = true → few12 s = true → (∃ V f err, ∀ W, Keep NoF w W → Calls Tryz.prog 6 #[s.val] W (EPz W V f err) ∧ Calls Tryz.prog 7 #[s.val] W (EPz W V f err)) ∧ (∃ V f err, ∀ W, Keep NoF w W → Calls Tryz.prog 9 #[d.val, s.val] W (EPz W V f err) ∧ Calls Tryz.prog 10 #[d.val, s.val] W (EPz W V f err)) ∧ (∃ V f err, ∀ W, Keep NoF w W → Calls Tryz.prog 11 #[d.val, s.val] W (EPz W V f err) ∧ Calls Tryz.prog 12 #[d.val, s.val] W (EPz W V f err)) ∧ (∃ V f err, ∀ W, Keep NoF w W → Calls Tryz.prog 13 #[d.val, s.val] W (EPz W V f err) ∧ Calls Tryz.prog 14 #[d.val, s.val] W (EPz W V f err)) ∧ (∃ V f err, ∀ W, Keep NoF w W → Calls Tryz.prog 15 #[d.val] W (EPz W V f err) ∧ Calls Tryz.prog 16 #[d.val] W (EPz W V f err)) := fun h1 h2 => by
    have i1 := hin d hd h1
    have i2 := hin s hs h2
    have k0 := Keep.refl NoF w
    obtain ⟨V, f, r, h⟩ := prime_both s (i2 w k0) (hvv s h2)
    obtain ⟨V2, f2, r2, g2⟩ := Image_both d s (i1 w k0) (i2 w k0) (hvv s h2)
    obtain ⟨V3, f3, r3, g3⟩ := Pre_both d s (i1 w k0) (i2 w k0) (hvv s h2)
    obtain ⟨V4, f4, r4, g4⟩ := Box_both d s (i1 w k0) (i2 w k0) (hvv s h2)
    obtain ⟨V5, f5, r5, g5⟩ := conv_both d (i1 w k0) (hvv d h1)
    exact ⟨⟨V, f, r, fun W hk => h W (i2 W hk)⟩, ⟨V2, f2, r2, fun W hk => g2 W (i1 W hk) (i2 W hk)⟩, ⟨V3, f3, r3, fun W hk => g3 W (i1 W hk) (i2 W hk)⟩, ⟨V4, f4, r4, fun W hk => g4 W (i1 W hk) (i2 W hk)⟩, ⟨V5, f5, r5, fun W hk => g5 W (i1 W hk)⟩⟩
  clear hin hvv
  have hd1 := hd.1
  have hs1 := hs.1
  generalize few12 d = fd at *
  generalize few12 s = fs at *
  clear hd hs
  obtain ⟨dV, dR, dr, dsl⟩ := d
  obtain ⟨sV, sR, sr, ssl⟩ := s
  simp only at hd1 hs1
  obtain ⟨_, A1, c1, rfl, _, _⟩ := hd1
  obtain ⟨_, A2, c2, rfl, _, _⟩ := hs1
  have HF1 : Hid (∀ W, Keep NoF w W → Calls Tryz.prog 4 #[.agg #[.int .i64 dV, .slice A1 dR.length c1, .int .i64 dr]] W fun e w' => e = .returned (.bool fd) ∧ Keep NoF W w') := Lib.hid hf1
  have HF2 : Hid (∀ W, Keep NoF w W → Calls Tryz.prog 4 #[.agg #[.int .i64 sV, .slice A2 sR.length c2, .int .i64 sr]] W fun e w' => e = .returned (.bool fs) ∧ Keep NoF W w') := Lib.hid hf2
  clear hf1 hf2
  show Calls Tryz.prog 3 #[.agg #[.int .i64 dV, .slice A1 dR.length c1, .int .i64 dr], .agg #[.int .i64 sV, .slice A2 sR.length c2, .int .i64 sr]] w _
  have hkd : Keep NoF w ((w.alloc (.cells #[.int .i64 dV, .slice A1 dR.length c1, .int .i64 dr] 24)).alloc (.cells #[.int .i64 sV, .slice A2 sR.length c2, .int .i64 sr] 24)) := ((Keep.refl _ _).alloc _).alloc _
  have Br := (Bk.new w 24 #[.int .i64 dV, .slice A1 dR.length c1, .int .i64 dr]).alloc (.cells #[.int .i64 sV, .slice A2 sR.length c2, .int .i64 sr] 24)
  have Bs := Bk.new (w.alloc (.cells #[.int .i64 dV, .slice A1 dR.length c1, .int .i64 dr] 24)) 24 #[.int .i64 sV, .slice A2 sR.length c2, .int .i64 sr]
  rw [World.size_alloc] at Bs
  cases fd with
  | false =>
    clear hall
    go_enter Tryz.func3, Tryz.ntmps3
    go_wp2_with (first
      | (go_at_call 4; (with_reducible refine (HF1.out _ hkd).mono ?_); rintro e w1 ⟨rfl, K1⟩)
      | (go_at_call 5; (with_reducible refine (awake_any _).mono ?_); rintro e w2 ⟨rfl, K2⟩))
    go_ret
    exact ⟨rfl, (hkd.trans K1 fun _ _ h => h).trans K2 fun _ _ h => h⟩
  | true =>
  cases fs with
  | false =>
    clear hall
    go_enter Tryz.func3, Tryz.ntmps3
    go_wp2_with (first
      | (go_at_call 4; (with_reducible refine (HF1.out _ hkd).mono ?_); rintro e w1 ⟨rfl, K1⟩; have kk := hkd.trans K1 fun _ _ h => h; have b0 := (Bs.keep K1 fun h => h).cell 0; have b1 := (Bs.keep K1 fun h => h).cell 1; have b2 := (Bs.keep K1 fun h => h).cell 2)
      | (go_at_call 4; (with_reducible refine (HF2.out _ kk).mono ?_); rintro e w3 ⟨rfl, K3⟩)
      | (go_at_call 5; (with_reducible refine (awake_any _).mono ?_); rintro e w2 ⟨rfl, K2⟩))
    go_ret
    exact ⟨rfl, (kk.trans K3 fun _ _ h => h).trans K2 fun _ _ h => h⟩
  | true =>
    obtain ⟨⟨V1, f1, e1, h1⟩, ⟨V2, f2, e2, h2⟩, ⟨V3, f3, e3, h3⟩, ⟨V4, f4, e4, h4⟩, ⟨V5, f5, e5, h5⟩⟩ := hall rfl rfl
    clear hall
    have H1a : Hid (∀ W, Keep NoF w W → Calls Tryz.prog 6 #[.agg #[.int .i64 sV, .slice A2 sR.length c2, .int .i64 sr]] W (EPz W V1 f1 e1)) := Lib.hid fun W hk => (h1 W hk).1
    have H1b : Hid (∀ W, Keep NoF w W → Calls Tryz.prog 7 #[.agg #[.int .i64 sV, .slice A2 sR.length c2, .int .i64 sr]] W (EPz W V1 f1 e1)) := Lib.hid fun W hk => (h1 W hk).2
    have H2a : Hid (∀ W, Keep NoF w W → Calls Tryz.prog 9 #[.agg #[.int .i64 dV, .slice A1 dR.length c1, .int .i64 dr], .agg #[.int .i64 sV, .slice A2 sR.length c2, .int .i64 sr]] W (EPz W V2 f2 e2)) := Lib.hid fun W hk => (h2 W hk).1
    have H2b : Hid (∀ W, Keep NoF w W → Calls Tryz.prog 10 #[.agg #[.int .i64 dV, .slice A1 dR.length c1, .int .i64 dr], .agg #[.int .i64 sV, .slice A2 sR.length c2, .int .i64 sr]] W (EPz W V2 f2 e2)) := Lib.hid fun W hk => (h2 W hk).2
    have H3a : Hid (∀ W, Keep NoF w W → Calls Tryz.prog 11 #[.agg #[.int .i64 dV, .slice A1 dR.length c1, .int .i64 dr], .agg #[.int .i64 sV, .slice A2 sR.length c2, .int .i64 sr]] W (EPz W V3 f3 e3)) := Lib.hid fun W hk => (h3 W hk).1
    have H3b : Hid (∀ W, Keep NoF w W → Calls Tryz.prog 12 #[.agg #[.int .i64 dV, .slice A1 dR.length c1, .int .i64 dr], .agg #[.int .i64 sV, .slice A2 sR.length c2, .int .i64 sr]] W (EPz W V3 f3 e3)) := Lib.hid fun W hk => (h3 W hk).2
    have H4a : Hid (∀ W, Keep NoF w W → Calls Tryz.prog 13 #[.agg #[.int .i64 dV, .slice A1 dR.length c1, .int .i64 dr], .agg #[.int .i64 sV, .slice A2 sR.length c2, .int .i64 sr]] W (EPz W V4 f4 e4)) := Lib.hid fun W hk => (h4 W hk).1
    have H4b : Hid (∀ W, Keep NoF w W → Calls Tryz.prog 14 #[.agg #[.int .i64 dV, .slice A1 dR.length c1, .int .i64 dr], .agg #[.int .i64 sV, .slice A2 sR.length c2, .int .i64 sr]] W (EPz W V4 f4 e4)) := Lib.hid fun W hk => (h4 W hk).2
    have H5a : Hid (∀ W, Keep NoF w W → Calls Tryz.prog 15 #[.agg #[.int .i64 dV, .slice A1 dR.length c1, .int .i64 dr]] W (EPz W V5 f5 e5)) := Lib.hid fun W hk => (h5 W hk).1
    have H5b : Hid (∀ W, Keep NoF w W → Calls Tryz.prog 16 #[.agg #[.int .i64 dV, .slice A1 dR.length c1, .int .i64 dr]] W (EPz W V5 f5 e5)) := Lib.hid fun W hk => (h5 W hk).2
    clear h1 h2 h3 h4 h5
    have q1 : (e1 != e1) = false := by simp
    have p1 : (e1 == e1) = true := by simp
    have q2 : (e2 != e2) = false := by simp
    have p2 : (e2 == e2) = true := by simp
    have q3 : (e3 != e3) = false := by simp
    have p3 : (e3 == e3) = true := by simp
    have q4 : (e4 != e4) = false := by simp
    have p4 : (e4 == e4) = true := by simp
    have q5 : (e5 != e5) = false := by simp
    have p5 : (e5 == e5) = true := by simp
    go_enter Tryz.func3, Tryz.ntmps3
    go_upto_region 1 with (fail)
    have Kw := hkd
    generalize (w.alloc (.cells #[.int .i64 dV, .slice A1 dR.length c1, .int .i64 dr] 24)).alloc (.cells #[.int .i64 sV, .slice A2 sR.length c2, .int .i64 sr] 24) = W0 at *
    have cr0 := Br.cell 0
    have cr1 := Br.cell 1
    have cr2 := Br.cell 2
    have cs0 := Bs.cell 0
    have cs1 := Bs.cell 1
    have cs2 := Bs.cell 2
    go_upto_region 3 with (first
                           | (go_at_call 4
                              (with_reducible refine (HF1.out _ Kw).mono ?_)
                              rintro e x1 ⟨rfl, X1⟩
                              have k1 := Kw.trans X1 fun _ _ h => h
                              have b0 := (Bs.keep X1 fun h => h).cell 0
                              have b1 := (Bs.keep X1 fun h => h).cell 1
                              have b2 := (Bs.keep X1 fun h => h).cell 2)
                           | (go_at_call 4
                              (with_reducible refine (HF2.out _ k1).mono ?_)
                              rintro e x2 ⟨rfl, X2⟩))
    clear cr0 cr1 cr2 cs0 cs1 cs2 b0 b1 b2
    have Br_a := (Br.keep X1 fun h => h).keep X2 fun h => h
    have Bs_a := (Bs.keep X1 fun h => h).keep X2 fun h => h
    have Kw_a := k1.trans X2 fun _ _ h => h
    clear Br Bs Kw k1 X1 X2
    have cr0 := Br_a.cell 0
    have cr1 := Br_a.cell 1
    have cr2 := Br_a.cell 2
    have cs0 := Bs_a.cell 0
    have cs1 := Bs_a.cell 1
    have cs2 := Bs_a.cell 2
    go_upto_region 4 with (go_at_call 6
                           (with_reducible refine (H1a.out _ Kw_a).mono ?_)
                           rintro e w10 ⟨A10, n10, c10, r10, rfl, D10, K10⟩
                           have Brn := Br_a.keep K10 fun h => h
                           have Lrn := Brn.lt
                           have Bsn := Bs_a.keep K10 fun h => h
                           have Lsn := Bsn.lt)
    clear cr0 cr1 cr2 cs0 cs1 cs2
    have Br_1 := Brn.alloc (.cells #[.int .i64 V1, .slice A10 n10 c10, .int .i64 r10] 24)
    have Bs_1 := Bsn.alloc (.cells #[.int .i64 V1, .slice A10 n10 c10, .int .i64 r10] 24)
    have Ba_1 := Bk.new w10 24 #[.int .i64 V1, .slice A10 n10 c10, .int .i64 r10]
    have Qa_1 := D10.keep ((Keep.refl NoF w10).alloc (.cells #[.int .i64 V1, .slice A10 n10 c10, .int .i64 r10] 24))
    have Kw_1 : Keep NoF w (w10.alloc (.cells #[.int .i64 V1, .slice A10 n10 c10, .int .i64 r10] 24)) := (Kw_a.trans K10 fun _ _ h => h).alloc _
    have Ga_1 : w.heap.size + 1 < w10.heap.size := Lsn
    generalize w10.alloc (.cells #[.int .i64 V1, .slice A10 n10 c10, .int .i64 r10] 24) = W1 at *
    clear Br_a Bs_a Brn Bsn Kw_a D10 K10
    have cr0 := Br_1.cell 0
    have cr1 := Br_1.cell 1
    have cr2 := Br_1.cell 2
    have cs0 := Bs_1.cell 0
    have cs1 := Bs_1.cell 1
    have cs2 := Bs_1.cell 2
    go_upto_region 5 with (go_at_call 7
                           (with_reducible refine (H1b.out _ Kw_1).mono ?_)
                           rintro e w11 ⟨A11, n11, c11, r11, rfl, D11, K11⟩
                           have Brn := Br_1.keep K11 fun h => h
                           have Lrn := Brn.lt
                           have Bsn := Bs_1.keep K11 fun h => h
                           have Lsn := Bsn.lt
                           have Ban := Ba_1.keep K11 fun h => h
                           have Lan := Ban.lt)
    clear cr0 cr1 cr2 cs0 cs1 cs2
    have Br_2 := Brn.alloc (.cells #[.int .i64 V1, .slice A11 n11 c11, .int .i64 r11] 24)
    have Bs_2 := Bsn.alloc (.cells #[.int .i64 V1, .slice A11 n11 c11, .int .i64 r11] 24)
    have Ba_2 := Ban.alloc (.cells #[.int .i64 V1, .slice A11 n11 c11, .int .i64 r11] 24)
    have Qa_2 := (Qa_1.keep K11).keep ((Keep.refl NoF w11).alloc (.cells #[.int .i64 V1, .slice A11 n11 c11, .int .i64 r11] 24))
    have Bb_2 := Bk.new w11 24 #[.int .i64 V1, .slice A11 n11 c11, .int .i64 r11]
    have Qb_2 := D11.keep ((Keep.refl NoF w11).alloc (.cells #[.int .i64 V1, .slice A11 n11 c11, .int .i64 r11] 24))
    have Kw_2 : Keep NoF w (w11.alloc (.cells #[.int .i64 V1, .slice A11 n11 c11, .int .i64 r11] 24)) := (Kw_1.trans K11 fun _ _ h => h).alloc _
    have Gb_2 : w.heap.size + 1 < w11.heap.size := Lsn
    generalize w11.alloc (.cells #[.int .i64 V1, .slice A11 n11 c11, .int .i64 r11] 24) = W2 at *
    clear Br_1 Bs_1 Ba_1 Qa_1 Brn Bsn Ban Kw_1 D11 K11
    have HE := Lib.hid fun W (hk : Keep NoF W2 W) => aw_samed (Qa_2.keep hk) (Qb_2.keep hk)
    have ca0 : W2.cell? ⟨w10.heap.size, 0, none⟩ = some (.int .i64 V1) := Ba_2.cell 0
    have ca1 : W2.cell? ⟨w10.heap.size, 1, none⟩ = some (.slice A10 n10 c10) := Ba_2.cell 1
    have ca2 : W2.cell? ⟨w10.heap.size, 2, none⟩ = some (.int .i64 r10) := Ba_2.cell 2
    have cb0 : W2.cell? ⟨w11.heap.size, 0, none⟩ = some (.int .i64 V1) := Bb_2.cell 0
    have cb1 : W2.cell? ⟨w11.heap.size, 1, none⟩ = some (.slice A11 n11 c11) := Bb_2.cell 1
    have cb2 : W2.cell? ⟨w11.heap.size, 2, none⟩ = some (.int .i64 r11) := Bb_2.cell 2
    go_upto_region 7 with (first
                           | (go_at_call 8
                              (with_reducible refine (HE.out _ (Keep.refl NoF W2)).mono ?_)
                              rintro e y2 ⟨rfl, y2Z⟩
                              have y2K : Keep NoF W2 y2 := (Keep.refl NoF W2).trans y2Z fun _ _ h => h)
                           | fail)
    clear ca0 ca1 ca2 cb0 cb1 cb2
    have Br_3 := Br_2.keep y2K fun h => h
    have Bs_3 := Bs_2.keep y2K fun h => h
    have Ba_3 := Ba_2.keep y2K fun h => h
    have Qa_3 := Qa_2.keep y2K
    have Bb_3 := Bb_2.keep y2K fun h => h
    have Qb_3 := Qb_2.keep y2K
    have Kw_3 := Kw_2.trans y2K fun _ _ h => h
    clear Kw_2 y2K y2Z Br_2 Bs_2 Ba_2 Qa_2 Bb_2 Qb_2
    clear HE
    have cr0 := Br_3.cell 0
    have cr1 := Br_3.cell 1
    have cr2 := Br_3.cell 2
    have cs0 := Bs_3.cell 0
    have cs1 := Bs_3.cell 1
    have cs2 := Bs_3.cell 2
    go_upto_region 8 with (go_at_call 9
                           (with_reducible refine (H2a.out _ Kw_3).mono ?_)
                           rintro e w12 ⟨A12, n12, c12, r12, rfl, D12, K12⟩
                           have Brn := Br_3.keep K12 fun h => h
                           have Lrn := Brn.lt
                           have Bsn := Bs_3.keep K12 fun h => h
                           have Lsn := Bsn.lt
                           have Ban := Ba_3.keep K12 fun h => h
                           have Lan := Ban.lt
                           have Bbn := Bb_3.keep K12 fun h => h
                           have Lbn := Bbn.lt
                           have y0 : w12.cell? ⟨w10.heap.size, 0, none⟩ = some (.int .i64 V1) := Ban.cell 0
                           have y1 : w12.cell? ⟨w10.heap.size, 1, none⟩ = some (.slice A10 n10 c10) := Ban.cell 1
                           have y2 : w12.cell? ⟨w10.heap.size, 2, none⟩ = some (.int .i64 r10) := Ban.cell 2
                           have yf0 := Ban.frozen 0
                           have yf1 := Ban.frozen 1
                           have yf2 := Ban.frozen 2)
    clear cr0 cr1 cr2 cs0 cs1 cs2
    obtain ⟨Ba_4, Qa_4, S3⟩ := set3_box Ban sl_nint D12
    have Br_4 := Brn.keep S3 fun h => by omega
    have Bs_4 := Bsn.keep S3 fun h => by omega
    have Bb_4 := Bbn.keep S3 fun h => by omega
    have Qb_4 := (Qb_3.keep K12).far_box Ban sl_nint S3
    have Kw_4 : Keep NoF w (((w12.setCell ⟨w10.heap.size, 0, none⟩ (.int .i64 V2)).setCell ⟨w10.heap.size, 1, none⟩ (.slice A12 n12 c12)).setCell ⟨w10.heap.size, 2, none⟩ (.int .i64 r12)) := (Kw_3.trans K12 fun _ _ h => h).trans S3 fun i hi h => by omega
    generalize (((w12.setCell ⟨w10.heap.size, 0, none⟩ (.int .i64 V2)).setCell ⟨w10.heap.size, 1, none⟩ (.slice A12 n12 c12)).setCell ⟨w10.heap.size, 2, none⟩ (.int .i64 r12)) = W4 at *
    clear Br_3 Bs_3 Ba_3 Bb_3 Qa_3 Qb_3 Brn Bsn Ban Bbn Kw_3 D12 K12 S3 y0 y1 y2 yf0 yf1 yf2
    have cr0 := Br_4.cell 0
    have cr1 := Br_4.cell 1
    have cr2 := Br_4.cell 2
    have cs0 := Bs_4.cell 0
    have cs1 := Bs_4.cell 1
    have cs2 := Bs_4.cell 2
    go_upto_region 9 with (go_at_call 10
                           (with_reducible refine (H2b.out _ Kw_4).mono ?_)
                           rintro e w13 ⟨A13, n13, c13, r13, rfl, D13, K13⟩
                           have Brn := Br_4.keep K13 fun h => h
                           have Lrn := Brn.lt
                           have Bsn := Bs_4.keep K13 fun h => h
                           have Lsn := Bsn.lt
                           have Ban := Ba_4.keep K13 fun h => h
                           have Lan := Ban.lt
                           have Bbn := Bb_4.keep K13 fun h => h
                           have Lbn := Bbn.lt
                           have y0 : w13.cell? ⟨w11.heap.size, 0, none⟩ = some (.int .i64 V1) := Bbn.cell 0
                           have y1 : w13.cell? ⟨w11.heap.size, 1, none⟩ = some (.slice A11 n11 c11) := Bbn.cell 1
                           have y2 : w13.cell? ⟨w11.heap.size, 2, none⟩ = some (.int .i64 r11) := Bbn.cell 2
                           have yf0 := Bbn.frozen 0
                           have yf1 := Bbn.frozen 1
                           have yf2 := Bbn.frozen 2)
    clear cr0 cr1 cr2 cs0 cs1 cs2
    obtain ⟨Bb_5, Qb_5, S3⟩ := set3_box Bbn sl_nint D13
    have Br_5 := Brn.keep S3 fun h => by omega
    have Bs_5 := Bsn.keep S3 fun h => by omega
    have Ba_5 := Ban.keep S3 fun h => by omega
    have Qa_5 := (Qa_4.keep K13).far_box Bbn sl_nint S3
    have Kw_5 : Keep NoF w (((w13.setCell ⟨w11.heap.size, 0, none⟩ (.int .i64 V2)).setCell ⟨w11.heap.size, 1, none⟩ (.slice A13 n13 c13)).setCell ⟨w11.heap.size, 2, none⟩ (.int .i64 r13)) := (Kw_4.trans K13 fun _ _ h => h).trans S3 fun i hi h => by omega
    generalize (((w13.setCell ⟨w11.heap.size, 0, none⟩ (.int .i64 V2)).setCell ⟨w11.heap.size, 1, none⟩ (.slice A13 n13 c13)).setCell ⟨w11.heap.size, 2, none⟩ (.int .i64 r13)) = W5 at *
    clear Br_4 Bs_4 Ba_4 Bb_4 Qa_4 Qb_4 Brn Bsn Ban Bbn Kw_4 D13 K13 S3 y0 y1 y2 yf0 yf1 yf2
    have HE := Lib.hid fun W (hk : Keep NoF W5 W) => aw_samed (Qa_5.keep hk) (Qb_5.keep hk)
    have ca0 : W5.cell? ⟨w10.heap.size, 0, none⟩ = some (.int .i64 V2) := Ba_5.cell 0
    have ca1 : W5.cell? ⟨w10.heap.size, 1, none⟩ = some (.slice A12 n12 c12) := Ba_5.cell 1
    have ca2 : W5.cell? ⟨w10.heap.size, 2, none⟩ = some (.int .i64 r12) := Ba_5.cell 2
    have cb0 : W5.cell? ⟨w11.heap.size, 0, none⟩ = some (.int .i64 V2) := Bb_5.cell 0
    have cb1 : W5.cell? ⟨w11.heap.size, 1, none⟩ = some (.slice A13 n13 c13) := Bb_5.cell 1
    have cb2 : W5.cell? ⟨w11.heap.size, 2, none⟩ = some (.int .i64 r13) := Bb_5.cell 2
    go_upto_region 11 with (first
                            | (go_at_call 8
                               (with_reducible refine (HE.out _ (Keep.refl NoF W5)).mono ?_)
                               rintro e y5 ⟨rfl, y5Z⟩
                               have y5K : Keep NoF W5 y5 := (Keep.refl NoF W5).trans y5Z fun _ _ h => h)
                            | fail)
    clear ca0 ca1 ca2 cb0 cb1 cb2
    have Br_6 := Br_5.keep y5K fun h => h
    have Bs_6 := Bs_5.keep y5K fun h => h
    have Ba_6 := Ba_5.keep y5K fun h => h
    have Qa_6 := Qa_5.keep y5K
    have Bb_6 := Bb_5.keep y5K fun h => h
    have Qb_6 := Qb_5.keep y5K
    have Kw_6 := Kw_5.trans y5K fun _ _ h => h
    clear Kw_5 y5K y5Z Br_5 Bs_5 Ba_5 Qa_5 Bb_5 Qb_5
    clear HE
    have cr0 := Br_6.cell 0
    have cr1 := Br_6.cell 1
    have cr2 := Br_6.cell 2
    have cs0 := Bs_6.cell 0
    have cs1 := Bs_6.cell 1
    have cs2 := Bs_6.cell 2
    go_upto_region 12 with (go_at_call 11
                            (with_reducible refine (H3a.out _ Kw_6).mono ?_)
                            rintro e w14 ⟨A14, n14, c14, r14, rfl, D14, K14⟩
                            have Brn := Br_6.keep K14 fun h => h
                            have Lrn := Brn.lt
                            have Bsn := Bs_6.keep K14 fun h => h
                            have Lsn := Bsn.lt
                            have Ban := Ba_6.keep K14 fun h => h
                            have Lan := Ban.lt
                            have Bbn := Bb_6.keep K14 fun h => h
                            have Lbn := Bbn.lt
                            have y0 : w14.cell? ⟨w10.heap.size, 0, none⟩ = some (.int .i64 V2) := Ban.cell 0
                            have y1 : w14.cell? ⟨w10.heap.size, 1, none⟩ = some (.slice A12 n12 c12) := Ban.cell 1
                            have y2 : w14.cell? ⟨w10.heap.size, 2, none⟩ = some (.int .i64 r12) := Ban.cell 2
                            have yf0 := Ban.frozen 0
                            have yf1 := Ban.frozen 1
                            have yf2 := Ban.frozen 2)
    clear cr0 cr1 cr2 cs0 cs1 cs2
    obtain ⟨Ba_7, Qa_7, S3⟩ := set3_box Ban sl_nint D14
    have Br_7 := Brn.keep S3 fun h => by omega
    have Bs_7 := Bsn.keep S3 fun h => by omega
    have Bb_7 := Bbn.keep S3 fun h => by omega
    have Qb_7 := (Qb_6.keep K14).far_box Ban sl_nint S3
    have Kw_7 : Keep NoF w (((w14.setCell ⟨w10.heap.size, 0, none⟩ (.int .i64 V3)).setCell ⟨w10.heap.size, 1, none⟩ (.slice A14 n14 c14)).setCell ⟨w10.heap.size, 2, none⟩ (.int .i64 r14)) := (Kw_6.trans K14 fun _ _ h => h).trans S3 fun i hi h => by omega
    generalize (((w14.setCell ⟨w10.heap.size, 0, none⟩ (.int .i64 V3)).setCell ⟨w10.heap.size, 1, none⟩ (.slice A14 n14 c14)).setCell ⟨w10.heap.size, 2, none⟩ (.int .i64 r14)) = W7 at *
    clear Br_6 Bs_6 Ba_6 Bb_6 Qa_6 Qb_6 Brn Bsn Ban Bbn Kw_6 D14 K14 S3 y0 y1 y2 yf0 yf1 yf2
    have cr0 := Br_7.cell 0
    have cr1 := Br_7.cell 1
    have cr2 := Br_7.cell 2
    have cs0 := Bs_7.cell 0
    have cs1 := Bs_7.cell 1
    have cs2 := Bs_7.cell 2
    go_upto_region 13 with (go_at_call 12
                            (with_reducible refine (H3b.out _ Kw_7).mono ?_)
                            rintro e w15 ⟨A15, n15, c15, r15, rfl, D15, K15⟩
                            have Brn := Br_7.keep K15 fun h => h
                            have Lrn := Brn.lt
                            have Bsn := Bs_7.keep K15 fun h => h
                            have Lsn := Bsn.lt
                            have Ban := Ba_7.keep K15 fun h => h
                            have Lan := Ban.lt
                            have Bbn := Bb_7.keep K15 fun h => h
                            have Lbn := Bbn.lt
                            have y0 : w15.cell? ⟨w11.heap.size, 0, none⟩ = some (.int .i64 V2) := Bbn.cell 0
                            have y1 : w15.cell? ⟨w11.heap.size, 1, none⟩ = some (.slice A13 n13 c13) := Bbn.cell 1
                            have y2 : w15.cell? ⟨w11.heap.size, 2, none⟩ = some (.int .i64 r13) := Bbn.cell 2
                            have yf0 := Bbn.frozen 0
                            have yf1 := Bbn.frozen 1
                            have yf2 := Bbn.frozen 2)
    clear cr0 cr1 cr2 cs0 cs1 cs2
    obtain ⟨Bb_8, Qb_8, S3⟩ := set3_box Bbn sl_nint D15
    have Br_8 := Brn.keep S3 fun h => by omega
    have Bs_8 := Bsn.keep S3 fun h => by omega
    have Ba_8 := Ban.keep S3 fun h => by omega
    have Qa_8 := (Qa_7.keep K15).far_box Bbn sl_nint S3
    have Kw_8 : Keep NoF w (((w15.setCell ⟨w11.heap.size, 0, none⟩ (.int .i64 V3)).setCell ⟨w11.heap.size, 1, none⟩ (.slice A15 n15 c15)).setCell ⟨w11.heap.size, 2, none⟩ (.int .i64 r15)) := (Kw_7.trans K15 fun _ _ h => h).trans S3 fun i hi h => by omega
    generalize (((w15.setCell ⟨w11.heap.size, 0, none⟩ (.int .i64 V3)).setCell ⟨w11.heap.size, 1, none⟩ (.slice A15 n15 c15)).setCell ⟨w11.heap.size, 2, none⟩ (.int .i64 r15)) = W8 at *
    clear Br_7 Bs_7 Ba_7 Bb_7 Qa_7 Qb_7 Brn Bsn Ban Bbn Kw_7 D15 K15 S3 y0 y1 y2 yf0 yf1 yf2
    have HE := Lib.hid fun W (hk : Keep NoF W8 W) => aw_samed (Qa_8.keep hk) (Qb_8.keep hk)
    have ca0 : W8.cell? ⟨w10.heap.size, 0, none⟩ = some (.int .i64 V3) := Ba_8.cell 0
    have ca1 : W8.cell? ⟨w10.heap.size, 1, none⟩ = some (.slice A14 n14 c14) := Ba_8.cell 1
    have ca2 : W8.cell? ⟨w10.heap.size, 2, none⟩ = some (.int .i64 r14) := Ba_8.cell 2
    have cb0 : W8.cell? ⟨w11.heap.size, 0, none⟩ = some (.int .i64 V3) := Bb_8.cell 0
    have cb1 : W8.cell? ⟨w11.heap.size, 1, none⟩ = some (.slice A15 n15 c15) := Bb_8.cell 1
    have cb2 : W8.cell? ⟨w11.heap.size, 2, none⟩ = some (.int .i64 r15) := Bb_8.cell 2
    go_upto_region 15 with (first
                            | (go_at_call 8
                               (with_reducible refine (HE.out _ (Keep.refl NoF W8)).mono ?_)
                               rintro e y8 ⟨rfl, y8Z⟩
                               have y8K : Keep NoF W8 y8 := (Keep.refl NoF W8).trans y8Z fun _ _ h => h)
                            | fail)
    clear ca0 ca1 ca2 cb0 cb1 cb2
    have Br_9 := Br_8.keep y8K fun h => h
    have Bs_9 := Bs_8.keep y8K fun h => h
    have Ba_9 := Ba_8.keep y8K fun h => h
    have Qa_9 := Qa_8.keep y8K
    have Bb_9 := Bb_8.keep y8K fun h => h
    have Qb_9 := Qb_8.keep y8K
    have Kw_9 := Kw_8.trans y8K fun _ _ h => h
    clear Kw_8 y8K y8Z Br_8 Bs_8 Ba_8 Qa_8 Bb_8 Qb_8
    clear HE
    have cr0 := Br_9.cell 0
    have cr1 := Br_9.cell 1
    have cr2 := Br_9.cell 2
    have cs0 := Bs_9.cell 0
    have cs1 := Bs_9.cell 1
    have cs2 := Bs_9.cell 2
    go_upto_region 16 with (go_at_call 13
                            (with_reducible refine (H4a.out _ Kw_9).mono ?_)
                            rintro e w16 ⟨A16, n16, c16, r16, rfl, D16, K16⟩
                            have Brn := Br_9.keep K16 fun h => h
                            have Lrn := Brn.lt
                            have Bsn := Bs_9.keep K16 fun h => h
                            have Lsn := Bsn.lt
                            have Ban := Ba_9.keep K16 fun h => h
                            have Lan := Ban.lt
                            have Bbn := Bb_9.keep K16 fun h => h
                            have Lbn := Bbn.lt
                            have y0 : w16.cell? ⟨w10.heap.size, 0, none⟩ = some (.int .i64 V3) := Ban.cell 0
                            have y1 : w16.cell? ⟨w10.heap.size, 1, none⟩ = some (.slice A14 n14 c14) := Ban.cell 1
                            have y2 : w16.cell? ⟨w10.heap.size, 2, none⟩ = some (.int .i64 r14) := Ban.cell 2
                            have yf0 := Ban.frozen 0
                            have yf1 := Ban.frozen 1
                            have yf2 := Ban.frozen 2)
    clear cr0 cr1 cr2 cs0 cs1 cs2
    obtain ⟨Ba_10, Qa_10, S3⟩ := set3_box Ban sl_nint D16
    have Br_10 := Brn.keep S3 fun h => by omega
    have Bs_10 := Bsn.keep S3 fun h => by omega
    have Bb_10 := Bbn.keep S3 fun h => by omega
    have Qb_10 := (Qb_9.keep K16).far_box Ban sl_nint S3
    have Kw_10 : Keep NoF w (((w16.setCell ⟨w10.heap.size, 0, none⟩ (.int .i64 V4)).setCell ⟨w10.heap.size, 1, none⟩ (.slice A16 n16 c16)).setCell ⟨w10.heap.size, 2, none⟩ (.int .i64 r16)) := (Kw_9.trans K16 fun _ _ h => h).trans S3 fun i hi h => by omega
    generalize (((w16.setCell ⟨w10.heap.size, 0, none⟩ (.int .i64 V4)).setCell ⟨w10.heap.size, 1, none⟩ (.slice A16 n16 c16)).setCell ⟨w10.heap.size, 2, none⟩ (.int .i64 r16)) = W10 at *
    clear Br_9 Bs_9 Ba_9 Bb_9 Qa_9 Qb_9 Brn Bsn Ban Bbn Kw_9 D16 K16 S3 y0 y1 y2 yf0 yf1 yf2
    have cr0 := Br_10.cell 0
    have cr1 := Br_10.cell 1
    have cr2 := Br_10.cell 2
    have cs0 := Bs_10.cell 0
    have cs1 := Bs_10.cell 1
    have cs2 := Bs_10.cell 2
    go_upto_region 17 with (go_at_call 14
                            (with_reducible refine (H4b.out _ Kw_10).mono ?_)
                            rintro e w17 ⟨A17, n17, c17, r17, rfl, D17, K17⟩
                            have Brn := Br_10.keep K17 fun h => h
                            have Lrn := Brn.lt
                            have Bsn := Bs_10.keep K17 fun h => h
                            have Lsn := Bsn.lt
                            have Ban := Ba_10.keep K17 fun h => h
                            have Lan := Ban.lt
                            have Bbn := Bb_10.keep K17 fun h => h
                            have Lbn := Bbn.lt
                            have y0 : w17.cell? ⟨w11.heap.size, 0, none⟩ = some (.int .i64 V3) := Bbn.cell 0
                            have y1 : w17.cell? ⟨w11.heap.size, 1, none⟩ = some (.slice A15 n15 c15) := Bbn.cell 1
                            have y2 : w17.cell? ⟨w11.heap.size, 2, none⟩ = some (.int .i64 r15) := Bbn.cell 2
                            have yf0 := Bbn.frozen 0
                            have yf1 := Bbn.frozen 1
                            have yf2 := Bbn.frozen 2)
    clear cr0 cr1 cr2 cs0 cs1 cs2
    obtain ⟨Bb_11, Qb_11, S3⟩ := set3_box Bbn sl_nint D17
    have Br_11 := Brn.keep S3 fun h => by omega
    have Bs_11 := Bsn.keep S3 fun h => by omega
    have Ba_11 := Ban.keep S3 fun h => by omega
    have Qa_11 := (Qa_10.keep K17).far_box Bbn sl_nint S3
    have Kw_11 : Keep NoF w (((w17.setCell ⟨w11.heap.size, 0, none⟩ (.int .i64 V4)).setCell ⟨w11.heap.size, 1, none⟩ (.slice A17 n17 c17)).setCell ⟨w11.heap.size, 2, none⟩ (.int .i64 r17)) := (Kw_10.trans K17 fun _ _ h => h).trans S3 fun i hi h => by omega
    generalize (((w17.setCell ⟨w11.heap.size, 0, none⟩ (.int .i64 V4)).setCell ⟨w11.heap.size, 1, none⟩ (.slice A17 n17 c17)).setCell ⟨w11.heap.size, 2, none⟩ (.int .i64 r17)) = W11 at *
    clear Br_10 Bs_10 Ba_10 Bb_10 Qa_10 Qb_10 Brn Bsn Ban Bbn Kw_10 D17 K17 S3 y0 y1 y2 yf0 yf1 yf2
    have HE := Lib.hid fun W (hk : Keep NoF W11 W) => aw_samed (Qa_11.keep hk) (Qb_11.keep hk)
    have ca0 : W11.cell? ⟨w10.heap.size, 0, none⟩ = some (.int .i64 V4) := Ba_11.cell 0
    have ca1 : W11.cell? ⟨w10.heap.size, 1, none⟩ = some (.slice A16 n16 c16) := Ba_11.cell 1
    have ca2 : W11.cell? ⟨w10.heap.size, 2, none⟩ = some (.int .i64 r16) := Ba_11.cell 2
    have cb0 : W11.cell? ⟨w11.heap.size, 0, none⟩ = some (.int .i64 V4) := Bb_11.cell 0
    have cb1 : W11.cell? ⟨w11.heap.size, 1, none⟩ = some (.slice A17 n17 c17) := Bb_11.cell 1
    have cb2 : W11.cell? ⟨w11.heap.size, 2, none⟩ = some (.int .i64 r17) := Bb_11.cell 2
    go_upto_region 19 with (first
                            | (go_at_call 8
                               (with_reducible refine (HE.out _ (Keep.refl NoF W11)).mono ?_)
                               rintro e y11 ⟨rfl, y11Z⟩
                               have y11K : Keep NoF W11 y11 := (Keep.refl NoF W11).trans y11Z fun _ _ h => h)
                            | fail)
    clear ca0 ca1 ca2 cb0 cb1 cb2
    have Br_12 := Br_11.keep y11K fun h => h
    have Bs_12 := Bs_11.keep y11K fun h => h
    have Ba_12 := Ba_11.keep y11K fun h => h
    have Qa_12 := Qa_11.keep y11K
    have Bb_12 := Bb_11.keep y11K fun h => h
    have Qb_12 := Qb_11.keep y11K
    have Kw_12 := Kw_11.trans y11K fun _ _ h => h
    clear Kw_11 y11K y11Z Br_11 Bs_11 Ba_11 Qa_11 Bb_11 Qb_11
    clear HE
    have cr0 := Br_12.cell 0
    have cr1 := Br_12.cell 1
    have cr2 := Br_12.cell 2
    have cs0 := Bs_12.cell 0
    have cs1 := Bs_12.cell 1
    have cs2 := Bs_12.cell 2
    go_upto_region 20 with (go_at_call 15
                            (with_reducible refine (H5a.out _ Kw_12).mono ?_)
                            rintro e w18 ⟨A18, n18, c18, r18, rfl, D18, K18⟩
                            have Brn := Br_12.keep K18 fun h => h
                            have Lrn := Brn.lt
                            have Bsn := Bs_12.keep K18 fun h => h
                            have Lsn := Bsn.lt
                            have Ban := Ba_12.keep K18 fun h => h
                            have Lan := Ban.lt
                            have Bbn := Bb_12.keep K18 fun h => h
                            have Lbn := Bbn.lt
                            have y0 : w18.cell? ⟨w10.heap.size, 0, none⟩ = some (.int .i64 V4) := Ban.cell 0
                            have y1 : w18.cell? ⟨w10.heap.size, 1, none⟩ = some (.slice A16 n16 c16) := Ban.cell 1
                            have y2 : w18.cell? ⟨w10.heap.size, 2, none⟩ = some (.int .i64 r16) := Ban.cell 2
                            have yf0 := Ban.frozen 0
                            have yf1 := Ban.frozen 1
                            have yf2 := Ban.frozen 2)
    clear cr0 cr1 cr2 cs0 cs1 cs2
    obtain ⟨Ba_13, Qa_13, S3⟩ := set3_box Ban sl_nint D18
    have Br_13 := Brn.keep S3 fun h => by omega
    have Bs_13 := Bsn.keep S3 fun h => by omega
    have Bb_13 := Bbn.keep S3 fun h => by omega
    have Qb_13 := (Qb_12.keep K18).far_box Ban sl_nint S3
    have Kw_13 : Keep NoF w (((w18.setCell ⟨w10.heap.size, 0, none⟩ (.int .i64 V5)).setCell ⟨w10.heap.size, 1, none⟩ (.slice A18 n18 c18)).setCell ⟨w10.heap.size, 2, none⟩ (.int .i64 r18)) := (Kw_12.trans K18 fun _ _ h => h).trans S3 fun i hi h => by omega
    generalize (((w18.setCell ⟨w10.heap.size, 0, none⟩ (.int .i64 V5)).setCell ⟨w10.heap.size, 1, none⟩ (.slice A18 n18 c18)).setCell ⟨w10.heap.size, 2, none⟩ (.int .i64 r18)) = W13 at *
    clear Br_12 Bs_12 Ba_12 Bb_12 Qa_12 Qb_12 Brn Bsn Ban Bbn Kw_12 D18 K18 S3 y0 y1 y2 yf0 yf1 yf2
    have cr0 := Br_13.cell 0
    have cr1 := Br_13.cell 1
    have cr2 := Br_13.cell 2
    have cs0 := Bs_13.cell 0
    have cs1 := Bs_13.cell 1
    have cs2 := Bs_13.cell 2
    go_upto_region 21 with (go_at_call 16
                            (with_reducible refine (H5b.out _ Kw_13).mono ?_)
                            rintro e w19 ⟨A19, n19, c19, r19, rfl, D19, K19⟩
                            have Brn := Br_13.keep K19 fun h => h
                            have Lrn := Brn.lt
                            have Bsn := Bs_13.keep K19 fun h => h
                            have Lsn := Bsn.lt
                            have Ban := Ba_13.keep K19 fun h => h
                            have Lan := Ban.lt
                            have Bbn := Bb_13.keep K19 fun h => h
                            have Lbn := Bbn.lt
                            have y0 : w19.cell? ⟨w11.heap.size, 0, none⟩ = some (.int .i64 V4) := Bbn.cell 0
                            have y1 : w19.cell? ⟨w11.heap.size, 1, none⟩ = some (.slice A17 n17 c17) := Bbn.cell 1
                            have y2 : w19.cell? ⟨w11.heap.size, 2, none⟩ = some (.int .i64 r17) := Bbn.cell 2
                            have yf0 := Bbn.frozen 0
                            have yf1 := Bbn.frozen 1
                            have yf2 := Bbn.frozen 2)
    clear cr0 cr1 cr2 cs0 cs1 cs2
    obtain ⟨Bb_14, Qb_14, S3⟩ := set3_box Bbn sl_nint D19
    have Br_14 := Brn.keep S3 fun h => by omega
    have Bs_14 := Bsn.keep S3 fun h => by omega
    have Ba_14 := Ban.keep S3 fun h => by omega
    have Qa_14 := (Qa_13.keep K19).far_box Bbn sl_nint S3
    have Kw_14 : Keep NoF w (((w19.setCell ⟨w11.heap.size, 0, none⟩ (.int .i64 V5)).setCell ⟨w11.heap.size, 1, none⟩ (.slice A19 n19 c19)).setCell ⟨w11.heap.size, 2, none⟩ (.int .i64 r19)) := (Kw_13.trans K19 fun _ _ h => h).trans S3 fun i hi h => by omega
    generalize (((w19.setCell ⟨w11.heap.size, 0, none⟩ (.int .i64 V5)).setCell ⟨w11.heap.size, 1, none⟩ (.slice A19 n19 c19)).setCell ⟨w11.heap.size, 2, none⟩ (.int .i64 r19)) = W14 at *
    clear Br_13 Bs_13 Ba_13 Bb_13 Qa_13 Qb_13 Brn Bsn Ban Bbn Kw_13 D19 K19 S3 y0 y1 y2 yf0 yf1 yf2
    have HE := Lib.hid fun W (hk : Keep NoF W14 W) => aw_samed (Qa_14.keep hk) (Qb_14.keep hk)
    have ca0 : W14.cell? ⟨w10.heap.size, 0, none⟩ = some (.int .i64 V5) := Ba_14.cell 0
    have ca1 : W14.cell? ⟨w10.heap.size, 1, none⟩ = some (.slice A18 n18 c18) := Ba_14.cell 1
    have ca2 : W14.cell? ⟨w10.heap.size, 2, none⟩ = some (.int .i64 r18) := Ba_14.cell 2
    have cb0 : W14.cell? ⟨w11.heap.size, 0, none⟩ = some (.int .i64 V5) := Bb_14.cell 0
    have cb1 : W14.cell? ⟨w11.heap.size, 1, none⟩ = some (.slice A19 n19 c19) := Bb_14.cell 1
    have cb2 : W14.cell? ⟨w11.heap.size, 2, none⟩ = some (.int .i64 r19) := Bb_14.cell 2
    go_wp2_with (first
                 | (go_at_call 8
                    (with_reducible refine (HE.out _ (Keep.refl NoF W14)).mono ?_)
                    rintro e y14 ⟨rfl, y14Z⟩
                    have y14K : Keep NoF W14 y14 := (Keep.refl NoF W14).trans y14Z fun _ _ h => h)
                 | (go_at_call 5
                    (with_reducible refine (awake_any _).mono ?_)
                    rintro e yz ⟨rfl, yzZ⟩
                    have yzK : Keep NoF W14 yz := y14K.trans yzZ fun _ _ h => h))
    clear ca0 ca1 ca2 cb0 cb1 cb2
    have Br_15 := Br_14.keep yzK fun h => h
    have Bs_15 := Bs_14.keep yzK fun h => h
    have Ba_15 := Ba_14.keep yzK fun h => h
    have Qa_15 := Qa_14.keep yzK
    have Bb_15 := Bb_14.keep yzK fun h => h
    have Qb_15 := Qb_14.keep yzK
    have Kw_15 := Kw_14.trans yzK fun _ _ h => h
    clear Kw_14 y14K yzK y14Z yzZ Br_14 Bs_14 Ba_14 Qa_14 Bb_14 Qb_14
    clear HE
    go_ret
    exact ⟨rfl, Kw_15⟩
end
end Go.Proofs.YtgdmcidcappkpaaGreat
