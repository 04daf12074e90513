/- The step of Paths by package relation: the closure of the law SymsetGreatest. No condition. -/
import Derived.Test.YtgdmcidcappkpaaDoorRlG
import Derived.Test.YtgdmcidcappkpaaDoorSyS
import Derived.Test.YtgdmcidcappkpaaDoorSyT
set_option linter.unusedVariables false
set_option linter.unusedSimpArgs false
namespace Go.Proofs.YtgdmcidcappkpaaDoor
open Go.RowKit Go.Shelf
open Dd (imN prN boN cvN enc relF setF)

theorem al3 : alN 3 = 255 := by decide
theorem ok8 {R : List Nat} (hl : R.length = 8) (hR : ∀ x ∈ R, x < 256) : Ok R := ⟨by omega, fun x hx => by rw [hl]; exact hR x hx⟩
theorem small_set {s : Nat} (hs : s < 256) : beyondB 3 s = false := by
  unfold beyondB
  rw [show s / 2 ^ 2 ^ 3 = 0 from Nat.div_eq_of_lt (by omega)]
  simp
theorem set3_ok {s : Nat} (hs : s < 256) {V : Nat} (hV : V = 2 * 3) (w : World) : Calls Tryd.prog 6 #[.int .i64 3, .int .u64 s] w (DP w V (setF 3 s 0)) := by
  rw [hV]
  exact Set_any 3 s (by omega) (by omega) (small_set hs) w
theorem members3_ok {X : Nat} (hX : X < 256) {V : Nat} (hV : V = 2 * 3) {w : World} {A : Option Addr} {n c r : Nat} (D : IsD w V (setF 3 X 0) A n c r) : Calls Tryd.prog 8 #[.agg #[.int .i64 V, .slice A n c, .int .i64 r]] w fun e w' => e = .returned (.tuple #[.int .u64 X, .int .i64 0]) ∧ Keep NoF w w' := by
  subst hV
  have := Members_ok 3 (by omega) D (setF_noOdd 3 X)
  rwa [Dd.memN_set (k := 3) (by omega)] at this
set_option maxRecDepth 100000 in
theorem co_not {c : Nat} (hc : c < 256) : bits .xor .u8 (if IntKind.u8.signed = true then -1 else IntKind.u8.max) (c : Int) = ((255 - c : Nat) : Int) := by
  have e : (if IntKind.u8.signed = true then -1 else IntKind.u8.max) = ((255 : Nat) : Int) := by decide
  rw [e, u8_xor_nat _ _ (by omega) hc]
  congr 1
  revert c
  decide
set_option maxRecDepth 100000 in
theorem co3 {c : Nat} (hc : c < 256) : 255 - c = coN 3 c := by
  revert c
  decide
theorem lt_mask {a b : Nat} (ha : a < 256) (hb : b < 256) : a ||| b < 256 := Nat.or_lt_two_pow (n := 8) ha hb
section
set_option maxRecDepth 100000
set_option maxHeartbeats 1000000
theorem step_ok (R : List Nat) (hl : R.length = 8) (hR : ∀ x ∈ R, x < 256) (c s z : Nat) (hc : c < 256) (hs : s < 256) (hz : z < 256) (A : Option Addr) (cp : Nat) (b7 b4 b5 : Nat) (w : World) (hrd : Rd w (.slice A 8 cp) 1 8 (n64 R))
    (h7 : w.cell? ⟨b7, 0, none⟩ = some (.slice A 8 cp)) (h4 : w.cell? ⟨b4, 0, none⟩ = some (.int .u8 c)) (h5 : w.cell? ⟨b5, 0, none⟩ = some (.int .u8 s)) :
    Calls Tryd.prog 9 #[.int .u64 z, .pointer (some ⟨b7, 0, none⟩), .pointer (some ⟨b4, 0, none⟩), .pointer (some ⟨b5, 0, none⟩)] w fun e w' => e = .returned (.int .u64 (paS 3 R c s z)) ∧ w' = w := by
  have hsz : s &&& z < 256 := Nat.lt_of_le_of_lt Nat.and_le_left hs
  have hm := lt_mask (show 255 - c < 256 by omega) hsz
  have HB := Box_any R (ok8 hl hR) ((255 - c) ||| (s &&& z)) (by omega) A cp w (by rw [hl]; exact hrd)
  rw [box_eq (k := 3) (by omega) (by rw [hl]) (fun x hx => by have := hR x hx; omega) (by omega), hl, co3 hc] at HB
  have HX : Hid (bits BinOp.or IntKind.u64 (IntKind.u64.wrap (bits .xor .u8 (if IntKind.u8.signed = true then -1 else IntKind.u8.max) (c : Int))) (bits .and .u64 (s : Int) (z : Int)) = ((coN 3 c ||| s &&& z : Nat) : Int)) := Lib.hid (by
    rw [co_not hc, IntKind.wrap_u64, Int.emod_eq_of_lt (by omega) (by omega), bits_and_u64_nat _ _ (by omega) (by omega), bits_or_u64_nat _ _ (by omega) (by omega), co3 hc])
  have HBH := Lib.hid HB
  have HP : Hid (paS 3 R c s z = boN 3 R (coN 3 c ||| s &&& z)) := Lib.hid rfl
  clear HB hm hsz
  generalize paS 3 R c s z = res at *
  generalize boN 3 R (coN 3 c ||| s &&& z) = res2 at *
  generalize coN 3 c ||| s &&& z = q at *
  go_enter Tryd.func9, Tryd.ntmps9
  go_wp2_with (go_at_call 10; rw [HX.out]; (with_reducible refine HBH.out.mono ?_); rintro e w' ⟨rfl, hw'⟩; obtain rfl := hw'.symm)
  go_ret
  exact ⟨by rw [HP.out]; rfl, rfl⟩
theorem reach3_eq (R : List Nat) (hl : R.length = 8) (hR : ∀ x ∈ R, x < 256) (s : Nat) (hs : s < 256) : ∀ j, iterN (rsN R) j (mapN R s) = iterN (reS 3 R) j (imN 3 R s)
  | 0 => map_eq (k := 3) hl hR (by omega)
  | j + 1 => by
    show rsN R (iterN (rsN R) j (mapN R s)) = reS 3 R (iterN (reS 3 R) j (imN 3 R s))
    rw [reach3_eq R hl hR s hs j]
    have := re_lt 3 R _ (imN_lt 3 R s) j
    unfold rsN reS at *
    rw [map_eq (k := 3) hl hR (by omega)]
theorem reach3_ok (R : List Nat) (hl : R.length = 8) (hR : ∀ x ∈ R, x < 256) (s : Nat) (hs : s < 256) (m : Nat) (hm : reS 3 R (iterN (reS 3 R) m (imN 3 R s)) = iterN (reS 3 R) m (imN 3 R s)) (A : Option Addr) (c : Nat) (w : World) (hrd : Rd w (.slice A 8 c) 1 8 (n64 R)) (ht : Tab w) :
    Calls Tryd.prog 11 #[.slice A 8 c, .int .u64 s] w fun e w' => e = .returned (.int .u64 (iterN (reS 3 R) m (imN 3 R s))) ∧ Keep NoF w w' := by
  have e := reach3_eq R hl hR s hs
  have h := Reach_any R (ok8 hl hR) s (by rw [hl]; exact hs) m (by
    have := e (m + 1)
    show iterN (rsN R) (m + 1) (mapN R s) = _
    rw [this, e m]
    exact hm) A c w (by rw [hl]; exact hrd) ht
  rw [e m, hl] at h
  exact h
end
/-- A set that is contained in its step is contained in the result. -/
theorem great_z {R : List Nat} {c s m z : Nat} (hz : z < 256) (h : (bits .andNot .u64 (z : Int) ((paS 3 R c s z : Nat) : Int) == 0) = true) : (bits .andNot .u64 (z : Int) ((iterN (paS 3 R c s) m (alN 3) : Nat) : Int) != 0) = false := by
  have h1 : paS 3 R c s z < 256 := boN_lt 3 R _
  have h2 : iterN (paS 3 R c s) m (alN 3) < 256 := pa_lt 3 R c s (alN 3) (by decide) m
  rw [and_not _ _ (by omega) (by omega)] at h ⊢
  simp only [beq_iff_eq, bne_eq_false_iff_eq] at h ⊢
  have := path_great 3 R c s z hz ((adN_zero (by omega) (by omega)).1 (by omega)) m
  have := (adN_zero (a := z) (b := iterN (paS 3 R c s) m (alN 3)) (by omega) (by omega)).2 this
  omega
theorem only_v {R : List Nat} (hl : R.length = 8) (hR : ∀ x ∈ R, x < 256) {s m v : Nat} (hs : s < 256) (hm : paS 3 R 255 s (iterN (paS 3 R 255 s) m (alN 3)) = iterN (paS 3 R 255 s) m (alN 3))
    (mr : Nat → Nat) (hr : ∀ v, v < 8 → reS 3 R (iterN (reS 3 R) (mr v) (imN 3 R (2 ^ v))) = iterN (reS 3 R) (mr v) (imN 3 R (2 ^ v))) (hv : v < 8) :
    (bits .andNot .u64 ((iterN (reS 3 R) (mr v) (imN 3 R (2 ^ v)) : Nat) : Int) (s : Int) == 0) = (iterN (paS 3 R 255 s) m (alN 3)).testBit v := by
  have h1 := re_lt 3 R _ (imN_lt 3 R (2 ^ v)) (mr v)
  rw [← al3] at hm ⊢
  rw [and_not _ _ (by omega) (by omega), Bool.eq_iff_iff, only_reach 3 R s (fun v => row_lt (k := 3) hl hR v) m hm mr hr v hv, ← adN_zero (by omega) (by omega)]
  simp only [beq_iff_eq]
  omega
end Go.Proofs.YtgdmcidcappkpaaDoor
