/- Evidence: what common does with a claim that fails. Conditions: as for the claim that holds. -/
import Derived.Test.YtmjdbbfoihadoaaEvV
set_option linter.unusedVariables false
set_option linter.unusedSimpArgs false
namespace Go.Proofs.Ytmjdbbfoihadoaa
open Go.RowKit
open Ev
open Fm (Nd)
attribute [local go_sem] Oper.semAt_some

theorem path_last {M : Md} {m : Nd} {a : Int} {L : List Cl} {j : Nat} {l : Cl} (h : L[j]? = some l) (hj : j + 1 = L.length) : pathB M m a (L.drop j) = decide (l = ⟨a, m.y, false⟩) := by
  have hl : j < L.length := by omega
  have e : L.drop j = [l] := by
    rw [List.drop_eq_getElem_cons hl, List.drop_eq_nil_of_le (by omega)]
    rw [List.getElem?_eq_getElem hl] at h
    injection h with h
    rw [h]
  rw [e]
  rfl
theorem path_step {M : Md} {m : Nd} {a : Int} {L : List Cl} {j : Nat} {l : Cl} (h : L[j]? = some l) (hj : j + 1 < L.length) : pathB M m a (L.drop j) = (decide (l = ⟨l.w, m.x, true⟩) && ((succN M m a.toNat).testBit l.w.toNat && pathB M m l.w (L.drop (j + 1)))) := by
  have hl : j < L.length := by omega
  have e : L.drop j = l :: L.drop (j + 1) := by
    rw [List.drop_eq_getElem_cons hl]
    rw [List.getElem?_eq_getElem hl] at h
    injection h with h
    rw [h]
  rw [e, List.drop_eq_getElem_cons hj]
  rfl
theorem sbit0 {s k : Nat} (hs : s < 18446744073709551616) {b : Bool} (h : s.testBit k = b) : (bits .and .u64 ((s : Int) / 2 ^ k) 1 == 0) = !b := by
  subst h
  have e : (s : Int) / 2 ^ k = ((s / 2 ^ k : Nat) : Int) := by simp
  have hlt : s / 2 ^ k < 18446744073709551616 := Nat.lt_of_le_of_lt (Nat.div_le_self _ _) hs
  have h1 := bits_and_u64_nat (s / 2 ^ k) 1 hlt (by decide)
  rw [e, show (1 : Int) = ((1 : Nat) : Int) from rfl, h1, Nat.and_one_is_mod, Nat.testBit_eq_decide_div_mod_eq]
  rcases Nat.mod_two_eq_zero_or_one (s / 2 ^ k) with h | h <;> rw [h] <;> rfl
section
set_option maxRecDepth 100000
set_option maxHeartbeats 2000000
variable {w : World} {M : Md} {va ra : Option Addr} {cv cr : Nat} {rs : List (Option Addr × Nat)}
theorem evcommon_no (hM : MdR w M va cv ra cr rs) (hok : Okm M) (i e0 g x y rk : Int) (hg : 0 ≤ g ∧ g < ((2 ^ M.R.length : Nat) : Int)) (hs : ∀ v, v < M.n → succN M ⟨13, i, e0, g, x, y⟩ v < 2 ^ M.n) (p : Option Addr × Nat) (fl st wd : Nat) (hwd : wd < M.n)
    (L : List Cl) (A : Option Addr) (c : Nat) (hL : L.length ≤ 1000000) (hrd : Rd w (.slice A L.length c) 3 L.length (clsC L)) (hLw : ∀ l ∈ L, 0 ≤ l.w ∧ l.w < (M.n : Int)) :
    Calls Try.prog 35 #[.agg #[.int .i64 M.W, .slice va M.V.length cv, .slice ra M.R.length cr], .agg #[.int .i64 13, .int .i64 i, .int .i64 e0, .int .i64 g, .int .i64 x, .int .i64 y], .agg #[.int .i64 (wd : Int), .int .i64 rk, .bool false, .slice p.1 fl p.2, .int .u64 st], .slice A L.length c] w fun e w' =>
      e = .returned (.bool (decide (2 ≤ L.length) && pathB M ⟨13, i, e0, g, x, y⟩ wd L)) ∧ Keep NoF w w' := by
  have HS : Hid (∀ (W : World) (v : Nat), Keep NoF w W → v < M.n → Calls Try.prog 36 #[.agg #[.int .i64 M.W, .slice va M.V.length cv, .slice ra M.R.length cr], .agg #[.int .i64 13, .int .i64 i, .int .i64 e0, .int .i64 g, .int .i64 x, .int .i64 y], .int .i64 (v : Int)] W fun e w' => e = .returned (.int .u64 (succN M ⟨13, i, e0, g, x, y⟩ v : Nat)) ∧ Keep NoF W w') :=
    Lib.hid fun W v hk hv => evsucc_any (hM.keep hk) hok ⟨13, i, e0, g, x, y⟩ v (fun h => by rcases h with h | h <;> exact absurd h (show ¬ (13 : Int) = _ by decide)) (fun _ => hg) hv
  have HS64 : Hid (∀ v, v < M.n → succN M ⟨13, i, e0, g, x, y⟩ v < 18446744073709551616) := Lib.hid fun v hv => Ev.lt64 hok.n1.2.1 (hs v hv)
  have hn64 := hok.n1.2.1
  have HRD := Lib.hid hrd
  have HLW := Lib.hid hLw
  have k3 : Keep NoF w (((w.alloc (.cells #[.int .i64 M.W, .slice va M.V.length cv, .slice ra M.R.length cr] 25)).alloc (.cells #[.int .i64 13, .int .i64 i, .int .i64 e0, .int .i64 g, .int .i64 x, .int .i64 y] 53)).alloc (.cells #[.int .i64 (wd : Int), .int .i64 rk, .bool false, .slice p.1 fl p.2, .int .u64 st] 40)) := (((Keep.refl _ _).alloc _).alloc _).alloc _
  have q0 := ((Bk.new w 25 #[.int .i64 M.W, .slice va M.V.length cv, .slice ra M.R.length cr]).alloc (.cells #[.int .i64 13, .int .i64 i, .int .i64 e0, .int .i64 g, .int .i64 x, .int .i64 y] 53)).alloc (.cells #[.int .i64 (wd : Int), .int .i64 rk, .bool false, .slice p.1 fl p.2, .int .u64 st] 40)
  have q1 := (Bk.new (w.alloc (.cells #[.int .i64 M.W, .slice va M.V.length cv, .slice ra M.R.length cr] 25)) 53 #[.int .i64 13, .int .i64 i, .int .i64 e0, .int .i64 g, .int .i64 x, .int .i64 y]).alloc (.cells #[.int .i64 (wd : Int), .int .i64 rk, .bool false, .slice p.1 fl p.2, .int .u64 st] 40)
  have q2 := Bk.new ((w.alloc (.cells #[.int .i64 M.W, .slice va M.V.length cv, .slice ra M.R.length cr] 25)).alloc (.cells #[.int .i64 13, .int .i64 i, .int .i64 e0, .int .i64 g, .int .i64 x, .int .i64 y] 53)) 40 #[.int .i64 (wd : Int), .int .i64 rk, .bool false, .slice p.1 fl p.2, .int .u64 st]
  simp only [World.size_alloc] at q1 q2
  have HQ := Lib.hid (And.intro q0 (And.intro q1 (And.intro q2 k3)))
  clear hM hg hs hrd hok hLw q0 q1 q2 k3
  by_cases h2 : L.length < 2
  · have HE : Hid ((decide (2 ≤ L.length) && pathB M ⟨13, i, e0, g, x, y⟩ wd L) = false) := Lib.hid (by rw [decide_eq_false (by omega)]; rfl)
    rw [HE.out]
    have h2' : (L.length : Int) < 2 := by omega
    go_enter Try.func35, Try.ntmps35
    go_wp2
    go_ret
    exact ⟨rfl, HQ.out.2.2.2⟩
  · have HE : Hid ((decide (2 ≤ L.length) && pathB M ⟨13, i, e0, g, x, y⟩ wd L) = pathB M ⟨13, i, e0, g, x, y⟩ wd (L.drop 0)) := Lib.hid (by rw [decide_eq_true (by omega)]; rfl)
    rw [HE.out]
    have h2' : ¬ (L.length : Int) < 2 := by omega
    have hA : ∃ b off, A = some ⟨b, off, none⟩ ∧ L.length ≤ c := by
      obtain ⟨_, h1, b, off, h3, _⟩ := HRD.out.at_ (by omega)
      exact ⟨b, off, h3, h1⟩
    obtain ⟨ab, ao, rfl, hcc⟩ := hA
    go_enter Try.func35, Try.ntmps35
    go_upto_region 1 with (fail)
    generalize ((w.alloc (.cells #[.int .i64 M.W, .slice va M.V.length cv, .slice ra M.R.length cr] 25)).alloc (.cells #[.int .i64 13, .int .i64 i, .int .i64 e0, .int .i64 g, .int .i64 x, .int .i64 y] 53)).alloc (.cells #[.int .i64 (wd : Int), .int .i64 rk, .bool false, .slice p.1 fl p.2, .int .u64 st] 40) = W3 at *
    have r2 := HQ.out.2.2.1.cell 2
    have r0 := HQ.out.2.2.1.cell 0
    go_wp2
    go_loopw [11, 57] (fun u t wr => ∃ (j a : Nat), t = .int .i64 (j : Int) ∧ u = .int .i64 (a : Int) ∧ j + 1 ≤ L.length ∧ a < M.n ∧ Hid (pathB M ⟨13, i, e0, g, x, y⟩ wd (L.drop 0) = pathB M ⟨13, i, e0, g, x, y⟩ a (L.drop j)) ∧ Keep NoF W3 wr) (fun _ t _ => L.length - (intOf t).toNat)
    case atStart => exact ⟨0, wd, rfl, rfl, by omega, hwd, Lib.hid rfl, Keep.refl _ _⟩
    case round =>
      obtain ⟨j, a, rfl, rfl, hj, ha, HP, hkr⟩ := hrel
      have kwr := HQ.out.2.2.2.trans hkr fun _ _ h => h
      have hcl := clAt_eq (l := L) (k := j) (by omega)
      obtain ⟨-, -, bl, off, hb, x0, x1, x2⟩ := (HRD.out.kept kwr fun _ _ h => h).cl hcl
      obtain ⟨rfl, rfl⟩ : ab = bl ∧ ao = off := by simpa using hb
      clear hb
      have hlw := HLW.out _ (List.mem_of_getElem? hcl)
      have HLA : Hid (j + 1 = L.length → pathB M ⟨13, i, e0, g, x, y⟩ a (L.drop j) = decide (clAt L j = ⟨a, y, false⟩)) := Lib.hid fun h => path_last hcl h
      have HST : Hid (j + 1 < L.length → pathB M ⟨13, i, e0, g, x, y⟩ a (L.drop j) = (decide (clAt L j = ⟨(clAt L j).w, x, true⟩) && ((succN M ⟨13, i, e0, g, x, y⟩ (a : Int).toNat).testBit (clAt L j).w.toNat && pathB M ⟨13, i, e0, g, x, y⟩ (clAt L j).w (L.drop (j + 1))))) := Lib.hid fun h => path_step hcl h
      rw [Int.toNat_natCast] at HST
      clear hcl
      generalize clAt L j = cl at *
      obtain ⟨cw, ck, ch⟩ := cl
      simp only at x0 x1 x2 hlw HST
      obtain ⟨v, rfl⟩ : ∃ v : Nat, cw = (v : Int) := ⟨cw.toNat, by omega⟩
      have hvn : v < M.n := by omega
      rw [Int.toNat_natCast] at HST
      by_cases hlt : j + 1 < L.length
      · have l1 : (j : Int) < (L.length : Int) - 1 := by omega
        have l3 : j < L.length - 1 := by omega
        have l2 : (j : Int) < (L.length : Int) := by omega
        have l0 : (0 : Int) ≤ (j : Int) := by omega
        have HST2 := Lib.hid (HST.out hlt)
        have hguard := cl_guard
        have hneq := run_cl_neq ⟨(v : Int), ck, ch⟩ ⟨(v : Int), x, true⟩
        simp only [clV] at hneq
        generalize decide ((⟨(v : Int), ck, ch⟩ : Cl) = ⟨(v : Int), x, true⟩) = dd at *
        have HB4 := Lib.hid (Bk.new wr 59 #[.int .i64 (v : Int), .int .i64 ck, .bool ch])
        have k4 : Keep NoF wr (wr.alloc (.cells #[.int .i64 (v : Int), .int .i64 ck, .bool ch] 59)) := (Keep.refl _ _).alloc _
        have K34 := Lib.hid (hkr.trans k4 fun _ _ h => h)
        go_upto_region 13 with (fail)
        generalize wr.alloc (.cells #[.int .i64 (v : Int), .int .i64 ck, .bool ch] 59) = W4 at *
        have z0 := HB4.out.cell 0
        have z1 := HB4.out.cell 1
        have z2 := HB4.out.cell 2
        have n4 := K34.out.cellv (HQ.out.2.1.cell 4) fun h => h
        cases dd with
        | false =>
          go_quiet (fail)
          go_wp2
          go_ret
          exact ⟨by rw [HP.out, HST2.out]; rfl, (kwr.trans k4 fun _ _ h => h).drewN _⟩
        | true =>
          have HC := Lib.hid (HS.out W4.drew a (kwr.trans k4 fun _ _ h => h).drew ha)
          have HSB : Hid (∀ b, (succN M ⟨13, i, e0, g, x, y⟩ a).testBit v = b → (bits .and .u64 ((succN M ⟨13, i, e0, g, x, y⟩ a : Nat) / 2 ^ v) 1 == 0) = !b) := Lib.hid fun b h => sbit0 (HS64.out a ha) h
          have HSS : Hid (∀ w' : World, Keep NoF W4 w' → w'.cell? ⟨wr.heap.size, 0, none⟩ = some (.int .i64 (v : Int)) ∧ w'.cell? ⟨wr.heap.size, 1, none⟩ = some (.int .i64 ck) ∧ w'.cell? ⟨wr.heap.size, 2, none⟩ = some (.bool ch) ∧ w'.cell? ⟨w.heap.size + 1, 0, none⟩ = some (.int .i64 13) ∧ w'.cell? ⟨w.heap.size + 1, 1, none⟩ = some (.int .i64 i) ∧ w'.cell? ⟨w.heap.size + 1, 2, none⟩ = some (.int .i64 e0) ∧ w'.cell? ⟨w.heap.size + 1, 3, none⟩ = some (.int .i64 g) ∧ w'.cell? ⟨w.heap.size + 1, 4, none⟩ = some (.int .i64 x) ∧ w'.cell? ⟨w.heap.size + 1, 5, none⟩ = some (.int .i64 y) ∧ w'.cell? ⟨w.heap.size, 0, none⟩ = some (.int .i64 M.W) ∧ w'.cell? ⟨w.heap.size, 1, none⟩ = some (.slice va M.V.length cv) ∧ w'.cell? ⟨w.heap.size, 2, none⟩ = some (.slice ra M.R.length cr)) := Lib.hid fun w' h =>
            ⟨h.cellv z0 fun h => h, h.cellv z1 fun h => h, h.cellv z2 fun h => h, h.cellv (K34.out.cellv (HQ.out.2.1.cell 0) fun h => h) fun h => h, h.cellv (K34.out.cellv (HQ.out.2.1.cell 1) fun h => h) fun h => h, h.cellv (K34.out.cellv (HQ.out.2.1.cell 2) fun h => h) fun h => h, h.cellv (K34.out.cellv (HQ.out.2.1.cell 3) fun h => h) fun h => h, h.cellv (K34.out.cellv (HQ.out.2.1.cell 4) fun h => h) fun h => h, h.cellv (K34.out.cellv (HQ.out.2.1.cell 5) fun h => h) fun h => h, h.cellv (K34.out.cellv (HQ.out.1.cell 0) fun h => h) fun h => h, h.cellv (K34.out.cellv (HQ.out.1.cell 1) fun h => h) fun h => h, h.cellv (K34.out.cellv (HQ.out.1.cell 2) fun h => h) fun h => h⟩
          have K0 : Keep NoF W4 W4.drew := (Keep.refl _ _).drew
          have l9 : ¬ (v : Int) < 0 := by omega
          have HKK := Lib.hid (kwr.trans k4 fun _ _ h => h)
          have HKR := Lib.hid hkr
          have HK4 := Lib.hid k4
          clear kwr hkr k4
          have hsb := HSB.out _ rfl
          generalize (succN M ⟨13, i, e0, g, x, y⟩ a).testBit v = bb at *
          generalize succN M ⟨13, i, e0, g, x, y⟩ a = ss at *
          clear HSB
          go_region_held3 (fun w' => w'.cell? ⟨wr.heap.size, 0, none⟩ = some (.int .i64 (v : Int)) ∧ w'.cell? ⟨wr.heap.size, 1, none⟩ = some (.int .i64 ck) ∧ w'.cell? ⟨wr.heap.size, 2, none⟩ = some (.bool ch) ∧ w'.cell? ⟨w.heap.size + 1, 0, none⟩ = some (.int .i64 13) ∧ w'.cell? ⟨w.heap.size + 1, 1, none⟩ = some (.int .i64 i) ∧ w'.cell? ⟨w.heap.size + 1, 2, none⟩ = some (.int .i64 e0) ∧ w'.cell? ⟨w.heap.size + 1, 3, none⟩ = some (.int .i64 g) ∧ w'.cell? ⟨w.heap.size + 1, 4, none⟩ = some (.int .i64 x) ∧ w'.cell? ⟨w.heap.size + 1, 5, none⟩ = some (.int .i64 y) ∧ w'.cell? ⟨w.heap.size, 0, none⟩ = some (.int .i64 M.W) ∧ w'.cell? ⟨w.heap.size, 1, none⟩ = some (.slice va M.V.length cv) ∧ w'.cell? ⟨w.heap.size, 2, none⟩ = some (.slice ra M.R.length cr))
            (first
              | with_reducible exact HSS.out _ K0
              | with_reducible exact HSS.out _ K5)
            (first
              | (go_at_call 36
                 (with_reducible refine HC.out.mono ?_)
                 rintro e w5 ⟨rfl, k5⟩
                 have K5 : Keep NoF W4 w5 := K0.trans k5 fun _ _ h => h))
          cases bb with
          | false =>
            go_wp2
            go_ret
            exact ⟨by rw [HP.out, HST2.out]; rfl, HKK.out.trans K5 fun _ _ h => h⟩
          | true =>
            have y0 := K5.cellv z0 fun h => h
            go_wp2
            go_roundw
            case rel => exact ⟨j + 1, v, by go_num, rfl, by omega, hvn, Lib.hid (by rw [HP.out, HST2.out]; rfl), (HKR.out.trans HK4.out fun _ _ h => h).trans K5 fun _ _ h => h⟩
            case measure => simp only [intOf]; omega
      · have l1 : ¬ (j : Int) < (L.length : Int) - 1 := by omega
        have l3 : ¬ j < L.length - 1 := by omega
        have HLA2 := Lib.hid (HLA.out (by omega))
        have hguard := cl_guard
        have hql := run_cl_eql ⟨(v : Int), ck, ch⟩ ⟨(a : Int), y, false⟩
        simp only [clV] at hql
        generalize decide ((⟨(v : Int), ck, ch⟩ : Cl) = ⟨(a : Int), y, false⟩) = dd at *
        have n5 := hkr.cellv (HQ.out.2.1.cell 5) fun h => h
        have t1 : ((L.length : Int) - 1).toNat = j := by omega
        have t2 : L.length - 1 = j := by omega
        have t3 : (L.length : Int) - 1 < (L.length : Int) := by omega
        have t4 : (0 : Int) ≤ (L.length : Int) - 1 := by omega
        have t5 : IntKind.i64.wrap ((L.length : Int) - 1) = (j : Int) := by rw [IntWalk.i64_in _ (by omega)]; omega
        have t6 : (j : Int) < (L.length : Int) := by omega
        have t0 : (0 : Int) ≤ (j : Int) := by omega
        clear HLA HST
        go_wp2
        go_quiet (fail)
        go_wp2
        go_ret
        exact ⟨by rw [HP.out, HLA2.out]; rfl, kwr.drewN _⟩
end
end Go.Proofs.Ytmjdbbfoihadoaa
