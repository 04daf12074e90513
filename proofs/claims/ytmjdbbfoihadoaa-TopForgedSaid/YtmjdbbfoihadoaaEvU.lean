/- Evidence: what form does: whether a step has the form of one. Conditions: the model is valid; the slices' cells are those given. -/
import Derived.Test.YtmjdbbfoihadoaaEvPT
set_option linter.unusedVariables false
set_option linter.unusedSimpArgs false
namespace Go.Proofs.Ytmjdbbfoihadoaa
open Go.RowKit
open Ev
open Fm (Nd)
attribute [local go_sem] Oper.semAt_some

abbrev inZ (l : List Int) : List Value := l.map fun z => .int .i64 z
theorem Rd.z {w : World} {A : Option Addr} {m c : Nat} {l : List Int} (h : Rd w (.slice A m c) 1 l.length (inZ l)) {k : Nat} (hk : k < l.length) : m = l.length ∧ l.length ≤ c ∧ ∃ bl off, A = some ⟨bl, off, none⟩ ∧ w.cell? ⟨bl, off + k, none⟩ = some (.int .i64 (l.getD k 0)) := by
  obtain ⟨hm, hc', bl, off, rfl, hc⟩ := h.at_ (by omega)
  refine ⟨hm, hc', bl, off, rfl, hc k _ ?_⟩
  unfold inZ
  rw [List.getElem?_map, List.getElem?_eq_getElem hk, List.getD_eq_getElem?_getD, List.getElem?_eq_getElem hk]
  rfl
/-- A step as a value, and in memory. -/
abbrev rsV (r : Rs) (p : Option Addr × Nat) : Value := .agg #[.int .i64 r.w, .int .i64 r.k, .bool r.h, .slice p.1 r.fr.length p.2, .int .u64 r.st]
def froB (l : List Int) (i : Nat) : Bool := l.all fun x => decide (0 ≤ x ∧ x < (i : Int))
theorem froB_snoc {l : List Int} {j i : Nat} (hj : j < l.length) : froB (l.take (j + 1)) i = (froB (l.take j) i && decide (0 ≤ l.getD j 0 ∧ l.getD j 0 < (i : Int))) := by
  have e : l.take (j + 1) = l.take j ++ [l.getD j 0] := by
    rw [List.take_succ_eq_append_getElem hj, List.getD_eq_getElem?_getD, List.getElem?_eq_getElem hj]; rfl
  rw [e]
  unfold froB
  rw [List.all_append]
  simp
theorem froB_no {l : List Int} {j i : Nat} (hj : j < l.length) (h : ¬ (0 ≤ l.getD j 0 ∧ l.getD j 0 < (i : Int))) : froB l i = false := by
  cases hb : froB l i with
  | false => rfl
  | true =>
    exfalso
    unfold froB at hb
    rw [List.all_eq_true] at hb
    have := hb (l.getD j 0) (by rw [List.getD_eq_getElem?_getD, List.getElem?_eq_getElem hj]; exact List.getElem_mem hj)
    exact h (of_decide_eq_true this)
theorem shr_ne (st N : Nat) : ((st : Int) / 2 ^ N != 0) = !decide (st < 2 ^ N) := by
  have e : (st : Int) / 2 ^ N = ((st / 2 ^ N : Nat) : Int) := by simp
  rw [e]
  by_cases h : st < 2 ^ N
  · rw [Nat.div_eq_of_lt h, decide_eq_true h]; rfl
  · rw [decide_eq_false h]
    have : 0 < st / 2 ^ N := Nat.div_pos (by omega) (Nat.two_pow_pos _)
    simp only [Bool.not_false, bne_iff_ne, ne_eq]
    omega
section
set_option maxRecDepth 100000
set_option maxHeartbeats 2000000
variable {w : World} {M : Md} {va ra : Option Addr} {cv cr : Nat} {rs : List (Option Addr × Nat)}
theorem evform_any (hok : Okm M) (c : List Nd) (A : Option Addr) (cc : Nat) (hrd : Rd w (.slice A c.length cc) 6 c.length (fmC c)) (hc : c.length ≤ 1000) (i : Nat) (hi : i ≤ 1000000) (r : Rs) (p : Option Addr × Nat) (hfr : Rd w (.slice p.1 r.fr.length p.2) 1 r.fr.length (inZ r.fr)) (hfl : r.fr.length ≤ 1000000) (hst : r.st < 18446744073709551616) :
    Calls Try.prog 17 #[.agg #[.int .i64 M.W, .slice va M.V.length cv, .slice ra M.R.length cr], .slice A c.length cc, .int .i64 (i : Int), .agg #[.int .i64 r.w, .int .i64 r.k, .bool r.h, .slice p.1 r.fr.length p.2, .int .u64 r.st]] w fun e w' => e = .returned (.bool (formB M c i r)) ∧ Keep NoF w w' := by
  obtain ⟨hn1, hn64, hnW⟩ := hok.n1
  rw [← hnW]
  have HF : Hid (formB M c i r = (decide (0 ≤ r.w ∧ r.w < (M.n : Int) ∧ 0 ≤ r.k ∧ r.k < (c.length : Int)) && (froB r.fr i && (decide (r.st < 2 ^ M.n) && (decide (r.st = 0) || (r.h && decide ((c.getD r.k.toNat default).op = 13))))))) := Lib.hid (by unfold formB froB; rw [← hnW])
  have HO : Hid (∀ k (m : Nd), c[k]? = some m → c.getD k default = m) := Lib.hid fun k m h => by rw [List.getD_eq_getElem?_getD, h]; rfl
  have HC : Hid (∀ (W : World) (k : Nat), Keep NoF w W → k < c.length → ∃ bl off, A = some ⟨bl, off, none⟩ ∧ c.length ≤ cc ∧ W.cell? ⟨bl, off + k * 6, none⟩ = some (.int .i64 (c.getD k default).op)) := Lib.hid fun W k hk hlt => by
    obtain ⟨bl, off, h1, _, h3, h4, _⟩ := (hrd.kept hk fun _ _ h => h).nd (List.getElem?_eq_getElem hlt)
    exact ⟨bl, off, h1, h3, by rw [HO.out k _ (List.getElem?_eq_getElem hlt)]; exact h4⟩
  have HR : Hid (∀ (W : World) (k : Nat), Keep NoF w W → k < r.fr.length → ∃ bl off, p.1 = some ⟨bl, off, none⟩ ∧ r.fr.length ≤ p.2 ∧ W.cell? ⟨bl, off + k, none⟩ = some (.int .i64 (r.fr.getD k 0))) := Lib.hid fun W k hk hlt => by
    obtain ⟨_, h2, bl, off, h3, h4⟩ := (hfr.kept hk fun _ _ h => h).z hlt
    exact ⟨bl, off, h3, h2, h4⟩
  obtain ⟨pa, pc⟩ := p
  obtain ⟨rw, rk, rh, fr, st⟩ := r
  simp only at *
  generalize hN : M.n = N at *
  clear hN hnW hrd hfr hok
  have k0 : Keep NoF w (w.alloc (.cells #[.int .i64 (N : Int), .slice va M.V.length cv, .slice ra M.R.length cr] 25)) := (Keep.refl _ _).alloc _
  have k1 := k0.alloc (.cells #[.int .i64 rw, .int .i64 rk, .bool rh, .slice pa fr.length pc, .int .u64 st] 40)
  have HB1 := Lib.hid ((Bk.new w 25 #[.int .i64 (N : Int), .slice va M.V.length cv, .slice ra M.R.length cr]).alloc (.cells #[.int .i64 rw, .int .i64 rk, .bool rh, .slice pa fr.length pc, .int .u64 st] 40))
  have HB2 := Lib.hid (Bk.new (w.alloc (.cells #[.int .i64 (N : Int), .slice va M.V.length cv, .slice ra M.R.length cr] 25)) 40 #[.int .i64 rw, .int .i64 rk, .bool rh, .slice pa fr.length pc, .int .u64 st])
  rw [World.size_alloc] at HB2
  have HK := Lib.hid k1
  clear k0 k1
  go_enter Try.func17, Try.ntmps17
  go_upto_region 1 with (fail)
  generalize (w.alloc (.cells #[.int .i64 (N : Int), .slice va M.V.length cv, .slice ra M.R.length cr] 25)).alloc (.cells #[.int .i64 rw, .int .i64 rk, .bool rh, .slice pa fr.length pc, .int .u64 st] 40) = W1 at *
  have m0 : W1.cell? ⟨w.heap.size, 0, none⟩ = some (.int .i64 (N : Int)) := HB1.out.cell 0
  have f0 : W1.cell? ⟨w.heap.size + 1, 0, none⟩ = some (.int .i64 rw) := HB2.out.cell 0
  have f1 : W1.cell? ⟨w.heap.size + 1, 1, none⟩ = some (.int .i64 rk) := HB2.out.cell 1
  have f2 : W1.cell? ⟨w.heap.size + 1, 2, none⟩ = some (.bool rh) := HB2.out.cell 2
  have f3 : W1.cell? ⟨w.heap.size + 1, 3, none⟩ = some (.slice pa fr.length pc) := HB2.out.cell 3
  have f4 : W1.cell? ⟨w.heap.size + 1, 4, none⟩ = some (.int .u64 st) := HB2.out.cell 4
  by_cases hr : 0 ≤ rw ∧ rw < (N : Int) ∧ 0 ≤ rk ∧ rk < (c.length : Int)
  · obtain ⟨r1, r2, r3, r4⟩ := hr
    have hn0 : decide (0 ≤ rw ∧ rw < (N : Int) ∧ 0 ≤ rk ∧ rk < (c.length : Int)) = true := decide_eq_true ⟨r1, r2, r3, r4⟩
    rw [hn0] at HF
    have q1 : ¬ rw < 0 := by omega
    have q2 : ¬ (N : Int) ≤ rw := by omega
    have q3 : ¬ rk < 0 := by omega
    have q4 : ¬ (c.length : Int) ≤ rk := by omega
    clear hn0
    go_upto_region 4 with (fail)
    go_loopw [36] (fun t wr => ∃ j : Nat, t = .int .i64 (j : Int) ∧ j ≤ fr.length ∧ Hid (froB (fr.take j) i = true) ∧ wr = W1) (fun t _ => fr.length - (intOf t).toNat)
    case atStart => exact ⟨0, rfl, by omega, Lib.hid rfl, rfl⟩
    case round =>
      obtain ⟨j, rfl, hj, HJ, hw⟩ := hrel
      obtain rfl := hw.symm
      by_cases hlt : j < fr.length
      · obtain ⟨bl, off, rfl, hpc, hcx⟩ := HR.out _ j HK.out hlt
        have HS := Lib.hid (froB_snoc (i := i) hlt)
        have HNO := Lib.hid (froB_no (i := i) hlt)
        have l1 : (j : Int) < (fr.length : Int) := by omega
        have l0 : (0 : Int) ≤ (j : Int) := by omega
        generalize fr.getD j 0 = x at *
        by_cases hx : 0 ≤ x ∧ x < (i : Int)
        · obtain ⟨x1, x2⟩ := hx
          have HT : Hid (froB (fr.take (j + 1)) i = true) := Lib.hid (by rw [HS.out, HJ.out, decide_eq_true ⟨x1, x2⟩]; rfl)
          have y1 : ¬ x < 0 := by omega
          have y2 : ¬ (i : Int) ≤ x := by omega
          go_wp2
          go_roundw
          case rel => exact ⟨j + 1, by go_num, by omega, HT, trivial⟩
          case measure => simp only [intOf]; omega
        · have HE : Hid (formB M c i ⟨rw, rk, rh, fr, st⟩ = false) := Lib.hid (by rw [HF.out, HNO.out hx]; rfl)
          by_cases x1 : x < 0
          · go_wp2
            go_ret
            exact ⟨by rw [HE.out]; rfl, HK.out⟩
          · have y2 : (i : Int) ≤ x := by omega
            clear hx
            go_wp2
            go_ret
            exact ⟨by rw [HE.out]; rfl, HK.out⟩
      · obtain rfl : j = fr.length := by omega
        have l1 : ¬ (fr.length : Int) < (fr.length : Int) := by omega
        rw [List.take_length] at HJ
        rw [HJ.out] at HF
        obtain ⟨kn, rfl⟩ : ∃ kn : Nat, rk = (kn : Int) := ⟨rk.toNat, by omega⟩
        obtain ⟨bl, off, rfl, hcc, hcx⟩ := HC.out _ kn HK.out (by omega)
        have HQ : Hid (((st : Int) / 2 ^ N != 0) = !decide (st < 2 ^ N)) := Lib.hid (shr_ne st N)
        rw [Int.toNat_natCast] at HF
        generalize (c.getD kn default).op = op at *
        by_cases hs : st < 2 ^ N
        · have hq := HQ.out
          rw [decide_eq_true hs] at hq HF
          have hq2 : ((st : Int) / 2 ^ N != 0) = false := hq
          have HF2 : Hid (formB M c i ⟨rw, (kn : Int), rh, fr, st⟩ = (decide (st = 0) || (rh && decide (op = 13)))) := Lib.hid (by rw [HF.out]; rfl)
          clear hq HF HQ hs
          by_cases h64 : (N : Int) < 64
          · have d64 : decide ((N : Int) < 64) = true := decide_eq_true h64
            by_cases h0 : st = 0
            · have e0 : ((st : Int) == 0) = true := by rw [h0]; rfl
              have HE : Hid (formB M c i ⟨rw, (kn : Int), rh, fr, st⟩ = true) := Lib.hid (by rw [HF2.out, decide_eq_true h0]; rfl)
              clear h0 HF2
              go_wp2
              go_ret
              exact ⟨by rw [HE.out]; rfl, HK.out⟩
            · have e0 : ((st : Int) == 0) = false := beq_eq_false_iff_ne.2 (by omega)
              have HE : Hid (formB M c i ⟨rw, (kn : Int), rh, fr, st⟩ = (rh && decide (op = 13))) := Lib.hid (by rw [HF2.out, decide_eq_false h0]; rfl)
              clear h0 HF2
              cases rh
              · go_wp2
                go_ret
                exact ⟨by rw [HE.out]; rfl, HK.out⟩
              · have e13 : (op == 13) = decide (op = 13) := rfl
                have HE2 : Hid (formB M c i ⟨rw, (kn : Int), true, fr, st⟩ = (op == 13)) := Lib.hid (by rw [HE.out]; rfl)
                clear e13 HE
                generalize hop : (op == 13) = ob at *
                have hok : (op == 13) = ob := hop
                go_wp2
                go_ret
                exact ⟨by rw [HE2.out]; rfl, HK.out⟩
          · have d64 : decide ((N : Int) < 64) = false := decide_eq_false h64
            by_cases h0 : st = 0
            · have e0 : ((st : Int) == 0) = true := by rw [h0]; rfl
              have HE : Hid (formB M c i ⟨rw, (kn : Int), rh, fr, st⟩ = true) := Lib.hid (by rw [HF2.out, decide_eq_true h0]; rfl)
              clear h0 HF2
              go_wp2
              go_ret
              exact ⟨by rw [HE.out]; rfl, HK.out⟩
            · have e0 : ((st : Int) == 0) = false := beq_eq_false_iff_ne.2 (by omega)
              have HE : Hid (formB M c i ⟨rw, (kn : Int), rh, fr, st⟩ = (rh && decide (op = 13))) := Lib.hid (by rw [HF2.out, decide_eq_false h0]; rfl)
              clear h0 HF2
              cases rh
              · go_wp2
                go_ret
                exact ⟨by rw [HE.out]; rfl, HK.out⟩
              · have e13 : (op == 13) = decide (op = 13) := rfl
                have HE2 : Hid (formB M c i ⟨rw, (kn : Int), true, fr, st⟩ = (op == 13)) := Lib.hid (by rw [HE.out]; rfl)
                clear e13 HE
                generalize hop : (op == 13) = ob at *
                have hok : (op == 13) = ob := hop
                go_wp2
                go_ret
                exact ⟨by rw [HE2.out]; rfl, HK.out⟩
        · have hq := HQ.out
          rw [decide_eq_false hs] at hq HF
          have hq2 : ((st : Int) / 2 ^ N != 0) = true := hq
          have h64 : (N : Int) < 64 := by
            false_or_by_contra
            obtain rfl : N = 64 := by omega
            exact hs hst
          have d64 : decide ((N : Int) < 64) = true := decide_eq_true h64
          have HE : Hid (formB M c i ⟨rw, (kn : Int), rh, fr, st⟩ = false) := Lib.hid (by rw [HF.out]; rfl)
          clear hq HF HQ hs
          go_wp2
          go_ret
          exact ⟨by rw [HE.out]; rfl, HK.out⟩
  · have HE : Hid (formB M c i ⟨rw, rk, rh, fr, st⟩ = false) := Lib.hid (by rw [HF.out, decide_eq_false hr]; rfl)
    clear HF
    by_cases h1 : rw < 0
    · go_wp2
      go_ret
      exact ⟨by rw [HE.out]; rfl, HK.out⟩
    · by_cases h2 : (N : Int) ≤ rw
      · go_wp2
        go_ret
        exact ⟨by rw [HE.out]; rfl, HK.out⟩
      · by_cases h3 : rk < 0
        · go_wp2
          go_ret
          exact ⟨by rw [HE.out]; rfl, HK.out⟩
        · have h4 : (c.length : Int) ≤ rk := by omega
          clear hr
          go_wp2
          go_ret
          exact ⟨by rw [HE.out]; rfl, HK.out⟩
end
end Go.Proofs.Ytmjdbbfoihadoaa
