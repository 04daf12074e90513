/- The text of a model: few, small, the samenesses at equal models, the example. No condition. -/
import Derived.Test.YtmnhgeggojgflaaGreatDoorEvF
import Derived.Test.YtmnhgeggojgflaaGreatDoorSgRG
import Derived.BigQuiet
import Derived.Deep.Cut
set_option linter.unusedVariables false
set_option linter.unusedSimpArgs false
namespace Go.Proofs.YtmnhgeggojgflaaGreatDoor
open Go.RowKit
open Ev
attribute [local go_sem] Oper.semAt_some
def FewPostD (w : World) (e : Ending) (w' : World) : Prop := ∃ b : Bool, e = .returned (.bool b) ∧ Keep NoF w w'
theorem FewPostD.no {w w' : World} (hk : Keep NoF w w') : FewPostD w (.returned (.bool false)) w' := ⟨false, rfl, hk⟩
section
set_option maxRecDepth 100000
set_option maxHeartbeats 2000000
theorem fewMt_any (S : Sg) (a f c : Option Addr) (ca cf cc : Nat) (w : World) (hS : SigR w S a ca f cf c cc) :
    Calls Tryz.prog 8 #[.agg #[.slice a S.A.length ca, .slice f S.F.length cf, .slice c S.C.length cc]] w (FewPostD w) := by
  have hK0 : Keep NoF w (w.alloc (.cells (boxS S a ca f cf c cc) 24)) := (Keep.refl _ _).alloc _
  have hS0 := hS.keep hK0
  obtain ⟨d0, d1, d2, dz⟩ := @box_cells w (w.alloc (.cells (boxS S a ca f cf c cc) 24)) S a f c ca cf cc 24 (Keep.refl _ _)
  unfold boxS at *
  have hl1 := hS.lA
  have hl2 := hS.lF
  have hl3 := hS.lC
  by_cases h1 : 10 < S.A.length
  · go_enter Tryz.func8, Tryz.ntmps8
    go_wp2
    refine bodyPost_ret (v := .bool false) (by simp [results, Tryz.results8, go_sem]) rfl ?_
    exact FewPostD.no hK0
  · by_cases h2 : 20 < S.F.length
    · go_enter Tryz.func8, Tryz.ntmps8
      go_wp2
      refine bodyPost_ret (v := .bool false) (by simp [results, Tryz.results8, go_sem]) rfl ?_
      exact FewPostD.no hK0
    · by_cases h3 : 20 < S.C.length
      · go_enter Tryz.func8, Tryz.ntmps8
        go_wp2
        refine bodyPost_ret (v := .bool false) (by simp [results, Tryz.results8, go_sem]) rfl ?_
        exact FewPostD.no hK0
      · have hW := Lib.hid hS0
        have hK1 : Keep NoF w ((w.alloc (.cells #[.slice a S.A.length ca, .slice f S.F.length cf, .slice c S.C.length cc] 24)).alloc (.cells #[.slice a S.A.length ca, .slice f S.F.length cf, .slice c S.C.length cc] 22)) := hK0.alloc _
        have hLS : Hid (∀ k, k < 3 → ∃ (l : List ByteArray) (A : Option Addr) (c0 : Nat), ((w.alloc (.cells #[.slice a S.A.length ca, .slice f S.F.length cf, .slice c S.C.length cc] 24)).alloc (.cells #[.slice a S.A.length ca, .slice f S.F.length cf, .slice c S.C.length cc] 22)).cell? ⟨w.heap.size + 1, k, none⟩ = some (.slice A l.length c0) ∧ l.length ≤ 20 ∧
            Rd ((w.alloc (.cells #[.slice a S.A.length ca, .slice f S.F.length cf, .slice c S.C.length cc] 24)).alloc (.cells #[.slice a S.A.length ca, .slice f S.F.length cf, .slice c S.C.length cc] 22)) (.slice A l.length c0) 1 l.length (strs l)) := Lib.hid fun k hk => by
          have hb := Bk.new (w.alloc (.cells #[.slice a S.A.length ca, .slice f S.F.length cf, .slice c S.C.length cc] 24)) 22 #[.slice a S.A.length ca, .slice f S.F.length cf, .slice c S.C.length cc]
          rw [World.size_alloc] at hb
          have hq := hS.keep hK1
          have h3 : k = 0 ∨ k = 1 ∨ k = 2 := by omega
          rcases h3 with rfl | rfl | rfl
          · exact ⟨S.A, a, ca, hb.cell 0, by omega, hq.A⟩
          · exact ⟨S.F, f, cf, hb.cell 1, by omega, hq.F⟩
          · exact ⟨S.C, c, cc, hb.cell 2, by omega, hq.C⟩
        clear hS0 hS hW
        go_enter Tryz.func8, Tryz.ntmps8
        go_wp2
        generalize (w.alloc (.cells #[.slice a S.A.length ca, .slice f S.F.length cf, .slice c S.C.length cc] 24)).alloc (.cells #[.slice a S.A.length ca, .slice f S.F.length cf, .slice c S.C.length cc] 22) = W0 at *
        go_loopw [31] (fun i wr => ∃ k : Nat, i = .int .i64 k ∧ k ≤ 3 ∧ wr = W0) (fun i _ => 3 - (intOf i).toNat)
        case atStart => exact ⟨0, rfl, by omega, rfl⟩
        case round =>
          obtain ⟨k, rfl, hk, hw⟩ := hrel
          obtain rfl := hw.symm; clear hw
          by_cases hlt : k < 3
          · obtain ⟨l, A, c0, hc, hl20, hrd⟩ := hLS.out k hlt
            have HRD := Lib.hid hrd
            clear hrd
            go_wp2
            go_loopw [37] (fun i wr => ∃ j : Nat, i = .int .i64 j ∧ j ≤ l.length ∧ wr = W0) (fun i _ => l.length - (intOf i).toNat)
            case atStart => exact ⟨0, rfl, by omega, rfl⟩
            case round =>
              obtain ⟨j, rfl, hj, hw⟩ := hrel
              obtain rfl := hw.symm; clear hw
              by_cases hjl : j < l.length
              · have hx : l[j]? = some l[j] := List.getElem?_eq_getElem hjl
                obtain ⟨-, hcc, bl, off, rfl, hcx⟩ := HRD.out.str hx
                clear hx
                generalize l[j] = x at *
                by_cases hs : 50 < x.size
                · go_wp2
                  refine bodyPost_ret (v := .bool false) (by simp [results, Tryz.results8, go_sem]) rfl ?_
                  exact FewPostD.no hK1
                · go_wp2
                  go_roundw
                  case rel => exact ⟨j + 1, by go_num, by omega, by trivial⟩
                  case measure => simp only [intOf]; omega
              · go_wp2
                go_roundw
                case rel => exact ⟨k + 1, by go_num, by omega, by trivial⟩
                case measure => simp only [intOf]; omega
          · go_wp2
            refine bodyPost_ret (v := .bool true) (by simp [results, Tryz.results8, go_sem]) rfl ?_
            exact ⟨true, rfl, hK1⟩

variable {w : World} {M : Md} {va ra : Option Addr} {cv cr : Nat} {rs : List (Option Addr × Nat)}
theorem smallMt_any (hM : MdR w M va cv ra cr rs) : Calls Tryz.prog 9 #[.agg #[.int .i64 M.W, .slice va M.V.length cv, .slice ra M.R.length cr]] w (FewPostD w) := by
  have k0 : Keep NoF w (w.alloc (.cells #[.int .i64 M.W, .slice va M.V.length cv, .slice ra M.R.length cr] 28)) := (Keep.refl _ _).alloc _
  have HB := Lib.hid (Bk.new w 28 #[.int .i64 M.W, .slice va M.V.length cv, .slice ra M.R.length cr])
  have HM := Lib.hid hM
  have HK := Lib.hid k0
  have hlv := hM.lv
  have hlr := hM.lr
  have HLW := Lib.hid hM.lw
  clear hM
  go_enter Tryz.func9, Tryz.ntmps9
  go_upto_region 1 with (fail)
  generalize w.alloc (.cells #[.int .i64 M.W, .slice va M.V.length cv, .slice ra M.R.length cr] 28) = w1 at *
  have m0 : w1.cell? ⟨w.heap.size, 0, none⟩ = some (.int .i64 M.W) := HB.out.cell 0
  have m1 : w1.cell? ⟨w.heap.size, 1, none⟩ = some (.slice va M.V.length cv) := HB.out.cell 1
  have m2 : w1.cell? ⟨w.heap.size, 2, none⟩ = some (.slice ra M.R.length cr) := HB.out.cell 2
  by_cases g3 : 12 < (M.V.length : Int)
  · go_wp2
    go_ret
    exact ⟨_, rfl, HK.out⟩
  by_cases g4 : 8 < (M.R.length : Int)
  · go_wp2
    go_ret
    exact ⟨_, rfl, HK.out⟩
  go_wp2
  go_loopw [18] (fun t wr => ∃ k : Nat, t = .int .i64 (k : Int) ∧ k ≤ M.R.length ∧ wr = w1) (fun t _ => M.R.length - (intOf t).toNat)
  case atStart => exact ⟨0, rfl, by omega, rfl⟩
  case round =>
    obtain ⟨k, rfl, hk, hw⟩ := hrel
    obtain rfl := hw.symm; clear hw
    by_cases hlt : k < M.R.length
    · obtain ⟨bl, off, A, c, rfl, hcr, hc, -, -⟩ := (HM.out.keep HK.out).at_ hlt
      have l1 : (k : Int) < (M.R.length : Int) := by omega
      have l0 : (0 : Int) ≤ (k : Int) := by omega
      have hll := HLW.out _ (show M.R.getD k [] ∈ M.R by rw [List.getD_eq_getElem?_getD, List.getElem?_eq_getElem hlt]; exact List.getElem_mem hlt)
      generalize (M.R.getD k []).length = q at *
      by_cases g5 : 70 < (q : Int)
      · go_wp2
        go_ret
        exact ⟨_, rfl, HK.out⟩
      · go_wp2
        go_roundw
        case rel => exact ⟨k + 1, by go_num, by omega, by trivial⟩
        case measure => simp only [intOf]; omega
    · obtain rfl : k = M.R.length := by omega
      go_wp2
      go_ret
      exact ⟨_, rfl, HK.out⟩
theorem rSameSets_eq (l : List Nat) (A B : Option Addr) (c d : Nat) (w : World) (hl : l.length ≤ 9223372036854775807) (h1 : Rd w (.slice A l.length c) 1 l.length (u6 l)) (h2 : Rd w (.slice B l.length d) 1 l.length (u6 l)) :
    Calls Tryz.prog 37 #[.slice A l.length c, .slice B l.length d] w fun e w' => e = .returned (.bool true) ∧ Keep NoF w w' := by
  go_enter Tryz.func37, Tryz.ntmps37
  go_wp2
  go_loopw [5] (fun i wr => ∃ k nq : Nat, i = .int .i64 k ∧ k ≤ l.length ∧ wr = w.drewN nq) (fun i _ => l.length - (intOf i).toNat)
  case atStart => exact ⟨0, 0, rfl, by omega, rfl⟩
  case round =>
    obtain ⟨k, nq0, rfl, hk, rfl⟩ := hrel
    by_cases hlt : k < l.length
    · obtain ⟨-, hcc, bl, off, rfl, hc⟩ := h1.nat_lt hlt
      obtain ⟨-, hcd, bl2, off2, rfl, hc2⟩ := h2.nat_lt hlt
      generalize l.getD k 0 = x at *
      have hxx : (((x : Int)) != (x : Int)) = false := by simp
      go_wp2
      go_quiet (fail)
      go_wp2
      go_roundw
      case rel => exact ⟨k + 1, nq0 + nq, by go_num, by omega, rfl⟩
      case measure => simp only [intOf]; omega
    · obtain rfl : k = l.length := by omega
      go_wp2
      refine bodyPost_ret (v := .bool true) (by simp [results, Tryz.results37, go_sem]) rfl ?_
      exact ⟨rfl, (Keep.refl _ _).drewN _⟩
theorem slEqual_eq (l : List Nat) (A B : Option Addr) (c d : Nat) (w : World) (hl : l.length ≤ 9223372036854775807) (h1 : Rd w (.slice A l.length c) 1 l.length (u6 l)) (h2 : Rd w (.slice B l.length d) 1 l.length (u6 l)) :
    Calls Tryz.prog 48 #[.slice A l.length c, .slice B l.length d] w fun e w' => e = .returned (.bool true) ∧ Keep NoF w w' := by
  go_enter Tryz.func48, Tryz.ntmps48
  go_wp2
  go_loopw [13] (fun i wr => ∃ k nq : Nat, i = .int .i64 k ∧ k ≤ l.length ∧ wr = w.drewN nq) (fun i _ => l.length - (intOf i).toNat)
  case atStart => exact ⟨0, 0, rfl, by omega, rfl⟩
  case round =>
    obtain ⟨k, nq0, rfl, hk, rfl⟩ := hrel
    by_cases hlt : k < l.length
    · obtain ⟨-, hcc, bl, off, rfl, hc⟩ := h1.nat_lt hlt
      obtain ⟨-, hcd, bl2, off2, rfl, hc2⟩ := h2.nat_lt hlt
      generalize l.getD k 0 = x at *
      have hxx : (((x : Int)) != (x : Int)) = false := by simp
      go_wp2
      go_quiet (fail)
      go_wp2
      go_roundw
      case rel => exact ⟨k + 1, nq0 + nq, by go_num, by omega, rfl⟩
      case measure => simp only [intOf]; omega
    · obtain rfl : k = l.length := by omega
      go_wp2
      refine bodyPost_ret (v := .bool true) (by simp [results, Tryz.results48, go_sem]) rfl ?_
      exact ⟨rfl, (Keep.refl _ _).drewN _⟩

def SX : Sg := ⟨[⟨#[97]⟩, ⟨#[98]⟩], [⟨#[112]⟩, ⟨#[113]⟩], []⟩
theorem rd_litX (w : World) (l : List ByteArray) (n : Nat) (hn : n ≤ 1000) (h : l.length = n) : Rd (w.alloc (.cells (strs l).toArray 9)) (.slice (some ⟨w.heap.size, 0, none⟩) n n) 1 n (strs l) :=
  Rd.of_own (World.ownsRow_lit (base := 0) (e := 9) (size := 1) w (strs l).toArray n (by omega) (by simp [maxLen]; omega) (by simp [h]))
theorem exampleMt_any (w : World) : Calls Tryz.prog 19 #[] w fun e w' => ∃ a f : Option Addr, e = .returned (.agg #[.slice a 2 2, .slice f 2 2, .slice none 0 0]) ∧ SigR w' SX a 2 f 2 none 0 ∧ Keep NoF w w' := by
  go_enter Tryz.func19, Tryz.ntmps19
  go_wp2
  refine bodyPost_ret (v := .agg #[.slice (some ⟨w.heap.size + 1, 0, none⟩) 2 2, .slice (some ⟨w.heap.size + 1 + 1, 0, none⟩) 2 2, .slice none 0 0]) (by simp [results, Tryz.results19, go_sem]) rfl ?_
  have h1 := rd_litX (w.alloc (.cells #[.slice (some ⟨w.heap.size + 1, 0, none⟩) 2 2, .slice (some ⟨w.heap.size + 1 + 1, 0, none⟩) 2 2, .slice none 0 0] 24)) SX.A 2 (by omega) rfl
  have h2 := rd_litX ((w.alloc (.cells #[.slice (some ⟨w.heap.size + 1, 0, none⟩) 2 2, .slice (some ⟨w.heap.size + 1 + 1, 0, none⟩) 2 2, .slice none 0 0] 24)).alloc (.cells (strs SX.A).toArray 9)) SX.F 2 (by omega) rfl
  simp only [World.size_alloc] at h1 h2
  refine ⟨_, _, rfl, ⟨?_, h2, Rd.nil _ _, by decide +kernel, by decide, by decide, by decide⟩, (((Keep.refl _ _).alloc _).alloc _).alloc _⟩
  exact h1.kept ((Keep.refl NoF _).alloc _) fun _ _ h => h
theorem rowSame {w : World} {M : Md} {va ra va2 ra2 : Option Addr} {cv cr cv2 cr2 : Nat} {rs rs2 : List (Option Addr × Nat)} (h1 : MdR w M va cv ra cr rs) (h2 : MdR w M va2 cv2 ra2 cr2 rs2) {k : Nat} (hk : k < M.R.length) :
    ∃ bl off A c bl2 off2 A2 c2, ra = some ⟨bl, off, none⟩ ∧ ra2 = some ⟨bl2, off2, none⟩ ∧ M.R.length ≤ cr ∧ M.R.length ≤ cr2 ∧ w.cell? ⟨bl, off + k, none⟩ = some (.slice A (M.R.getD k []).length c) ∧ w.cell? ⟨bl2, off2 + k, none⟩ = some (.slice A2 (M.R.getD k []).length c2) ∧
      Rd w (.slice A (M.R.getD k []).length c) 1 (M.R.getD k []).length (u6 (M.R.getD k [])) ∧ Rd w (.slice A2 (M.R.getD k []).length c2) 1 (M.R.getD k []).length (u6 (M.R.getD k [])) ∧ (M.R.getD k []).length ≤ 9223372036854775807 := by
  obtain ⟨bl, off, A, c, e1, l1, c1, r1, -⟩ := h1.at_ hk
  obtain ⟨bl2, off2, A2, c2, e2, l2, c2', r2, -⟩ := h2.at_ hk
  exact ⟨bl, off, A, c, bl2, off2, A2, c2, e1, e2, l1, l2, c1, c2', r1, r2, h1.lw _ (by rw [List.getD_eq_getElem?_getD, List.getElem?_eq_getElem hk]; exact List.getElem_mem hk)⟩
/-- The two boxes. -/
structure TwoB (w : World) (M : Md) (va : Option Addr) (cv : Nat) (ra : Option Addr) (cr : Nat) (va2 : Option Addr) (cv2 : Nat) (ra2 : Option Addr) (cr2 : Nat) (W : World) : Prop where
  m : Bk W w.heap.size 28 #[.int .i64 M.W, .slice va M.V.length cv, .slice ra M.R.length cr]
  n : Bk W (w.heap.size + 1) 28 #[.int .i64 M.W, .slice va2 M.V.length cv2, .slice ra2 M.R.length cr2]
  k : Keep NoF w W
theorem TwoB.new (w : World) (M : Md) (va : Option Addr) (cv : Nat) (ra : Option Addr) (cr : Nat) (va2 : Option Addr) (cv2 : Nat) (ra2 : Option Addr) (cr2 : Nat) :
    TwoB w M va cv ra cr va2 cv2 ra2 cr2 ((w.alloc (.cells #[.int .i64 M.W, .slice va M.V.length cv, .slice ra M.R.length cr] 28)).alloc (.cells #[.int .i64 M.W, .slice va2 M.V.length cv2, .slice ra2 M.R.length cr2] 28)) := by
  refine ⟨(Bk.new w _ _).alloc _, ?_, ((Keep.refl _ _).alloc _).alloc _⟩
  have := Bk.new (w.alloc (.cells #[.int .i64 M.W, .slice va M.V.length cv, .slice ra M.R.length cr] 28)) 28 #[.int .i64 M.W, .slice va2 M.V.length cv2, .slice ra2 M.R.length cr2]
  rwa [World.size_alloc] at this
theorem TwoB.keep {va2 ra2 : Option Addr} {cv2 cr2 : Nat} {W W' : World} (h : TwoB w M va cv ra cr va2 cv2 ra2 cr2 W) (k : Keep NoF W W') : TwoB w M va cv ra cr va2 cv2 ra2 cr2 W' :=
  ⟨h.m.keep k fun h => h, h.n.keep k fun h => h, h.k.trans k fun _ _ h => h⟩
theorem rSame_eq {va2 ra2 : Option Addr} {cv2 cr2 : Nat} {rs2 : List (Option Addr × Nat)} (hM : MdR w M va cv ra cr rs) (hM2 : MdR w M va2 cv2 ra2 cr2 rs2) :
    Calls Tryz.prog 15 #[.agg #[.int .i64 M.W, .slice va M.V.length cv, .slice ra M.R.length cr], .agg #[.int .i64 M.W, .slice va2 M.V.length cv2, .slice ra2 M.R.length cr2]] w fun e w' => e = .returned (.bool true) ∧ Keep NoF w w' := by
  have HP0 := Lib.hid (TwoB.new w M va cv ra cr va2 cv2 ra2 cr2)
  have hlr := hM.lr
  have HV := Lib.hid fun W (hk : Keep NoF w W) => rSameSets_eq M.V va va2 cv cv2 W hM.lv (hM.keep hk).V (hM2.keep hk).V
  have HM := Lib.hid hM
  have HM2 := Lib.hid hM2
  have hxx : (M.W != M.W) = false := by simp
  have hyy : (((M.R.length : Int)) != (M.R.length : Int)) = false := by simp
  clear hM hM2
  go_enter Tryz.func15, Tryz.ntmps15
  go_upto_region 1 with (fail)
  generalize (w.alloc (.cells #[.int .i64 M.W, .slice va M.V.length cv, .slice ra M.R.length cr] 28)).alloc (.cells #[.int .i64 M.W, .slice va2 M.V.length cv2, .slice ra2 M.R.length cr2] 28) = W0 at *
  have m0 : W0.cell? ⟨w.heap.size, 0, none⟩ = some (.int .i64 M.W) := HP0.out.m.cell 0
  have m1 : W0.cell? ⟨w.heap.size, 1, none⟩ = some (.slice va M.V.length cv) := HP0.out.m.cell 1
  have n0 : W0.cell? ⟨w.heap.size + 1, 0, none⟩ = some (.int .i64 M.W) := HP0.out.n.cell 0
  have n1 : W0.cell? ⟨w.heap.size + 1, 1, none⟩ = some (.slice va2 M.V.length cv2) := HP0.out.n.cell 1
  go_wp2_with (first
    | (go_at_call 37; (with_reducible refine (HV.out _ HP0.out.k).mono ?_); rintro e w1 ⟨rfl, k1⟩
       have HP1 := Lib.hid (HP0.out.keep k1)
       have q2 : w1.cell? ⟨w.heap.size, 2, none⟩ = some (.slice ra M.R.length cr) := HP1.out.m.cell 2
       have p2 : w1.cell? ⟨w.heap.size + 1, 2, none⟩ = some (.slice ra2 M.R.length cr2) := HP1.out.n.cell 2))
  clear q2 p2 m0 m1 n0 n1
  go_loopw [5] (fun t wr => ∃ k : Nat, t = .int .i64 (k : Int) ∧ k ≤ M.R.length ∧ Keep NoF w1 wr) (fun t _ => M.R.length - (intOf t).toNat)
  case atStart => exact ⟨0, rfl, by omega, Keep.refl _ _⟩
  case round =>
    obtain ⟨k, rfl, hk, hkr⟩ := hrel
    have HPr := Lib.hid (HP1.out.keep hkr)
    have q2 : wr.cell? ⟨w.heap.size, 2, none⟩ = some (.slice ra M.R.length cr) := HPr.out.m.cell 2
    by_cases hlt : k < M.R.length
    · have p2 : wr.cell? ⟨w.heap.size + 1, 2, none⟩ = some (.slice ra2 M.R.length cr2) := HPr.out.n.cell 2
      obtain ⟨bl, off, A, c, bl2, off2, A2, c2, rfl, rfl, h1, h2, x1, x2, r1, r2, r3⟩ := rowSame (HM.out.keep HPr.out.k) (HM2.out.keep HPr.out.k) hlt
      have l1 : (k : Int) < (M.R.length : Int) := by omega
      have l0 : (0 : Int) ≤ (k : Int) := by omega
      have HSS := Lib.hid fun W (hk : Keep NoF wr W) => rSameSets_eq (M.R.getD k []) A A2 c c2 W r3 (r1.kept hk fun _ _ h => h) (r2.kept hk fun _ _ h => h)
      have K0 : Keep NoF wr wr.drew := (Keep.refl _ _).drew
      clear r1 r2
      generalize (M.R.getD k []).length = q at *
      go_upto_region 6 with (fail)
      go_region_held3 (fun w' => w'.cell? ⟨w.heap.size, 2, none⟩ = some (.slice (some ⟨bl, off, none⟩) M.R.length cr) ∧ w'.cell? ⟨w.heap.size + 1, 2, none⟩ = some (.slice (some ⟨bl2, off2, none⟩) M.R.length cr2) ∧ w'.cell? ⟨bl, off + k, none⟩ = some (.slice A q c) ∧ w'.cell? ⟨bl2, off2 + k, none⟩ = some (.slice A2 q c2)) (go_keep)
        ((go_at_call 37; (with_reducible refine (HSS.out _ K0).mono ?_); rintro e w5 ⟨rfl, hk5⟩
          have K5 := hk5.undrew
          have d0 : w5.cell? ⟨w.heap.size, 2, none⟩ = some (.slice (some ⟨bl, off, none⟩) M.R.length cr) := K5.cellv q2 fun h => h
          have d1 : w5.cell? ⟨w.heap.size + 1, 2, none⟩ = some (.slice (some ⟨bl2, off2, none⟩) M.R.length cr2) := K5.cellv p2 fun h => h
          have d2 : w5.cell? ⟨bl, off + k, none⟩ = some (.slice A q c) := K5.cellv x1 fun h => h
          have d3 : w5.cell? ⟨bl2, off2 + k, none⟩ = some (.slice A2 q c2) := K5.cellv x2 fun h => h))
      go_wp2
      go_roundw
      case rel => exact ⟨k + 1, by go_num, by omega, hkr.trans K5 fun _ _ h => h⟩
      case measure => simp only [intOf]; omega
    · obtain rfl : k = M.R.length := by omega
      go_wp2
      go_ret
      exact ⟨rfl, HPr.out.k⟩
theorem moSame1_eq (l : List Nat) (A B : Option Addr) (c d : Nat) (w : World) (hl : l.length ≤ 9223372036854775807) (h1 : Rd w (.slice A l.length c) 1 l.length (u6 l)) (h2 : Rd w (.slice B l.length d) 1 l.length (u6 l)) :
    Calls Tryz.prog 50 #[.slice A l.length c, .slice B l.length d] w fun e w' => e = .returned (.bool true) ∧ Keep NoF w w' := by
  have H := Lib.hid (slEqual_eq l A B c d w hl h1 h2)
  clear hl h1 h2
  generalize l.length = n at *
  go_enter Tryz.func50, Tryz.ntmps50
  go_wp2_with (go_at_call 48; (with_reducible refine H.out.mono ?_); rintro e w1 ⟨rfl, k1⟩)
  go_ret
  exact ⟨rfl, k1⟩
theorem slEqf_eq {va2 ra2 : Option Addr} {cv2 cr2 : Nat} {rs2 : List (Option Addr × Nat)} (hM : MdR w M va cv ra cr rs) (hM2 : MdR w M va2 cv2 ra2 cr2 rs2) :
    Calls Tryz.prog 49 #[.slice ra M.R.length cr, .slice ra2 M.R.length cr2, .func (.func 50) #[] #[]] w fun e w' => e = .returned (.bool true) ∧ Keep NoF w w' := by
  have hlr := hM.lr
  have HM := Lib.hid hM
  have HM2 := Lib.hid hM2
  have hyy : (((M.R.length : Int)) != (M.R.length : Int)) = false := by simp
  clear hM hM2
  go_enter Tryz.func49, Tryz.ntmps49
  go_wp2
  go_loopw [17] (fun t wr => ∃ k : Nat, t = .int .i64 (k : Int) ∧ k ≤ M.R.length ∧ Keep NoF w wr) (fun t _ => M.R.length - (intOf t).toNat)
  case atStart => exact ⟨0, rfl, by omega, Keep.refl _ _⟩
  case round =>
    obtain ⟨k, rfl, hk, hkr⟩ := hrel
    by_cases hlt : k < M.R.length
    · obtain ⟨bl, off, A, c, bl2, off2, A2, c2, rfl, rfl, h1, h2, x1, x2, r1, r2, r3⟩ := rowSame (HM.out.keep hkr) (HM2.out.keep hkr) hlt
      have l1 : (k : Int) < (M.R.length : Int) := by omega
      have l0 : (0 : Int) ≤ (k : Int) := by omega
      have HSS := Lib.hid (moSame1_eq (M.R.getD k []) A A2 c c2 wr r3 r1 r2)
      clear r1 r2
      generalize (M.R.getD k []).length = q at *
      go_wp2_with (go_at_call 50; (with_reducible refine HSS.out.mono ?_); rintro e w5 ⟨rfl, k5⟩)
      go_roundw
      case rel => exact ⟨k + 1, by go_num, by omega, hkr.trans k5 fun _ _ h => h⟩
      case measure => simp only [intOf]; omega
    · obtain rfl : k = M.R.length := by omega
      go_wp2
      go_ret
      exact ⟨rfl, hkr⟩
theorem moSame_eq {va2 ra2 : Option Addr} {cv2 cr2 : Nat} {rs2 : List (Option Addr × Nat)} (hM : MdR w M va cv ra cr rs) (hM2 : MdR w M va2 cv2 ra2 cr2 rs2) :
    Calls Tryz.prog 20 #[.agg #[.int .i64 M.W, .slice va M.V.length cv, .slice ra M.R.length cr], .agg #[.int .i64 M.W, .slice va2 M.V.length cv2, .slice ra2 M.R.length cr2]] w fun e w' => e = .returned (.bool true) ∧ Keep NoF w w' := by
  have HP0 := Lib.hid (TwoB.new w M va cv ra cr va2 cv2 ra2 cr2)
  have HV := Lib.hid fun W (hk : Keep NoF w W) => slEqual_eq M.V va va2 cv cv2 W hM.lv (hM.keep hk).V (hM2.keep hk).V
  have HF := Lib.hid fun W (hk : Keep NoF w W) => slEqf_eq (hM.keep hk) (hM2.keep hk)
  have hxx : (M.W == M.W) = true := by simp
  clear hM hM2
  go_enter Tryz.func20, Tryz.ntmps20
  go_upto_region 1 with (fail)
  generalize (w.alloc (.cells #[.int .i64 M.W, .slice va M.V.length cv, .slice ra M.R.length cr] 28)).alloc (.cells #[.int .i64 M.W, .slice va2 M.V.length cv2, .slice ra2 M.R.length cr2] 28) = W0 at *
  have m0 : W0.cell? ⟨w.heap.size, 0, none⟩ = some (.int .i64 M.W) := HP0.out.m.cell 0
  have m1 : W0.cell? ⟨w.heap.size, 1, none⟩ = some (.slice va M.V.length cv) := HP0.out.m.cell 1
  have n0 : W0.cell? ⟨w.heap.size + 1, 0, none⟩ = some (.int .i64 M.W) := HP0.out.n.cell 0
  have n1 : W0.cell? ⟨w.heap.size + 1, 1, none⟩ = some (.slice va2 M.V.length cv2) := HP0.out.n.cell 1
  go_wp2_with (first
    | (go_at_call 48; (with_reducible refine (HV.out _ HP0.out.k).mono ?_); rintro e w1 ⟨rfl, k1⟩
       have HP1 := Lib.hid (HP0.out.keep k1)
       have q2 : w1.cell? ⟨w.heap.size, 2, none⟩ = some (.slice ra M.R.length cr) := HP1.out.m.cell 2
       have p2 : w1.cell? ⟨w.heap.size + 1, 2, none⟩ = some (.slice ra2 M.R.length cr2) := HP1.out.n.cell 2)
    | (go_at_call 49; (with_reducible refine (HF.out _ HP1.out.k).mono ?_); rintro e w2 ⟨rfl, k2⟩))
  go_ret
  exact ⟨rfl, HP1.out.k.trans k2 fun _ _ h => h⟩
end
end Go.Proofs.YtmnhgeggojgflaaGreatDoor
