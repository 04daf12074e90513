/- Small functions of the parser's law and reference: lists that are equal, few, example. Conditions: equal lists. The signature of the examples, and few. No condition. -/
import Derived.Test.YtdhdcenjiopofaaGreatDoorPaV
import Derived.Test.YtdhdcenjiopofaaGreatDoorFmL
set_option linter.unusedVariables false
set_option linter.unusedSimpArgs false
namespace Go.Proofs.YtdhdcenjiopofaaGreatDoor
open Go.RowKit
open Fm (Nd cl)
section
set_option maxRecDepth 100000
set_option maxHeartbeats 2000000
theorem sameWords_any (l : List ByteArray) (A B : Option Addr) (c d : Nat) (w : World) (hl : l.length ≤ 9223372036854775807) (h1 : Rd w (.slice A l.length c) 1 l.length (strs l)) (h2 : Rd w (.slice B l.length d) 1 l.length (strs l)) :
    Calls Tryz.prog 15 #[.slice A l.length c, .slice B l.length d] w fun e w' => e = .returned (.bool true) ∧ Keep NoF w w' := by
  go_enter Tryz.func15, Tryz.ntmps15
  go_wp2
  go_loopw [5] (fun i wr => ∃ k nq : Nat, i = .int .i64 k ∧ k ≤ l.length ∧ wr = w.drewN nq) (fun i _ => l.length - (intOf i).toNat)
  case atStart => exact ⟨0, 0, rfl, by omega, rfl⟩
  case round =>
    obtain ⟨k, nq0, rfl, hk, rfl⟩ := hrel
    by_cases hlt : k < l.length
    · have hx : l[k]? = some l[k] := List.getElem?_eq_getElem hlt
      obtain ⟨-, hcc, bl, off, rfl, hc⟩ := h1.str hx
      obtain ⟨-, hcd, bl2, off2, rfl, hc2⟩ := h2.str hx
      clear hx
      generalize l[k] = x at *
      go_wp2
      go_quiet (fail)
      go_wp2
      go_roundw
      case rel => exact ⟨k + 1, nq0 + nq, by go_num, by omega, rfl⟩
      case measure => simp only [intOf]; omega
    · obtain rfl : k = l.length := by omega
      go_wp2
      refine bodyPost_ret (v := .bool true) (by simp [results, Tryz.results15, go_sem]) rfl ?_
      exact ⟨rfl, (Keep.refl _ _).drewN _⟩
theorem sameNodes_any (R : List Nd) (A B : Option Addr) (c d : Nat) (w : World) (h1 : Rd w (.slice A R.length c) 6 R.length (fmC R)) (h2 : Rd w (.slice B R.length d) 6 R.length (fmC R)) (hR : R.length ≤ 1000000000000) :
    Calls Tryz.prog 9 #[.slice A R.length c, .slice B R.length d] w fun e w' => e = .returned (.bool true) ∧ Keep NoF w w' := by
  go_enter Tryz.func9, Tryz.ntmps9
  go_wp2
  go_loopw [5] (fun i wr => ∃ k : Nat, i = .int .i64 k ∧ k ≤ R.length ∧ Keep NoF w wr) (fun i _ => R.length - (intOf i).toNat)
  case atStart => exact ⟨0, rfl, by omega, Keep.refl _ _⟩
  case round =>
    obtain ⟨k, rfl, hk, hkw⟩ := hrel
    by_cases hlt : k < R.length
    · obtain ⟨bl, off, rfl, _, hc1, x0, x1, x2, x3, x4, x5⟩ := (h1.kept hkw fun _ _ h => h).nd (ndAt_eq hlt)
      obtain ⟨bm, ofg, rfl, _, hc2, y0, y1, y2, y3, y4, y5⟩ := (h2.kept hkw fun _ _ h => h).nd (ndAt_eq hlt)
      have b1 : (0 : Int) ≤ (k : Int) := by omega
      have b2 : (k : Int) < (R.length : Int) := by omega
      generalize ndAt R k = r at *
      have hsd := nd_guard
      have hneq := run_nd_neq r r
      rw [show (!decide (r = r)) = false by simp] at hneq
      obtain ⟨r1, r2, r3, r4, r5, r6⟩ := r
      simp only [ndV] at x0 x1 x2 x3 x4 x5 y0 y1 y2 y3 y4 y5 hneq
      go_wp2
      go_quiet (fail)
      go_wp2
      go_roundw
      case rel => exact ⟨k + 1, by go_num, by omega, hkw.drewN _⟩
      case measure => simp [intOf]; omega
    · go_wp2
      refine bodyPost_ret (v := .bool true) (by simp [results, Tryz.results9, go_sem]) rfl ?_
      exact ⟨rfl, hkw⟩
end
end Go.Proofs.YtdhdcenjiopofaaGreatDoor
namespace Go.Proofs.YtdhdcenjiopofaaGreatDoor
open Go.RowKit
open Fm (Nd cl)

def SE : Sg := ⟨[⟨#[97]⟩, ⟨#[98]⟩], [⟨#[112]⟩, ⟨#[113]⟩, ⟨#[114]⟩], [⟨#[116, 101, 108, 108]⟩]⟩
theorem rd_litP (w : World) (l : List ByteArray) (n : Nat) (hn : n ≤ 1000) (h : l.length = n) : Rd (w.alloc (.cells (strs l).toArray 9)) (.slice (some ⟨w.heap.size, 0, none⟩) n n) 1 n (strs l) :=
  Rd.of_own (World.ownsRow_lit (base := 0) (e := 9) (size := 1) w (strs l).toArray n (by omega) (by simp [maxLen]; omega) (by simp [h]))
def FewPost (t : ByteArray) (w : World) (e : Ending) (w' : World) : Prop := ∃ b : Bool, e = .returned (.bool b) ∧ (b = true → t.size ≤ 300) ∧ Keep NoF w w'
theorem FewPost.no {t : ByteArray} {w w' : World} (hk : Keep NoF w w') : FewPost t w (.returned (.bool false)) w' := ⟨false, rfl, (fun h => by cases h), hk⟩
section
set_option maxRecDepth 100000
set_option maxHeartbeats 2000000
theorem example_any (w : World) : Calls Tryz.prog 13 #[] w fun e w' => ∃ a f c : Option Addr, e = .returned (.agg #[.slice a 2 2, .slice f 3 3, .slice c 1 1]) ∧ SigR w' SE a 2 f 3 c 1 ∧ Keep NoF w w' := by
  go_enter Tryz.func13, Tryz.ntmps13
  go_wp2
  refine bodyPost_ret (v := .agg #[.slice (some ⟨w.heap.size + 1, 0, none⟩) 2 2, .slice (some ⟨w.heap.size + 1 + 1, 0, none⟩) 3 3, .slice (some ⟨w.heap.size + 1 + 1 + 1, 0, none⟩) 1 1]) (by simp [results, Tryz.results13, go_sem]) rfl ?_
  have h1 := rd_litP (w.alloc (.cells #[.slice (some ⟨w.heap.size + 1, 0, none⟩) 2 2, .slice (some ⟨w.heap.size + 1 + 1, 0, none⟩) 3 3, .slice (some ⟨w.heap.size + 1 + 1 + 1, 0, none⟩) 1 1] 24)) SE.A 2 (by omega) rfl
  have h2 := rd_litP ((w.alloc (.cells #[.slice (some ⟨w.heap.size + 1, 0, none⟩) 2 2, .slice (some ⟨w.heap.size + 1 + 1, 0, none⟩) 3 3, .slice (some ⟨w.heap.size + 1 + 1 + 1, 0, none⟩) 1 1] 24)).alloc (.cells (strs SE.A).toArray 9)) SE.F 3 (by omega) rfl
  have h3 := rd_litP (((w.alloc (.cells #[.slice (some ⟨w.heap.size + 1, 0, none⟩) 2 2, .slice (some ⟨w.heap.size + 1 + 1, 0, none⟩) 3 3, .slice (some ⟨w.heap.size + 1 + 1 + 1, 0, none⟩) 1 1] 24)).alloc (.cells (strs SE.A).toArray 9)).alloc (.cells (strs SE.F).toArray 9)) SE.C 1 (by omega) rfl
  simp only [World.size_alloc] at h1 h2 h3
  refine ⟨_, _, _, rfl, ⟨?_, ?_, h3, by decide +kernel, by decide, by decide, by decide⟩, ((((Keep.refl _ _).alloc _).alloc _).alloc _).alloc _⟩
  · exact h1.kept (((Keep.refl NoF _).alloc _).alloc _) fun _ _ h => h
  · exact h2.kept ((Keep.refl NoF _).alloc _) fun _ _ h => h
theorem few_any (S : Sg) (a f c : Option Addr) (ca cf cc : Nat) (t : ByteArray) (w : World) (hS : SigR w S a ca f cf c cc) :
    Calls Tryz.prog 5 #[.agg #[.slice a S.A.length ca, .slice f S.F.length cf, .slice c S.C.length cc], .string t] w (FewPost t w) := by
  have hK0 : Keep NoF w (w.alloc (.cells (boxS S a ca f cf c cc) 24)) := (Keep.refl _ _).alloc _
  have hS0 := hS.keep hK0
  obtain ⟨d0, d1, d2, dz⟩ := @box_cells w (w.alloc (.cells (boxS S a ca f cf c cc) 24)) S a f c ca cf cc 24 (Keep.refl _ _)
  unfold boxS at *
  have hl1 := hS.lA
  have hl2 := hS.lF
  have hl3 := hS.lC
  by_cases ht : 300 < t.size
  · go_enter Tryz.func5, Tryz.ntmps5
    go_wp2
    refine bodyPost_ret (v := .bool false) (by simp [results, Tryz.results5, go_sem]) rfl ?_
    exact FewPost.no hK0
  · by_cases h1 : 20 < S.A.length
    · go_enter Tryz.func5, Tryz.ntmps5
      go_wp2
      refine bodyPost_ret (v := .bool false) (by simp [results, Tryz.results5, go_sem]) rfl ?_
      exact FewPost.no hK0
    · by_cases h2 : 20 < S.F.length
      · go_enter Tryz.func5, Tryz.ntmps5
        go_wp2
        refine bodyPost_ret (v := .bool false) (by simp [results, Tryz.results5, go_sem]) rfl ?_
        exact FewPost.no hK0
      · by_cases h3 : 20 < S.C.length
        · go_enter Tryz.func5, Tryz.ntmps5
          go_wp2
          refine bodyPost_ret (v := .bool false) (by simp [results, Tryz.results5, go_sem]) rfl ?_
          exact FewPost.no hK0
        · have hW := Lib.hid hS0
          have hK1 : Keep NoF w ((w.alloc (.cells #[.slice a S.A.length ca, .slice f S.F.length cf, .slice c S.C.length cc] 24)).alloc (.cells #[.slice a S.A.length ca, .slice f S.F.length cf, .slice c S.C.length cc] 22)) := hK0.alloc _
          have hLS : Hid (∀ k, k < 3 → ∃ (l : List ByteArray) (A : Option Addr) (c0 : Nat), ((w.alloc (.cells #[.slice a S.A.length ca, .slice f S.F.length cf, .slice c S.C.length cc] 24)).alloc (.cells #[.slice a S.A.length ca, .slice f S.F.length cf, .slice c S.C.length cc] 22)).cell? ⟨w.heap.size + 1, k, none⟩ = some (.slice A l.length c0) ∧ l.length ≤ 20 ∧
              Rd ((w.alloc (.cells #[.slice a S.A.length ca, .slice f S.F.length cf, .slice c S.C.length cc] 24)).alloc (.cells #[.slice a S.A.length ca, .slice f S.F.length cf, .slice c S.C.length cc] 22)) (.slice A l.length c0) 1 l.length (strs l)) := Lib.hid fun k hk => by
            have hb := Bk.new (w.alloc (.cells #[.slice a S.A.length ca, .slice f S.F.length cf, .slice c S.C.length cc] 24)) 22 #[.slice a S.A.length ca, .slice f S.F.length cf, .slice c S.C.length cc]
            rw [World.size_alloc] at hb
            have hq := hS.keep hK1
            have h3 : k = 0 ∨ k = 1 ∨ k = 2 := by omega
            rcases h3 with rfl | rfl | rfl
            · exact ⟨S.A, a, ca, hb.cell 0, by omega, hq.A⟩
            · exact ⟨S.F, f, cf, hb.cell 1, by omega, hq.F⟩
            · exact ⟨S.C, c, cc, hb.cell 2, by omega, hq.C⟩
          clear hS0 hS hW
          go_enter Tryz.func5, Tryz.ntmps5
          go_wp2
          generalize (w.alloc (.cells #[.slice a S.A.length ca, .slice f S.F.length cf, .slice c S.C.length cc] 24)).alloc (.cells #[.slice a S.A.length ca, .slice f S.F.length cf, .slice c S.C.length cc] 22) = W0 at *
          go_loopw [38] (fun i wr => ∃ k : Nat, i = .int .i64 k ∧ k ≤ 3 ∧ wr = W0) (fun i _ => 3 - (intOf i).toNat)
          case atStart => exact ⟨0, rfl, by omega, rfl⟩
          case round =>
            obtain ⟨k, rfl, hk, hw⟩ := hrel
            obtain rfl := hw.symm; clear hw
            by_cases hlt : k < 3
            · obtain ⟨l, A, c0, hc, hl20, hrd⟩ := hLS.out k hlt
              have HRD := Lib.hid hrd
              clear hrd
              go_wp2
              go_loopw [44] (fun i wr => ∃ j : Nat, i = .int .i64 j ∧ j ≤ l.length ∧ wr = W0) (fun i _ => l.length - (intOf i).toNat)
              case atStart => exact ⟨0, rfl, by omega, rfl⟩
              case round =>
                obtain ⟨j, rfl, hj, hw⟩ := hrel
                obtain rfl := hw.symm; clear hw
                by_cases hjl : j < l.length
                · have hx : l[j]? = some l[j] := List.getElem?_eq_getElem hjl
                  obtain ⟨-, hcc, bl, off, rfl, hcx⟩ := HRD.out.str hx
                  clear hx
                  generalize l[j] = x at *
                  by_cases hs : 100 < x.size
                  · go_wp2
                    refine bodyPost_ret (v := .bool false) (by simp [results, Tryz.results5, go_sem]) rfl ?_
                    exact FewPost.no hK1
                  · go_wp2
                    go_roundw
                    case rel => exact ⟨j + 1, by go_num, by omega, by trivial⟩
                    case measure => simp only [intOf]; omega
                · go_wp2
                  go_roundw
                  case rel => exact ⟨k + 1, by go_num, by omega, by trivial⟩
                  case measure => simp only [intOf]; omega
            · go_wp2
              refine bodyPost_ret (v := .bool true) (by simp [results, Tryz.results5, go_sem]) rfl ?_
              exact ⟨true, rfl, (fun _ => by omega), hK1⟩
end
end Go.Proofs.YtdhdcenjiopofaaGreatDoor
