/- The errors of Prime, Image, Pre, Box and Converse. The reference's two, Prime and Image. No condition. -/
import Derived.Test.YtgdmcidcappkpaaGreatSyN
import Derived.Test.YtgdmcidcappkpaaGreatSyHr
import Derived.Test.YtgdmcidcappkpaaGreatSyUV
import Derived.Deep.RegionWith
set_option linter.unusedVariables false
set_option linter.unusedSimpArgs false
namespace Go.Proofs.YtgdmcidcappkpaaGreat
open Go.RowKit

/-- The error of a relation and a set. -/
def pairE (d s : Dg) : Int := if relE d ≠ 0 then relE d else if setE s ≠ 0 then setE s else if s.V ≠ d.V then 3 else 0
theorem pairE_cases (d s : Dg) : (relE d ≠ 0 ∧ pairE d s = relE d) ∨ (relE d = 0 ∧ setE s ≠ 0 ∧ pairE d s = setE s) ∨ (relE d = 0 ∧ setE s = 0 ∧ s.V ≠ d.V ∧ pairE d s = 3) ∨ (relE d = 0 ∧ setE s = 0 ∧ s.V = d.V ∧ pairE d s = 0) := by
  unfold pairE
  by_cases h1 : relE d = 0
  · by_cases h2 : setE s = 0
    · by_cases h3 : s.V = d.V
      · exact .inr (.inr (.inr ⟨h1, h2, h3, by rw [if_neg (by simpa using h1), if_neg (by simpa using h2), if_neg (by simpa using h3)]⟩))
      · exact .inr (.inr (.inl ⟨h1, h2, h3, by rw [if_neg (by simpa using h1), if_neg (by simpa using h2), if_pos h3]⟩))
    · exact .inr (.inl ⟨h1, h2, by rw [if_neg (by simpa using h1), if_pos h2]⟩)
  · exact .inl ⟨h1, by rw [if_pos h1]⟩
section
set_option maxRecDepth 100000
set_option maxHeartbeats 4000000
theorem both_bad (d s : Dg) (w : World) (hd : d.In w) (hs : s.In w) (h : pairE d s ≠ 0) : Calls Tryz.prog 31 #[d.val, .slice (some ⟨w.heap.size, 0, none⟩) 1 1] (w.alloc (.cells #[.int .i64 s.V, s.sl, .int .i64 s.root] 24)) fun e w' => e = .returned (.int .i64 (pairE d s)) ∧ Keep NoF w w' := by
  have hrel := fun W (hK : Keep NoF w W) => relErr_any d W ⟨hd.1.kept hK fun _ _ h => h, hd.2⟩
  have hset := fun W (hK : Keep NoF w W) => setErr_any s W ⟨hs.1.kept hK fun _ _ h => h, hs.2⟩
  have hcs := pairE_cases d s
  generalize pairE d s = T at *
  generalize hrd : relE d = E1 at *
  generalize hrs : setE s = E2 at *
  clear hrd hrs
  have hd1 := hd.1
  have hs1 := hs.1
  clear hd hs
  obtain ⟨dV, dR, dr, dsl⟩ := d
  obtain ⟨sV, sR, sr, ssl⟩ := s
  simp only at hd1 hs1 hcs
  obtain ⟨_, A1, c1, rfl, _, _⟩ := hd1
  obtain ⟨_, A2, c2, rfl, _, _⟩ := hs1
  have HR : Hid (∀ W, Keep NoF w W → Calls Tryz.prog 41 #[.agg #[.int .i64 dV, .slice A1 dR.length c1, .int .i64 dr]] W fun e w' => e = .returned (.int .i64 E1) ∧ Keep NoF W w') := Lib.hid hrel
  have HS : Hid (∀ W, Keep NoF w W → Calls Tryz.prog 27 #[.agg #[.int .i64 sV, .slice A2 sR.length c2, .int .i64 sr]] W fun e w' => e = .returned (.int .i64 E2) ∧ Keep NoF W w') := Lib.hid hset
  clear hrel hset
  show Calls Tryz.prog 31 #[.agg #[.int .i64 dV, .slice A1 dR.length c1, .int .i64 dr], .slice (some ⟨w.heap.size, 0, none⟩) 1 1] (w.alloc (.cells #[.int .i64 sV, .slice A2 sR.length c2, .int .i64 sr] 24)) _
  have hkw : Keep NoF w (w.alloc (.cells #[.int .i64 sV, .slice A2 sR.length c2, .int .i64 sr] 24)) := (Keep.refl _ _).alloc _
  have hkd : Keep NoF w ((w.alloc (.cells #[.int .i64 sV, .slice A2 sR.length c2, .int .i64 sr] 24)).alloc (.cells #[.int .i64 dV, .slice A1 dR.length c1, .int .i64 dr] 24)) := hkw.alloc _
  have Bs := (Bk.new w 24 #[.int .i64 sV, .slice A2 sR.length c2, .int .i64 sr]).alloc (.cells #[.int .i64 dV, .slice A1 dR.length c1, .int .i64 dr] 24)
  have Bd := Bk.new (w.alloc (.cells #[.int .i64 sV, .slice A2 sR.length c2, .int .i64 sr] 24)) 24 #[.int .i64 dV, .slice A1 dR.length c1, .int .i64 dr]
  rw [World.size_alloc] at Bd
  rcases hcs with ⟨h1, rfl⟩ | ⟨rfl, h2, rfl⟩ | ⟨rfl, rfl, h3, rfl⟩ | ⟨_, _, _, h4⟩
  · have hE : (T != 0) = true := by rw [bne_iff_ne]; exact h1
    go_enter Tryz.func31, Tryz.ntmps31
    go_wp2_with (go_at_call 41; (with_reducible refine (HR.out _ hkd).mono ?_); rintro e w1 ⟨rfl, hk1⟩)
    go_ret
    exact ⟨rfl, hkd.trans hk1 fun _ _ h => h⟩
  · have hE : (T != 0) = true := by rw [bne_iff_ne]; exact h2
    go_enter Tryz.func31, Tryz.ntmps31
    go_wp2_with (go_at_call 41; (with_reducible refine (HR.out _ hkd).mono ?_); rintro e w1 ⟨rfl, hk1⟩)
    have Bs1 := Bs.keep hk1 fun h => h
    have kw1 := hkd.trans hk1 fun _ _ h => h
    go_loopw [18] (fun i wr => i = .int .i64 0 ∧ Bk wr w.heap.size 24 #[.int .i64 sV, .slice A2 sR.length c2, .int .i64 sr] ∧ Keep NoF w wr) (fun i _ => 1)
    case atStart => exact ⟨rfl, Bs1, kw1⟩
    case round =>
      clear Bs Bd Bs1 kw1 hkd hkw hk1
      obtain ⟨rfl, Bs, kwr⟩ := hrel
      have d1 := Bs.cell 0
      have d2 := Bs.cell 1
      have d3 := Bs.cell 2
      have kx : Keep NoF w (wr.alloc (.cells #[.int .i64 sV, .slice A2 sR.length c2, .int .i64 sr] 24)) := kwr.alloc _
      go_wp2_with (go_at_call 27; (with_reducible refine (HS.out _ kx).mono ?_); rintro e w2 ⟨rfl, hk2⟩)
      go_ret
      exact ⟨rfl, kx.trans hk2 fun _ _ h => h⟩
  · have hE : (sV != dV) = true := by rw [bne_iff_ne]; exact h3
    go_enter Tryz.func31, Tryz.ntmps31
    go_wp2_with (go_at_call 41; (with_reducible refine (HR.out _ hkd).mono ?_); rintro e w1 ⟨rfl, hk1⟩)
    have Bs1 := Bs.keep hk1 fun h => h
    have Bd1 := Bd.keep hk1 fun h => h
    have kw1 := hkd.trans hk1 fun _ _ h => h
    go_loopw [18] (fun i wr => ∃ j : Nat, i = .int .i64 j ∧ j ≤ 1 ∧ Bk wr w.heap.size 24 #[.int .i64 sV, .slice A2 sR.length c2, .int .i64 sr] ∧ Bk wr (w.heap.size + 1) 24 #[.int .i64 dV, .slice A1 dR.length c1, .int .i64 dr] ∧ Keep NoF w wr) (fun i _ => 1 - (intOf i).toNat)
    case atStart => exact ⟨0, rfl, by omega, Bs1, Bd1, kw1⟩
    case round =>
      clear Bs Bd Bs1 Bd1 kw1 hkd hkw hk1
      obtain ⟨j, rfl, hj, Bs, Bd, kwr⟩ := hrel
      have d1 := Bs.cell 0
      have d2 := Bs.cell 1
      have d3 := Bs.cell 2
      rcases (by omega : j = 0 ∨ j = 1) with rfl | rfl
      · have kx : Keep NoF w (wr.alloc (.cells #[.int .i64 sV, .slice A2 sR.length c2, .int .i64 sr] 24)) := kwr.alloc _
        go_wp2_with (go_at_call 27; (with_reducible refine (HS.out _ kx).mono ?_); rintro e w2 ⟨rfl, hk2⟩)
        go_roundw
        case rel => exact ⟨1, by go_num, by omega, (Bs.alloc _).keep hk2 fun h => h, (Bd.alloc _).keep hk2 fun h => h, kx.trans hk2 fun _ _ h => h⟩
        case measure => simp only [intOf]; omega
      · obtain ⟨wa, rfl⟩ : ∃ wa : World, wa = wr := ⟨_, rfl⟩
        clear d1 d2 d3
        go_wp2
        go_loopw [30] (fun i wr => i = .int .i64 0 ∧ Bk wr w.heap.size 24 #[.int .i64 sV, .slice A2 sR.length c2, .int .i64 sr] ∧ Bk wr (w.heap.size + 1) 24 #[.int .i64 dV, .slice A1 dR.length c1, .int .i64 dr] ∧ Keep NoF w wr) (fun i _ => 1)
        case atStart => exact ⟨rfl, Bs, Bd, kwr⟩
        case round =>
          clear Bs Bd kwr
          obtain ⟨rfl, Bs, Bd, kwr⟩ := hrel
          have d1 := Bs.cell 0
          have d2 := Bs.cell 1
          have d3 := Bs.cell 2
          have x0 := Bd.cell 0
          have y0 : ∀ o, (wr.alloc o).cell? ⟨w.heap.size + 1, 0, none⟩ = some (.int .i64 dV) := fun o => (Bd.alloc o).cell 0
          go_wp2
          go_ret
          exact ⟨rfl, kwr.alloc _⟩
  · exact absurd h4 h
theorem Image_bad (d s : Dg) (w : World) (hd : d.In w) (hs : s.In w) (h : pairE d s ≠ 0) : Calls Tryz.prog 9 #[d.val, s.val] w fun e w' => e = .returned (.tuple #[dgZero, .int .i64 (pairE d s)]) ∧ Keep NoF w w' := by
  have HB0 := Lib.hid fun W (hK : Keep NoF w W) => both_bad d s W ⟨hd.1.kept hK fun _ _ h => h, hd.2⟩ ⟨hs.1.kept hK fun _ _ h => h, hs.2⟩ h
  generalize pairE d s = T at *
  have hd1 := hd.1
  have hs1 := hs.1
  clear hd hs
  obtain ⟨dV, dR, dr, dsl⟩ := d
  obtain ⟨sV, sR, sr, ssl⟩ := s
  simp only at hd1 hs1
  obtain ⟨_, A1, c1, rfl, _, _⟩ := hd1
  obtain ⟨_, A2, c2, rfl, _, _⟩ := hs1
  have HB : Hid (∀ W, Keep NoF w W → Calls Tryz.prog 31 #[.agg #[.int .i64 dV, .slice A1 dR.length c1, .int .i64 dr], .slice (some ⟨W.heap.size, 0, none⟩) 1 1] (W.alloc (.cells #[.int .i64 sV, .slice A2 sR.length c2, .int .i64 sr] 24)) fun e w' => e = .returned (.int .i64 T) ∧ Keep NoF W w') := Lib.hid HB0.out
  clear HB0
  have hE : (T != 0) = true := by rw [bne_iff_ne]; exact h
  show Calls Tryz.prog 9 #[.agg #[.int .i64 dV, .slice A1 dR.length c1, .int .i64 dr], .agg #[.int .i64 sV, .slice A2 sR.length c2, .int .i64 sr]] w _
  go_enter Tryz.func9, Tryz.ntmps9
  go_upto_region 1 with (fail)
  have Bd := ((Bk.new w 24 #[.int .i64 dV, .slice A1 dR.length c1, .int .i64 dr]).alloc (.cells #[.int .i64 sV, .slice A2 sR.length c2, .int .i64 sr] 24)).alloc (.cells #[.int .i64 0, .slice none 0 0, .int .i64 0] 24)
  have Bs := (Bk.new (w.alloc (.cells #[.int .i64 dV, .slice A1 dR.length c1, .int .i64 dr] 24)) 24 #[.int .i64 sV, .slice A2 sR.length c2, .int .i64 sr]).alloc (.cells #[.int .i64 0, .slice none 0 0, .int .i64 0] 24)
  have Bz := Bk.new ((w.alloc (.cells #[.int .i64 dV, .slice A1 dR.length c1, .int .i64 dr] 24)).alloc (.cells #[.int .i64 sV, .slice A2 sR.length c2, .int .i64 sr] 24)) 24 #[.int .i64 0, .slice none 0 0, .int .i64 0]
  simp only [World.size_alloc, Nat.add_assoc, Nat.reduceAdd] at Bs Bz
  have Kw : Keep NoF w (((w.alloc (.cells #[.int .i64 dV, .slice A1 dR.length c1, .int .i64 dr] 24)).alloc (.cells #[.int .i64 sV, .slice A2 sR.length c2, .int .i64 sr] 24)).alloc (.cells #[.int .i64 0, .slice none 0 0, .int .i64 0] 24)) := (((Keep.refl NoF w).alloc _).alloc _).alloc _
  generalize ((w.alloc (.cells #[.int .i64 dV, .slice A1 dR.length c1, .int .i64 dr] 24)).alloc (.cells #[.int .i64 sV, .slice A2 sR.length c2, .int .i64 sr] 24)).alloc (.cells #[.int .i64 0, .slice none 0 0, .int .i64 0] 24) = W0 at *
  have cr0 := Bd.cell 0
  have cr1 := Bd.cell 1
  have cr2 := Bd.cell 2
  have cs0 := Bs.cell 0
  have cs1 := Bs.cell 1
  have cs2 := Bs.cell 2
  have lz := Bz.lt
  go_wp2_with (go_at_call 31
               (with_reducible refine (HB.out _ Kw).mono ?_)
               rintro e wz ⟨rfl, KZ⟩
               have Bzn := Bz.keep KZ fun h => h
               have y0 := Bzn.cell 0
               have y1 := Bzn.cell 1
               have y2 := Bzn.cell 2
               have yf0 := Bzn.frozen 0
               have yf1 := Bzn.frozen 1
               have yf2 := Bzn.frozen 2)
  have s1 : Bk _ (w.heap.size + 2) 24 #[.int .i64 0, .slice none 0 0, .int .i64 0] := ((Bzn.put 0 (.int .i64 0)).put 1 (.slice none 0 0)).put 2 (.int .i64 0)
  have s3 := (Kw.trans KZ fun _ _ h => h).trans (keep_set3 wz (w.heap.size + 2) (.int .i64 0) (.slice none 0 0) (.int .i64 0)) fun k hk h => by omega
  generalize (((wz.setCell ⟨w.heap.size + 2, 0, none⟩ (.int .i64 0)).setCell ⟨w.heap.size + 2, 1, none⟩ (.slice none 0 0)).setCell ⟨w.heap.size + 2, 2, none⟩ (.int .i64 0)) = W6 at *
  have h0 := s1.cell 0
  have h1 := s1.cell 1
  have h2 := s1.cell 2
  refine bodyPost_ret (v := .tuple #[dgZero, .int .i64 T]) (by simp [results, Tryz.results9, go_sem, dgZero, h0, h1, h2]) rfl ?_
  exact ⟨rfl, s3⟩
theorem Pre_bad (d s : Dg) (w : World) (hd : d.In w) (hs : s.In w) (h : pairE d s ≠ 0) : Calls Tryz.prog 11 #[d.val, s.val] w fun e w' => e = .returned (.tuple #[dgZero, .int .i64 (pairE d s)]) ∧ Keep NoF w w' := by
  have HB0 := Lib.hid fun W (hK : Keep NoF w W) => both_bad d s W ⟨hd.1.kept hK fun _ _ h => h, hd.2⟩ ⟨hs.1.kept hK fun _ _ h => h, hs.2⟩ h
  generalize pairE d s = T at *
  have hd1 := hd.1
  have hs1 := hs.1
  clear hd hs
  obtain ⟨dV, dR, dr, dsl⟩ := d
  obtain ⟨sV, sR, sr, ssl⟩ := s
  simp only at hd1 hs1
  obtain ⟨_, A1, c1, rfl, _, _⟩ := hd1
  obtain ⟨_, A2, c2, rfl, _, _⟩ := hs1
  have HB : Hid (∀ W, Keep NoF w W → Calls Tryz.prog 31 #[.agg #[.int .i64 dV, .slice A1 dR.length c1, .int .i64 dr], .slice (some ⟨W.heap.size, 0, none⟩) 1 1] (W.alloc (.cells #[.int .i64 sV, .slice A2 sR.length c2, .int .i64 sr] 24)) fun e w' => e = .returned (.int .i64 T) ∧ Keep NoF W w') := Lib.hid HB0.out
  clear HB0
  have hE : (T != 0) = true := by rw [bne_iff_ne]; exact h
  show Calls Tryz.prog 11 #[.agg #[.int .i64 dV, .slice A1 dR.length c1, .int .i64 dr], .agg #[.int .i64 sV, .slice A2 sR.length c2, .int .i64 sr]] w _
  go_enter Tryz.func11, Tryz.ntmps11
  go_upto_region 1 with (fail)
  have Bd := ((Bk.new w 24 #[.int .i64 dV, .slice A1 dR.length c1, .int .i64 dr]).alloc (.cells #[.int .i64 sV, .slice A2 sR.length c2, .int .i64 sr] 24)).alloc (.cells #[.int .i64 0, .slice none 0 0, .int .i64 0] 24)
  have Bs := (Bk.new (w.alloc (.cells #[.int .i64 dV, .slice A1 dR.length c1, .int .i64 dr] 24)) 24 #[.int .i64 sV, .slice A2 sR.length c2, .int .i64 sr]).alloc (.cells #[.int .i64 0, .slice none 0 0, .int .i64 0] 24)
  have Bz := Bk.new ((w.alloc (.cells #[.int .i64 dV, .slice A1 dR.length c1, .int .i64 dr] 24)).alloc (.cells #[.int .i64 sV, .slice A2 sR.length c2, .int .i64 sr] 24)) 24 #[.int .i64 0, .slice none 0 0, .int .i64 0]
  simp only [World.size_alloc, Nat.add_assoc, Nat.reduceAdd] at Bs Bz
  have Kw : Keep NoF w (((w.alloc (.cells #[.int .i64 dV, .slice A1 dR.length c1, .int .i64 dr] 24)).alloc (.cells #[.int .i64 sV, .slice A2 sR.length c2, .int .i64 sr] 24)).alloc (.cells #[.int .i64 0, .slice none 0 0, .int .i64 0] 24)) := (((Keep.refl NoF w).alloc _).alloc _).alloc _
  generalize ((w.alloc (.cells #[.int .i64 dV, .slice A1 dR.length c1, .int .i64 dr] 24)).alloc (.cells #[.int .i64 sV, .slice A2 sR.length c2, .int .i64 sr] 24)).alloc (.cells #[.int .i64 0, .slice none 0 0, .int .i64 0] 24) = W0 at *
  have cr0 := Bd.cell 0
  have cr1 := Bd.cell 1
  have cr2 := Bd.cell 2
  have cs0 := Bs.cell 0
  have cs1 := Bs.cell 1
  have cs2 := Bs.cell 2
  have lz := Bz.lt
  go_wp2_with (go_at_call 31
               (with_reducible refine (HB.out _ Kw).mono ?_)
               rintro e wz ⟨rfl, KZ⟩
               have Bzn := Bz.keep KZ fun h => h
               have y0 := Bzn.cell 0
               have y1 := Bzn.cell 1
               have y2 := Bzn.cell 2
               have yf0 := Bzn.frozen 0
               have yf1 := Bzn.frozen 1
               have yf2 := Bzn.frozen 2)
  have s1 : Bk _ (w.heap.size + 2) 24 #[.int .i64 0, .slice none 0 0, .int .i64 0] := ((Bzn.put 0 (.int .i64 0)).put 1 (.slice none 0 0)).put 2 (.int .i64 0)
  have s3 := (Kw.trans KZ fun _ _ h => h).trans (keep_set3 wz (w.heap.size + 2) (.int .i64 0) (.slice none 0 0) (.int .i64 0)) fun k hk h => by omega
  generalize (((wz.setCell ⟨w.heap.size + 2, 0, none⟩ (.int .i64 0)).setCell ⟨w.heap.size + 2, 1, none⟩ (.slice none 0 0)).setCell ⟨w.heap.size + 2, 2, none⟩ (.int .i64 0)) = W6 at *
  have h0 := s1.cell 0
  have h1 := s1.cell 1
  have h2 := s1.cell 2
  refine bodyPost_ret (v := .tuple #[dgZero, .int .i64 T]) (by simp [results, Tryz.results11, go_sem, dgZero, h0, h1, h2]) rfl ?_
  exact ⟨rfl, s3⟩
theorem Box_bad (d s : Dg) (w : World) (hd : d.In w) (hs : s.In w) (h : pairE d s ≠ 0) : Calls Tryz.prog 13 #[d.val, s.val] w fun e w' => e = .returned (.tuple #[dgZero, .int .i64 (pairE d s)]) ∧ Keep NoF w w' := by
  have HB0 := Lib.hid fun W (hK : Keep NoF w W) => both_bad d s W ⟨hd.1.kept hK fun _ _ h => h, hd.2⟩ ⟨hs.1.kept hK fun _ _ h => h, hs.2⟩ h
  generalize pairE d s = T at *
  have hd1 := hd.1
  have hs1 := hs.1
  clear hd hs
  obtain ⟨dV, dR, dr, dsl⟩ := d
  obtain ⟨sV, sR, sr, ssl⟩ := s
  simp only at hd1 hs1
  obtain ⟨_, A1, c1, rfl, _, _⟩ := hd1
  obtain ⟨_, A2, c2, rfl, _, _⟩ := hs1
  have HB : Hid (∀ W, Keep NoF w W → Calls Tryz.prog 31 #[.agg #[.int .i64 dV, .slice A1 dR.length c1, .int .i64 dr], .slice (some ⟨W.heap.size, 0, none⟩) 1 1] (W.alloc (.cells #[.int .i64 sV, .slice A2 sR.length c2, .int .i64 sr] 24)) fun e w' => e = .returned (.int .i64 T) ∧ Keep NoF W w') := Lib.hid HB0.out
  clear HB0
  have hE : (T != 0) = true := by rw [bne_iff_ne]; exact h
  show Calls Tryz.prog 13 #[.agg #[.int .i64 dV, .slice A1 dR.length c1, .int .i64 dr], .agg #[.int .i64 sV, .slice A2 sR.length c2, .int .i64 sr]] w _
  go_enter Tryz.func13, Tryz.ntmps13
  go_upto_region 1 with (fail)
  have Bd := ((Bk.new w 24 #[.int .i64 dV, .slice A1 dR.length c1, .int .i64 dr]).alloc (.cells #[.int .i64 sV, .slice A2 sR.length c2, .int .i64 sr] 24)).alloc (.cells #[.int .i64 0, .slice none 0 0, .int .i64 0] 24)
  have Bs := (Bk.new (w.alloc (.cells #[.int .i64 dV, .slice A1 dR.length c1, .int .i64 dr] 24)) 24 #[.int .i64 sV, .slice A2 sR.length c2, .int .i64 sr]).alloc (.cells #[.int .i64 0, .slice none 0 0, .int .i64 0] 24)
  have Bz := Bk.new ((w.alloc (.cells #[.int .i64 dV, .slice A1 dR.length c1, .int .i64 dr] 24)).alloc (.cells #[.int .i64 sV, .slice A2 sR.length c2, .int .i64 sr] 24)) 24 #[.int .i64 0, .slice none 0 0, .int .i64 0]
  simp only [World.size_alloc, Nat.add_assoc, Nat.reduceAdd] at Bs Bz
  have Kw : Keep NoF w (((w.alloc (.cells #[.int .i64 dV, .slice A1 dR.length c1, .int .i64 dr] 24)).alloc (.cells #[.int .i64 sV, .slice A2 sR.length c2, .int .i64 sr] 24)).alloc (.cells #[.int .i64 0, .slice none 0 0, .int .i64 0] 24)) := (((Keep.refl NoF w).alloc _).alloc _).alloc _
  generalize ((w.alloc (.cells #[.int .i64 dV, .slice A1 dR.length c1, .int .i64 dr] 24)).alloc (.cells #[.int .i64 sV, .slice A2 sR.length c2, .int .i64 sr] 24)).alloc (.cells #[.int .i64 0, .slice none 0 0, .int .i64 0] 24) = W0 at *
  have cr0 := Bd.cell 0
  have cr1 := Bd.cell 1
  have cr2 := Bd.cell 2
  have cs0 := Bs.cell 0
  have cs1 := Bs.cell 1
  have cs2 := Bs.cell 2
  have lz := Bz.lt
  go_wp2_with (go_at_call 31
               (with_reducible refine (HB.out _ Kw).mono ?_)
               rintro e wz ⟨rfl, KZ⟩
               have Bzn := Bz.keep KZ fun h => h
               have y0 := Bzn.cell 0
               have y1 := Bzn.cell 1
               have y2 := Bzn.cell 2
               have yf0 := Bzn.frozen 0
               have yf1 := Bzn.frozen 1
               have yf2 := Bzn.frozen 2)
  have s1 : Bk _ (w.heap.size + 2) 24 #[.int .i64 0, .slice none 0 0, .int .i64 0] := ((Bzn.put 0 (.int .i64 0)).put 1 (.slice none 0 0)).put 2 (.int .i64 0)
  have s3 := (Kw.trans KZ fun _ _ h => h).trans (keep_set3 wz (w.heap.size + 2) (.int .i64 0) (.slice none 0 0) (.int .i64 0)) fun k hk h => by omega
  generalize (((wz.setCell ⟨w.heap.size + 2, 0, none⟩ (.int .i64 0)).setCell ⟨w.heap.size + 2, 1, none⟩ (.slice none 0 0)).setCell ⟨w.heap.size + 2, 2, none⟩ (.int .i64 0)) = W6 at *
  have h0 := s1.cell 0
  have h1 := s1.cell 1
  have h2 := s1.cell 2
  refine bodyPost_ret (v := .tuple #[dgZero, .int .i64 T]) (by simp [results, Tryz.results13, go_sem, dgZero, h0, h1, h2]) rfl ?_
  exact ⟨rfl, s3⟩
theorem Prime_bad (d : Dg) (w : World) (hd : d.In w) (h : setE d ≠ 0) : Calls Tryz.prog 6 #[d.val] w fun e w' => e = .returned (.tuple #[dgZero, .int .i64 (setE d)]) ∧ Keep NoF w w' := by
  have HB0 := Lib.hid fun W (hK : Keep NoF w W) => setErr_any d W ⟨hd.1.kept hK fun _ _ h => h, hd.2⟩
  generalize setE d = T at *
  have hd1 := hd.1
  clear hd
  obtain ⟨dV, dR, dr, dsl⟩ := d
  simp only at hd1
  obtain ⟨_, A1, c1, rfl, _, _⟩ := hd1
  have HB : Hid (∀ W, Keep NoF w W → Calls Tryz.prog 27 #[.agg #[.int .i64 dV, .slice A1 dR.length c1, .int .i64 dr]] W fun e w' => e = .returned (.int .i64 T) ∧ Keep NoF W w') := Lib.hid HB0.out
  clear HB0
  have hE : (T != 0) = true := by rw [bne_iff_ne]; exact h
  show Calls Tryz.prog 6 #[.agg #[.int .i64 dV, .slice A1 dR.length c1, .int .i64 dr]] w _
  go_enter Tryz.func6, Tryz.ntmps6
  go_upto_region 1 with (fail)
  have Bd := (Bk.new w 24 #[.int .i64 dV, .slice A1 dR.length c1, .int .i64 dr]).alloc (.cells #[.int .i64 0, .slice none 0 0, .int .i64 0] 24)
  have Bz := Bk.new (w.alloc (.cells #[.int .i64 dV, .slice A1 dR.length c1, .int .i64 dr] 24)) 24 #[.int .i64 0, .slice none 0 0, .int .i64 0]
  simp only [World.size_alloc, Nat.add_assoc, Nat.reduceAdd] at Bz
  have Kw : Keep NoF w ((w.alloc (.cells #[.int .i64 dV, .slice A1 dR.length c1, .int .i64 dr] 24)).alloc (.cells #[.int .i64 0, .slice none 0 0, .int .i64 0] 24)) := ((Keep.refl NoF w).alloc _).alloc _
  generalize (w.alloc (.cells #[.int .i64 dV, .slice A1 dR.length c1, .int .i64 dr] 24)).alloc (.cells #[.int .i64 0, .slice none 0 0, .int .i64 0] 24) = W0 at *
  have cr0 := Bd.cell 0
  have cr1 := Bd.cell 1
  have cr2 := Bd.cell 2
  go_wp2_with (go_at_call 27
               (with_reducible refine (HB.out _ Kw).mono ?_)
               rintro e wz ⟨rfl, KZ⟩
               have Bzn := Bz.keep KZ fun h => h
               have y0 := Bzn.cell 0
               have y1 := Bzn.cell 1
               have y2 := Bzn.cell 2
               have yf0 := Bzn.frozen 0
               have yf1 := Bzn.frozen 1
               have yf2 := Bzn.frozen 2)
  have s1 : Bk _ (w.heap.size + 1) 24 #[.int .i64 0, .slice none 0 0, .int .i64 0] := ((Bzn.put 0 (.int .i64 0)).put 1 (.slice none 0 0)).put 2 (.int .i64 0)
  have s3 := (Kw.trans KZ fun _ _ h => h).trans (keep_set3 wz (w.heap.size + 1) (.int .i64 0) (.slice none 0 0) (.int .i64 0)) fun k hk h => by omega
  generalize (((wz.setCell ⟨w.heap.size + 1, 0, none⟩ (.int .i64 0)).setCell ⟨w.heap.size + 1, 1, none⟩ (.slice none 0 0)).setCell ⟨w.heap.size + 1, 2, none⟩ (.int .i64 0)) = W6 at *
  have h0 := s1.cell 0
  have h1 := s1.cell 1
  have h2 := s1.cell 2
  refine bodyPost_ret (v := .tuple #[dgZero, .int .i64 T]) (by simp [results, Tryz.results6, go_sem, dgZero, h0, h1, h2]) rfl ?_
  exact ⟨rfl, s3⟩
theorem Converse_bad (d : Dg) (w : World) (hd : d.In w) (h : relE d ≠ 0) : Calls Tryz.prog 15 #[d.val] w fun e w' => e = .returned (.tuple #[dgZero, .int .i64 (relE d)]) ∧ Keep NoF w w' := by
  have HB0 := Lib.hid fun W (hK : Keep NoF w W) => relErr_any d W ⟨hd.1.kept hK fun _ _ h => h, hd.2⟩
  generalize relE d = T at *
  have hd1 := hd.1
  clear hd
  obtain ⟨dV, dR, dr, dsl⟩ := d
  simp only at hd1
  obtain ⟨_, A1, c1, rfl, _, _⟩ := hd1
  have HB : Hid (∀ W, Keep NoF w W → Calls Tryz.prog 41 #[.agg #[.int .i64 dV, .slice A1 dR.length c1, .int .i64 dr]] W fun e w' => e = .returned (.int .i64 T) ∧ Keep NoF W w') := Lib.hid HB0.out
  clear HB0
  have hE : (T != 0) = true := by rw [bne_iff_ne]; exact h
  show Calls Tryz.prog 15 #[.agg #[.int .i64 dV, .slice A1 dR.length c1, .int .i64 dr]] w _
  go_enter Tryz.func15, Tryz.ntmps15
  go_upto_region 1 with (fail)
  have Bd := (Bk.new w 24 #[.int .i64 dV, .slice A1 dR.length c1, .int .i64 dr]).alloc (.cells #[.int .i64 0, .slice none 0 0, .int .i64 0] 24)
  have Bz := Bk.new (w.alloc (.cells #[.int .i64 dV, .slice A1 dR.length c1, .int .i64 dr] 24)) 24 #[.int .i64 0, .slice none 0 0, .int .i64 0]
  simp only [World.size_alloc, Nat.add_assoc, Nat.reduceAdd] at Bz
  have Kw : Keep NoF w ((w.alloc (.cells #[.int .i64 dV, .slice A1 dR.length c1, .int .i64 dr] 24)).alloc (.cells #[.int .i64 0, .slice none 0 0, .int .i64 0] 24)) := ((Keep.refl NoF w).alloc _).alloc _
  generalize (w.alloc (.cells #[.int .i64 dV, .slice A1 dR.length c1, .int .i64 dr] 24)).alloc (.cells #[.int .i64 0, .slice none 0 0, .int .i64 0] 24) = W0 at *
  have cr0 := Bd.cell 0
  have cr1 := Bd.cell 1
  have cr2 := Bd.cell 2
  go_wp2_with (go_at_call 41
               (with_reducible refine (HB.out _ Kw).mono ?_)
               rintro e wz ⟨rfl, KZ⟩
               have Bzn := Bz.keep KZ fun h => h
               have y0 := Bzn.cell 0
               have y1 := Bzn.cell 1
               have y2 := Bzn.cell 2
               have yf0 := Bzn.frozen 0
               have yf1 := Bzn.frozen 1
               have yf2 := Bzn.frozen 2)
  have s1 : Bk _ (w.heap.size + 1) 24 #[.int .i64 0, .slice none 0 0, .int .i64 0] := ((Bzn.put 0 (.int .i64 0)).put 1 (.slice none 0 0)).put 2 (.int .i64 0)
  have s3 := (Kw.trans KZ fun _ _ h => h).trans (keep_set3 wz (w.heap.size + 1) (.int .i64 0) (.slice none 0 0) (.int .i64 0)) fun k hk h => by omega
  generalize (((wz.setCell ⟨w.heap.size + 1, 0, none⟩ (.int .i64 0)).setCell ⟨w.heap.size + 1, 1, none⟩ (.slice none 0 0)).setCell ⟨w.heap.size + 1, 2, none⟩ (.int .i64 0)) = W6 at *
  have h0 := s1.cell 0
  have h1 := s1.cell 1
  have h2 := s1.cell 2
  refine bodyPost_ret (v := .tuple #[dgZero, .int .i64 T]) (by simp [results, Tryz.results15, go_sem, dgZero, h0, h1, h2]) rfl ?_
  exact ⟨rfl, s3⟩
end
end Go.Proofs.YtgdmcidcappkpaaGreat
namespace Go.Proofs.YtgdmcidcappkpaaGreat
open Go.RowKit
open Dd (Rn rat ofN toN checkErr den lo var Within Valid supp canon imF prF boF odN evN upF dnF qf mapV)

section
set_option maxRecDepth 100000
set_option maxHeartbeats 4000000
theorem rtwo_any (d s : Dg) (w : World) (hd : d.In w) (hs : s.In w) : Calls Tryz.prog 33 #[d.val, s.val] w fun e w' => e = .returned (.int .i64 (pairE d s)) ∧ Keep NoF w w' := by
  have hrel := fun W (hK : Keep NoF w W) => rrelErr_any d W ⟨hd.1.kept hK fun _ _ h => h, hd.2⟩
  have hset := fun W (hK : Keep NoF w W) => rsetErr_any s W ⟨hs.1.kept hK fun _ _ h => h, hs.2⟩
  have hcs := pairE_cases d s
  generalize pairE d s = T at *
  generalize hrd : relE d = E1 at *
  generalize hrs : setE s = E2 at *
  clear hrd hrs
  have hd1 := hd.1
  have hs1 := hs.1
  clear hd hs
  obtain ⟨dV, dR, dr, dsl⟩ := d
  obtain ⟨sV, sR, sr, ssl⟩ := s
  simp only at hd1 hs1 hcs
  obtain ⟨_, A1, c1, rfl, _, _⟩ := hd1
  obtain ⟨_, A2, c2, rfl, _, _⟩ := hs1
  have HR : Hid (∀ W, Keep NoF w W → Calls Tryz.prog 43 #[.agg #[.int .i64 dV, .slice A1 dR.length c1, .int .i64 dr]] W fun e w' => e = .returned (.int .i64 E1) ∧ Keep NoF W w') := Lib.hid hrel
  have HS : Hid (∀ W, Keep NoF w W → Calls Tryz.prog 29 #[.agg #[.int .i64 sV, .slice A2 sR.length c2, .int .i64 sr]] W fun e w' => e = .returned (.int .i64 E2) ∧ Keep NoF W w') := Lib.hid hset
  clear hrel hset
  show Calls Tryz.prog 33 #[.agg #[.int .i64 dV, .slice A1 dR.length c1, .int .i64 dr], .agg #[.int .i64 sV, .slice A2 sR.length c2, .int .i64 sr]] w _
  have hkd : Keep NoF w ((w.alloc (.cells #[.int .i64 dV, .slice A1 dR.length c1, .int .i64 dr] 24)).alloc (.cells #[.int .i64 sV, .slice A2 sR.length c2, .int .i64 sr] 24)) := ((Keep.refl _ _).alloc _).alloc _
  have Bd := (Bk.new w 24 #[.int .i64 dV, .slice A1 dR.length c1, .int .i64 dr]).alloc (.cells #[.int .i64 sV, .slice A2 sR.length c2, .int .i64 sr] 24)
  have Bs := Bk.new (w.alloc (.cells #[.int .i64 dV, .slice A1 dR.length c1, .int .i64 dr] 24)) 24 #[.int .i64 sV, .slice A2 sR.length c2, .int .i64 sr]
  rw [World.size_alloc] at Bs
  rcases hcs with ⟨h1, rfl⟩ | ⟨rfl, h2, rfl⟩ | ⟨rfl, rfl, h3, rfl⟩ | ⟨rfl, rfl, rfl, rfl⟩
  · have hE : (T != 0) = true := by rw [bne_iff_ne]; exact h1
    go_enter Tryz.func33, Tryz.ntmps33
    go_wp2_with (go_at_call 43; (with_reducible refine (HR.out _ hkd).mono ?_); rintro e w1 ⟨rfl, hk1⟩)
    go_ret
    exact ⟨rfl, hkd.trans hk1 fun _ _ h => h⟩
  · have hE : (T != 0) = true := by rw [bne_iff_ne]; exact h2
    go_enter Tryz.func33, Tryz.ntmps33
    go_wp2_with (first
      | (go_at_call 43; (with_reducible refine (HR.out _ hkd).mono ?_); rintro e w1 ⟨rfl, hk1⟩; have kw1 := hkd.trans hk1 fun _ _ h => h; have b0 := (Bs.keep hk1 fun h => h).cell 0; have b1 := (Bs.keep hk1 fun h => h).cell 1; have b2 := (Bs.keep hk1 fun h => h).cell 2)
      | (go_at_call 29; (with_reducible refine (HS.out _ kw1).mono ?_); rintro e w2 ⟨rfl, hk2⟩))
    go_ret
    exact ⟨rfl, kw1.trans hk2 fun _ _ h => h⟩
  · have hE : (dV != sV) = true := by rw [bne_iff_ne]; exact fun h => h3 h.symm
    go_enter Tryz.func33, Tryz.ntmps33
    go_wp2_with (first
      | (go_at_call 43; (with_reducible refine (HR.out _ hkd).mono ?_); rintro e w1 ⟨rfl, hk1⟩; have kw1 := hkd.trans hk1 fun _ _ h => h; have b0 := (Bs.keep hk1 fun h => h).cell 0; have b1 := (Bs.keep hk1 fun h => h).cell 1; have b2 := (Bs.keep hk1 fun h => h).cell 2)
      | (go_at_call 29; (with_reducible refine (HS.out _ kw1).mono ?_); rintro e w2 ⟨rfl, hk2⟩; have x0 := ((Bs.keep hk1 fun h => h).keep hk2 fun h => h).cell 0; have y0 := ((Bd.keep hk1 fun h => h).keep hk2 fun h => h).cell 0))
    go_ret
    exact ⟨rfl, kw1.trans hk2 fun _ _ h => h⟩
  · go_enter Tryz.func33, Tryz.ntmps33
    go_wp2_with (first
      | (go_at_call 43; (with_reducible refine (HR.out _ hkd).mono ?_); rintro e w1 ⟨rfl, hk1⟩; have kw1 := hkd.trans hk1 fun _ _ h => h; have b0 := (Bs.keep hk1 fun h => h).cell 0; have b1 := (Bs.keep hk1 fun h => h).cell 1; have b2 := (Bs.keep hk1 fun h => h).cell 2)
      | (go_at_call 29; (with_reducible refine (HS.out _ kw1).mono ?_); rintro e w2 ⟨rfl, hk2⟩; have x0 := ((Bs.keep hk1 fun h => h).keep hk2 fun h => h).cell 0; have y0 := ((Bd.keep hk1 fun h => h).keep hk2 fun h => h).cell 0))
    go_ret
    exact ⟨rfl, kw1.trans hk2 fun _ _ h => h⟩
theorem rsetOk {f : BF} {V : Nat} {A : Option Addr} {n c r : Nat} {w : World} (D : IsD w V f A n c r) (he : V % 2 = 0) (hno : NoOdd f) : Calls Tryz.prog 29 #[.agg #[.int .i64 V, .slice A n c, .int .i64 r]] w fun e w' => e = .returned (.int .i64 0) ∧ Keep NoF w w' := by
  obtain ⟨d, e1, e2, e3, e4, e5, M, hd, hv, hM⟩ := D.dg
  have h := rsetErr_any d w e2
  rw [e1, dg_setE hd hv e3 he fun v hv ρ b => by rw [hM, hM, hno v hv]] at h
  exact h
theorem rrelOk {f : BF} {V : Nat} {A : Option Addr} {n c r : Nat} {w : World} (D : IsD w V f A n c r) (he : V % 2 = 0) : Calls Tryz.prog 43 #[.agg #[.int .i64 V, .slice A n c, .int .i64 r]] w fun e w' => e = .returned (.int .i64 0) ∧ Keep NoF w w' := by
  obtain ⟨d, e1, e2, e3, e4, e5, _⟩ := D.dg
  have h := rrelErr_any d w e2
  rw [e1, dg_relE e3 e4 he] at h
  exact h
theorem rtwoOk {f g : BF} {V : Nat} {A : Option Addr} {n c r : Nat} {B : Option Addr} {n' c' r' : Nat} {w : World} (he : V % 2 = 0) (hno : NoOdd g) (D : IsD w V f A n c r) (E : IsD w V g B n' c' r') : Calls Tryz.prog 33 #[.agg #[.int .i64 V, .slice A n c, .int .i64 r], .agg #[.int .i64 V, .slice B n' c', .int .i64 r']] w fun e w' => e = .returned (.int .i64 0) ∧ Keep NoF w w' := by
  obtain ⟨d, e1, e2, e3, e4, e5, _⟩ := D.dg
  obtain ⟨s, k1, k2, k3, k4, k5, M, hd, hv, hM⟩ := E.dg
  have hr := dg_relE e3 e4 he
  have hs := dg_setE hd hv k3 he fun v hv ρ b => by rw [hM, hM, hno v hv]
  have h := rtwo_any d s w e2 k2
  have ht : pairE d s = 0 := by
    unfold pairE
    rw [if_neg (by simp [hr]), if_neg (by simp [hs]), if_neg (by rw [e4, k4]; simp)]
  rw [e1, k1, ht] at h
  exact h
theorem rshift_dn {f : BF} {V : Nat} {A : Option Addr} {n c r : Nat} {w : World} (D : IsD w V (qf true (evN V).testBit f) A n c r) : Calls Tryz.prog 30 #[.agg #[.int .i64 V, .slice A n c, .int .i64 r], .int .i64 (-1)] w (DA w V (dnF V (qf true (evN V).testBit f))) := by
  obtain ⟨M, rfl, hR, hv, hf⟩ := D
  have hvar : ∀ i, 2 ≤ i → i < M.length + 2 → var M i < V ∧ var M i % 2 = 1 := fun i h2 hi => ⟨hv.bound i h2 hi, by
    rcases Nat.mod_two_eq_zero_or_one (var M i) with h | h
    · exact absurd rfl (Dd.valid_free hv (v := var M i) (fun ρ b => by rw [hf, hf]; exact Dd.qf_free (V := V) f (by rw [Dd.evN_bit, decide_eq_true (hv.bound i h2 hi), decide_eq_true h]; rfl) ρ b) i h2 hi)
    · exact h⟩
  obtain ⟨g1, g2⟩ := Dd.dn_law hv hf
  refine (rshift_raw M (· - 1) (-1) hv.len (fun x hx => ?_) (.inr rfl) V r A c w hR).mono ?_
  · obtain ⟨i, h2, hi, e⟩ := Dd.node_var hx
    have := hvar i h2 hi
    have := hv.vars
    omega
  · rintro e w' ⟨A', c', rfl, hR', hk⟩
    refine ⟨A', M.length, c', r, rfl, ⟨mapV (· - 1) M, Dd.mapV_len.symm, hR', g1, fun ρ => ?_⟩, hk⟩
    rw [g2]
    unfold dnF
    rw [hf]
theorem rPrime_ok {f : BF} {V : Nat} (he : V % 2 = 0) (hno : NoOdd f) (A1 : Option Addr) (n1 c1 r1 : Nat) (w : World) (D1 : IsD w V f A1 n1 c1 r1) : Calls Tryz.prog 7 #[.agg #[.int .i64 V, .slice A1 n1 c1, .int .i64 r1]] w (DP w V (upF V f)) := by
  go_enter Tryz.func7, Tryz.ntmps7
  go_upto_region 1 with (fail)
  have Bs := Bk.new w 24 #[.int .i64 V, .slice A1 n1 c1, .int .i64 r1]
  have Bs := (Bs.alloc (.cells #[.int .i64 0, .slice none 0 0, .int .i64 0] 24))
  have Bres := Bk.new (w.alloc (.cells #[.int .i64 V, .slice A1 n1 c1, .int .i64 r1] 24)) 24 #[.int .i64 0, .slice none 0 0, .int .i64 0]
  simp only [World.size_alloc, Nat.add_assoc, Nat.reduceAdd] at Bres
  have Kw : Keep NoF w ((w.alloc (.cells #[.int .i64 V, .slice A1 n1 c1, .int .i64 r1] 24)).alloc (.cells #[.int .i64 0, .slice none 0 0, .int .i64 0] 24)) := (((Keep.refl NoF w).alloc _).alloc _)
  have Qs := D1.keep Kw
  generalize ((w.alloc (.cells #[.int .i64 V, .slice A1 n1 c1, .int .i64 r1] 24)).alloc (.cells #[.int .i64 0, .slice none 0 0, .int .i64 0] 24)) = W0 at *
  have HS := Lib.hid (rsetOk Qs he hno)
  have cs0 : W0.cell? ⟨w.heap.size, 0, none⟩ = some (.int .i64 V) := Bs.cell 0
  have cs1 : W0.cell? ⟨w.heap.size, 1, none⟩ = some (.slice A1 n1 c1) := Bs.cell 1
  have cs2 : W0.cell? ⟨w.heap.size, 2, none⟩ = some (.int .i64 r1) := Bs.cell 2
  go_upto_region 4 with (first
                         | (go_at_call 29
                            (with_reducible refine (HS.out).mono ?_)
                            rintro e p1 ⟨rfl, p1Z⟩
                            have p1K : Keep NoF W0 p1 := (Keep.refl NoF W0).trans p1Z fun _ _ h => h)
                         | fail)
  clear cs0 cs1 cs2
  have Bs_1 := Bs.keep p1K fun h => h
  have Qs_1 := Qs.keep p1K
  have Bres_1 := Bres.keep p1K fun h => h
  have Kw_1 := Kw.trans p1K fun _ _ h => h
  clear Kw p1K p1Z Bs Qs Bres
  have HSH := Lib.hid (rshift_up he hno Qs_1)
  have cs0 : p1.cell? ⟨w.heap.size, 0, none⟩ = some (.int .i64 V) := Bs_1.cell 0
  have cs1 : p1.cell? ⟨w.heap.size, 1, none⟩ = some (.slice A1 n1 c1) := Bs_1.cell 1
  have cs2 : p1.cell? ⟨w.heap.size, 2, none⟩ = some (.int .i64 r1) := Bs_1.cell 2
  go_wp2_with (go_at_call 30
               (with_reducible refine (HSH.out).mono ?_)
               rintro e w3 ⟨A3, n3, c3, r3, rfl, D3, K3⟩
               have Bsn := Bs_1.keep K3 fun h => h
               have Lsn := Bsn.lt
               have Bresn := Bres_1.keep K3 fun h => h
               have Lresn := Bresn.lt
               have y0 : w3.cell? ⟨w.heap.size + 1, 0, none⟩ = some (.int .i64 0) := Bresn.cell 0
               have y1 : w3.cell? ⟨w.heap.size + 1, 1, none⟩ = some (.slice none 0 0) := Bresn.cell 1
               have y2 : w3.cell? ⟨w.heap.size + 1, 2, none⟩ = some (.int .i64 0) := Bresn.cell 2
               have yf0 := Bresn.frozen 0
               have yf1 := Bresn.frozen 1
               have yf2 := Bresn.frozen 2)
  clear cs0 cs1 cs2
  obtain ⟨Bres_2, Qres_2, S3⟩ := set3_box Bresn sl_nint D3
  have Bs_2 := Bsn.keep S3 fun h => by omega
  have Qs_2 := (Qs_1.keep K3).far_box Bresn sl_nint S3
  have Kw_2 : Keep NoF w (((w3.setCell ⟨w.heap.size + 1, 0, none⟩ (.int .i64 V)).setCell ⟨w.heap.size + 1, 1, none⟩ (.slice A3 n3 c3)).setCell ⟨w.heap.size + 1, 2, none⟩ (.int .i64 r3)) := (Kw_1.trans K3 fun _ _ h => h).trans S3 fun i hi h => by omega
  generalize (((w3.setCell ⟨w.heap.size + 1, 0, none⟩ (.int .i64 V)).setCell ⟨w.heap.size + 1, 1, none⟩ (.slice A3 n3 c3)).setCell ⟨w.heap.size + 1, 2, none⟩ (.int .i64 r3)) = W2 at *
  clear Bs_1 Bres_1 Qs_1 Bsn Bresn Kw_1 D3 K3 S3 y0 y1 y2 yf0 yf1 yf2
  have h0 : W2.cell? ⟨w.heap.size + 1, 0, none⟩ = some (.int .i64 V) := Bres_2.cell 0
  have h1 : W2.cell? ⟨w.heap.size + 1, 1, none⟩ = some (.slice A3 n3 c3) := Bres_2.cell 1
  have h2 : W2.cell? ⟨w.heap.size + 1, 2, none⟩ = some (.int .i64 r3) := Bres_2.cell 2
  refine bodyPost_ret (v := .tuple #[.agg #[.int .i64 V, .slice A3 n3 c3, .int .i64 r3], .int .i64 0]) (by simp [results, Tryz.results7, go_sem, h0, h1, h2]) rfl ?_
  exact ⟨A3, n3, c3, r3, rfl, Qres_2, Kw_2⟩
theorem rImage_ok {f g : BF} {V : Nat} (hV : V ≤ 12) (he : V % 2 = 0) (hno : NoOdd g) (A1 : Option Addr) (n1 c1 r1 : Nat) (A2 : Option Addr) (n2 c2 r2 : Nat) (w : World) (D1 : IsD w V f A1 n1 c1 r1) (D2 : IsD w V g A2 n2 c2 r2) : Calls Tryz.prog 10 #[.agg #[.int .i64 V, .slice A1 n1 c1, .int .i64 r1], .agg #[.int .i64 V, .slice A2 n2 c2, .int .i64 r2]] w (DP w V (imF V f g)) := by
  go_enter Tryz.func10, Tryz.ntmps10
  go_upto_region 1 with (fail)
  have Br := Bk.new w 24 #[.int .i64 V, .slice A1 n1 c1, .int .i64 r1]
  have Br := ((Br.alloc (.cells #[.int .i64 V, .slice A2 n2 c2, .int .i64 r2] 24)).alloc (.cells #[.int .i64 0, .slice none 0 0, .int .i64 0] 24))
  have Bs := Bk.new (w.alloc (.cells #[.int .i64 V, .slice A1 n1 c1, .int .i64 r1] 24)) 24 #[.int .i64 V, .slice A2 n2 c2, .int .i64 r2]
  simp only [World.size_alloc, Nat.add_assoc, Nat.reduceAdd] at Bs
  have Bs := (Bs.alloc (.cells #[.int .i64 0, .slice none 0 0, .int .i64 0] 24))
  have Bres := Bk.new ((w.alloc (.cells #[.int .i64 V, .slice A1 n1 c1, .int .i64 r1] 24)).alloc (.cells #[.int .i64 V, .slice A2 n2 c2, .int .i64 r2] 24)) 24 #[.int .i64 0, .slice none 0 0, .int .i64 0]
  simp only [World.size_alloc, Nat.add_assoc, Nat.reduceAdd] at Bres
  have Kw : Keep NoF w (((w.alloc (.cells #[.int .i64 V, .slice A1 n1 c1, .int .i64 r1] 24)).alloc (.cells #[.int .i64 V, .slice A2 n2 c2, .int .i64 r2] 24)).alloc (.cells #[.int .i64 0, .slice none 0 0, .int .i64 0] 24)) := ((((Keep.refl NoF w).alloc _).alloc _).alloc _)
  have Qr := D1.keep Kw
  have Qs := D2.keep Kw
  generalize (((w.alloc (.cells #[.int .i64 V, .slice A1 n1 c1, .int .i64 r1] 24)).alloc (.cells #[.int .i64 V, .slice A2 n2 c2, .int .i64 r2] 24)).alloc (.cells #[.int .i64 0, .slice none 0 0, .int .i64 0] 24)) = W0 at *
  have HT := Lib.hid (rtwoOk he hno Qr Qs)
  have cr0 : W0.cell? ⟨w.heap.size, 0, none⟩ = some (.int .i64 V) := Br.cell 0
  have cr1 : W0.cell? ⟨w.heap.size, 1, none⟩ = some (.slice A1 n1 c1) := Br.cell 1
  have cr2 : W0.cell? ⟨w.heap.size, 2, none⟩ = some (.int .i64 r1) := Br.cell 2
  have cs0 : W0.cell? ⟨w.heap.size + 1, 0, none⟩ = some (.int .i64 V) := Bs.cell 0
  have cs1 : W0.cell? ⟨w.heap.size + 1, 1, none⟩ = some (.slice A2 n2 c2) := Bs.cell 1
  have cs2 : W0.cell? ⟨w.heap.size + 1, 2, none⟩ = some (.int .i64 r2) := Bs.cell 2
  go_upto_region 4 with (first
                         | (go_at_call 33
                            (with_reducible refine (HT.out).mono ?_)
                            rintro e p1 ⟨rfl, p1Z⟩
                            have p1K : Keep NoF W0 p1 := (Keep.refl NoF W0).trans p1Z fun _ _ h => h)
                         | fail)
  clear cr0 cr1 cr2 cs0 cs1 cs2
  have Br_1 := Br.keep p1K fun h => h
  have Qr_1 := Qr.keep p1K
  have Bs_1 := Bs.keep p1K fun h => h
  have Qs_1 := Qs.keep p1K
  have Bres_1 := Bres.keep p1K fun h => h
  have Kw_1 := Kw.trans p1K fun _ _ h => h
  clear Kw p1K p1Z Br Qr Bs Qs Bres
  have HA := Lib.hid (rd_and hV Qr_1 Qs_1)
  have cr0 : p1.cell? ⟨w.heap.size, 0, none⟩ = some (.int .i64 V) := Br_1.cell 0
  have cr1 : p1.cell? ⟨w.heap.size, 1, none⟩ = some (.slice A1 n1 c1) := Br_1.cell 1
  have cr2 : p1.cell? ⟨w.heap.size, 2, none⟩ = some (.int .i64 r1) := Br_1.cell 2
  have cs0 : p1.cell? ⟨w.heap.size + 1, 0, none⟩ = some (.int .i64 V) := Bs_1.cell 0
  have cs1 : p1.cell? ⟨w.heap.size + 1, 1, none⟩ = some (.slice A2 n2 c2) := Bs_1.cell 1
  have cs2 : p1.cell? ⟨w.heap.size + 1, 2, none⟩ = some (.int .i64 r2) := Bs_1.cell 2
  go_upto_region 7 with (go_at_call 34
                         (with_reducible refine (HA.out).mono ?_)
                         rintro e w3 ⟨A3, n3, c3, r3, rfl, D3, K3⟩
                         have Brn := Br_1.keep K3 fun h => h
                         have Lrn := Brn.lt
                         have Bsn := Bs_1.keep K3 fun h => h
                         have Lsn := Bsn.lt
                         have Bresn := Bres_1.keep K3 fun h => h
                         have Lresn := Bresn.lt)
  clear cr0 cr1 cr2 cs0 cs1 cs2
  have Br_2 := Brn.alloc (.cells #[.int .i64 V, .slice A3 n3 c3, .int .i64 r3] 24)
  have Qr_2 := (Qr_1.keep K3).keep ((Keep.refl NoF w3).alloc (.cells #[.int .i64 V, .slice A3 n3 c3, .int .i64 r3] 24))
  have Bs_2 := Bsn.alloc (.cells #[.int .i64 V, .slice A3 n3 c3, .int .i64 r3] 24)
  have Qs_2 := (Qs_1.keep K3).keep ((Keep.refl NoF w3).alloc (.cells #[.int .i64 V, .slice A3 n3 c3, .int .i64 r3] 24))
  have Bres_2 := Bresn.alloc (.cells #[.int .i64 V, .slice A3 n3 c3, .int .i64 r3] 24)
  have Bd_2 := Bk.new w3 24 #[.int .i64 V, .slice A3 n3 c3, .int .i64 r3]
  have Qd_2 := D3.keep ((Keep.refl NoF w3).alloc (.cells #[.int .i64 V, .slice A3 n3 c3, .int .i64 r3] 24))
  have Kw_2 : Keep NoF w (w3.alloc (.cells #[.int .i64 V, .slice A3 n3 c3, .int .i64 r3] 24)) := (Kw_1.trans K3 fun _ _ h => h).alloc _
  have Gd_2 : w.heap.size ≤ w3.heap.size := (Kw_1.trans K3 fun _ _ h => h).size
  generalize w3.alloc (.cells #[.int .i64 V, .slice A3 n3 c3, .int .i64 r3] 24) = W2 at *
  clear Br_1 Bs_1 Bres_1 Qr_1 Qs_1 Brn Bsn Bresn Kw_1 D3 K3
  have HEX := Lib.hid fun W (hk : Keep NoF W2 W) => rd_exists (evN_lt V) hV (Qd_2.keep hk)
  have HEV := Lib.hid fun W => reven_any V (by omega) W
  have cr0 : W2.cell? ⟨w.heap.size, 0, none⟩ = some (.int .i64 V) := Br_2.cell 0
  have cr1 : W2.cell? ⟨w.heap.size, 1, none⟩ = some (.slice A1 n1 c1) := Br_2.cell 1
  have cr2 : W2.cell? ⟨w.heap.size, 2, none⟩ = some (.int .i64 r1) := Br_2.cell 2
  have cd0 : W2.cell? ⟨w3.heap.size, 0, none⟩ = some (.int .i64 V) := Bd_2.cell 0
  have cd1 : W2.cell? ⟨w3.heap.size, 1, none⟩ = some (.slice A3 n3 c3) := Bd_2.cell 1
  have cd2 : W2.cell? ⟨w3.heap.size, 2, none⟩ = some (.int .i64 r3) := Bd_2.cell 2
  have er0 : W2.drew.cell? ⟨w.heap.size, 0, none⟩ = some (.int .i64 V) := cr0
  go_region_with (first
      | (go_at_call 36
         (with_reducible refine (HEV.out _).mono ?_)
         rintro e w' ⟨rfl, hw'⟩
         obtain rfl := hw'.symm)
      | (go_at_call 35
         (with_reducible refine (HEX.out _ (Keep.refl NoF W2).drew).mono ?_)
         rintro e w4 ⟨A4, n4, c4, r4, rfl, D4, K4'⟩
         have K4 : Keep NoF W2 w4 := (Keep.refl NoF W2).drew.trans K4' fun _ _ h => h
         have er1 : w4.cell? ⟨w.heap.size, 0, none⟩ = some (.int .i64 V) := (Br_2.keep K4 fun h => h).cell 0
         have Brn := Br_2.keep K4 fun h => h
         have Lrn := Brn.lt
         have Bsn := Bs_2.keep K4 fun h => h
         have Lsn := Bsn.lt
         have Bresn := Bres_2.keep K4 fun h => h
         have Lresn := Bresn.lt
         have Bdn := Bd_2.keep K4 fun h => h
         have Ldn := Bdn.lt
         have y0 : w4.cell? ⟨w3.heap.size, 0, none⟩ = some (.int .i64 V) := Bdn.cell 0
         have y1 : w4.cell? ⟨w3.heap.size, 1, none⟩ = some (.slice A3 n3 c3) := Bdn.cell 1
         have y2 : w4.cell? ⟨w3.heap.size, 2, none⟩ = some (.int .i64 r3) := Bdn.cell 2
         have yf0 := Bdn.frozen 0
         have yf1 := Bdn.frozen 1
         have yf2 := Bdn.frozen 2))
  all_goals
    clear er0 er1
    clear cr0 cr1 cr2 cd0 cd1 cd2
    obtain ⟨Bd_3, Qd_3, S3⟩ := set3_box Bdn sl_nint D4
    have Br_3 := Brn.keep S3 fun h => by omega
    have Qr_3 := (Qr_2.keep K4).far_box Bdn sl_nint S3
    have Bs_3 := Bsn.keep S3 fun h => by omega
    have Qs_3 := (Qs_2.keep K4).far_box Bdn sl_nint S3
    have Bres_3 := Bresn.keep S3 fun h => by omega
    have Kw_3 : Keep NoF w (((w4.setCell ⟨w3.heap.size, 0, none⟩ (.int .i64 V)).setCell ⟨w3.heap.size, 1, none⟩ (.slice A4 n4 c4)).setCell ⟨w3.heap.size, 2, none⟩ (.int .i64 r4)) := (Kw_2.trans K4 fun _ _ h => h).trans S3 fun i hi h => by omega
    generalize (((w4.setCell ⟨w3.heap.size, 0, none⟩ (.int .i64 V)).setCell ⟨w3.heap.size, 1, none⟩ (.slice A4 n4 c4)).setCell ⟨w3.heap.size, 2, none⟩ (.int .i64 r4)) = W3 at *
    clear Br_2 Bs_2 Bres_2 Bd_2 Qr_2 Qs_2 Qd_2 Brn Bsn Bresn Bdn Kw_2 D4 K4 S3 y0 y1 y2 yf0 yf1 yf2
    have HSH := Lib.hid (rshift_dn Qd_3)
    have cr0 : W3.cell? ⟨w.heap.size, 0, none⟩ = some (.int .i64 V) := Br_3.cell 0
    have cr1 : W3.cell? ⟨w.heap.size, 1, none⟩ = some (.slice A1 n1 c1) := Br_3.cell 1
    have cr2 : W3.cell? ⟨w.heap.size, 2, none⟩ = some (.int .i64 r1) := Br_3.cell 2
    have cs0 : W3.cell? ⟨w.heap.size + 1, 0, none⟩ = some (.int .i64 V) := Bs_3.cell 0
    have cs1 : W3.cell? ⟨w.heap.size + 1, 1, none⟩ = some (.slice A2 n2 c2) := Bs_3.cell 1
    have cs2 : W3.cell? ⟨w.heap.size + 1, 2, none⟩ = some (.int .i64 r2) := Bs_3.cell 2
    have cd0 : W3.cell? ⟨w3.heap.size, 0, none⟩ = some (.int .i64 V) := Bd_3.cell 0
    have cd1 : W3.cell? ⟨w3.heap.size, 1, none⟩ = some (.slice A4 n4 c4) := Bd_3.cell 1
    have cd2 : W3.cell? ⟨w3.heap.size, 2, none⟩ = some (.int .i64 r4) := Bd_3.cell 2
    go_wp2_with (go_at_call 30
                 (with_reducible refine (HSH.out).mono ?_)
                 rintro e w5 ⟨A5, n5, c5, r5, rfl, D5, K5⟩
                 have Brn := Br_3.keep K5 fun h => h
                 have Lrn := Brn.lt
                 have Bsn := Bs_3.keep K5 fun h => h
                 have Lsn := Bsn.lt
                 have Bresn := Bres_3.keep K5 fun h => h
                 have Lresn := Bresn.lt
                 have Bdn := Bd_3.keep K5 fun h => h
                 have Ldn := Bdn.lt
                 have y0 : w5.cell? ⟨w.heap.size + 2, 0, none⟩ = some (.int .i64 0) := Bresn.cell 0
                 have y1 : w5.cell? ⟨w.heap.size + 2, 1, none⟩ = some (.slice none 0 0) := Bresn.cell 1
                 have y2 : w5.cell? ⟨w.heap.size + 2, 2, none⟩ = some (.int .i64 0) := Bresn.cell 2
                 have yf0 := Bresn.frozen 0
                 have yf1 := Bresn.frozen 1
                 have yf2 := Bresn.frozen 2)
    clear cr0 cr1 cr2 cs0 cs1 cs2 cd0 cd1 cd2
    obtain ⟨Bres_4, Qres_4, S3⟩ := set3_box Bresn sl_nint D5
    have Br_4 := Brn.keep S3 fun h => by omega
    have Qr_4 := (Qr_3.keep K5).far_box Bresn sl_nint S3
    have Bs_4 := Bsn.keep S3 fun h => by omega
    have Qs_4 := (Qs_3.keep K5).far_box Bresn sl_nint S3
    have Bd_4 := Bdn.keep S3 fun h => by omega
    have Qd_4 := (Qd_3.keep K5).far_box Bresn sl_nint S3
    have Kw_4 : Keep NoF w (((w5.setCell ⟨w.heap.size + 2, 0, none⟩ (.int .i64 V)).setCell ⟨w.heap.size + 2, 1, none⟩ (.slice A5 n5 c5)).setCell ⟨w.heap.size + 2, 2, none⟩ (.int .i64 r5)) := (Kw_3.trans K5 fun _ _ h => h).trans S3 fun i hi h => by omega
    generalize (((w5.setCell ⟨w.heap.size + 2, 0, none⟩ (.int .i64 V)).setCell ⟨w.heap.size + 2, 1, none⟩ (.slice A5 n5 c5)).setCell ⟨w.heap.size + 2, 2, none⟩ (.int .i64 r5)) = W4 at *
    clear Br_3 Bs_3 Bres_3 Bd_3 Qr_3 Qs_3 Qd_3 Brn Bsn Bresn Bdn Kw_3 D5 K5 S3 y0 y1 y2 yf0 yf1 yf2
    have h0 : W4.cell? ⟨w.heap.size + 2, 0, none⟩ = some (.int .i64 V) := Bres_4.cell 0
    have h1 : W4.cell? ⟨w.heap.size + 2, 1, none⟩ = some (.slice A5 n5 c5) := Bres_4.cell 1
    have h2 : W4.cell? ⟨w.heap.size + 2, 2, none⟩ = some (.int .i64 r5) := Bres_4.cell 2
    refine bodyPost_ret (v := .tuple #[.agg #[.int .i64 V, .slice A5 n5 c5, .int .i64 r5], .int .i64 0]) (by simp [results, Tryz.results10, go_sem, h0, h1, h2]) rfl ?_
    exact ⟨A5, n5, c5, r5, rfl, Qres_4, Kw_4⟩
end
end Go.Proofs.YtgdmcidcappkpaaGreat
