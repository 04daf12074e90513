/- The signature with the usual names: what the program's Default does where the numbers are in range. No condition. -/
import Derived.Test.YtcmoocemfnjkiaaDoorSgD1
import Derived.Deep.RegionLaw
set_option linter.unusedVariables false
set_option linter.unusedSimpArgs false
namespace Go.Proofs.YtcmoocemfnjkiaaDoor
open Go.RowKit

theorem ag_at {k : Nat} (h : k < 4) : agN.take (k + 1) = agN.take k ++ [(⟨#[97, 98, 99, 100]⟩ : ByteArray).extract k (k + 1)] := by
  have h' : ∀ k : Fin 4, agN.take (k.val + 1) = agN.take k.val ++ [(⟨#[97, 98, 99, 100]⟩ : ByteArray).extract k.val (k.val + 1)] := by decide +kernel
  exact h' ⟨k, h⟩
theorem fa_at {k : Nat} (h : k < 8) : faN.take (k + 1) = faN.take k ++ [(⟨#[112, 113, 114, 115, 116, 117, 118, 119]⟩ : ByteArray).extract k (k + 1)] := by
  have h' : ∀ k : Fin 8, faN.take (k.val + 1) = faN.take k.val ++ [(⟨#[112, 113, 114, 115, 116, 117, 118, 119]⟩ : ByteArray).extract k.val (k.val + 1)] := by decide +kernel
  exact h' ⟨k, h⟩
section
set_option maxRecDepth 100000
set_option maxHeartbeats 2000000
theorem Default_ok (na nf nc : Nat) (w : World) (la : na ≤ 4) (lf : nf ≤ 8) (lc : nc ≤ 8) : Calls Tryd.prog 18 #[.int .i64 na, .int .i64 nf, .int .i64 nc] w fun e w' => ∃ v, e = .returned (.tuple #[v, .int .i64 0]) ∧ SigNew w ⟨agN.take na, faN.take nf, acN.take nc⟩ v w' := by
  go_enter Tryd.func18, Tryd.ntmps18
  go_wp2
  have hW0 : Keep NoF w ((w.alloc (.cells #[.slice none 0 0, .slice none 0 0, .slice none 0 0] 24)).alloc (.cells #[.slice none 0 0, .slice none 0 0, .slice none 0 0] 24)) := ((Keep.refl _ _).alloc _).alloc _
  have hB0 : Bk ((w.alloc (.cells #[.slice none 0 0, .slice none 0 0, .slice none 0 0] 24)).alloc (.cells #[.slice none 0 0, .slice none 0 0, .slice none 0 0] 24)) w.heap.size 24 #[.slice none 0 0, .slice none 0 0, .slice none 0 0] := (Bk.new w _ _).alloc _
  have hB1 := Bk.new (w.alloc (.cells #[.slice none 0 0, .slice none 0 0, .slice none 0 0] 24)) 24 #[.slice none 0 0, .slice none 0 0, .slice none 0 0]
  have hz0 : ((w.alloc (.cells #[.slice none 0 0, .slice none 0 0, .slice none 0 0] 24)).alloc (.cells #[.slice none 0 0, .slice none 0 0, .slice none 0 0] 24)).heap.size = w.heap.size + 2 := by simp
  rw [World.size_alloc] at hB1
  generalize (w.alloc (.cells #[.slice none 0 0, .slice none 0 0, .slice none 0 0] 24)).alloc (.cells #[.slice none 0 0, .slice none 0 0, .slice none 0 0] 24) = w0 at *
  have HZ0 := Lib.hid hz0
  have hT0 := hB0
  have hz00 : w.heap.size + 2 ≤ w0.heap.size := by omega
  clear hz0
  go_loopw [36] (fun i wr => ∃ (k : Nat) (p : List ByteArray) (v : Value), i = .int .i64 k ∧ k ≤ na ∧ Hid (p = agN.take k) ∧ Hid (p.length = k) ∧ wr.ownsRow w0.heap.size 9 1 v k (strs p) ∧ Bk wr (w.heap.size + 1) 24 #[v, .slice none 0 0, .slice none 0 0] ∧ Keep (fun x => x = w.heap.size + 1) w0 wr) (fun i _ => na - (intOf i).toNat)
  case atStart => exact ⟨0, [], .slice none 0 0, rfl, by omega, Lib.hid rfl, Lib.hid rfl, World.ownsRow_nil _ _ _ _, hB1, Keep.refl _ _⟩
  case round =>
    obtain ⟨k, p, v, rfl, hk, hp, hpl, hown, hb, hkr⟩ := hrel
    have hz := hkr.size
    have hvb : v.ownBlock ≠ some (w.heap.size + 1) := fun he => by have := (hown.lt _ he).1; omega
    have c0 : wr.cell? ⟨w.heap.size + 1, 0, none⟩ = some v := (hb.cell 0).trans rfl
    by_cases hlt : k < na
    · have HX := Lib.hid (ag_at (show k < 4 by omega))
      have hwk : IntKind.i64.wrap ((k : Int) + 1) = (k : Int) + 1 := by rw [IntWalk.i64_in _ (by omega)]
      have hk0 : 0 ≤ (k : Int) + 1 := by omega
      have hk4 : (k : Int) + 1 ≤ 4 := by omega
      have ca : (wr.alloc (.cells #[.string ((⟨#[97, 98, 99, 100]⟩ : ByteArray).extract k (k + 1))] 9)).cell? ⟨w.heap.size + 1, 0, none⟩ = some v := ((hb.alloc _).cell 0).trans rfl
      have hkk : (k : Int) ≤ (k : Int) + 1 := by omega
      have hkt : ((k : Int) + 1).toNat = k + 1 := by omega
      go_wp2
      go_region_law
        ((refine step_app (by rfl) eStrs (.tmp 40) (.tmp 45) (by rfl) (by rfl) ((hown.alloc _).drew) ⟨wr.heap.size, 0, none⟩ 1 1 [.string ((⟨#[97, 98, 99, 100]⟩ : ByteArray).extract k (k + 1))] (by rfl) (by rfl)
            (World.news_of_block (cs := #[.string ((⟨#[97, 98, 99, 100]⟩ : ByteArray).extract k (k + 1))]) (t := 9) (fr := (0, 0)) (heap_alloc_new wr _)) (by simp [Value.oneCell']) (by omega) (by omega) (by omega) (by simp; omega) ?_; intro g4 cap4 w4 hown4 hA4
          have hb4 : Bk w4 (w.heap.size + 1) 24 #[v, .slice none 0 0, .slice none 0 0] := Bk.grown (Bk.drew (Bk.alloc hb _)) hA4.grown (Ne.symm hvb)
          have d4 : w4.cell? ⟨w.heap.size + 1, 0, none⟩ = some v := (hb4.cell 0).trans rfl
          have f4 : w4.frozen? ⟨w.heap.size + 1, 0, none⟩ = false := hb4.frozen 0))
      all_goals
        go_wp2
        go_roundw
        case rel =>
          have hg4 := (hown4.lt g4 rfl).1
          refine ⟨k + 1, p ++ [(⟨#[97, 98, 99, 100]⟩ : ByteArray).extract k (k + 1)], .slice (some ⟨g4, 0, none⟩) (k + 1) cap4, by go_num, by omega, Lib.hid (by rw [HX.out, hp.out]), Lib.hid (by rw [List.length_append, hpl.out]; rfl), ?_, hb4.put 0 _, ?_⟩
          · rw [← strs_snoc]
            exact own_keep hown4 fun x hx => Below.heap_setCell _ _ _ _ (by
              have hx2 : g4 = x := by simpa [Value.ownBlock] using hx
              subst hx2
              show g4 ≠ w.heap.size + 1
              omega)
          · exact (((hkr.alloc _).drew).grown hA4.grown fun x hx => .inr (hown.lt x hx).1).setCell (.inl rfl) _
        case measure => simp only [intOf]; omega
    · obtain rfl : na = k := by omega
      obtain ⟨A0, q0, rfl⟩ := own_form hown
      have h0 : Rd wr (.slice A0 na q0) 1 na (strs (agN.take na)) ∧ Hid ((agN.take na).length = na) := ⟨by rw [← hp.out]; exact Rd.of_own hown, Lib.hid (by rw [← hp.out]; exact hpl.out)⟩
      have hU0 : ∀ x, (Value.slice A0 na q0).ownBlock = some x → w.heap.size + 2 ≤ x := fun x hx => by have := (hown.lt x hx).1; omega
      have hT1 := hT0.keep hkr (by omega)
      have hR01 : Rd wr (.slice A0 na q0) 1 na (strs (agN.take na)) := h0.1
      have hK1 : Keep NoF w wr := hW0.trans hkr fun i hi h => by omega
      obtain ⟨w1, rfl⟩ : ∃ q : World, q = wr := ⟨_, rfl⟩
      have hB2 := hb
      clear hp hpl hkr hb c0
      go_wp2
      go_loopw [50] (fun i wr => ∃ (k : Nat) (p : List ByteArray) (v : Value), i = .int .i64 k ∧ k ≤ nf ∧ Hid (p = faN.take k) ∧ Hid (p.length = k) ∧ wr.ownsRow w1.heap.size 9 1 v k (strs p) ∧ Bk wr (w.heap.size + 1) 24 #[.slice A0 na q0, v, .slice none 0 0] ∧ Keep (fun x => x = w.heap.size + 1) w1 wr) (fun i _ => nf - (intOf i).toNat)
      case atStart => exact ⟨0, [], .slice none 0 0, rfl, by omega, Lib.hid rfl, Lib.hid rfl, World.ownsRow_nil _ _ _ _, hB2, Keep.refl _ _⟩
      case round =>
        obtain ⟨k, p, v, rfl, hk, hp, hpl, hown, hb, hkr⟩ := hrel
        have hz := hkr.size
        have hvb : v.ownBlock ≠ some (w.heap.size + 1) := fun he => by have := (hown.lt _ he).1; omega
        have c1 : wr.cell? ⟨w.heap.size + 1, 1, none⟩ = some v := (hb.cell 1).trans rfl
        by_cases hlt : k < nf
        · have HX := Lib.hid (fa_at (show k < 8 by omega))
          have hwk : IntKind.i64.wrap ((k : Int) + 1) = (k : Int) + 1 := by rw [IntWalk.i64_in _ (by omega)]
          have hk0 : 0 ≤ (k : Int) + 1 := by omega
          have hk4 : (k : Int) + 1 ≤ 8 := by omega
          have ca : (wr.alloc (.cells #[.string ((⟨#[112, 113, 114, 115, 116, 117, 118, 119]⟩ : ByteArray).extract k (k + 1))] 9)).cell? ⟨w.heap.size + 1, 1, none⟩ = some v := ((hb.alloc _).cell 1).trans rfl
          have hkk : (k : Int) ≤ (k : Int) + 1 := by omega
          have hkt : ((k : Int) + 1).toNat = k + 1 := by omega
          go_wp2
          go_region_law
            ((refine step_app (by rfl) eStrs (.tmp 54) (.tmp 59) (by rfl) (by rfl) ((hown.alloc _).drew) ⟨wr.heap.size, 0, none⟩ 1 1 [.string ((⟨#[112, 113, 114, 115, 116, 117, 118, 119]⟩ : ByteArray).extract k (k + 1))] (by rfl) (by rfl)
                (World.news_of_block (cs := #[.string ((⟨#[112, 113, 114, 115, 116, 117, 118, 119]⟩ : ByteArray).extract k (k + 1))]) (t := 9) (fr := (0, 0)) (heap_alloc_new wr _)) (by simp [Value.oneCell']) (by omega) (by omega) (by omega) (by simp; omega) ?_; intro g4 cap4 w4 hown4 hA4
              have hb4 : Bk w4 (w.heap.size + 1) 24 #[.slice A0 na q0, v, .slice none 0 0] := Bk.grown (Bk.drew (Bk.alloc hb _)) hA4.grown (Ne.symm hvb)
              have d4 : w4.cell? ⟨w.heap.size + 1, 1, none⟩ = some v := (hb4.cell 1).trans rfl
              have f4 : w4.frozen? ⟨w.heap.size + 1, 1, none⟩ = false := hb4.frozen 1))
          all_goals
            go_wp2
            go_roundw
            case rel =>
              have hg4 := (hown4.lt g4 rfl).1
              refine ⟨k + 1, p ++ [(⟨#[112, 113, 114, 115, 116, 117, 118, 119]⟩ : ByteArray).extract k (k + 1)], .slice (some ⟨g4, 0, none⟩) (k + 1) cap4, by go_num, by omega, Lib.hid (by rw [HX.out, hp.out]), Lib.hid (by rw [List.length_append, hpl.out]; rfl), ?_, hb4.put 1 _, ?_⟩
              · rw [← strs_snoc]
                exact own_keep hown4 fun x hx => Below.heap_setCell _ _ _ _ (by
                  have hx2 : g4 = x := by simpa [Value.ownBlock] using hx
                  subst hx2
                  show g4 ≠ w.heap.size + 1
                  omega)
              · exact (((hkr.alloc _).drew).grown hA4.grown fun x hx => .inr (hown.lt x hx).1).setCell (.inl rfl) _
            case measure => simp only [intOf]; omega
        · obtain rfl : nf = k := by omega
          obtain ⟨A1, q1, rfl⟩ := own_form hown
          have h1 : Rd wr (.slice A1 nf q1) 1 nf (strs (faN.take nf)) ∧ Hid ((faN.take nf).length = nf) := ⟨by rw [← hp.out]; exact Rd.of_own hown, Lib.hid (by rw [← hp.out]; exact hpl.out)⟩
          have hU1 : ∀ x, (Value.slice A1 nf q1).ownBlock = some x → w.heap.size + 2 ≤ x := fun x hx => by have := (hown.lt x hx).1; omega
          have hT2 := hT1.keep hkr (by omega)
          have hR02 := hR01.kept hkr (fun x hx => by have := hU0 x hx; omega)
          have hR12 : Rd wr (.slice A1 nf q1) 1 nf (strs (faN.take nf)) := h1.1
          have hK2 : Keep NoF w wr := hK1.trans hkr fun i hi h => by omega
          obtain ⟨w2, rfl⟩ : ∃ q : World, q = wr := ⟨_, rfl⟩
          have hB3 := hb
          clear hp hpl hkr hb c1
          go_wp2
          go_loopw [64] (fun i wr => ∃ (k : Nat) (p : List ByteArray) (v : Value), i = .int .i64 k ∧ k ≤ nc ∧ Hid (p = acN.take k) ∧ Hid (p.length = k) ∧ wr.ownsRow w2.heap.size 9 1 v k (strs p) ∧ Bk wr (w.heap.size + 1) 24 #[.slice A0 na q0, .slice A1 nf q1, v] ∧ Keep (fun x => x = w.heap.size + 1) w2 wr) (fun i _ => nc - (intOf i).toNat)
          case atStart => exact ⟨0, [], .slice none 0 0, rfl, by omega, Lib.hid rfl, Lib.hid rfl, World.ownsRow_nil _ _ _ _, hB3, Keep.refl _ _⟩
          case round =>
            obtain ⟨k, p, v, rfl, hk, hp, hpl, hown, hb, hkr⟩ := hrel
            have hz := hkr.size
            have hvb : v.ownBlock ≠ some (w.heap.size + 1) := fun he => by have := (hown.lt _ he).1; omega
            have c2 : wr.cell? ⟨w.heap.size + 1, 2, none⟩ = some v := (hb.cell 2).trans rfl
            by_cases hlt : k < nc
            · have hcase : k = 0 ∨ k = 1 ∨ k = 2 ∨ k = 3 ∨ k = 4 ∨ k = 5 ∨ k = 6 ∨ k = 7 := by omega
              have f2 : wr.frozen? ⟨w.heap.size + 1, 2, none⟩ = false := hb.frozen 2
              rcases hcase with rfl | rfl | rfl | rfl | rfl | rfl | rfl | rfl
              · go_wp2_with (at_builtin
                             refine wpList_app (by rfl) eStrs (.tmp 68) (.tmp 74) (by rfl) (by rfl) (hown.alloc _) ⟨wr.heap.size, 0, none⟩ 1 1 [.string ⟨#[97, 99, 116, 48]⟩] (by rfl) (by rfl)
                               (World.news_of_block (cs := #[.string ⟨#[97, 99, 116, 48]⟩]) (t := 9) (fr := (0, 0)) (heap_alloc_new wr _)) (by simp [Value.oneCell']) (by omega) (by omega) (by omega) (by simp; omega) ?_
                             intro g4 cap4 w4 hown4 hA4
                             have hb4 : Bk w4 (w.heap.size + 1) 24 #[.slice A0 na q0, .slice A1 nf q1, v] := Bk.grown (Bk.alloc hb _) hA4.grown (Ne.symm hvb)
                             have d4 : w4.cell? ⟨w.heap.size + 1, 2, none⟩ = some v := (hb4.cell 2).trans rfl
                             have f4 : w4.frozen? ⟨w.heap.size + 1, 2, none⟩ = false := hb4.frozen 2)
                go_roundw
                case rel =>
                  have hg4 := (hown4.lt g4 rfl).1
                  refine ⟨1, p ++ [⟨#[97, 99, 116, 48]⟩], .slice (some ⟨g4, 0, none⟩) (0 + 1) cap4, by go_num, by omega, Lib.hid (by rw [hp.out]; rfl), Lib.hid (by rw [List.length_append, hpl.out]; rfl), ?_, hb4.put 2 _, ?_⟩
                  · rw [← strs_snoc]
                    exact own_keep hown4 fun x hx => Below.heap_setCell _ _ _ _ (by
                      have hx2 : g4 = x := by simpa [Value.ownBlock] using hx
                      subst hx2
                      show g4 ≠ w.heap.size + 1
                      omega)
                  · exact ((hkr.alloc _).grown hA4.grown fun x hx => .inr (hown.lt x hx).1).setCell (.inl rfl) _
                case measure => simp only [intOf]; omega
              · go_wp2_with (at_builtin
                             refine wpList_app (by rfl) eStrs (.tmp 68) (.tmp 74) (by rfl) (by rfl) (hown.alloc _) ⟨wr.heap.size, 0, none⟩ 1 1 [.string ⟨#[97, 99, 116, 49]⟩] (by rfl) (by rfl)
                               (World.news_of_block (cs := #[.string ⟨#[97, 99, 116, 49]⟩]) (t := 9) (fr := (0, 0)) (heap_alloc_new wr _)) (by simp [Value.oneCell']) (by omega) (by omega) (by omega) (by simp; omega) ?_
                             intro g4 cap4 w4 hown4 hA4
                             have hb4 : Bk w4 (w.heap.size + 1) 24 #[.slice A0 na q0, .slice A1 nf q1, v] := Bk.grown (Bk.alloc hb _) hA4.grown (Ne.symm hvb)
                             have d4 : w4.cell? ⟨w.heap.size + 1, 2, none⟩ = some v := (hb4.cell 2).trans rfl
                             have f4 : w4.frozen? ⟨w.heap.size + 1, 2, none⟩ = false := hb4.frozen 2)
                go_roundw
                case rel =>
                  have hg4 := (hown4.lt g4 rfl).1
                  refine ⟨2, p ++ [⟨#[97, 99, 116, 49]⟩], .slice (some ⟨g4, 0, none⟩) (1 + 1) cap4, by go_num, by omega, Lib.hid (by rw [hp.out]; rfl), Lib.hid (by rw [List.length_append, hpl.out]; rfl), ?_, hb4.put 2 _, ?_⟩
                  · rw [← strs_snoc]
                    exact own_keep hown4 fun x hx => Below.heap_setCell _ _ _ _ (by
                      have hx2 : g4 = x := by simpa [Value.ownBlock] using hx
                      subst hx2
                      show g4 ≠ w.heap.size + 1
                      omega)
                  · exact ((hkr.alloc _).grown hA4.grown fun x hx => .inr (hown.lt x hx).1).setCell (.inl rfl) _
                case measure => simp only [intOf]; omega
              · go_wp2_with (at_builtin
                             refine wpList_app (by rfl) eStrs (.tmp 68) (.tmp 74) (by rfl) (by rfl) (hown.alloc _) ⟨wr.heap.size, 0, none⟩ 1 1 [.string ⟨#[97, 99, 116, 50]⟩] (by rfl) (by rfl)
                               (World.news_of_block (cs := #[.string ⟨#[97, 99, 116, 50]⟩]) (t := 9) (fr := (0, 0)) (heap_alloc_new wr _)) (by simp [Value.oneCell']) (by omega) (by omega) (by omega) (by simp; omega) ?_
                             intro g4 cap4 w4 hown4 hA4
                             have hb4 : Bk w4 (w.heap.size + 1) 24 #[.slice A0 na q0, .slice A1 nf q1, v] := Bk.grown (Bk.alloc hb _) hA4.grown (Ne.symm hvb)
                             have d4 : w4.cell? ⟨w.heap.size + 1, 2, none⟩ = some v := (hb4.cell 2).trans rfl
                             have f4 : w4.frozen? ⟨w.heap.size + 1, 2, none⟩ = false := hb4.frozen 2)
                go_roundw
                case rel =>
                  have hg4 := (hown4.lt g4 rfl).1
                  refine ⟨3, p ++ [⟨#[97, 99, 116, 50]⟩], .slice (some ⟨g4, 0, none⟩) (2 + 1) cap4, by go_num, by omega, Lib.hid (by rw [hp.out]; rfl), Lib.hid (by rw [List.length_append, hpl.out]; rfl), ?_, hb4.put 2 _, ?_⟩
                  · rw [← strs_snoc]
                    exact own_keep hown4 fun x hx => Below.heap_setCell _ _ _ _ (by
                      have hx2 : g4 = x := by simpa [Value.ownBlock] using hx
                      subst hx2
                      show g4 ≠ w.heap.size + 1
                      omega)
                  · exact ((hkr.alloc _).grown hA4.grown fun x hx => .inr (hown.lt x hx).1).setCell (.inl rfl) _
                case measure => simp only [intOf]; omega
              · go_wp2_with (at_builtin
                             refine wpList_app (by rfl) eStrs (.tmp 68) (.tmp 74) (by rfl) (by rfl) (hown.alloc _) ⟨wr.heap.size, 0, none⟩ 1 1 [.string ⟨#[97, 99, 116, 51]⟩] (by rfl) (by rfl)
                               (World.news_of_block (cs := #[.string ⟨#[97, 99, 116, 51]⟩]) (t := 9) (fr := (0, 0)) (heap_alloc_new wr _)) (by simp [Value.oneCell']) (by omega) (by omega) (by omega) (by simp; omega) ?_
                             intro g4 cap4 w4 hown4 hA4
                             have hb4 : Bk w4 (w.heap.size + 1) 24 #[.slice A0 na q0, .slice A1 nf q1, v] := Bk.grown (Bk.alloc hb _) hA4.grown (Ne.symm hvb)
                             have d4 : w4.cell? ⟨w.heap.size + 1, 2, none⟩ = some v := (hb4.cell 2).trans rfl
                             have f4 : w4.frozen? ⟨w.heap.size + 1, 2, none⟩ = false := hb4.frozen 2)
                go_roundw
                case rel =>
                  have hg4 := (hown4.lt g4 rfl).1
                  refine ⟨4, p ++ [⟨#[97, 99, 116, 51]⟩], .slice (some ⟨g4, 0, none⟩) (3 + 1) cap4, by go_num, by omega, Lib.hid (by rw [hp.out]; rfl), Lib.hid (by rw [List.length_append, hpl.out]; rfl), ?_, hb4.put 2 _, ?_⟩
                  · rw [← strs_snoc]
                    exact own_keep hown4 fun x hx => Below.heap_setCell _ _ _ _ (by
                      have hx2 : g4 = x := by simpa [Value.ownBlock] using hx
                      subst hx2
                      show g4 ≠ w.heap.size + 1
                      omega)
                  · exact ((hkr.alloc _).grown hA4.grown fun x hx => .inr (hown.lt x hx).1).setCell (.inl rfl) _
                case measure => simp only [intOf]; omega
              · go_wp2_with (at_builtin
                             refine wpList_app (by rfl) eStrs (.tmp 68) (.tmp 74) (by rfl) (by rfl) (hown.alloc _) ⟨wr.heap.size, 0, none⟩ 1 1 [.string ⟨#[97, 99, 116, 52]⟩] (by rfl) (by rfl)
                               (World.news_of_block (cs := #[.string ⟨#[97, 99, 116, 52]⟩]) (t := 9) (fr := (0, 0)) (heap_alloc_new wr _)) (by simp [Value.oneCell']) (by omega) (by omega) (by omega) (by simp; omega) ?_
                             intro g4 cap4 w4 hown4 hA4
                             have hb4 : Bk w4 (w.heap.size + 1) 24 #[.slice A0 na q0, .slice A1 nf q1, v] := Bk.grown (Bk.alloc hb _) hA4.grown (Ne.symm hvb)
                             have d4 : w4.cell? ⟨w.heap.size + 1, 2, none⟩ = some v := (hb4.cell 2).trans rfl
                             have f4 : w4.frozen? ⟨w.heap.size + 1, 2, none⟩ = false := hb4.frozen 2)
                go_roundw
                case rel =>
                  have hg4 := (hown4.lt g4 rfl).1
                  refine ⟨5, p ++ [⟨#[97, 99, 116, 52]⟩], .slice (some ⟨g4, 0, none⟩) (4 + 1) cap4, by go_num, by omega, Lib.hid (by rw [hp.out]; rfl), Lib.hid (by rw [List.length_append, hpl.out]; rfl), ?_, hb4.put 2 _, ?_⟩
                  · rw [← strs_snoc]
                    exact own_keep hown4 fun x hx => Below.heap_setCell _ _ _ _ (by
                      have hx2 : g4 = x := by simpa [Value.ownBlock] using hx
                      subst hx2
                      show g4 ≠ w.heap.size + 1
                      omega)
                  · exact ((hkr.alloc _).grown hA4.grown fun x hx => .inr (hown.lt x hx).1).setCell (.inl rfl) _
                case measure => simp only [intOf]; omega
              · go_wp2_with (at_builtin
                             refine wpList_app (by rfl) eStrs (.tmp 68) (.tmp 74) (by rfl) (by rfl) (hown.alloc _) ⟨wr.heap.size, 0, none⟩ 1 1 [.string ⟨#[97, 99, 116, 53]⟩] (by rfl) (by rfl)
                               (World.news_of_block (cs := #[.string ⟨#[97, 99, 116, 53]⟩]) (t := 9) (fr := (0, 0)) (heap_alloc_new wr _)) (by simp [Value.oneCell']) (by omega) (by omega) (by omega) (by simp; omega) ?_
                             intro g4 cap4 w4 hown4 hA4
                             have hb4 : Bk w4 (w.heap.size + 1) 24 #[.slice A0 na q0, .slice A1 nf q1, v] := Bk.grown (Bk.alloc hb _) hA4.grown (Ne.symm hvb)
                             have d4 : w4.cell? ⟨w.heap.size + 1, 2, none⟩ = some v := (hb4.cell 2).trans rfl
                             have f4 : w4.frozen? ⟨w.heap.size + 1, 2, none⟩ = false := hb4.frozen 2)
                go_roundw
                case rel =>
                  have hg4 := (hown4.lt g4 rfl).1
                  refine ⟨6, p ++ [⟨#[97, 99, 116, 53]⟩], .slice (some ⟨g4, 0, none⟩) (5 + 1) cap4, by go_num, by omega, Lib.hid (by rw [hp.out]; rfl), Lib.hid (by rw [List.length_append, hpl.out]; rfl), ?_, hb4.put 2 _, ?_⟩
                  · rw [← strs_snoc]
                    exact own_keep hown4 fun x hx => Below.heap_setCell _ _ _ _ (by
                      have hx2 : g4 = x := by simpa [Value.ownBlock] using hx
                      subst hx2
                      show g4 ≠ w.heap.size + 1
                      omega)
                  · exact ((hkr.alloc _).grown hA4.grown fun x hx => .inr (hown.lt x hx).1).setCell (.inl rfl) _
                case measure => simp only [intOf]; omega
              · go_wp2_with (at_builtin
                             refine wpList_app (by rfl) eStrs (.tmp 68) (.tmp 74) (by rfl) (by rfl) (hown.alloc _) ⟨wr.heap.size, 0, none⟩ 1 1 [.string ⟨#[97, 99, 116, 54]⟩] (by rfl) (by rfl)
                               (World.news_of_block (cs := #[.string ⟨#[97, 99, 116, 54]⟩]) (t := 9) (fr := (0, 0)) (heap_alloc_new wr _)) (by simp [Value.oneCell']) (by omega) (by omega) (by omega) (by simp; omega) ?_
                             intro g4 cap4 w4 hown4 hA4
                             have hb4 : Bk w4 (w.heap.size + 1) 24 #[.slice A0 na q0, .slice A1 nf q1, v] := Bk.grown (Bk.alloc hb _) hA4.grown (Ne.symm hvb)
                             have d4 : w4.cell? ⟨w.heap.size + 1, 2, none⟩ = some v := (hb4.cell 2).trans rfl
                             have f4 : w4.frozen? ⟨w.heap.size + 1, 2, none⟩ = false := hb4.frozen 2)
                go_roundw
                case rel =>
                  have hg4 := (hown4.lt g4 rfl).1
                  refine ⟨7, p ++ [⟨#[97, 99, 116, 54]⟩], .slice (some ⟨g4, 0, none⟩) (6 + 1) cap4, by go_num, by omega, Lib.hid (by rw [hp.out]; rfl), Lib.hid (by rw [List.length_append, hpl.out]; rfl), ?_, hb4.put 2 _, ?_⟩
                  · rw [← strs_snoc]
                    exact own_keep hown4 fun x hx => Below.heap_setCell _ _ _ _ (by
                      have hx2 : g4 = x := by simpa [Value.ownBlock] using hx
                      subst hx2
                      show g4 ≠ w.heap.size + 1
                      omega)
                  · exact ((hkr.alloc _).grown hA4.grown fun x hx => .inr (hown.lt x hx).1).setCell (.inl rfl) _
                case measure => simp only [intOf]; omega
              · go_wp2_with (at_builtin
                             refine wpList_app (by rfl) eStrs (.tmp 68) (.tmp 74) (by rfl) (by rfl) (hown.alloc _) ⟨wr.heap.size, 0, none⟩ 1 1 [.string ⟨#[97, 99, 116, 55]⟩] (by rfl) (by rfl)
                               (World.news_of_block (cs := #[.string ⟨#[97, 99, 116, 55]⟩]) (t := 9) (fr := (0, 0)) (heap_alloc_new wr _)) (by simp [Value.oneCell']) (by omega) (by omega) (by omega) (by simp; omega) ?_
                             intro g4 cap4 w4 hown4 hA4
                             have hb4 : Bk w4 (w.heap.size + 1) 24 #[.slice A0 na q0, .slice A1 nf q1, v] := Bk.grown (Bk.alloc hb _) hA4.grown (Ne.symm hvb)
                             have d4 : w4.cell? ⟨w.heap.size + 1, 2, none⟩ = some v := (hb4.cell 2).trans rfl
                             have f4 : w4.frozen? ⟨w.heap.size + 1, 2, none⟩ = false := hb4.frozen 2)
                go_roundw
                case rel =>
                  have hg4 := (hown4.lt g4 rfl).1
                  refine ⟨8, p ++ [⟨#[97, 99, 116, 55]⟩], .slice (some ⟨g4, 0, none⟩) (7 + 1) cap4, by go_num, by omega, Lib.hid (by rw [hp.out]; rfl), Lib.hid (by rw [List.length_append, hpl.out]; rfl), ?_, hb4.put 2 _, ?_⟩
                  · rw [← strs_snoc]
                    exact own_keep hown4 fun x hx => Below.heap_setCell _ _ _ _ (by
                      have hx2 : g4 = x := by simpa [Value.ownBlock] using hx
                      subst hx2
                      show g4 ≠ w.heap.size + 1
                      omega)
                  · exact ((hkr.alloc _).grown hA4.grown fun x hx => .inr (hown.lt x hx).1).setCell (.inl rfl) _
                case measure => simp only [intOf]; omega
            · obtain rfl : nc = k := by omega
              obtain ⟨A2, q2, rfl⟩ := own_form hown
              have hT3 := hT2.keep hkr (by omega)
              have hU2 : ∀ x, (Value.slice A2 nc q2).ownBlock = some x → w.heap.size + 2 ≤ x := fun x hx => by have := (hown.lt x hx).1; omega
              have hR03 := hR02.kept hkr (fun x hx => by have := hU0 x hx; omega)
              have hR13 := hR12.kept hkr (fun x hx => by have := hU1 x hx; omega)
              have hR23 : Rd wr (.slice A2 nc q2) 1 nc (strs (acN.take nc)) := by rw [← hp.out]; exact Rd.of_own hown
              have hK3 : Keep NoF w wr := hK2.trans hkr fun i hi h => by omega
              have a0 : wr.cell? ⟨w.heap.size + 1, 0, none⟩ = some (.slice A0 na q0) := (hb.cell 0).trans rfl
              have a1 : wr.cell? ⟨w.heap.size + 1, 1, none⟩ = some (.slice A1 nf q1) := (hb.cell 1).trans rfl
              have b0 : wr.cell? ⟨w.heap.size, 0, none⟩ = some (.slice none 0 0) := (hT3.cell 0).trans rfl
              have b1 : wr.cell? ⟨w.heap.size, 1, none⟩ = some (.slice none 0 0) := (hT3.cell 1).trans rfl
              have b2 : wr.cell? ⟨w.heap.size, 2, none⟩ = some (.slice none 0 0) := (hT3.cell 2).trans rfl
              have f0 : wr.frozen? ⟨w.heap.size, 0, none⟩ = false := hT3.frozen 0
              have f1 : wr.frozen? ⟨w.heap.size, 1, none⟩ = false := hT3.frozen 1
              have f2 : wr.frozen? ⟨w.heap.size, 2, none⟩ = false := hT3.frozen 2
              clear hp hpl hkr HZ0
              go_wp2
              have hF := ((hT3.put 0 (.slice A0 na q0)).put 1 (.slice A1 nf q1)).put 2 (.slice A2 nc q2)
              have hKF : Keep NoF w (((wr.setCell ⟨w.heap.size, 0, none⟩ (.slice A0 na q0)).setCell ⟨w.heap.size, 1, none⟩ (.slice A1 nf q1)).setCell ⟨w.heap.size, 2, none⟩ (.slice A2 nc q2)) := ((hK3.setCell (.inr (Nat.le_refl _)) _).setCell (.inr (Nat.le_refl _)) _).setCell (.inr (Nat.le_refl _)) _
              have hKx := put3 wr w.heap.size (.slice A0 na q0) (.slice A1 nf q1) (.slice A2 nc q2)
              have hR04 := hR03.kept hKx (fun x hx => by have := hU0 x hx; omega)
              have hR14 := hR13.kept hKx (fun x hx => by have := hU1 x hx; omega)
              have hR24 := hR23.kept hKx (fun x hx => by have := hU2 x hx; omega)
              have g0 : (((wr.setCell ⟨w.heap.size, 0, none⟩ (.slice A0 na q0)).setCell ⟨w.heap.size, 1, none⟩ (.slice A1 nf q1)).setCell ⟨w.heap.size, 2, none⟩ (.slice A2 nc q2)).cell? ⟨w.heap.size, 0, none⟩ = some (.slice A0 na q0) := (hF.cell 0).trans rfl
              have g1 : (((wr.setCell ⟨w.heap.size, 0, none⟩ (.slice A0 na q0)).setCell ⟨w.heap.size, 1, none⟩ (.slice A1 nf q1)).setCell ⟨w.heap.size, 2, none⟩ (.slice A2 nc q2)).cell? ⟨w.heap.size, 1, none⟩ = some (.slice A1 nf q1) := (hF.cell 1).trans rfl
              have g2 : (((wr.setCell ⟨w.heap.size, 0, none⟩ (.slice A0 na q0)).setCell ⟨w.heap.size, 1, none⟩ (.slice A1 nf q1)).setCell ⟨w.heap.size, 2, none⟩ (.slice A2 nc q2)).cell? ⟨w.heap.size, 2, none⟩ = some (.slice A2 nc q2) := (hF.cell 2).trans rfl
              refine bodyPost_ret (v := .tuple #[.agg #[.slice A0 na q0, .slice A1 nf q1, .slice A2 nc q2], .int .i64 0]) (by simp [results, Tryd.results18, go_sem, g0, g1, g2]) rfl ?_
              exact ⟨_, rfl, sig_def A0 q0 A1 q1 A2 q2 la lf lc hR04 hR14 hR24 hKF⟩
end
end Go.Proofs.YtcmoocemfnjkiaaDoor
