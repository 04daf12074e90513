/- Single states and sets as diagrams: the reference's point and Set. The reference's shift: each node's variable is moved. No condition. -/
import Derived.Test.YtgdmcidcappkpaaGreatSyF
import Derived.Test.YtgdmcidcappkpaaGreatSyR
import Derived.Deep.RegionWith
import Derived.Test.YtgdmcidcappkpaaGreatSyB
import Derived.Test.YtgdmcidcappkpaaGreatSyM
set_option linter.unusedVariables false
set_option linter.unusedSimpArgs false
namespace Go.Proofs.YtgdmcidcappkpaaGreat
open Go.RowKit
open Dd (stP stF setP setF evN asgN)

/-- What hands back a diagram alone. -/
def DA (w : World) (V : Nat) (f : BF) (e : Ending) (w' : World) : Prop :=
  ∃ A n c, ∃ r : Nat, e = .returned (.agg #[.int .i64 V, .slice A n c, .int .i64 r]) ∧ IsD w' V f A n c r ∧ Keep NoF w w'
section
set_option maxRecDepth 100000
set_option maxHeartbeats 4000000
theorem wrap_nat (V : Nat) (h : V ≤ 12) : IntKind.i64.wrap (V : Int) = V := by
  simp [IntKind.wrap, IntKind.bits, IntKind.signed]; omega
theorem bit_u1 (S j : Nat) (hS : S < 18446744073709551616) : (bits BinOp.and IntKind.u64 ((S : Int) / 2 ^ j) 1 == 1) = S.testBit j := by
  rw [bit_u64 S j hS]
  cases S.testBit j <;> rfl
theorem beyond_shift {k S : Nat} (hk : k ≤ 6) (hS : S < 18446744073709551616) (h : beyondB k S = false) : ((S : Int) / 2 ^ min (IntKind.u64.wrap ((2 : Int) ^ k)).toNat 64 != 0) = false := by
  unfold beyondB at h
  have hk2 : k = 0 ∨ k = 1 ∨ k = 2 ∨ k = 3 ∨ k = 4 ∨ k = 5 ∨ k = 6 := by omega
  rcases hk2 with rfl | rfl | rfl | rfl | rfl | rfl | rfl <;> simp at h <;> simp [IntKind.wrap, IntKind.bits, IntKind.signed] <;> omega
end
end Go.Proofs.YtgdmcidcappkpaaGreat
namespace Go.Proofs.YtgdmcidcappkpaaGreat
open Go.RowKit
open Dd (mapV Valid den upF)

theorem mapV_take {g : Nat → Nat} {M : List Nd} {i : Nat} {x : Nd} (h : M[i]? = some x) : (mapV g M).take (i + 1) = (mapV g M).take i ++ [(g x.1, x.2)] := by
  rw [List.take_add_one]
  congr 1
  unfold mapV
  rw [List.getElem?_map, h]
  rfl
section
set_option maxRecDepth 100000
set_option maxHeartbeats 4000000
theorem rshift_raw (M : List Nd) (g : Nat → Nat) (b : Int) (hM : M.length ≤ 4096) (hg : ∀ x ∈ M, x.1 < 64 ∧ (x.1 : Int) + b = (g x.1 : Nat) ∧ g x.1 < 64) (hb : b = 1 ∨ b = -1) (V : Int) (r : Nat) (A : Option Addr) (c : Nat) (w : World) (hR : Rd w (.slice A M.length c) 3 M.length (ndsC M)) :
    Calls Tryz.prog 30 #[.agg #[.int .i64 V, .slice A M.length c, .int .i64 r], .int .i64 b] w fun e w' => ∃ A' c', e = .returned (.agg #[.int .i64 V, .slice A' M.length c', .int .i64 r]) ∧ Rd w' (.slice A' M.length c') 3 M.length (ndsC (mapV g M)) ∧ Keep NoF w w' := by
  have HM := Lib.hid hM
  have HG := Lib.hid hg
  have HB := Lib.hid hb
  clear hM hg hb
  go_enter Tryz.func30, Tryz.ntmps30
  go_upto_region 2 with (fail)
  have Bd := ((Bk.new w 24 #[.int .i64 V, .slice A M.length c, .int .i64 r]).alloc (.cells #[.int .i64 0, .slice none 0 0, .int .i64 0] 24)).alloc (.cells #[.int .i64 V, .slice none 0 0, .int .i64 r] 24)
  have Bz := (Bk.new (w.alloc (.cells #[.int .i64 V, .slice A M.length c, .int .i64 r] 24)) 24 #[.int .i64 0, .slice none 0 0, .int .i64 0]).alloc (.cells #[.int .i64 V, .slice none 0 0, .int .i64 r] 24)
  have Bo := Bk.new ((w.alloc (.cells #[.int .i64 V, .slice A M.length c, .int .i64 r] 24)).alloc (.cells #[.int .i64 0, .slice none 0 0, .int .i64 0] 24)) 24 #[.int .i64 V, .slice none 0 0, .int .i64 r]
  simp only [World.size_alloc, Nat.add_assoc, Nat.reduceAdd] at Bz Bo
  have Kw : Keep NoF w (((w.alloc (.cells #[.int .i64 V, .slice A M.length c, .int .i64 r] 24)).alloc (.cells #[.int .i64 0, .slice none 0 0, .int .i64 0] 24)).alloc (.cells #[.int .i64 V, .slice none 0 0, .int .i64 r] 24)) := (((Keep.refl NoF w).alloc _).alloc _).alloc _
  have hRW := hR.kept Kw fun _ _ h => h
  have HAB : Hid (0 < M.length → ∀ k, (Value.slice A M.length c).ownBlock = some k → k < w.heap.size) := Lib.hid fun h0 => hR.blk_lt h0 (by decide)
  clear hR
  generalize ((w.alloc (.cells #[.int .i64 V, .slice A M.length c, .int .i64 r] 24)).alloc (.cells #[.int .i64 0, .slice none 0 0, .int .i64 0] 24)).alloc (.cells #[.int .i64 V, .slice none 0 0, .int .i64 r] 24) = W0 at *
  go_wp2
  go_loopw [6] (fun iv wr => ∃ (i : Nat) (sl : Value), iv = .int .i64 i ∧ i ≤ M.length ∧ wr.ownsRow W0.heap.size 47 3 sl i (ndsC ((mapV g M).take i)) ∧ Bk wr w.heap.size 24 #[.int .i64 V, .slice A M.length c, .int .i64 r] ∧ Bk wr (w.heap.size + 1) 24 #[.int .i64 0, .slice none 0 0, .int .i64 0] ∧ Bk wr (w.heap.size + 2) 24 #[.int .i64 V, sl, .int .i64 r] ∧ Rd wr (.slice A M.length c) 3 M.length (ndsC M) ∧ W0.heap.size ≤ wr.heap.size ∧ Keep NoF w wr) (fun iv _ => M.length - (intOf iv).toNat)
  case atStart => exact ⟨0, _, rfl, by omega, World.ownsRow_nil _ _ _ _, Bd, Bz, Bo, hRW, Nat.le_refl _, Kw⟩
  case round =>
    have hlo := Bo.lt
    clear Bd Bz Bo Kw hRW
    obtain ⟨i, sl, rfl, hi, hown, Bd, Bz, Bo, hRW, hz, Kw⟩ := hrel
    obtain ⟨OB, oc, rfl⟩ := own_form hown
    have d0 := Bd.cell 0
    have d1 := Bd.cell 1
    have d2 := Bd.cell 2
    by_cases hlt : i < M.length
    · obtain ⟨_, _, bl, off, rfl, hc⟩ := hRW.at_ (by omega)
      have hMi : M[i]? = some M[i] := List.getElem?_eq_getElem hlt
      have hin := List.getElem_mem hlt
      have HTK := Lib.hid (mapV_take (g := g) hMi)
      have hx := HG.out _ hin
      have hR2 := rnsC_at (Dd.ofN M) i ((M[i].1 : Int), (M[i].2.1 : Int), (M[i].2.2 : Int)) (by simp [Dd.ofN, hMi])
      rw [rnsC_ofN] at hR2
      obtain ⟨e0, e1, e2⟩ := hR2
      have n0 := hc _ _ e0
      have n1 := hc _ _ e1
      have n2 := hc _ _ e2
      simp only [← Nat.add_assoc] at n1 n2
      clear hMi hin e0 e1 e2
      generalize M[i] = x at *
      obtain ⟨x1, x2, x3⟩ := x
      simp only at n0 n1 n2 hx HTK
      obtain ⟨hx1, hx2, hx3⟩ := hx
      have hM4 := HM.out
      have ho0 := Bo.cell 0
      go_upto_region 7 with (fail)
      have Bn := Bk.new wr 47 #[.int .i64 (g x1), .int .i64 x2, .int .i64 x3]
      have hown1 := hown.alloc (.cells #[.int .i64 (g x1), .int .i64 x2, .int .i64 x3] 47)
      have Bd1 := Bd.alloc (.cells #[.int .i64 (g x1), .int .i64 x2, .int .i64 x3] 47)
      have Bz1 := Bz.alloc (.cells #[.int .i64 (g x1), .int .i64 x2, .int .i64 x3] 47)
      have Bo1 := Bo.alloc (.cells #[.int .i64 (g x1), .int .i64 x2, .int .i64 x3] 47)
      have Kw1 := Kw.alloc (.cells #[.int .i64 (g x1), .int .i64 x2, .int .i64 x3] 47)
      have R1 := hRW.kept ((Keep.refl NoF wr).alloc (.cells #[.int .i64 (g x1), .int .i64 x2, .int .i64 x3] 47)) fun _ _ h => h
      have hz1 : W0.heap.size ≤ (wr.alloc (.cells #[.int .i64 (g x1), .int .i64 x2, .int .i64 x3] 47)).heap.size := by simp only [World.size_alloc]; omega
      generalize wr.alloc (.cells #[.int .i64 (g x1), .int .i64 x2, .int .i64 x3] 47) = W1 at *
      generalize wr.heap.size = nb at *
      clear hown Bd Bz Bo Kw hRW d0 d1 d2 n0 n1 n2 hc ho0
      have k1 := Bo1.cell 1
      have m0 := Bn.cell 0
      have m1 := Bn.cell 1
      have m2 := Bn.cell 2
      go_wp2_with (at_builtin
                   refine wpList_app (by rfl) eNodes (.tmp 31) (.tmp 33) (by rfl) (by rfl) (hown1.alloc _) ⟨W1.heap.size, 0, none⟩ 1 1 [.int .i64 (g x1), .int .i64 x2, .int .i64 x3] (by rfl) (by rfl)
                     (World.news_of_block (cs := #[.int .i64 (g x1), .int .i64 x2, .int .i64 x3]) (t := 47) (fr := (0, 0)) (heap_alloc_new W1 _)) (by simp [Value.oneCell']) (by omega) (by omega) (by omega) (by simp; omega) ?_
                   intro g4 cap4 w4 hown4 hA4
                   have Bo4 := (Bo1.alloc _).grown hA4.grown (Ne.symm (own_ne_bk hown1 Bo1 (by decide)))
                   have q1 := Bo4.cell 1
                   have q2 := Bo4.frozen 1)
      go_roundw
      case rel =>
        have hne := own_ne_bk hown4 Bo4 (by decide)
        have S1 : Keep (fun k => k = w.heap.size + 2) w4 (w4.setCell ⟨w.heap.size + 2, 1, none⟩ (.slice (some ⟨g4, 0, none⟩) (i + 1) cap4)) := (Keep.refl (fun k => k = w.heap.size + 2) w4).setCell (.inl rfl) _
        have Bd4 := (Bd1.alloc _).grown hA4.grown (Ne.symm (own_ne_bk hown1 Bd1 (by decide)))
        have Bz4 := (Bz1.alloc _).grown hA4.grown (Ne.symm (own_ne_bk hown1 Bz1 (by decide)))
        have Kw4 := (Kw1.alloc (.cells #[.int .i64 (g x1), .int .i64 x2, .int .i64 x3] 47)).grown hA4.grown fun k hk => .inr (by have := (hown1.lt k hk).1; omega)
        have R4 := (R1.kept ((Keep.refl NoF W1).alloc (.cells #[.int .i64 (g x1), .int .i64 x2, .int .i64 x3] 47)) fun _ _ h => h)
        refine ⟨i + 1, .slice (some ⟨g4, 0, none⟩) (i + 1) cap4, by go_num, by omega, ?_, Bd4.keep S1 (by omega), Bz4.keep S1 (by omega), Bo4.put 1 _, ?_, ?_, Kw4.trans S1 fun k hk h => by omega⟩
        · rw [HTK.out, ndsC_snoc]
          exact own_keep hown4 fun k hk => S1.block k (hown4.lt k hk).2 fun h => hne (by rw [hk, h])
        · have KG := Keep.of_grown (F := fun k => W0.heap.size ≤ k) hA4.grown fun k hk => (hown1.lt k hk).1
          exact (R4.kept KG fun k hk h => by have := HAB.out (by omega) k hk; omega).kept S1 fun k hk h => by have := HAB.out (by omega) k hk; omega
        · have := hA4.grown.size
          simp only [World.size_alloc] at this
          simp
          omega
      case measure => simp only [intOf]; omega
    · obtain rfl : i = M.length := by omega
      have hfull : (mapV g M).take M.length = mapV g M := by rw [← Dd.mapV_len (g := g)]; exact List.take_length
      rw [hfull] at hown
      have RO := Rd.of_own hown
      have HROb : ∀ k, (Value.slice OB M.length oc).ownBlock = some k → k ≠ w.heap.size + 1 := fun k hk h => own_ne_bk hown Bz (by decide) (by rw [hk, h])
      clear hown hfull
      have y0 := Bo.cell 0
      have y1 := Bo.cell 1
      have y2 := Bo.cell 2
      have z0 := Bz.cell 0
      have z1 := Bz.cell 1
      have z2 := Bz.cell 2
      have zf0 := Bz.frozen 0
      have zf1 := Bz.frozen 1
      have zf2 := Bz.frozen 2
      have lz := Bz.lt
      go_wp2
      have S3 := keep_set3 wr (w.heap.size + 1) (.int .i64 V) (.slice OB M.length oc) (.int .i64 r)
      have s1 : Bk _ (w.heap.size + 1) 24 #[.int .i64 V, .slice OB M.length oc, .int .i64 r] := ((Bz.put 0 (.int .i64 V)).put 1 (.slice OB M.length oc)).put 2 (.int .i64 r)
      have s2 := RO.kept S3 HROb
      have s3 := Kw.trans S3 fun k hk h => by omega
      generalize (((wr.setCell ⟨w.heap.size + 1, 0, none⟩ (.int .i64 V)).setCell ⟨w.heap.size + 1, 1, none⟩ (.slice OB M.length oc)).setCell ⟨w.heap.size + 1, 2, none⟩ (.int .i64 r)) = W6 at *
      have h0 := s1.cell 0
      have h1 := s1.cell 1
      have h2 := s1.cell 2
      refine bodyPost_ret (v := .agg #[.int .i64 V, .slice OB M.length oc, .int .i64 r]) (by simp [results, Tryz.results30, go_sem, h0, h1, h2]) rfl ?_
      exact ⟨OB, oc, rfl, s2, s3⟩
theorem rshift_up {f : BF} {V : Nat} (he : V % 2 = 0) (hno : NoOdd f) {A : Option Addr} {n c r : Nat} {w : World} (D : IsD w V f A n c r) : Calls Tryz.prog 30 #[.agg #[.int .i64 V, .slice A n c, .int .i64 r], .int .i64 1] w (DA w V (upF V f)) := by
  obtain ⟨M, rfl, hR, hv, hf⟩ := D
  have hvar : ∀ i, 2 ≤ i → i < M.length + 2 → Dd.var M i < V ∧ Dd.var M i % 2 = 0 := fun i h2 hi => ⟨hv.bound i h2 hi, by
    rcases Nat.mod_two_eq_zero_or_one (Dd.var M i) with h | h
    · exact h
    · exact absurd rfl (Dd.valid_free hv (v := Dd.var M i) (fun ρ b => by rw [hf, hf]; exact hno _ h ρ b) i h2 hi)⟩
  obtain ⟨g1, g2⟩ := Dd.valid_mapV hv (Dd.mono_up he) hvar
  refine (rshift_raw M (· + 1) 1 hv.len (fun x hx => ?_) (.inl rfl) V r A c w hR).mono ?_
  · obtain ⟨i, h2, hi, e⟩ := Dd.node_var hx
    have := (hvar i h2 hi).1
    have := hv.vars
    omega
  · rintro e w' ⟨A', c', rfl, hR', hk⟩
    refine ⟨A', M.length, c', r, rfl, ⟨mapV (· + 1) M, Dd.mapV_len.symm, hR', g1, fun ρ => ?_⟩, hk⟩
    rw [g2]
    unfold upF
    rw [← hf]
    refine Dd.valid_locQ hv (Q := fun x => x < V ∧ x % 2 = 0) hvar _ _ fun x hx => ?_
    rw [if_pos (by omega)]
end
end Go.Proofs.YtgdmcidcappkpaaGreat
