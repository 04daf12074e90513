/- The errors of Set and Relation, the program's and the reference's. No condition. -/
import Derived.Test.YtgdmcidcappkpaaSyK
import Derived.Test.YtgdmcidcappkpaaSyU
set_option linter.unusedVariables false
set_option linter.unusedSimpArgs false
namespace Go.Proofs.Ytgdmcidcappkpaa
open Go.RowKit

theorem beyond_eq {k S : Nat} (hk : k ≤ 6) (hS : S < 18446744073709551616) : ((S : Int) / 2 ^ min (IntKind.u64.wrap ((2 : Int) ^ k)).toNat 64 != 0) = beyondB k S := by
  unfold beyondB
  have hk2 : k = 0 ∨ k = 1 ∨ k = 2 ∨ k = 3 ∨ k = 4 ∨ k = 5 ∨ k = 6 := by omega
  rw [Bool.eq_iff_iff]
  rcases hk2 with rfl | rfl | rfl | rfl | rfl | rfl | rfl <;> simp [IntKind.wrap, IntKind.bits, IntKind.signed] <;> omega
/-- What Relation answers. -/
def relOE (k : Int) (l : List Nat) : Int := if k < 0 ∨ 6 < k then 2 else if l.length ≠ 2 ^ k.toNat then 3 else if l.any (beyondB k.toNat) = true then 1 else 0
theorem relOE_cases (k : Int) (l : List Nat) : (relOE k l = 2 ∧ (k < 0 ∨ 6 < k)) ∨ (∃ n : Nat, k = n ∧ n ≤ 6 ∧ ((relOE k l = 3 ∧ l.length ≠ 2 ^ n) ∨ (relOE k l = 1 ∧ l.length = 2 ^ n ∧ l.any (beyondB n) = true) ∨ (relOE k l = 0 ∧ l.length = 2 ^ n ∧ l.any (beyondB n) = false))) := by
  unfold relOE
  by_cases hk : k < 0 ∨ 6 < k
  · rw [if_pos hk]; exact .inl ⟨rfl, hk⟩
  · rw [if_neg hk]
    refine .inr ⟨k.toNat, by omega, by omega, ?_⟩
    by_cases hl : l.length = 2 ^ k.toNat
    · rw [if_neg (by simpa using hl)]
      cases hb : l.any (beyondB k.toNat) with
      | true => exact .inr (.inl ⟨rfl, hl, rfl⟩)
      | false => exact .inr (.inr ⟨rfl, hl, rfl⟩)
    · rw [if_pos hl]; exact .inl ⟨rfl, hl⟩
section
set_option maxRecDepth 100000
set_option maxHeartbeats 4000000
theorem rSet_bad (k : Int) (S : Nat) (hS : S < 18446744073709551616) (h : setOE k S ≠ 0) (w : World) : Calls Try.prog 8 #[.int .i64 k, .int .u64 S] w fun e w' => e = .returned (.tuple #[dgZero, .int .i64 (setOE k S)]) ∧ Keep NoF w w' := by
  by_cases hk : k < 0 ∨ 6 < k
  · have he : setOE k S = 2 := if_pos hk
    rw [he]
    clear h he
    rcases hk with hk | hk <;>
    · go_enter Try.func8, Try.ntmps8
      go_wp2
      refine bodyPost_ret (v := .tuple #[dgZero, .int .i64 2]) (by simp [results, Try.results8, go_sem, dgZero]) rfl ?_
      exact ⟨rfl, (Keep.refl _ _).alloc _⟩
  · obtain ⟨n, rfl⟩ : ∃ n : Nat, k = n := ⟨k.toNat, by omega⟩
    have hn : n ≤ 6 := by omega
    have hb : beyondB n S = true := by
      cases hb : beyondB n S with
      | true => rfl
      | false => exact absurd (by unfold setOE; rw [if_neg hk, Int.toNat_natCast, hb]; rfl) h
    have he : setOE n S = 1 := by unfold setOE; rw [if_neg hk, Int.toNat_natCast, hb]; rfl
    rw [he]
    have hbt := beyond_eq hn hS
    rw [hb] at hbt
    have h6 : n < 6 := by
      unfold beyondB at hb
      rw [Bool.and_eq_true] at hb
      exact of_decide_eq_true hb.1
    clear h he hb hk
    go_enter Try.func8, Try.ntmps8
    go_wp2
    refine bodyPost_ret (v := .tuple #[dgZero, .int .i64 1]) (by simp [results, Try.results8, go_sem, dgZero]) rfl ?_
    exact ⟨rfl, (Keep.refl _ _).alloc _⟩
theorem Relation_bad (k : Int) (l : List Nat) (hl : ∀ x ∈ l, x < 18446744073709551616) (hn : l.length ≤ 9223372036854775807) (h : relOE k l ≠ 0) (A : Option Addr) (c : Nat) (w : World) (hrd : Rd w (.slice A l.length c) 1 l.length (n64 l)) :
    Calls Try.prog 9 #[.int .i64 k, .slice A l.length c] w fun e w' => e = .returned (.tuple #[dgZero, .int .i64 (relOE k l)]) ∧ Keep NoF w w' := by
  rcases relOE_cases k l with ⟨he, hk⟩ | ⟨n, rfl, hn6, ⟨he, hlen⟩ | ⟨he, hlen, hb⟩ | ⟨he, _⟩⟩
  · rw [he]
    clear h he
    rcases hk with hk | hk <;>
    · go_enter Try.func9, Try.ntmps9
      go_wp2
      refine bodyPost_ret (v := .tuple #[dgZero, .int .i64 2]) (by simp [results, Try.results9, go_sem, dgZero]) rfl ?_
      exact ⟨rfl, ((Keep.refl _ _).alloc _).alloc _⟩
  · rw [he]
    have hp := (pow_k hn6).1
    have hne : ((l.length : Int) != wrap64 ((2 : Int) ^ n)) = true := by rw [hp, bne_iff_ne]; omega
    clear h he hlen hp
    go_enter Try.func9, Try.ntmps9
    go_wp2
    refine bodyPost_ret (v := .tuple #[dgZero, .int .i64 3]) (by simp [results, Try.results9, go_sem, dgZero]) rfl ?_
    exact ⟨rfl, ((Keep.refl _ _).alloc _).alloc _⟩
  · rw [he]
    have hp := (pow_k hn6).1
    have hne : ((l.length : Int) != wrap64 ((2 : Int) ^ n)) = false := by rw [hp, hlen]; simp
    have HCF := Lib.hid fun (W : World) kb (hK : Keep NoF w W) hc => ContainsFunc64_any n hn6 l hl hn A c kb W (hrd.kept hK fun _ _ h => h) hc
    rw [hb] at HCF
    clear h he hlen hp hb hl hrd
    go_enter Try.func9, Try.ntmps9
    go_upto_region 1 with (fail)
    have Bk0 := (Bk.new w 3 #[.int .i64 n]).alloc (.cells #[.int .i64 0, .slice none 0 0, .int .i64 0] 27)
    have Br0 := Bk.new (w.alloc (.cells #[.int .i64 n] 3)) 27 #[.int .i64 0, .slice none 0 0, .int .i64 0]
    rw [World.size_alloc] at Br0
    have K0 : Keep NoF w ((w.alloc (.cells #[.int .i64 n] 3)).alloc (.cells #[.int .i64 0, .slice none 0 0, .int .i64 0] 27)) := ((Keep.refl NoF w).alloc _).alloc _
    generalize (w.alloc (.cells #[.int .i64 n] 3)).alloc (.cells #[.int .i64 0, .slice none 0 0, .int .i64 0] 27) = W0 at *
    have ck : W0.cell? ⟨w.heap.size, 0, none⟩ = some (.int .i64 n) := Bk0.cell 0
    have r0 := Br0.cell 0
    have r1 := Br0.cell 1
    have r2 := Br0.cell 2
    have f0 := Br0.frozen 0
    have f1 := Br0.frozen 1
    have f2 := Br0.frozen 2
    go_wp2_with (go_at_call 36
                 (with_reducible refine (HCF.out W0 _ K0 ck).mono ?_)
                 rintro e w' ⟨rfl, hw'⟩
                 obtain rfl := hw'.symm)
    have s1 : Bk _ (w.heap.size + 1) 27 #[.int .i64 0, .slice none 0 0, .int .i64 0] := ((Br0.put 0 (.int .i64 0)).put 1 (.slice none 0 0)).put 2 (.int .i64 0)
    have s3 := K0.trans (keep_set3 W0 (w.heap.size + 1) (.int .i64 0) (.slice none 0 0) (.int .i64 0)) fun k hk h => by omega
    generalize (((W0.setCell ⟨w.heap.size + 1, 0, none⟩ (.int .i64 0)).setCell ⟨w.heap.size + 1, 1, none⟩ (.slice none 0 0)).setCell ⟨w.heap.size + 1, 2, none⟩ (.int .i64 0)) = W6 at *
    have h0 := s1.cell 0
    have h1 := s1.cell 1
    have h2 := s1.cell 2
    refine bodyPost_ret (v := .tuple #[dgZero, .int .i64 1]) (by simp [results, Try.results9, go_sem, dgZero, h0, h1, h2]) rfl ?_
    exact ⟨rfl, s3⟩
  · exact absurd he h
theorem rRelation_bad (k : Int) (l : List Nat) (hl : ∀ x ∈ l, x < 18446744073709551616) (hn : l.length ≤ 9223372036854775807) (h : relOE k l ≠ 0) (A : Option Addr) (c : Nat) (w : World) (hrd : Rd w (.slice A l.length c) 1 l.length (n64 l)) :
    Calls Try.prog 10 #[.int .i64 k, .slice A l.length c] w fun e w' => e = .returned (.tuple #[dgZero, .int .i64 (relOE k l)]) ∧ Keep NoF w w' := by
  rcases relOE_cases k l with ⟨he, hk⟩ | ⟨n, rfl, hn6, ⟨he, hlen⟩ | ⟨he, hlen, hb⟩ | ⟨he, _⟩⟩
  · rw [he]
    clear h he
    rcases hk with hk | hk <;>
    · go_enter Try.func10, Try.ntmps10
      go_wp2
      refine bodyPost_ret (v := .tuple #[dgZero, .int .i64 2]) (by simp [results, Try.results10, go_sem, dgZero]) rfl ?_
      exact ⟨rfl, (Keep.refl _ _).alloc _⟩
  · rw [he]
    have hp := (pow_k hn6).1
    have hne : ((l.length : Int) != wrap64 ((2 : Int) ^ n)) = true := by rw [hp, bne_iff_ne]; omega
    clear h he hlen hp
    go_enter Try.func10, Try.ntmps10
    go_wp2
    refine bodyPost_ret (v := .tuple #[dgZero, .int .i64 3]) (by simp [results, Try.results10, go_sem, dgZero]) rfl ?_
    exact ⟨rfl, (Keep.refl _ _).alloc _⟩
  · rw [he]
    have hp := (pow_k hn6).1
    have hne : ((l.length : Int) != wrap64 ((2 : Int) ^ n)) = false := by rw [hp, hlen]; simp
    have HBE := Lib.hid fun S (hS : S < 18446744073709551616) => beyond_eq hn6 hS
    have HB6 : Hid (∀ S, beyondB n S = true → n < 6) := Lib.hid fun S hb => by
      unfold beyondB at hb
      rw [Bool.and_eq_true] at hb
      exact of_decide_eq_true hb.1
    have HR := Lib.hid hb
    have HL := Lib.hid hl
    have HRD := Lib.hid fun (W : World) (hK : Keep NoF w W) => hrd.kept hK fun _ _ h => h
    clear h he hlen hp hb hl hrd
    go_enter Try.func10, Try.ntmps10
    go_upto_region 1 with (fail)
    have B0 := Bk.new w 27 #[.int .i64 0, .slice none 0 0, .int .i64 0]
    have K0 : Keep NoF w (w.alloc (.cells #[.int .i64 0, .slice none 0 0, .int .i64 0] 27)) := (Keep.refl _ _).alloc _
    generalize w.alloc (.cells #[.int .i64 0, .slice none 0 0, .int .i64 0] 27) = W0 at *
    go_wp2
    go_loopw [6] (fun i wr => ∃ j : Nat, i = .int .i64 j ∧ j ≤ l.length ∧ Hid ((l.drop j).any (beyondB n) = true) ∧ Bk wr w.heap.size 27 #[.int .i64 0, .slice none 0 0, .int .i64 0] ∧ Keep NoF w wr) (fun i _ => l.length - (intOf i).toNat)
    case atStart => exact ⟨0, rfl, by omega, Lib.hid HR.out, B0, K0⟩
    case round =>
      clear B0 K0
      obtain ⟨j, rfl, hj, ho, B0, K0⟩ := hrel
      by_cases hlt : j < l.length
      · have hx : l[j]? = some l[j] := List.getElem?_eq_getElem hlt
        obtain ⟨_, hcc, bl, off, rfl, hcell⟩ := (HRD.out wr K0).at_ (by omega)
        have hc1 := hcell j (.int .u64 (l[j] : Nat)) (by rw [List.getElem?_map, hx]; rfl)
        have ho1 := ho.out
        rw [List.drop_eq_getElem_cons hlt, List.any_cons] at ho1
        have hbt := HBE.out _ (HL.out _ (List.getElem_mem hlt))
        clear ho hcell hx
        generalize l[j] = x at *
        cases hnb : beyondB n x with
        | true =>
          have h6 := HB6.out x hnb
          rw [hnb] at hbt
          clear ho1 hnb
          have r0 := B0.cell 0
          have r1 := B0.cell 1
          have r2 := B0.cell 2
          have f0 := B0.frozen 0
          have f1 := B0.frozen 1
          have f2 := B0.frozen 2
          go_wp2
          have s1 : Bk _ w.heap.size 27 #[.int .i64 0, .slice none 0 0, .int .i64 0] := ((B0.put 0 (.int .i64 0)).put 1 (.slice none 0 0)).put 2 (.int .i64 0)
          have s3 := K0.trans (keep_set3 wr w.heap.size (.int .i64 0) (.slice none 0 0) (.int .i64 0)) fun k hk h => by omega
          generalize (((wr.setCell ⟨w.heap.size, 0, none⟩ (.int .i64 0)).setCell ⟨w.heap.size, 1, none⟩ (.slice none 0 0)).setCell ⟨w.heap.size, 2, none⟩ (.int .i64 0)) = W6 at *
          have h0 := s1.cell 0
          have h1 := s1.cell 1
          have h2 := s1.cell 2
          refine bodyPost_ret (v := .tuple #[dgZero, .int .i64 1]) (by simp [results, Try.results10, go_sem, dgZero, h0, h1, h2]) rfl ?_
          exact ⟨rfl, s3⟩
        | false =>
          rw [hnb] at hbt
          rw [hnb, Bool.false_or] at ho1
          have HO := Lib.hid ho1
          clear ho1 hnb
          go_wp2
          all_goals
            go_roundw
            case rel => exact ⟨j + 1, by go_num, by omega, HO, B0, K0⟩
            case measure => simp only [intOf]; omega
      · obtain rfl : j = l.length := by omega
        have := ho.out
        rw [List.drop_length] at this
        simp at this
  · exact absurd he h
end
end Go.Proofs.Ytgdmcidcappkpaa
