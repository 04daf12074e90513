/- The law SymsetLists answers true. No condition. -/
import Derived.Test.YtgdmcidcappkpaaSyS
import Derived.Test.YtgdmcidcappkpaaSyJr
set_option linter.unusedVariables false
set_option linter.unusedSimpArgs false
namespace Go.Proofs.Ytgdmcidcappkpaa
open Go.RowKit
open Dd (Rn rat ofN toN checkErr den lo var Within Valid supp canon)

/-- What Members answers, the program's and the reference's; what Pairs answers. -/
theorem mem_both (d : Dg) (hf : d.V ≤ 10 ∨ 24 < d.V) : ∃ (m : Nat) (err : Int), ∀ W, d.In W → (Calls Try.prog 13 #[d.val] W fun e w' => e = .returned (.tuple #[.int .u64 m, .int .i64 err]) ∧ Keep NoF W w') ∧ (Calls Try.prog 14 #[d.val] W fun e w' => e = .returned (.tuple #[.int .u64 m, .int .i64 err]) ∧ Keep NoF W w') := by
  by_cases h : setE d = 0
  · obtain ⟨v, hv, hv2, he⟩ := relE_zero (setE_zero h).1
    have hev := relE_even (setE_zero h).1
    obtain ⟨k, hk⟩ : ∃ k, v = 2 * k := ⟨v / 2, by omega⟩
    exact ⟨_, 0, fun W hW => ⟨Members_any d W hW h k (by omega) (by rw [hv, hk]), rMembers_any d W hW h k (by omega) (by rw [hv, hk])⟩⟩
  · exact ⟨0, setE d, fun W hW => ⟨Members_bad d W hW h, rMembers_bad d W hW h⟩⟩
theorem pairs_both (d : Dg) (hf : d.V ≤ 10 ∨ 24 < d.V) : ∃ (l : List Nat) (err : Int), l.length ≤ 64 ∧ ∀ W, d.In W → Calls Try.prog 15 #[d.val] W (ListPost W l err) ∧ Calls Try.prog 16 #[d.val] W (ListPost W l err) := by
  by_cases h : relE d = 0
  · obtain ⟨v, hv, hv2, he⟩ := relE_zero h
    have hev := relE_even h
    obtain ⟨k, hk⟩ : ∃ k, v = 2 * k := ⟨v / 2, by omega⟩
    have hk5 : k ≤ 6 := by omega
    refine ⟨_, 0, ?_, fun W hW => ⟨Pairs_any d W hW h k (by omega) (by rw [hv, hk]), rPairs_any d W hW h k (by omega) (by rw [hv, hk])⟩⟩
    unfold Dd.pairsN
    rw [List.length_map, List.length_range]
    exact (pow_k hk5).2
  · exact ⟨[], relE d, by simp, fun W hW => ⟨(Pairs_bad d W hW h).mono fun e w' ⟨h1, h2⟩ => ⟨none, 0, h1, Rd.nil _ _, h2⟩, (rPairs_bad d W hW h).mono fun e w' ⟨h1, h2⟩ => ⟨none, 0, h1, Rd.nil _ _, h2⟩⟩⟩
section
set_option maxRecDepth 100000
set_option maxHeartbeats 4000000
theorem walk_SymsetLists (d : Dg) (w : World) (hd : d.Has w) : Calls Try.prog 4 #[d.val] w fun e w' => e = .returned (.bool true) ∧ Keep NoF w w' := by
  have hfew := fun W (hk : Keep NoF w W) => Few12_any d W ⟨hd.1.kept hk fun _ _ h => h, hd.2⟩
  have hmb := mem_both d
  have hpb := pairs_both d
  have hin : few12 d = true → ∀ W, Keep NoF w W → d.In W := fun h W hk => ⟨hd.1.kept hk fun _ _ h => h, by
    unfold few12 at h
    rw [Bool.and_eq_true] at h
    have := of_decide_eq_true h.1
    omega⟩
  have hvv : few12 d = true → d.V ≤ 10 ∨ 24 < d.V := fun h => by
    unfold few12 at h
    rw [Bool.and_eq_true, Bool.or_eq_true] at h
    simpa using h.2
  have hd1 := hd.1
  generalize few12 d = few at *
  cases few with
  | false =>
    clear hin hvv hmb hpb
    obtain ⟨V, R, root, sl⟩ := d
    simp only at hd1
    obtain ⟨_, A, c, rfl, _, _⟩ := hd1
    have HF : Hid (∀ W, Keep NoF w W → Calls Try.prog 12 #[.agg #[.int .i64 V, .slice A R.length c, .int .i64 root]] W fun e w' => e = .returned (.bool false) ∧ Keep NoF W w') := Lib.hid hfew
    have hk0 : Keep NoF w (w.alloc (.cells #[.int .i64 V, .slice A R.length c, .int .i64 root] 27)) := (Keep.refl _ _).alloc _
    show Calls Try.prog 4 #[.agg #[.int .i64 V, .slice A R.length c, .int .i64 root]] w _
    clear hfew hd
    go_enter Try.func4, Try.ntmps4
    go_wp2_with (first
      | (go_at_call 12; (with_reducible refine (HF.out _ hk0).mono ?_); rintro e w1 ⟨rfl, K1⟩)
      | (go_at_call 6; (with_reducible refine (awake_any _).mono ?_); rintro e w2 ⟨rfl, K2⟩))
    go_ret
    exact ⟨rfl, (hk0.trans K1 fun _ _ h => h).trans K2 fun _ _ h => h⟩
  | true =>
    obtain ⟨m, me, hm⟩ := hmb (hvv rfl)
    obtain ⟨l, le, hll, hl⟩ := hpb (hvv rfl)
    have hin2 := hin rfl
    have hm1 := fun W hk => (hm W (hin2 W hk)).1
    have hm2 := fun W hk => (hm W (hin2 W hk)).2
    have hl1 := fun W hk => (hl W (hin2 W hk)).1
    have hl2 := fun W hk => (hl W (hin2 W hk)).2
    clear hin hvv hmb hpb hm hl hin2
    obtain ⟨V, R, root, sl⟩ := d
    simp only at hd1
    obtain ⟨_, A, c, rfl, _, _⟩ := hd1
    have HF : Hid (∀ W, Keep NoF w W → Calls Try.prog 12 #[.agg #[.int .i64 V, .slice A R.length c, .int .i64 root]] W fun e w' => e = .returned (.bool true) ∧ Keep NoF W w') := Lib.hid hfew
    have HM1 : Hid (∀ W, Keep NoF w W → Calls Try.prog 13 #[.agg #[.int .i64 V, .slice A R.length c, .int .i64 root]] W fun e w' => e = .returned (.tuple #[.int .u64 m, .int .i64 me]) ∧ Keep NoF W w') := Lib.hid hm1
    have HM2 : Hid (∀ W, Keep NoF w W → Calls Try.prog 14 #[.agg #[.int .i64 V, .slice A R.length c, .int .i64 root]] W fun e w' => e = .returned (.tuple #[.int .u64 m, .int .i64 me]) ∧ Keep NoF W w') := Lib.hid hm2
    have HL1 : Hid (∀ W, Keep NoF w W → Calls Try.prog 15 #[.agg #[.int .i64 V, .slice A R.length c, .int .i64 root]] W (ListPost W l le)) := Lib.hid hl1
    have HL2 : Hid (∀ W, Keep NoF w W → Calls Try.prog 16 #[.agg #[.int .i64 V, .slice A R.length c, .int .i64 root]] W (ListPost W l le)) := Lib.hid hl2
    have hk0 : Keep NoF w (w.alloc (.cells #[.int .i64 V, .slice A R.length c, .int .i64 root] 27)) := (Keep.refl _ _).alloc _
    have hb0 := Bk.new w 27 #[.int .i64 V, .slice A R.length c, .int .i64 root]
    have e1 : ((m : Int) == (m : Int)) = true := by simp
    have e2 : (me == me) = true := by simp
    have e3 : (le == le) = true := by simp
    have HB := Lib.hid fun W (hk : Keep NoF (w.alloc (.cells #[.int .i64 V, .slice A R.length c, .int .i64 root] 27)) W) => (⟨(hb0.keep hk fun h => h).cell 0, (hb0.keep hk fun h => h).cell 1, (hb0.keep hk fun h => h).cell 2⟩ : W.cell? ⟨w.heap.size, 0, none⟩ = some (.int .i64 V) ∧ W.cell? ⟨w.heap.size, 1, none⟩ = some (.slice A R.length c) ∧ W.cell? ⟨w.heap.size, 2, none⟩ = some (.int .i64 root))
    have X0 : Hid (Keep NoF (w.alloc (.cells #[.int .i64 V, .slice A R.length c, .int .i64 root] 27)) (w.alloc (.cells #[.int .i64 V, .slice A R.length c, .int .i64 root] 27))) := Lib.hid (Keep.refl _ _)
    show Calls Try.prog 4 #[.agg #[.int .i64 V, .slice A R.length c, .int .i64 root]] w _
    clear hfew hd hm1 hm2 hl1 hl2 hb0
    go_enter Try.func4, Try.ntmps4
    go_wp2_with (first
      | (go_at_call 12
         (with_reducible refine (HF.out _ (hk0.trans X0.out fun _ _ h => h)).mono ?_)
         rintro e wq1 ⟨rfl, hq⟩
         have X1 := Lib.hid (X0.out.trans hq fun _ _ h => h)
         obtain ⟨u0, u1, u2⟩ := HB.out _ X1.out
         clear hq)
      | (go_at_call 13
         (with_reducible refine (HM1.out _ (hk0.trans X1.out fun _ _ h => h)).mono ?_)
         rintro e wq2 ⟨rfl, hq⟩
         have X2 := Lib.hid (X1.out.trans hq fun _ _ h => h)
         obtain ⟨u0, u1, u2⟩ := HB.out _ X2.out
         clear hq)
      | (go_at_call 14
         (with_reducible refine (HM2.out _ (hk0.trans X2.out fun _ _ h => h)).mono ?_)
         rintro e wq3 ⟨rfl, hq⟩
         have X3 := Lib.hid (X2.out.trans hq fun _ _ h => h)
         obtain ⟨u0, u1, u2⟩ := HB.out _ X3.out
         clear hq)
      | (go_at_call 15
         (with_reducible refine (HL1.out _ (hk0.trans X3.out fun _ _ h => h)).mono ?_)
         rintro e wq4 ⟨A1, c1, rfl, R1, hq⟩
         have X4 := Lib.hid (X3.out.trans hq fun _ _ h => h)
         obtain ⟨u0, u1, u2⟩ := HB.out _ X4.out
         have HR1 := Lib.hid R1
         clear R1
         clear hq)
      | (go_at_call 16
         (with_reducible refine (HL2.out _ (hk0.trans X4.out fun _ _ h => h)).mono ?_)
         rintro e wq5 ⟨A2, c2, rfl, R2, hq⟩
         have X5 := Lib.hid (X4.out.trans hq fun _ _ h => h)
         obtain ⟨u0, u1, u2⟩ := HB.out _ X5.out
         have HR2 := Lib.hid R2
         have HR1b := Lib.hid (HR1.out.kept hq fun _ _ h => h)
         clear R2
         clear hq)
      | (go_at_call 17
         (with_reducible refine (Same2_any l A1 A2 c1 c2 _ (by omega) HR1b.out HR2.out).mono ?_)
         rintro e wq6 ⟨rfl, hq⟩
         have X6 := Lib.hid (X5.out.trans hq fun _ _ h => h)
         obtain ⟨u0, u1, u2⟩ := HB.out _ X6.out
         clear hq)
      | (go_at_call 6
         (with_reducible refine (awake_any _).mono ?_)
         rintro e wq7 ⟨rfl, hq⟩
         have X7 := Lib.hid (X6.out.trans hq fun _ _ h => h)
         obtain ⟨u0, u1, u2⟩ := HB.out _ X7.out
         clear hq))
    go_ret
    exact ⟨rfl, hk0.trans X7.out fun _ _ h => h⟩
end
end Go.Proofs.Ytgdmcidcappkpaa
